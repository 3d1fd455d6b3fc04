/-
  The keys of a nil map of proposals: none.
-/
import Derived.Test.YtjdjfhioobhcjaaKeyO
import Derived.Test.YtjdjfhioobhcjaaKeyU
namespace Go.Proofs.Ytjdjfhioobhcjaa
open Go.RowKit Go.Shelf Go.Maps

attribute [local go_sem] Oper.semAt_some

theorem grownBy_alloc (w : World) (o : Obj) : w.grownBy (w.alloc o) none := by
  have hb := (Below.refl w.heap.size w).alloc (Nat.le_refl _) o
  exact ⟨hb.os, hb.tape, hb.output, hb.size, fun k hk _ => hb.block k hk⟩
set_option maxRecDepth 100000 in
set_option maxHeartbeats 1000000 in
theorem keysOn_in (F : Fence) (n : Nat) (hf : F.fn 93) (hro : F.round = none) (l Bm : Nat) (J : List Int → World → Prop)
    (W : World) (hJ : AbidesFrom W.heap.size J) (hm : W.cell? ⟨Bm, 0, none⟩ = some (.map none)) (h0 : J [] W) :
    CallsIn F n Try.prog 93 #[.func (.yield l) #[] #[], .pointer (some ⟨Bm, 0, none⟩)] W fun e W' => (∃ v, e = .returned v) ∧ J [] W' := by
  have hJ0 := hJ [] W (W.alloc (.mapIter none 0 #[] 0)) none h0 (grownBy_alloc W _) (fun r e => by cases e)
  have HJ := Lib.hid hJ0
  have hr := run_range_nilMap (P := Try.prog) W 114 _ _ Try.underlying114
  have hx := fun ty => run_next_nilMap (P := Try.prog) W ty 0 0 #[]
  clear hJ hJ0 h0
  refine callsIn_of_wp Try.func93 rfl hf ?_ hro
  simp only [Try.ntmps93, List.size_toArray, List.length_cons, List.length_nil, Nat.reduceAdd, Nat.reduceSub, Array.replicate_succ, Array.replicate_zero, List.push_toArray, List.append_toArray, List.nil_append, List.cons_append]
  gi_wp2
  gi_loopw [3] (fun _ wr => wr = W.alloc (.mapIter none 0 #[] 0)) (fun _ wr => 0)
  case atStart => rfl
  case round =>
    obtain rfl := hrel
    gi_wp2
    go_end0
    exact ⟨⟨_, rfl⟩, HJ.out⟩
theorem keysOn_stops (F : Fence) (n : Nat) (hf : F.fn 93) (hro : F.round = none) (Bm : Nat) (w : World) (hBm : Bm < w.heap.size) (hm : w.cell? ⟨Bm, 0, none⟩ = some (.map none)) :
    SeqStopsK F n Try.prog 93 #[.pointer (some ⟨Bm, 0, none⟩)] (fun x : Int => #[Value.int .u64 x]) KeepsWalks (AllKeys (fun _ => none)) (fun _ => True) 0 w := by
  intro l J Jx W hW hJ _ hY h0
  refine (keysOn_in F n hf hro l Bm J W hJ ((hW.cell (p := ⟨Bm, 0, none⟩) hBm).trans hm) h0).mono ?_
  rintro e W' ⟨h1, h2⟩
  exact ⟨h1, Or.inl ⟨[], ⟨List.nodup_nil, fun x => by simp⟩, h2⟩⟩
end Go.Proofs.Ytjdjfhioobhcjaa
