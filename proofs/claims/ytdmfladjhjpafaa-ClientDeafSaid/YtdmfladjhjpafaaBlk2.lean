/-
  Append of one element of many cells; things that lie off a turn. No program in sight.
-/
import Derived.Test.YtdmfladjhjpafaaBlk
import Derived.Test.YtdmfladjhjpafaaSepA
import Derived.Deep.AppendLies
namespace Go.Proofs.Ytdmfladjhjpafaa
open Go.ChangeShapes Go.WideShapes Go.ChangeAt Go.RowKit Go.Maps

/-- 'append(out, u)': one element of many cells, laid in a new block. -/
theorem wpList_appL {P : Program} {w : World} {ops : Array Oper} {rest : List Oper} {o : Oper} {a : Act} {Q : Exit → Act → World → Prop} (hgd : o.guard = none) (s x : Operand) (t : TypeId)
    (ho : o.op = .call { callee := .builtin .append, args := #[s, x], argTypes := #[t, t] })
    (base : Nat) (e : TypeId) (i : TypeInfo) (z : Value) (size bytes : Nat) (ht : P.underlying t = some (.slice e)) (hi : P.info? e = some i) (hz : i.zero = some z)
    (hsize : i.size = size) (hby : i.bytes = bytes) (hzs : z.cells.size = size) (hsz : 0 < size) (hb64 : bytes ≤ 1024)
    {v : Value} {n : Nat} {xs : List Value} {us : Array Value} {c B : Nat} {e' : TypeId} {fr : Nat × Nat} (hs : a.eval s = v) (hx : a.eval x = .slice (some ⟨B, 0, none⟩) 1 c) (hB : w.heap.size = B) (hm : us.toList.length = size) (hown : w.ownsRow base e size v n xs) (hu : ∀ u ∈ us.toList, u.oneCell' = true)
    (hlen : n ≤ 1000000000) (hbase : base ≤ w.heap.size)
    (h : ∀ g cap w', w'.ownsRow base e size (.slice (some ⟨g, 0, none⟩) (n + 1) cap) (n + 1) (xs ++ us.toList) → (w.alloc (.cells us e' fr)).grownBy w' v.ownBlock → (v.ownBlock = some g ∨ g = w.heap.size + 1) →
      wpList P ops Q rest (a.put o.dst (.slice (some ⟨g, 0, none⟩) (n + 1) cap)) w') : wpList P ops Q (o :: rest) a (w.alloc (.cells us e' fr)) := by
  subst hB
  refine wpList_append_lies _ hgd s x t ho base e i z size bytes ht hi hz hsize hby hzs hsz v n xs hs (hown.alloc _) ⟨w.heap.size, 0, none⟩ 1 c us.toList hx (by omega) (World.news_of_block (heap_alloc_new w _)) hu (by decide) (by unfold maxLen; omega)
    (by have := Nat.mul_le_mul_left (n + 1) hb64; omega) (by simp; omega) _ rfl ?_
  intro g cap w' h1 h2 h3 _
  exact h g cap w' h1 h2 (by simpa using h3)
theorem Sep.keepD {B : Nat} {S : Nat → Prop} {w w' : World} {os : List Ob} (h : Sep B w os) (hk : Keep S w w') (ho : ∀ k, S k → k < B) : Sep B w' os :=
  ⟨h.good, fun o hm => (h.good o hm).keep (h.inv o hm) hk (fun k hs hf => by have := ho k hs; have := h.base o hm k hf; omega), h.base, h.apart, Nat.le_trans h.size hk.size⟩
end Go.Proofs.Ytdmfladjhjpafaa
