/-
  Package leader: a leader among other things of the call's own.
-/
import Derived.Test.YtjdjfhioobhcjaaLeaB
import Derived.Test.YtjdjfhioobhcjaaKeyU
import Derived.Test.YtjdjfhioobhcjaaLeaD
import Derived.Test.YtjdjfhioobhcjaaSepB
namespace Go.Proofs.Ytjdjfhioobhcjaa
open Go.RowKit Go.Shelf Go.Maps

attribute [local go_sem] Oper.semAt_some

theorem grownBy_alloc (w : World) (o : Obj) : w.grownBy (w.alloc o) none := by
  have hb := (Below.refl w.heap.size w).alloc (Nat.le_refl _) o
  exact ⟨hb.os, hb.tape, hb.output, hb.size, fun k hk _ => hb.block k hk⟩
set_option maxRecDepth 100000 in
set_option maxHeartbeats 1000000 in
theorem keysOn_in (F : Fence) (n : Nat) (hf : F.fn 93) (hro : F.round = none) (l Bm : Nat) (J : List Int → World → Prop)
    (W : World) (hJ : AbidesFrom W.heap.size J) (hm : W.cell? ⟨Bm, 0, none⟩ = some (.map none)) (h0 : J [] W) :
    CallsIn F n Try.prog 93 #[.func (.yield l) #[] #[], .pointer (some ⟨Bm, 0, none⟩)] W fun e W' => (∃ v, e = .returned v) ∧ J [] W' := by
  have hJ0 := hJ [] W (W.alloc (.mapIter none 0 #[] 0)) none h0 (grownBy_alloc W _) (fun r e => by cases e)
  have HJ := Lib.hid hJ0
  have hr := run_range_nilMap (P := Try.prog) W 114 _ _ Try.underlying114
  have hx := fun ty => run_next_nilMap (P := Try.prog) W ty 0 0 #[]
  clear hJ hJ0 h0
  refine callsIn_of_wp Try.func93 rfl hf ?_ hro
  simp only [Try.ntmps93, List.size_toArray, List.length_cons, List.length_nil, Nat.reduceAdd, Nat.reduceSub, Array.replicate_succ, Array.replicate_zero, List.push_toArray, List.append_toArray, List.nil_append, List.cons_append]
  gi_wp2
  gi_loopw [3] (fun _ wr => wr = W.alloc (.mapIter none 0 #[] 0)) (fun _ wr => 0)
  case atStart => rfl
  case round =>
    obtain rfl := hrel
    gi_wp2
    go_end0
    exact ⟨⟨_, rfl⟩, HJ.out⟩
theorem keysOn_stops (F : Fence) (n : Nat) (hf : F.fn 93) (hro : F.round = none) (Bm : Nat) (w : World) (hBm : Bm < w.heap.size) (hm : w.cell? ⟨Bm, 0, none⟩ = some (.map none)) :
    SeqStopsK F n Try.prog 93 #[.pointer (some ⟨Bm, 0, none⟩)] (fun x : Int => #[Value.int .u64 x]) KeepsWalks (AllKeys (fun _ => none)) (fun _ => True) 0 w := by
  intro l J Jx W hW hJ _ hY h0
  refine (keysOn_in F n hf hro l Bm J W hJ ((hW.cell (p := ⟨Bm, 0, none⟩) hBm).trans hm) h0).mono ?_
  rintro e W' ⟨h1, h2⟩
  exact ⟨h1, Or.inl ⟨[], ⟨List.nodup_nil, fun x => by simp⟩, h2⟩⟩
end Go.Proofs.Ytjdjfhioobhcjaa

namespace Go.Proofs.Ytjdjfhioobhcjaa
open Go.ChangeShapes Go.WideShapes Go.ChangeAt Go.RowKit Go.Maps Go.Shelf
set_option maxRecDepth 100000

set_option maxHeartbeats 1000000 in
theorem rising_nil (w : World) :
    Calls Try.prog 62 #[.map none, .func (.func 63) #[] #[]] w fun e w' => e = .returned (.slice none 0 0) ∧ Below w.heap.size w w' := by
  go_enter Try.func62, Try.ntmps62
  go_wp2_with fail
  refine (keysO_any none w).mono ?_
  rintro e w2 ⟨rfl, rfl⟩
  have hA := (Below.refl w.heap.size w).alloc (Nat.le_refl _) (.cells #[.map none] 114)
  have HA := Lib.hid hA
  have hseq := keysOn_stops Fence.wide 1 trivial rfl w.heap.size (w.alloc (.cells #[.map none] 114)) (by simp) (World.news_of_block (heap_alloc_new w _) 0 _ rfl)
  have HSo := Lib.hid (sortedU_any 93 #[.pointer (some ⟨w.heap.size, 0, none⟩)] (enters_of Try.func93 (by kernel_rfl) rfl) (AllKeys (fun _ => none)) 0 (by omega)
    (fun ss hs => by
      have : ss = [] := by
        cases ss with
        | nil => rfl
        | cons a r => have := (hs.2 a).1 (by simp); cases this
      subst this; decide) _ hseq)
  clear hA hseq
  go_wp2_with fail
  refine HSo.out.mono ?_
  rintro e w2 ⟨v, ss, rfl, hS, hown2, hb2⟩
  have hss : ss = [] := by
    cases ss with
    | nil => rfl
    | cons a r => have := (hS.2 a).1 (by simp); cases this
  subst hss
  obtain ⟨ko, kc, hve, _, _⟩ := own_form hown2
  simp only [List.length_nil] at hve
  subst hve
  have HB2 := Lib.hid (HA.out.trans (hb2.mono (by simp)))
  clear hown2 hb2 hS HSo
  go_wp2_with fail
  go_loopw [12, 5, 7] (fun i ov _ wr => i = .int .i64 0 ∧ ov = .slice none 0 0 ∧ Below w.heap.size w wr) (fun _ _ _ _ => 0)
  case atStart => exact ⟨rfl, rfl, HB2.out⟩
  case round =>
    obtain ⟨rfl, rfl, hb⟩ := hrel
    have HB := Lib.hid hb
    clear hb HB2
    go_wp2_with fail
    go_ret
    exact ⟨rfl, HB.out⟩
theorem lopen_nil {D : Nat → Prop} {w : World} {b0 N : Nat} {ko : Option Nat} {A : LS} (h : LeaR w D b0 ko none N A) :
    Calls Try.prog 45 #[.pointer (some ⟨b0, 0, none⟩)] w fun e w' => e = .returned (.slice none 0 0) ∧ Below w.heap.size w w' := by
  have HR := Lib.hid (rising_nil w)
  obtain ⟨⟨c0, c1, c2, c3, c4, c5, c6, c7⟩, _⟩ := h.cell
  clear h
  go_enter Try.func45, Try.ntmps45
  go_wp2_with fail
  refine HR.out.mono ?_
  rintro e w1 ⟨rfl, h2⟩
  have H2 := Lib.hid h2
  clear h2
  go_wp2_with fail
  go_ret
  exact ⟨rfl, H2.out⟩
end Go.Proofs.Ytjdjfhioobhcjaa

namespace Go.Proofs.Ytjdjfhioobhcjaa
open Go.ChangeShapes Go.WideShapes Go.ChangeAt Go.RowKit Go.Maps
set_option maxRecDepth 100000

def LeaO (p : Value) (D : Nat → Prop) (w : World) (N : Nat) (A : LS) : Prop := (∃ b0 ko lo n, p = .pointer (some ⟨b0, 0, none⟩) ∧ LeaR w D b0 ko lo n A ∧ n ≤ N) ∧ ∃ K : List Int, K.length ≤ N ∧ ∀ a, (A.op a).isSome = true → a ∈ K
theorem LeaO.keep {p : Value} {S D : Nat → Prop} {w w' : World} {N : Nat} {A : LS} (h : LeaO p D w N A) (hk : Keep S w w') (hS : ∀ k, S k → ¬ D k) : LeaO p D w' N A := by
  obtain ⟨⟨b0, ko, lo, n, h1, h2, h3⟩, h4⟩ := h
  exact ⟨⟨b0, ko, lo, n, h1, h2.keep hk hS, h3⟩, h4⟩
theorem LeaO.lt {p : Value} {D : Nat → Prop} {w : World} {N : Nat} {A : LS} (h : LeaO p D w N A) : ∀ k, D k → k < w.heap.size := by
  obtain ⟨⟨b0, ko, lo, n, h1, h2, h3⟩, h4⟩ := h
  exact h2.lt
def obLea (p : Value) (D : Nat → Prop) (N : Nat) (A : LS) : Ob := ⟨D, fun w => LeaO p D w N A⟩
theorem obLea_good (p : Value) (D : Nat → Prop) (N : Nat) (A : LS) : (obLea p D N A).Good := ⟨fun h hk hs => h.keep hk hs, fun h k hk => h.lt k hk⟩
section
variable {W w w' : World} {os : List Ob}
/-- A vote of a row of one's own, by its place. -/
theorem SepW.vtAt (h : SepW W w os) (i : Nat) {ao : Option Addr} {n c : Nat} {e : TypeId} {vs : List Value} {hs : List Vt} (hi : os[i]? = some (obVts (.slice ao n c) e vs hs)) (hne : hs ≠ []) : ∃ g, ao = some ⟨g, 0, none⟩ ∧ ∀ (j : Nat) s (o : Nat), hs[j]? = some s → o = j * 3 → ∃ so sc,
    w.cell? ⟨g, o, none⟩ = some (.int .u64 s.slot) ∧ w.cell? ⟨g, o + 1, none⟩ = some (.int .u64 s.ballot) ∧ w.cell? ⟨g, o + 2, none⟩ = some (.slice so s.val.length sc) ∧ SlR w (.slice so s.val.length sc) (u8s s.val) ∧ s.val.length ≤ sc ∧ sc ≤ 9223372036854775807 := by
  have hv : (obVts (.slice ao n c) e vs hs).inv w := h.get i hi
  have hown := hv.1
  rcases hown.2 with ⟨hn, h0⟩ | ⟨g, cap, cur, he, hb, hg, hnc, hcm, hcs, htake⟩
  · exact absurd (List.eq_nil_of_length_eq_zero h0) hne
  · cases he
    refine ⟨g, rfl, fun j s o hj ho => ?_⟩
    subst ho
    obtain ⟨h1, h2, sv, h3, h4⟩ := hv.2.1.2 j s hj
    obtain ⟨so, sc, rfl, k1, k2⟩ := h4.form
    simp only [List.length_map] at h3 h4 k1
    have e0 := hown.cells (g := g) rfl _ _ h1
    have e1 := hown.cells (g := g) rfl _ _ h2
    have e2 := hown.cells (g := g) rfl _ _ h3
    rw [add_zero_off] at e0 e1 e2
    exact ⟨so, sc, e0, e1, e2, h4, k1, k2⟩
variable {p : Value} {D : Nat → Prop} {N : Nat} {A : LS}
theorem SepW.leaNew (h : SepW W w os) {many : Int} (hm : 1 ≤ many ∧ many ≤ 32) : Calls Try.prog 29 #[.int .i64 many] w fun e w' => ∃ b0 D, e = .returned (.tuple #[.pointer (some ⟨b0, 0, none⟩), .int .i64 0]) ∧ SepW W w' (obLea (.pointer (some ⟨b0, 0, none⟩)) D 0 (newLS many) :: os) :=
  (lnew_ok hm w).mono fun e w' ⟨h1, h2, h3⟩ => ⟨w.heap.size, _, h1, h.new h3 (obLea_good ..) ⟨⟨_, none, none, 0, rfl, h2, Nat.le_refl _⟩, [], Nat.le_refl _, fun a ha => by cases ha⟩ (fun k hk => by rw [show k = w.heap.size from hk]; exact Nat.le_refl _)⟩
theorem SepW.leaBeginOld (h : SepW W w os) (i : Nat) (hi : os[i]? = some (obLea p D N A)) {b fr : Int} (hb : b ≤ A.ballot) : Calls Try.prog 31 #[p, .int .u64 b, .int .u64 fr] w fun e w' => e = .returned (.int .i64 32) ∧ w = w' := by
  obtain ⟨⟨b0, ko, lo, n, rfl, h2, h3⟩, h4⟩ := (h.get i hi : LeaO p D w N A)
  exact lbegin_old h2 hb
theorem SepW.leaBegin (h : SepW W w os) (i : Nat) (hi : os[i]? = some (obLea p D N A)) {b fr : Int} (hb : A.ballot < b) (ub : U1 b) (uf : U1 fr) : Calls Try.prog 31 #[p, .int .u64 b, .int .u64 fr] w fun e w' => e = .returned (.int .i64 0) ∧ ∃ D', SepW W w' (os.set i (obLea p D' 0 (beginL A b fr))) := by
  obtain ⟨⟨b0, ko, lo, n, rfl, h2, h3⟩, h4⟩ := (h.get i hi : LeaO p D w N A)
  exact (lbegin_ok h2 hb ub uf).mono fun e w' ⟨h1, D', bk, bl, g1, g2⟩ => ⟨h1, D', h.set i hi g2.keep (obLea_good ..) ⟨⟨_, _, _, 0, rfl, g1, Nat.le_refl _⟩, [], Nat.le_refl _, fun a ha => by cases ha⟩ g2.new⟩
theorem SepW.leaLeads (h : SepW W w os) (i : Nat) (hi : os[i]? = some (obLea p D N A)) : Calls Try.prog 43 #[p] w fun e w' => e = .returned (.bool (A.stage == 2)) ∧ w = w' := by
  obtain ⟨⟨b0, ko, lo, n, rfl, h2, h3⟩, h4⟩ := (h.get i hi : LeaO p D w N A)
  exact lleads_any h2
theorem SepW.leaBallot (h : SepW W w os) (i : Nat) (hi : os[i]? = some (obLea p D N A)) : Calls Try.prog 44 #[p] w fun e w' => e = .returned (.int .u64 A.ballot) ∧ w = w' := by
  obtain ⟨⟨b0, ko, lo, n, rfl, h2, h3⟩, h4⟩ := (h.get i hi : LeaO p D w N A)
  exact lballot_any h2
theorem SepW.leaStop (h : SepW W w os) (i : Nat) (hi : os[i]? = some (obLea p D N A)) : Calls Try.prog 41 #[p] w fun e w' => e = .returned (.tuple #[]) ∧ SepW W w' (os.set i (obLea p D N (stopL A))) := by
  obtain ⟨⟨b0, ko, lo, n, rfl, h2, h3⟩, h4⟩ := (h.get i hi : LeaO p D w N A)
  refine (lstop_any h2).mono fun e w' ⟨h1, g1, g2⟩ => ⟨h1, h.set i hi (g2.mono (fun k _ e => by subst e; exact h2.dr _ (Or.inl rfl))) (obLea_good ..) ⟨⟨_, _, _, n, rfl, g1, h3⟩, [], Nat.zero_le _, fun a ha => by cases ha⟩ (fun k hk => Or.inl hk)⟩
theorem SepW.leaProposeState (h : SepW W w os) (i : Nat) (hi : os[i]? = some (obLea p D N A)) {sv : Value} (hs : A.stage ≠ 2) : Calls Try.prog 36 #[p, sv] w fun e w' => e = .returned (.tuple #[.agg #[.int .u64 0, .int .u64 0, .slice none 0 0], .int .i64 33]) ∧ SepW W w' os := by
  obtain ⟨⟨b0, ko, lo, n, rfl, h2, h3⟩, h4⟩ := (h.get i hi : LeaO p D w N A)
  exact (lpropose_state h2 hs).mono fun e w' ⟨h1, g1⟩ => ⟨h1, h.step g1⟩
theorem SepW.leaProposeWorn (h : SepW W w os) (i : Nat) (hi : os[i]? = some (obLea p D N A)) {sv : Value} (hs : A.stage = 2) (hw : A.next = 18446744073709551615) : Calls Try.prog 36 #[p, sv] w fun e w' => e = .returned (.tuple #[.agg #[.int .u64 0, .int .u64 0, .slice none 0 0], .int .i64 37]) ∧ SepW W w' os := by
  obtain ⟨⟨b0, ko, lo, n, rfl, h2, h3⟩, h4⟩ := (h.get i hi : LeaO p D w N A)
  exact (lpropose_worn h2 hs hw).mono fun e w' ⟨h1, g1⟩ => ⟨h1, h.step g1⟩
theorem SepW.leaPropose (h : SepW W w os) (i : Nat) (hi : os[i]? = some (obLea p D N A)) {sv : Value} {xs : List Int} (hsl : SlR w sv (u8s xs)) (h8 : U8 xs) (hl : xs.length ≤ 1000000) (hs : A.stage = 2) (hw : A.next ≠ 18446744073709551615) (hN : N < 900000) : Calls Try.prog 36 #[p, sv] w fun e w' =>
    ∃ ao c D', e = .returned (.tuple #[.agg #[.int .u64 A.next, .int .u64 A.ballot, .slice ao xs.length c], .int .i64 0]) ∧ SepW W w' (obRow (.slice ao xs.length c) 5 1 xs.length (u8s xs) :: os.set i (obLea p D' (N + 1) (nextL (opP A ⟨A.next, A.ballot, xs⟩ (fun _ => false))))) := by
  obtain ⟨⟨b0, ko, lo, n, rfl, h2, h3⟩, K, h4, h5⟩ := (h.get i hi : LeaO p D w N A)
  have hlv := h2.live (by omega)
  obtain ⟨bl, rfl⟩ := Option.isSome_iff_exists.1 hlv.2
  refine (lpropose_ok h2 hsl h8 hl hs hw (by omega)).mono ?_
  rintro e w' ⟨ao, c, D', base, h1, g1, g2, g3, g4, g5⟩
  refine ⟨ao, c, D', h1, h.setRow i hi g5.keep (obLea_good ..) ⟨⟨_, _, _, n + 1, rfl, g4, by omega⟩, A.next :: K, by simp; omega, fun a ha => ?_⟩ g5.new g1 g2 g3⟩
  unfold nextL opP at ha
  simp only at ha
  by_cases e : a = A.next
  · rw [e]; simp
  · rw [if_neg e] at ha; exact List.mem_cons_of_mem _ (h5 a ha)
theorem SepW.leaPromNo (h : SepW W w os) (i : Nat) (hi : os[i]? = some (obLea p D N A)) {node b low : Int} {v : Value} (hno : ¬ (A.stage = 1 ∧ b = A.ballot ∧ 0 ≤ node ∧ node < A.many)) : Calls Try.prog 33 #[p, .int .i64 node, .int .u64 b, .int .u64 low, v] w fun e w' => e = .returned (.tuple #[.slice none 0 0, .bool false]) ∧ w = w' := by
  obtain ⟨⟨b0, ko, lo, n, rfl, h2, h3⟩, h4⟩ := (h.get i hi : LeaO p D w N A)
  exact lprom_no h2 hno
theorem SepW.leaPromTwice (h : SepW W w os) (i : Nat) (hi : os[i]? = some (obLea p D N A)) {n : Nat} {b low : Int} {v : Value} (hyes : A.stage = 1 ∧ b = A.ballot ∧ 0 ≤ (n : Int) ∧ (n : Int) < A.many) (hp : A.prom n = true) : Calls Try.prog 33 #[p, .int .i64 n, .int .u64 b, .int .u64 low, v] w fun e w' => e = .returned (.tuple #[.slice none 0 0, .bool false]) ∧ w = w' := by
  obtain ⟨⟨b0, ko, lo, n, rfl, h2, h3⟩, h4⟩ := (h.get i hi : LeaO p D w N A)
  exact lprom_twice h2 hyes hp
theorem leadP_keys {A : LS} {en : Int} {K : List Int} (hK : ∀ a, (A.op a).isSome = true → a ∈ K) (he : en - A.first ≤ 4097) (a : Int) (ha : (leadP A en a).isSome = true) : a ∈ K ++ (List.range 4097).map (fun (k : Nat) => A.first + (k : Int)) := by
  unfold leadP at ha
  by_cases hin : A.first ≤ a ∧ a < en
  · exact List.mem_append_right _ (List.mem_map.2 ⟨(a - A.first).toNat, List.mem_range.2 (by omega), by omega⟩)
  · rw [if_neg hin] at ha
    exact List.mem_append_left _ (hK a ha)
theorem IsEnd.near {A : LS} {en : Int} (h : IsEnd A en) (hf : ¬ farL A) : en - A.first ≤ 4096 := by
  rcases h.2.2 with hen | ⟨s, s1, s2, s3⟩
  · omega
  · by_cases h4 : 4096 ≤ s - A.first
    · exact absurd ⟨s, s1, s2, Or.inr h4⟩ hf
    · omega
/-- What a promise that is noted comes to, among other things. -/
def SepPm (W : World) (os : List Ob) (i : Nat) (p : Value) (N : Nat) (A : LS) (e : Ending) (w' : World) : Prop :=
  (¬ A.many / 2 < cnt 32 A.prom ∧ e = .returned (.tuple #[.slice none 0 0, .bool false]) ∧ ∃ D', SepW W w' (os.set i (obLea p D' N A))) ∨
  (A.many / 2 < cnt 32 A.prom ∧ farL A ∧ e = .returned (.tuple #[.slice none 0 0, .bool false]) ∧ ∃ D', SepW W w' (os.set i (obLea p D' N (stopL A)))) ∨
  (A.many / 2 < cnt 32 A.prom ∧ ¬ farL A ∧ ∃ en D' ks ao c vs, IsEnd A en ∧ IsOKeys (leadP A en) ks ∧ e = .returned (.tuple #[.slice ao (opL (leadP A en) ks).length c, .bool true]) ∧
    SepW W w' (obVts (.slice ao (opL (leadP A en) ks).length c) 39 vs (opL (leadP A en) ks) :: os.set i (obLea p D' (N + 4097) (leadL A en))))
theorem SepW.leaProm (h : SepW W w os) (i : Nat) (hi : os[i]? = some (obLea p D N A)) {n : Nat} {b low : Int} {v : Value} {hs : List Vt} (hyes : A.stage = 1 ∧ b = A.ballot ∧ 0 ≤ (n : Int) ∧ (n : Int) < A.many) (hp : A.prom n = false) (ul : U1 low)
    (hv : ∀ w', Keep D w w' → VtL w' v hs) (ho : VtsOk hs) (hN : N + hs.length < 800000) : Calls Try.prog 33 #[p, .int .i64 n, .int .u64 b, .int .u64 low, v] w (SepPm W os i p (N + hs.length) (promV A n low hs)) := by
  obtain ⟨⟨b0, ko, lo, m, rfl, h2, h3⟩, K, h4, h5⟩ := (h.get i hi : LeaO p D w N A)
  have hlv := h2.live (by omega)
  obtain ⟨bk, rfl⟩ := Option.isSome_iff_exists.1 hlv.1
  obtain ⟨bl, rfl⟩ := Option.isSome_iff_exists.1 hlv.2
  have hop := promV_op A n low hs
  refine (lprom_ok h2 hyes hp ul hv ho (by omega) (by omega) h5).mono ?_
  rintro e w' (⟨g1, rfl, D', g2, g3⟩ | ⟨g1, D1, w1, g2, g3, (⟨q1, rfl, q2, q3⟩ | ⟨en, D', w2, ks, ao, c, vs, q1, q2, q3, q4, q5, rfl, q6⟩)⟩)
  · exact Or.inl ⟨g1, rfl, D', h.set i hi g3.keep (obLea_good ..) ⟨⟨_, _, _, _, rfl, g2, by omega⟩, K, by omega, by rw [hop]; exact h5⟩ g3.new⟩
  · exact Or.inr (Or.inl ⟨g1, q1, rfl, D1, h.set i hi (g3.trans (Moved.of q3)).keep (obLea_good ..) ⟨⟨_, _, _, _, rfl, q2, by omega⟩, [], Nat.zero_le _, fun a ha => by cases ha⟩ (g3.trans (Moved.of q3)).new⟩)
  · have hm := g3.trans q4
    have hs2 := h.set i hi (o' := obLea (.pointer (some ⟨b0, 0, none⟩)) D' (N + hs.length + 4097) (leadL (promV A n low hs) en)) hm.keep (obLea_good ..) ⟨⟨_, _, _, _, rfl, q3, by omega⟩, K ++ (List.range 4097).map (fun (k : Nat) => (promV A n low hs).first + (k : Int)), by simp; omega, fun a ha => leadP_keys (by rw [hop]; exact h5) (by have := q2.near q1; omega) a ha⟩ hm.new
    have hvn : SepW w2 w' [obVts (.slice ao (opL (leadP (promV A n low hs) en) ks).length c) 39 vs (opL (leadP (promV A n low hs) en) ks)] := q6
    exact Or.inr (Or.inr ⟨g1, q1, en, D', ks, ao, c, vs, q2, q5, rfl, hs2.new hvn.below (obVts_good ..) (hvn.get 0 rfl) (fun k hk => hvn.sep.base _ (by simp) k hk)⟩)
theorem SepW.leaAccNo (h : SepW W w os) (i : Nat) (hi : os[i]? = some (obLea p D N A)) {node b s : Int} (hno : ¬ (A.stage = 2 ∧ b = A.ballot ∧ 0 ≤ node ∧ node < A.many)) : Calls Try.prog 39 #[p, .int .i64 node, .int .u64 b, .int .u64 s] w fun e w' => e = .returned (.tuple #[.agg #[.int .u64 0, .int .u64 0, .slice none 0 0], .bool false]) ∧ SepW W w' os := by
  obtain ⟨⟨b0, ko, lo, n, rfl, h2, h3⟩, h4⟩ := (h.get i hi : LeaO p D w N A)
  exact (lacc_no h2 hno).mono fun e w' ⟨h1, g1⟩ => ⟨h1, h.step g1⟩
theorem SepW.leaAccNone (h : SepW W w os) (i : Nat) (hi : os[i]? = some (obLea p D N A)) {node b s : Int} (hyes : A.stage = 2 ∧ b = A.ballot ∧ 0 ≤ node ∧ node < A.many) (us : U1 s) (hn : A.op s = none) : Calls Try.prog 39 #[p, .int .i64 node, .int .u64 b, .int .u64 s] w fun e w' => e = .returned (.tuple #[.agg #[.int .u64 0, .int .u64 0, .slice none 0 0], .bool false]) ∧ SepW W w' os := by
  obtain ⟨⟨b0, ko, lo, n, rfl, h2, h3⟩, h4⟩ := (h.get i hi : LeaO p D w N A)
  have hlv := h2.live (by omega)
  obtain ⟨bl, rfl⟩ := Option.isSome_iff_exists.1 hlv.2
  exact (lacc_none h2 hyes us hn).mono fun e w' ⟨h1, g1⟩ => ⟨h1, h.step g1⟩
/-- What a vote that is noted comes to, among other things. -/
def SepAc (W : World) (os : List Ob) (i : Nat) (p : Value) (N : Nat) (A : LS) (v : Vt) (g : Nat → Bool) (e : Ending) (w' : World) : Prop :=
  (A.many / 2 < cnt 32 g ∧ ∃ ao c D', e = .returned (.tuple #[.agg #[.int .u64 v.slot, .int .u64 v.ballot, .slice ao v.val.length c], .bool true]) ∧ SepW W w' (obRow (.slice ao v.val.length c) 5 1 v.val.length (u8s v.val) :: os.set i (obLea p D' (N + 1) (opD A v.slot)))) ∨
  (¬ A.many / 2 < cnt 32 g ∧ e = .returned (.tuple #[.agg #[.int .u64 0, .int .u64 0, .slice none 0 0], .bool false]) ∧ ∃ D', SepW W w' (os.set i (obLea p D' (N + 1) (opP A v g))))
theorem SepW.leaAcc (h : SepW W w os) (i : Nat) (hi : os[i]? = some (obLea p D N A)) {n : Nat} {b s : Int} (hyes : A.stage = 2 ∧ b = A.ballot ∧ 0 ≤ (n : Int) ∧ (n : Int) < A.many) (us : U1 s) {v : Vt} {g : Nat → Bool} (hs : A.op s = some (v, g)) (hN : N < 900000) : Calls Try.prog 39 #[p, .int .i64 n, .int .u64 b, .int .u64 s] w (SepAc W os i p N A v (addK g n)) := by
  obtain ⟨⟨b0, ko, lo, m, rfl, h2, h3⟩, K, h4, h5⟩ := (h.get i hi : LeaO p D w N A)
  have hlv := h2.live (by omega)
  obtain ⟨bl, rfl⟩ := Option.isSome_iff_exists.1 hlv.2
  have hvs : v.slot = s := (h2.op.small s (v, g) hs).2.1
  refine (lacc_ok h2 hyes us hs (by omega)).mono ?_
  rintro e w' ⟨g1, g2⟩
  by_cases hm : A.many / 2 < cnt 32 (addK g n)
  · obtain ⟨ao, c, D', base, q1, q2, q3, q4, q5, q6⟩ := g1 hm
    refine Or.inl ⟨hm, ao, c, D', q1, h.setRow i hi q6.keep (obLea_good ..) ⟨⟨_, _, _, m + 1, rfl, q5, by omega⟩, K, by omega, fun a ha => ?_⟩ q6.new q2 q3 q4⟩
    unfold opD at ha
    simp only at ha
    by_cases e : a = v.slot
    · rw [if_pos e] at ha; cases ha
    · rw [if_neg e] at ha; exact h5 a ha
  · obtain ⟨q1, D', q2, q3⟩ := g2 hm
    refine Or.inr ⟨hm, q1, D', h.set i hi q3.keep (obLea_good ..) ⟨⟨_, _, _, m + 1, rfl, q2, by omega⟩, K, by omega, fun a ha => ?_⟩ q3.new⟩
    unfold opP at ha
    simp only at ha
    by_cases e : a = v.slot
    · rw [e, hvs]; exact h5 s (by rw [hs]; rfl)
    · rw [if_neg e] at ha; exact h5 a ha
theorem SepW.leaOpen (h : SepW W w os) (i : Nat) (hi : os[i]? = some (obLea p D N A)) (hN : N < 900000) : Calls Try.prog 45 #[p] w fun e w' =>
    ∃ ks ao c vs, IsOKeys A.op ks ∧ e = .returned (.slice ao (opL A.op ks).length c) ∧ SepW W w' (obVts (.slice ao (opL A.op ks).length c) 39 vs (opL A.op ks) :: os) := by
  obtain ⟨⟨b0, ko, lo, n, rfl, h2, h3⟩, K, h4, h5⟩ := (h.get i hi : LeaO p D w N A)
  cases lo with
  | none =>
    refine (lopen_nil h2).mono ?_
    rintro e w' ⟨rfl, hb⟩
    refine ⟨[], none, 0, [], ⟨List.Pairwise.nil, fun x => ?_⟩, rfl, h.new hb (obVts_good ..) ⟨World.ownsRow_nil _ _ _ _, VtC.nil _, by intro u hu; cases hu⟩ (fun k hk => ?_)⟩
    · rw [h2.op.none_ rfl x]; simp
    · rcases hk with hk | ⟨u, hu, _⟩
      · cases hk
      · cases hu
  | some bl =>
    refine (lopen_any h2 (by omega) (by omega) h5).mono ?_
    rintro e w' ⟨ks, ao, c, vs, q1, rfl, q2⟩
    exact ⟨ks, ao, c, vs, q1, rfl, h.new q2.below (obVts_good ..) (q2.get 0 rfl) (fun k hk => q2.sep.base _ (by simp) k hk)⟩
end
end Go.Proofs.Ytjdjfhioobhcjaa
