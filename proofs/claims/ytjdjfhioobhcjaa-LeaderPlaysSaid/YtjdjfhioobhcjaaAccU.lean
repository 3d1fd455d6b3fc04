/-
  The document's acceptor among other things of the call's own.
-/
import Derived.Test.YtjdjfhioobhcjaaAccY
import Derived.Test.YtjdjfhioobhcjaaSepB
namespace Go.Proofs.Ytjdjfhioobhcjaa
open Go.ChangeShapes Go.WideShapes Go.ChangeAt Go.RowKit Go.Maps Go.Shelf
set_option maxRecDepth 100000
set_option linter.unusedVariables false
set_option linter.unusedSimpArgs false

/-- A row of votes with texts. -/
def obRef (lv : Value) (L : List Vt) : Ob := obRow lv 56 3 L.length (rfC L)
theorem obRef_good (lv : Value) (L : List Vt) : (obRef lv L).Good := obRow_good ..
section
variable {W w w' : World} {os : List Ob}
theorem SepW.accMono {p : Value} {D : Nat → Prop} {N M : Nat} {A : AS} (h : SepW W w os) (i : Nat) (hi : os[i]? = some (obAcc p D N A)) (hm : N ≤ M) : SepW W w (os.set i (obAcc p D M A)) :=
  h.set i hi (Keep.refl _ _) (obAcc_good ..) ((h.get i hi : AccO p D w N A).mono hm) (fun k hk => Or.inl hk)
theorem SepW.refL (h : SepW W w os) (i : Nat) {lv : Value} {L : List Vt} (hi : os[i]? = some (obRef lv L)) : RfL w lv L := RfL.of_own (h.get i hi : w.ownsRow 0 56 3 lv L.length (rfC L))
theorem SepW.newRef (h : SepW W w os) {lv : Value} {L : List Vt} (ho : w'.ownsRow w.heap.size 56 3 lv L.length (rfC L)) (hb : Below w.heap.size w w') : SepW W w' (obRef lv L :: os) :=
  h.new hb (obRef_good lv L) (ho.weaken (Nat.zero_le _)) (fun k hk => (ho.lt k hk).1)
theorem SepW.setRef (h : SepW W w os) (i : Nat) {o : Ob} (hi : os[i]? = some o) {lv : Value} {L : List Vt} (ho : w'.ownsRow w.heap.size 56 3 lv L.length (rfC L)) (hb : Below w.heap.size w w') : SepW W w' (os.set i (obRef lv L)) :=
  h.set i hi (Below.keep0 _ hb) (obRef_good lv L) (ho.weaken (Nat.zero_le _)) (fun k hk => Or.inr (ho.lt k hk).1)
theorem SepW.votes (h : SepW W w os) (i : Nat) {v : Value} {e : TypeId} {vs : List Value} {hs : List Vt} (hi : os[i]? = some (obVts v e vs hs)) (hl : hs.length ≤ 1000000) :
    Calls Try.prog 24 #[v] w fun e w' => ∃ ao c, e = .returned (.slice ao hs.length c) ∧ SepW W w' (obRef (.slice ao hs.length c) hs :: os) :=
  (votes_any (h.vtL i hi) hl).mono fun e w' ⟨ao, c, h1, h2, h3⟩ => ⟨ao, c, h1, h.newRef h2 h3⟩
theorem SepW.votesNil (h : SepW W w os) : Calls Try.prog 24 #[.slice none 0 0] w fun e w' => ∃ ao c, e = .returned (.slice ao 0 c) ∧ SepW W w' (obRef (.slice ao 0 c) [] :: os) :=
  (votes_any (VtL.nil w) (by decide)).mono fun e w' ⟨ao, c, h1, h2, h3⟩ => ⟨ao, c, h1, h.newRef h2 h3⟩
variable {A : AS} {L : List Vt} {ao : Option Addr} {c : Nat}
theorem SepW.rprepOld (h : SepW W w os) (i : Nat) {lv : Value} (hi : os[i]? = some (obRef lv L)) {p lo b fr : Int} (hb : b < p) :
    Calls Try.prog 22 #[rA p lo lv, .int .u64 b, .int .u64 fr] w fun e w' => e = .returned (.tuple #[rA p lo lv, .slice none 0 0, .int .i64 32]) ∧ SepW W w' os :=
  (rprep_old hb (h.refL i hi)).mono fun e w' ⟨h1, h2⟩ => ⟨h1, h.step h2⟩
theorem SepW.rprepOk (h : SepW W w os) (i : Nat) {lv : Value} (hi : os[i]? = some (obRef lv L)) {p lo b fr : Int} (hb : p ≤ b) (hl : L.length ≤ 1000000) :
    Calls Try.prog 22 #[rA p lo lv, .int .u64 b, .int .u64 fr] w fun e w' => ∃ ao c, e = .returned (.tuple #[rA b lo lv, .slice ao (L.filter (fun v => decide (fr ≤ v.slot))).length c, .int .i64 0]) ∧ SepW W w' (obRef (.slice ao (L.filter (fun v => decide (fr ≤ v.slot))).length c) (L.filter (fun v => decide (fr ≤ v.slot))) :: os) :=
  (rprep_ok hb (h.refL i hi) hl).mono fun e w' ⟨ao, c, h1, h2, h3⟩ => ⟨ao, c, h1, h.newRef h2 h3⟩
theorem SepW.raccept (h : SepW W w os) (i : Nat) (hi : os[i]? = some (obRef (.slice ao L.length c) L)) (hr : RefA A L) (x : Vt) (hl : L.length ≤ 1000000) :
    Calls Try.prog 25 #[rA A.promised A.low (.slice ao L.length c), .agg #[.int .u64 x.slot, .int .u64 x.ballot, .string (strB x.val)]] w fun e w' =>
      ∃ L' ao' c', e = .returned (.tuple #[rA (accR A x).promised (accR A x).low (.slice ao' L'.length c'), .int .i64 (accE A x)]) ∧ RefA (accR A x) L' ∧ L'.length ≤ L.length + 1 ∧ SepW W w' (os.set i (obRef (.slice ao' L'.length c') L')) := by
  have same : ∀ w', Below w.heap.size w w' → SepW W w' (os.set i (obRef (.slice ao L.length c) L)) := fun w' hb =>
    (h.step hb).set i hi (Keep.refl _ _) (obRef_good ..) ((h.step hb).get i hi) (fun k hk => Or.inl hk)
  unfold accR accE
  by_cases hb : x.ballot < A.promised
  · rw [if_pos hb, if_neg (by decide)]
    exact (racc_old hb (h.refL i hi)).mono fun e w' ⟨h1, h2⟩ => ⟨L, ao, c, h1, hr, by omega, same w' h2⟩
  · rw [if_neg hb]
    by_cases hlo : x.slot < A.low
    · rw [if_pos hlo, if_neg (by decide)]
      exact (racc_range (by omega) hlo (h.refL i hi)).mono fun e w' ⟨h1, h2⟩ => ⟨L, ao, c, h1, hr, by omega, same w' h2⟩
    · rw [if_neg hlo, if_pos rfl]
      exact (racc_ok (by omega) (by omega) (h.refL i hi) hl).mono fun e w' ⟨ao', c', h1, h2, h3⟩ => ⟨insF x L, ao', c', h1, hr.put x, by rw [insF_eq x hr.rise]; exact insR_len x L, h.setRef i hi h2 h3⟩
theorem SepW.rforget (h : SepW W w os) (i : Nat) (hi : os[i]? = some (obRef (.slice ao L.length c) L)) (hr : RefA A L) (s : Int) (hl : L.length ≤ 1000000) :
    Calls Try.prog 26 #[rA A.promised A.low (.slice ao L.length c), .int .u64 s] w fun e w' =>
      ∃ L' ao' c', e = .returned (rA (forgA A s).promised (forgA A s).low (.slice ao' L'.length c')) ∧ RefA (forgA A s) L' ∧ L'.length ≤ L.length ∧ SepW W w' (os.set i (obRef (.slice ao' L'.length c') L')) := by
  by_cases hs : s ≤ A.low
  · have e : forgA A s = A := by unfold forgA; rw [if_pos hs]
    rw [e]
    exact (rforget_old hs (h.refL i hi)).mono fun e w' ⟨h1, h2⟩ => ⟨L, ao, c, h1, hr, Nat.le_refl _, (h.step h2).set i hi (Keep.refl _ _) (obRef_good ..) ((h.step h2).get i hi) (fun k hk => Or.inl hk)⟩
  · have hf := hr.forg (show A.low < s by omega)
    have e1 : (forgA A s).promised = A.promised := by unfold forgA; rw [if_neg hs]
    have e2 : (forgA A s).low = s := by unfold forgA; rw [if_neg hs]
    rw [e1, e2]
    exact (rforget_ok (show A.low < s by omega) (h.refL i hi) hl).mono fun e w' ⟨ao', c', h1, h2, h3⟩ => ⟨_, ao', c', h1, hf, List.length_filter_le _ _, h.setRef i hi h2 h3⟩
theorem SepW.same (h : SepW W w os) (i j : Nat) {v v' : Value} {hs : List Vt} (hi : os[i]? = some (obRef v hs)) (hj : os[j]? = some (obRef v' hs)) : Calls Try.prog 23 #[v, v'] w fun e w' => e = .returned (.bool true) ∧ SepW W w' os :=
  (same_any (h.refL i hi) (h.refL j hj)).mono fun e w' ⟨h1, h2⟩ => ⟨h1, h.step h2.below⟩
end
end Go.Proofs.Ytjdjfhioobhcjaa
