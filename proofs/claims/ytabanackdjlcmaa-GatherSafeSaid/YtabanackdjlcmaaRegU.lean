/-
  A region that draws its order, whose last stores write what it loads: what is taken first until a store has come up. No program in sight.
-/
import Derived.Deep.RegionHeld3
namespace Go.Proofs.Ytabanackdjlcmaa
open Go

section
variable {P : Program} {ops : Array Oper} {Q : Exit → Act → World → Prop} {md : Region.Mode} {S0 S1 : World → Prop} {st : Nat}

/-- Behind each operation S0 holds, and S1 as long as number 'st' has not come up. -/
def wpAnyU (P : Program) (md : Region.Mode) (ops : Array Oper) (Q : Exit → Act → World → Prop) (S0 S1 : World → Prop) (st : Nat) : Nat → Array Bool → Act → World → Prop
  | 0, listed, a, w => Region.ready md ops listed = [] ∧ Q .normal a w
  | fuel + 1, listed, a, w =>
    (Region.ready md ops listed = [] → Q .normal a w) ∧
    ∀ i ∈ Region.ready md ops listed, wpOp P ops Q i (fun a' w' => (S0 w' ∧ ((listed.setIfInBounds i true).getD st false = false → S1 w')) ∧ wpAnyU P md ops Q S0 S1 st fuel (listed.setIfInBounds i true) a' w') a w

theorem wpAny_of_U : ∀ (fuel : Nat) (listed : Array Bool) (a : Act) (w : World), wpAnyU P md ops Q S0 S1 st fuel listed a w → wpAny P md ops Q fuel listed a w
  | 0, _, _, _, h => h
  | fuel + 1, _, _, _, h => ⟨h.1, fun i hi => wpOp_mono (fun a' w' h' => wpAny_of_U fuel _ a' w' h'.2) (h.2 i hi)⟩

/-- Does number 'st' wait for number 'i', straight? -/
def waits (md : Region.Mode) (ops : Array Oper) (st i : Nat) : Bool := ((ops[st]?).map fun o => o.after.any fun e => Region.binds md e && e.on == i).getD false

theorem waits_not {i j : Nat} {listed : Array Bool} (hw : waits md ops st i = true) (hj : j ∈ Region.ready md ops listed) (hi : listed.getD i true = false) : j ≠ st := by
  rintro rfl
  obtain ⟨_, o, ho, hall⟩ := mem_ready.1 hj
  unfold waits at hw
  rw [ho] at hw
  simp only [Option.map_some, Option.getD_some, Array.any_eq_true, Bool.and_eq_true, beq_iff_eq] at hw
  obtain ⟨k, hk, hb, hon⟩ := hw
  have h1 := hall _ (Array.getElem_mem hk) hb
  rw [hon] at h1
  rcases Nat.lt_or_ge i listed.size with h' | h'
  · simp [h'] at hi h1; rw [hi] at h1; cases h1
  · simp [Array.getElem?_eq_none h'] at h1

theorem wpAnyU_first {i : Nat} {oi : Oper} {v : Value} (e : Bool) (hi : ops[i]? = some oi) (hsel : ∀ (j : Nat) (o : Oper) cs b, ops[j]? = some o → o.op ≠ .select cs b)
    (hQ : ∀ c a w, Q (.panic c) (a.put oi.dst v) w → Q (.panic c) a w) (he : e = true → waits md ops st i = true) (his : i ≠ st) :
    ∀ (fuel : Nat) (listed : Array Bool) (a : Act) (w : World),
      (∀ j oj, ops[j]? = some oj → j ≠ i → listed.getD j true = false → (∀ e ∈ oj.after, Region.binds md e = true → e.on ≠ i) → oi.apart ops oj = true) →
      i ∈ Region.ready md ops listed → (e = true → listed.getD st false = false) → YieldsIf P ops (fun w => S0 w ∧ (e = true → S1 w)) oi v a → (S0 w ∧ (listed.getD st false = false → S1 w)) →
      wpAnyU P md ops Q S0 S1 st fuel (listed.setIfInBounds i true) (a.put oi.dst v) w → wpAnyU P md ops Q S0 S1 st (fuel + 1) listed a w := by
  have hne : ∀ l : Array Bool, (l.setIfInBounds i true).getD st false = l.getD st false := fun l => getD_set_ne false his
  intro fuel
  induction fuel with
  | zero =>
    intro listed a w _ hr hst hy hS H
    refine ⟨fun h => (by rw [h] at hr; cases hr), fun j hj => ?_⟩
    by_cases hji : j = i
    · subst hji; exact hy.wpOp hi ⟨hS.1, fun h => hS.2 (hst h)⟩ ⟨⟨hS.1, fun h => hS.2 (by rw [← hne]; exact h)⟩, H⟩
    · have := ready_mono hj hji
      rw [H.1] at this
      cases this
  | succ fuel ih =>
    intro listed a w hfree hr hst hy hS H
    refine ⟨fun h => (by rw [h] at hr; cases hr), fun j hj => ?_⟩
    by_cases hji : j = i
    · subst hji; exact hy.wpOp hi ⟨hS.1, fun h => hS.2 (hst h)⟩ ⟨⟨hS.1, fun h => hS.2 (by rw [← hne]; exact h)⟩, H⟩
    · have h1 := H.2 j (ready_mono hj hji)
      obtain ⟨hjun, oj, hoj, hall⟩ := mem_ready.1 hj
      have hi0 := (mem_ready.1 hr).1
      have hnot : ∀ e ∈ oj.after, Region.binds md e = true → e.on ≠ i := fun e he hb heq => by
        have h1 := hall e he hb
        have h0 := hi0
        rw [heq] at h1
        rcases Nat.lt_or_ge i listed.size with h' | h'
        · simp [h'] at h0 h1; rw [h0] at h1; cases h1
        · simp [Array.getElem?_eq_none h'] at h1
      have h2 := wpOp_putIf hoj (hfree j oj hoj hji hjun hnot) (fun cs b => hsel i oi cs b hi) (fun cs b => hsel j oj cs b hoj) hQ hy h1
      have hfree' : ∀ k ok, ops[k]? = some ok → k ≠ i → (listed.setIfInBounds j true).getD k true = false →
          (∀ e ∈ ok.after, Region.binds md e = true → e.on ≠ i) → oi.apart ops ok = true := fun k ok hk hki hun hno => by
        refine hfree k ok hk hki ?_ hno
        by_cases hjk : j = k
        · subst hjk; exact hjun
        · rw [getD_set_ne true hjk] at hun; exact hun
      have hst' : e = true → (listed.setIfInBounds j true).getD st false = false := fun h => by
        rw [getD_set_ne false (waits_not (he h) hj hi0)]; exact hst h
      have hs' : ∀ w' : World, (S0 w' ∧ (((listed.setIfInBounds i true).setIfInBounds j true).getD st false = false → S1 w')) → (S0 w' ∧ ((listed.setIfInBounds j true).getD st false = false → S1 w')) := fun w' h => by
        refine ⟨h.1, fun hh => h.2 ?_⟩
        rw [Array.setIfInBounds_comm _ _ (Ne.symm hji), hne]
        exact hh
      refine wpOp_mono (fun a' w' h3 => ⟨hs' w' h3.2.1, ih (listed.setIfInBounds j true) a' w' hfree' (ready_mono hr (Ne.symm hji)) hst' h3.1 (hs' w' h3.2.1) ?_⟩) h2
      rw [Array.setIfInBounds_comm _ _ hji]
      exact h3.2.2

/-- Take number 'i' first; e: its value hangs on what number 'st' may turn. -/
theorem wpAnyU_take {i : Nat} {oi : Oper} {v : Value} {fuel : Nat} {listed : Array Bool} {a : Act} {w : World} (e : Bool) (hi : ops[i]? = some oi)
    (hs : Region.noSelect ops = true) (hf : Region.free md ops listed i = true) (hr : (Region.ready md ops listed).contains i = true)
    (hQ : ∀ c a w, Q (.panic c) (a.put oi.dst v) w → Q (.panic c) a w) (he : (!e || (waits md ops st i && !(listed.getD st false))) = true) (his : (i != st) = true)
    (hy : YieldsIf P ops (fun w => S0 w ∧ (e = true → S1 w)) oi v a) (hS : S0 w ∧ (listed.getD st false = false → S1 w))
    (h : wpAnyU P md ops Q S0 S1 st fuel (listed.setIfInBounds i true) (a.put oi.dst v) w) : wpAnyU P md ops Q S0 S1 st (fuel + 1) listed a w :=
  wpAnyU_first e hi (Region.noSelect_spec hs) hQ (fun hh => by subst hh; simp at he; exact he.1) (by simpa using his) fuel listed a w (Region.free_spec hi hf) (by simpa using hr) (fun hh => by subst hh; simp at he; simpa using he.2) hy hS h

/-- Number 'i' alone may come up. -/
theorem wpAnyU_one {i : Nat} {o : Oper} {fuel : Nat} {listed : Array Bool} {a : Act} {w : World} (hr : Region.ready md ops listed = [i]) (ho : ops[i]? = some o)
    (h : ∀ K' : Act → World → Prop, Shut (∀ a w, (S0 w ∧ ((listed.setIfInBounds i true).getD st false = false → S1 w)) → wpAnyU P md ops Q S0 S1 st fuel (listed.setIfInBounds i true) a w → K' a w) → if Region.wanted o (yielded ops a.tmps) = true then Oper.wp P o a w K' Q else K' (a.put o.dst undef) w) :
    wpAnyU P md ops Q S0 S1 st (fuel + 1) listed a w :=
  ⟨fun h0 => (by rw [hr] at h0; cases h0), fun j hj => by
    rw [hr] at hj
    simp at hj
    subst hj
    exact wpOp_step ho (fun K' hK => h K' (fun a w hS hW => hK a w ⟨hS, hW⟩))⟩
/-- All have come up. -/
theorem wpAnyU_done {listed : Array Bool} {a : Act} {w : World} (hr : Region.ready md ops listed = []) (h : Q .normal a w) :
    ∀ fuel, wpAnyU P md ops Q S0 S1 st fuel listed a w
  | 0 => ⟨hr, h⟩
  | _ + 1 => ⟨fun _ => h, by rw [hr]; simp⟩
theorem wp_region_U {id : Nat} {a : Act} {w : World} (S0 S1 : World → Prop) (st : Nat) (hm : P.follows .mixedOrders = true)
    (h : wpAnyU P .any ops Q S0 S1 st ops.size (Array.replicate ops.size false) a w.drew) : (Code.region id ops true).wp P Q a w :=
  wp_region_any hm (wpAny_of_U _ _ _ _ h)
end
end Go.Proofs.Ytabanackdjlcmaa
