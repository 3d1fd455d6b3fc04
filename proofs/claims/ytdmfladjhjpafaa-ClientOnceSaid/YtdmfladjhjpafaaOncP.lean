/-
  ClientOnce: what is asked, what is open, how many. No walk.
-/
import Derived.Test.YtdmfladjhjpafaaCliF
namespace Go.Proofs.Ytdmfladjhjpafaa
open Go.ChangeShapes Go.WideShapes Go.ChangeAt Go.RowKit Go.Maps
set_option maxRecDepth 1000000

def kdO (xs : List Int) (i : Nat) : Int := xs.getD i 0 % 5 + 1
theorem kdO_le (xs : List Int) (i : Nat) : 1 ≤ kdO xs i ∧ kdO xs i ≤ 5 := by unfold kdO; omega
def cxO (k : Int) : Cl := ⟨k, 0, 0, 0, []⟩
def coA (xs : List Int) (j : Nat) : CS := ⟨9, j, [[3]], [0], fun a => if 1 ≤ a ∧ a ≤ (j : Int) then some (cxO (kdO xs (a - 1).toNat), 1) else none⟩
theorem coA_succ (xs : List Int) (j : Nat) : begL (coA xs j) (cxO (kdO xs j)) 1 = coA xs (j + 1) := by
  unfold begL setL lastL coA
  simp only [CS.mk.injEq, true_and]
  refine ⟨by omega, ?_⟩
  funext a
  by_cases e : a = (j : Int) + 1
  · subst e
    rw [if_pos rfl, if_pos (by omega)]
    rw [show ((j : Int) + 1 - 1).toNat = j by omega]
  · rw [if_neg e]
    by_cases h : 1 ≤ a ∧ a ≤ (j : Int)
    · rw [if_pos h, if_pos (by omega)]
    · rw [if_neg h, if_neg (by omega)]
def coB (xs : List Int) (n : Nat) (d : Nat → Bool) (m : Int) : CS := ⟨9, n, [[3]], [0], fun a => if 1 ≤ a ∧ a ≤ (n : Int) ∧ d (a - 1).toNat = false then some (cxO (kdO xs (a - 1).toNat), m) else none⟩
theorem coB_of (xs : List Int) (n : Nat) : coA xs n = coB xs n (fun _ => false) 1 := by
  unfold coA coB
  simp
theorem coB_at {xs : List Int} {n k : Nat} {d : Nat → Bool} (m : Int) (hk : k < n) : (coB xs n d m).l ((k : Int) + 1) = if d k = false then some (cxO (kdO xs k), m) else none := by
  unfold coB
  simp only
  rw [show ((k : Int) + 1 - 1).toNat = k by omega]
  by_cases h : d k = false
  · rw [if_pos h, if_pos ⟨by omega, by omega, h⟩]
  · rw [if_neg h, if_neg (fun h' => h h'.2.2)]
def setD (d : Nat → Bool) (k : Nat) : Nat → Bool := fun i => if i = k then true else d i
theorem setD_same {d : Nat → Bool} {k : Nat} (h : d k = true) : setD d k = d := by
  funext i
  unfold setD
  by_cases e : i = k
  · subst e; rw [if_pos rfl, h]
  · rw [if_neg e]
theorem coB_del {xs : List Int} {n k : Nat} {d : Nat → Bool} {m : Int} : setL (coB xs n d m) ((k : Int) + 1) none = coB xs n (setD d k) m := by
  unfold setL coB setD
  simp only [CS.mk.injEq, true_and]
  funext a
  by_cases e : a = (k : Int) + 1
  · subst e
    rw [if_pos rfl, show ((k : Int) + 1 - 1).toNat = k by omega]
    simp
  · rw [if_neg e]
    by_cases h : 1 ≤ a ∧ a ≤ (n : Int)
    · have hne : ¬ ((a - 1).toNat = k) := by omega
      simp only [if_neg hne]
    · rw [if_neg (fun h' => h ⟨h'.1, h'.2.1⟩), if_neg (fun h' => h ⟨h'.1, h'.2.1⟩)]
theorem coB_tick {xs : List Int} {n : Nat} {d : Nat → Bool} {m : Int} : tickA (coB xs n d m) = coB xs n d (m + 1) := by
  unfold tickA coB
  simp only [CS.mk.injEq, true_and]
  funext a
  split <;> rfl
/-- The numbers that are open, rising. -/
def opO (n : Nat) (d : Nat → Bool) : List Nat := (List.range n).filter (fun i => !d i)
theorem opO_keys {xs : List Int} {n : Nat} {d : Nat → Bool} {m : Int} {ks : List Int} (h : IsCKeys (coB xs n d m).l ks) : ks = (opO n d).map (fun i : Nat => (i : Int) + 1) := by
  refine rise_unique h.1 ?_ (fun b => ?_)
  · unfold opO
    rw [List.pairwise_map]
    exact (List.pairwise_lt_range.sublist List.filter_sublist).imp (fun h => by omega)
  · rw [h.2 b]
    unfold coB opO
    simp only [List.mem_map, List.mem_filter, List.mem_range]
    constructor
    · intro hs
      by_cases hc : 1 ≤ b ∧ b ≤ (n : Int) ∧ d (b - 1).toNat = false
      · exact ⟨(b - 1).toNat, ⟨by omega, by rw [hc.2.2]; rfl⟩, by omega⟩
      · rw [if_neg hc] at hs; cases hs
    · rintro ⟨i, ⟨h1, h2⟩, rfl⟩
      rw [show ((i : Int) + 1 - 1).toNat = i by omega, if_pos ⟨by omega, by omega, by simpa using h2⟩]
      rfl
theorem opO_none (n : Nat) : (opO n (fun _ => false)).length = n := by
  unfold opO
  rw [List.filter_eq_self.2 (by simp)]
  simp
theorem opO_le (n : Nat) (d : Nat → Bool) : (opO n d).length ≤ n := by
  unfold opO
  have := List.length_filter_le (fun i => !d i) (List.range n)
  simpa using this
theorem opO_set {n k : Nat} {d : Nat → Bool} (hk : k < n) (h : d k = false) : (opO n (setD d k)).length + 1 = (opO n d).length := by
  induction n with
  | zero => omega
  | succ n ih =>
    unfold opO at *
    rw [List.range_succ, List.filter_append, List.filter_append, List.length_append, List.length_append]
    by_cases e : k = n
    · subst e
      have h1 : (List.range k).filter (fun i => !setD d k i) = (List.range k).filter (fun i => !d i) := by
        refine List.filter_congr fun i hi => ?_
        have : i < k := List.mem_range.1 hi
        unfold setD
        rw [if_neg (by omega)]
      rw [h1]
      simp [setD, h]
    · have := ih (by omega)
      have h2 : setD d k n = d n := by unfold setD; rw [if_neg (fun h => e h.symm)]
      simp only [List.filter_cons, List.filter_nil, h2]
      omega
def coM (k : Nat) (kd : Int) : Ms := if kd = 1 then ⟨2, 0, 0, 0, 0, 9, (k : Int) + 1, 0, 0, [], []⟩ else if kd = 2 then ⟨15, 0, 0, 0, 0, 9, (k : Int) + 1, 0, 35, [], []⟩ else ⟨17, 0, 0, 0, 0, 9, (k : Int) + 1, 0, 0, [], []⟩
theorem coM_facts (k : Nat) (kd : Int) : (coM k kd).client = 9 ∧ (coM k kd).seq = (k : Int) + 1 ∧ (-9223372036854775808 ≤ (coM k kd).kind ∧ (coM k kd).kind ≤ 9223372036854775807) ∧ (coM k kd).body = [] := by
  unfold coM
  split
  · exact ⟨rfl, rfl, ⟨by show (-9223372036854775808 : Int) ≤ 2; decide, by show (2 : Int) ≤ 9223372036854775807; decide⟩, rfl⟩
  · split
    · exact ⟨rfl, rfl, ⟨by show (-9223372036854775808 : Int) ≤ 15; decide, by show (15 : Int) ≤ 9223372036854775807; decide⟩, rfl⟩
    · exact ⟨rfl, rfl, ⟨by show (-9223372036854775808 : Int) ≤ 17; decide, by show (17 : Int) ≤ 9223372036854775807; decide⟩, rfl⟩
theorem coM_fits {k : Nat} {kd : Int} (h : 1 ≤ kd ∧ kd ≤ 5) : fitsB (cxO kd) (coM k kd) = true := by
  obtain h | h | h | h | h : kd = 1 ∨ kd = 2 ∨ kd = 3 ∨ kd = 4 ∨ kd = 5 := by omega
  all_goals subst h; rfl
theorem co_ok {xs : List Int} {j i : Nat} : ClOk (coA xs j).shards (cxO (kdO xs i)) :=
  ⟨kdO_le xs i, by show (0 : Int) ≤ 0 ∧ (0 : Int) < 8; decide, by show (0 : Int) ≤ 0 ∧ (0 : Int) < 4; decide, by show U1 0; constructor <;> decide, (by intro a ha; cases ha), by show 0 ≤ 1024; omega, fun _ => ⟨[3], rfl, by show (0 : Int) < 1; decide⟩⟩
end Go.Proofs.Ytdmfladjhjpafaa
