/-
  Package leader: what its laws share: votes laid one by one, promises with votes of one's own.
-/
import Derived.Test.YtjdjfhioobhcjaaLeaO
import Derived.Lib.SlBytesConst
import Derived.Test.YtjdjfhioobhcjaaFrame
namespace Go.Proofs.Ytjdjfhioobhcjaa
open Go.ChangeShapes Go.WideShapes Go.ChangeAt Go.RowKit Go.Maps
set_option maxRecDepth 100000

theorem IsOKeys.eq {l : Int → Option (Vt × (Nat → Bool))} {ks ks' : List Int} (h : IsOKeys l ks) (hp : ks'.Pairwise (· < ·)) (hm : ∀ x, x ∈ ks' ↔ (l x).isSome = true) : ks = ks' :=
  rise_unique h.1 hp (fun x => (h.2 x).trans (hm x).symm)
/-- What is proposed as it begins to lead. -/
def leadV (A : LS) (n : Nat) : List Vt := (List.range n).map (fun (k : Nat) => (⟨A.first + (k : Int), A.ballot, (kOr A (A.first + (k : Int))).val⟩ : Vt))
theorem lead_votes {A : LS} {en : Int} {ks : List Int} (h : IsOKeys (leadP A en) ks) (ho : ∀ a, A.op a = none) {n : Nat} (hn : A.first + (n : Int) = en) : opL (leadP A en) ks = leadV A n := by
  have e : ks = (List.range n).map (fun (k : Nat) => A.first + (k : Int)) := by
    refine h.eq ?_ (fun x => ?_)
    · rw [List.pairwise_map]
      exact (List.pairwise_lt_range (n := n)).imp (fun h => by omega)
    · rw [List.mem_map]
      unfold leadP
      constructor
      · rintro ⟨k, hk, rfl⟩
        have := List.mem_range.1 hk
        rw [if_pos (by omega)]; rfl
      · intro hx
        by_cases hin : A.first ≤ x ∧ x < en
        · exact ⟨(x - A.first).toNat, List.mem_range.2 (by omega), by omega⟩
        · rw [if_neg hin, ho] at hx; cases hx
  subst e
  unfold opL leadV
  rw [List.filterMap_map]
  have hc : ∀ k ∈ List.range n, ((fun a => (leadP A en a).map Prod.fst) ∘ fun (k : Nat) => A.first + (k : Int)) k = some (⟨A.first + (k : Int), A.ballot, (kOr A (A.first + (k : Int))).val⟩ : Vt) := by
    intro k hk
    have := List.mem_range.1 hk
    simp only [Function.comp, leadP]
    rw [if_pos (by omega)]; rfl
  generalize List.range n = r at hc
  induction r with
  | nil => rfl
  | cons k r ih =>
    rw [List.filterMap_cons, hc k (by simp)]
    simp only [List.map_cons]
    rw [ih (fun x hx => hc x (List.mem_cons_of_mem _ hx))]
theorem leadV_at {A : LS} {n k : Nat} (hk : k < n) : (leadV A n)[k]? = some ⟨A.first + (k : Int), A.ballot, (kOr A (A.first + (k : Int))).val⟩ := by
  unfold leadV; simp [hk]
theorem leadV_len (A : LS) (n : Nat) : (leadV A n).length = n := by unfold leadV; simp
/-- One vote laid where it stands. -/
theorem vtl_one {w : World} {b1 b2 : Nat} {s b : Int} {xs : List Int} {t1 t2 : TypeId} {f1 f2 : Nat × Nat} (hl : xs.length ≤ 1000) (h1 : w.heap[b1]? = some (.cells (u8s xs).toArray t1 f1)) (h2 : w.heap[b2]? = some (.cells #[.int .u64 s, .int .u64 b, .slice (some ⟨b1, 0, none⟩) xs.length xs.length] t2 f2)) :
    VtL w (.slice (some ⟨b2, 0, none⟩) 1 1) [⟨s, b, xs⟩] := by
  refine ⟨some ⟨b2, 0, none⟩, 1, rfl, Nat.le_refl _, by omega, fun i v hv => ?_⟩
  match i, hv with
  | 0, hv =>
    simp at hv
    subst hv
    refine ⟨⟨b2, 0, none⟩, .slice (some ⟨b1, 0, none⟩) xs.length xs.length, rfl, World.news_of_block h2 0 _ rfl, World.news_of_block h2 1 _ rfl, World.news_of_block h2 2 _ rfl, ?_⟩
    exact ⟨some ⟨b1, 0, none⟩, xs.length, by simp, by simp, by unfold maxLen; omega, fun i u hi => ⟨_, rfl, World.news_of_block h1 i u (by simpa using hi)⟩⟩
def lw1 : LS := beginL (newLS 3) 5 0
def lw2 : LS := promV lw1 0 0 []
def lw3 : LS := promV lw2 2 0 [⟨1, 3, [120]⟩]
def lw4 : LS := leadL lw3 2
def lw5 : LS := nextL (opP lw4 ⟨2, 5, [121]⟩ (fun _ => false))
def lw6 : LS := opP lw5 ⟨2, 5, [121]⟩ (addK (fun _ => false) 1)
def lw7 : LS := opD lw6 2
theorem lw3_kn (a : Int) : lw3.kn a = if a = 1 then some ⟨1, 3, [120]⟩ else none := rfl
theorem lw3_end : IsEnd lw3 2 := by
  refine ⟨⟨by decide, by constructor <;> decide⟩, fun s hs _ => ?_, Or.inr ⟨1, rfl, by decide, rfl⟩⟩
  rw [lw3_kn] at hs
  by_cases e : s = 1
  · omega
  · rw [if_neg e] at hs; cases hs
theorem lw3_near : ¬ farL lw3 := by
  rintro ⟨s, hs, _, h⟩
  rw [lw3_kn] at hs
  by_cases e : s = 1
  · subst e
    have : lw3.first = 0 := rfl
    rw [this] at h; omega
  · rw [if_neg e] at hs; cases hs
theorem lw7_ks : IsOKeys lw7.op [0, 1] := by
  refine ⟨by decide, fun x => ?_⟩
  have : lw7.op x = if x = 2 then none else if x = 2 then some (⟨2, 5, [121]⟩, addK (fun _ => false) 1) else if x = 2 then some (⟨2, 5, [121]⟩, fun _ => false) else leadP lw3 2 x := rfl
  rw [this]
  by_cases e : x = 2
  · rw [if_pos e]; simp; omega
  · rw [if_neg e, if_neg e, if_neg e]
    unfold leadP
    have : lw3.first = 0 := rfl
    rw [this]
    by_cases h : 0 ≤ x ∧ x < 2
    · rw [if_pos h]; simp; omega
    · rw [if_neg h]
      have : lw3.op x = none := rfl
      rw [this]; simp; omega
set_option maxHeartbeats 4000000 in
theorem lawake_any (w : World) : Calls Try.prog 28 #[] w fun e w' => e = .returned (.bool true) ∧ Below w.heap.size w w' := by
  have kc := fun (w : World) (C : Array Value) (n c : Nat) => Lib.run_convert_bytes_const (P := Try.prog) w 30 5 C n c Try.underlying30 Try.underlying5
  go_enter Try.func28, Try.ntmps28
  go_wp2_with fail
  refine ((SepW.nil (Below.refl w.heap.size w)).leaNew (many := 3) (by decide)).mono ?_
  rintro e w1 ⟨b0, D, rfl, hs1⟩
  have HS1 := Lib.hid hs1
  clear hs1
  go_wp2_with fail
  refine (HS1.out.leaBegin 0 rfl (b := 5) (fr := 0) (by decide) (by constructor <;> decide) (by constructor <;> decide)).mono ?_
  rintro e w2 ⟨rfl, D2, hs2⟩
  have HS2 : Hid (SepW w w2 [obLea (.pointer (some ⟨b0, 0, none⟩)) D2 0 lw1]) := Lib.hid hs2
  clear hs2 HS1
  go_wp2_with fail
  refine (HS2.out.leaProm 0 rfl (n := 0) (b := 5) (low := 0) (hs := []) (by refine ⟨rfl, rfl, ?_, ?_⟩ <;> decide) rfl (by constructor <;> decide) (fun w' _ => VtL.nil w') (by intro v hv; cases hv) (by decide)).mono ?_
  rintro e w3 (⟨_, rfl, D3, hs3⟩ | ⟨hm, _⟩ | ⟨hm, _⟩)
  rotate_left
  · exact absurd hm (by decide)
  · exact absurd hm (by decide)
  have HS3 : Hid (SepW w w3 [obLea (.pointer (some ⟨b0, 0, none⟩)) D3 0 lw2]) := Lib.hid hs3
  clear hs3 HS2
  go_wp2_with fail
  have hlt3 : ∀ k, D3 k → k < w3.heap.size := (HS3.out.get 0 rfl : LeaO _ D3 w3 0 lw2).lt
  have hba := below_lit w3 (.cells (u8s [120]).toArray 5 (1, 2))
  have hbb := below_lit (w3.alloc (.cells (u8s [120]).toArray 5 (1, 2))) (.cells #[.int .u64 1, .int .u64 3, .slice (some ⟨w3.heap.size, 0, none⟩) 1 1] 39)
  have hz1 : (w3.alloc (.cells (u8s [120]).toArray 5 (1, 2))).heap.size = w3.heap.size + 1 := by simp
  have hk1 := heap_alloc_new w3 (.cells (u8s [120]).toArray 5 (1, 2))
  have hk2 := heap_alloc_new (w3.alloc (.cells (u8s [120]).toArray 5 (1, 2))) (.cells #[.int .u64 1, .int .u64 3, .slice (some ⟨w3.heap.size, 0, none⟩) 1 1] 39)
  have hk1 := (hbb.block w3.heap.size (by omega)).trans hk1
  rw [hz1] at hk2
  have HS4 := Lib.hid (((HS3.out.step hba).step hbb).leaProm 0 rfl (n := 2) (b := 5) (low := 0) (v := .slice (some ⟨w3.heap.size + 1, 0, none⟩) 1 1) (hs := [⟨1, 3, [120]⟩]) (by refine ⟨rfl, rfl, ?_, ?_⟩ <;> decide) rfl (by constructor <;> decide)
    (fun w' hk => vtl_one (by decide) ((hk.block w3.heap.size (Array.getElem?_eq_some_iff.1 hk1).1 (fun hd => by have := hlt3 _ hd; omega)).trans hk1) ((hk.block (w3.heap.size + 1) (Array.getElem?_eq_some_iff.1 hk2).1 (fun hd => by have := hlt3 _ hd; omega)).trans hk2))
    (by intro v hv; simp at hv; subst hv; exact ⟨by constructor <;> decide, by constructor <;> decide, (by intro x hx; simp at hx; omega), by decide⟩) (by decide))
  clear hk1 hk2 hba hbb hz1 hlt3
  refine HS4.out.mono ?_
  rintro e w4 (⟨hm, _⟩ | ⟨_, hf, _⟩ | ⟨_, _, en, D4, ks, ao, c, vs, hen, hks, rfl, hs4⟩)
  · exact absurd (by decide) hm
  · exact absurd hf lw3_near
  obtain rfl : en = 2 := hen.unique lw3_end
  have hop : opL (leadP lw3 2) ks = [⟨0, 5, []⟩, ⟨1, 5, [120]⟩] := lead_votes (n := 2) hks (fun _ => rfl) rfl
  have hs4 : SepW w w4 [obVts (.slice ao (opL (leadP lw3 2) ks).length c) 39 vs (opL (leadP lw3 2) ks), obLea (.pointer (some ⟨b0, 0, none⟩)) D4 4098 lw4] := hs4
  have hro : (opL (leadP (promV lw2 2 0 [⟨1, 3, [120]⟩]) 2) ks) = [⟨0, 5, []⟩, ⟨1, 5, [120]⟩] := hop
  rw [hop] at hs4
  rw [hro]
  have HS5 := Lib.hid hs4
  clear hs4 hop hro hks hen HS4 HS3
  go_wp2_with fail
  have hba := below_lit w4 (.cells (u8s [121]).toArray 5 (1, 2))
  refine ((HS5.out.step hba).leaPropose 1 rfl (xs := [121]) (lit_u8 w4 [121] _ _ (by decide)) (by intro x hx; simp at hx; omega) (by decide) rfl (by decide) (by decide)).mono ?_
  rintro e w5 ⟨po, pc, D5, rfl, hs5⟩
  have HS6 : Hid (SepW w w5 [obRow (.slice po 1 pc) 5 1 1 (u8s [121]), obVts (.slice ao 2 c) 39 vs [⟨0, 5, []⟩, ⟨1, 5, [120]⟩], obLea (.pointer (some ⟨b0, 0, none⟩)) D5 4099 lw5]) := Lib.hid hs5
  clear hs5 hba HS5
  go_wp2_with fail
  rw [show lw4.next = 2 from rfl, show lw4.ballot = 5 from rfl]
  have HS7 := Lib.hid (HS6.out.newBlk #[.int .u64 2, .int .u64 5, .slice po 1 pc] 39)
  refine (HS7.out.leaAcc 3 rfl (n := 1) (b := 5) (s := 2) (v := ⟨2, 5, [121]⟩) (g := fun _ => false) (by refine ⟨rfl, rfl, ?_, ?_⟩ <;> decide) (by constructor <;> decide) rfl (by decide)).mono ?_
  rintro e w6 (⟨hm, _⟩ | ⟨_, rfl, D6, hs6⟩)
  · exact absurd hm (by decide)
  have HS8 : Hid (SepW w w6 [obBlk w5.heap.size (.cells #[.int .u64 2, .int .u64 5, .slice po 1 pc] 39), obRow (.slice po 1 pc) 5 1 1 (u8s [121]), obVts (.slice ao 2 c) 39 vs [⟨0, 5, []⟩, ⟨1, 5, [120]⟩], obLea (.pointer (some ⟨b0, 0, none⟩)) D6 4100 lw6]) := Lib.hid hs6
  clear hs6 HS7 HS6
  generalize w5.heap.size = B5 at *
  go_wp2_with fail
  have HS9 := Lib.hid (HS8.out.newBlk #[.int .u64 0, .int .u64 0, .slice none 0 0] 39)
  refine (HS9.out.leaAcc 4 rfl (n := 2) (b := 5) (s := 2) (v := ⟨2, 5, [121]⟩) (g := addK (fun _ => false) 1) (by refine ⟨rfl, rfl, ?_, ?_⟩ <;> decide) (by constructor <;> decide) rfl (by decide)).mono ?_
  rintro e w7 (⟨_, qo, qc, D7, rfl, hs7⟩ | ⟨hm, _⟩)
  rotate_left
  · exact absurd (by decide) hm
  generalize w6.heap.size = B6 at *
  have HS10 : Hid (SepW w w7 [obRow (.slice qo 1 qc) 5 1 1 (u8s [121]), obBlk B6 (.cells #[.int .u64 0, .int .u64 0, .slice none 0 0] 39), obBlk B5 (.cells #[.int .u64 2, .int .u64 5, .slice po 1 pc] 39), obRow (.slice po 1 pc) 5 1 1 (u8s [121]), obVts (.slice ao 2 c) 39 vs [⟨0, 5, []⟩, ⟨1, 5, [120]⟩], obLea (.pointer (some ⟨b0, 0, none⟩)) D7 4101 lw7]) := Lib.hid hs7
  clear hs7 HS8 HS9
  have HS11 := Lib.hid (HS10.out.newBlk #[.int .u64 2, .int .u64 5, .slice qo 1 qc] 39)
  obtain ⟨pg, rfl, hvx⟩ := HS11.out.vtAt 5 rfl (by simp)
  obtain ⟨so, sc, q0, q1, q2, hs0, _⟩ := hvx 0 _ 0 rfl rfl
  obtain ⟨t1, tc, r0, r1, r2, hs1, _⟩ := hvx 1 _ 3 rfl rfl
  have x1 : (convert 30 9 (.slice t1 1 tc)).run Try.prog _ = .ok (.string { data := #[120] }) _ := run_strB Try.underlying30 Try.underlying5 Try.underlying9 hs1
  simp only [Nat.reduceAdd, List.length_cons, List.length_nil] at q0 q1 q2 r0 r1 r2
  have hqs := HS11.out.row 1 rfl
  have x2 : (convert 30 9 (.slice qo 1 qc)).run Try.prog _ = .ok (.string { data := #[121] }) _ := run_strB Try.underlying30 Try.underlying5 Try.underlying9 hqs
  obtain ⟨y0, _⟩ := HS11.out.blk 3 rfl 0 _ rfl
  obtain ⟨y1, _⟩ := HS11.out.blk 3 rfl 1 _ rfl
  obtain ⟨z2, _⟩ := HS11.out.blk 0 rfl 2 _ rfl
  have HOp := Lib.hid (HS11.out.leaOpen 6 rfl (by decide))
  clear hvx hs0 hs1 hqs HS10
  go_wp2_with fail
  refine HOp.out.mono ?_
  rintro e w8 ⟨ks, oo, oc, ovs, hks, rfl, hs12⟩
  have hkl : (opL lw7.op ks).length = 2 := by rw [hks.eq (ks' := [0, 1]) (by decide) lw7_ks.2]; rfl
  rw [hkl]
  have HS12 := Lib.hid hs12
  clear hks hs12 hkl HOp
  go_wp2_with fail
  refine (HS12.out.leaLeads 7 rfl).mono ?_
  rintro e w9 ⟨rfl, rfl⟩
  rw [show (lw7.stage == 2) = true from rfl]
  go_wp2_with fail
  refine (HS12.out.leaBallot 7 rfl).mono ?_
  rintro e w9 ⟨rfl, rfl⟩
  rw [show lw7.ballot = 5 from rfl]
  go_wp2_with fail
  go_ret
  exact ⟨rfl, HS12.out.below⟩
end Go.Proofs.Ytjdjfhioobhcjaa

namespace Go.Proofs.Ytjdjfhioobhcjaa
open Go.ChangeShapes Go.WideShapes Go.ChangeAt Go.RowKit Go.Maps
set_option maxRecDepth 100000

section
variable {W w w' : World} {os : List Ob}
theorem SepW.vtsNil (h : SepW W w os) (e : TypeId) : SepW W w (obVts (.slice none 0 0) e [] [] :: os) :=
  h.new (Below.refl _ _) (obVts_good ..) ⟨World.ownsRow_nil _ _ _ _, VtC.nil _, by intro u hu; cases hu⟩ (fun k hk => by
    rcases hk with hk | ⟨u, hu, _⟩
    · cases hk
    · cases hu)
theorem SepW.vtHeld (h : SepW W w os) (i j : Nat) (hij : i ≠ j) {p v : Value} {D : Nat → Prop} {N : Nat} {A : LS} {e : TypeId} {vs : List Value} {hs : List Vt} (hi : os[i]? = some (obLea p D N A)) (hj : os[j]? = some (obVts v e vs hs)) : ∀ w', Keep D w w' → VtL w' v hs := by
  intro w' hk
  have h1 := (obVts_good v e vs hs).keep (h.get j hj : (obVts v e vs hs).inv w) hk (fun k hd => h.sep.two hij hi hj k hd)
  exact VtL.of_own h1.1 h1.2.1
/-- A vote laid with its bytes joins the row. -/
theorem SepW.vtApp (h : SepW W w os) (i j : Nat) (hij : i ≠ j) {v lv : Value} {e eu : TypeId} {vs : List Value} {hs : List Vt} {n g cap : Nat} {s : Vt} {o : Obj} (hi : os[i]? = some (obVts v e vs hs)) (hj : os[j]? = some (obRow lv eu 1 n (u8s s.val)))
    (hg : (w.alloc o).grownBy w' v.ownBlock) (hor : v.ownBlock = some g ∨ g = w.heap.size + 1)
    (hown : w'.ownsRow 0 e 3 (.slice (some ⟨g, 0, none⟩) (hs.length + 1) cap) (hs.length + 1) (vs ++ [.int .u64 s.slot, .int .u64 s.ballot, lv])) :
    ∃ l, ((os.eraseIdx i)[if i < j then j - 1 else j]? = some (obRow lv eu 1 n (u8s s.val))) ∧ l = (os.eraseIdx i).eraseIdx (if i < j then j - 1 else j) ∧
    SepW W w' (obVts (.slice (some ⟨g, 0, none⟩) (hs.length + 1) cap) e (vs ++ [.int .u64 s.slot, .int .u64 s.ballot, lv]) (hs ++ [s]) :: l) := by
  have hj' : (os.eraseIdx i)[if i < j then j - 1 else j]? = some (obRow lv eu 1 n (u8s s.val)) := by
    rw [List.getElem?_eraseIdx]
    by_cases hlt : i < j
    · rw [if_pos hlt, if_neg (by omega), show j - 1 + 1 = j by omega]; exact hj
    · rw [if_neg hlt, if_pos (by omega)]; exact hj
  have hs1 := (h.sep.front i hi).perm (List.Perm.cons _ (front_perm hj'))
  obtain ⟨hA, hk⟩ := hs1.vtApp hg hor hown
  exact ⟨_, hj', rfl, hA, h.sep.belowAt h.below i hi (hk.mono (fun k _ e => Or.inl e))⟩
end
end Go.Proofs.Ytjdjfhioobhcjaa
