/-
  Package paxos: Tick.
-/
import Derived.Test.YtgmdedkingampaaGreatPxN
import Derived.Lib.SliceRun
set_option linter.unusedVariables false
set_option linter.unusedSimpArgs false
namespace Go.Proofs.YtgmdedkingampaaGreat
open Go.ChangeShapes Go.WideShapes Go.ChangeAt Go.RowKit Go.Maps
set_option maxRecDepth 1000000
set_option linter.unusedVariables false
set_option linter.unusedSimpArgs false

theorem Tryz.intInfo : (Tryz.prog.info? 3).map (fun i => (i.zero, i.size, i.bytes)) = some (some (.int .i64 0), 1, 8) := by kernel_rfl
set_option maxHeartbeats 400000 in
theorem cloneI_any {v : Value} {xs : List Int} {w : World} (h : SlR w v (i64s xs)) (hl : xs.length ≤ 1000000000) :
    Calls Tryz.prog 34 #[v] w fun e w' => ∃ v', e = .returned v' ∧ w'.ownsRow w.heap.size 3 1 v' xs.length (i64s xs) ∧ Below w.heap.size w w' := by
  obtain ⟨ao, c, rfl, hc, hm, hx⟩ := h
  simp only [List.length_map] at *
  unfold maxLen at hm
  cases ao with
  | none =>
    have : xs = [] := by
      cases xs with
      | nil => rfl
      | cons x r => obtain ⟨a, ha, _⟩ := hx 0 (.int .i64 x) (by simp); cases ha
    subst this
    have hnil := fun (w : World) (n c : Nat) => Lib.run_eql_slice_nil (P := Tryz.prog) w 60 3 none n c 0 0 Tryz.underlying60
    go_enter Tryz.func34, Tryz.ntmps34
    go_wp2
    go_ret
    exact ⟨_, rfl, World.ownsRow_nil _ _ _ _, Below.refl _ _⟩
  | some a =>
    have hnil := fun (w : World) (n c : Nat) => Lib.run_eql_slice_nil (P := Tryz.prog) w 60 3 (some a) n c 0 0 Tryz.underlying60
    obtain ⟨i0, hi, hz0, hz1, hz2⟩ := info_parts Tryz.intInfo
    have hcell : ∀ j u, (i64s xs)[j]? = some u → (w.alloc (.cells #[] 3)).cell? (a.add j) = some u := by
      intro j u hj
      obtain ⟨a', ha, hc⟩ := hx j u hj
      cases ha
      exact cell_alloc _ hc
    go_enter Tryz.func34, Tryz.ntmps34
    go_wp2_with (at_builtin; refine wpList_append_own _ rfl (.tmp 5) (.tmp 6) 60 rfl w.heap.size 3 i0 (.int .i64 0) 1 8 Tryz.underlying60 hi hz0 hz1 hz2 rfl (by decide) _ 0 [] rfl (World.ownsRow_made w #[] 0 (Nat.le_refl _) (by decide) rfl) a xs.length c (i64s xs) rfl (by simp) hcell (by intro u hu; simp at hu; obtain ⟨n, _, rfl⟩ := hu; rfl) (by unfold maxLen; omega) (by omega) (by simp) ?_)
    intro v' w' hown hg _
    have hb : Below w.heap.size w w' := ((Below.refl _ _).alloc (Nat.le_refl _) _).grown hg (by simp) (by intro k hk; simp [Value.ownBlock] at hk; omega)
    go_wp2
    go_ret
    exact ⟨v', rfl, by simpa using hown, hb⟩
theorem own_cut {w : World} {base : Nat} {e : TypeId} {g n c : Nat} {xs : List Value} (h : w.ownsRow base e 1 (.slice (some ⟨g, 0, none⟩) n c) n xs) {m : Nat} (hm : m ≤ n) : w.ownsRow base e 1 (.slice (some ⟨g, 0, none⟩) m c) m (xs.take m) := by
  obtain ⟨h1, h2⟩ := h
  rcases h2 with ⟨hn, _⟩ | ⟨g', cap, cur, hv, hb, hg, hnc, hcm, hcs, htake⟩
  · cases hn
  · cases hv
    refine ⟨by simp; omega, Or.inr ⟨g, c, cur, rfl, hb, hg, by omega, hcm, hcs, ?_⟩⟩
    rw [← htake, List.take_take]
    congr 1; omega
theorem own_setCells {base : Nat} {e : TypeId} {g n c : Nat} : ∀ (vs : List Value) (o : Nat) (w : World) (xs : List Value), w.ownsRow base e 1 (.slice (some ⟨g, 0, none⟩) n c) n xs →
    ∃ ys, (w.setCells g o vs).ownsRow base e 1 (.slice (some ⟨g, 0, none⟩) n c) n ys ∧ ys.take o = xs.take o ∧ Keep (fun k => k = g) w (w.setCells g o vs)
  | [], o, w, xs, h => ⟨xs, h, rfl, Keep.refl _ _⟩
  | v :: r, o, w, xs, h => by
    obtain ⟨h1, h2⟩ := h.stored o v
    obtain ⟨ys, h3, h4, h5⟩ := own_setCells r (o + 1) _ _ h1
    refine ⟨ys, h3, ?_, (Keep.grown h2 (fun k hk => by cases hk; rfl)).trans h5⟩
    have h6 := congrArg (List.take o) h4
    rw [List.take_take, List.take_take, Nat.min_eq_left (by omega)] at h6
    rw [h6, List.take_set_of_le (by omega)]
theorem tick1_any {w : World} {bx xa : Nat} {id : Int} (hb : w.cell? ⟨bx, 0, none⟩ = some (.pointer (some ⟨xa, 0, none⟩))) (hc : w.cell? ⟨xa, 0, none⟩ = some (.int .i64 id)) (p : Int) :
    Calls Tryz.prog 35 #[.int .i64 p, .pointer (some ⟨bx, 0, none⟩)] w fun e w' => e = .returned (.bool (p == id)) ∧ w = w' := by
  go_enter Tryz.func35, Tryz.ntmps35
  go_wp2_with fail
  go_ret
  exact ⟨rfl, rfl⟩
theorem ne_snoc {l m : List Int} {a id : Int} (h : m = l ++ [a]) (h1 : ∀ z ∈ l, z ≠ id) (h2 : ¬ a = id) : ∀ z ∈ m, z ≠ id := by
  intro z hz
  rw [h] at hz
  rcases List.mem_append.1 hz with hz | hz
  · exact h1 z hz
  · obtain rfl : z = a := by simpa using hz
    exact h2
/-- Where the first one stands; -1: there is none. -/
def RetI1 (xs : List Int) (id : Int) (w : World) (e : Ending) (w' : World) : Prop := ((e = .returned (.int .i64 (-1)) ∧ ∀ a ∈ xs, a ≠ id) ∨ (∃ k : Nat, e = .returned (.int .i64 k) ∧ xs[k]? = some id ∧ ∀ a ∈ xs.take k, a ≠ id)) ∧ w = w'
set_option maxHeartbeats 1000000 in
theorem pidx_any {w : World} {v : Value} {xs : List Int} (h : SlR w v (i64s xs)) {bx xa : Nat} {id : Int} (hb : w.cell? ⟨bx, 0, none⟩ = some (.pointer (some ⟨xa, 0, none⟩))) (hc : w.cell? ⟨xa, 0, none⟩ = some (.int .i64 id)) :
    Calls Tryz.prog 70 #[v, .func (.func 35) #[] #[.pointer (some ⟨bx, 0, none⟩)]] w (RetI1 xs id w) := by
  obtain ⟨ao, c, rfl, hc1, hc2⟩ := h.form
  simp only [List.length_map] at h hc1 ⊢
  have H := Lib.hid h
  have HT := Lib.hid (tick1_any hb hc)
  clear h hb hc
  go_enter Tryz.func70, Tryz.ntmps70
  go_wp2_with fail
  go_loopw [8, 5] (fun vi _ wr => ∃ k : Nat, k ≤ xs.length ∧ vi = .int .i64 k ∧ Hid (∀ a ∈ xs.take k, a ≠ id) ∧ Hid (wr = w)) (fun vi _ _ => xs.length - (intOf vi).toNat)
  case atStart => exact ⟨0, by omega, rfl, Lib.hid (by simp), by first | exact Lib.hid rfl | exact Lib.hid trivial⟩
  case round =>
    obtain ⟨k, hk, rfl, hno, hw⟩ := hrel
    have hw' := hw.out
    clear hw
    subst hw'
    by_cases hlt : k < xs.length
    · have hki : (k : Int) < (xs.length : Int) := by omega
      obtain ⟨a, ha⟩ : ∃ a, xs[k]? = some a := ⟨_, List.getElem?_eq_getElem hlt⟩
      obtain ⟨ad, hau, hcm⟩ := H.out.at' (m := k) (u := .int .i64 a) (by simp [ha])
      subst hau
      have HA := Lib.hid ha
      have htk : xs.take (k + 1) = xs.take k ++ [a] := by rw [List.take_succ_eq_append_getElem hlt]; rw [List.getElem?_eq_getElem hlt] at ha; cases ha; rfl
      have HTk := Lib.hid htk
      clear ha htk
      go_wp2_with fail
      refine (HT.out a).mono ?_
      rintro e w' ⟨rfl, rfl⟩
      by_cases hai : a = id
      · subst hai
        rw [beq_self_eq_true]
        go_wp2_with fail
        go_ret
        exact ⟨Or.inr ⟨k, rfl, HA.out, hno.out⟩, rfl⟩
      · rw [beq_eq_false_iff_ne.2 hai]
        have HN := Lib.hid hai
        clear hai
        go_wp2_with fail
        go_roundw
        case rel => exact ⟨k + 1, by omega, by go_num, Lib.hid (ne_snoc HTk.out hno.out HN.out), by first | exact Lib.hid rfl | exact Lib.hid trivial⟩
        case measure => simp [intOf]; omega
    · have hkn : k = xs.length := by omega
      subst hkn
      have hkd : decide ((xs.length : Int) < (xs.length : Int)) = false := decide_eq_false (by omega)
      rw [List.take_length] at hno
      clear hlt hk
      go_wp2_with fail
      go_ret
      exact ⟨Or.inl ⟨rfl, hno.out⟩, rfl⟩
theorem zeroI (w : World) : (zeroValue 3).run Tryz.prog w = .ok (.int .i64 0) w := by kernel_rfl
/-- All but one number. -/
def others (xs : List Int) (id : Int) : List Int := xs.filter (fun p => !(p == id))
theorem others_take {xs : List Int} {id a : Int} {k : Nat} (h : xs[k]? = some a) : others (xs.take (k + 1)) id = if a = id then others (xs.take k) id else others (xs.take k) id ++ [a] := by
  obtain ⟨h1, h2⟩ := List.getElem?_eq_some_iff.1 h
  unfold others
  rw [List.take_succ_eq_append_getElem h1, h2, List.filter_append]
  by_cases e : a = id
  · rw [if_pos e]; simp [e]
  · rw [if_neg e]; simp [e]
theorem others_all {xs : List Int} {id : Int} (h : ∀ a ∈ xs, a ≠ id) : others xs id = xs := by
  unfold others
  rw [List.filter_eq_self]
  intro a ha
  simp [h a ha]
theorem others_len (xs : List Int) (id : Int) : (others xs id).length ≤ xs.length := List.length_filter_le ..
set_option maxHeartbeats 4000000 in
theorem delf_any {w : World} {base g cap : Nat} {xs : List Int} {bx xa : Nat} {id : Int} (hown : w.ownsRow base 3 1 (.slice (some ⟨g, 0, none⟩) xs.length cap) xs.length (i64s xs)) (hxl : xs.length ≤ 1000)
    (hb : w.cell? ⟨bx, 0, none⟩ = some (.pointer (some ⟨xa, 0, none⟩))) (hc : w.cell? ⟨xa, 0, none⟩ = some (.int .i64 id)) (hgb : bx ≠ g) (hgx : xa ≠ g) :
    Calls Tryz.prog 33 #[.slice (some ⟨g, 0, none⟩) xs.length cap, .func (.func 35) #[] #[.pointer (some ⟨bx, 0, none⟩)]] w fun e w' =>
      e = .returned (.slice (some ⟨g, 0, none⟩) (others xs id).length cap) ∧ w'.ownsRow base 3 1 (.slice (some ⟨g, 0, none⟩) (others xs id).length cap) (others xs id).length (i64s (others xs id)) ∧ Keep (fun k => k = g) w w' := by
  have hcap : xs.length ≤ cap ∧ cap ≤ 9223372036854775807 := by
    obtain ⟨_, c, hv, h1, h2⟩ := own_form hown
    cases hv
    exact ⟨h1, h2⟩
  have HI := Lib.hid (pidx_any (SlR.of_own hown) hb hc)
  have HO := Lib.hid hown
  have HB := Lib.hid hb
  have HC := Lib.hid hc
  clear hown hb hc
  go_enter Tryz.func33, Tryz.ntmps33
  go_wp2_with fail
  refine HI.out.mono ?_
  rintro e w1 ⟨hor, rfl⟩
  clear HI
  rcases hor with ⟨rfl, hall⟩ | ⟨k0, rfl, hk0, hno⟩
  · have HAll := Lib.hid (others_all hall)
    clear hall
    go_wp2_with fail
    go_ret
    rw [HAll.out]
    exact ⟨rfl, HO.out, Keep.refl _ _⟩
  · have hk0l : k0 < xs.length := (List.getElem?_eq_some_iff.1 hk0).1
    have hne1 : ((k0 : Int) == -1) = false := beq_eq_false_iff_ne.2 (by omega)
    have HF0 : Hid (others (xs.take (k0 + 1)) id = xs.take k0) := Lib.hid (by rw [others_take hk0, if_pos rfl, others_all hno])
    clear hno hk0
    go_wp2_with fail
    go_loopw [5, 6, 7] (fun iv jv _ wr => ∃ (j : Nat) (cs : List Int), j ≤ xs.length ∧ (others (xs.take j) id).length < j ∧ iv = .int .i64 (others (xs.take j) id).length ∧ jv = .int .i64 j ∧ cs.length = xs.length ∧ Hid (cs.take (others (xs.take j) id).length = others (xs.take j) id) ∧ Hid (cs.drop j = xs.drop j) ∧ Hid (wr.ownsRow base 3 1 (.slice (some ⟨g, 0, none⟩) xs.length cap) xs.length (i64s cs)) ∧ Hid (Keep (fun k => k = g) w wr)) (fun _ jv _ _ => xs.length - (intOf jv).toNat)
    case atStart =>
      refine ⟨k0 + 1, xs, by omega, ?_, ?_, by go_num, rfl, Lib.hid ?_, Lib.hid rfl, HO, Lib.hid (Keep.refl _ _)⟩
      · rw [HF0.out, List.length_take]; omega
      · rw [HF0.out, List.length_take, Nat.min_eq_left (by omega)]
      · rw [HF0.out, List.length_take, Nat.min_eq_left (by omega)]
    case round =>
      obtain ⟨j, cs, hj, hij, rfl, rfl, hcl, hct, hcd, hown, hkp⟩ := hrel
      obtain ⟨F, hF⟩ : ∃ F, others (xs.take j) id = F := ⟨_, rfl⟩
      rw [hF] at hij hct
      rw [hF]
      have HF := Lib.hid hF
      clear hF
      by_cases hlt : j < xs.length
      · have hki : (j : Int) < (xs.length : Int) := by omega
        obtain ⟨a, ha⟩ : ∃ a, xs[j]? = some a := ⟨_, List.getElem?_eq_getElem hlt⟩
        have hca : cs[j]? = some a := by
          have h1 := congrArg (fun l => l[0]?) hcd.out
          simp only [List.getElem?_drop, Nat.add_zero] at h1
          rw [h1]; exact ha
        have hcm := hown.out.cellAt j (by omega)
        rw [List.getElem?_map, hca, Option.map_some] at hcm
        have hb2 := hkp.out.cell HB.out hgb
        have hc2 := hkp.out.cell HC.out hgx
        have HT := Lib.hid (tick1_any hb2 hc2 a)
        have hot := others_take (id := id) ha
        rw [HF.out] at hot
        have HOt := Lib.hid hot
        have hci := hown.out.cellAt F.length (by omega)
        have hcf := hown.out.frozenAt F.length
        obtain ⟨c0, hc0⟩ : ∃ c0, (i64s cs)[F.length]? = some c0 := ⟨_, List.getElem?_eq_getElem (by simp; omega)⟩
        rw [hc0] at hci
        have hst := hown.out.stored F.length (.int .i64 a)
        have HSt := Lib.hid hst
        clear ha hca hot hb2 hc2 hc0 hst
        go_wp2_with fail
        refine HT.out.mono ?_
        rintro e w' ⟨rfl, rfl⟩
        clear HT
        by_cases hai : a = id
        · subst hai
          rw [beq_self_eq_true]
          have HOt2 := Lib.hid (HOt.out.trans (if_pos rfl))
          clear HOt HSt hci hcf
          go_wp2_with fail
          go_roundw
          case rel => exact ⟨j + 1, cs, by omega, by rw [HOt2.out]; omega, by rw [HOt2.out], by go_num, hcl, Lib.hid (by rw [HOt2.out]; exact hct.out), Lib.hid (by rw [← List.drop_drop, ← List.drop_drop, hcd.out]), hown, hkp⟩
          case measure => simp [intOf]; omega
        · rw [beq_eq_false_iff_ne.2 hai]
          have HOt2 := Lib.hid (HOt.out.trans (if_neg hai))
          clear HOt hai
          go_wp2_with fail
          go_roundw
          case rel =>
            refine ⟨j + 1, cs.set F.length a, by omega, by rw [HOt2.out, List.length_append, List.length_cons, List.length_nil]; omega, by rw [HOt2.out, List.length_append, List.length_cons, List.length_nil]; go_num, by go_num, by simpa using hcl, Lib.hid ?_, Lib.hid ?_, Lib.hid (by have h9 := HSt.out.1; rw [← List.map_set] at h9; exact h9), Lib.hid (hkp.out.trans (Keep.grown HSt.out.2 (fun k hk => by cases hk; rfl)))⟩
            · rw [HOt2.out, List.length_append, List.length_cons, List.length_nil, List.take_succ_eq_append_getElem (by simp; omega), List.getElem_set_self, List.take_set_of_le (Nat.le_refl _), hct.out]
            · rw [List.drop_set_of_lt (by omega), ← List.drop_drop, ← List.drop_drop, hcd.out]
          case measure => simp [intOf]; omega
      · have hjl : j = xs.length := by omega
        subst hjl
        have hkd : decide ((xs.length : Int) < (xs.length : Int)) = false := decide_eq_false (by omega)
        have hxx := HF.out
        rw [List.take_length] at hxx
        have HX := Lib.hid hxx
        have hcl2 : ∀ ty, (Builtin.clear_ #[60] ty #[.slice (some ⟨g, F.length, none⟩) (xs.length - F.length) (cap - F.length)]).run Tryz.prog wr = .ok (.tuple #[]) (wr.setCells g F.length (List.replicate (xs.length - F.length) (.int .i64 0))) :=
          fun ty => Lib.run_clear_slice wr 60 3 ty (.int .i64 0) Tryz.underlying60 zeroI rfl rfl g F.length (xs.length - F.length) (cap - F.length) (by omega) (fun j' hj' => by rw [hown.out.cellAt (F.length + j') (by omega), List.getElem?_eq_getElem (by simp; omega)]; rfl) (fun j' _ => hown.out.frozenAt (F.length + j'))
        obtain ⟨ys, ho, hy, hk⟩ := own_setCells (List.replicate (xs.length - F.length) (.int .i64 0)) F.length wr _ hown.out
        have HOw := Lib.hid ho
        have HY := Lib.hid hy
        have HK := Lib.hid (hkp.out.trans hk)
        clear hlt hj hxx ho hy hk hcd
        go_wp2_with (simp only [hcl2])
        go_ret
        rw [HX.out]
        refine ⟨rfl, ?_, HK.out⟩
        have h9 := own_cut HOw.out (m := F.length) (by omega)
        rw [HY.out, ← List.map_take, hct.out] at h9
        exact h9
end Go.Proofs.YtgmdedkingampaaGreat

namespace Go.Proofs.YtgmdedkingampaaGreat
open Go.ChangeShapes Go.WideShapes Go.ChangeAt Go.RowKit Go.Maps
set_option maxRecDepth 1000000
set_option linter.unusedVariables false
set_option linter.unusedSimpArgs false

def max3 (a b c : Int) : Int := if (if a < b then b else a) < c then c else if a < b then b else a
/-- A node behind a tick of its clock. -/
def elN (x : Nd) : Nd := { x with lf := if x.lf - 1 = 0 then x.t else x.lf - 1 }
/-- The ballot that it takes next. -/
def nextBal (x : Nd) : Int := max3 x.top x.A.promised x.L.ballot
/-- It stands for a ballot. -/
def standN (x : Nd) : Nd := { elN x with A := ⟨nextV (nextBal x) x.id, x.A.low, x.A.l⟩ }
def ranN (y : Nd) (b : Int) : Nd := heardN { y with L := beginL y.L b y.next, NL := 0 } b
/-- What a tick comes to. -/
def TickR (x y : Nd) (ms : List Om) : Prop :=
  (x.e ≠ 0 ∧ y = x ∧ ms = []) ∨
  (x.e = 0 ∧ x.L.stage = 2 ∧ y = x ∧ ∃ ks, IsOKeys x.L.op ks ∧ ms = allO (others x.ps x.id) 18 x.L.ballot x.next [] ++ accO (opL x.L.op ks) x.ps) ∨
  (x.e = 0 ∧ x.L.stage ≠ 2 ∧ (x.lf ≠ 1 ∨ nextE (nextBal x) x.id ≠ 0) ∧ y = elN x ∧ ms = []) ∨
  (x.e = 0 ∧ x.L.stage ≠ 2 ∧ x.lf = 1 ∧ nextE (nextBal x) x.id = 0 ∧
    ((noteN (standN x) (noteB 1 [nextV (nextBal x) x.id] none)).e ≠ 0 ∧ y = noteN (standN x) (noteB 1 [nextV (nextBal x) x.id] none) ∧ ms = [] ∨
     (noteN (standN x) (noteB 1 [nextV (nextBal x) x.id] none)).e = 0 ∧ y = ranN (noteN (standN x) (noteB 1 [nextV (nextBal x) x.id] none)) (nextV (nextBal x) x.id) ∧ ms = allO x.ps 7 (nextV (nextBal x) x.id) x.next []))
section
variable {W w w' : World} {os : List Ob} {q : NdA} {f : NdF} {x : Nd}
theorem SepW.bxCell {B xa : Nat} {e : TypeId} (h : SepW W w os) (i : Nat) (hi : os[i]? = some (obBlk B (.cells #[.pointer (some ⟨xa, 0, none⟩)] e))) : w.cell? ⟨B, 0, none⟩ = some (.pointer (some ⟨xa, 0, none⟩)) := (h.blk i hi 0 _ rfl).1
theorem SepW.openLen (h : SepW W w (ndOs q f x os)) {ks : List Int} (hk : IsOKeys x.L.op ks) : (opL x.L.op ks).length ≤ x.NL := by
  obtain ⟨_, K, hK1, hK2⟩ : LeaO (.pointer q.lp) f.le w x.NL x.L := h.get 5 rfl
  have hkl : ks.length ≤ K.length := nodup_le (hk.1.imp (fun h => by omega)) (fun z hz => hK2 z ((hk.2 z).1 hz))
  have hol : (opL x.L.op ks).length ≤ ks.length := List.length_filterMap_le ..
  omega
theorem accC_one {w : World} {v : Value} {l : List (Vt × Value)} (h : VtS w v l) (ps : List Int) : ∀ u ∈ accC l ps, u.oneCell' = true := by
  intro u hu
  obtain ⟨p, hp, hu⟩ := List.mem_flatMap.1 hu
  obtain ⟨_, _, _, _, _, hx⟩ := h
  obtain ⟨i, hi⟩ := List.mem_iff_getElem?.1 hp
  obtain ⟨_, bo, bc, _, e, _⟩ := hx i p hi
  rw [e] at hu
  exact allC_one _ _ _ _ _ _ _ u hu
set_option maxHeartbeats 4000000 in
theorem nd_tickLead (h : SepW W w (ndOs q f x os)) (he : x.e = 0) (hl : x.L.stage = 2) (hps : x.ps.length ≤ 7) (hpn : x.ps ≠ []) (hN : x.NL < 900000) :
    Calls Tryz.prog 16 #[.pointer (some ⟨q.x, 0, none⟩)] w fun e w' => ∃ y ms, TickR x y ms ∧ RetH W q os y ms e w' := by
  obtain ⟨W0, hW0⟩ : ∃ y, y = w.alloc (.cells #[.pointer (some ⟨q.x, 0, none⟩)] 31) := ⟨_, rfl⟩
  have H := Lib.hid (show SepW W W0 (ndOs q f x (obBlk w.heap.size (.cells #[.pointer (some ⟨q.x, 0, none⟩)] 31) :: os)) by rw [hW0]; exact (h.newBlk _ _).behind)
  have HW := Lib.hid hW0
  have HE := Lib.hid he
  have HLs := Lib.hid hl
  have HPn := Lib.hid hpn
  clear h hW0 he hl hpn
  obtain ⟨i0, hi, hz0, hz1, hz2⟩ := info_parts Tryz.outInfo
  go_enter Tryz.func16, Tryz.ntmps16
  go_upto_region 1 with fail
  rw [← HW.out]
  generalize w.heap.size = B at *
  clear HW
  have bx := H.out.bxCell 8 rfl
  have HU := Lib.hid (nd_up H.out)
  rw [decide_eq_true HE.out] at HU
  go_wp2_with fail
  refine HU.out.mono ?_
  rintro e w1 ⟨rfl, rfl⟩
  clear HU
  obtain ⟨⟨-, c1, -, -, c4, c5, -, -⟩, -⟩ := H.out.ndCell 0 rfl
  have HL := Lib.hid (H.out.leaLeads 5 rfl)
  rw [HLs.out] at HL
  go_wp2_with fail
  refine HL.out.mono ?_
  rintro e w1 ⟨rfl, rfl⟩
  rw [show ((2 : Int) == 2) = true from rfl]
  clear HL
  have HCl := Lib.hid (cloneI_any (H.out.row 7 rfl) (by omega))
  go_wp2_with fail
  refine HCl.out.mono ?_
  rintro e w2 ⟨cv, rfl, ho2, hb2⟩
  have hs2 := H.out.newRow ho2 hb2
  obtain ⟨g, cap, rfl⟩ : ∃ g cap, cv = .slice (some ⟨g, 0, none⟩) x.ps.length cap := by
    rcases ho2.2 with ⟨_, h0⟩ | ⟨g, cap, _, rfl, _⟩
    · exact absurd (List.eq_nil_of_length_eq_zero h0) HPn.out
    · exact ⟨g, cap, rfl⟩
  have hgB := hs2.sep.two (i := 0) (j := 9) (by decide) rfl rfl g rfl
  have hgX := hs2.sep.two (i := 0) (j := 1) (by decide) rfl rfl g rfl
  have HS2 := Lib.hid hs2
  have HD := Lib.hid (delf_any (bx := B) (xa := q.x) (id := x.id) (hs2.get 0 rfl : w2.ownsRow 0 3 1 (.slice (some ⟨g, 0, none⟩) x.ps.length cap) x.ps.length (i64s x.ps)) (by omega) (hs2.bxCell 9 rfl) (hs2.ndCell 1 rfl).1.1 (fun e => hgB (show g = B from e.symm)) (fun e => hgX (show g = q.x from e.symm)))
  clear ho2 hb2 hs2 hgB hgX HCl bx c1 c4 c5
  go_wp2_with fail
  refine HD.out.mono ?_
  rintro e w3 ⟨rfl, ho3, hk3⟩
  have hs3 := HS2.out.set 0 rfl (hk3.mono (fun k _ e => by subst e; rfl)) (obRow_good (.slice (some ⟨g, 0, none⟩) (others x.ps x.id).length cap) 3 1 (others x.ps x.id).length (i64s (others x.ps x.id))) ho3 (fun k hk => Or.inl (by cases hk; rfl))
  have HS3 : Hid (SepW W w3 (obRow (.slice (some ⟨g, 0, none⟩) (others x.ps x.id).length cap) 3 1 (others x.ps x.id).length (i64s (others x.ps x.id)) :: ndOs q f x (obBlk B (.cells #[.pointer (some ⟨q.x, 0, none⟩)] 31) :: os))) := Lib.hid hs3
  clear hs3 ho3 hk3 HD HS2 H
  have bx := HS3.out.bxCell 9 rfl
  obtain ⟨⟨-, -, -, -, c4, c5, -, -⟩, -⟩ := HS3.out.ndCell 1 rfl
  have HBa := Lib.hid (HS3.out.drew.leaBallot 6 rfl)
  have HNx := Lib.hid (HS3.out.drew.lnNext 5 rfl)
  have hol := others_len x.ps x.id
  have HA4 := Lib.hid (all_any (HS3.out.drew.row 0 rfl) (by omega) 18 x.L.ballot x.next none 0 0)
  go_wp2_with fail
  go_region_held3 (fun w' => w'.cell? ⟨B, 0, none⟩ = some (.pointer (some ⟨q.x, 0, none⟩)) ∧ w'.cell? ⟨q.x, 4, none⟩ = some (.pointer (some ⟨q.l0, 0, none⟩)) ∧ w'.cell? ⟨q.x, 5, none⟩ = some (.pointer q.lp)) (first | with_reducible exact hS4 | go_keep)
    (first
      | (go_at_call 37; (with_reducible refine HBa.out.mono ?_); rintro e w4 ⟨rfl, rfl⟩)
      | (go_at_call 29; (with_reducible refine HNx.out.mono ?_); rintro e w4 ⟨rfl, rfl⟩)
      | (go_at_call 36; (with_reducible refine HA4.out.mono ?_); rintro e w4 ⟨ao4, d4, rfl, ho4, hb4⟩
         have hs4 := HS3.out.drew.newRow ho4 hb4
         have hS4 : w4.cell? ⟨B, 0, none⟩ = some (.pointer (some ⟨q.x, 0, none⟩)) ∧ w4.cell? ⟨q.x, 4, none⟩ = some (.pointer (some ⟨q.l0, 0, none⟩)) ∧ w4.cell? ⟨q.x, 5, none⟩ = some (.pointer q.lp) := ⟨hs4.bxCell 10 rfl, (hs4.ndCell 2 rfl).1.2.2.2.2.1, (hs4.ndCell 2 rfl).1.2.2.2.2.2.1⟩
         have HS4 := Lib.hid hs4
         clear hs4 ho4 hb4))
  all_goals
    clear hS4 bx c4 c5 HA4 HBa HNx HS3
    have bx := HS4.out.bxCell 10 rfl
    obtain ⟨⟨-, c1, -, -, -, c5, -, -⟩, -⟩ := HS4.out.ndCell 2 rfl
    have HOp := Lib.hid (HS4.out.drew.leaOpen 7 rfl hN)
    go_wp2_with fail
    go_region_held3 (fun w' => w'.cell? ⟨B, 0, none⟩ = some (.pointer (some ⟨q.x, 0, none⟩)) ∧ w'.cell? ⟨q.x, 5, none⟩ = some (.pointer q.lp)) (first | with_reducible exact hS5 | with_reducible exact hS6 | with_reducible exact hS7 | go_keep)
      (first
        | (go_at_call 38; (with_reducible refine HOp.out.mono ?_); rintro e w5 ⟨ks, ao5, d5, vs5, hks, rfl, hs5⟩
           have hS5 : w5.cell? ⟨B, 0, none⟩ = some (.pointer (some ⟨q.x, 0, none⟩)) ∧ w5.cell? ⟨q.x, 5, none⟩ = some (.pointer q.lp) := ⟨hs5.bxCell 11 rfl, (hs5.ndCell 3 rfl).1.2.2.2.2.2.1⟩
           have hcx : w5.cell? ⟨q.x, 1, none⟩ = some (.slice q.po x.ps.length q.pc) := (hs5.ndCell 3 rfl).1.2.1
           have hrx := hs5.row 10 rfl
           have hkl := hs5.tail.tail.tail.openLen hks
           obtain ⟨l, hl1, hl2, hl3⟩ := hs5.vtsS
           have hll : l.length ≤ 900000 := by have := congrArg List.length hl1; rw [List.length_map] at this; omega
           have hlo := accC_one hl2 x.ps
           have HA := Lib.hid (nd_accepts hcx hrx hps hl2 (by omega))
           have HS5 := Lib.hid hl3
           have HL1 := Lib.hid hl1
           have HKs := Lib.hid hks
           have HOne := Lib.hid hlo
           clear hs5 hcx hrx hl1 hl2 hl3 hks hkl hlo)
        | (go_at_call 28; (with_reducible refine HA.out.mono ?_); rintro e w6 ⟨ao6, d6, rfl, ho6, hb6⟩
           have hs6 := HS5.out.step hb6
           have hS6 : w6.cell? ⟨B, 0, none⟩ = some (.pointer (some ⟨q.x, 0, none⟩)) ∧ w6.cell? ⟨q.x, 5, none⟩ = some (.pointer q.lp) := ⟨hs6.bxCell 11 rfl, (hs6.ndCell 3 rfl).1.2.2.2.2.2.1⟩
           have HS6 := Lib.hid hs6
           have HO6 := Lib.hid ho6
           clear hs6 ho6 hb6)
        | (refine step_appRow rfl (.tmp 37) (.tmp 44) 28 rfl 0 85 i0 _ 12 128 Tryz.underlying28 hi hz0 hz1 hz2 rfl (by decide) (by decide) rfl rfl (HS6.out.get 1 rfl : w6.ownsRow 0 85 12 (.slice ao4 (others x.ps x.id).length d4) (others x.ps x.id).length (allC (others x.ps x.id) 18 x.L.ballot x.next (.slice none 0 0))) HO6.out HOne.out (by have := Nat.mul_le_mul hll hps; omega) (Nat.zero_le _) ?_
           intro v7 w7 ho7 hg7 hl7
           have hs7 := HS6.out.rowSet 1 rfl hg7 hl7 ho7
           have hS7 : w7.cell? ⟨B, 0, none⟩ = some (.pointer (some ⟨q.x, 0, none⟩)) ∧ w7.cell? ⟨q.x, 5, none⟩ = some (.pointer q.lp) := ⟨hs7.bxCell 11 rfl, (hs7.ndCell 3 rfl).1.2.2.2.2.2.1⟩
           have HS7 := Lib.hid hs7
           clear hs7 ho7 hg7 hl7))
    all_goals
      clear hS5 hS6 hS7 bx c1 c5 HA HOp HS4 HS5 HS6 HO6
      go_wp2_with fail
      go_ret
      refine ⟨x, allO (others x.ps x.id) 18 x.L.ballot x.next [] ++ accO (opL x.L.op ks) x.ps, Or.inr (Or.inl ⟨HE.out, HLs.out, rfl, ks, HKs.out, rfl⟩), v7, allP (others x.ps x.id) 18 x.L.ballot x.next [] (.slice none 0 0) ++ accP l x.ps, f, rfl, by rw [List.map_append, allP_fst, accP_fst, HL1.out], ?_⟩
      have h7 : SepW W w7 (obBod (l.map fun p => (p.2, p.1.val)) :: obRow v7 85 12 ((others x.ps x.id).length + l.length * x.ps.length) (allC (others x.ps x.id) 18 x.L.ballot x.next (.slice none 0 0) ++ accC l x.ps) :: obRow (.slice (some ⟨g, 0, none⟩) (others x.ps x.id).length cap) 3 1 (others x.ps x.id).length (i64s (others x.ps x.id)) :: ndOs q f x (obBlk B (.cells #[.pointer (some ⟨q.x, 0, none⟩)] 31) :: os)) := HS7.out
      rw [allC_out _ _ _ _ [], accC_out, ← outC_app, ← allP_len (others x.ps x.id) 18 x.L.ballot x.next [] (.slice none 0 0), ← accP_len, ← List.length_append] at h7
      have h8 := SepW.dropB (pre := [_, _]) (l := [_]) h7
      have h9 := SepW.dropB (pre := [_, _, _, _, _, _, _, _, _, _]) (l := [_]) h8
      have h10 := (h9.nilBods (l := (allP (others x.ps x.id) 18 x.L.ballot x.next [] (.slice none 0 0)).map fun p => (p.2, p.1.body)) (fun p hp => by
        obtain ⟨p', hp', rfl⟩ := List.mem_map.1 hp
        obtain ⟨t', _, rfl⟩ := List.mem_map.1 hp'
        rfl)).bodApp
      refine (h10.bodSub (fun p hp => ?_)).swap
      rw [List.map_append] at hp
      rcases List.mem_append.1 hp with hp | hp
      · exact List.mem_append_left _ hp
      · refine List.mem_append_right _ ?_
        obtain ⟨p', hp', rfl⟩ := List.mem_map.1 hp
        obtain ⟨r, hr, hp'⟩ := List.mem_flatMap.1 hp'
        obtain ⟨t', _, rfl⟩ := List.mem_map.1 hp'
        exact List.mem_map.2 ⟨r, hr, rfl⟩
end
end Go.Proofs.YtgmdedkingampaaGreat
