/-
  Package nums: how many bytes a number has.
-/
import Derived.Test.YtjdjfhioobhcjaaNumP
import Derived.Test.YtjdjfhioobhcjaaSepB
import Derived.Test.YtjdjfhioobhcjaaLibT
import Derived.Laws.BitsLemmas
import Derived.Deep.RegionLaw
namespace Go.Proofs.Ytjdjfhioobhcjaa
open Go.ChangeShapes Go.WideShapes Go.ChangeAt Go.RowKit Go.Maps
set_option maxRecDepth 100000

set_option maxHeartbeats 1000000 in
theorem size_any {x : Int} (hx : U1 x) (w : World) : Calls Try.prog 87 #[.int .u64 x] w fun e w' => e = .returned (.int .i64 (sz x)) ∧ w = w' := by
  obtain ⟨hx0, hx1⟩ := hx
  go_enter Try.func87, Try.ntmps87
  go_wp2
  go_step3
  go_wp2
  go_step3
  go_wp2
  go_loopg [3] 8 (fun m i wr => m ≤ 8 ∧ i = .int .i64 ((8 - m : Nat) : Int) ∧ szF m (8 - m) x = sz x ∧ w = wr)
  case atStart => exact ⟨by omega, rfl, rfl, rfl⟩
  case round =>
    obtain ⟨hm, rfl, hr, rfl⟩ := hrel
    obtain ⟨k, hk⟩ : ∃ k : Nat, 8 - gk = k := ⟨_, rfl⟩
    rw [hk] at hr ⊢
    have HR := Lib.hid hr
    clear hr
    have hp : (2 : Int) ^ (8 * k) = 256 ^ k := by rw [Int.pow_mul]; rfl
    by_cases h8 : k < 8
    · have h8i : (k : Int) < 8 := by omega
      obtain ⟨g, rfl⟩ : ∃ g, gk = g + 1 := ⟨gk - 1, by omega⟩
      by_cases hz : x / 256 ^ k = 0
      · have hb : (x / 2 ^ (8 * k) == 0) = true := by rw [hp, beq_iff_eq]; exact hz
        have hs := HR.out
        unfold szF at hs
        rw [if_pos hz] at hs
        have HS := Lib.hid hs
        clear hs hz hp
        go_wp2_with fail
        rw [Exit.noGoto_ret]
        go_ret
        rw [HS.out]
        exact ⟨rfl, rfl⟩
      · have hb : (x / 2 ^ (8 * k) == 0) = false := by rw [hp, beq_eq_false_iff_ne]; exact hz
        have hs := HR.out
        unfold szF at hs
        rw [if_neg hz] at hs
        have HS := Lib.hid hs
        have hk2 : 8 - g = k + 1 := by omega
        have HK2 := Lib.hid hk2
        clear hs hz hp hk hk2
        go_wp2_with fail
        go_roundg g
        case rel => exact ⟨by omega, by rw [HK2.out]; go_num, by rw [HK2.out]; exact HS.out, rfl⟩
        case measure => omega
    · have hk8 : k = 8 := by omega
      have hg0 : gk = 0 := by omega
      subst hk8 hg0
      have hs : (8 : Nat) = sz x := HR.out
      have HS := Lib.hid hs
      clear hp hs hk
      go_wp2_with fail
      rw [Exit.noGoto_ret]
      go_ret
      rw [← HS.out]
      exact ⟨rfl, rfl⟩

/-- A writer at b0 that has put ws. -/
structure WrR (w : World) (D : Nat → Prop) (b0 : Nat) (v : Value) (ws : List Int) : Prop where
  blk : w.heap[b0]? = some (.cells #[v] 156 (0, 0))
  own : w.ownsRow 0 5 1 v ws.length (u8s ws)
  d0 : D b0
  dv : ∀ k, v.ownBlock = some k → D k ∧ k ≠ b0
  lt : ∀ k, D k → k < w.heap.size
theorem WrR.keep {S D : Nat → Prop} {w w' : World} {b0 : Nat} {v : Value} {ws : List Int} (h : WrR w D b0 v ws) (hk : Keep S w w') (hS : ∀ k, S k → ¬ D k) : WrR w' D b0 v ws :=
  ⟨(hk.block b0 (h.lt _ h.d0) (fun hs => hS _ hs h.d0)).trans h.blk, own_keepS hk h.own (fun k hv hs => hS k hs (h.dv k hv).1), h.d0, h.dv, fun k hd => Nat.lt_of_lt_of_le (h.lt k hd) hk.size⟩
theorem WrR.cell {D : Nat → Prop} {w : World} {b0 : Nat} {v : Value} {ws : List Int} (h : WrR w D b0 v ws) : w.cell? ⟨b0, 0, none⟩ = some v ∧ w.frozen? ⟨b0, 0, none⟩ = false := by
  have := h.blk
  simp [World.cell?, World.frozen?, this]
theorem WrR.drew {D : Nat → Prop} {w : World} {b0 : Nat} {v : Value} {ws : List Int} (h : WrR w D b0 v ws) : WrR w.drew D b0 v ws := ⟨h.blk, h.own.drew, h.d0, h.dv, h.lt⟩
/-- Behind an append to what was put: as the cell still stands, and as it is stored. -/
theorem WrR.app {D : Nat → Prop} {w w2 : World} {b0 : Nat} {v v' : Value} {ws zs : List Int} (h : WrR w D b0 v ws) (hown : w2.ownsRow 0 5 1 v' zs.length (u8s zs)) (hb : Below 0 w w2) (hg : ∀ g, v'.ownBlock = some g → v.ownBlock = some g ∨ w.heap.size ≤ g)
    (hk : ∀ k, k < w.heap.size → some k ≠ v.ownBlock → w2.heap[k]? = w.heap[k]?) :
    w2.cell? ⟨b0, 0, none⟩ = some v ∧ w2.frozen? ⟨b0, 0, none⟩ = false ∧ WrR (w2.setCell ⟨b0, 0, none⟩ v') (fun k => D k ∨ v'.ownBlock = some k) b0 v' zs ∧ Moved D (fun k => D k ∨ v'.ownBlock = some k) w (w2.setCell ⟨b0, 0, none⟩ v') := by
  have hb0 := h.lt _ h.d0
  have e0 : w2.heap[b0]? = some (.cells #[v] 156 (0, 0)) := (hk b0 hb0 (fun e => (h.dv b0 e.symm).2 rfl)).trans h.blk
  have hne : ∀ k, v'.ownBlock = some k → k ≠ b0 := fun k hv e => by
    subst e
    rcases hg k hv with e | e
    · exact (h.dv k e).2 rfl
    · omega
  have hkp : Keep D w w2 := (keep_app hb hk).mono (fun k _ hv => (h.dv k hv).1)
  have hks : Keep D w (w2.setCell ⟨b0, 0, none⟩ v') := hkp.setCell (p := ⟨b0, 0, none⟩) (Or.inl h.d0) v'
  have hk2 : Keep (fun k => k = b0) w2 (w2.setCell ⟨b0, 0, none⟩ v') := Keep.setCell (S := fun k => k = b0) (Keep.refl _ _) (p := ⟨b0, 0, none⟩) (Or.inl rfl) _
  refine ⟨by simp [World.cell?, e0], by simp [World.frozen?, e0], ⟨by simpa using heap_setCell_same w2 b0 0 _ _ v' e0, own_keepS hk2 hown hne, Or.inl h.d0, fun k hv => ⟨Or.inr hv, hne k hv⟩, fun k hk => ?_⟩, ⟨hks, fun k hd => Or.inl hd, fun k hd => ?_⟩⟩
  · rcases hk with hk | hk
    · exact Nat.lt_of_lt_of_le (h.lt k hk) hks.size
    · exact Nat.lt_of_lt_of_le (hown.lt k hk).2 hk2.size
  · rcases hd with hd | hd
    · exact Or.inl hd
    · rcases hg k hd with e | e
      · exact Or.inl (h.dv k e).1
      · exact Or.inr e
/-- The same, where some memory was made ahead of it. -/
theorem WrR.app1 {D : Nat → Prop} {w wx w2 : World} {b0 g n cap : Nat} {v : Value} {ws : List Int} {c : Int} (h : WrR w D b0 v ws) (hx : Below w.heap.size w wx) (hn : n = ws.length + 1) (hown : w2.ownsRow 0 5 1 (.slice (some ⟨g, 0, none⟩) n cap) n (u8s ws ++ [.int .u8 c])) (hb : Below 0 wx w2)
    (hg : v.ownBlock = some g ∨ wx.heap.size ≤ g) (hk : ∀ k, k < wx.heap.size → some k ≠ v.ownBlock → w2.heap[k]? = wx.heap[k]?) :
    w2.cell? ⟨b0, 0, none⟩ = some v ∧ w2.frozen? ⟨b0, 0, none⟩ = false ∧ WrR (w2.setCell ⟨b0, 0, none⟩ (.slice (some ⟨g, 0, none⟩) n cap)) (fun k => D k ∨ k = g) b0 (.slice (some ⟨g, 0, none⟩) n cap) (ws ++ [c]) ∧ Moved D (fun k => D k ∨ k = g) w (w2.setCell ⟨b0, 0, none⟩ (.slice (some ⟨g, 0, none⟩) n cap)) := by
  subst hn
  have hz := hx.size
  obtain ⟨h1, h2, h3, h4⟩ := h.app (zs := ws ++ [c]) (v' := .slice (some ⟨g, 0, none⟩) (ws.length + 1) cap) (by simpa [u8s] using hown) ((hx.mono (Nat.zero_le _)).trans hb) (fun g' hg' => by cases hg'; rcases hg with e | e; exact Or.inl e; exact Or.inr (Nat.le_trans hz e))
    (fun k hk' hne => (hk k (by omega) hne).trans (hx.block k hk'))
  have e : (fun k => D k ∨ (Value.slice (some ⟨g, 0, none⟩) (ws.length + 1) cap).ownBlock = some k) = fun k => D k ∨ k = g := by
    funext k
    simp [Value.ownBlock, eq_comm]
  rw [e] at h3 h4
  exact ⟨h1, h2, h3, h4⟩
theorem new_writer (w : World) : Calls Try.prog 72 #[] w fun e w' => e = .returned (.pointer (some ⟨w.heap.size, 0, none⟩)) ∧ WrR w' (fun k => k = w.heap.size) w.heap.size (.slice none 0 0) [] ∧ Below w.heap.size w w' := by
  go_enter Try.func72, Try.ntmps72
  go_wp2
  go_ret
  exact ⟨rfl, ⟨heap_alloc_new w _, World.ownsRow_nil _ _ _ _, rfl, (by intro k hk; cases hk), (by intro k hk; simp; omega)⟩, (Below.refl _ _).alloc (Nat.le_refl _) _⟩
theorem shr_u8 {x : Int} (m : Nat) : IntKind.u8.wrap (x / 2 ^ (8 * m)) = x / 256 ^ m % 256 := by
  have hp : (2 : Int) ^ (8 * m) = 256 ^ m := by rw [Int.pow_mul]; rfl
  rw [hp]
  simp [IntKind.wrap, IntKind.signed, IntKind.bits]
set_option maxHeartbeats 1000000 in
theorem uint_any {D : Nat → Prop} {w : World} {b0 : Nat} {v : Value} {ws : List Int} (h : WrR w D b0 v ws) {x : Int} (hx : U1 x) (hl : ws.length ≤ 1000000000) :
    Calls Try.prog 73 #[.pointer (some ⟨b0, 0, none⟩), .int .u64 x] w fun e w' => e = .returned (.tuple #[]) ∧ ∃ D' v', WrR w' D' b0 v' (ws ++ putU x) ∧ Moved D D' w w' := by
  have H := Lib.hid h
  obtain ⟨i0, hi, hz0, hz1, hz2⟩ := info_parts Try.byteInfo
  obtain ⟨c0, z0⟩ := h.cell
  have hs8 := sz_le x
  have HSz := Lib.hid (size_any hx w)
  have h1l : ws.length ≤ 1099511627776 := by omega
  clear h hx
  go_enter Try.func73, Try.ntmps73
  go_wp2_with fail
  refine HSz.out.mono ?_
  rintro e w' ⟨rfl, rfl⟩
  obtain ⟨n, hn⟩ : ∃ n, sz x = n := ⟨_, rfl⟩
  rw [hn] at hs8 ⊢
  have HN := Lib.hid hn
  clear hn HSz
  have hw8 : IntKind.u8.wrap (n : Int) = n := by simp [IntKind.wrap, IntKind.signed, IntKind.bits]; omega
  go_wp2_with (at_builtin; (refine wpList_app1 rfl (.tmp 13) (.tmp 16) 30 rfl 0 5 i0 (.int .u8 0) 1 Try.underlying30 hi hz0 hz1 hz2 rfl (by decide) rfl rfl H.out.own rfl h1l (Nat.zero_le _) ?_)
               intro g cap w2 hown hb2 hg2 hk2
               have HA := Lib.hid (H.out.app (zs := ws ++ [(n : Int)]) (v' := .slice (some ⟨g, 0, none⟩) (ws.length + 1) cap) (by simpa [u8s] using hown) hb2 (by intro g' hg'; cases hg'; exact hg2) hk2)
               obtain ⟨c0, z0, _⟩ := HA.out
               clear hown hb2 hg2 hk2)
  obtain ⟨_, _, hr, hm⟩ := HA.out
  have HR := Lib.hid hr
  have HM := Lib.hid hm
  clear hr hm HA c0 z0
  go_loopw [4] (fun i wr => ∃ (m : Nat) (acc : List Int) (D' : Nat → Prop) (v' : Value), m ≤ n ∧ i = .int .i64 m ∧ acc ++ be m x = ws ++ putU x ∧ acc.length + m ≤ ws.length + 1 + n ∧ WrR wr D' b0 v' acc ∧ Moved D D' w wr) (fun i _ => (intOf i).toNat)
  case atStart => exact ⟨n, _, _, _, Nat.le_refl _, rfl, by unfold putU; rw [HN.out]; simp, by simp, HR.out, HM.out⟩
  case round =>
    clear HR HM
    obtain ⟨m, acc, D', v', hm, rfl, hacc, hal, hr, hmv⟩ := hrel
    have HAcc := Lib.hid hacc
    have HR := Lib.hid hr
    have HM := Lib.hid hmv
    obtain ⟨c0, z0⟩ := hr.cell
    clear hacc hr hmv
    cases m with
    | zero =>
      have hd : decide ((0 : Int) < ((0 : Nat) : Int)) = false := by simp
      go_wp2_with fail
      go_end0
      have ha := HAcc.out
      simp only [be, List.append_nil] at ha
      exact ⟨rfl, D', v', by rw [← ha]; exact HR.out, HM.out⟩
    | succ m =>
      have hd : (0 : Int) < ((m + 1 : Nat) : Int) := by omega
      have hmi : ((m + 1 : Nat) : Int) - 1 = (m : Int) := by omega
      have h8 := shr_u8 (x := x) m
      have hm8 : m < 8 := by omega
      have hacl : acc.length ≤ 1099511627776 := by omega
      have hw8m : IntKind.i64.wrap (8 * (m : Int)) = 8 * (m : Int) := IntWalk.i64_in _ (by omega)
      have hw8t : (8 * (m : Int)).toNat = 8 * m := by omega
      have hw80 : 0 ≤ 8 * (m : Int) := by omega
      have hca : ∀ o, (wr.alloc o).cell? ⟨b0, 0, none⟩ = some v' := fun o => cell_alloc o c0
      have hcd : ∀ o, (wr.drew.alloc o).cell? ⟨b0, 0, none⟩ = some v' := fun o => cell_alloc (w := wr.drew) o c0
      go_wp2_with fail
      go_region_law ((
         refine step_appS rfl (.tmp 28) (.tmp 34) 30 rfl 0 5 i0 (.int .u8 0) 1 1 Try.underlying30 hi hz0 hz1 hz2 rfl (by decide) (by decide) rfl rfl (heap_alloc_new _ _) rfl (HR.out.own.drew.alloc _) (by intro u hu; simp at hu; subst hu; rfl) hacl (Nat.zero_le _) ?_
         intro g3 cap3 w3 hown3 hb3 hg3 hk3
         have HA3 := Lib.hid (HR.out.app1 ((Below.refl _ _).alloc (Nat.le_refl _) _).drew rfl hown3 hb3 hg3 hk3)
         obtain ⟨c0, z0, _⟩ := HA3.out
         clear hown3 hb3 hg3 hk3))
      all_goals
        obtain ⟨_, _, hr3, hm3⟩ := HA3.out
        have HR3 := Lib.hid hr3
        have HM3 := Lib.hid hm3
        clear hr3 hm3 HA3 c0 z0 hca hcd
        go_wp2_with fail
        go_roundw
        case rel => exact ⟨m, _, _, _, by omega, rfl, by rw [← HAcc.out]; simp [be], by simp; omega, HR3.out, HM.out.trans HM3.out⟩
        case measure => simp [intOf]
set_option maxHeartbeats 1000000 in
theorem wraw_any {D : Nat → Prop} {w : World} {b0 : Nat} {v sv : Value} {ws xs : List Int} (h : WrR w D b0 v ws) (hs : SlR w sv (u8s xs)) (hl : ws.length + xs.length ≤ 1000000000) :
    Calls Try.prog 88 #[.pointer (some ⟨b0, 0, none⟩), sv] w fun e w' => e = .returned (.tuple #[]) ∧ ∃ D' v', WrR w' D' b0 v' (ws ++ xs) ∧ Moved D D' w w' := by
  obtain ⟨ao, c, rfl, hc1, hc2⟩ := hs.form
  simp only [List.length_map] at hs hc1 ⊢
  have H := Lib.hid h
  have HS := Lib.hid hs
  obtain ⟨i0, hi, hz0, hz1, hz2⟩ := info_parts Try.byteInfo
  obtain ⟨c0, z0⟩ := h.cell
  have h1l : ws.length + (u8s xs).length ≤ 1099511627776 := by simp; omega
  clear h hs
  go_enter Try.func88, Try.ntmps88
  go_wp2_with (at_builtin; (refine wpList_appSrc rfl (.tmp 10) (.tmp 11) 30 rfl 0 5 i0 (.int .u8 0) 1 Try.underlying30 hi hz0 hz1 hz2 rfl (by decide) rfl rfl H.out.own HS.out (u8s_one xs) h1l (Nat.zero_le _) ?_)
               intro v2 w2 hown hb2 hg2 hk2 _
               obtain ⟨vo, vc, rfl, _, _⟩ := own_form hown
               have HA := Lib.hid (H.out.app (zs := ws ++ xs) (v' := .slice vo (ws.length + (u8s xs).length) vc) (by simpa [u8s] using hown) hb2 hg2 hk2)
               obtain ⟨c0, z0, _⟩ := HA.out
               clear hown hb2 hg2 hk2)
  go_end0
  obtain ⟨_, _, hr, hm⟩ := HA.out
  simp only [List.length_map] at hr hm
  exact ⟨rfl, _, _, hr, hm⟩
theorem wbytes_any {D : Nat → Prop} {w : World} {b0 : Nat} {v sv : Value} {ws xs : List Int} (h : WrR w D b0 v ws) (hs : SlR w sv (u8s xs)) (ho : u8s xs ≠ [] → ∀ k, sv.ownBlock = some k → ¬ D k) (hl : ws.length + 9 + xs.length ≤ 1000000000) :
    Calls Try.prog 74 #[.pointer (some ⟨b0, 0, none⟩), sv] w fun e w' => e = .returned (.tuple #[]) ∧ ∃ D' v', WrR w' D' b0 v' (ws ++ putB xs) ∧ Moved D D' w w' := by
  obtain ⟨ao, c, rfl, hc1, hc2⟩ := hs.form
  simp only [List.length_map] at hs hc1 ⊢
  have hU := Lib.hid (uint_any h (x := (xs.length : Int)) (by constructor <;> omega) (by omega))
  have HS := Lib.hid hs
  have HO := Lib.hid ho
  have hwl : IntKind.u64.wrap (xs.length : Int) = (xs.length : Int) := IntWalk.u64_in _ (by omega)
  have hpl := putU_len (xs.length : Int)
  have hsl := sz_le (xs.length : Int)
  have HP := Lib.hid hpl
  clear h hs hpl ho
  go_enter Try.func74, Try.ntmps74
  go_wp2_with fail
  refine hU.out.mono ?_
  rintro e w1 ⟨rfl, D1, v1, hr1, hm1⟩
  have HR1 := Lib.hid hr1
  have HM1 := Lib.hid hm1
  have hs1 := HS.out.keepE hm1.keep (fun hne k hk => HO.out hne k (by simpa using hk))
  have HS1 := Lib.hid hs1
  clear hr1 hm1 hs1 hwl
  go_wp2_with fail
  refine (wraw_any HR1.out HS1.out (by rw [List.length_append, HP.out]; omega)).mono ?_
  rintro e w2 ⟨rfl, D2, v2, hr2, hm2⟩
  go_wp2_with fail
  go_end0
  exact ⟨rfl, D2, v2, by unfold putB; rw [← List.append_assoc]; exact hr2, HM1.out.trans hm2⟩
theorem wout_any {D : Nat → Prop} {w : World} {b0 : Nat} {v : Value} {ws : List Int} (h : WrR w D b0 v ws) (hl : ws.length ≤ 1000000000) :
    Calls Try.prog 75 #[.pointer (some ⟨b0, 0, none⟩)] w fun e w' => ∃ v', e = .returned v' ∧ w'.ownsRow w.heap.size 5 1 v' ws.length (u8s ws) ∧ Below w.heap.size w w' := by
  have HC := Lib.hid (cloneB_any (SlR.of_own h.own) hl)
  obtain ⟨c0, z0⟩ := h.cell
  clear h
  go_enter Try.func75, Try.ntmps75
  go_wp2_with fail
  refine HC.out.mono ?_
  rintro e w1 ⟨v1, rfl, ho, hb⟩
  go_wp2_with fail
  go_ret
  exact ⟨v1, rfl, ho, hb⟩

/-- A writer at p, all of whose blocks are of D. -/
def WrO (p : Value) (D : Nat → Prop) (w : World) (ws : List Int) : Prop := ∃ b0 v, p = .pointer (some ⟨b0, 0, none⟩) ∧ WrR w D b0 v ws
def obWr (p : Value) (D : Nat → Prop) (ws : List Int) : Ob := ⟨D, fun w => WrO p D w ws⟩
theorem obWr_good (p : Value) (D : Nat → Prop) (ws : List Int) : (obWr p D ws).Good :=
  ⟨fun ⟨b0, v, e, h⟩ hk hs => ⟨b0, v, e, h.keep hk hs⟩, fun ⟨_, _, _, h⟩ k hk => h.lt k hk⟩
section
variable {W w : World} {os : List Ob} {p : Value} {D : Nat → Prop} {ws : List Int}
theorem SepW.wrNew (h : SepW W w os) : Calls Try.prog 72 #[] w fun e w' => ∃ b0 D, e = .returned (.pointer (some ⟨b0, 0, none⟩)) ∧ SepW W w' (obWr (.pointer (some ⟨b0, 0, none⟩)) D [] :: os) :=
  (new_writer w).mono fun e w' ⟨h1, h2, h3⟩ => ⟨_, _, h1, h.new h3 (obWr_good ..) ⟨_, _, rfl, h2⟩ (fun k hk => by rw [show k = w.heap.size from hk]; exact Nat.le_refl _)⟩
theorem SepW.wrUint (h : SepW W w os) (i : Nat) (hi : os[i]? = some (obWr p D ws)) {x : Int} (hx : U1 x) (hl : ws.length ≤ 1000000000) :
    Calls Try.prog 73 #[p, .int .u64 x] w fun e w' => e = .returned (.tuple #[]) ∧ ∃ D', SepW W w' (os.set i (obWr p D' (ws ++ putU x))) := by
  obtain ⟨b0, v, rfl, hr⟩ := (h.get i hi : WrO p D w ws)
  exact (uint_any hr hx hl).mono fun e w' ⟨h1, D', v', h2, h3⟩ => ⟨h1, D', h.set i hi h3.keep (obWr_good ..) ⟨b0, v', rfl, h2⟩ h3.new⟩
theorem SepW.wrRaw (h : SepW W w os) (i : Nat) (hi : os[i]? = some (obWr p D ws)) {sv : Value} {xs : List Int} (hs : SlR w sv (u8s xs)) (hl : ws.length + xs.length ≤ 1000000000) :
    Calls Try.prog 88 #[p, sv] w fun e w' => e = .returned (.tuple #[]) ∧ ∃ D', SepW W w' (os.set i (obWr p D' (ws ++ xs))) := by
  obtain ⟨b0, v, rfl, hr⟩ := (h.get i hi : WrO p D w ws)
  exact (wraw_any hr hs hl).mono fun e w' ⟨h1, D', v', h2, h3⟩ => ⟨h1, D', h.set i hi h3.keep (obWr_good ..) ⟨b0, v', rfl, h2⟩ h3.new⟩
theorem SepW.wrBytes (h : SepW W w os) (i : Nat) (hi : os[i]? = some (obWr p D ws)) {sv : Value} {xs : List Int} (hs : SlR w sv (u8s xs)) (ho : u8s xs ≠ [] → ∀ k, sv.ownBlock = some k → ¬ D k) (hl : ws.length + 9 + xs.length ≤ 1000000000) :
    Calls Try.prog 74 #[p, sv] w fun e w' => e = .returned (.tuple #[]) ∧ ∃ D', SepW W w' (os.set i (obWr p D' (ws ++ putB xs))) := by
  obtain ⟨b0, v, rfl, hr⟩ := (h.get i hi : WrO p D w ws)
  exact (wbytes_any hr hs ho hl).mono fun e w' ⟨h1, D', v', h2, h3⟩ => ⟨h1, D', h.set i hi h3.keep (obWr_good ..) ⟨b0, v', rfl, h2⟩ h3.new⟩
theorem SepW.wrOut (h : SepW W w os) (i : Nat) (hi : os[i]? = some (obWr p D ws)) (hl : ws.length ≤ 1000000000) :
    Calls Try.prog 75 #[p] w fun e w' => ∃ v', e = .returned v' ∧ w'.ownsRow w.heap.size 5 1 v' ws.length (u8s ws) ∧ Below w.heap.size w w' := by
  obtain ⟨b0, v, rfl, hr⟩ := (h.get i hi : WrO p D w ws)
  exact wout_any hr hl
end
end Go.Proofs.Ytjdjfhioobhcjaa
