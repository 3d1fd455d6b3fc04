/-
  Contracts of package gather: New, Report.
-/
import Derived.Test.YtabanackdjlcmaaLib3
import Derived.Test.YtabanackdjlcmaaPlain2
import Derived.Test.YtabanackdjlcmaaFrame
import Derived.WideKeyPair
namespace Go.Proofs.Ytabanackdjlcmaa
open Go.ChangeShapes Go.WideShapes Go.ChangeAt Go.RowKit Go.Maps

theorem gArr : WideMaps.ArrKey Try.prog 75 3 2 := ⟨Try.underlying75, by kernel_rfl, by kernel_rfl, by kernel_rfl⟩
theorem gKeyed : Keyed Try.prog 75 := Keyed.of_law gArr.law
/-- How the key of a shard and a replica reads. -/
def gk (a b : Int) : Lit := .string (keyBytes [.int .i64 a, .int .i64 b])
theorem gk_of {a b : Int} (ha : 0 ≤ a) (ha1 : a ≤ 9223372036854775807) (hb : 0 ≤ b) (hb1 : b ≤ 9223372036854775807) : keyOf Try.prog 75 (.agg #[.int .i64 a, .int .i64 b]) = some (gk a b) :=
  WideMaps.keyOf_pair gArr Try.underlying3 ⟨Try.prog.types.size - 1, by kernel_rfl⟩ (by simp [Lit.wf, IntKind.min, IntKind.max, IntKind.signed, IntKind.bits]; omega) (by simp [Lit.wf, IntKind.min, IntKind.max, IntKind.signed, IntKind.bits]; omega)
theorem gk_inj {a b c d : Int} (ha : 0 ≤ a) (ha1 : a ≤ 9223372036854775807) (hb : 0 ≤ b) (hb1 : b ≤ 9223372036854775807) (hc : 0 ≤ c) (hc1 : c ≤ 9223372036854775807) (hd : 0 ≤ d) (hd1 : d ≤ 9223372036854775807) (h : gk a b = gk c d) : a = c ∧ b = d := by
  have h1 := gk_of ha ha1 hb hb1
  rw [h] at h1
  have := gKeyed.inj h1 (gk_of hc hc1 hd hd1)
  simpa using this
theorem gk_key (a b : Int) : WideAt.IsKeyLit (gk a b) := by trivial
theorem zeroRow (w : World) : (zeroValue 27).run Try.prog w = .ok (.slice none 0 0) w := by kernel_rfl

/-- What was reported: of a shard and a replica. -/
abbrev Rep := Int → Int → Option (List Int)
def putG (m : Rep) (s r : Int) (xs : List Int) : Rep := fun a b => if a = s ∧ b = r then some xs else m a b
theorem putG_self (m : Rep) (s r : Int) (xs : List Int) : putG m s r xs s r = some xs := by simp [putG]
theorem putG_ne (m : Rep) (s r : Int) (xs : List Int) (a b : Int) (h : ¬ (a = s ∧ b = r)) : putG m s r xs a b = m a b := by simp only [putG]; rw [if_neg h]

/-- How a row lies: in blocks of D, not in the map's. -/
def GVal (w : World) (D : Nat → Prop) (bm : Nat) (fv : Option Value) : Option (List Int) → Prop
  | none => fv = none
  | some xs => ∃ v, fv = some v ∧ SlR w v (u64s xs) ∧ ∀ k, v.ownBlock = some k → D k ∧ k ≠ bm
def Small (a : Int) : Prop := 0 ≤ a ∧ a ≤ 9223372036854775807
/-- A gatherer, all of whose blocks are of D; it writes bm alone. -/
structure GatR (w : World) (D : Nat → Prop) (b0 bm n : Nat) (m : Rep) : Prop where
  cells : w.heap[b0]? = some (.cells #[.map (some bm)] 74 (0, 0))
  lt : ∀ k, D k → k < w.heap.size
  d0 : D b0
  dm : D bm
  ne : bm ≠ b0
  vals : ∃ f, MapR w Try.prog 75 bm n f ∧ ∀ a b : Int, Small a → Small b → GVal w D bm (f (gk a b)) (m a b)
  small : ∀ a b xs, m a b = some xs → xs.length ≤ 4

theorem GVal.keep {S D D' : Nat → Prop} {w w' : World} {bm : Nat} {fv : Option Value} {mx : Option (List Int)} (hk : Keep S w w') (hS : ∀ k, S k → D k → k = bm) (hD : ∀ k, D k → D' k) (h : GVal w D bm fv mx) : GVal w' D' bm fv mx := by
  cases mx with
  | none => exact h
  | some xs =>
    obtain ⟨v, h1, h2, h3⟩ := h
    exact ⟨v, h1, h2.keep hk (fun k hk' hs => (h3 k hk').2 (hS k hs (h3 k hk').1)), fun k hk => ⟨hD k (h3 k hk).1, (h3 k hk).2⟩⟩
theorem GatR.keep {S D : Nat → Prop} {w w' : World} {b0 bm n : Nat} {m : Rep} (h : GatR w D b0 bm n m) (hk : Keep S w w') (hS : ∀ k, S k → ¬ D k) : GatR w' D b0 bm n m := by
  obtain ⟨h1, h2, h3, h4, h5, ⟨f, hf, hv⟩, h7⟩ := h
  refine ⟨(hk.block b0 (h2 _ h3) (fun hs => hS _ hs h3)).trans h1, fun k hd => Nat.lt_of_lt_of_le (h2 k hd) hk.size, h3, h4, h5, ⟨f, hf.keep hk (fun hs => hS _ hs h4), fun a b ha hb => (hv a b ha hb).keep hk (fun k hs hd => absurd hd (hS k hs)) (fun _ h => h)⟩, h7⟩
theorem GatR.below {B : Nat} {D : Nat → Prop} {w w' : World} {b0 bm n : Nat} {m : Rep} (h : GatR w D b0 bm n m) (hb : Below B w w') (hB : w.heap.size ≤ B) : GatR w' D b0 bm n m := by
  refine h.keep (S := fun k => w.heap.size ≤ k) (Below.keep hb (fun k hk h => by omega)) (fun k hk hd => ?_)
  have := h.lt k hd
  omega
theorem GatR.cell0 {D : Nat → Prop} {w : World} {b0 bm n : Nat} {m : Rep} (h : GatR w D b0 bm n m) : w.cell? ⟨b0, 0, none⟩ = some (.map (some bm)) := by
  have := h.cells
  simp [World.cell?, this]

theorem gnew_any (w : World) : Calls Try.prog 14 #[] w fun e w' => e = .returned (.pointer (some ⟨w.heap.size + 1, 0, none⟩)) ∧ GatR w' (fun k => k = w.heap.size ∨ k = w.heap.size + 1) (w.heap.size + 1) w.heap.size 0 (fun _ _ => none) ∧ Below w.heap.size w w' := by
  have hmm := @run_makeMap Try.prog
  go_enter Try.func14, Try.ntmps14
  go_wp2
  go_ret
  have e : ((w.alloc (.map #[] 0)).heap.size) = w.heap.size + 1 := by simp
  refine ⟨by simp, ⟨?_, fun k hk => by simp; omega, by simp, by simp, by omega, ⟨_, ((MapR.made w Try.prog 75).same (Below.heap_alloc _ _ _ (by simp))), fun a b _ _ => rfl⟩, by simp⟩, ((Below.refl _ _).alloc (Nat.le_refl _) _).alloc (by simp) _⟩
  have := heap_alloc_new (w.alloc (.map #[] 0)) (.cells #[.map (some w.heap.size)] 74 (0, 0))
  rw [e] at this
  exact this

def lookG (fv : Option Value) : Value := fv.getD (.slice none 0 0)
theorem glook_two {w : World} {bm n : Nat} {f : Lit → Option Value} {a b : Int} (h : MapR w Try.prog 75 bm n f) (ha : Small a) (hb : Small b) :
    (Instr.lookup 72 (.map (some bm)) (.agg #[.int .i64 a, .int .i64 b]) true).run Try.prog w = .ok (.tuple #[lookG (f (gk a b)), .bool (f (gk a b)).isSome]) w :=
  h.look_ok gKeyed Try.underlying72 (zeroRow w) (gk_of ha.1 ha.2 hb.1 hb.2)
theorem glook_one {w : World} {bm n : Nat} {f : Lit → Option Value} {a b : Int} (h : MapR w Try.prog 75 bm n f) (ha : Small a) (hb : Small b) :
    (Instr.lookup 72 (.map (some bm)) (.agg #[.int .i64 a, .int .i64 b]) false).run Try.prog w = .ok (lookG (f (gk a b))) w :=
  h.look gKeyed Try.underlying72 (zeroRow w) (gk_of ha.1 ha.2 hb.1 hb.2)
theorem GVal.look {w : World} {D : Nat → Prop} {bm : Nat} {fv : Option Value} {mx : Option (List Int)} (h : GVal w D bm fv mx) : SlR w (lookG fv) (u64s (mx.getD [])) ∧ fv.isSome = mx.isSome := by
  cases mx with
  | none => simp only [GVal] at h; subst h; exact ⟨SlR.nil w, rfl⟩
  | some xs => obtain ⟨v, rfl, h2, _⟩ := h; exact ⟨h2, rfl⟩

theorem rowsR_two {w : World} {va vb : Value} {a b : List Int} {t : TypeId} {fr : Nat × Nat} (ha : SlR w va (u64s a)) (hb : SlR w vb (u64s b)) :
    RowsR (w.alloc (.cells #[va, vb] t fr)) (.slice (some ⟨w.heap.size, 0, none⟩) 2 2) [a, b] := by
  have hbl : Below w.heap.size w (w.alloc (.cells #[va, vb] t fr)) := (Below.refl _ _).alloc (Nat.le_refl _) _
  refine ⟨_, 2, rfl, Nat.le_refl _, by decide, fun i r hr => ?_⟩
  match i, hr with
  | 0, hr => simp at hr; subst hr; exact ⟨_, va, rfl, World.news_of_block (heap_alloc_new w _) 0 va rfl, ha.below hbl (Nat.le_refl _)⟩
  | 1, hr => simp at hr; subst hr; exact ⟨_, vb, rfl, World.news_of_block (heap_alloc_new w _) 1 vb rfl, hb.below hbl (Nat.le_refl _)⟩
/-- What a report leaves. -/
def repG (m : Rep) (s r : Int) (xs : List Int) : Rep := putG m s r (maxI [(m s r).getD [], xs])
set_option maxRecDepth 100000
set_option maxHeartbeats 800000 in
theorem report_any {w : World} {D : Nat → Prop} {b0 bm n : Nat} {m : Rep} {s r : Int} {v : Value} {xs : List Int} (h : GatR w D b0 bm n m) (hv : SlR w v (u64s xs)) (lx : xs.length ≤ 4)
    (hs : 0 ≤ s ∧ s < 8) (hr : 0 ≤ r ∧ r < 4) (hn : n < 1000000) :
    Calls Try.prog 15 #[.pointer (some ⟨b0, 0, none⟩), .int .i64 s, .int .i64 r, v] w fun e w' => e = .returned (.int .i64 0) ∧ ∃ D' : Nat → Prop, GatR w' D' b0 bm (n + 1) (repG m s r xs) ∧ (∀ k, D' k → D k ∨ w.heap.size ≤ k) ∧ Keep (fun k => k = bm) w w' := by
  have H := Lib.hid h
  have HV := Lib.hid hv
  have c0 := h.cell0
  obtain ⟨ao, c, hve, hlc, hmc⟩ := hv.form
  obtain ⟨f, hf, hvals⟩ := h.vals
  have hval := (hvals s r ⟨hs.1, by omega⟩ ⟨hr.1, by omega⟩)
  obtain ⟨hs0, hs1⟩ := hs
  obtain ⟨hr0, hr1⟩ := hr
  simp only [List.length_map] at hve
  subst hve
  have Hval := Lib.hid hval
  have Hf := Lib.hid hf
  have Hvals := Lib.hid hvals
  clear h hv hlc hval hf hvals
  go_enter Try.func15, Try.ntmps15
  have hb1 : Below w.heap.size w (w.alloc (.cells #[.int .i64 s, .int .i64 r] 75)).drew := ((Below.refl _ _).alloc (Nat.le_refl _) _).drew
  have hbm := Hf.out.lt
  have hb0 := H.out.lt _ H.out.d0
  have hl := glook_one (Hf.out.same (hb1.block bm hbm)) ⟨hs0, by omega⟩ ⟨hr0, by omega⟩ (a := s) (b := r)
  have hg := Hval.out.look.1
  generalize hLe : lookG (f (gk s r)) = lv at *
  obtain ⟨lo, lc, hle, hlc1, hlc2⟩ := hg.form
  simp only [List.length_map] at hle hlc1
  generalize ((m s r).getD []).length = ln at hle hlc1
  subst hle
  have hb1' : Below w.heap.size w (w.alloc (.cells #[.int .i64 s, .int .i64 r] 75)) := ((Below.refl _ _).alloc (Nat.le_refl _) _)
  have hrows := rowsR_two (t := 27) (fr := (0, 0)) (hg.below hb1' (Nat.le_refl _)) (HV.out.below hb1' (Nat.le_refl _))
  rw [show (w.alloc (.cells #[.int .i64 s, .int .i64 r] 75)).heap.size = w.heap.size + 1 by simp] at hrows
  have HRows := Lib.hid (hrows.below (Below.refl _ _).drew (Nat.le_refl _))
  have hlen : ∀ x ∈ [(m s r).getD [], xs], x.length ≤ 4 := by
    intro x hx
    simp at hx
    rcases hx with rfl | rfl
    · cases hm : m s r with
      | none => simp
      | some ys => exact H.out.small _ _ _ hm
    · exact lx
  have Hlen := Lib.hid hlen
  have hcA : (w.alloc (.cells #[.int .i64 s, .int .i64 r] 75)).drew.cell? ⟨b0, 0, none⟩ = some (.map (some bm)) := (hb1.cell (p := ⟨b0, 0, none⟩) hb0).trans c0
  have hcS : (fun w' : World => w'.cell? ⟨b0, 0, none⟩ = some (.map (some bm)) ∧ w'.cell? ⟨w.heap.size, 0, none⟩ = some (.int .i64 s) ∧ w'.cell? ⟨w.heap.size, 1, none⟩ = some (.int .i64 r)) (w.alloc (.cells #[.int .i64 s, .int .i64 r] 75)).drew :=
    ⟨hcA, World.news_of_block (heap_alloc_new w _) 0 _ rfl, World.news_of_block (heap_alloc_new w _) 1 _ rfl⟩
  have HB1 := Lib.hid hb1
  clear hb1 hb1' hrows hg hlen
  have hstep : ∀ wm : World, Below ((w.alloc (.cells #[.int .i64 s, .int .i64 r] 75)).alloc (.cells #[.slice lo ln lc, .slice ao xs.length c] 27)).drew.heap.size ((w.alloc (.cells #[.int .i64 s, .int .i64 r] 75)).alloc (.cells #[.slice lo ln lc, .slice ao xs.length c] 27)).drew wm →
      Below w.heap.size w wm ∧ (wm.cell? ⟨b0, 0, none⟩ = some (.map (some bm)) ∧ wm.cell? ⟨w.heap.size, 0, none⟩ = some (.int .i64 s) ∧ wm.cell? ⟨w.heap.size, 1, none⟩ = some (.int .i64 r)) ∧
      ∀ vm, ∃ w2, (Instr.mapUpdate 72 (.map (some bm)) (.agg #[.int .i64 s, .int .i64 r]) vm).run Try.prog wm = .ok () w2 ∧ MapR w2 Try.prog 75 bm (n + 1) (putF f (gk s r) vm) ∧ wm.grownBy w2 (some bm) ∧ (w2.cell? ⟨b0, 0, none⟩ = some (.map (some bm)) ∧ w2.cell? ⟨w.heap.size, 0, none⟩ = some (.int .i64 s) ∧ w2.cell? ⟨w.heap.size, 1, none⟩ = some (.int .i64 r)) := by
    intro wm hbx
    have hbk : Below (w.heap.size + 1) (w.alloc (.cells #[.int .i64 s, .int .i64 r] 75)) wm := (((Below.refl (w.heap.size + 1) _).alloc (by simp) _).drew.trans (hbx.mono (by simp [World.drew])))
    have hb2 : Below w.heap.size w wm := ((Below.refl w.heap.size w).alloc (Nat.le_refl _) _).trans (hbk.mono (by simp))
    have hcM : wm.cell? ⟨b0, 0, none⟩ = some (.map (some bm)) ∧ wm.cell? ⟨w.heap.size, 0, none⟩ = some (.int .i64 s) ∧ wm.cell? ⟨w.heap.size, 1, none⟩ = some (.int .i64 r) := ⟨(hbk.cell (p := ⟨b0, 0, none⟩) (Nat.lt_succ_of_lt hb0)).trans hcS.1, (hbk.cell (p := ⟨w.heap.size, 0, none⟩) (Nat.lt_succ_self _)).trans hcS.2.1, (hbk.cell (p := ⟨w.heap.size, 1, none⟩) (Nat.lt_succ_self _)).trans hcS.2.2⟩
    refine ⟨hb2, hcM, fun vm => ?_⟩
    obtain ⟨w2, h1, h2, h3⟩ := (Hf.out.same (hb2.block bm hbm)).store gKeyed Try.underlying72 (by unfold maxLen; omega) (gk_of hs0 (by omega) hr0 (by omega)) (val := vm) (gk_key s r)
    have hne := H.out.ne
    exact ⟨w2, h1, h2, h3, h3.cell hcM.1 (by simp; omega), h3.cell hcM.2.1 (by simp; omega), h3.cell hcM.2.2 (by simp; omega)⟩
  have HStep := Lib.hid hstep
  clear hstep
  go_wp2_with fail
  go_region_held3 (fun w' => w'.cell? ⟨b0, 0, none⟩ = some (.map (some bm)) ∧ w'.cell? ⟨w.heap.size, 0, none⟩ = some (.int .i64 s) ∧ w'.cell? ⟨w.heap.size, 1, none⟩ = some (.int .i64 r)) (first | go_keep | exact hcS | exact hcB | exact hcC)
    (first
      | (go_at_call 36
         refine (max_any HRows.out (fun x hx => by have := Hlen.out x hx; omega)).mono ?_
         rintro e wm ⟨vm, rfl, hown, hbx⟩
         obtain ⟨hb2, hcB, hst⟩ := HStep.out wm hbx
         obtain ⟨w2, hrun, hm2, hg2, hcC⟩ := hst vm
         have hown := Lib.hid hown
         have hm2 := Lib.hid hm2
         have hg2 := Lib.hid hg2
         have hb2 := Lib.hid hb2
         have hbx := Lib.hid hbx
         clear hst))
  go_wp2
  go_ret
  have hkp : Keep (fun k => k = bm) w w2 := (Below.keep0 _ hb2.out).trans (Keep.grown hg2.out (fun k hk => by cases hk; rfl))
  have hsz : w.heap.size + 2 ≤ w2.heap.size := by
    have h1 := hbx.out.size
    have h2 := hg2.out.size
    simp [World.drew] at h1
    omega
  have hne := H.out.ne
  have hvo : ∀ k, vm.ownBlock = some k → w.heap.size + 2 ≤ k ∧ k < wm.heap.size := fun k hk => by
    have := hown.out.lt k hk
    simp [World.drew] at this
    omega
  have hd0 := H.out.d0
  refine ⟨rfl, fun k => D k ∨ (w.heap.size ≤ k ∧ k < w2.heap.size), ⟨?_, ?_, Or.inl hd0, Or.inl H.out.dm, hne, ⟨_, hm2.out, fun a b ha hb => ?_⟩, fun a b ys hy => ?_⟩, fun k hk => ?_, hkp⟩
  · exact (hkp.block b0 hb0 (by omega)).trans H.out.cells
  · intro k hk
    rcases hk with hk | hk
    · have := H.out.lt k hk; omega
    · exact hk.2
  · unfold putF repG
    by_cases e : a = s ∧ b = r
    · obtain ⟨rfl, rfl⟩ := e
      rw [if_pos rfl, putG_self]
      refine ⟨vm, rfl, (SlR.of_own hown.out).keep (S := fun k => k = bm) (Keep.grown hg2.out (fun k hk => by cases hk; rfl)) (fun k hk hs => ?_), fun k hk => ⟨Or.inr ⟨?_, ?_⟩, ?_⟩⟩
      · have := hvo k hk; omega
      · have := hvo k hk; omega
      · have := hvo k hk; have := hg2.out.size; omega
      · have := hvo k hk; omega
    · rw [if_neg (fun h => e (gk_inj ha.1 ha.2 hb.1 hb.2 hs0 (by omega) hr0 (by omega) h)), putG_ne _ _ _ _ _ _ e]
      exact (Hvals.out a b ha hb).keep hkp (fun k hk _ => hk) (fun k hk => Or.inl hk)
  · by_cases e : a = s ∧ b = r
    · obtain ⟨rfl, rfl⟩ := e
      unfold repG at hy
      rw [putG_self] at hy
      cases hy
      exact maxI_len _ _ Hlen.out
    · unfold repG at hy
      rw [putG_ne _ _ _ _ _ _ e] at hy
      exact H.out.small a b ys hy
  · rcases hk with hk | hk
    · exact Or.inl hk
    · exact Or.inr hk.1

set_option maxHeartbeats 400000 in
theorem report_bad {w : World} {p v : Value} {s r : Int} {b0 : Nat} (hp : p = .pointer (some ⟨b0, 0, none⟩)) (hs : 8 ≤ s) (hv : v = .slice none 0 0) :
    Calls Try.prog 15 #[p, .int .i64 s, .int .i64 r, v] w fun e w' => e = .returned (.int .i64 1) ∧ w = w' := by
  subst hp hv
  go_enter Try.func15, Try.ntmps15
  go_wp2
  go_ret
  exact ⟨rfl, rfl⟩
end Go.Proofs.Ytabanackdjlcmaa
