/-
  Law 17: a message as an argument; what PaxosStrange finds at each step.
-/
import Derived.Test.YtgmdedkingampaaGreatPxZc
import Derived.Lib.SmallJoins
set_option linter.unusedVariables false
set_option linter.unusedSimpArgs false
namespace Go.Proofs.YtgmdedkingampaaGreat
open Go.ChangeShapes Go.WideShapes Go.ChangeAt Go.RowKit Go.Maps
set_option maxRecDepth 1000000
set_option linter.unusedVariables false
set_option linter.unusedSimpArgs false

theorem idxI_out {xs : List Int} {x : Int} (h : x ∉ xs) : idxI xs x = -1 := by
  unfold idxI
  rw [if_neg h]
theorem no_prop (w : World) (v : Value) : Calls Tryz.prog 11 #[.pointer none, v] w fun e w' => e = .returned (.tuple #[.slice none 0 0, .int .i64 1]) ∧ w = w' := by
  go_enter Tryz.func11, Tryz.ntmps11
  go_wp2_with fail
  go_returns
  exact ⟨rfl, rfl⟩
theorem no_value (w : World) (s : Int) : Calls Tryz.prog 15 #[.pointer none, .int .u64 s] w fun e w' => e = .returned (.tuple #[.slice none 0 0, .bool false]) ∧ w = w' := by
  go_enter Tryz.func15, Tryz.ntmps15
  go_wp2_with fail
  go_returns
  exact ⟨rfl, rfl⟩
theorem no_next (w : World) : Calls Tryz.prog 14 #[.pointer none] w fun e w' => e = .returned (.int .u64 0) ∧ w = w' := by
  go_enter Tryz.func14, Tryz.ntmps14
  go_wp2_with fail
  go_ret
  exact ⟨rfl, rfl⟩
theorem no_leads (w : World) : Calls Tryz.prog 17 #[.pointer none] w fun e w' => e = .returned (.bool false) ∧ w = w' := by
  go_enter Tryz.func17, Tryz.ntmps17
  go_wp2_with fail
  go_ret
  exact ⟨rfl, rfl⟩
theorem no_err (w : World) : Calls Tryz.prog 23 #[.pointer none] w fun e w' => e = .returned (.int .i64 1) ∧ w = w' := by
  go_enter Tryz.func23, Tryz.ntmps23
  go_wp2_with fail
  go_ret
  exact ⟨rfl, rfl⟩
theorem no_up (w : World) : Calls Tryz.prog 31 #[.pointer none] w fun e w' => e = .returned (.bool false) ∧ w = w' := by
  go_enter Tryz.func31, Tryz.ntmps31
  go_wp2_with fail
  go_ret
  exact ⟨rfl, rfl⟩
theorem no_tick (w : World) : Calls Tryz.prog 16 #[.pointer none] w fun e w' => e = .returned (.slice none 0 0) ∧ Below w.heap.size w w' := by
  go_enter Tryz.func16, Tryz.ntmps16
  go_wp2_with fail
  refine (no_up _).mono ?_
  rintro e w1 ⟨rfl, rfl⟩
  go_wp2_with fail
  go_ret
  exact ⟨rfl, Below.alloc (Below.refl _ _) (Nat.le_refl _) _⟩
theorem no_handle (w : World) (t k b s : Int) (o : Mo) (bv : Value) : Calls Tryz.prog 19 #[.pointer none, .int .i64 t, .agg (msC k b s o bv)] w fun e w' => e = .returned (.slice none 0 0) ∧ Below w.heap.size w w' := by
  go_enter Tryz.func19, Tryz.ntmps19
  go_wp2_with fail
  refine (no_up _).mono ?_
  rintro e w1 ⟨rfl, rfl⟩
  go_wp2_with fail
  go_ret
  exact ⟨rfl, Below.alloc (Below.refl _ _) (Nat.le_refl _) _⟩
theorem no_seg (w : World) (fr n : Int) : Calls Tryz.prog 60 #[.pointer none, .int .i64 fr, .int .i64 n] w fun e w' => e = .returned (.tuple #[.pointer none, .int .i64 1]) ∧ w = w' := by
  go_enter Tryz.func60, Tryz.ntmps60
  go_wp2_with fail
  go_returns
  exact ⟨rfl, rfl⟩
section
variable {W w w' : World} {os : List Ob}
/-- A segment from a block on that leaves too few behind it. -/
theorem SepW.sgOpenNo {b0 : Nat} {D : Nat → Prop} {d : Dk} (h : SepW W w os) (i : Nat) (hi : os[i]? = some (obDk b0 D d)) {fr n : Int} (hn : 1 ≤ n ∧ n ≤ 65536) (hd : d.l.length ≤ 65536) (hb : fr < 0 ∨ (d.l.length : Int) < fr + n) :
    Calls Tryz.prog 60 #[.pointer (some ⟨b0, 0, none⟩), .int .i64 fr, .int .i64 n] w fun e w' => e = .returned (.tuple #[.pointer none, .int .i64 1]) ∧ w = w' := by
  have HL := Lib.hid (h.dkLen i hi)
  have d2 : decide (n < 1) = false := decide_eq_false (by omega)
  generalize (d.l.length : Int) = N at *
  clear h hi
  by_cases h1 : fr < 0
  · go_enter Tryz.func60, Tryz.ntmps60
    go_wp2_with fail
    go_returns
    exact ⟨rfl, rfl⟩
  · have d1 : decide (fr < 0) = false := decide_eq_false h1
    by_cases h3 : N < fr
    · clear h1 hb
      go_enter Tryz.func60, Tryz.ntmps60
      go_wp2_with (first | (go_at_call 99; (with_reducible refine HL.out.mono ?_); rintro e w' ⟨rfl, rfl⟩) | fail)
      go_returns
      exact ⟨rfl, rfl⟩
    · have d3 : decide (N < fr) = false := decide_eq_false h3
      have hw : IntKind.i64.wrap (N - fr) = N - fr := IntWalk.i64_in _ (by constructor <;> omega)
      have d4 : N - fr < n := by omega
      clear h1 hb h3
      go_enter Tryz.func60, Tryz.ntmps60
      go_wp2_with (first | (go_at_call 99; (with_reducible refine HL.out.mono ?_); rintro e w' ⟨rfl, rfl⟩) | fail)
      go_returns
      exact ⟨rfl, rfl⟩
open Classical in
theorem nd_openNo (dv : Value) {w : World} {lv : Value} {ps : List Int} (fr n id pat : Int) (hl : SlR w lv (i64s ps)) (hr : ¬ RightL ps ∨ id ∉ ps) :
    Calls Tryz.prog 21 #[dv, .int .i64 fr, .int .i64 n, .int .i64 id, lv, .int .i64 pat] w fun e w' => e = .returned (.tuple #[.pointer none, .int .i64 1]) ∧ w = w' := by
  obtain ⟨lo, lc, rfl, hlc, hlc2⟩ := hl.form
  simp only [List.length_map] at hl hlc hlc2 ⊢
  have HI := Lib.hid (index_any hl id)
  have HR := Lib.hid (right_any' hl)
  by_cases hrr : RightL ps
  · rw [decide_eq_true hrr] at HR
    rw [idxI_out (hr.resolve_left (fun h => h hrr))] at HI
    clear hl hr hrr
    go_enter Tryz.func21, Tryz.ntmps21
    go_wp2_with fail
    refine HI.out.mono ?_
    rintro e w1 ⟨rfl, rfl⟩
    go_wp2_with fail
    refine HR.out.mono ?_
    rintro e w1 ⟨rfl, rfl⟩
    go_wp2_with fail
    go_returns
    exact ⟨rfl, rfl⟩
  · rw [decide_eq_false hrr] at HR
    clear hl hr hrr
    go_enter Tryz.func21, Tryz.ntmps21
    go_wp2_with fail
    refine HI.out.mono ?_
    rintro e w1 ⟨rfl, rfl⟩
    go_wp2_with fail
    refine HR.out.mono ?_
    rintro e w1 ⟨rfl, rfl⟩
    go_wp2_with fail
    go_returns
    exact ⟨rfl, rfl⟩
open Classical in
theorem nd_openBad (h : SepW W w os) {dv lv : Value} {ps : List Int} {fr n id pat : Int} (hl : SlR w lv (i64s ps)) (hr : RightL ps) (hid : id ∈ ps) (hp : 1 ≤ pat ∧ pat ≤ 1000)
    (hsg : ∀ w1 o, SepW W w1 (o :: os) → Calls Tryz.prog 60 #[dv, .int .i64 fr, .int .i64 n] w1 fun e w' => e = .returned (.tuple #[.pointer none, .int .i64 1]) ∧ w1 = w') :
    Calls Tryz.prog 21 #[dv, .int .i64 fr, .int .i64 n, .int .i64 id, lv, .int .i64 pat] w fun e w' => e = .returned (.tuple #[.pointer none, .int .i64 1]) ∧ SepW W w' os := by
  have hps : ps.length ≤ 7 := hr.2.2
  have hix := idxI_in hid
  obtain ⟨lo, lc, rfl, hlc, hlc2⟩ := hl.form
  simp only [List.length_map] at hl hlc hlc2 ⊢
  have H := Lib.hid h
  have HI := Lib.hid (index_any hl id)
  have HR := Lib.hid (right_any' hl)
  rw [decide_eq_true hr] at HR
  have HIx := Lib.hid hix
  have HSg := Lib.hid hsg
  clear h hl hr hid hix hsg
  go_enter Tryz.func21, Tryz.ntmps21
  go_wp2_with fail
  refine HI.out.mono ?_
  rintro e w1 ⟨rfl, rfl⟩
  go_wp2_with fail
  refine HR.out.mono ?_
  rintro e w1 ⟨rfl, rfl⟩
  clear HI HR
  have hneg : decide (idxI ps id < 0) = false := decide_eq_false (by have := HIx.out.1; omega)
  have HEl := Lib.hid (H.out.elNew (at' := idxI ps id) (p := pat) HIx.out.1 (by have := HIx.out.2; omega) hp.1 hp.2)
  go_wp2_with fail
  refine HEl.out.mono ?_
  rintro e w2 ⟨bEl, rfl, hs2⟩
  have HS2 := Lib.hid hs2.tail
  have HS := Lib.hid (HSg.out _ _ hs2)
  clear hs2 HEl H HSg
  go_wp2_with fail
  refine HS.out.mono ?_
  rintro e w3 ⟨rfl, rfl⟩
  clear HS
  go_wp2_with fail
  go_returns
  exact ⟨rfl, HS2.out⟩
end
end Go.Proofs.YtgmdedkingampaaGreat

namespace Go.Proofs.YtgmdedkingampaaGreat
open Go.ChangeShapes Go.WideShapes Go.ChangeAt Go.RowKit Go.Maps
set_option maxRecDepth 1000000
set_option linter.unusedVariables false
set_option linter.unusedSimpArgs false

theorem need_small {k : Nat} (h : k ≤ 225) : need k ≤ 5 := by unfold need; omega
theorem noteN_e {x : Nd} {m : Nat} (h : Fine x m) {bs : List Int} (hn : need bs.length ≤ m) : (noteN x bs).e = 0 := (noteN_fine h hn).e
/-- It is no leader, and isn't about to be one. -/
structure Idle (x : Nd) : Prop where
  st : x.L.stage = 0
  op : x.L.op = fun _ => none
theorem noteN_idle {x : Nd} (h : Idle x) (bs : List Int) : Idle (noteN x bs) := by
  have hs := (noteN_same x bs).2.2.2.2.2.2.2.2.1
  exact ⟨by rw [hs]; exact h.st, by rw [hs]; exact h.op⟩
theorem heard_fine {x : Nd} {m : Nat} (h : Fine x m) (b : Int) : Fine (heardN x b) m := h.of rfl rfl rfl
/-- What it comes to: no error, no leader. -/
theorem idle_handR {x y : Nd} {t k b s : Int} {xs : List Int} {ms : List Om} (h : Fine x 10) (hi : Idle x) (lx : xs.length ≤ 100) (hh : HandR x t k b s xs y ms) : y.e = 0 ∧ y.L.stage = 0 ∧ y.NL = x.NL ∧ y.ps = x.ps := by
  have hs := hi.st
  have hn1 : ∀ (kd : Int) (ns : List Int) (v : Option (List Int)), ns.length ≤ 2 → (v.getD []).length ≤ 100 → need (noteB kd ns v).length ≤ 10 := fun kd ns v h1 h2 => by
    have h3 := noteB_len kd ns v
    have := need_small (k := (noteB kd ns v).length) (by omega)
    omega
  rcases hh with ⟨_, ks, _, rfl, _⟩ | ⟨_, hp⟩ | ⟨_, rfl, _⟩ | ⟨_, ha⟩ | ⟨_, rfl, _⟩ | ⟨_, ⟨nx, rfl⟩, _⟩ | ⟨_, rfl, _⟩ | ⟨_, rfl, _⟩
  · have hq := noteN_same (promisedN x b) (noteB 1 [b] none)
    have he := noteN_e (h.of (y := promisedN x b) rfl rfl rfl) (hn1 1 [b] none (by simp) (by simp))
    unfold prepF
    repeat' split
    all_goals first
      | exact ⟨h.e, hs, rfl, rfl⟩
      | exact ⟨he, by show (noteN (promisedN x b) (noteB 1 [b] none)).L.stage = 0; rw [hq.2.2.2.2.2.2.2.2.1]; exact hs, hq.2.2.2.2.2.2.2.1, hq.2.1⟩
  · have hno : ¬ PromOk x t b xs := fun hp => by have := hp.2.1.1; omega
    rcases hp with ⟨_, rfl, _⟩ | ⟨h1, _⟩ | ⟨h1, _⟩ | ⟨h1, _⟩
    · exact ⟨h.e, hs, rfl, rfl⟩
    · exact absurd h1 hno
    · exact absurd h1 hno
    · exact absurd h1 hno
  · have hq := noteN_same (acceptedN x ⟨s, b, xs⟩) (noteB 2 [s, b] (some xs))
    have he := noteN_e (h.of (y := acceptedN x ⟨s, b, xs⟩) rfl rfl rfl) (hn1 2 [s, b] (some xs) (by simp) (by simpa using lx))
    unfold acceptF
    repeat' split
    all_goals first
      | exact ⟨h.e, hs, rfl, rfl⟩
      | exact ⟨he, by show (noteN (acceptedN x ⟨s, b, xs⟩) (noteB 2 [s, b] (some xs))).L.stage = 0; rw [hq.2.2.2.2.2.2.2.2.1]; exact hs, hq.2.2.2.2.2.2.2.1, hq.2.1⟩
  · obtain ⟨y1, o, hc, hm⟩ := ha
    rcases hc with ⟨_, rfl, rfl⟩ | ⟨h1, _⟩
    · obtain ⟨rfl, _⟩ := hm
      exact ⟨h.e, hs, rfl, rfl⟩
    · exact absurd h1.1 (by omega)
  · unfold refusedN
    split
    · exact ⟨h.e, rfl, rfl, rfl⟩
    · exact ⟨h.e, hs, rfl, rfl⟩
  · have hq := noteN_same x (noteB 3 [s] (some xs))
    have he := noteN_e h (hn1 3 [s] (some xs) (by simp) (by simpa using lx))
    unfold learnN
    repeat' split
    all_goals first
      | exact ⟨h.e, hs, rfl, rfl⟩
      | exact ⟨he, by show (noteN x (noteB 3 [s] (some xs))).L.stage = 0; rw [hq.2.2.2.2.2.2.2.2.1]; exact hs, hq.2.2.2.2.2.2.2.1, hq.2.1⟩
  · exact ⟨h.e, hs, rfl, rfl⟩
  · unfold beatF beatN
    repeat' split
    all_goals first
      | exact ⟨h.e, hs, rfl, rfl⟩
      | exact ⟨h.e, rfl, rfl, rfl⟩
theorem idle_handle {x y : Nd} {t k b s : Int} {xs : List Int} {ms : List Om} (h : Fine x 10) (hi : Idle x) (lx : xs.length ≤ 100) (hh : HandleR x t k b s xs y ms) : y.e = 0 ∧ y.L.stage = 0 ∧ y.NL = x.NL ∧ y.ps = x.ps ∧ ((own k = false ∨ t ∉ x.ps) → y = x ∧ ms = []) := by
  rcases hh with ⟨_, rfl, rfl⟩ | ⟨_, h1, h2, ms', h3, _⟩
  · exact ⟨h.e, hi.st, rfl, rfl, fun _ => ⟨rfl, rfl⟩⟩
  · obtain ⟨a, b, c, d⟩ := idle_handR h hi lx h3
    refine ⟨a, b, c, d, fun hno => ?_⟩
    rcases hno with e | e
    · rw [h2] at e; cases e
    · exact absurd h1 e
theorem newNd_fine (id : Int) (ps : List Int) : Fine (newNd id ps 400 400 2) 400 := by
  refine ⟨rfl, rfl, rfl, rfl, rfl, ?_, (by show 0 + 400 ≤ 400; decide), (by show 0 + 400 ≤ 60000; decide)⟩
  show 0 + 400 ≤ (List.replicate 400 zeroB).length
  rw [List.length_replicate]
  decide
theorem newNd_idle (id : Int) (ps : List Int) : Idle (newNd id ps 400 400 2) := ⟨rfl, rfl⟩
theorem newNd_ok (id : Int) {ps : List Int} (h : ps.length ≤ 7) : NdOk (newNd id ps 400 400 2) 100 :=
  ⟨h, Nat.zero_le _, Nat.zero_le _, (by show 0 < 1000000; decide), (by intro a v hh; cases hh), (by intro s v g hh; cases hh), (newNd_fine id ps).toRoom (by decide), by decide⟩
theorem newXs_at {n i : Nat} (h : i < n) : (newXs n n)[i]? = some (newNd i (psN n) 400 400 2) := by
  unfold newXs
  rw [List.getElem?_map, List.getElem?_range h]
  rfl
theorem psN_mem3 (t : Int) : t ∈ psN 3 ↔ 0 ≤ t ∧ t < 3 := by
  show t ∈ [0, 1, 2] ↔ _
  simp only [List.mem_cons, List.not_mem_nil, or_false]
  omega
end Go.Proofs.YtgmdedkingampaaGreat

namespace Go.Proofs.YtgmdedkingampaaGreat
open Go.ChangeShapes Go.WideShapes Go.ChangeAt Go.RowKit Go.Maps
set_option maxRecDepth 1000000
set_option linter.unusedVariables false
set_option linter.unusedSimpArgs false

def I64 (x : Int) : Prop := -9223372036854775808 ≤ x ∧ x ≤ 9223372036854775807
/-- A message that was told. -/
structure MsA where
  k : Int
  b : Int
  s : Int
  sh : Int
  sg : Int
  client : Int
  seq : Int
  pos : Int
  code : Int
  vec : List Int
  body : List Int
def MsA.o (m : MsA) (vv : Value) : Mo := ⟨.int .i64 m.sh, .int .i64 m.sg, .int .u64 m.client, .int .u64 m.seq, .int .u64 m.pos, .int .i64 m.code, vv⟩
structure MsOk (m : MsA) : Prop where
  k : I64 m.k
  b : U1 m.b
  s : U1 m.s
  body : U8 m.body
theorem open_slice {H : Type} {enc : TypeId × Value → H} {P : Program} {W : World} {t e : TypeId} {k : IntKind} {v : Value} {n : Nat} {y : DataW H × List MemPlace} (ht : P.underlying t = some (.slice e)) (he : P.underlying e = some (.int k)) (c : P.cellsOf e = 1)
    (h : DataW.trod enc P W 0 (fun _ => true) true n t [v] = some y) : ∃ xs : List Int, SlR W v (xs.map (Value.int k)) ∧ ∀ x ∈ xs, (Lit.int k x).wf = true := by
  rcases open_ints ht he c h with ⟨hcs, _⟩ | ⟨a', len', cap', zs, hcs, _, hl', hm', hz, _, hcell', hwz⟩
  · cases hcs
    exact ⟨[], SlR.nil W, by intro x hx; cases hx⟩
  · cases hcs
    exact ⟨zs.take len', SlR.of_cells hl' hm' (by simpa using hz) hcell', fun x hx => hwz x (List.mem_of_mem_take hx)⟩
theorem Tryz.msg_open {H : Type} {enc : TypeId × Value → H} {W : World} {v : Value} {d : DataW H} {ps : List MemPlace} {r : Reach} {b0 : Nat} (hval : Value.okWide Tryz.prog W r b0 42 v)
    (h : DataW.Trod enc Tryz.prog W 0 (fun _ => true) true 42 v d ps) : ∃ (m : MsA) (vv bv : Value), v = .agg (msC m.k m.b m.s (m.o vv) bv) ∧ MsOk m ∧ SlR W vv (m.vec.map (Value.int .u64)) ∧ SlR W bv (u8s m.body) := by
  obtain ⟨cs, rfl, hsz⟩ := okWide_struct Tryz.underlying42 hval
  have hC : Tryz.prog.cellsOf 42 = 11 := by kernel_rfl
  rw [hC] at hsz
  obtain ⟨l⟩ := cs
  obtain ⟨fuel, hf⟩ := h
  obtain ⟨xs, n, hk, hxy, _, hxl, hg⟩ := DataW.trod_struct Tryz.underlying42 hf
  have k1 : Tryz.prog.cellsOf 3 = 1 := by kernel_rfl
  have k2 : Tryz.prog.cellsOf 39 = 1 := by kernel_rfl
  have k3 : Tryz.prog.cellsOf 40 = 1 := by kernel_rfl
  have k4 : Tryz.prog.cellsOf 27 = 1 := by kernel_rfl
  match xs, hxl, l, hsz with
  | [y0, y1, y2, y3, y4, y5, y6, y7, y8, y9, y10], _, [c0, c1, c2, c3, c4, c5, c6, c7, c8, c9, c10], _ =>
    have g0 := hg 0 _ rfl
    have g1 := hg 1 _ rfl
    have g2 := hg 2 _ rfl
    have g3 := hg 3 _ rfl
    have g4 := hg 4 _ rfl
    have g5 := hg 5 _ rfl
    have g6 := hg 6 _ rfl
    have g7 := hg 7 _ rfl
    have g8 := hg 8 _ rfl
    have g9 := hg 9 _ rfl
    have g10 := hg 10 _ rfl
    simp [Value.cells, k1, k2, k3, k4] at g0 g1 g2 g3 g4 g5 g6 g7 g8 g9 g10
    obtain ⟨n0, q0, _, w0⟩ := DataW.trod_int Tryz.underlying3 g0
    obtain ⟨n1, q1, _, w1⟩ := DataW.trod_int Tryz.underlying39 g1
    obtain ⟨n2, q2, _, w2⟩ := DataW.trod_int Tryz.underlying39 g2
    obtain ⟨n3, q3, _, w3⟩ := DataW.trod_int Tryz.underlying3 g3
    obtain ⟨n4, q4, _, w4⟩ := DataW.trod_int Tryz.underlying3 g4
    obtain ⟨n5, q5, _, w5⟩ := DataW.trod_int Tryz.underlying39 g5
    obtain ⟨n6, q6, _, w6⟩ := DataW.trod_int Tryz.underlying39 g6
    obtain ⟨n7, q7, _, w7⟩ := DataW.trod_int Tryz.underlying39 g7
    obtain ⟨n8, q8, _, w8⟩ := DataW.trod_int Tryz.underlying3 g8
    cases q0; cases q1; cases q2; cases q3; cases q4; cases q5; cases q6; cases q7; cases q8
    simp [Lit.wf, IntKind.min, IntKind.max, IntKind.signed, IntKind.bits] at w0 w1 w2
    obtain ⟨vs, hv1, _⟩ := open_slice Tryz.underlying40 Tryz.underlying39 (by kernel_rfl) g9
    obtain ⟨bs, hb1, hb2⟩ := open_slice Tryz.underlying27 Tryz.underlying5 (by kernel_rfl) g10
    exact ⟨⟨n0, n1, n2, n3, n4, n5, n6, n7, n8, vs, bs⟩, c9, c10, rfl, ⟨w0, w1, w2, u8_of_wf hb2⟩, hv1, hb1⟩
/-- A row of some things stands somewhere. -/
theorem row_form {w : World} {base : Nat} {e : TypeId} {v : Value} {n : Nat} {us : List Value} (h : w.ownsRow base e 1 v n us) (hn : 0 < n) : ∃ g c, v = .slice (some ⟨g, 0, none⟩) n c := by
  rcases h.2 with ⟨_, h0⟩ | ⟨g, cap, _, rfl, _⟩
  · omega
  · exact ⟨g, cap, rfl⟩
/-- What PaxosStrange keeps beside its node. -/
structure StC (OS : List Ob) (c : Nat) (gd dc gn nc : Nat) (mv : Value) (L : List Nq) (p0 : Nat) (ms : Array Value) : Prop where
  cl : OS[0]? = some (obBlk c (.cells (clC L.length (.slice (some ⟨gd, 0, none⟩) L.length dc) (.slice (some ⟨gn, 0, none⟩) L.length nc) mv) 36))
  nr : OS[2]? = some (obRow (.slice (some ⟨gn, 0, none⟩) L.length nc) 31 1 L.length (nodeV L))
  dr : OS[3]? = some (obRow (.slice (some ⟨gd, 0, none⟩) L.length dc) 53 1 L.length (diskV L))
  box : obBlk p0 (.cells ms 42) ∈ OS
theorem StC.cells {OS : List Ob} {c gd dc gn nc p0 : Nat} {mv : Value} {L : List Nq} {ms : Array Value} {W w : World} (hc : StC OS c gd dc gn nc mv L p0 ms) (l : List Ob) (h : SepW W w (l ++ OS)) :
    w.cell? ⟨c, 1, none⟩ = some (.slice (some ⟨gd, 0, none⟩) L.length dc) ∧ w.cell? ⟨c, 2, none⟩ = some (.slice (some ⟨gn, 0, none⟩) L.length nc) ∧ w.heap[p0]? = some (.cells ms 42 (0, 0)) := by
  have h1 := h.sub (List.sublist_append_right l OS)
  obtain ⟨-, a, b, -, -⟩ := h1.clCell 0 hc.cl
  obtain ⟨i, hi, e⟩ := List.getElem_of_mem hc.box
  exact ⟨a, b, h1.get i (by rw [List.getElem?_eq_getElem hi, e])⟩
theorem StC.at {OS : List Ob} {c gd dc gn nc p0 : Nat} {mv : Value} {L : List Nq} {ms : Array Value} {W w : World} (hc : StC OS c gd dc gn nc mv L p0 ms) (l : List Ob) (h : SepW W w (l ++ OS)) {i : Nat} {p : Nq} (hp : L[i]? = some p) :
    w.cell? ⟨gd, i, none⟩ = some (.pointer (some ⟨p.1.b0, 0, none⟩)) ∧ w.cell? ⟨gn, i, none⟩ = some (.pointer (some ⟨p.1.x, 0, none⟩)) := by
  have h1 := h.sub (List.sublist_append_right l OS)
  have hi := (List.getElem?_eq_some_iff.1 hp).1
  refine ⟨?_, ?_⟩
  · rw [(h1.get 3 hc.dr : w.ownsRow 0 53 1 _ L.length (diskV L)).cellAt i (by omega)]
    unfold diskV; rw [List.getElem?_map, hp]; rfl
  · rw [(h1.get 2 hc.nr : w.ownsRow 0 31 1 _ L.length (nodeV L)).cellAt i (by omega)]
    unfold nodeV; rw [List.getElem?_map, hp]; rfl
theorem bad_right : ¬ RightL [1, 0] := fun h => by
  have h1 := (h.1 1 0 rfl).2.2 1 (by decide) rfl
  omega
theorem not_in3 : (3 : Int) ∉ psN 3 := by rw [psN_mem3]; decide
end Go.Proofs.YtgmdedkingampaaGreat
