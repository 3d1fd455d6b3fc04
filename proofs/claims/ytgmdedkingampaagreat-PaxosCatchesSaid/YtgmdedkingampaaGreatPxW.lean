/-
  Law 17: peers, made.
-/
import Derived.Test.YtgmdedkingampaaGreatPxU
set_option linter.unusedVariables false
set_option linter.unusedSimpArgs false
namespace Go.Proofs.YtgmdedkingampaaGreat
open Go.ChangeShapes Go.WideShapes Go.ChangeAt Go.RowKit Go.Maps
set_option maxRecDepth 1000000
set_option linter.unusedVariables false
set_option linter.unusedSimpArgs false

/-- A node that bears a tick. -/
structure TkOk (x : Nd) : Prop where
  pn : x.ps ≠ []
  lf : 1 ≤ x.lf ∧ x.lf ≤ 100001
  id : 0 ≤ x.id ∧ x.id < 32
  top : U1 x.top
theorem nd_tick {W w : World} {os : List Ob} {q : NdA} {f : NdF} {x : Nd} {Mb : Nat} (h : SepW W w (ndOs q f x os)) (hN : x.e = 0 → NdOk x Mb ∧ TkOk x) :
    Calls Tryz.prog 16 #[.pointer (some ⟨q.x, 0, none⟩)] w fun e w' => ∃ y ms, TickR x y ms ∧ RetH W q os y ms e w' := by
  by_cases he : x.e = 0
  · obtain ⟨h1, h2⟩ := hN he
    by_cases hl : x.L.stage = 2
    · exact nd_tickLead h he hl h1.ps h2.pn (by have := h1.NL; omega)
    · exact nd_tickRun h he hl h2.lf h2.id h2.top h1.ps (by have := h1.na; omega) (h1.room.mono (by have := noteB_len 1 [nextV (nextBal x) x.id] none; simp at this; omega))
  · exact nd_tickErr h he
section
variable {W w w' : World} {os : List Ob}
/-- A cluster whose node has turned, and whose outs have gone. -/
theorem SepW.clFold {c : Nat} {dv nv mv : Value} {L : List Nq} {M : List (Int × Om × Value)} {B B8 : List (Value × List Int)} {i : Nat} {p p' : Nq} {r : Ob} (hp : L[i]? = some p) (hpp : p'.1 = p.1)
    (h : SepW W w (obBlk c (.cells (clC L.length dv nv mv) 36) :: obSuf mv 44 13 M.length (mailC M) :: r :: obBod B8 :: obRow nv 31 1 L.length (nodeV L) :: obRow dv 53 1 L.length (diskV L) :: obBod B :: (ndsOs (L.set i p') ++ os))) :
    SepW W w (clOs c dv nv mv (L.set i p') M (B8 ++ B) os) := by
  have a2 := SepW.dropB (pre := [_, _]) (l := [_]) h
  have a3 := a2.pull 5 rfl
  have a4 := a3.pull 3 rfl
  have a5 := SepW.bodApp (l := B8) (m := B) a4
  have a6 := SepW.mid (pre := [_, _, _, _]) a5
  have hll : (L.set i p').length = L.length := List.length_set
  have hnv : nodeV (L.set i p') = nodeV L := map_set_same (fun p : Nq => Value.pointer (some ⟨p.1.x, 0, none⟩)) hp (by rw [hpp])
  have hdv : diskV (L.set i p') = diskV L := map_set_same (fun p : Nq => Value.pointer (some ⟨p.1.b0, 0, none⟩)) hp (by rw [hpp])
  unfold clOs
  rw [hll, hnv, hdv]
  exact a6
/-- A cluster, its messages' bytes among those that it holds. -/
def Clu (W w : World) (os : List Ob) (c : Nat) (dv nv : Value) (qs : List NdA) (xs : List Nd) (ms : List (Int × Om)) : Prop :=
  ∃ (mv : Value) (L : List Nq) (M : List (Int × Om × Value)) (B : List (Value × List Int)), SepW W w (clOs c dv nv mv L M B os) ∧ (∀ p ∈ M, (p.2.2, p.2.1.body) ∈ B) ∧ L.map Prod.fst = qs ∧ xOf L = xs ∧ mOf M = ms
/-- What holds of a node for the way it lies. -/
structure NdFacts (x : Nd) : Prop where
  nx : Ln.IsNext x.kn x.next
  prom : U1 x.A.promised
  lb : U1 x.L.ballot
  nu : U1 x.next
  kn : ∀ s v, x.kn s = some v → (0 ≤ s ∧ s < 18446744073709551615) ∧ U8 v
  al : ∀ a v, x.A.l a = some v → U1 a ∧ VtOk a v
  op : ∀ s v g, x.L.op s = some (v, g) → U1 s ∧ v.slot = s ∧ U1 v.ballot ∧ U8 v.val ∧ v.val.length ≤ 1000000
theorem SepW.ndFacts {q : NdA} {f : NdF} {x : Nd} (h : SepW W w (ndOs q f x os)) : NdFacts x := by
  obtain ⟨u1, u2, u3⟩ := h.numsU
  have ha : AccO (.pointer q.ap) f.ac w x.NA x.A := h.get 3 rfl
  obtain ⟨bm1, top, hL⟩ : LnO q.l0 f.ln x.nl w x.kn x.next := h.get 4 rfl
  refine ⟨hL.next, u1, u2, u3, fun s v hs => ⟨?_, (hL.map.small s v hs).1⟩, fun a v hv => ha.small hv, fun s v g ho => h.opSmall ho⟩
  have h1 := hL.top.2.2.1 s (by rw [hs]; simp)
  have h2 := hL.top.2.1
  omega
theorem Clu.facts {c : Nat} {dv nv : Value} {qs : List NdA} {xs : List Nd} {ms : List (Int × Om)} (h : Clu W w os c dv nv qs xs ms) : ∀ x ∈ xs, NdFacts x := by
  obtain ⟨mv, L, M, B, h1, h2, h3, h4, h5⟩ := h
  intro x hx
  rw [← h4] at hx
  obtain ⟨p, hp, rfl⟩ := List.mem_map.1 hx
  obtain ⟨i, hi⟩ := List.getElem?_of_mem hp
  exact (SepW.focus (pre := [_, _, _, _, _]) h1 hi).ndFacts
/-- A state that bears one call more. -/
structure OkSt (Mb n : Nat) (xs : List Nd) (ms : List (Int × Om)) : Prop where
  n : xs.length = n
  m : ms.length ≤ 400
  nd : ∀ x ∈ xs, x.e = 0 → NdOk x Mb ∧ TkOk x
  om : ∀ p ∈ ms, OmOk Mb p.2
theorem clu_deliver {c : Nat} {dv nv : Value} {qs : List NdA} {xs : List Nd} {ms : List (Int × Om)} {Mb n : Nat} (h : Clu W w os c dv nv qs xs ms) (ho : OkSt Mb n xs ms) (hn : n ≤ 100) (i : Nat) (hi : i ≤ 1000000) (twice : Bool) :
    Calls Tryz.prog 13 #[.pointer (some ⟨c, 0, none⟩), .int .i64 i, .bool twice] w fun e w' => e = .returned (.tuple #[]) ∧ ∃ xs' ms', Clu W w' os c dv nv qs xs' ms' ∧ DelR xs ms i twice xs' ms' := by
  obtain ⟨mv, L, M, B, h1, h2, h3, h4, h5⟩ := h
  have hl : L.length = n := by rw [← ho.n, ← h4]; unfold xOf; rw [List.length_map]
  have hm : M.length ≤ 400 := by have := ho.m; rw [← h5] at this; unfold mOf at this; rwa [List.length_map] at this
  refine (cl_deliver (Mb := Mb) h1 h2 hm (fun p hp => ho.om (p.1, p.2.1) (by rw [← h5]; exact List.mem_map.2 ⟨p, hp, rfl⟩)) (fun p hp he => (ho.nd p.2.2 (by rw [← h4]; exact List.mem_map.2 ⟨p, hp, rfl⟩) he).1) (by omega) i hi twice).mono ?_
  rintro e w' ⟨rfl, mv', L', M', B', g1, g2, g3, g4⟩
  exact ⟨rfl, xOf L', mOf M', ⟨mv', L', M', B', g1, g2, g4.trans h3, rfl, rfl⟩, by rw [← h4, ← h5]; exact g3⟩
set_option maxHeartbeats 4000000 in
theorem cl_calm {c : Nat} {dv nv : Value} {qs : List NdA} {xs0 : List Nd} {ms0 : List (Int × Om)} {Mb n : Nat} (rounds : Nat) (hr : rounds ≤ 1000) (hn : n ≤ 100)
    (J : Nat → List Nd → List (Int × Om) → Prop) (T D : Nat → Nat → List Nd → List (Int × Om) → Prop)
    (hT0 : ∀ r xs ms, r < rounds → J r xs ms → T r 0 xs ms)
    (hT : ∀ r i xs ms x y outs, r < rounds → T r i xs ms → xs[i]? = some x → TickR x y outs → (∀ z ∈ xs, NdFacts z) → T r (i + 1) (xs.set i y) (sendO i outs ms))
    (hD0 : ∀ r xs ms, r < rounds → T r n xs ms → D r 0 xs ms)
    (hD : ∀ r k xs ms xs' ms', r < rounds → k < 400 → ms ≠ [] → D r k xs ms → DelR xs ms 0 false xs' ms' → (∀ z ∈ xs, NdFacts z) → D r (k + 1) xs' ms')
    (hJ : ∀ r k xs ms, r < rounds → D r k xs ms → (k = 400 ∨ ms = []) → J (r + 1) xs ms)
    (oT : ∀ r i xs ms, T r i xs ms → OkSt Mb n xs ms) (oD : ∀ r i xs ms, D r i xs ms → OkSt Mb n xs ms)
    (h : Clu W w os c dv nv qs xs0 ms0) (hx0 : xs0.length = n) (hJ0 : J 0 xs0 ms0) :
    Calls Tryz.prog 10 #[.pointer (some ⟨c, 0, none⟩), .int .i64 rounds] w fun e w' => e = .returned (.tuple #[]) ∧ ∃ xs ms, Clu W w' os c dv nv qs xs ms ∧ J rounds xs ms := by
  obtain ⟨no, nc, rfl⟩ : ∃ no nc, nv = .slice no n nc := by
    obtain ⟨mv, L, M, B, h1, h2, h3, h4, h5⟩ := id h
    obtain ⟨no, nc, e, _, _⟩ := own_form (h1.get 2 rfl : w.ownsRow 0 31 1 nv L.length (nodeV L))
    have hl : L.length = n := by rw [← hx0, ← h4]; unfold xOf; rw [List.length_map]
    exact ⟨no, nc, by rw [e, hl]⟩
  have HT0 := Lib.hid hT0
  have HT := Lib.hid hT
  have HD0 := Lib.hid hD0
  have HD := Lib.hid hD
  have HJ := Lib.hid hJ
  have OT := Lib.hid oT
  have OD := Lib.hid oD
  have H := Lib.hid h
  have HJ0 := Lib.hid hJ0
  clear hT0 hT hD0 hD hJ oT oD h hJ0
  go_enter Tryz.func10, Tryz.ntmps10
  go_wp2_with fail
  go_loopw [4, 5, 6] (fun rv _ _ wr => ∃ (r : Nat) (xs : List Nd) (ms : List (Int × Om)), r ≤ rounds ∧ rv = .int .i64 r ∧ Hid (Clu W wr os c dv (.slice no n nc) qs xs ms) ∧ Hid (J r xs ms)) (fun rv _ _ _ => rounds - (intOf rv).toNat)
  case atStart => exact ⟨0, xs0, ms0, by omega, rfl, H, HJ0⟩
  case round =>
    clear H HJ0
    obtain ⟨r, xs, ms, hrr, rfl, hc, hj⟩ := hrel
    by_cases hlt : r < rounds
    · have hlt2 : (r : Int) < (rounds : Int) := by omega
      have hT0' := Lib.hid (HT0.out r xs ms hlt hj.out)
      go_wp2_with fail
      go_loopw [5] (fun iv wr => ∃ (i : Nat) (xs : List Nd) (ms : List (Int × Om)), i ≤ n ∧ iv = .int .i64 i ∧ Hid (Clu W wr os c dv (.slice no n nc) qs xs ms) ∧ Hid (T r i xs ms)) (fun iv _ => n - (intOf iv).toNat)
      case atStart => exact ⟨0, xs, ms, by omega, rfl, hc, hT0'⟩
      case round =>
        clear hc hj hT0'
        obtain ⟨i, xs, ms, hin, rfl, hc, ht⟩ := hrel
        have ho := OT.out r i xs ms ht.out
        have HFc := Lib.hid hc.out.facts
        obtain ⟨mv, L, M, B, h1, h2, h3, h4, h5⟩ := hc.out
        have hl : L.length = n := by rw [← ho.n, ← h4]; unfold xOf; rw [List.length_map]
        obtain ⟨c0, -, c2, -, -⟩ := h1.clCell 0 rfl
        rw [hl] at c0
        by_cases hi : i < n
        · have hi2 : (i : Int) < (n : Int) := by omega
          obtain ⟨p, hp⟩ : ∃ p, L[i]? = some p := ⟨_, List.getElem?_eq_getElem (by omega)⟩
          obtain ⟨qd, fd, xd⟩ := p
          have hnr : wr.ownsRow 0 31 1 (.slice no n nc) L.length (nodeV L) := h1.get 2 rfl
          obtain ⟨gn, rfl⟩ : ∃ gn, no = some ⟨gn, 0, none⟩ := by
            rcases hnr.2 with ⟨e, h0⟩ | ⟨gn, cap, _, e, _⟩
            · omega
            · cases e; exact ⟨gn, rfl⟩
          rw [hl] at hnr
          have hnvj : (nodeV L)[i]? = some (.pointer (some ⟨qd.x, 0, none⟩)) := by unfold nodeV; rw [List.getElem?_map, hp]; rfl
          have n0 : wr.cell? ⟨gn, i, none⟩ = some (.pointer (some ⟨qd.x, 0, none⟩)) := by rw [hnr.cellAt i (by omega)]; exact hnvj
          have hxx : xs[i]? = some xd := by rw [← h4]; unfold xOf; rw [List.getElem?_map, hp]; rfl
          have hfoc := SepW.focus (pre := [_, _, _, _, _]) h1 hp
          have HTk := Lib.hid (nd_tick (Mb := Mb) hfoc (fun he => ho.nd xd (List.mem_of_getElem? hxx) he))
          have hm : M.length ≤ 400 := by have := ho.m; rw [← h5] at this; unfold mOf at this; rwa [List.length_map] at this
          have HP := Lib.hid hp
          have HB := Lib.hid h2
          have HQ := Lib.hid h3
          have HX4 := Lib.hid h4
          have HM5 := Lib.hid h5
          have HXx := Lib.hid hxx
          have HL := Lib.hid hl
          clear hnr hnvj hfoc hp h1 h2 h3 h4 h5 hxx ho hl
          go_wp2_with fail
          refine HTk.out.mono ?_
          rintro e w8 ⟨y, outs, htk, v8, l8, f8, rfl, hl8, hs8⟩
          have hb8 := SepW.back (fr := [_, _]) (pre := [_, _, _, _, _]) HP.out (p' := (qd, f8, y)) hs8
          have hf8 : ∀ p ∈ l8, ∃ bo bc, p.2 = .slice bo p.1.body.length bc := fun p hp => bod_form (hb8.get 1 rfl : (obBod _).inv w8) (List.mem_map.2 ⟨p, hp, rfl⟩)
          have hq1 := hb8.pull 3 rfl
          have hq2 := hq1.pull 3 rfl
          have HSn := Lib.hid (cl_send (c := c) (n := (L.length : Int)) (s := (i : Int)) (dv := dv) (nv := .slice (some ⟨gn, 0, none⟩) n nc) (mv := mv) (v := v8) (M := M) (l := l8) (ovs := []) hq2 hf8 hm)
          have HTk2 := Lib.hid htk
          have HL8 := Lib.hid hl8
          clear hs8 hb8 hf8 hq1 hq2 htk hl8 HTk n0 c0 c2 hc
          go_wp2_with fail
          refine HSn.out.mono ?_
          rintro e w9 ⟨rfl, mv9, hs9⟩
          have HS9 := Lib.hid (SepW.clFold (p' := (qd, f8, y)) HP.out rfl hs9)
          clear hs9 HSn
          go_wp2_with fail
          go_roundw
          case rel =>
            have hclu : Clu W w9 os c dv (.slice (some ⟨gn, 0, none⟩) n nc) qs (xs.set i y) (sendO i outs ms) := by
              refine ⟨mv9, L.set i (qd, f8, y), sendM i l8 M, (l8.map fun p => (p.2, p.1.body)) ++ B, HS9.out, ?_, ?_, ?_, ?_⟩
              · intro p hp
                rcases List.mem_append.1 hp with hp | hp
                · exact List.mem_append_right _ (HB.out p hp)
                · obtain ⟨r', hr', rfl⟩ := List.mem_map.1 hp
                  exact List.mem_append_left _ (List.mem_map.2 ⟨r', List.mem_of_mem_take hr', rfl⟩)
              · exact (map_set_same (p' := (qd, f8, y)) Prod.fst HP.out rfl).trans HQ.out
              · rw [← HX4.out]; unfold xOf; rw [List.map_set]
              · rw [mOf_send, HL8.out, HM5.out]
            exact ⟨i + 1, xs.set i y, sendO i outs ms, by omega, by go_num, Lib.hid hclu, Lib.hid (HT.out r i xs ms xd y outs hlt ht.out HXx.out HTk2.out HFc.out)⟩
          case measure => simp [intOf]; omega
        · have hin2 : i = n := by omega
          subst hin2
          have hkd : decide ((i : Int) < (i : Int)) = false := decide_eq_false (by omega)
          have hD0 := Lib.hid (HD0.out r xs ms hlt ht.out)
          clear hi h1 h2 h3 h4 h5 ho hl ht c2
          go_wp2_with fail
          go_loopw [6] (fun kv wr => ∃ (k : Nat) (xs : List Nd) (ms : List (Int × Om)), k ≤ 400 ∧ kv = .int .i64 k ∧ Hid (Clu W wr os c dv (.slice no i nc) qs xs ms) ∧ Hid (D r k xs ms)) (fun kv _ => 400 - (intOf kv).toNat)
          case atStart => exact ⟨0, xs, ms, by omega, rfl, hc, hD0⟩
          case round =>
            clear hc hD0 c0
            obtain ⟨k, xs, ms, hk, rfl, hc, hd⟩ := hrel
            have ho := OD.out r k xs ms hd.out
            have HDl := Lib.hid (clu_deliver hc.out ho hn 0 (by omega) false)
            rw [show ((0 : Nat) : Int) = 0 from rfl] at HDl
            obtain ⟨mv, L, M, B, h1, h2, h3, h4, h5⟩ := hc.out
            obtain ⟨mo, mc, rfl, -, -⟩ := (h1.get 1 rfl : OwnsSuf wr 44 13 mv M.length (mailC M)).form
            obtain ⟨-, -, -, c3, -⟩ := h1.clCell 0 rfl
            have hml : M.length = ms.length := by rw [← h5]; unfold mOf; rw [List.length_map]
            rw [hml] at c3
            clear h1 h2 h3 h4 h5 ho hml
            by_cases hk4 : k < 400
            · have hk5 : (k : Int) < 400 := by omega
              by_cases hm0 : ms = []
              · have hz : decide ((0 : Int) < (ms.length : Int)) = false := decide_eq_false (by rw [hm0]; simp)
                have hz2 : ms.length = 0 := by rw [hm0]; rfl
                rw [hz2] at c3
                have HJ2 := Lib.hid (HJ.out r k xs ms hlt hd.out (Or.inr hm0))
                clear hm0 hd HDl
                go_wp2_with fail
                go_roundw
                case rel => exact ⟨r + 1, xs, ms, by omega, by go_num, hc, HJ2⟩
                case measure => simp [intOf]; omega
              · have hml2 : 0 < ms.length := List.length_pos_iff.2 hm0
                have hz : decide ((0 : Int) < (ms.length : Int)) = true := decide_eq_true (by omega)
                have HM0 := Lib.hid hm0
                clear hm0
                go_wp2_with fail
                refine HDl.out.mono ?_
                rintro e w9 ⟨rfl, xs9, ms9, hc9, hd9⟩
                have HC9 := Lib.hid hc9
                have HD9 := Lib.hid (HD.out r k xs ms xs9 ms9 hlt hk4 HM0.out hd.out hd9 hc.out.facts)
                clear hc9 hd9 HDl
                go_wp2_with fail
                go_roundw
                case rel => exact ⟨k + 1, xs9, ms9, by omega, by go_num, HC9, HD9⟩
                case measure => simp [intOf]; omega
            · have hk5 : k = 400 := by omega
              subst hk5
              have HJ2 := Lib.hid (HJ.out r 400 xs ms hlt hd.out (Or.inl rfl))
              clear hd HDl hk4 hk
              go_wp2_with fail
              go_roundw
              case rel => exact ⟨r + 1, xs, ms, by omega, by go_num, hc, HJ2⟩
              case measure => simp [intOf]; omega
    · have hrl : r = rounds := by omega
      subst hrl
      have hkd : decide ((r : Int) < (r : Int)) = false := decide_eq_false (by omega)
      clear hlt hrr
      go_wp2_with fail
      first | go_end0 | (refine bodyPost_ret (results_none rfl _ _ _) rfl ?_)
      exact ⟨rfl, xs, ms, hc.out, hj.out⟩
end
end Go.Proofs.YtgmdedkingampaaGreat

namespace Go.Proofs.YtgmdedkingampaaGreat
open Go.ChangeShapes Go.WideShapes Go.ChangeAt Go.RowKit Go.Maps
set_option maxRecDepth 1000000
set_option linter.unusedVariables false
set_option linter.unusedSimpArgs false

/-- The first numbers. -/
def psN (n : Nat) : List Int := (List.range n).map (fun (k : Nat) => (k : Int))
theorem psN_len (n : Nat) : (psN n).length = n := by simp [psN]
theorem psN_succ (n : Nat) : psN (n + 1) = psN n ++ [(n : Int)] := by simp [psN, List.range_succ]
theorem psN_at {n k : Nat} {p : Int} (h : (psN n)[k]? = some p) : p = (k : Int) ∧ k < n := by
  have h3 : k < (psN n).length := (List.getElem?_eq_some_iff.1 h).1
  rw [psN_len] at h3
  unfold psN at h
  rw [List.getElem?_map, List.getElem?_range h3] at h
  exact ⟨(Option.some.inj h).symm, h3⟩
theorem psN_right {n : Nat} (h : 1 ≤ n ∧ n ≤ 7) : RightL (psN n) := by
  refine ⟨fun k p hp => ?_, by rw [psN_len]; exact h.1, by rw [psN_len]; exact h.2⟩
  obtain ⟨rfl, hk⟩ := psN_at hp
  refine ⟨by omega, by omega, fun q hk0 hq => ?_⟩
  obtain ⟨rfl, _⟩ := psN_at hq
  omega
theorem psN_mem {n k : Nat} (h : k < n) : (k : Int) ∈ psN n := List.mem_map.2 ⟨k, List.mem_range.2 h, rfl⟩
section
variable {W w w' : World} {os : List Ob}
set_option maxHeartbeats 1000000 in
theorem peers_any (w : World) (n : Nat) (hn : n ≤ 1000) : Calls Tryz.prog 22 #[.int .i64 n] w fun e w' => ∃ v, e = .returned v ∧ w'.ownsRow w.heap.size 3 1 v n (i64s (psN n)) ∧ Below w.heap.size w w' := by
  obtain ⟨i0, hi, hz0, hz1, hz2⟩ := info_parts Tryz.intInfo
  go_enter Tryz.func22, Tryz.ntmps22
  go_wp2_with fail
  go_loopw [3, 4] (fun ov iv wr => ∃ (k : Nat) (ao : Option Addr) (c : Nat), k ≤ n ∧ iv = .int .i64 k ∧ ov = .slice ao k c ∧ Hid (wr.ownsRow w.heap.size 3 1 (.slice ao k c) k (i64s (psN k))) ∧ Hid (Below w.heap.size w wr)) (fun _ iv _ => n - (intOf iv).toNat)
  case atStart => exact ⟨0, none, 0, by omega, rfl, rfl, Lib.hid (World.ownsRow_nil _ _ _ _), Lib.hid (Below.refl _ _)⟩
  case round =>
    obtain ⟨k, ao, c, hk, rfl, rfl, hown, hbl⟩ := hrel
    by_cases hlt : k < n
    · have hlt2 : (k : Int) < (n : Int) := by omega
      have hk9 : k ≤ 1000000000 := by omega
      have hsz := hbl.out.size
      have HU : Hid (∀ u ∈ (#[Value.int .i64 (k : Int)]).toList, u.oneCell' = true) := Lib.hid (by intro u hu; simp at hu; subst hu; rfl)
      go_wp2_with (first
        | (at_builtin; (refine wpList_appL rfl (.tmp 10) (.tmp 12) 60 rfl w.heap.size 3 i0 _ 1 8 Tryz.underlying60 hi hz0 hz1 hz2 rfl (by decide) (by decide) rfl rfl (by simp) rfl hown.out HU.out hk9 hsz ?_)
           intro g7 cap7 w7 hown7 hg7 hor7
           have HOwn7 := Lib.hid hown7
           have HG7 := Lib.hid hg7
           clear hown7 hg7 hor7)
        | fail)
      have hb7 : Below w.heap.size w w7 := (hbl.out.alloc hsz _).grown HG7.out (by simp; omega) (fun g hg => (hown.out.lt g hg).1)
      have HB7 := Lib.hid hb7
      clear hb7
      go_roundw
      case rel => exact ⟨k + 1, _, _, by omega, by go_num, rfl, Lib.hid (by have h9 := HOwn7.out; rw [psN_succ]; rw [show i64s (psN k ++ [(k : Int)]) = i64s (psN k) ++ #[Value.int .i64 (k : Int)].toList from List.map_append]; exact h9), HB7⟩
      case measure => simp [intOf]; omega
    · have : k = n := by omega
      subst this
      have hkd : decide ((k : Int) < (k : Int)) = false := decide_eq_false (by omega)
      clear hlt hk
      go_wp2_with fail
      go_ret
      exact ⟨_, rfl, hown.out, hbl.out⟩
theorem ndsOs_app (a b : List Nq) : ndsOs (a ++ b) = ndsOs a ++ ndsOs b := List.flatMap_append
/-- A new node joins. -/
theorem SepW.join {pre : List Ob} {L : List Nq} {p : Nq} (h : SepW W w (ndOs p.1 p.2.1 p.2.2 (pre ++ (ndsOs L ++ os)))) : SepW W w (pre ++ (ndsOs (L ++ [p]) ++ os)) := by
  refine h.perm ?_
  have h1 : (ndOs p.1 p.2.1 p.2.2 (pre ++ (ndsOs L ++ os))) = (ndOs p.1 p.2.1 p.2.2 [] ++ (pre ++ ndsOs L)) ++ os := by rw [List.append_assoc, List.append_assoc]; rfl
  have h2 : ndsOs [p] = ndOs p.1 p.2.1 p.2.2 [] := by simp [ndsOs]
  have h3 : pre ++ (ndsOs (L ++ [p]) ++ os) = ((pre ++ ndsOs L) ++ ndOs p.1 p.2.1 p.2.2 []) ++ os := by rw [ndsOs_app, h2]; simp only [List.append_assoc]
  rw [h1, h3]
  exact List.Perm.append_right _ List.perm_append_comm
theorem Tryz.diskPInfo : (Tryz.prog.info? 53).map (fun i => (i.zero, i.size, i.bytes)) = some (some (.pointer none), 1, 8) := by kernel_rfl
theorem Tryz.nodePInfo : (Tryz.prog.info? 31).map (fun i => (i.zero, i.size, i.bytes)) = some (some (.pointer none), 1, 8) := by kernel_rfl
/-- The nodes that are made. -/
def newXs (n i : Nat) : List Nd := (List.range i).map (fun (k : Nat) => newNd k (psN n) 400 400 2)
theorem newXs_succ (n i : Nat) : newXs n (i + 1) = newXs n i ++ [newNd i (psN n) 400 400 2] := by simp [newXs, List.range_succ]
set_option maxHeartbeats 4000000 in
theorem cl_made (h : SepW W w os) {n : Nat} (hn : 1 ≤ n ∧ n ≤ 7) : Calls Tryz.prog 9 #[.int .i64 n] w fun e w' => ∃ (c : Nat) (dv nv : Value) (qs : List NdA), e = .returned (.pointer (some ⟨c, 0, none⟩)) ∧ Clu W w' os c dv nv qs (newXs n n) [] ∧ qs.length = n := by
  have H := Lib.hid h
  clear h
  go_enter Tryz.func9, Tryz.ntmps9
  go_wp2_with fail
  have h0 : SepW W (w.alloc (.cells (clC n (.slice none 0 0) (.slice none 0 0) (.slice none 0 0)) 36)) (obBlk w.heap.size (.cells (clC n (.slice none 0 0) (.slice none 0 0) (.slice none 0 0)) 36) :: obRow (.slice none 0 0) 31 1 0 [] :: obRow (.slice none 0 0) 53 1 0 [] :: (ndsOs [] ++ os)) :=
    ((H.out.nilRow 53 1).nilRow 31 1).newBlk _ _
  have HS0 := Lib.hid h0
  generalize (w.alloc (.cells (clC n (.slice none 0 0) (.slice none 0 0) (.slice none 0 0)) 36)) = W0 at *
  generalize w.heap.size = c at *
  clear h0 H
  go_loopw [4, 5, 6, 7, 8] (fun iv _ _ _ _ wr => ∃ (i : Nat) (L : List Nq) (no : Option Addr) (nc : Nat) (dO : Option Addr) (dc : Nat), i ≤ n ∧ iv = .int .i64 i ∧ L.length = i ∧ Hid (xOf L = newXs n i) ∧ Hid (SepW W wr (obBlk c (.cells (clC n (.slice dO i dc) (.slice no i nc) (.slice none 0 0)) 36) :: obRow (.slice no i nc) 31 1 i (nodeV L) :: obRow (.slice dO i dc) 53 1 i (diskV L) :: (ndsOs L ++ os)))) (fun iv _ _ _ _ _ => n - (intOf iv).toNat)
  case atStart => exact ⟨0, [], none, 0, none, 0, by omega, rfl, rfl, Lib.hid rfl, HS0⟩
  case round =>
    clear HS0
    obtain ⟨i, L, no, nc, dO, dc, hi, rfl, hl, hx, hs⟩ := hrel
    by_cases hlt : i < n
    · have hlt2 : (i : Int) < (n : Int) := by omega
      have HDk := Lib.hid (hs.out.dkNew (n := 400) (by omega))
      rw [show ((400 : Nat) : Int) = 400 from rfl] at HDk
      go_wp2_with fail
      refine HDk.out.mono ?_
      rintro e w1 ⟨b0, D, rfl, hs1⟩
      have HS1 := Lib.hid hs1
      have HPe := Lib.hid (peers_any w1 n (by omega))
      clear hs1 HDk hs
      go_wp2_with fail
      refine HPe.out.mono ?_
      rintro e w2 ⟨pv, rfl, ho2, hb2⟩
      have hs2 := (HS1.out.newRow ho2 hb2).swap
      have HOp := Lib.hid (nd_open (N := 400) (n := 400) (ps := psN n) (id := (i : Int)) (pat := 2) hs2 (Held.row 1 rfl) (psN_right hn) (psN_mem hlt) (by omega) (by omega) (by omega))
      rw [show ((400 : Nat) : Int) = 400 from rfl] at HOp
      clear hs2 ho2 hb2 HPe HS1
      go_wp2_with fail
      refine HOp.out.mono ?_
      rintro e w3 ⟨q, f, rfl, hqb, hs3⟩
      have hs4 := SepW.dropB (pre := [_, _, _, _, _, _, _, _]) (l := [_]) hs3
      have HS4 : Hid (SepW W w3 (ndOs q f (newNd i (psN n) 400 400 2) (obBlk c (.cells (clC n (.slice dO i dc) (.slice no i nc) (.slice none 0 0)) 36) :: obRow (.slice no i nc) 31 1 i (nodeV L) :: obRow (.slice dO i dc) 53 1 i (diskV L) :: (ndsOs L ++ os)))) := Lib.hid hs4
      have c1 := (HS4.out.clCell 8 rfl).2.1
      have hi9 : i ≤ 1000000000 := by omega
      have HU1 : Hid (∀ u ∈ (#[Value.pointer (some ⟨b0, 0, none⟩)]).toList, u.oneCell' = true) := Lib.hid (by intro u hu; simp at hu; subst hu; rfl)
      have HU2 : Hid (∀ u ∈ (#[Value.pointer (some ⟨q.x, 0, none⟩)]).toList, u.oneCell' = true) := Lib.hid (by intro u hu; simp at hu; subst hu; rfl)
      have HQb := Lib.hid hqb
      have hdr : Hid (w3.ownsRow 0 53 1 (.slice dO i dc) i (diskV L)) := Lib.hid (HS4.out.get 10 rfl)
      obtain ⟨i1, hi1, hy10, hy11, hy12⟩ := info_parts Tryz.diskPInfo
      obtain ⟨i2, hi2, hy20, hy21, hy22⟩ := info_parts Tryz.nodePInfo
      have ca : ∀ o, (w3.alloc o).cell? ⟨c, 1, none⟩ = some (.slice dO i dc) := fun o => cell_alloc o c1
      clear hs3 hs4 HOp hqb
      go_wp2_with (first
        | (at_builtin; (refine wpList_appL rfl (.tmp 35) (.tmp 37) 32 rfl 0 53 i1 _ 1 8 Tryz.underlying32 hi1 hy10 hy11 hy12 rfl (by decide) (by decide) rfl rfl (by simp) rfl hdr.out HU1.out hi9 (Nat.zero_le _) ?_)
           intro g4 cap4 w4 hown4 hg4 hor4
           have hs5 := HS4.out.rowApp 10 rfl hg4 hor4 hown4
           have c14 := (hs5.clCell 8 rfl).2.1
           have f14 := (hs5.clCell 8 rfl).2.2.2.2 1
           have hs6 := hs5.blkSet 8 rfl 1 (.slice (some ⟨g4, 0, none⟩) (i + 1) cap4)
           have hs6' : SepW W (w4.setCell ⟨c, 1, none⟩ (.slice (some ⟨g4, 0, none⟩) (i + 1) cap4)) (ndOs q f (newNd i (psN n) 400 400 2) (obBlk c (.cells (clC n (.slice (some ⟨g4, 0, none⟩) (i + 1) cap4) (.slice no i nc) (.slice none 0 0)) 36) :: obRow (.slice no i nc) 31 1 i (nodeV L) :: obRow (.slice (some ⟨g4, 0, none⟩) (i + 1) cap4) 53 1 (i + 1) (diskV L ++ [.pointer (some ⟨b0, 0, none⟩)]) :: (ndsOs L ++ os))) := hs6
           have c26 := (hs6'.clCell 8 rfl).2.2.1
           have HS6 := Lib.hid hs6'
           have hnr : Hid ((w4.setCell ⟨c, 1, none⟩ (.slice (some ⟨g4, 0, none⟩) (i + 1) cap4)).ownsRow 0 31 1 (.slice no i nc) i (nodeV L)) := Lib.hid (hs6'.get 9 rfl)
           clear hown4 hg4 hor4 hs5 hs6 hs6')
        | (at_builtin; (refine wpList_appL rfl (.tmp 45) (.tmp 47) 33 rfl 0 31 i2 _ 1 8 Tryz.underlying33 hi2 hy20 hy21 hy22 rfl (by decide) (by decide) rfl rfl (by simp) rfl hnr.out HU2.out hi9 (Nat.zero_le _) ?_)
           intro g7 cap7 w7 hown7 hg7 hor7
           have hs7 := HS6.out.rowApp 9 rfl hg7 hor7 hown7
           have c27 := (hs7.clCell 8 rfl).2.2.1
           have f27 := (hs7.clCell 8 rfl).2.2.2.2 2
           have hs8 := hs7.blkSet 8 rfl 2 (.slice (some ⟨g7, 0, none⟩) (i + 1) cap7)
           have hs8' : SepW W (w7.setCell ⟨c, 2, none⟩ (.slice (some ⟨g7, 0, none⟩) (i + 1) cap7)) (ndOs q f (newNd i (psN n) 400 400 2) (obBlk c (.cells (clC n (.slice (some ⟨g4, 0, none⟩) (i + 1) cap4) (.slice (some ⟨g7, 0, none⟩) (i + 1) cap7) (.slice none 0 0)) 36) :: obRow (.slice (some ⟨g7, 0, none⟩) (i + 1) cap7) 31 1 (i + 1) (nodeV L ++ [.pointer (some ⟨q.x, 0, none⟩)]) :: obRow (.slice (some ⟨g4, 0, none⟩) (i + 1) cap4) 53 1 (i + 1) (diskV L ++ [.pointer (some ⟨b0, 0, none⟩)]) :: (ndsOs L ++ os))) := hs8
           have HS8 := Lib.hid hs8'
           clear hown7 hg7 hor7 hs7 hs8 hs8')
        | fail)
      go_roundw
      case rel =>
        refine ⟨i + 1, L ++ [(q, f, newNd i (psN n) 400 400 2)], some ⟨g7, 0, none⟩, cap7, some ⟨g4, 0, none⟩, cap4, by omega, by go_num, by simp [hl], Lib.hid ?_, Lib.hid ?_⟩
        · unfold xOf
          rw [List.map_append, newXs_succ, show L.map (fun p => p.2.2) = newXs n i from hx.out]
          rfl
        · have h9 := SepW.join (pre := [_, _, _]) (p := (q, f, newNd i (psN n) 400 400 2)) HS8.out
          have e1 : nodeV (L ++ [(q, f, newNd i (psN n) 400 400 2)]) = nodeV L ++ [.pointer (some ⟨q.x, 0, none⟩)] := by unfold nodeV; rw [List.map_append]; rfl
          have e2 : diskV (L ++ [(q, f, newNd i (psN n) 400 400 2)]) = diskV L ++ [.pointer (some ⟨b0, 0, none⟩)] := by unfold diskV; rw [List.map_append, ← HQb.out]; rfl
          rw [e1, e2]
          exact h9
      case measure => simp [intOf]; omega
    · have : i = n := by omega
      subst this
      have hkd : decide ((i : Int) < (i : Int)) = false := decide_eq_false (by omega)
      clear hlt hi
      go_wp2_with fail
      go_ret
      refine ⟨c, .slice dO i dc, .slice no i nc, L.map Prod.fst, rfl, ⟨.slice none 0 0, L, [], [], ?_, by first | (intro p hp; cases hp; done) | simp, rfl, hx.out, rfl⟩, by rw [List.length_map]; exact hl⟩
      unfold clOs
      rw [hl]
      exact SepW.suf1 (SepW.mid (pre := [_]) ((SepW.mid (pre := [_, _, _]) (hs.out.nilBod)).nilRow 44 13))
end
end Go.Proofs.YtgmdedkingampaaGreat
