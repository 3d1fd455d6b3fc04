/-
  Package client: Tick: all that is open is asked for.
-/
import Derived.Test.YtdmfladjhjpafaaCliA
import Derived.Test.YtdmfladjhjpafaaBlk2
namespace Go.Proofs.Ytdmfladjhjpafaa
open Go.ChangeShapes Go.WideShapes Go.ChangeAt Go.RowKit Go.Maps Go.Shelf
set_option maxRecDepth 1000000

theorem Try.outInfo : (Try.prog.info? 48).map (fun i => (i.zero, i.size, i.bytes)) = some (some (.agg out0), 12, 128) := by kernel_rfl
/-- Messages' cells. -/
inductive OutC : List Value → List (Int × Ms) → Prop
  | nil : OutC [] []
  | snoc {cs : List Value} {L : List (Int × Ms)} (t : Int) (m : Ms) (bv : Value) : OutC cs L → OutC (cs ++ (outC t m (.slice none 0 0) bv).toList) (L ++ [(t, m)])
def askL (A : CS) (a : Int) : Int × Ms := match A.l a with | some (x, m) => (askTo A x m, askMs A.id a x) | none => (0, ⟨0, 0, 0, 0, 0, 0, 0, 0, 0, [], []⟩)
def tickL (A : CS) (s : List Int) : CS := ⟨A.id, A.last, A.shards, A.orders, fun a => if a ∈ s then (A.l a).map (fun p => (p.1, p.2 + 1)) else A.l a⟩
def tickA (A : CS) : CS := ⟨A.id, A.last, A.shards, A.orders, fun a => (A.l a).map (fun p => (p.1, p.2 + 1))⟩
theorem tickL_nil (A : CS) : tickL A [] = A := by unfold tickL; simp
theorem tickL_snoc {A : CS} {s : List Int} {a m : Int} {x : Cl} (ha : a ∉ s) (hl : A.l a = some (x, m)) : setL (tickL A s) a (some (x, m + 1)) = tickL A (s ++ [a]) := by
  unfold setL tickL
  simp only [CS.mk.injEq, true_and]
  funext b
  by_cases e : b = a
  · subst e; simp [hl]
  · simp [e]
theorem tickL_all {A : CS} {ks : List Int} (h : IsCKeys A.l ks) : tickL A ks = tickA A := by
  unfold tickL tickA
  simp only [CS.mk.injEq, true_and]
  funext b
  by_cases e : b ∈ ks
  · rw [if_pos e]
  · rw [if_neg e]
    have : (A.l b).isSome = false := by
      cases hs : (A.l b).isSome with
      | false => rfl
      | true => exact absurd ((h.2 b).2 hs) e
    cases hl : A.l b with
    | none => rfl
    | some q => rw [hl] at this; cases this
theorem Sep.rowApp {B : Nat} {w w' : World} {os : List Ob} (h : Sep B w os) (i : Nat) {v : Value} {e : TypeId} {z n n' g cap : Nat} {xs ys : List Value} {o : Obj} (hi : os[i]? = some (obRow v e z n xs)) (hg : (w.alloc o).grownBy w' v.ownBlock) (hor : v.ownBlock = some g ∨ g = w.heap.size + 1)
    (hown : w'.ownsRow 0 e z (.slice (some ⟨g, 0, none⟩) n' cap) n' ys) : Sep B w' (os.set i (obRow (.slice (some ⟨g, 0, none⟩) n' cap) e z n' ys)) ∧ Keep (fun k => v.ownBlock = some k) w w' := by
  have hk : Keep (fun k => v.ownBlock = some k) w w' := (Below.keep0 _ ((Below.refl _ _).alloc (Nat.le_refl _) o)).trans (Keep.grown hg (fun k hk => hk))
  refine ⟨h.set i hi hk (obRow_good ..) hown (fun k hk' => ?_), hk⟩
  have e1 : g = k := by simpa [obRow, Value.ownBlock] using hk'
  subst e1
  rcases hor with e | e
  · exact Or.inl e
  · exact Or.inr (by omega)
/-- What a tick comes to. -/
def RetTi (D : Nat → Prop) (b0 bm N : Nat) (A : CS) (w : World) (e : Ending) (w' : World) : Prop :=
  ∃ ks ao c cs, IsCKeys A.l ks ∧ e = .returned (.slice ao ks.length c) ∧ OutC cs (ks.map (askL A)) ∧ w'.ownsRow 0 48 12 (.slice ao ks.length c) ks.length cs ∧ (∀ k, (Value.slice ao ks.length c).ownBlock = some k → w.heap.size ≤ k) ∧ CliR w' D b0 bm (N + ks.length) (tickA A) ∧ Moved D D w w'
set_option maxHeartbeats 4000000 in
theorem ctick_any {D : Nat → Prop} {w : World} {b0 bm N : Nat} {A : CS} (h : CliR w D b0 bm N A) {K : List Int} (hK : N + K.length < 1000000) (hKs : ∀ a, (A.l a).isSome = true → a ∈ K) (hm : ∀ a x m, A.l a = some (x, m) → m < 1000000) :
    Calls Try.prog 11 #[.pointer (some ⟨b0, 0, none⟩)] w (RetTi D b0 bm N A w) := by
  obtain ⟨i0, hi, hz0, hz1, hz2⟩ := info_parts Try.outInfo
  have HO := Lib.hid (copen_any h (by omega) (K := K) (by omega) hKs)
  have H := Lib.hid h
  have HKs := Lib.hid hKs
  have HMm := Lib.hid hm
  clear h hKs hm
  go_enter Try.func11, Try.ntmps11
  go_wp2_with fail
  refine HO.out.mono ?_
  rintro e w1 ⟨ks, ko, kc, hks, rfl, hown, hb⟩
  have hkl : ks.length ≤ K.length := nodup_le (hks.1.imp (fun h => by omega)) (fun a ha => HKs.out a ((hks.2 a).1 ha))
  have hsep : Sep w.heap.size w1 [obRow (.slice none 0 0) 48 12 0 [], obRow (.slice ko ks.length kc) 28 1 ks.length (u64s ks)] := by
    refine ⟨fun o ho => ?_, fun o ho => ?_, fun o ho k hk => ?_, ?_, hb.size⟩
    · simp at ho; rcases ho with rfl | rfl <;> exact obRow_good ..
    · simp at ho; rcases ho with rfl | rfl
      · exact World.ownsRow_nil _ _ _ _
      · exact hown.weaken (Nat.zero_le _)
    · simp at ho; rcases ho with rfl | rfl
      · cases hk
      · exact (hown.lt k hk).1
    · exact List.Pairwise.cons (fun x hx k hk => by cases hk) (List.pairwise_singleton _ _)
  have HSep := Lib.hid hsep
  have HKy := Lib.hid hks
  have HB1 := Lib.hid hb
  clear hks hown hb hsep HO
  go_wp2_with fail
  go_loopw [9, 3, 5] (fun i ov _ wr => ∃ (k : Nat) (ao : Option Addr) (c : Nat) (cs : List Value), k ≤ ks.length ∧ i = .int .i64 k ∧ ov = .slice ao k c ∧ OutC cs ((ks.take k).map (askL A)) ∧ Sep w.heap.size wr [obRow (.slice ao k c) 48 12 k cs, obRow (.slice ko ks.length kc) 28 1 ks.length (u64s ks)] ∧ CliR wr D b0 bm (N + k) (tickL A (ks.take k)) ∧ Moved D D w wr) (fun i _ _ _ => ks.length - (intOf i).toNat)
  case atStart => exact ⟨0, none, 0, [], by omega, rfl, rfl, OutC.nil, HSep.out, by rw [List.take_zero, tickL_nil]; exact H.out.below HB1.out (Nat.le_refl _), Moved.of (Below.keep0 _ HB1.out)⟩
  case round =>
    clear HSep HB1
    obtain ⟨k, ao, c, cs, hk, rfl, rfl, hcs, hsep, hR, hmv⟩ := hrel
    have HCs := Lib.hid hcs
    have HSk := Lib.hid hsep
    have HR := Lib.hid hR
    have HMv := Lib.hid hmv
    clear hcs hsep hR hmv
    by_cases hlt : k < ks.length
    · have hki : (k : Int) < (ks.length : Int) := by omega
      obtain ⟨id, hid⟩ : ∃ id, ks[k]? = some id := ⟨_, List.getElem?_eq_getElem hlt⟩
      obtain ⟨⟨x, m⟩, hl⟩ := Option.isSome_iff_exists.1 ((HKy.out.2 id).1 (List.mem_of_getElem? hid))
      have hml := HMm.out id x m hl
      have htk : ks.take (k + 1) = ks.take k ++ [id] := by rw [List.take_succ_eq_append_getElem hlt]; rw [List.getElem?_eq_getElem hlt] at hid; cases hid; rfl
      have hnot : id ∉ ks.take k := by
        have hp := HKy.out.1.sublist (List.take_sublist (k + 1) ks)
        rw [htk, List.pairwise_append] at hp
        intro hc
        have := hp.2.2 id hc id (by simp)
        omega
      have hlk : (tickL A (ks.take k)).l id = some (x, m) := by unfold tickL; simp only [if_neg hnot]; exact hl
      have hkown : World.ownsRow wr 0 28 1 (.slice ko ks.length kc) ks.length (u64s ks) := HSk.out.get 1 rfl
      obtain ⟨ka, kca, hke, _, _, hkx⟩ := SlR.of_own hkown
      simp only [List.length_map] at hke
      cases hke
      obtain ⟨kad, rfl, hkc⟩ := hkx k (.int .u64 id) (by rw [List.getElem?_map, hid]; rfl)
      have HA := Lib.hid (cask_any HR.out hlk hml (by omega))
      have HTk := Lib.hid htk
      have HTs := Lib.hid (tickL_snoc hnot hl)
      have hask : askL A id = (askTo A x m, askMs A.id id x) := by unfold askL; rw [hl]
      have HAsk := Lib.hid hask
      have hk40 : k ≤ 1000000000 := by omega
      clear hkown hkx hid hl htk hnot hlk hask hml
      go_wp2_with fail
      refine HA.out.mono ?_
      rintro e w3 ⟨bv, rfl, hR3, hm3, hs3, ho3⟩
      obtain ⟨bo, bc, rfl, _, _⟩ := hs3.form
      simp only [List.length_map] at *
      rw [HTs.out] at hR3
      have hDlt := H.out.lt
      have HS3 := Lib.hid (HSk.out.keepD hm3.keep (fun k hd => hDlt k hd))
      have HR3 := Lib.hid hR3
      have HM3 := Lib.hid hm3
      clear hR3 hm3 hs3 ho3 hDlt
      have HU : Hid (∀ u ∈ (outC (askTo (tickL A (ks.take k)) x m) (askMs (tickL A (ks.take k)).id id x) (.slice none 0 0) (.slice bo (askMs (tickL A (ks.take k)).id id x).body.length bc)).toList, u.oneCell' = true) := Lib.hid (by intro u hu; simp at hu; rcases hu with rfl | rfl | rfl | rfl | rfl | rfl | rfl | rfl | rfl | rfl | rfl | rfl <;> rfl)
      have HOo := Lib.hid (show World.ownsRow w3 0 48 12 (.slice ao k c) k cs from HS3.out.get 0 rfl)
      go_wp2_with (first
        | (at_builtin; (refine wpList_appL rfl (.tmp 13) (.tmp 17) 31 rfl 0 48 i0 _ 12 128 Try.underlying31 hi hz0 hz1 hz2 rfl (by decide) (by decide) rfl rfl (by simp) rfl HOo.out HU.out hk40 (Nat.zero_le _) ?_)
           intro g7 cap7 w7 hown7 hg7 hor7
           have HOwn7 := Lib.hid hown7
           have HG7 := Lib.hid hg7
           have HOr7 := Lib.hid hor7
           clear hown7 hg7 hor7)
        | fail)
      obtain ⟨hsA, hkA⟩ := HS3.out.rowApp 0 rfl HG7.out HOr7.out HOwn7.out
      have hDlt := H.out.lt
      have hlt0 : ∀ q, (Value.slice ao k c).ownBlock = some q → w.heap.size ≤ q := fun q hq => (HS3.out.lt 0 rfl q hq).1
      have hRA := HR3.out.keep hkA (fun q hq hd => by have := hDlt q hd; have := hlt0 q hq; omega)
      have hk0 : Keep (fun k => D k ∨ w.heap.size ≤ k) w w7 := ((HMv.out.trans HM3.out).keep.mono (fun k _ h => Or.inl h)).trans (hkA.mono (fun q _ hq => Or.inr (hlt0 q hq)))
      have HSA := Lib.hid hsA
      have HRA := Lib.hid hRA
      have HMA := Lib.hid (Moved.of (hk0.mono (fun k hk' h => h.resolve_right (by omega))))
      clear hsA hkA hRA hk0 hDlt hlt0
      go_roundw
      case rel =>
        refine ⟨k + 1, _, _, _, by omega, by go_num, rfl, ?_, HSA.out, ?_, HMA.out⟩
        · rw [HTk.out, List.map_append]
          simp only [List.map_cons, List.map_nil]
          rw [HAsk.out]
          exact OutC.snoc _ _ _ HCs.out
        · rw [HTk.out, ← Nat.add_assoc]; exact HRA.out
      case measure => simp [intOf]; omega
    · have hkl : k = ks.length := by omega
      have HS9 : Hid (Sep w.heap.size wr [obRow (.slice ao k c) 48 12 k cs]) := Lib.hid (HSk.out.sub (List.sublist_append_left [_] _))
      subst hkl
      rw [List.take_length] at HCs HR
      rw [tickL_all HKy.out] at HR
      have hkd : decide ((ks.length : Int) < (ks.length : Int)) = false := decide_eq_false (by omega)
      clear hlt hk
      go_wp2_with fail
      go_ret
      exact ⟨ks, ao, c, cs, HKy.out, rfl, HCs.out, HS9.out.get 0 rfl, (fun k hk => (HS9.out.lt 0 rfl k hk).1), HR.out, HMv.out⟩
end Go.Proofs.Ytdmfladjhjpafaa
