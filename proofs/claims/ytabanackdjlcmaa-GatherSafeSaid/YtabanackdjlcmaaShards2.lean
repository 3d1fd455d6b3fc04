/-
  Contracts of package fold: Shards, its walk.
-/
import Derived.Test.YtabanackdjlcmaaShards
namespace Go.Proofs.Ytabanackdjlcmaa
open Go.ChangeShapes Go.WideShapes Go.ChangeAt Go.RowKit Go.Maps Go.Sort Go.Shelf
set_option maxRecDepth 100000

theorem Try.sortsA (m : Nat) : AnyZI.SortsIn Try.prog Try.sortedA_ren Fence.wide m :=
  ⟨fun blk off cap ss W hH hblk hsz => callsIn_wide.2 (AnyM.slices_Sort_int Try.sortA blk off cap ss W hH hblk hsz),
   fun p cap W => callsIn_wide.2 (AnyM.slices_Sort_int_none Try.sortA p cap W)⟩
theorem keys_any (mb : Option Nat) (W : World) : Calls Try.prog 53 #[.map mb] W fun e w' =>
    e = .returned (.func (.func 69) #[] #[.pointer (some ⟨W.heap.size, 0, none⟩)]) ∧ w' = W.alloc (.cells #[.map mb] 86) :=
  (callsIn_wide (n := 5)).1 (AnyZI.keys_in Try.keysA Fence.wide 5 trivial rfl mb W)
theorem sorted_any {D : Nat → Prop} {W : World} {b0 bs bt N : Nat} {lv : Value} {F : FS} (h : FoldR W D b0 bs bt N lv F) {Bm : Nat} (hBm : Bm < W.heap.size) (hm : W.cell? ⟨Bm, 0, none⟩ = some (.map (some bs))) (hN : N ≤ 1000000000) :
    Calls Try.prog 52 #[.func (.func 69) #[] #[.pointer (some ⟨Bm, 0, none⟩)]] W fun e w' =>
      ∃ v, e = .returned v ∧ w'.ownsRow W.heap.size 3 1 v (shIds F).length ((shIds F).map (Value.int .i64)) ∧ Below W.heap.size W w' := by
  obtain ⟨D0, hown, hss⟩ := shIds_of h
  have hsz := hown.size_le
  have hseq : SeqGives Fence.wide 2 Try.prog 69 #[.pointer (some ⟨Bm, 0, none⟩)] encZ (fun ss => ss.Perm (intKeys D0)) (Maps.size D0) W :=
    AnyZI.keys_gives (ρ := Try.keysA_ren) { Try.keysA with } Fence.wide _ trivial rfl (by omega) Bm bs N D0 W hBm hm hown
  have cS := AnyZI.sorted_in Try.sortedA Fence.wide 5 trivial trivial trivial trivial rfl (by omega) (Try.sortsA _) (enters_of Try.func68 (by kernel_rfl) rfl) 69 #[.pointer (some ⟨Bm, 0, none⟩)] trivial (enters_of Try.func69 (by kernel_rfl) rfl) _ _ (by unfold maxLen; omega) (by omega) _ hseq
  refine ((callsIn_wide (n := 5)).1 cS).mono ?_
  rintro e w' ⟨v, ss, rfl, hS, hrow, _, hb⟩
  obtain ⟨h1, h2⟩ := hss ss hS
  rw [h1, h2] at hrow
  exact ⟨v, rfl, hrow, hb⟩

/-- The shards, each with memory of its own. -/
def RetSh (w : World) (hs : List Sh) (e : Ending) (w' : World) : Prop := ∃ ao c vs, e = .returned (.slice ao hs.length c) ∧ Sep w.heap.size w' [obShs (.slice ao hs.length c) 35 vs hs] ∧ Below w.heap.size w w'
set_option maxHeartbeats 4000000 in
theorem shards_any {D : Nat → Prop} {w : World} {b0 bs bt N : Nat} {lv : Value} {F : FS} (h : FoldR w D b0 bs bt N lv F) (hN : N ≤ 1000000000) :
    Calls Try.prog 31 #[.pointer (some ⟨b0, 0, none⟩)] w (RetSh w (shL F)) := by
  have H := Lib.hid h
  obtain ⟨i0, hi, hz0, hz1, hz2⟩ := info_parts Try.shardInfo2
  obtain ⟨c0, _⟩ := h.cell
  have hb0 := h.heap
  clear h
  go_enter Try.func31, Try.ntmps31
  go_wp2_with fail
  refine (keys_any (some bs) w).mono ?_
  rintro e w1 ⟨rfl, rfl⟩
  have hA := (Below.refl w.heap.size w).alloc (Nat.le_refl _) (.cells #[.map (some bs)] 86)
  have HA := Lib.hid hA
  have HSo := Lib.hid (sorted_any (H.out.below hA (Nat.le_refl _)) (Bm := w.heap.size) (by simp) (World.news_of_block (heap_alloc_new w _) 0 _ rfl) hN)
  clear hA
  go_wp2_with fail
  refine HSo.out.mono ?_
  rintro e w2 ⟨v, rfl, hown2, hb2⟩
  obtain ⟨ko, kc, hve, _, _⟩ := own_form hown2
  subst hve
  have hbw := HA.out.trans (hb2.mono (by simp))
  have HB2 := Lib.hid hbw
  have hsep : Sep w.heap.size w2 [obShs (.slice none 0 0) 35 [] [], obRow (.slice ko (shIds F).length kc) 3 1 (shIds F).length ((shIds F).map (Value.int .i64))] :=
    (((Sep.nil (Nat.le_refl _)).step hbw |>.sub (List.Sublist.refl _)) |> fun (_ : Sep w.heap.size w2 []) => by
      refine ⟨fun o ho => ?_, fun o ho => ?_, fun o ho k hk => ?_, ?_, hbw.size⟩
      · simp at ho; rcases ho with rfl | rfl
        · exact obShs_good ..
        · exact obRow_good ..
      · simp at ho; rcases ho with rfl | rfl
        · exact ⟨World.ownsRow_nil _ _ _ _, ShC.nil _, by intro u hu; cases hu⟩
        · exact hown2.weaken (Nat.zero_le _)
      · simp at ho; rcases ho with rfl | rfl
        · rcases hk with hk | ⟨u, hu, _⟩
          · cases hk
          · cases hu
        · have := (hown2.lt k hk).1; simp at this; omega
      · refine List.Pairwise.cons (fun x hx k hk => ?_) (List.pairwise_singleton _ _)
        rcases hk with hk | ⟨u, hu, _⟩
        · cases hk
        · cases hu)
  have HSep := Lib.hid hsep
  have hl8 := shIds_len F
  clear hown2 hb2 hbw hsep
  go_wp2_with fail
  go_loopw [16, 3, 5, 6] (fun i ov _ _ wr => ∃ (k : Nat) (vs : List Value) (ao : Option Addr) (c : Nat), k ≤ (shIds F).length ∧ i = .int .i64 k ∧ ov = .slice ao k c ∧ Sep w.heap.size wr [obShs (.slice ao k c) 35 vs ((shL F).take k), obRow (.slice ko (shIds F).length kc) 3 1 (shIds F).length ((shIds F).map (Value.int .i64))] ∧ Below w.heap.size w wr) (fun i _ _ _ _ => (shIds F).length - (intOf i).toNat)
  case atStart => exact ⟨0, [], none, 0, by omega, rfl, rfl, HSep.out, HB2.out⟩
  case round =>
    clear HSep HB2
    obtain ⟨k, vs, ao, c, hk, rfl, rfl, hsep, hbw⟩ := hrel
    have HSk := Lib.hid hsep
    have HBk := Lib.hid hbw
    clear hsep hbw
    by_cases hlt : k < (shIds F).length
    · have hki : (k : Int) < ((shIds F).length : Int) := by omega
      obtain ⟨id, hid⟩ : ∃ id, (shIds F)[k]? = some id := ⟨_, List.getElem?_eq_getElem hlt⟩
      obtain ⟨s, hsh, hsk⟩ := shL_at F k id hid
      have hI : IdOk id := ((shIds_mem F id).1 (List.mem_of_getElem? hid)).1
      have hkown : World.ownsRow wr 0 3 1 (.slice ko (shIds F).length kc) (shIds F).length ((shIds F).map (Value.int .i64)) := HSk.out.get 1 rfl
      obtain ⟨ka, kca, hke, _, _, hkx⟩ := SlR.of_own hkown
      simp only [List.length_map] at hke
      cases hke
      obtain ⟨kad, rfl, hkc⟩ := hkx k (.int .i64 id) (by rw [List.getElem?_map, hid]; rfl)
      have hR := H.out.below HBk.out (Nat.le_refl _)
      obtain ⟨f, lo, lc, hf, hfid, hsl, hl1, hl2, ho⟩ := hR.shAt hI hsh
      have hlk := shlook_one hf hI
      rw [hfid] at hlk
      simp only [shLook, Option.getD_some] at hlk
      have d0 := (HBk.out.cell (p := ⟨b0, 0, none⟩) hb0).trans c0
      have hA3 := (Below.refl wr.heap.size wr).alloc (Nat.le_refl _) (.cells #[.int .i64 s.id, .int .i64 s.segs, .slice lo s.lens.length lc, .bool s.fin] 35)
      have HA3 := Lib.hid hA3
      have hsm := H.out.small id s hsh
      have HCl := Lib.hid (clone_any (hsl.below hA3 (Nat.le_refl _)) (by have := hsm.1; omega))
      have HK3 := Lib.hid (heap_alloc_new wr (.cells #[.int .i64 s.id, .int .i64 s.segs, .slice lo s.lens.length lc, .bool s.fin] 35))
      have e2 : (wr.alloc (.cells #[.int .i64 s.id, .int .i64 s.segs, .slice lo s.lens.length lc, .bool s.fin] 35)).cell? ⟨wr.heap.size, 2, none⟩ = some (.slice lo s.lens.length lc) := World.news_of_block HK3.out 2 _ rfl
      have HTk : Hid ((shL F).take (k + 1) = (shL F).take k ++ [s]) := Lib.hid (by
        obtain ⟨h1, h2⟩ := List.getElem?_eq_some_iff.1 hsk
        rw [List.take_succ_eq_append_getElem h1, h2])
      have HLk : Hid (((shL F).take k).length = k) := Lib.hid (by
        have := (List.getElem?_eq_some_iff.1 hsk).1
        rw [List.length_take]; omega)
      clear hkown hkx hR hf hfid hsl ho hA3 hid hsh hsk hsm
      go_wp2_with fail
      refine HCl.out.mono ?_
      rintro e w4 ⟨cv, rfl, hown4, hb4⟩
      simp only [List.length_map] at hown4
      obtain ⟨co, cc, hve, _, _⟩ := own_form hown4
      subst hve
      have hk4 := (hb4.block wr.heap.size (by simp)).trans HK3.out
      have v2 : w4.cell? ⟨wr.heap.size, 2, none⟩ = some (.slice lo s.lens.length lc) := World.news_of_block hk4 2 _ rfl
      have z2 : w4.frozen? ⟨wr.heap.size, 2, none⟩ = false := by simp [World.frozen?, hk4]
      have hk5 := heap_setCell_same w4 wr.heap.size 2 _ _ (.slice co s.lens.length cc) hk4
      have hbr4 := HA3.out.trans (hb4.mono HA3.out.size)
      have hb5 : Below wr.heap.size wr (w4.setCell ⟨wr.heap.size, 2, none⟩ (.slice co s.lens.length cc)) := hbr4.setCell (Nat.le_refl _) _
      have hs5 := HSk.out.new hb5 (obRow_good (.slice co s.lens.length cc) 39 1 s.lens.length (u64s s.lens)) (own_keep (hown4.weaken (Nat.zero_le _)) (fun b hb => Below.heap_setCell w4 ⟨wr.heap.size, 2, none⟩ _ b (fun e => by
        have h1 := (hown4.lt b hb).1
        have h3 : b = wr.heap.size := e
        simp at h1; omega))) (fun q hq => by have := (hown4.lt q hq).1; simp at this; omega)
      have HS5 := Lib.hid (hs5.front 1 rfl)
      have HB5 := Lib.hid (HBk.out.trans (hb5.mono HBk.out.size))
      have p0 : (w4.setCell ⟨wr.heap.size, 2, none⟩ (.slice co s.lens.length cc)).cell? ⟨wr.heap.size, 0, none⟩ = some (.int .i64 s.id) := World.news_of_block hk5 0 _ rfl
      have p1 : (w4.setCell ⟨wr.heap.size, 2, none⟩ (.slice co s.lens.length cc)).cell? ⟨wr.heap.size, 1, none⟩ = some (.int .i64 s.segs) := World.news_of_block hk5 1 _ rfl
      have p2 : (w4.setCell ⟨wr.heap.size, 2, none⟩ (.slice co s.lens.length cc)).cell? ⟨wr.heap.size, 2, none⟩ = some (.slice co s.lens.length cc) := World.news_of_block hk5 2 _ rfl
      have p3 : (w4.setCell ⟨wr.heap.size, 2, none⟩ (.slice co s.lens.length cc)).cell? ⟨wr.heap.size, 3, none⟩ = some (.bool s.fin) := World.news_of_block hk5 3 _ rfl
      clear hown4 hb4 hk4 hk5 hbr4 hb5 hs5
      have HO5 := Lib.hid ((HS5.out.get 0 rfl : (obShs (.slice ao k c) 35 vs ((shL F).take k)).inv _).1)
      rw [HLk.out] at HO5
      have HU4 : Hid (∀ u ∈ (#[.int .i64 s.id, .int .i64 s.segs, .slice co s.lens.length cc, .bool s.fin] : Array Value).toList, u.oneCell' = true) := Lib.hid (by intro u hu; simp at hu; rcases hu with rfl | rfl | rfl | rfl <;> rfl)
      have hk40 : k ≤ 1099511627776 := by omega
      go_wp2_with (first
        | (at_builtin; (refine wpList_appS rfl (.tmp 30) (.tmp 32) 42 rfl 0 35 i0 _ 4 48 Try.underlying42 hi hz0 hz1 hz2 rfl (by decide) (by decide) rfl rfl (by simp) rfl HO5.out HU4.out hk40 (Nat.zero_le _) ?_)
           intro g7 cap7 w7 hown7 hg7 hor7
           have HOwn7 := Lib.hid hown7
           have HG7 := Lib.hid hg7
           have HOr7 := Lib.hid hor7
           clear hown7 hg7 hor7)
        | fail)
      obtain ⟨hsA, hkA⟩ := HS5.out.shApp (g := g7) (cap := cap7) (s := s) HG7.out HOr7.out (by rw [HLk.out]; exact HOwn7.out)
      rw [HLk.out, ← HTk.out] at hsA
      have HSA := Lib.hid hsA
      have HBA := Lib.hid (HS5.out.belowAt HB5.out 0 rfl (hkA.mono (fun q _ hq => Or.inl hq)))
      clear hsA hkA
      go_roundw
      case rel => exact ⟨k + 1, _, _, _, by omega, by go_num, rfl, HSA.out, HBA.out⟩
      case measure => simp [intOf]; omega
    · have hkl : k = (shL F).length := by rw [shL_len]; omega
      have hkl2 : k = (shIds F).length := by omega
      have HS9 : Hid (Sep w.heap.size wr [obShs (.slice ao (shL F).length c) 35 vs (shL F)]) := Lib.hid (by
        have := HSk.out.sub (l := [obShs (.slice ao k c) 35 vs ((shL F).take k)]) (List.sublist_append_left [_] _)
        rw [hkl, List.take_length] at this
        exact this)
      have HKl := Lib.hid hkl
      subst hkl2
      clear hkl hlt hk
      go_wp2_with fail
      go_ret
      refine ⟨ao, c, vs, ?_, HS9.out, HBk.out⟩
      rw [← HKl.out]; rfl
theorem FoldW.shards {W w : World} {p : Value} {N : Nat} {F : FS} (h : FoldW W p w N F) (hN : N ≤ 1000000000) : Calls Try.prog 31 #[p] w (RetSh w (shL F)) := by
  obtain ⟨D, ⟨b0, bs, bt, n, lv, rfl, h2, h3⟩, _⟩ := h; exact shards_any h2 (by omega)
end Go.Proofs.Ytabanackdjlcmaa
