/-
  Bytes and strings. No program in sight.
-/
import Derived.Test.YtabanackdjlcmaaLib3
namespace Go.Proofs.Ytabanackdjlcmaa
open Go.ChangeShapes Go.WideShapes Go.ChangeAt Go.RowKit Go.Maps

abbrev u8s (xs : List Int) : List Value := xs.map (Value.int .u8)
/-- Numbers of a byte. -/
def U8 (xs : List Int) : Prop := ∀ x ∈ xs, 0 ≤ x ∧ x ≤ 255
theorem u8_of_wf {xs : List Int} (h : ∀ x ∈ xs, (Lit.int .u8 x).wf = true) : U8 xs := fun x hx => by
  have := h x hx
  simp [Lit.wf, IntKind.min, IntKind.max, IntKind.signed, IntKind.bits] at this
  omega
theorem u8s_one (xs : List Int) : ∀ u ∈ u8s xs, u.oneCell' = true := by intro u hu; simp at hu; obtain ⟨n, _, rfl⟩ := hu; rfl
/-- The text of these bytes. -/
def strB (xs : List Int) : ByteArray := ⟨(xs.map fun n => UInt8.ofNat n.toNat).toArray⟩
theorem strB_list (xs : List Int) : (strB xs).data.toList = xs.map fun n => UInt8.ofNat n.toNat := by simp [strB]
theorem strB_size (xs : List Int) : (strB xs).size = xs.length := by simp [strB, ByteArray.size]
theorem strB_inj {xs ys : List Int} (hx : U8 xs) (hy : U8 ys) (h : strB xs = strB ys) : xs = ys := by
  have h1 : xs.map (fun n => UInt8.ofNat n.toNat) = ys.map (fun n => UInt8.ofNat n.toNat) := by
    rw [← strB_list, ← strB_list, h]
  have hl := congrArg List.length h1
  simp only [List.length_map] at hl
  apply List.ext_getElem hl
  intro i h2 h3
  have h4 := congrArg (fun l => l[i]?) h1
  simp only [List.getElem?_map, List.getElem?_eq_getElem h2, List.getElem?_eq_getElem h3, Option.map_some, Option.some.injEq] at h4
  have h5 := congrArg UInt8.toNat h4
  have a1 := hx _ (List.getElem_mem h2)
  have a2 := hy _ (List.getElem_mem h3)
  rw [UInt8.toNat_ofNat', UInt8.toNat_ofNat'] at h5
  omega
theorem strB_beq {xs ys : List Int} (hx : U8 xs) (hy : U8 ys) : ((strB xs).toList == (strB ys).toList) = (xs == ys) := by
  rw [Bool.eq_iff_iff, beq_iff_eq, beq_iff_eq]
  constructor
  · intro h
    refine strB_inj hx hy ?_
    have h1 : (strB xs).data.toList = (strB ys).data.toList := by
      have := h
      rwa [ByteArray.toList_eq, ByteArray.toList_eq] at this
    have : (strB xs).data = (strB ys).data := Array.toList_inj.1 h1
    cases hxs : strB xs; cases hys : strB ys
    rw [hxs, hys] at this
    simp at this; subst this; rfl
  · intro h; rw [h]

theorem foldl_push_strB : ∀ (ns : List Int) (s : ByteArray), ns.foldl (fun r n => r.push (UInt8.ofNat n.toNat)) s = ⟨s.data ++ (ns.map fun n => UInt8.ofNat n.toNat).toArray⟩
  | [], s => by simp
  | n :: ns, s => by
    simp only [List.foldl_cons]
    rw [foldl_push_strB ns]
    simp [ByteArray.push]
/-- 'string(b)'. -/
theorem run_strB {P : Program} {w : World} {src dst e : TypeId} (hs : P.underlying src = some (.slice e)) (he : P.underlying e = some (.int .u8)) (hd : P.underlying dst = some .string)
    {v : Value} {xs : List Int} (h : SlR w v (u8s xs)) : (convert src dst v).run P w = .ok (.string (strB xs)) w := by
  obtain ⟨ao, c, rfl, h1, h2⟩ := h.form
  rw [run_convert_bytes_string w src dst e ao _ c hs he hd]
  cases ao with
  | none =>
    obtain ⟨h0, _⟩ := h.none
    have : xs = [] := by simpa using h0
    subst this
    simp [Conv.bytesToString, strB, Sem.run_pure]
    rfl
  | some a =>
    have hload := run_firstCells_some (P := P) w 1 (u8s xs).length a (u8s xs).length c (u8s xs) (by simp) h.cell
    have hl : (loadCells a (u8s xs).length).run P w = .ok (u8s xs).toArray w := by
      simpa [Builtin.firstCells] using hload
    rw [run_bytesToString w a _ c xs hl, foldl_push_strB]
    simp [strB]
end Go.Proofs.Ytabanackdjlcmaa
