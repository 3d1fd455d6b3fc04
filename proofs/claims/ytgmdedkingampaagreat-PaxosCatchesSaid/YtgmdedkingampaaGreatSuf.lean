/-
  A slice that begins anywhere in an array of its own: 'l = l[1:]', then appends.
-/
import Derived.Test.YtgmdedkingampaaGreatDsk4
import Derived.Maps.AppendAt
import Derived.Deep.DeepAppendWide
set_option linter.unusedVariables false
set_option linter.unusedSimpArgs false
namespace Go.Proofs.YtgmdedkingampaaGreat
open Go.ChangeShapes Go.WideShapes Go.ChangeAt Go.RowKit Go.Maps
set_option maxRecDepth 100000

/-- A slice whose cells lie behind place o of an array of its own. -/
def OwnsSuf (w : World) (e : TypeId) (z : Nat) (v : Value) (n : Nat) (xs : List Value) : Prop :=
  xs.length = n * z ∧ ((v = .slice none 0 0 ∧ n = 0) ∨
   ∃ g o cap cur, v = .slice (some ⟨g, o, none⟩) n cap ∧ w.heap[g]? = some (.cells cur e (0, 0)) ∧ n ≤ cap ∧ cap ≤ maxLen ∧ o + cap * z ≤ cur.size ∧ (cur.toList.drop o).take (n * z) = xs)
theorem OwnsSuf.of {w : World} {b z n : Nat} {e : TypeId} {v : Value} {xs : List Value} (h : w.ownsRow b e z v n xs) : OwnsSuf w e z v n xs := by
  refine ⟨h.1, ?_⟩
  rcases h.2 with hn | ⟨g, cap, cur, hv, hb, hg, hnc, hcm, hcs, htake⟩
  · exact Or.inl hn
  · exact Or.inr ⟨g, 0, cap, cur, hv, hg, hnc, hcm, by omega, by simpa using htake⟩
theorem OwnsSuf.lt {w : World} {z n : Nat} {e : TypeId} {v : Value} {xs : List Value} (h : OwnsSuf w e z v n xs) : ∀ k, v.ownBlock = some k → k < w.heap.size := by
  rcases h.2 with ⟨rfl, _⟩ | ⟨g, o, cap, cur, rfl, hg, _⟩
  · intro k hk; cases hk
  · intro k hk; cases hk; exact (Array.getElem?_eq_some_iff.1 hg).1
theorem OwnsSuf.form {w : World} {z n : Nat} {e : TypeId} {v : Value} {xs : List Value} (h : OwnsSuf w e z v n xs) : ∃ ao c, v = .slice ao n c ∧ n ≤ c ∧ c ≤ maxLen := by
  rcases h.2 with ⟨rfl, rfl⟩ | ⟨g, o, cap, cur, rfl, hg, h1, h2, _⟩
  · exact ⟨none, 0, rfl, Nat.le_refl _, by unfold maxLen; omega⟩
  · exact ⟨_, _, rfl, h1, h2⟩
theorem OwnsSuf.form1 {w : World} {z n : Nat} {e : TypeId} {v : Value} {xs : List Value} (h : OwnsSuf w e z v n xs) (hn : 0 < n) : ∃ g o c, v = .slice (some ⟨g, o, none⟩) n c ∧ n ≤ c ∧ c ≤ maxLen := by
  rcases h.2 with ⟨rfl, h0⟩ | ⟨g, o, cap, cur, rfl, hg, h1, h2, _⟩
  · omega
  · exact ⟨_, _, _, rfl, h1, h2⟩
theorem OwnsSuf.cells {w : World} {z n g o c : Nat} {e : TypeId} {xs : List Value} (h : OwnsSuf w e z (.slice (some ⟨g, o, none⟩) n c) n xs) {j : Nat} {u : Value} (hu : xs[j]? = some u) : w.cell? ⟨g, o + j, none⟩ = some u := by
  rcases h.2 with ⟨hn, _⟩ | ⟨g', o', cap, cur, hv, hg, h1, h2, h3, h4⟩
  · cases hn
  · cases hv
    rw [← h4] at hu
    have hj : j < n * z := by
      have := (List.getElem?_eq_some_iff.1 hu).1
      rw [List.length_take] at this
      omega
    rw [List.getElem?_take_of_lt hj, List.getElem?_drop] at hu
    simpa [World.cell?, hg] using hu
theorem OwnsSuf.keepS {S : Nat → Prop} {w w' : World} {z n : Nat} {e : TypeId} {v : Value} {xs : List Value} (hk : Keep S w w') (h : OwnsSuf w e z v n xs) (hs : ∀ k, v.ownBlock = some k → ¬ S k) : OwnsSuf w' e z v n xs := by
  refine ⟨h.1, ?_⟩
  rcases h.2 with hn | ⟨g, o, cap, cur, rfl, hg, rest⟩
  · exact Or.inl hn
  · exact Or.inr ⟨g, o, cap, cur, rfl, by rw [hk.block g (Array.getElem?_eq_some_iff.1 hg).1 (hs g rfl)]; exact hg, rest⟩
/-- What lies ahead of place m is given up: 'l[m:]' (where it begins is not moved if nothing is left of the array). -/
theorem OwnsSuf.cut {w : World} {z n g o c : Nat} {e : TypeId} {xs : List Value} (h : OwnsSuf w e z (.slice (some ⟨g, o, none⟩) n c) n xs) {m : Nat} (hm : m ≤ n) (v : Value) (hv : v = .slice (if c = m then some ⟨g, o, none⟩ else some ⟨g, o + m * z, none⟩) (n - m) (c - m)) :
    OwnsSuf w e z v (n - m) (xs.drop (m * z)) := by
  rcases h.2 with ⟨hn, _⟩ | ⟨g', o', cap, cur, hv', hg, h1, h2, h3, h4⟩
  · cases hn
  · cases hv'
    have hx := h.1
    have hmz := Nat.mul_le_mul_right z hm
    refine ⟨by rw [List.length_drop, hx, Nat.sub_mul], Or.inr ?_⟩
    by_cases hc : c = m
    · rw [if_pos hc] at hv
      refine ⟨g, o, c - m, cur, hv, hg, by omega, by omega, by have : (c - m) * z ≤ c * z := Nat.mul_le_mul_right z (by omega); omega, ?_⟩
      have : n - m = 0 := by omega
      rw [this, Nat.zero_mul, List.take_zero, List.drop_of_length_le (by rw [hx]; exact Nat.mul_le_mul_right z (by omega))]
    · rw [if_neg hc] at hv
      refine ⟨g, o + m * z, c - m, cur, hv, hg, by omega, by omega, by rw [Nat.sub_mul]; have := Nat.mul_le_mul_right z (show m ≤ c by omega); omega, ?_⟩
      rw [← h4, List.drop_take, List.drop_drop, Nat.sub_mul]
/-- A slice of one's own that begins anywhere. -/
def obSuf (v : Value) (e : TypeId) (z n : Nat) (xs : List Value) : Ob := ⟨fun k => v.ownBlock = some k, fun w => OwnsSuf w e z v n xs⟩
theorem obSuf_good (v : Value) (e : TypeId) (z n : Nat) (xs : List Value) : (obSuf v e z n xs).Good :=
  ⟨fun h hk hs => OwnsSuf.keepS hk h (fun k hv hS => hs k hS hv), fun h k hk => h.lt k hk⟩
/-- An element joins: into the array's spare cells, or into a new array. -/
theorem run_app_suf {P : Program} {w : World} (t ty e : TypeId) (i : TypeInfo) (zv : Value) (ht : P.underlying t = some (.slice e)) (hi : P.info? e = some i) (hz : i.zero = some zv) (hby : i.bytes ≤ 1024)
    (hzs : zv.cells.size = i.size) (hsz : 0 < i.size) {v : Value} {n : Nat} {xs : List Value} (hown : OwnsSuf w e i.size v n xs)
    (a : Addr) (m c : Nat) (news : List Value) (hl : news.length = m * i.size) (hnews : ∀ j u, news[j]? = some u → w.cell? (a.add j) = some u) (h1 : ∀ u ∈ news, u.oneCell' = true) (hm : 0 < m)
    (hlen : n + m ≤ 1000000000) :
    ∃ g o cap w', (Builtin.append_ #[t, t] ty #[v, .slice (some a) m c]).run P w = .ok (.slice (some ⟨g, o, none⟩) (n + m) cap) w' ∧ OwnsSuf w' e i.size (.slice (some ⟨g, o, none⟩) (n + m) cap) (n + m) (xs ++ news) ∧ w.grownBy w' v.ownBlock ∧ (v.ownBlock = some g ∨ g = w.heap.size) := by
  have hx := hown.1
  have hlen2 : (xs ++ news).length = (n + m) * i.size := by rw [List.length_append, hx, hl, Nat.add_mul]
  have hfit : ∀ old, old < n + m → Builtin.nextslicecap (n + m) old * i.bytes ≤ 281474976710656 := fun old ho =>
    growslice_fits_wide ho (by have := Nat.mul_le_mul_left ((n + m) + (n + m) / 4 + 192) hby; omega)
  have grown : ∀ (old : Nat), old < n + m → ∀ (row : Option Nat),
      OwnsSuf (w.drew.alloc (.cells (xs.toArray ++ news.toArray ++ Builtin.zeroCells zv.cells (grownCap w (n + m) old e - (n + m))) e)) e i.size
        (.slice (some ⟨w.heap.size, 0, none⟩) (n + m) (grownCap w (n + m) old e)) (n + m) (xs ++ news) ∧
      w.grownBy (w.drew.alloc (.cells (xs.toArray ++ news.toArray ++ Builtin.zeroCells zv.cells (grownCap w (n + m) old e - (n + m))) e)) row := by
    intro old ho row
    have hge := grownCap_ge w (n + m) old e
    have hcm : grownCap w (n + m) old e ≤ maxLen := grownCap_le_maxLen w (n + m) old e (by unfold maxLen; omega)
    refine ⟨⟨hlen2, .inr ⟨w.heap.size, 0, _, _, rfl, heap_alloc_new w.drew _, hge, hcm, ?_, ?_⟩⟩, ⟨rfl, rfl, rfl, by simp, fun k hk _ => heap_alloc_old w.drew _ hk⟩⟩
    · simp only [Array.size_append, List.size_toArray, size_zeroCells, hzs, hx, hl, ← Nat.add_mul, Nat.zero_add]
      rw [show n + m + (grownCap w (n + m) old e - (n + m)) = grownCap w (n + m) old e by omega]
      exact Nat.le_refl _
    · simp only [Array.toList_append, List.drop_zero]
      rw [← hlen2]
      exact List.take_left
  rcases hown.2 with ⟨rfl, rfl⟩ | ⟨g, o, cap, cur, rfl, hg, hnc, hcm, hcs, htake⟩
  · have hx0 : xs = [] := List.eq_nil_of_length_eq_zero (by simpa using hx)
    subst hx0
    have hr := run_append_nil (P := P) w t ty e i zv ht hi hz a m c news hl hnews (by omega) (by omega) (by have hb := Nat.mul_le_mul_left m hby; omega)
    have hgr := grown 0 (by omega) (Value.ownBlock (.slice none 0 0))
    simp only [Nat.zero_add, List.nil_append, Array.empty_append] at hgr ⊢
    exact ⟨_, _, _, _, hr, hgr.1, hgr.2, Or.inr rfl⟩
  · by_cases hroom : n + m ≤ cap
    · have hnm : (n + m) * i.size ≤ cap * i.size := Nat.mul_le_mul_right _ hroom
      have hfit2 : (o + n * i.size) + news.length ≤ cur.size := by rw [hl]; rw [Nat.add_mul] at hnm; omega
      have hf := run_firstCells_some (P := P) w i.size m a m c news hl hnews
      have hst := run_storeCells_at P g (o + n * i.size) e news 0 cur w hg (by simpa using hfit2) h1
      simp only [Nat.add_zero] at hst
      have hr : (Builtin.append_ #[t, t] ty #[.slice (some ⟨g, o, none⟩) n cap, .slice (some a) m c]).run P w =
          .ok (.slice (some ⟨g, o, none⟩) (n + m) cap) (w.setRow g (cur.toList.take (o + n * i.size) ++ news ++ cur.toList.drop (o + n * i.size + news.length)).toArray) := by
        simp [Builtin.append_, run_underlying ht, sizeOf, typeInfo, hi, Builtin.lenOf, hroom, hf, Addr.add_lit, hst]
      refine ⟨_, _, _, _, hr, ⟨hlen2, .inr ⟨g, o, cap, _, rfl, setRow_heap w g cur _ e _ hg, hroom, hcm, ?_, ?_⟩⟩, ⟨rfl, rfl, rfl, by simp, fun k _ hk => setRow_other w g k _ (fun e => hk (by simp [Value.ownBlock, e]))⟩, Or.inl rfl⟩
      · simp only [List.size_toArray, List.length_append, List.length_take, List.length_drop, Array.length_toList]
        omega
      · have hlt : (cur.toList.take (o + n * i.size)).length = o + n * i.size := by rw [List.length_take, Array.length_toList, Nat.min_eq_left (by omega)]
        rw [List.append_assoc, List.drop_append_of_le_length (by omega), List.drop_take, show o + n * i.size - o = n * i.size by omega, htake, ← List.append_assoc, ← hlen2]
        exact List.take_left
    · have holds : ∀ j u, xs[j]? = some u → w.cell? ((⟨g, o, none⟩ : Addr).add j) = some u := fun j u hu => by
        rw [Addr.add_lit]
        exact hown.cells hu
      have hr := run_append_grow (P := P) w t ty e i zv ht hi hz ⟨g, o, none⟩ n cap xs hx holds a m c news hl hnews (by omega) (by omega) (hfit cap (by omega))
      have hgr := grown cap (by omega) (Value.ownBlock (.slice (some ⟨g, o, none⟩) n cap))
      exact ⟨_, _, _, _, hr, hgr.1, hgr.2, Or.inr rfl⟩
/-- One element joins a slice that begins anywhere, in a region. -/
theorem step_appS1 {P : Program} {w : World} {ops : Array Oper} {o : Oper} {a : Act} {K : Act → World → Prop} {Q : Exit → Act → World → Prop} {E : Prop} (hgd : o.guard = none) (s x : Operand) (t : TypeId)
    (ho : o.op = .call { callee := .builtin .append, args := #[s, x], argTypes := #[t, t] })
    (e : TypeId) (z : Value) (size bytes : Nat) (ht : P.underlying t = some (.slice e)) (hie : (P.info? e).map (fun i => (i.zero, i.size, i.bytes)) = some (some z, size, bytes))
    (hzs : z.cells.size = size) (hsz : 0 < size) (hb64 : bytes ≤ 1024)
    {v : Value} {n : Nat} {xs : List Value} {us : Array Value} {c B : Nat} {e' : TypeId} {fr : Nat × Nat} (hs : a.eval s = v) (hx : a.eval x = .slice (some ⟨B, 0, none⟩) 1 c) (hB : w.heap[B]? = some (.cells us e' fr)) (hm : us.toList.length = size) (hown : OwnsSuf w e size v n xs) (hu : ∀ u ∈ us.toList, u.oneCell' = true)
    (hlen : n ≤ 100000000)
    (h : ∀ g o2 cap w', OwnsSuf w' e size (.slice (some ⟨g, o2, none⟩) (n + 1) cap) (n + 1) (xs ++ us.toList) → w.grownBy w' v.ownBlock → (v.ownBlock = some g ∨ w.heap.size ≤ g) →
      K (a.put o.dst (.slice (some ⟨g, o2, none⟩) (n + 1) cap)) w') : if Region.wanted o (yielded ops a.tmps) = true then Oper.wp P o a w K Q else E := by
  have hw : Region.wanted o (yielded ops a.tmps) = true := by simp [Region.wanted, hgd]
  rw [if_pos hw]
  obtain ⟨i, hi, hz⟩ := Option.map_eq_some_iff.1 hie
  simp only [Prod.mk.injEq] at hz
  obtain ⟨hz0, hz1, hz2⟩ := hz
  subst hz1
  subst hz2
  obtain ⟨g, o2, cap, w', hr, h1, h2, h3⟩ := run_app_suf (P := P) (w := w) t o.type e i z ht hi hz0 hb64 hzs hsz hown ⟨B, 0, none⟩ 1 c us.toList (by omega) (World.news_of_block hB) hu (by decide) (by omega)
  unfold Oper.wp execOp
  simp only [ho, resolve, invoke, builtin, Sem.run_bind, Sem.run_pure, Result.andThen_ok, List.map_toArray, List.map_cons, List.map_nil, hs, hx, hr]
  exact h _ _ _ _ h1 h2 (h3.imp id (fun e => by omega))
end Go.Proofs.YtgmdedkingampaaGreat
