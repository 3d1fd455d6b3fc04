/-
  Append of one element of some cells, at a step of a region that draws. No program in sight.
-/
import Derived.Test.YtgmdedkingampaaGreatClo
set_option linter.unusedVariables false
set_option linter.unusedSimpArgs false
namespace Go.Proofs.YtgmdedkingampaaGreat
open Go.ChangeShapes Go.WideShapes Go.ChangeAt Go.RowKit Go.Maps

/-- 'append(out, u)' of one element of some cells, at a step of a region that draws. -/
theorem step_appS {P : Program} {w : World} {ops : Array Oper} {o : Oper} {a : Act} {K : Act → World → Prop} {Q : Exit → Act → World → Prop} {E : Prop} (hgd : o.guard = none) (s x : Operand) (t : TypeId)
    (ho : o.op = .call { callee := .builtin .append, args := #[s, x], argTypes := #[t, t] })
    (base : Nat) (e : TypeId) (i : TypeInfo) (z : Value) (size bytes : Nat) (ht : P.underlying t = some (.slice e)) (hi : P.info? e = some i) (hz : i.zero = some z)
    (hsize : i.size = size) (hby : i.bytes = bytes) (hzs : z.cells.size = size) (hsz : 0 < size) (hb64 : bytes ≤ 64)
    {v : Value} {n : Nat} {xs : List Value} {us : Array Value} {c B : Nat} {e' : TypeId} {fr : Nat × Nat} (hs : a.eval s = v) (hx : a.eval x = .slice (some ⟨B, 0, none⟩) 1 c) (hB : w.heap[B]? = some (.cells us e' fr)) (hm : us.toList.length = size) (hown : w.ownsRow base e size v n xs) (hu : ∀ u ∈ us.toList, u.oneCell' = true)
    (hlen : n ≤ 1099511627776) (hbase : base ≤ w.heap.size)
    (h : ∀ g cap w', w'.ownsRow base e size (.slice (some ⟨g, 0, none⟩) (n + 1) cap) (n + 1) (xs ++ us.toList) → Below base w w' → (v.ownBlock = some g ∨ w.heap.size ≤ g) → (∀ k, k < w.heap.size → some k ≠ v.ownBlock → w'.heap[k]? = w.heap[k]?) →
      K (a.put o.dst (.slice (some ⟨g, 0, none⟩) (n + 1) cap)) w') : if Region.wanted o (yielded ops a.tmps) = true then Oper.wp P o a w K Q else E := by
  have hw : Region.wanted o (yielded ops a.tmps) = true := by simp [Region.wanted, hgd]
  rw [if_pos hw]
  refine wp_append_lies _ s x t ho base e i z size bytes ht hi hz hsize hby hzs hsz v n xs hs hown ⟨B, 0, none⟩ 1 c us.toList hx (by omega) (World.news_of_block hB) hu (by decide) (by unfold maxLen; omega)
    (by have := Nat.mul_le_mul_left (n + 1) hb64; omega) hbase _ rfl ?_
  intro g cap w' h1 h2 h3 _
  refine h g cap w' h1 ((Below.refl _ _).grown h2 hbase (fun k hk => (hown.lt k hk).1)) ?_ (fun k hk hne => h2.block k hk hne)
  rcases h3 with h3 | h3
  · exact .inl h3
  · right; omega

end Go.Proofs.YtgmdedkingampaaGreat
