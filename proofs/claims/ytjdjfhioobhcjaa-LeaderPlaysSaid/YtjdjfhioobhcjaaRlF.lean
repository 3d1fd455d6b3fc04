/-
  The document's leader: Accepted.
-/
import Derived.Test.YtjdjfhioobhcjaaRlE
namespace Go.Proofs.Ytjdjfhioobhcjaa
open Go.ChangeShapes Go.WideShapes Go.ChangeAt Go.RowKit Go.Maps Go.Shelf
set_option maxRecDepth 100000

theorem Try.intInfo : (Try.prog.info? 3).map (fun i => (i.zero, i.size, i.bytes)) = some (some (.int .i64 0), 1, 8) := by kernel_rfl
set_option maxHeartbeats 4000000 in
theorem racc_no {S : Nat → Prop} {w : World} {R : RL} {pv kv ov : Value} (h : RLs S w R pv kv ov) {node b s : Int} (hno : ¬ (R.stage = 2 ∧ b = R.ballot ∧ 0 ≤ node ∧ node < R.many)) : Calls Try.prog 40 #[rlV R pv kv ov, .int .i64 node, .int .u64 b, .int .u64 s] w fun e w' => e = .returned (.tuple #[rlV R pv kv ov, rvZ, .bool false]) ∧ Below w.heap.size w w' := by
  unfold rvZ
  obtain ⟨po, pc, ko, kc, oo, oc, rfl, rfl, rfl, a1, a2, b1, b2, c1, c2⟩ := h.forms
  have H := Lib.hid h
  unfold rlV
  obtain ⟨many, stage, ballot, first, next, prom, kn, op⟩ := R
  simp only at *
  clear h
  go_enter Try.func40, Try.ntmps40
  by_cases q1 : stage = 2
  · subst q1
    have d1 : ((2 : Int) != 2) = false := by decide
    by_cases q2 : b = ballot
    · subst q2
      have d2 : (b != b) = false := by simp
      by_cases q3 : node < 0
      · clear hno
        go_wp2_with fail
        obtain ⟨k0, k1, k2, k3, hB⟩ := three_new w (.cells #[.int .i64 many, .int .i64 2, .int .u64 b, .int .u64 first, .int .u64 next, .slice po prom.length pc, .slice ko kn.length kc, .slice oo op.length oc] 66) (.cells #[.int .i64 many, .int .i64 2, .int .u64 b, .int .u64 first, .int .u64 next, .slice po prom.length pc, .slice ko kn.length kc, .slice oo op.length oc] 66) (.cells #[.int .u64 0, .int .u64 0, .string ⟨#[]⟩] 56)
        have HB := Lib.hid hB
        generalize ((w.alloc (.cells #[.int .i64 many, .int .i64 2, .int .u64 b, .int .u64 first, .int .u64 next, .slice po prom.length pc, .slice ko kn.length kc, .slice oo op.length oc] 66)).alloc (.cells #[.int .i64 many, .int .i64 2, .int .u64 b, .int .u64 first, .int .u64 next, .slice po prom.length pc, .slice ko kn.length kc, .slice oo op.length oc] 66)).alloc (.cells #[.int .u64 0, .int .u64 0, .string ⟨#[]⟩] 56) = W4 at *
        obtain ⟨s0, s1, s2, s3, s4, s5, s6, s7⟩ := cells8 k1
        obtain ⟨v0, v1, v2⟩ := cells3 k2
        refine bodyPost_ret (v := .tuple #[.agg #[.int .i64 many, .int .i64 2, .int .u64 b, .int .u64 first, .int .u64 next, .slice po prom.length pc, .slice ko kn.length kc, .slice oo op.length oc], .agg #[.int .u64 0, .int .u64 0, .string ⟨#[]⟩], .bool false]) (by simp [results, Try.results40, go_sem, s0, s1, s2, s3, s4, s5, s6, s7, v0, v1, v2]) rfl ?_
        exact ⟨rfl, HB.out⟩
      · have d3 : decide (node < 0) = false := decide_eq_false q3
        have d4 : many ≤ node := by omega
        clear hno q3
        go_wp2_with fail
        obtain ⟨k0, k1, k2, k3, hB⟩ := three_new w (.cells #[.int .i64 many, .int .i64 2, .int .u64 b, .int .u64 first, .int .u64 next, .slice po prom.length pc, .slice ko kn.length kc, .slice oo op.length oc] 66) (.cells #[.int .i64 many, .int .i64 2, .int .u64 b, .int .u64 first, .int .u64 next, .slice po prom.length pc, .slice ko kn.length kc, .slice oo op.length oc] 66) (.cells #[.int .u64 0, .int .u64 0, .string ⟨#[]⟩] 56)
        have HB := Lib.hid hB
        generalize ((w.alloc (.cells #[.int .i64 many, .int .i64 2, .int .u64 b, .int .u64 first, .int .u64 next, .slice po prom.length pc, .slice ko kn.length kc, .slice oo op.length oc] 66)).alloc (.cells #[.int .i64 many, .int .i64 2, .int .u64 b, .int .u64 first, .int .u64 next, .slice po prom.length pc, .slice ko kn.length kc, .slice oo op.length oc] 66)).alloc (.cells #[.int .u64 0, .int .u64 0, .string ⟨#[]⟩] 56) = W4 at *
        obtain ⟨s0, s1, s2, s3, s4, s5, s6, s7⟩ := cells8 k1
        obtain ⟨v0, v1, v2⟩ := cells3 k2
        refine bodyPost_ret (v := .tuple #[.agg #[.int .i64 many, .int .i64 2, .int .u64 b, .int .u64 first, .int .u64 next, .slice po prom.length pc, .slice ko kn.length kc, .slice oo op.length oc], .agg #[.int .u64 0, .int .u64 0, .string ⟨#[]⟩], .bool false]) (by simp [results, Try.results40, go_sem, s0, s1, s2, s3, s4, s5, s6, s7, v0, v1, v2]) rfl ?_
        exact ⟨rfl, HB.out⟩
    · have d2 : (b != ballot) = true := by simpa using q2
      clear hno q2
      go_wp2_with fail
      obtain ⟨k0, k1, k2, k3, hB⟩ := three_new w (.cells #[.int .i64 many, .int .i64 2, .int .u64 ballot, .int .u64 first, .int .u64 next, .slice po prom.length pc, .slice ko kn.length kc, .slice oo op.length oc] 66) (.cells #[.int .i64 many, .int .i64 2, .int .u64 ballot, .int .u64 first, .int .u64 next, .slice po prom.length pc, .slice ko kn.length kc, .slice oo op.length oc] 66) (.cells #[.int .u64 0, .int .u64 0, .string ⟨#[]⟩] 56)
      have HB := Lib.hid hB
      generalize ((w.alloc (.cells #[.int .i64 many, .int .i64 2, .int .u64 ballot, .int .u64 first, .int .u64 next, .slice po prom.length pc, .slice ko kn.length kc, .slice oo op.length oc] 66)).alloc (.cells #[.int .i64 many, .int .i64 2, .int .u64 ballot, .int .u64 first, .int .u64 next, .slice po prom.length pc, .slice ko kn.length kc, .slice oo op.length oc] 66)).alloc (.cells #[.int .u64 0, .int .u64 0, .string ⟨#[]⟩] 56) = W4 at *
      obtain ⟨s0, s1, s2, s3, s4, s5, s6, s7⟩ := cells8 k1
      obtain ⟨v0, v1, v2⟩ := cells3 k2
      refine bodyPost_ret (v := .tuple #[.agg #[.int .i64 many, .int .i64 2, .int .u64 ballot, .int .u64 first, .int .u64 next, .slice po prom.length pc, .slice ko kn.length kc, .slice oo op.length oc], .agg #[.int .u64 0, .int .u64 0, .string ⟨#[]⟩], .bool false]) (by simp [results, Try.results40, go_sem, s0, s1, s2, s3, s4, s5, s6, s7, v0, v1, v2]) rfl ?_
      exact ⟨rfl, HB.out⟩
  · have d1 : (stage != 2) = true := by simpa using q1
    clear hno q1
    go_wp2_with fail
    obtain ⟨k0, k1, k2, k3, hB⟩ := three_new w (.cells #[.int .i64 many, .int .i64 stage, .int .u64 ballot, .int .u64 first, .int .u64 next, .slice po prom.length pc, .slice ko kn.length kc, .slice oo op.length oc] 66) (.cells #[.int .i64 many, .int .i64 stage, .int .u64 ballot, .int .u64 first, .int .u64 next, .slice po prom.length pc, .slice ko kn.length kc, .slice oo op.length oc] 66) (.cells #[.int .u64 0, .int .u64 0, .string ⟨#[]⟩] 56)
    have HB := Lib.hid hB
    generalize ((w.alloc (.cells #[.int .i64 many, .int .i64 stage, .int .u64 ballot, .int .u64 first, .int .u64 next, .slice po prom.length pc, .slice ko kn.length kc, .slice oo op.length oc] 66)).alloc (.cells #[.int .i64 many, .int .i64 stage, .int .u64 ballot, .int .u64 first, .int .u64 next, .slice po prom.length pc, .slice ko kn.length kc, .slice oo op.length oc] 66)).alloc (.cells #[.int .u64 0, .int .u64 0, .string ⟨#[]⟩] 56) = W4 at *
    obtain ⟨s0, s1, s2, s3, s4, s5, s6, s7⟩ := cells8 k1
    obtain ⟨v0, v1, v2⟩ := cells3 k2
    refine bodyPost_ret (v := .tuple #[.agg #[.int .i64 many, .int .i64 stage, .int .u64 ballot, .int .u64 first, .int .u64 next, .slice po prom.length pc, .slice ko kn.length kc, .slice oo op.length oc], .agg #[.int .u64 0, .int .u64 0, .string ⟨#[]⟩], .bool false]) (by simp [results, Try.results40, go_sem, s0, s1, s2, s3, s4, s5, s6, s7, v0, v1, v2]) rfl ?_
    exact ⟨rfl, HB.out⟩
/-- Who voted, with one more. -/
def whoA (node : Int) (who : List Int) : List Int := if node ∈ who then who else who ++ [node]
/-- What is chosen so far. -/
def chS (many node slot : Int) (c : Option Vt) (o : RO) : Option Vt := if o.v.slot = slot ∧ many / 2 < ((whoA node o.who).length : Int) then some o.v else c
def chF (many node slot : Int) (os : List RO) : Option Vt := os.foldl (chS many node slot) none
theorem chF_succ {many node slot : Int} {os : List RO} {k : Nat} {o : RO} (h : os[k]? = some o) : chF many node slot (os.take (k + 1)) = chS many node slot (chF many node slot (os.take k)) o := by
  obtain ⟨hlt, e⟩ := List.getElem?_eq_some_iff.1 h
  unfold chF
  rw [List.take_succ_eq_append_getElem hlt, List.foldl_append, e]
  rfl
theorem chF_look {os : List RO} (h : os.Pairwise (fun x y => x.v.slot < y.v.slot)) (many node slot : Int) (c : Option Vt) : os.foldl (chS many node slot) c = match lookO os slot with | none => c | some o => if many / 2 < ((whoA node o.who).length : Int) then some o.v else c := by
  induction os generalizing c with
  | nil => rfl
  | cons x r ih =>
    have h' := List.pairwise_cons.1 h
    rw [List.foldl_cons, ih h'.2, lookO_cons]
    by_cases e : x.v.slot = slot
    · have hn : lookO r slot = none := by
        unfold lookO
        rw [List.find?_eq_none]
        intro y hy
        have := h'.1 y hy
        simp
        omega
      rw [hn, if_pos e]
      simp only
      unfold chS
      by_cases hm : many / 2 < ((whoA node x.who).length : Int)
      · rw [if_pos ⟨e, hm⟩, if_pos hm]
      · rw [if_neg (fun hh => hm hh.2), if_neg hm]
    · rw [if_neg e]
      have : chS many node slot c x = c := by unfold chS; rw [if_neg (fun hh => e hh.1)]
      rw [this]
theorem rVote_no {many node slot : Int} {o : RO} (h : o.v.slot ≠ slot) : rVote many node slot o = some o := by unfold rVote; rw [if_neg h]
theorem rVote_yes {many node slot : Int} {o : RO} (h : o.v.slot = slot) : rVote many node slot o = if many / 2 < ((whoA node o.who).length : Int) then none else some ⟨o.v, whoA node o.who⟩ := by unfold rVote whoA; rw [if_pos h]
theorem fm_succ {f : RO → Option RO} {os : List RO} {k : Nat} {o : RO} (h : os[k]? = some o) : (os.take (k + 1)).filterMap f = (os.take k).filterMap f ++ (match f o with | none => [] | some q => [q]) := by
  obtain ⟨hlt, e⟩ := List.getElem?_eq_some_iff.1 h
  rw [List.take_succ_eq_append_getElem hlt, List.filterMap_append, e]
  congr 1
  cases hf : f o <;> simp [hf]
theorem fm_len (f : RO → Option RO) (os : List RO) (k : Nat) : ((os.take k).filterMap f).length ≤ k := by
  have h1 := List.length_filterMap_le f (os.take k)
  have h2 := List.length_take_le k os
  omega
/-- The cells of what is chosen. -/
def chC (c : Option Vt) : Array Value := match c with | none => #[.int .u64 0, .int .u64 0, .string ⟨#[]⟩] | some v => #[.int .u64 v.slot, .int .u64 v.ballot, .string (strB v.val)]
def rvO (c : Option Vt) : Value := match c with | none => rvZ | some v => rvV v
/-- Where those who voted may lie: apart from the proposals' own row. -/
def Tw (S : Nat → Prop) (w wr : World) (ov : Value) (q : Nat) : Prop := S q ∨ (w.heap.size + 4 ≤ q ∧ q < wr.heap.size ∧ ov.ownBlock ≠ some q)
end Go.Proofs.Ytjdjfhioobhcjaa
