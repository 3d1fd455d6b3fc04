/-
  Package client: does a message tell a call's outcome?
-/
import Derived.Test.YtdmfladjhjpafaaCli4
namespace Go.Proofs.Ytdmfladjhjpafaa
open Go.ChangeShapes Go.WideShapes Go.ChangeAt Go.RowKit Go.Maps
set_option maxRecDepth 100000

/-- A message. -/
structure Ms where
  kind : Int
  ballot : Int
  slot : Int
  sh : Int
  sg : Int
  client : Int
  seq : Int
  pos : Int
  code : Int
  vec : List Int
  body : List Int
abbrev msC (m : Ms) (vv bv : Value) : Array Value := #[.int .i64 m.kind, .int .u64 m.ballot, .int .u64 m.slot, .int .i64 m.sh, .int .i64 m.sg, .int .u64 m.client, .int .u64 m.seq, .int .u64 m.pos, .int .i64 m.code, vv, bv]
abbrev clC (x : Cl) (sv : Value) : Array Value := #[.int .i64 x.op, .int .i64 x.sh, .int .i64 x.sg, .int .u64 x.pos, sv]
theorem fits1_any {w : World} {p q : Nat} {x : Cl} {m : Ms} {sv vv bv : Value} (hp : w.heap[p]? = some (.cells (clC x sv) 35 (0, 0))) (hq : w.heap[q]? = some (.cells (msC m vv bv) 39 (0, 0))) :
    Calls Try.prog 27 #[.pointer (some ⟨p, 0, none⟩), .pointer (some ⟨q, 0, none⟩)] w fun e w' => e = .returned (.bool (x.op == 1 && m.sh == x.sh && m.sg == x.sg)) ∧ w = w' := by
  have c0 : w.cell? ⟨p, 0, none⟩ = some (.int .i64 x.op) := World.news_of_block hp 0 _ rfl
  have c1 : w.cell? ⟨p, 1, none⟩ = some (.int .i64 x.sh) := World.news_of_block hp 1 _ rfl
  have c2 : w.cell? ⟨p, 2, none⟩ = some (.int .i64 x.sg) := World.news_of_block hp 2 _ rfl
  have d3 : w.cell? ⟨q, 3, none⟩ = some (.int .i64 m.sh) := World.news_of_block hq 3 _ rfl
  have d4 : w.cell? ⟨q, 4, none⟩ = some (.int .i64 m.sg) := World.news_of_block hq 4 _ rfl
  clear hp hq
  cases h1 : (x.op == 1)
  · go_enter Try.func27, Try.ntmps27
    go_wp2
    go_ret
    exact ⟨rfl, rfl⟩
  · cases h2 : (m.sh == x.sh)
    · go_enter Try.func27, Try.ntmps27
      go_wp2
      go_ret
      exact ⟨rfl, rfl⟩
    · go_enter Try.func27, Try.ntmps27
      go_wp2
      go_ret
      exact ⟨by simp, rfl⟩
theorem fits2_any {w : World} {p q : Nat} {x : Cl} {m : Ms} {sv vv bv : Value} (hp : w.heap[p]? = some (.cells (clC x sv) 35 (0, 0))) (hq : w.heap[q]? = some (.cells (msC m vv bv) 39 (0, 0))) :
    Calls Try.prog 28 #[.pointer (some ⟨p, 0, none⟩), .pointer (some ⟨q, 0, none⟩)] w fun e w' => e = .returned (.bool (x.op == 2 && m.pos == x.pos)) ∧ w = w' := by
  have c0 : w.cell? ⟨p, 0, none⟩ = some (.int .i64 x.op) := World.news_of_block hp 0 _ rfl
  have c3 : w.cell? ⟨p, 3, none⟩ = some (.int .u64 x.pos) := World.news_of_block hp 3 _ rfl
  have d7 : w.cell? ⟨q, 7, none⟩ = some (.int .u64 m.pos) := World.news_of_block hq 7 _ rfl
  clear hp hq
  cases h1 : (x.op == 2)
  · go_enter Try.func28, Try.ntmps28
    go_wp2
    go_ret
    exact ⟨rfl, rfl⟩
  · go_enter Try.func28, Try.ntmps28
    go_wp2
    go_ret
    exact ⟨by simp, rfl⟩
theorem fits3_any {w : World} {p : Nat} {x : Cl} {sv : Value} (hp : w.heap[p]? = some (.cells (clC x sv) 35 (0, 0))) :
    Calls Try.prog 29 #[.pointer (some ⟨p, 0, none⟩)] w fun e w' => e = .returned (.bool (decide (2 < x.op))) ∧ w = w' := by
  have c0 : w.cell? ⟨p, 0, none⟩ = some (.int .i64 x.op) := World.news_of_block hp 0 _ rfl
  clear hp
  go_enter Try.func29, Try.ntmps29
  go_wp2
  go_ret
  exact ⟨rfl, rfl⟩
end Go.Proofs.Ytdmfladjhjpafaa
