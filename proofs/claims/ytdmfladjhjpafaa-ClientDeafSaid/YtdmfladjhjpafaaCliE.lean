/-
  Package client: one as a thing of the call's own.
-/
import Derived.Test.YtdmfladjhjpafaaCliD
namespace Go.Proofs.Ytdmfladjhjpafaa
open Go.ChangeShapes Go.WideShapes Go.ChangeAt Go.RowKit Go.Maps
set_option maxRecDepth 1000000

section
variable {W w w' : World} {os : List Ob}
/-- One thing turns, another is made apart from it. -/
theorem SepW.setThing (h : SepW W w os) (i : Nat) {o o' n : Ob} (hi : os[i]? = some o) (hk : Keep o.foot w w') (g : o'.Good) (hi' : o'.inv w') (hf : ∀ k, o'.foot k → o.foot k ∨ w.heap.size ≤ k) (gn : n.Good) (hn : n.inv w') (hb : ∀ k, n.foot k → w.heap.size ≤ k) (hd : ∀ k, n.foot k → ¬ o'.foot k) :
    SepW W w' (n :: os.set i o') := by
  have hs := h.set i hi hk g hi' hf
  refine ⟨⟨fun x hx => ?_, fun x hx => ?_, fun x hx k hk => ?_, List.Pairwise.cons (fun x hx k hk1 hk2 => ?_) hs.sep.apart, hs.sep.size⟩, hs.below⟩
  · rcases List.mem_cons.1 hx with rfl | hx
    · exact gn
    · exact hs.sep.good x hx
  · rcases List.mem_cons.1 hx with rfl | hx
    · exact hn
    · exact hs.sep.inv x hx
  · rcases List.mem_cons.1 hx with rfl | hx
    · have := hb k hk; have := h.sep.size; omega
    · exact hs.sep.base x hx k hk
  · have hge := hb k hk1
    rcases List.mem_or_eq_of_mem_set hx with hx | rfl
    · have := (h.sep.good x hx).lt (h.sep.inv x hx) k hk2; omega
    · exact hd k hk1 hk2
end
/-- A row of the call's own, cell by cell. -/
theorem own_cells {w : World} {base : Nat} {e : TypeId} {size : Nat} {v : Value} {n : Nat} {xs : List Value} (h : w.ownsRow base e size v n xs) (hn : 0 < n) : ∃ g cap, v = .slice (some ⟨g, 0, none⟩) n cap ∧ n ≤ cap ∧ ∀ j u, xs[j]? = some u → w.cell? ⟨g, j, none⟩ = some u := by
  rcases h.2 with ⟨rfl, h0⟩ | ⟨g, cap, cur, rfl, hb, hg, h1, _⟩
  · omega
  · refine ⟨g, cap, rfl, h1, fun j u hj => ?_⟩
    have := h.cells (g := g) rfl _ _ hj
    rwa [Addr.add_mid, Nat.zero_add] at this
/-- A client at p, all of whose blocks are of D. -/
def CliO (p : Value) (D : Nat → Prop) (w : World) (N : Nat) (A : CS) : Prop := ∃ b0 bm, p = .pointer (some ⟨b0, 0, none⟩) ∧ CliR w D b0 bm N A
def obCli (p : Value) (D : Nat → Prop) (N : Nat) (A : CS) : Ob := ⟨D, fun w => CliO p D w N A⟩
theorem obCli_good (p : Value) (D : Nat → Prop) (N : Nat) (A : CS) : (obCli p D N A).Good :=
  ⟨fun ⟨b0, bm, e, h⟩ hk hs => ⟨b0, bm, e, h.keep hk hs⟩, fun ⟨_, _, _, h⟩ k hk => h.lt k hk⟩
section
variable {W w : World} {os : List Ob} {p : Value} {D : Nat → Prop} {N : Nat} {A : CS}
theorem SepW.cliNew (h : SepW W w os) {id : Int} {sv ov : Value} {shards : List (List Int)} {orders : List Int} (hi : U1 id) (hi0 : id ≠ 0) (hs : RowsK w .i64 sv shards) (hsl : 1 ≤ shards.length ∧ shards.length ≤ 8) (ho : SlR w ov (i64s orders)) (hno : nodesB orders 7 = true) (hns : shards.any badS = false) :
    Calls Try.prog 7 #[.int .u64 id, sv, ov] w fun e w' => ∃ b0 D, e = .returned (.tuple #[.pointer (some ⟨b0, 0, none⟩), .int .i64 0]) ∧ SepW W w' (obCli (.pointer (some ⟨b0, 0, none⟩)) D 0 ⟨id, 0, shards, orders, fun _ => none⟩ :: os) :=
  (cnew_ok hi hi0 hs hsl ho hno hns).mono fun e w' ⟨b0, bm, D, h1, h2, h3, h4⟩ => ⟨b0, D, h1, h.new h4 (obCli_good ..) ⟨b0, bm, rfl, h2⟩ h3⟩
theorem SepW.cliBegin (h : SepW W w os) (i : Nat) (hi : os[i]? = some (obCli p D N A)) {x : Cl} {sv : Value} (hsl : SlR w sv (u8s x.body)) (hok : ClOk A.shards x) (hb : x.body = [] ∨ x.op = 1) (hp : x.pos = 0 ∨ x.op = 2 ∨ x.op = 5) (hth : x.op ≤ 2 → thereB A.shards x = true) (hN : N + 2 < 1000000) (hL : A.last < 1000000) :
    Calls Try.prog 8 #[p, .agg (clC x sv)] w fun e w' => ∃ g bv D', e = .returned (.tuple #[.int .u64 (A.last + 1), .slice (some ⟨g, 0, none⟩) 1 1, .int .i64 0]) ∧
      SepW W w' (obBlk g (.cells (outC (askTo A x 0) (askMs A.id (A.last + 1) x) (.slice none 0 0) bv) 48) :: os.set i (obCli p D' (N + 2) (begL A x 1))) := by
  obtain ⟨b0, bm, rfl, hr⟩ := (h.get i hi : CliO p D w N A)
  exact (cbegin_ok hr hsl hok hb hp hth hN hL).mono fun e w' ⟨g, bv, D', h1, h2, h3, h4, h5, h6, _⟩ => ⟨g, bv, D', h1, h.setThing i hi h6.keep (obCli_good ..) ⟨b0, bm, rfl, h5⟩ h6.new (obBlk_good ..) h2 (fun k hk => by rw [show k = g from hk]; exact h3) (fun k hk hd => by rw [show k = g from hk] at hd; exact h4 hd)⟩
theorem SepW.cliTick (h : SepW W w os) (i : Nat) (hi : os[i]? = some (obCli p D N A)) {K : List Int} (hK : N + K.length < 1000000) (hKs : ∀ a, (A.l a).isSome = true → a ∈ K) (hm : ∀ a x m, A.l a = some (x, m) → m < 1000000) :
    Calls Try.prog 11 #[p] w fun e w' => ∃ ks ao c cs, IsCKeys A.l ks ∧ e = .returned (.slice ao ks.length c) ∧ OutC cs (ks.map (askL A)) ∧ SepW W w' (obRow (.slice ao ks.length c) 48 12 ks.length cs :: os.set i (obCli p D (N + ks.length) (tickA A))) := by
  obtain ⟨b0, bm, rfl, hr⟩ := (h.get i hi : CliO p D w N A)
  exact (ctick_any hr hK hKs hm).mono fun e w' ⟨ks, ao, c, cs, h1, h2, h3, h4, h5, h6, h7⟩ => ⟨ks, ao, c, cs, h1, h2, h3, h.setThing i hi h7.keep (obCli_good ..) ⟨b0, bm, rfl, h6⟩ h7.new (obRow_good ..) h4 h5 (fun k hk hd => by have h8 := h5 k hk; have h9 := hr.lt k hd; omega)⟩
theorem SepW.cliOpen (h : SepW W w os) (i : Nat) (hi : os[i]? = some (obCli p D N A)) (hN : N ≤ 1000000) {K : List Int} (hK : K.length < 1000000) (hKs : ∀ a, (A.l a).isSome = true → a ∈ K) :
    Calls Try.prog 10 #[p] w fun e w' => ∃ ks ao c, IsCKeys A.l ks ∧ e = .returned (.slice ao ks.length c) ∧ SepW W w' (obRow (.slice ao ks.length c) 28 1 ks.length (u64s ks) :: os) := by
  obtain ⟨b0, bm, rfl, hr⟩ := (h.get i hi : CliO p D w N A)
  exact (copen_any hr hN hK hKs).mono fun e w' ⟨ks, ao, c, h1, h2, h3, h4⟩ => ⟨ks, ao, c, h1, h2, h.newRow h3 h4⟩
theorem SepW.cliNo (h : SepW W w os) (i : Nat) (hi : os[i]? = some (obCli p D N A)) {m : Ms} {vv bv : Value} (hu : U1 m.seq) (hk : -9223372036854775808 ≤ m.kind ∧ m.kind ≤ 9223372036854775807) (hno : m.client = A.id → ∀ x k, A.l m.seq = some (x, k) → fitsB x m = false) :
    Calls Try.prog 9 #[p, .agg (msC m vv bv)] w fun e w' => e = .returned (.tuple #[.agg rep0, .bool false]) ∧ SepW W w' os := by
  obtain ⟨b0, bm, rfl, hr⟩ := (h.get i hi : CliO p D w N A)
  by_cases hc : m.client = A.id
  · exact (chandle_none hr hc hu hk (hno hc)).mono fun e w' ⟨h1, h2⟩ => ⟨h1, h.step h2⟩
  · exact (chandle_other hr hc).mono fun e w' ⟨h1, h2⟩ => ⟨h1, h.step h2⟩
theorem SepW.cliYes (h : SepW W w os) (i : Nat) (hi : os[i]? = some (obCli p D N A)) {m : Ms} {vv bv : Value} (hc : m.client = A.id) (hu : U1 m.seq) (hk : -9223372036854775808 ≤ m.kind ∧ m.kind ≤ 9223372036854775807) (hbv : SlR w bv (u8s m.body)) (h8 : U8 m.body) (hbl : m.body.length ≤ 1000000000) {x : Cl} {k : Int} (hl : A.l m.seq = some (x, k)) (hfit : fitsB x m = true) :
    Calls Try.prog 9 #[p, .agg (msC m vv bv)] w fun e w' => ∃ so sl sc code q f o bo bl bc at_, e = .returned (.tuple #[.agg (repC m.seq x (.slice so sl sc) code q f o (.slice bo bl bc) at_), .bool true]) ∧ (x.op ≠ 2 ∨ m.code ≠ 0 → code = m.code) ∧ SepW W w' (os.set i (obCli p D N (setL A m.seq none))) := by
  obtain ⟨b0, bm, rfl, hr⟩ := (h.get i hi : CliO p D w N A)
  exact (chandle_ok hr hc hu hk hbv h8 hbl hl hfit).mono fun e w' ⟨so, sl, sc, code, q, f, o, bo, bl, bc, at_, h1, h2, h3, h4⟩ => ⟨so, sl, sc, code, q, f, o, bo, bl, bc, at_, h1, h2, h.set i hi h4.keep (obCli_good ..) ⟨b0, bm, rfl, h3⟩ h4.new⟩
end
theorem lit_i64 (w : World) (xs : List Int) (e : TypeId) (hl : xs.length ≤ 1000) : SlR (w.alloc (.cells (i64s xs).toArray e)) (.slice (some ⟨w.heap.size, 0, none⟩) xs.length xs.length) (i64s xs) := by
  have := SlR.of_own (own_lit w (i64s xs) e (by simpa using hl))
  simpa using this
end Go.Proofs.Ytdmfladjhjpafaa
