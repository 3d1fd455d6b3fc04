/-
  Plain: nodes that are fewer than a majority, and hear one another alone.
-/
import Derived.Test.YtgmdedkingampaaGreatPxZa
set_option linter.unusedVariables false
set_option linter.unusedSimpArgs false
namespace Go.Proofs.YtgmdedkingampaaGreat
open Go.ChangeShapes Go.WideShapes Go.ChangeAt Go.RowKit Go.Maps
set_option maxRecDepth 1000000

theorem need_one {k : Nat} (h : k ≤ 45) : need k ≤ 1 := by unfold need; omega
theorem note1_len (b : Int) : (noteB 1 [b] none).length ≤ 10 := by
  have h1 := sz_le b
  have h2 := putU_len b
  unfold noteB
  simp
  omega
theorem cnt_few {n few : Nat} {f : Nat → Bool} (h : ∀ i, f i = true → i < few) : cnt n f ≤ few := by
  have key : ∀ n, cnt n f ≤ min n few := by
    intro n
    induction n with
    | zero => simp [cnt]
    | succ n ih =>
      unfold cnt
      split
      · rename_i h1
        have := h n h1
        omega
      · omega
  have := key n
  omega
theorem getV_nil : getV (putV []) = (0, []) := by rfl
/-- A message that goes round among a few. -/
structure MjMs (n few : Nat) (p : Int × Om) : Prop where
  src : 0 ≤ p.1 ∧ p.1 < few
  dst : 0 ≤ p.2.dst ∧ p.2.dst < n
  ub : U1 p.2.ballot
  us : U1 p.2.slot
  kind : ((p.2.kind = 7 ∨ p.2.kind = 11) ∧ p.2.body = []) ∨ (p.2.kind = 8 ∧ p.2.body = putV [])
/-- A node that hears a few alone. -/
structure MjNd (n few : Nat) (k : Int) (m : Nat) (x : Nd) : Prop where
  fine : Fine x m
  id : x.id = k
  ps : x.ps = psN n
  t : 1 ≤ x.t ∧ x.t ≤ 1000
  lf : 1 ≤ x.lf ∧ x.lf ≤ 1000
  top : U1 x.top
  prom : U1 x.A.promised
  low : x.A.low = 0
  Al : ∀ a, x.A.l a = none
  next : x.next = 0
  NA : x.NA = 0
  nl : x.nl = 0
  NL : x.NL = 0
  st : x.L.stage = 0 ∨ x.L.stage = 1
  lb : U1 x.L.ballot
  many : x.L.many = n
  op : ∀ a, x.L.op a = none
  lk : ∀ a, x.L.kn a = none
  pr : ∀ i, x.L.prom i = true → i < few
variable {n few m : Nat} {k : Int} {x y : Nd} {ms : List Om}
theorem MjNd.mono {m' : Nat} (h : MjNd n few k m x) (hm : m' ≤ m) : MjNd n few k m' x := { h with fine := h.fine.mono hm }
theorem MjNd.notLead (h : MjNd n few k m x) : x.L.stage ≠ 2 := by have := h.st; omega
/-- Behind a call that turns but what a ballot that is heard turns. -/
theorem MjNd.heard (h : MjNd n few k m x) {b : Int} (ub : U1 b) : MjNd n few k m (heardN x b) :=
  { h with
    fine := h.fine.of rfl rfl rfl
    lf := by show 1 ≤ (if b < x.top then x.lf else x.t) ∧ (if b < x.top then x.lf else x.t) ≤ 1000; split; exact h.lf; exact h.t
    top := by show U1 (if b < x.top then x.top else b); split; exact h.top; exact ub }
theorem MjNd.setA (h : MjNd n few k m x) {b : Int} (ub : U1 b) : MjNd n few k m { x with A := ⟨b, x.A.low, x.A.l⟩ } :=
  { h with fine := h.fine.of rfl rfl rfl, prom := ub, low := h.low, Al := h.Al }
theorem MjNd.elN (h : MjNd n few k m x) : MjNd n few k m (elN x) :=
  { h with
    fine := h.fine.of rfl rfl rfl
    lf := by
      show 1 ≤ (if x.lf - 1 = 0 then x.t else x.lf - 1) ∧ (if x.lf - 1 = 0 then x.t else x.lf - 1) ≤ 1000
      have := h.lf
      split
      · exact h.t
      · omega }
theorem MjNd.stop (h : MjNd n few k m x) : MjNd n few k m { x with L := stopL x.L } :=
  { h with fine := h.fine.of rfl rfl rfl, st := Or.inl rfl, lb := h.lb, many := h.many, op := fun _ => rfl, lk := h.lk, pr := h.pr }
theorem MjNd.begin (h : MjNd n few k m x) {b fr : Int} (ub : U1 b) : MjNd n few k m { x with L := beginL x.L b fr, NL := 0 } :=
  { h with fine := h.fine.of rfl rfl rfl, NL := rfl, st := Or.inr rfl, lb := ub, many := h.many, op := fun _ => rfl, lk := fun _ => rfl, pr := fun i hi => by cases hi }
/-- Behind a note that goes. -/
theorem MjNd.note (h : MjNd n few k m x) {b : Int} (hm : 1 ≤ m) : MjNd n few k (m - 1) (noteN x (noteB 1 [b] none)) := by
  obtain ⟨k1, k2, k3, k4, k5, k6, k7, k8, k9, k10, k11, k12⟩ := noteN_same x (noteB 1 [b] none)
  have hn := need_one (Nat.le_trans (note1_len b) (by omega))
  have hf := (noteN_fine h.fine (bs := noteB 1 [b] none) (by omega)).mono (k := m - 1) (by omega)
  generalize noteN x (noteB 1 [b] none) = z at *
  exact ⟨hf, by rw [k1, h.id], by rw [k2, h.ps], by rw [k10]; exact h.t, by rw [k11]; exact h.lf, by rw [k12]; exact h.top, by rw [k4]; exact h.prom, by rw [k4]; exact h.low, by rw [k4]; exact h.Al, by rw [k7]; exact h.next,
    by rw [k3]; exact h.NA, by rw [k5]; exact h.nl, by rw [k8]; exact h.NL, by rw [k9]; exact h.st, by rw [k9]; exact h.lb, by rw [k9]; exact h.many, by rw [k9]; exact h.op, by rw [k9]; exact h.lk, by rw [k9]; exact h.pr⟩
theorem MjNd.ok (h : MjNd n few k m x) (hn : 1 ≤ n ∧ n ≤ 7) (hk : 0 ≤ k ∧ k < n) (hm : 5 ≤ m) : NdOk x 100 ∧ TkOk x :=
  ⟨⟨by rw [h.ps, psN_len]; exact hn.2, by rw [h.NA]; omega, by rw [h.NL]; omega, by rw [h.nl]; omega, fun a v hv => (by rw [h.Al] at hv; cases hv), fun s v g hv => (by rw [h.op] at hv; cases hv), h.fine.toRoom (by unfold need; omega), by omega⟩,
   ⟨fun e => by have := psN_len n; rw [← h.ps, e] at this; simp at this; omega, by have := h.lf; omega, by rw [h.id]; omega, h.top⟩⟩
def MjOut (n few : Nat) (o : Om) : Prop := (0 ≤ o.dst ∧ o.dst < n) ∧ U1 o.ballot ∧ U1 o.slot ∧ (((o.kind = 7 ∨ o.kind = 11) ∧ o.body = []) ∨ (o.kind = 8 ∧ o.body = putV []))
theorem mj_all {ts : List Int} {kd b s : Int} {bs : List Int} (ht : ∀ t ∈ ts, 0 ≤ t ∧ t < n) (ub : U1 b) (us : U1 s) (hk : ((kd = 7 ∨ kd = 11) ∧ bs = []) ∨ (kd = 8 ∧ bs = putV [])) : ∀ o ∈ allO ts kd b s bs, MjOut n few o := by
  intro o ho
  obtain ⟨t, h1, rfl⟩ := List.mem_map.1 ho
  exact ⟨ht t h1, ub, us, hk⟩
theorem psN_in {t : Int} (h : t ∈ psN n) : 0 ≤ t ∧ t < n := by
  obtain ⟨j, h1, rfl⟩ := List.mem_map.1 h
  have := List.mem_range.1 h1
  omega
theorem u1_zero : U1 0 := by unfold U1; omega
theorem MjNd.tick (h : MjNd n few k m x) (hk : 0 ≤ k ∧ k < 32) (hm : 1 ≤ m) (ht : TickR x y ms) : MjNd n few k (m - 1) y ∧ ∀ o ∈ ms, MjOut n few o := by
  rcases ht with ⟨h1, _⟩ | ⟨_, h1, _⟩ | ⟨_, _, _, rfl, rfl⟩ | ⟨_, _, _, h5, h6⟩
  · exact absurd h.fine.e h1
  · exact absurd h1 h.notLead
  · exact ⟨h.elN.mono (by omega), by intro o ho; cases ho⟩
  · obtain ⟨hgt, ub⟩ := next_gt (max3_u h.top h.prom h.lb) (by rw [h.id]; exact hk.1) (by rw [h.id]; exact hk.2) h5
    have ub' : U1 (nextV (nextBal x) x.id) := ub
    have hst : MjNd n few k m (standN x) := h.elN.setA ub'
    have hn := hst.note (b := nextV (nextBal x) x.id) hm
    rcases h6 with ⟨h6, _⟩ | ⟨_, rfl, rfl⟩
    · exact absurd hn.fine.e h6
    · refine ⟨(hn.begin ub').heard ub', ?_⟩
      rw [h.ps, h.next]
      exact mj_all (fun t ht => psN_in ht) ub' u1_zero (Or.inl ⟨Or.inl rfl, rfl⟩)
theorem MjNd.prep (h : MjNd n few k m x) {ks : List Int} {t b s : Int} (ht : 0 ≤ t ∧ t < n) (ub : U1 b) (us : U1 s) (hm : 1 ≤ m) : MjNd n few k (m - 1) (prepF x ks t b s).1 ∧ ∀ o ∈ (prepF x ks t b s).2, MjOut n few o := by
  have hv : putV (votL x.A.l ks s) = putV [] := by rw [votL_none h.Al]
  have hp : MjNd n few k m (promisedN x b) := (h.heard ub).setA ub
  have hout : ∀ z, MjNd n few k (m - 1) z → ∀ o ∈ prepOut z t b (putV []), MjOut n few o := fun z hz => by
    unfold prepOut
    split
    · intro o ho; cases ho
    · rw [hz.low]
      exact mj_all (fun t' ht' => by rw [List.mem_singleton.1 ht']; exact ht) ub u1_zero (Or.inr ⟨rfl, rfl⟩)
  unfold prepF
  rw [hv]
  split
  · exact ⟨(h.heard ub).mono (by omega), mj_all (fun t' ht' => by rw [List.mem_singleton.1 ht']; exact ht) h.prom u1_zero (Or.inl ⟨Or.inr rfl, rfl⟩)⟩
  · split
    · have hn := hp.note (b := b) hm
      rw [if_pos hn.fine.e]
      exact ⟨hn, hout _ hn⟩
    · exact ⟨hp.mono (by omega), hout _ (hp.mono (by omega))⟩
theorem MjNd.promise (h : MjNd n few k m x) (hf : few * 2 ≤ n) (hn1 : 1 ≤ n ∧ n ≤ 7) {t b s : Int} (ht : 0 ≤ t ∧ t < few) (hh : PromR x t b s (putV []) y ms) : MjNd n few k m y ∧ ms = [] := by
  have hix : idxI x.ps t = t := by
    rw [h.ps]
    obtain ⟨j, rfl⟩ : ∃ j : Nat, t = j := ⟨t.toNat, by omega⟩
    refine idxI_at ?_ (fun i hi => ?_)
    · unfold psN
      rw [List.getElem?_map, List.getElem?_range (by omega)]
      rfl
    · intro e
      have := (psN_at e).1
      omega
  have hL1 : promL1 x t s (putV []) = promL x.L t.toNat s := by
    unfold promL1
    rw [getV_nil, hix]
    rfl
  have hpr : ∀ i, (promL x.L t.toNat s).prom i = true → i < few := fun i hi => by
    have hi' : (if i = t.toNat then true else x.L.prom i) = true := hi
    split at hi'
    · omega
    · exact h.pr i hi'
  have hc := cnt_few (n := 32) hpr
  have hno : ¬ (promL1 x t s (putV [])).many / 2 < cnt 32 (promL1 x t s (putV [])).prom := by
    rw [hL1]
    show ¬ x.L.many / 2 < _
    rw [h.many]
    omega
  rcases hh with ⟨_, rfl, rfl⟩ | ⟨_, _, rfl, rfl⟩ | ⟨_, h1, _⟩ | ⟨_, h1, _⟩
  · exact ⟨h, rfl⟩
  · rw [hL1, getV_nil]
    exact ⟨{ h with fine := h.fine.of rfl rfl rfl, NL := h.NL, st := h.st, lb := h.lb, many := h.many, op := h.op, lk := h.lk, pr := hpr }, rfl⟩
  · exact absurd h1 hno
  · exact absurd h1 hno
theorem MjNd.refused (h : MjNd n few k m x) {b : Int} (ub : U1 b) : MjNd n few k m (refusedN x b) := by
  unfold refusedN
  split
  · exact h.stop.heard ub
  · exact h
theorem MjNd.handle (h : MjNd n few k m x) (hf : few * 2 ≤ n) (hn1 : 1 ≤ n ∧ n ≤ 7) (hm : 1 ≤ m) {p : Int × Om} (hp : MjMs n few p) (hh : HandleR x p.1 p.2.kind p.2.ballot p.2.slot p.2.body y ms) : MjNd n few k (m - 1) y ∧ ∀ o ∈ ms, MjOut n few o := by
  have hsn : 0 ≤ p.1 ∧ p.1 < n := by have := hp.src; omega
  rcases hh with ⟨_, rfl, rfl⟩ | ⟨_, _, _, ms', h1, rfl⟩
  · exact ⟨h.mono (by omega), by intro o ho; cases ho⟩
  · have key : MjNd n few k (m - 1) y ∧ ∀ o ∈ ms', MjOut n few o := by
      rcases hp.kind with ⟨hk7 | hk7, hb⟩ | ⟨hk7, hb⟩
      · rw [hk7] at h1
        rcases h1 with ⟨_, ks, _, rfl, rfl⟩ | ⟨h1, _⟩ | ⟨h1, _⟩ | ⟨h1, _⟩ | ⟨h1, _⟩ | ⟨h1, _⟩ | ⟨h1, _⟩ | ⟨h1, _⟩ <;> first | (exact h.prep hsn hp.ub hp.us hm) | (exact absurd h1 (by decide))
      · rw [hk7] at h1
        rcases h1 with ⟨h1, _⟩ | ⟨h1, _⟩ | ⟨h1, _⟩ | ⟨h1, _⟩ | ⟨_, rfl, rfl⟩ | ⟨h1, _⟩ | ⟨h1, _⟩ | ⟨h1, _⟩ <;> first | (exact ⟨(h.refused hp.ub).mono (by omega), by intro o ho; cases ho⟩) | (exact absurd h1 (by decide))
      · rw [hk7, hb] at h1
        rcases h1 with ⟨h1, _⟩ | ⟨_, h1⟩ | ⟨h1, _⟩ | ⟨h1, _⟩ | ⟨h1, _⟩ | ⟨h1, _⟩ | ⟨h1, _⟩ | ⟨h1, _⟩ <;> first | (exact absurd h1 (by decide)) | skip
        obtain ⟨h2, rfl⟩ := h.promise hf hn1 hp.src h1
        exact ⟨h2.mono (by omega), by intro o ho; cases ho⟩
    refine ⟨key.1, fun o ho => ?_⟩
    split at ho
    · exact key.2 o ho
    · cases ho
/-- All of them, and what is under way. -/
structure MjSt (n few m : Nat) (xs : List Nd) (ms : List (Int × Om)) : Prop where
  many : xs.length = n
  room : ms.length ≤ 400
  nd : ∀ (k : Nat) x, xs[k]? = some x → MjNd n few k m x
  mail : ∀ p ∈ ms, MjMs n few p
theorem MjSt.mono {m' : Nat} {xs : List Nd} {ms : List (Int × Om)} (h : MjSt n few m xs ms) (hm : m' ≤ m) : MjSt n few m' xs ms := ⟨h.many, h.room, fun k x hx => (h.nd k x hx).mono hm, h.mail⟩
theorem MjSt.ok {xs : List Nd} {ms : List (Int × Om)} (h : MjSt n few m xs ms) (hn1 : 1 ≤ n ∧ n ≤ 7) (hm : 5 ≤ m) : OkSt 100 n xs ms :=
  ⟨h.many, h.room, fun x hx _ => by
    obtain ⟨k, hk⟩ := List.getElem?_of_mem hx
    have : k < xs.length := (List.getElem?_eq_some_iff.1 hk).1
    exact (h.nd k x hk).ok hn1 (by have := h.many; omega) hm, fun p hp => by
    have h1 := h.mail p hp
    refine ⟨h1.ub, h1.us, ?_, ?_, ?_⟩
    · rcases h1.kind with ⟨_, e⟩ | ⟨_, e⟩
      · rw [e]; intro z hz; cases hz
      · rw [e]; exact putV_U8 (fun v hv => by cases hv)
    · rcases h1.kind with ⟨_, e⟩ | ⟨_, e⟩
      · rw [e]; decide
      · rw [e]; decide
    · rcases h1.kind with ⟨e | e, _⟩ | ⟨e, _⟩ <;> rw [e] <;> decide⟩
theorem MjSt.node {xs : List Nd} {qs : List (Int × Om)} (h : MjSt n few m xs qs) {j : Nat} (hj : j < few) (hy : MjNd n few j (m - 1) y) (ho : ∀ o ∈ ms, MjOut n few o) : MjSt n few (m - 1) (xs.set j y) (sendO j ms qs) := by
  refine ⟨by rw [List.length_set]; exact h.many, ?_, fun k x hx => ?_, fun p hp => ?_⟩
  · unfold sendO
    rw [List.length_append, List.length_map, List.length_take]
    have := h.room
    omega
  · rw [List.getElem?_set] at hx
    split at hx
    · split at hx
      · cases hx; rename_i e _; subst e; exact hy
      · cases hx
    · exact (h.nd k x hx).mono (by omega)
  · rcases List.mem_append.1 hp with hp | hp
    · exact h.mail p hp
    · obtain ⟨o, h1, rfl⟩ := List.mem_map.1 hp
      obtain ⟨h2, h3, h4, h5⟩ := ho o (List.mem_of_mem_take h1)
      exact ⟨by show (0 : Int) ≤ j ∧ (j : Int) < few; omega, h2, h3, h4, h5⟩
theorem MjSt.tick {xs : List Nd} {qs : List (Int × Om)} (h : MjSt n few m xs qs) (hf : few * 2 ≤ n) (hn1 : 1 ≤ n ∧ n ≤ 7) (hm : 1 ≤ m) {j : Nat} (hj : j < few) (hx : xs[j]? = some x) (ht : TickR x y ms) : MjSt n few (m - 1) (xs.set j y) (sendO j ms qs) := by
  obtain ⟨h1, h2⟩ := (h.nd j x hx).tick (by omega) hm ht
  exact h.node hj h1 h2
theorem MjSt.drop {xs : List Nd} {qs : List (Int × Om)} (h : MjSt n few m xs qs) (k : Nat) : MjSt n few m xs (qs.eraseIdx k) :=
  ⟨h.many, Nat.le_trans (List.length_eraseIdx_le ..) h.room, h.nd, fun p hp => h.mail p (List.mem_of_mem_eraseIdx hp)⟩
theorem MjSt.drop1 {xs : List Nd} {qs : List (Int × Om)} (h : MjSt n few m xs qs) : MjSt n few m xs (qs.drop 1) :=
  ⟨h.many, by rw [List.length_drop]; have := h.room; omega, h.nd, fun p hp => h.mail p (List.mem_of_mem_drop hp)⟩
/-- The first message comes, to one of the few. -/
theorem MjSt.deliver {xs xs' : List Nd} {qs qs' : List (Int × Om)} (h : MjSt n few m xs qs) (hf : few * 2 ≤ n) (hn1 : 1 ≤ n ∧ n ≤ 7) (hm : 1 ≤ m) (hd : ∀ p, qs[0]? = some p → p.2.dst < (few : Int)) (hh : DelR xs qs 0 false xs' qs') : MjSt n few (m - 1) xs' qs' := by
  rcases hh with ⟨_, rfl, rfl⟩ | ⟨p, hp, h1⟩
  · exact h.mono (by omega)
  · rw [Nat.zero_mod] at hp h1
    have hpm := h.mail p (List.mem_of_getElem? hp)
    rcases h1 with ⟨h1, rfl, rfl⟩ | ⟨j, x, y, outs, h2, h3, h4, rfl, rfl⟩
    · exact (h.drop 0).mono (by omega)
    · have hjf := hd p hp
      obtain ⟨k1, k2⟩ := (h.nd j x h3).handle hf hn1 hm hpm h4
      rw [h2]
      exact (h.drop 0).node (by omega) k1 k2
theorem newXs_all (n i : Nat) : ∀ k x, (newXs n i)[k]? = some x → k < i ∧ x = newNd k (psN n) 400 400 2 := by
  intro k x hx
  have hk : k < i := by
    have := (List.getElem?_eq_some_iff.1 hx).1
    unfold newXs at this
    simpa using this
  unfold newXs at hx
  rw [List.getElem?_map, List.getElem?_range hk] at hx
  exact ⟨hk, (Option.some.inj hx).symm⟩
theorem newNd_mj {j : Nat} (hj : j < n) (hn1 : 1 ≤ n ∧ n ≤ 7) : MjNd n few j 400 (newNd j (psN n) 400 400 2) := by
  have hix : idxI (psN n) (j : Int) = j := by
    refine idxI_at ?_ (fun i hi e => ?_)
    · unfold psN
      rw [List.getElem?_map, List.getElem?_range hj]
      rfl
    · have := (psN_at e).1
      omega
  have ht : (newNd j (psN n) 400 400 2).t = 2 * ((j : Int) + 1) := by show 2 * (idxI (psN n) (j : Int) + 1) = _; rw [hix]
  have hlf : (newNd j (psN n) 400 400 2).lf = 2 * ((j : Int) + 1) := by show 2 * (idxI (psN n) (j : Int) + 1) = _; rw [hix]
  exact ⟨⟨rfl, rfl, rfl, rfl, rfl, by show 0 + 400 ≤ (List.replicate 400 _).length; rw [List.length_replicate]; omega, by show 0 + 400 ≤ 400; omega, by show 0 + 400 ≤ 60000; omega⟩, rfl, rfl, by rw [ht]; omega, by rw [hlf]; omega, u1_zero, u1_zero, rfl, fun _ => rfl, rfl, rfl, rfl, rfl, Or.inl rfl, u1_zero, by show ((psN n).length : Int) = n; rw [psN_len], fun _ => rfl, fun _ => rfl, fun i hi => by cases hi⟩
theorem mj_new (hn1 : 1 ≤ n ∧ n ≤ 7) : MjSt n few 400 (newXs n n) [] :=
  ⟨by unfold newXs; simp, by simp, fun k x hx => by
    obtain ⟨h1, rfl⟩ := newXs_all n n k x hx
    exact newNd_mj h1 hn1, by intro p hp; cases hp⟩
/-- It proposes, and is told that it can't. -/
theorem MjNd.propose (h : MjNd n few k m x) {xs : List Int} {er : Int} (hp : PropR x xs y ms er) : y = x ∧ ms = [] ∧ er = 33 := by
  rcases hp with ⟨h1, _⟩ | ⟨_, v, h1, rfl⟩
  · exact absurd h.fine.e h1
  · rcases h1 with ⟨_, rfl, _, rfl⟩ | ⟨h1, _⟩ | ⟨h1, _⟩
    · exact ⟨rfl, rfl, rfl⟩
    · exact absurd h1 h.notLead
    · exact absurd h1 h.notLead
end Go.Proofs.YtgmdedkingampaaGreat
