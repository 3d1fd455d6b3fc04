/-
  The document's leader beside the program's, plain.
-/
import Derived.Test.YtjdjfhioobhcjaaRlO
import Derived.Test.YtjdjfhioobhcjaaLeaX
namespace Go.Proofs.Ytjdjfhioobhcjaa
open Go.ChangeShapes Go.WideShapes Go.ChangeAt Go.RowKit Go.Maps
set_option maxRecDepth 100000

/-- Who is noted, as bits and as a list. -/
structure PR (f : Nat → Bool) (l : List Int) : Prop where
  nd : l.Nodup
  mem : ∀ x ∈ l, ∃ n : Nat, x = n ∧ n < 32 ∧ f n = true
  all : ∀ n : Nat, n < 32 → f n = true → (n : Int) ∈ l
theorem PR.nil : PR (fun _ => false) [] := ⟨List.nodup_nil, by simp, by simp⟩
theorem PR.has {f : Nat → Bool} {l : List Int} (h : PR f l) {n : Nat} (hn : n < 32) : (n : Int) ∈ l ↔ f n = true :=
  ⟨fun hm => by obtain ⟨m, e, _, hf⟩ := h.mem _ hm; have : m = n := by omega
                rw [← this]; exact hf, h.all n hn⟩
theorem PR.cnt {f : Nat → Bool} {l : List Int} (h : PR f l) : cnt 32 f = l.length := by
  induction l generalizing f with
  | nil =>
    have : ∀ k, k < 32 → f k = (fun _ => false) k := fun k hk => by
      cases e : f k
      · rfl
      · have := h.all k hk e; cases this
    rw [cnt_congr this]
    decide
  | cons x r ih =>
    obtain ⟨n, e, hn, hf⟩ := h.mem x (by simp)
    have hnd := List.nodup_cons.1 h.nd
    have hg : PR (fun i => if i = n then false else f i) r := by
      refine ⟨hnd.2, fun y hy => ?_, fun m hm hfm => ?_⟩
      · obtain ⟨m, e', hm, hfm⟩ := h.mem y (by simp [hy])
        refine ⟨m, e', hm, ?_⟩
        show (if m = n then false else f m) = true
        rw [if_neg]
        · exact hfm
        · intro hc; subst hc; exact hnd.1 (by rw [e, ← e']; exact hy)
      · have hfm : (if m = n then false else f m) = true := hfm
        by_cases hc : m = n
        · rw [if_pos hc] at hfm; cases hfm
        · rw [if_neg hc] at hfm
          rcases List.mem_cons.1 (h.all m hm hfm) with hh | hh
          · omega
          · exact hh
    have h1 := cnt_add (n := 32) (k := n) (fun i => if i = n then false else f i) hn (by simp)
    have h2 : ∀ k, k < 32 → f k = addK (fun i => if i = n then false else f i) n k := fun k _ => by
      unfold addK
      by_cases hc : k = n
      · rw [if_pos hc, hc]; exact hf
      · rw [if_neg hc]; show f k = if k = n then false else f k; rw [if_neg hc]
    rw [cnt_congr h2, h1, ih hg]
    rfl
theorem PR.add {f : Nat → Bool} {l : List Int} (h : PR f l) {n : Nat} (hn : n < 32) (hf : f n = false) : PR (addK f n) (l ++ [(n : Int)]) := by
  refine ⟨?_, fun x hx => ?_, fun m hm hfm => ?_⟩
  · rw [List.nodup_append]
    refine ⟨h.nd, by simp, fun a ha b hb e => ?_⟩
    simp at hb
    subst hb
    subst e
    rw [(h.has hn).1 ha] at hf
    cases hf
  · rcases List.mem_append.1 hx with hx | hx
    · obtain ⟨m, e, hm, hfm⟩ := h.mem x hx
      exact ⟨m, e, hm, by unfold addK; split; rfl; exact hfm⟩
    · simp at hx
      exact ⟨n, hx, hn, by unfold addK; rw [if_pos rfl]⟩
  · unfold addK at hfm
    by_cases hc : m = n
    · subst hc; simp
    · rw [if_neg hc] at hfm
      exact List.mem_append_left _ (h.all m hm hfm)
/-- A slot's known vote. -/
theorem look_none {L : List Vt} {a : Int} (h : look L a = none) : ∀ v ∈ L, v.slot ≠ a := by
  unfold look at h
  rw [List.find?_eq_none] at h
  intro v hv
  simpa using h v hv
/-- Where a slot's vote stands: its place, or -1. -/
def FindI (L : List Vt) (a i : Int) : Prop := (i = -1 ∧ look L a = none) ∨ ∃ (k : Nat) (v : Vt), i = k ∧ L[k]? = some v ∧ look L a = some v ∧ ∀ j x, j < k → L[j]? = some x → x.slot ≠ a
theorem look_at {L : List Vt} {a : Int} {k : Nat} {v : Vt} (h : L[k]? = some v) (hs : v.slot = a) (hno : ∀ j x, j < k → L[j]? = some x → x.slot ≠ a) : look L a = some v := by
  unfold look
  induction L generalizing k with
  | nil => simp at h
  | cons x r ih =>
    cases k with
    | zero => simp at h; subst h; rw [List.find?_cons_of_pos (by simpa using hs)]
    | succ k =>
      have h0 := hno 0 x (by omega) rfl
      rw [List.find?_cons_of_neg (by simpa using h0)]
      exact ih (k := k) (by simpa using h) (fun j y hj hy => hno (j + 1) y (by omega) (by simpa using hy))
/-- The document notes a vote. -/
def rAdd (L : List Vt) (v : Vt) : List Vt := match L.findIdx? (fun x => decide (x.slot = v.slot)) with
  | none => L ++ [v]
  | some i => if ((L[i]?).map (·.ballot)).getD 0 < v.ballot then L.set i v else L
theorem rAdd_none {L : List Vt} {v : Vt} (h : look L v.slot = none) : rAdd L v = L ++ [v] := by
  unfold rAdd
  have : L.findIdx? (fun x => decide (x.slot = v.slot)) = none := by
    rw [List.findIdx?_eq_none_iff]
    intro x hx
    simpa using look_none h x hx
  rw [this]
theorem rAdd_some {L : List Vt} {v o : Vt} {k : Nat} (hk : L[k]? = some o) (ho : o.slot = v.slot) (hno : ∀ j x, j < k → L[j]? = some x → x.slot ≠ v.slot) : rAdd L v = if o.ballot < v.ballot then L.set k v else L := by
  unfold rAdd
  obtain ⟨hlt, e⟩ := List.getElem?_eq_some_iff.1 hk
  have : L.findIdx? (fun x => decide (x.slot = v.slot)) = some k := by
    rw [List.findIdx?_eq_some_iff_getElem]
    refine ⟨hlt, by rw [e]; simpa using ho, fun j hj => ?_⟩
    have := hno j _ hj (List.getElem?_eq_getElem (by omega))
    simpa using this
  rw [this]
  simp only
  rw [hk]
  rfl
theorem look_app {L : List Vt} {v : Vt} (h : look L v.slot = none) (a : Int) : look (L ++ [v]) a = if a = v.slot then some v else look L a := by
  unfold look at *
  rw [List.find?_append]
  by_cases e : a = v.slot
  · subst e; rw [h, if_pos rfl]; simp
  · rw [if_neg e]
    have : [v].find? (fun x => decide (x.slot = a)) = none := by simp; omega
    rw [this]; simp
theorem look_set {L : List Vt} {v o : Vt} {k : Nat} (hk : L[k]? = some o) (ho : o.slot = v.slot) (hno : ∀ j x, j < k → L[j]? = some x → x.slot ≠ v.slot) (a : Int) : look (L.set k v) a = if a = v.slot then some v else look L a := by
  induction L generalizing k with
  | nil => simp at hk
  | cons x r ih =>
    cases k with
    | zero =>
      simp at hk
      subst hk
      simp only [List.set_cons_zero]
      rw [look_cons, look_cons]
      by_cases e : a = v.slot
      · rw [if_pos e.symm, if_pos e]
      · rw [if_neg (fun h => e h.symm), if_neg e, if_neg (by rw [ho]; exact fun h => e h.symm)]
    | succ k =>
      have h0 := hno 0 x (by omega) rfl
      simp only [List.set_cons_succ]
      rw [look_cons, look_cons, ih (k := k) (by simpa using hk) (fun j y hj hy => hno (j + 1) y (by omega) (by simpa using hy))]
      by_cases e : a = v.slot
      · have hx : ¬ x.slot = a := by rw [e]; exact h0
        simp only [if_pos e, if_neg hx]
      · simp only [if_neg e]
/-- A vote is noted by both alike. -/
theorem add_both {A : LS} {L : List Vt} (h : ∀ a, look L a = A.kn a) (v : Vt) : ∀ a, look (rAdd L v) a = (addV A v).kn a := by
  intro a
  unfold addV
  cases hl : look L v.slot with
  | none =>
    rw [rAdd_none hl, newer_none (by rw [← h]; exact hl), if_pos rfl, look_app hl]
    show _ = if a = v.slot then some v else A.kn a
    rw [h]
  | some o =>
    have hos := look_slot hl
    obtain ⟨k, hlt, he, hno⟩ : ∃ k, ∃ hlt : k < L.length, L[k] = o ∧ ∀ j x, j < k → L[j]? = some x → x.slot ≠ v.slot := by
      unfold look at hl
      obtain ⟨h1, k, hlt, he, hno⟩ := List.find?_eq_some_iff_getElem.1 hl
      refine ⟨k, hlt, he, fun j x hj hx => ?_⟩
      have := hno j hj
      obtain ⟨_, e⟩ := List.getElem?_eq_some_iff.1 hx
      rw [e] at this
      simpa using this
    have hk : L[k]? = some o := by rw [List.getElem?_eq_getElem hlt, he]
    rw [rAdd_some hk hos.1 hno, newer_some (by rw [← h]; exact hl)]
    by_cases hb : o.ballot < v.ballot
    · rw [if_pos hb, if_pos (by simpa using hb), look_set hk hos.1 hno]
      show _ = if a = v.slot then some v else A.kn a
      rw [h]
    · rw [if_neg hb, if_neg (by simpa using hb)]
      exact h a
theorem rAdd_len (L : List Vt) (v : Vt) : (rAdd L v).length ≤ L.length + 1 := by
  unfold rAdd
  split
  · simp
  · split <;> simp
theorem rAdd_mem {L : List Vt} {v x : Vt} (h : x ∈ rAdd L v) : x = v ∨ x ∈ L := by
  unfold rAdd at h
  split at h
  · simp at h; rcases h with h | h
    · exact Or.inr h
    · exact Or.inl h
  · split at h
    · rcases List.mem_or_eq_of_mem_set h with h | h
      · exact Or.inr h
      · exact Or.inl h
    · exact Or.inr h
theorem foldAdd_len (vs L : List Vt) : (vs.foldl rAdd L).length ≤ L.length + vs.length := by
  induction vs generalizing L with
  | nil => simp
  | cons v r ih => have := ih (rAdd L v); have := rAdd_len L v; simp only [List.foldl_cons, List.length_cons]; omega
theorem foldAdd_mem {vs L : List Vt} {x : Vt} (h : x ∈ vs.foldl rAdd L) : x ∈ vs ∨ x ∈ L := by
  induction vs generalizing L with
  | nil => exact Or.inr h
  | cons v r ih =>
    rcases ih h with h | h
    · exact Or.inl (by simp [h])
    · rcases rAdd_mem h with h | h
      · exact Or.inl (by simp [h])
      · exact Or.inr h
theorem fold_both {A : LS} {L : List Vt} (h : ∀ a, look L a = A.kn a) (vs : List Vt) : ∀ a, look (vs.foldl rAdd L) a = (vs.foldl addV A).kn a := by
  induction vs generalizing A L with
  | nil => exact h
  | cons v r ih => exact ih (add_both h v)
/-- A slot's proposal. -/
def lookO (os : List RO) (a : Int) : Option RO := os.find? (fun o => decide (o.v.slot = a))
theorem lookO_cons (x : RO) (r : List RO) (a : Int) : lookO (x :: r) a = if x.v.slot = a then some x else lookO r a := by
  unfold lookO
  by_cases h : x.v.slot = a
  · rw [if_pos h, List.find?_cons_of_pos (by simpa using h)]
  · rw [if_neg h, List.find?_cons_of_neg (by simpa using h)]
/-- The proposals of both are alike. -/
def OpSame (l : Int → Option (Vt × (Nat → Bool))) (os : List RO) : Prop := ∀ a, match lookO os a with
  | none => l a = none
  | some o => ∃ g, l a = some (o.v, g) ∧ PR g o.who
structure Rel (A : LS) (R : RL) : Prop where
  many : A.many = R.many
  stage : A.stage = R.stage
  ballot : A.ballot = R.ballot
  first : A.first = R.first
  next : A.next = R.next
  prom : PR A.prom R.prom
  kn : ∀ a, look R.kn a = A.kn a
  op : OpSame A.op R.op
  rise : R.op.Pairwise (fun x y => x.v.slot < y.v.slot)
  fresh : R.stage = 1 → R.op = []
  low : R.stage = 2 → ∀ o ∈ R.op, o.v.slot < R.next
def newR (many : Int) : RL := ⟨many, 0, 0, 0, 0, [], [], []⟩
def rBegin (R : RL) (b f : Int) : RL := ⟨R.many, 1, b, f, 0, [], [], []⟩
def rStop (R : RL) : RL := { R with stage := 0, op := [] }
theorem OpSame.nil : OpSame (fun _ => none) [] := fun _ => rfl
theorem rel_new (many : Int) : Rel (newLS many) (newR many) := ⟨rfl, rfl, rfl, rfl, rfl, PR.nil, fun _ => rfl, OpSame.nil, List.Pairwise.nil, fun _ => rfl, fun h => absurd h (show ¬ (0 : Int) = 2 by decide)⟩
theorem Rel.begin {A : LS} {R : RL} (h : Rel A R) (b f : Int) : Rel (beginL A b f) (rBegin R b f) := ⟨h.many, rfl, rfl, rfl, rfl, PR.nil, fun _ => rfl, OpSame.nil, List.Pairwise.nil, fun _ => rfl, fun h => absurd h (show ¬ (1 : Int) = 2 by decide)⟩
theorem Rel.stop {A : LS} {R : RL} (h : Rel A R) : Rel (stopL A) (rStop R) := ⟨h.many, rfl, h.ballot, h.first, h.next, h.prom, h.kn, OpSame.nil, List.Pairwise.nil, fun _ => rfl, fun h => absurd h (show ¬ (0 : Int) = 2 by decide)⟩
theorem fm_congr {α β : Type} {f g : α → Option β} {l : List α} (h : ∀ a ∈ l, f a = g a) : l.filterMap f = l.filterMap g := by
  induction l with
  | nil => rfl
  | cons a r ih => rw [List.filterMap_cons, List.filterMap_cons, h a (by simp), ih (fun b hb => h b (by simp [hb]))]
/-- What is open is the same row. -/
theorem OpSame.open {l : Int → Option (Vt × (Nat → Bool))} {os : List RO} (h : OpSame l os) (hr : os.Pairwise (fun x y => x.v.slot < y.v.slot)) {ks : List Int} (hk : IsOKeys l ks) : opL l ks = os.map (·.v) := by
  have hmem : ∀ o ∈ os, lookO os o.v.slot = some o := by
    clear h hk
    induction os with
    | nil => simp
    | cons x r ih =>
      have hr' := List.pairwise_cons.1 hr
      intro o ho
      rw [lookO_cons]
      rcases List.mem_cons.1 ho with rfl | ho
      · rw [if_pos rfl]
      · rw [if_neg (by have := hr'.1 o ho; omega)]
        exact ih hr'.2 o ho
  have hkeys : ks = os.map (·.v.slot) := by
    refine rise_unique hk.1 ?_ (fun x => ?_)
    · rw [List.pairwise_map]; exact hr
    · rw [hk.2, List.mem_map]
      have hx := h x
      constructor
      · intro hs
        cases hl : lookO os x with
        | none => rw [hl] at hx; rw [hx] at hs; cases hs
        | some o =>
          have := List.find?_some hl
          exact ⟨o, List.mem_of_find?_eq_some hl, by simpa using this⟩
      · rintro ⟨o, ho, e⟩
        have := hmem o ho
        rw [e] at this
        rw [this] at hx
        obtain ⟨g, hg, _⟩ := hx
        rw [hg]; rfl
  rw [hkeys]
  unfold opL
  rw [List.filterMap_map]
  have : ∀ o ∈ os, ((fun a => (l a).map Prod.fst) ∘ fun (o : RO) => o.v.slot) o = some o.v := by
    intro o ho
    have hx := h o.v.slot
    rw [hmem o ho] at hx
    obtain ⟨g, hg, _⟩ := hx
    show (l o.v.slot).map Prod.fst = some o.v
    rw [hg]; rfl
  rw [fm_congr (g := fun o => some o.v) this]
  exact congrFun List.filterMap_eq_map _
/-- A proposal more. -/
def rProp (R : RL) (xs : List Int) : RL := { R with op := R.op ++ [⟨⟨R.next, R.ballot, xs⟩, []⟩], next := R.next + 1 }
theorem lookO_app (os : List RO) (o : RO) (a : Int) : lookO (os ++ [o]) a = match lookO os a with | some x => some x | none => if o.v.slot = a then some o else none := by
  unfold lookO
  rw [List.find?_append]
  cases List.find? (fun o => decide (o.v.slot = a)) os with
  | some x => rfl
  | none =>
    simp only [Option.none_or]
    by_cases h : o.v.slot = a
    · rw [if_pos h, List.find?_cons_of_pos (by simpa using h)]
    · rw [if_neg h, List.find?_cons_of_neg (by simpa using h)]; rfl
theorem Rel.propose {A : LS} {R : RL} (h : Rel A R) (h2 : A.stage = 2) (xs : List Int) : Rel (nextL (opP A ⟨A.next, A.ballot, xs⟩ (fun _ => false))) (rProp R xs) := by
  have hs : R.stage = 2 := by rw [← h.stage]; exact h2
  refine ⟨h.many, h.stage, h.ballot, h.first, ?_, h.prom, h.kn, fun a => ?_, ?_, fun h1 => ?_, fun _ o ho => ?_⟩
  · show A.next + 1 = R.next + 1; rw [h.next]
  · show match lookO (R.op ++ [⟨⟨R.next, R.ballot, xs⟩, []⟩]) a with | none => _ | some o => _
    rw [lookO_app]
    have hx := h.op a
    show match (match lookO R.op a with | some x => some x | none => _) with | none => (if a = A.next then some (⟨A.next, A.ballot, xs⟩, fun _ => false) else A.op a) = none | some o => ∃ g, (if a = A.next then some ((⟨A.next, A.ballot, xs⟩ : Vt), fun _ => false) else A.op a) = some (o.v, g) ∧ PR g o.who
    cases hl : lookO R.op a with
    | some x =>
      rw [hl] at hx
      have hlt := h.low hs x (List.mem_of_find?_eq_some hl)
      have hsl := List.find?_some hl
      simp only [decide_eq_true_eq] at hsl
      simp only
      rw [if_neg (by rw [h.next]; omega)]
      exact hx
    | none =>
      rw [hl] at hx
      simp only at hx ⊢
      by_cases e : R.next = a
      · rw [if_pos e]
        simp only
        rw [if_pos (by rw [h.next]; omega)]
        exact ⟨_, by rw [h.next, h.ballot], PR.nil⟩
      · rw [if_neg e]
        simp only
        rw [if_neg (by rw [h.next]; omega)]
        exact hx
  · show (R.op ++ [_]).Pairwise _
    rw [List.pairwise_append]
    refine ⟨h.rise, by simp, fun x hx y hy => ?_⟩
    simp at hy
    subst hy
    exact h.low hs x hx
  · have : R.stage = 1 := h1
    omega
  · have ho' : o ∈ R.op ++ [⟨⟨R.next, R.ballot, xs⟩, []⟩] := ho
    show o.v.slot < R.next + 1
    rcases List.mem_append.1 ho' with ho' | ho'
    · have := h.low hs o ho'; omega
    · simp at ho'; subst ho'; show R.next < R.next + 1; omega
/-- A vote comes for a proposal. -/
def rVote (many node slot : Int) (o : RO) : Option RO :=
  if o.v.slot = slot then (if many / 2 < ((if node ∈ o.who then o.who else o.who ++ [node]).length : Int) then none else some ⟨o.v, if node ∈ o.who then o.who else o.who ++ [node]⟩) else some o
def rAcc (R : RL) (node slot : Int) : RL := { R with op := R.op.filterMap (rVote R.many node slot) }
theorem rVote_slot {many node slot : Int} {o q : RO} (h : rVote many node slot o = some q) : q.v = o.v := by
  unfold rVote at h
  generalize (if node ∈ o.who then o.who else o.who ++ [node]) = who at h
  by_cases h1 : o.v.slot = slot
  · rw [if_pos h1] at h
    by_cases h2 : many / 2 < (who.length : Int)
    · rw [if_pos h2] at h; cases h
    · rw [if_neg h2] at h; cases h; rfl
  · rw [if_neg h1] at h; cases h; rfl
theorem rVotes_mem {os : List RO} {many node slot : Int} {q : RO} (h : q ∈ os.filterMap (rVote many node slot)) : ∃ o ∈ os, q.v = o.v := by
  obtain ⟨o, ho, e⟩ := List.mem_filterMap.1 h
  exact ⟨o, ho, rVote_slot e⟩
theorem rVotes_rise {os : List RO} (h : os.Pairwise (fun x y => x.v.slot < y.v.slot)) (many node slot : Int) : (os.filterMap (rVote many node slot)).Pairwise (fun x y => x.v.slot < y.v.slot) := by
  rw [List.pairwise_filterMap]
  refine h.imp (fun {x y} hxy b hb c hc => ?_)
  rw [rVote_slot hb, rVote_slot hc]
  exact hxy
theorem rVotes_look {os : List RO} (h : os.Pairwise (fun x y => x.v.slot < y.v.slot)) (many node slot a : Int) : lookO (os.filterMap (rVote many node slot)) a = (lookO os a).bind (rVote many node slot) := by
  induction os with
  | nil => rfl
  | cons x r ih =>
    have h' := List.pairwise_cons.1 h
    rw [List.filterMap_cons, lookO_cons]
    have ih' := ih h'.2
    cases hv : rVote many node slot x with
    | none =>
      simp only
      rw [ih']
      by_cases e : x.v.slot = a
      · rw [if_pos e]
        have : lookO r a = none := by
          unfold lookO
          rw [List.find?_eq_none]
          intro y hy
          have := h'.1 y hy
          simp
          omega
        rw [this]
        simp [hv]
      · rw [if_neg e]
    | some q =>
      simp only
      rw [lookO_cons, ih', rVote_slot hv]
      by_cases e : x.v.slot = a
      · rw [if_pos e, if_pos e]; simp [hv]
      · rw [if_neg e, if_neg e]
theorem rVotes_none {os : List RO} {slot : Int} (h : lookO os slot = none) (many node : Int) : os.filterMap (rVote many node slot) = os := by
  have : ∀ o ∈ os, rVote many node slot o = some o := by
    intro o ho
    unfold lookO at h
    rw [List.find?_eq_none] at h
    have := h o ho
    unfold rVote
    rw [if_neg (by simpa using this)]
  rw [fm_congr (g := some) this, List.filterMap_some]
/-- What comes of a vote. -/
theorem Rel.vote {A : LS} {R : RL} (h : Rel A R) {n : Nat} (hn : n < 32) {slot : Int} {v : Vt} {g : Nat → Bool} (hs : A.op slot = some (v, g)) (hsl : v.slot = slot) :
    (∃ o, lookO R.op slot = some o ∧ o.v = v ∧ cnt 32 (addK g n) = (if (n : Int) ∈ o.who then o.who else o.who ++ [(n : Int)]).length) ∧
    (A.many / 2 < cnt 32 (addK g n) → Rel (opD A v.slot) (rAcc R n slot)) ∧ (¬ A.many / 2 < cnt 32 (addK g n) → Rel (opP A v (addK g n)) (rAcc R n slot)) := by
  have hx := h.op slot
  cases hl : lookO R.op slot with
  | none => rw [hl] at hx; rw [hx] at hs; cases hs
  | some o =>
    rw [hl] at hx
    obtain ⟨g', hg, hp⟩ := hx
    rw [hs] at hg
    cases hg
    have hp2 : PR (addK g n) (if (n : Int) ∈ o.who then o.who else o.who ++ [(n : Int)]) := by
      by_cases hm : (n : Int) ∈ o.who
      · rw [if_pos hm, addK_self ((hp.has hn).1 hm)]; exact hp
      · rw [if_neg hm]
        refine hp.add hn ?_
        cases e : g n
        · rfl
        · exact absurd ((hp.has hn).2 e) hm
    have hc := hp2.cnt
    have hsl2 : o.v.slot = slot := hsl
    have look' : ∀ a, lookO (rAcc R n slot).op a = (lookO R.op a).bind (rVote R.many n slot) := fun a => rVotes_look h.rise _ _ _ _
    have hv : rVote R.many n slot o = if R.many / 2 < ((if (n : Int) ∈ o.who then o.who else o.who ++ [(n : Int)]).length : Int) then none else some ⟨o.v, if (n : Int) ∈ o.who then o.who else o.who ++ [(n : Int)]⟩ := by
      unfold rVote; rw [if_pos hsl2]
    have other : ∀ a q, a ≠ slot → lookO R.op a = some q → rVote R.many n slot q = some q := by
      intro a q ha hq
      have := List.find?_some hq
      simp only [decide_eq_true_eq] at this
      unfold rVote
      rw [if_neg (by omega)]
    refine ⟨⟨o, rfl, rfl, hc⟩, fun hm => ?_, fun hm => ?_⟩
    · refine ⟨h.many, h.stage, h.ballot, h.first, h.next, h.prom, h.kn, fun a => ?_, rVotes_rise h.rise _ _ _, fun h1 => ?_, fun h2 q hq => ?_⟩
      · rw [look']
        show match (lookO R.op a).bind _ with | none => (if a = o.v.slot then none else A.op a) = none | some q => ∃ g, (if a = o.v.slot then none else A.op a) = some (RO.v q, g) ∧ PR g (RO.who q)
        by_cases e : a = slot
        · subst e
          rw [hl, Option.bind_some, hv, if_pos (by rw [← h.many, ← hc]; exact_mod_cast hm)]
          simp only
          rw [if_pos hsl2.symm]
        · rw [if_neg (by omega)]
          have hx := h.op a
          cases hq : lookO R.op a with
          | none => rw [hq] at hx; exact hx
          | some q => rw [hq] at hx; rw [Option.bind_some, other a q e hq]; exact hx
      · have h1' : R.stage = 1 := h1
        show R.op.filterMap _ = []
        rw [h.fresh h1']; rfl
      · obtain ⟨q', hq', e⟩ := rVotes_mem hq
        rw [e]; exact h.low h2 q' hq'
    · refine ⟨h.many, h.stage, h.ballot, h.first, h.next, h.prom, h.kn, fun a => ?_, rVotes_rise h.rise _ _ _, fun h1 => ?_, fun h2 q hq => ?_⟩
      · rw [look']
        show match (lookO R.op a).bind _ with | none => (if a = o.v.slot then some (o.v, addK g n) else A.op a) = none | some q => ∃ g', (if a = o.v.slot then some (o.v, addK g n) else A.op a) = some (RO.v q, g') ∧ PR g' (RO.who q)
        by_cases e : a = slot
        · subst e
          rw [hl, Option.bind_some, hv, if_neg (by rw [← h.many, ← hc]; exact_mod_cast hm)]
          simp only
          rw [if_pos hsl2.symm]
          exact ⟨_, rfl, hp2⟩
        · rw [if_neg (by omega)]
          have hx := h.op a
          cases hq : lookO R.op a with
          | none => rw [hq] at hx; exact hx
          | some q => rw [hq] at hx; rw [Option.bind_some, other a q e hq]; exact hx
      · have h1' : R.stage = 1 := h1
        show R.op.filterMap _ = []
        rw [h.fresh h1']; rfl
      · obtain ⟨q', hq', e⟩ := rVotes_mem hq
        rw [e]; exact h.low h2 q' hq'
/-- A promise is noted. -/
def rProm (R : RL) (node low : Int) (vs : List Vt) : RL := { R with prom := R.prom ++ [node], first := max R.first low, kn := vs.foldl rAdd R.kn }
/-- It leads. -/
def rLead (R : RL) (en : Int) (vs : List Vt) : RL := { R with stage := 2, next := en, op := vs.map (fun v => ⟨v, []⟩) }
theorem Rel.promise {A : LS} {R : RL} (h : Rel A R) {n : Nat} (hn : n < 32) (hp : A.prom n = false) (low : Int) (vs : List Vt) : Rel (promV A n low vs) (rProm R n low vs) := by
  obtain ⟨k1, k2, k3, k4, k5, k6, k7⟩ := foldV_keeps vs (promL A n low)
  refine ⟨k1.trans h.many, k2.trans h.stage, k3.trans h.ballot, ?_, k5.trans h.next, ?_, ?_, ?_, h.rise, h.fresh, h.low⟩
  · show (promV A n low vs).first = max R.first low
    rw [show (promV A n low vs).first = (promL A n low).first from k4]
    show max A.first low = _
    rw [h.first]
  · rw [promV_prom]; exact h.prom.add hn hp
  · exact fold_both (A := promL A n low) h.kn vs
  · rw [promV_op]; exact h.op
theorem Rel.farther {A : LS} {R : RL} (h : Rel A R) : farL A ↔ ∃ v ∈ R.kn, R.first ≤ v.slot ∧ (v.slot = 18446744073709551615 ∨ 4096 ≤ v.slot - R.first) := by
  unfold farL
  constructor
  · rintro ⟨s, h1, h2, h3⟩
    rw [← h.kn] at h1
    obtain ⟨v, hv⟩ := Option.isSome_iff_exists.1 h1
    obtain ⟨e, hm⟩ := look_slot hv
    rw [h.first] at h2 h3
    exact ⟨v, hm, by omega, by omega⟩
  · rintro ⟨v, hm, h2, h3⟩
    refine ⟨v.slot, ?_, by rw [h.first]; exact h2, by rw [h.first]; exact h3⟩
    rw [← h.kn, look_some, List.any_eq_true]
    exact ⟨v, hm, by simp⟩
/-- The end that the document finds. -/
def endK (f : Int) (L : List Vt) (k : Nat) : Int := (L.take k).foldl (fun e v => if f ≤ v.slot ∧ e ≤ v.slot then v.slot + 1 else e) f
theorem endK_succ {f : Int} {L : List Vt} {k : Nat} {v : Vt} (h : L[k]? = some v) : endK f L (k + 1) = if f ≤ v.slot ∧ endK f L k ≤ v.slot then v.slot + 1 else endK f L k := by
  obtain ⟨hlt, e⟩ := List.getElem?_eq_some_iff.1 h
  unfold endK
  rw [List.take_succ_eq_append_getElem hlt, List.foldl_append, e]
  rfl
theorem endK_ok (f : Int) (L : List Vt) (k : Nat) (hk : k ≤ L.length) : f ≤ endK f L k ∧ (∀ v ∈ L.take k, f ≤ v.slot → v.slot < endK f L k) ∧ (endK f L k = f ∨ ∃ v ∈ L.take k, f ≤ v.slot ∧ endK f L k = v.slot + 1) := by
  induction k with
  | zero => exact ⟨Int.le_refl _, by simp, Or.inl rfl⟩
  | succ k ih =>
    obtain ⟨h1, h2, h3⟩ := ih (by omega)
    have hx := List.getElem?_eq_getElem (show k < L.length by omega)
    have ht : L.take (k + 1) = L.take k ++ [L[k]] := List.take_succ_eq_append_getElem (by omega)
    rw [endK_succ hx, ht]
    by_cases hc : f ≤ L[k].slot ∧ endK f L k ≤ L[k].slot
    · rw [if_pos hc]
      refine ⟨by omega, fun v hv hf => ?_, Or.inr ⟨L[k], by first | exact List.mem_append_right _ (List.mem_singleton.2 rfl) | (rw [ht]; exact List.mem_append_right _ (List.mem_singleton.2 rfl)), hc.1, rfl⟩⟩
      rcases List.mem_append.1 hv with hv | hv
      · have := h2 v hv hf; omega
      · simp at hv; subst hv; omega
    · rw [if_neg hc]
      refine ⟨h1, fun v hv hf => ?_, ?_⟩
      · rcases List.mem_append.1 hv with hv | hv
        · exact h2 v hv hf
        · simp at hv; subst hv; omega
      · rcases h3 with h3 | ⟨v, hv, hf, he⟩
        · exact Or.inl h3
        · exact Or.inr ⟨v, List.mem_append_left _ hv, hf, he⟩
theorem Rel.isEnd {A : LS} {R : RL} (h : Rel A R) (hf : ¬ farL A) (hu : U1 A.first) (hk : ∀ v ∈ R.kn, U1 v.slot) : IsEnd A (endK R.first R.kn R.kn.length) := by
  obtain ⟨h1, h2, h3⟩ := endK_ok R.first R.kn R.kn.length (Nat.le_refl _)
  rw [List.take_length] at h2 h3
  refine ⟨⟨by rw [h.first]; exact h1, ?_⟩, fun s hs hfs => ?_, ?_⟩
  · rcases h3 with h3 | ⟨v, hv, hfv, he⟩
    · rw [h3, ← h.first]; exact hu
    · rw [he]
      have hv1 := hk v hv
      have : v.slot ≠ 18446744073709551615 := fun e => hf (h.farther.2 ⟨v, hv, hfv, Or.inl e⟩)
      unfold U1 at hv1 ⊢
      omega
  · rw [← h.kn] at hs
    obtain ⟨v, hv⟩ := Option.isSome_iff_exists.1 hs
    obtain ⟨e, hm⟩ := look_slot hv
    have := h2 v hm (by rw [← h.first]; omega)
    omega
  · rcases h3 with h3 | ⟨v, hv, hfv, he⟩
    · exact Or.inl (by rw [h3, h.first])
    · refine Or.inr ⟨v.slot, ?_, by rw [h.first]; exact hfv, he⟩
      rw [← h.kn, look_some, List.any_eq_true]
      exact ⟨v, hv, by simp⟩
theorem lookO_map {vs : List Vt} (a : Int) : lookO (vs.map (fun v => (⟨v, []⟩ : RO))) a = (look vs a).map (fun v => ⟨v, []⟩) := by
  induction vs with
  | nil => rfl
  | cons v r ih =>
    rw [List.map_cons, lookO_cons, look_cons, ih]
    by_cases e : v.slot = a
    · rw [if_pos e, if_pos e]; rfl
    · rw [if_neg e, if_neg e]
theorem leadV_look {A : LS} {n : Nat} (a : Int) : look (leadV A n) a = if A.first ≤ a ∧ a < A.first + (n : Int) then some ⟨a, A.ballot, (kOr A a).val⟩ else none := by
  by_cases hc : A.first ≤ a ∧ a < A.first + (n : Int)
  · rw [if_pos hc]
    obtain ⟨k, hk⟩ : ∃ k : Nat, a = A.first + (k : Int) := ⟨(a - A.first).toNat, by omega⟩
    have h1 := leadV_at (A := A) (n := n) (k := k) (by omega)
    rw [hk]
    refine look_at h1 rfl (fun j x hj hx => ?_)
    rw [leadV_at (by omega)] at hx
    cases hx
    simp only
    omega
  · rw [if_neg hc]
    unfold look
    rw [List.find?_eq_none]
    intro v hv
    obtain ⟨i, hi, rfl⟩ := List.getElem_of_mem hv
    have hi' : i < n := by rw [leadV_len] at hi; exact hi
    have h1 := leadV_at (A := A) (n := n) (k := i) hi'
    rw [List.getElem?_eq_getElem hi] at h1
    rw [Option.some.inj h1]
    simp only [decide_eq_true_eq]
    omega
theorem Rel.lead {A : LS} {R : RL} (h : Rel A R) (h1 : A.stage = 1) {n : Nat} {en : Int} (hn : A.first + (n : Int) = en) : Rel (leadL A en) (rLead R en (leadV A n)) := by
  have hop : ∀ a, A.op a = none := by
    intro a
    have hx := h.op a
    rw [h.fresh (by rw [← h.stage]; exact h1)] at hx
    exact hx
  refine ⟨h.many, rfl, h.ballot, h.first, rfl, h.prom, h.kn, fun a => ?_, ?_, fun h1 => absurd h1 (show ¬ (2 : Int) = 1 by decide), fun _ o ho => ?_⟩
  · show match lookO ((leadV A n).map fun v => ⟨v, []⟩) a with | none => leadP A en a = none | some o => ∃ g, leadP A en a = some (o.v, g) ∧ PR g o.who
    rw [lookO_map, leadV_look]
    unfold leadP
    by_cases hc : A.first ≤ a ∧ a < A.first + (n : Int)
    · rw [if_pos hc, if_pos (by omega)]
      exact ⟨_, rfl, PR.nil⟩
    · rw [if_neg hc, if_neg (by omega)]
      exact hop a
  · show ((leadV A n).map _).Pairwise _
    rw [List.pairwise_map]
    unfold leadV
    rw [List.pairwise_map, List.pairwise_iff_getElem]
    intro i j hi hj hij
    simp
    exact hij
  · have ho' : o ∈ (leadV A n).map fun v => (⟨v, []⟩ : RO) := ho
    obtain ⟨v, hv, rfl⟩ := List.mem_map.1 ho'
    obtain ⟨i, hi, rfl⟩ := List.getElem_of_mem hv
    have hi' : i < n := by rw [leadV_len] at hi; exact hi
    have h2 := leadV_at (A := A) (n := n) (k := i) hi'
    rw [List.getElem?_eq_getElem hi] at h2
    show (leadV A n)[i].slot < en
    rw [Option.some.inj h2]
    simp only
    omega
end Go.Proofs.Ytjdjfhioobhcjaa
