/- Regions that may be carried out in more than one order. -/
import Derived.Test.YtifpbdhggooelaaGd23
import Derived.Orders
namespace Go.Proofs.Ytifpbdhggooelaa.GD
open Go
set_option linter.unusedVariables false
set_option linter.unusedSimpArgs false

variable {P : Program} {T : Tys}

theorem putEnv_not {env : List D} {o : Oper} {v : D} {t : Nat} (h : t ∉ dstL o) : (putEnv env o.dst v)[t]? = env[t]? := by
  unfold dstL at h
  cases hd : o.dst with
  | none => rfl
  | some d =>
    rw [hd] at h
    simp at h
    simp [putEnv, List.getElem?_set_ne (fun e => h e.symm)]

theorem putEnv_mem {env : List D} {o : Oper} {v : D} {t : Nat} (h : t ∈ dstL o) : (putEnv env o.dst v)[t]? = env[t]?.map fun _ => v := by
  unfold dstL at h
  cases hd : o.dst with
  | none => rw [hd] at h; simp at h
  | some d =>
    rw [hd] at h
    simp at h
    subst h
    simp [putEnv, List.getElem?_set]
    cases h : env[t]? with
    | none => simp [List.getElem?_eq_none_iff.1 h]; 
    | some x => have := (List.getElem?_eq_some_iff.1 h).1; simp [this]

theorem setAll_congr {α : Type} : ∀ {W : List (Nat × α)} {l l' : List α} {o : Nat}, l[o]? = l'[o]? → (setAll l W)[o]? = (setAll l' W)[o]?
  | [], l, l', o, h => h
  | (p, x) :: r, l, l', o, h => by
    simp only [setAll]
    refine setAll_congr ?_
    simp only [List.getElem?_set]
    split
    · rename_i e
      subst e
      have : p < l.length ↔ p < l'.length := by
        have h1 := List.getElem?_eq_none_iff (l := l) (i := p)
        have h2 := List.getElem?_eq_none_iff (l := l') (i := p)
        rw [h] at h1
        have h3 := h1.symm.trans h2
        omega
      simp only [this]
    · exact h

/-- Where something is written, what was there before is forgotten. -/
theorem setAll_forget {α : Type} : ∀ {W : List (Nat × α)} {l l' : List α} {o : Nat}, l.length = l'.length → (∃ x, (o, x) ∈ W) → (setAll l W)[o]? = (setAll l' W)[o]?
  | [], l, l', o, _, h => by obtain ⟨x, h⟩ := h; simp at h
  | (p, y) :: r, l, l', o, hl, h => by
    simp only [setAll]
    by_cases hr : ∃ z, (o, z) ∈ r
    · exact setAll_forget (by simpa using hl) hr
    · obtain ⟨x, hx⟩ := h
      rcases List.mem_cons.1 hx with e | e
      · injection e with e1 e2
        subst e1; subst e2
        refine setAll_congr ?_
        simp only [List.getElem?_set, hl, if_true]
      · exact absurd ⟨x, e⟩ hr

theorem runSet_env : ∀ {l : List (Nat × Oper × Lab)} {E E' : Nat → Bool} {s s' : St} {t : Nat}, s.env[t]? = s'.env[t]? → (∀ p ∈ l, t ∈ dstL p.2.1 → E p.1 = E' p.1) →
    (runSet l E s).env[t]? = (runSet l E' s').env[t]?
  | [], E, E', s, s', t, hs, _ => hs
  | p :: l, E, E', s, s', t, hs, h => by
    simp only [runSet]
    refine runSet_env ?_ (fun q hq => h q (List.mem_cons_of_mem _ hq))
    by_cases ht : t ∈ dstL p.2.1
    · rw [h p (by simp) ht]
      split
      · simp only [updSt, putEnv_mem ht, hs]
      · exact hs
    · have : ∀ (c : Bool) (u : St), (if c then updSt p.2.1 p.2.2 u else u).env[t]? = u.env[t]? := by
        intro c u
        cases c
        · rfl
        · simp [updSt, putEnv_not ht]
      rw [this, this, hs]

theorem runSet_H : ∀ {l : List (Nat × Oper × Lab)} {E E' : Nat → Bool} {s s' : St} {t : Nat}, s.H[t]? = s'.H[t]? → (∀ p ∈ l, (∃ x, (t, x) ∈ p.2.2.wr) → E p.1 = E' p.1) →
    (runSet l E s).H[t]? = (runSet l E' s').H[t]?
  | [], E, E', s, s', t, hs, _ => hs
  | p :: l, E, E', s, s', t, hs, h => by
    simp only [runSet]
    refine runSet_H ?_ (fun q hq => h q (List.mem_cons_of_mem _ hq))
    by_cases ht : ∃ x, (t, x) ∈ p.2.2.wr
    · rw [h p (by simp) ht]
      split
      · exact setAll_congr hs
      · exact hs
    · have : ∀ (c : Bool) (u : St), (if c then updSt p.2.1 p.2.2 u else u).H[t]? = u.H[t]? := by
        intro c u
        cases c
        · rfl
        · simp only [updSt, if_true]
          exact setAll_not (fun x hx => ht ⟨x, hx⟩)
      rw [this, this, hs]

theorem runSet_len : ∀ (l : List (Nat × Oper × Lab)) (E : Nat → Bool) (s : St), (runSet l E s).env.length = s.env.length ∧ (runSet l E s).H.length = s.H.length
  | [], E, s => ⟨rfl, rfl⟩
  | p :: l, E, s => by
    simp only [runSet]
    obtain ⟨h1, h2⟩ := runSet_len l E (if E p.1 then updSt p.2.1 p.2.2 s else s)
    rw [h1, h2]
    cases E p.1
    · exact ⟨rfl, rfl⟩
    · simp only [if_true, updSt]
      refine ⟨?_, setAll_len _ _⟩
      unfold putEnv
      split <;> simp

theorem runSet_append : ∀ (l l' : List (Nat × Oper × Lab)) (E : Nat → Bool) (s : St), runSet (l ++ l') E s = runSet l' E (runSet l E s)
  | [], l', E, s => rfl
  | p :: l, l', E, s => by simp only [List.cons_append, runSet, runSet_append l l']

theorem labList_mem : ∀ {os : List Oper} {Ls : List Lab} {n i : Nat} {o : Oper} {L : Lab}, (i, o, L) ∈ labList n os Ls → n ≤ i ∧ os[i - n]? = some o ∧ Ls[i - n]? = some L
  | [], Ls, n, i, o, L, h => by simp [labList] at h
  | x :: os, [], n, i, o, L, h => by simp [labList] at h
  | x :: os, y :: Ls, n, i, o, L, h => by
    simp only [labList, List.mem_cons, Prod.mk.injEq] at h
    rcases h with ⟨rfl, rfl, rfl⟩ | h
    · simp
    · obtain ⟨h1, h2, h3⟩ := labList_mem h
      refine ⟨by omega, ?_, ?_⟩
      · rw [show i - n = (i - (n + 1)) + 1 by omega]; simpa using h2
      · rw [show i - n = (i - (n + 1)) + 1 by omega]; simpa using h3

theorem labList_split : ∀ {os : List Oper} {Ls : List Lab} {n i : Nat} {o : Oper} {L : Lab}, os[i]? = some o → Ls[i]? = some L →
    ∃ l1 l2, labList n os Ls = l1 ++ (n + i, o, L) :: l2 ∧ (∀ p ∈ l1, p.1 < n + i) ∧ (∀ p ∈ l2, n + i < p.1)
  | [], Ls, n, i, o, L, h, h' => by simp at h
  | x :: os, [], n, i, o, L, h, h' => by simp at h'
  | x :: os, y :: Ls, n, i, o, L, h, h' => by
    cases i with
    | zero =>
      simp only [List.getElem?_cons_zero, Option.some.injEq] at h h'
      subst h; subst h'
      refine ⟨[], labList (n + 1) os Ls, rfl, fun p hp => by simp at hp, fun p hp => ?_⟩
      have := (labList_mem (i := p.1) (o := p.2.1) (L := p.2.2) hp).1
      omega
    | succ i =>
      obtain ⟨l1, l2, e, h1, h2⟩ := labList_split (n := n + 1) (by simpa using h) (by simpa using h')
      refine ⟨(n, x, y) :: l1, l2, ?_, fun p hp => ?_, fun p hp => ?_⟩
      · simp only [labList, e, List.cons_append]
        rw [show n + 1 + i = n + (i + 1) by omega]
      · rcases List.mem_cons.1 hp with rfl | hp
        · show n < n + (i + 1); omega
        · have := h1 p hp; omega
      · have := h2 p hp; omega

theorem maskFold_bits {m : List Nat} {j : Nat} : ∀ (l : List Edge) (a : Nat), (l.foldl (fun a e => if Region.binds .any e then a ||| 2 ^ e.on ||| m.getD e.on 0 else a) a).testBit j = true →
    a.testBit j = true ∨ ∃ e ∈ l, Region.binds .any e = true ∧ (e.on = j ∨ (m.getD e.on 0).testBit j = true)
  | [], a, h => .inl h
  | e :: l, a, h => by
    simp only [List.foldl_cons] at h
    rcases maskFold_bits l _ h with h1 | ⟨e', he', h1⟩
    · split at h1
      · rename_i hb
        rw [Nat.testBit_or, Nat.testBit_or, Nat.testBit_two_pow, Bool.or_eq_true, Bool.or_eq_true] at h1
        rcases h1 with (h1 | h1) | h1
        · exact .inl h1
        · exact .inr ⟨e, by simp, hb, .inl (by simpa using h1)⟩
        · exact .inr ⟨e, by simp, hb, .inr h1⟩
      · exact .inl h1
    · exact .inr ⟨e', List.mem_cons_of_mem _ he', h1⟩

theorem maskOf_bits {m : List Nat} {o : Oper} {j : Nat} (h : (maskOf m o).testBit j = true) : ∃ e ∈ o.after, Region.binds .any e = true ∧ (e.on = j ∨ (m.getD e.on 0).testBit j = true) := by
  rcases maskFold_bits _ _ h with h | ⟨e, he, h⟩
  · simp at h
  · exact ⟨e, by simpa using he, h⟩

theorem disj_spec {a b : List Nat} (h : disj a b = true) {x : Nat} (ha : x ∈ a) : x ∉ b := by
  unfold disj at h
  have := List.all_eq_true.1 h x ha
  simpa using this

structure OrderOk (ops : Array Oper) (c K : Nat) (l : List (Nat × Oper × Lab)) (m : List Nat) : Prop where
  lt : ∀ p ∈ l, ∀ e ∈ p.2.1.after, Region.binds .any e = true → e.on < p.1
  mask : ∀ p ∈ l, m.getD p.1 0 = maskOf m p.2.1
  ind : ∀ p ∈ l, ∀ q ∈ l, p.1 < q.1 → (m.getD q.1 0).testBit p.1 = true ∨ ((m.getD p.1 0).testBit q.1 = false ∧ indepB ops p.2 q.2 = true)
  wr : ∀ p ∈ l, ∀ x ∈ p.2.2.wr, x.1 < c ∨ (x.1 - c) / K = p.1 ∨ (m.getD p.1 0).testBit ((x.1 - c) / K) = true

theorem orderB_spec {ops : Array Oper} {c K : Nat} {Ls : List Lab} {m : List Nat} (h : orderB ops c K Ls m = true) : OrderOk ops c K (labList 0 ops.toList Ls) m := by
  unfold orderB at h
  simp only [Bool.and_eq_true, List.all_eq_true, Bool.or_eq_true, Bool.not_eq_true', decide_eq_true_eq, decide_eq_false_iff_not, beq_iff_eq] at h
  obtain ⟨⟨⟨h0, h1⟩, h2⟩, h3⟩ := h
  refine ⟨fun p hp e he hb => ?_, h1, fun p hp q hq hlt => ?_, fun p hp x hx => ?_⟩
  · rcases h0 p hp e (by simpa using he) with h | h
    · rw [hb] at h; cases h
    · exact h
  · rcases h2 q hq p hp with (h | h) | h
    · omega
    · exact .inl h
    · exact .inr h
  · rcases h3 p hp x hx with (h | h) | h
    · exact .inl h
    · exact .inr (.inl h)
    · exact .inr (.inr h)

theorem indep_spec {ops : Array Oper} {p q : Oper × Lab} (h : indepB ops p q = true) :
    disj (dstL p.1) (looksOf ops q.1 ++ dstL q.1) = true ∧ disj (dstL q.1) (looksOf ops p.1) = true ∧ disj (p.2.wr.map (·.1)) (q.2.rd ++ q.2.wr.map (·.1)) = true ∧ disj (q.2.wr.map (·.1)) p.2.rd = true := by
  unfold indepB at h
  simp only [Bool.and_eq_true] at h
  exact ⟨h.1.1.1, h.1.1.2, h.1.2, h.2⟩

/-- What is listed: whatever must be ahead of it is listed too. -/
def Down (m : List Nat) (E : Nat → Bool) : Prop := ∀ k, E k = true → ∀ j, (m.getD k 0).testBit j = true → E j = true

def addE (E : Nat → Bool) (i : Nat) : Nat → Bool := fun k => k == i || E k

section
variable {ops : Array Oper} {c K : Nat} {Ls : List Lab} {m : List Nat} {E : Nat → Bool} {s : St} {i : Nat} {o : Oper} {L : Lab}

/-- Those listed and those not, seen from one that may come next. -/
theorem next_ind (hO : OrderOk ops c K (labList 0 ops.toList Ls) m) (hD : Down m E) (hi : (i, o, L) ∈ labList 0 ops.toList Ls) (hn : E i = false) (hp : ∀ j, (m.getD i 0).testBit j = true → E j = true)
    {q : Nat × Oper × Lab} (hq : q ∈ labList 0 ops.toList Ls) (hne : q.1 ≠ i) (hb : E q.1 ≠ below i q.1) :
    disj (dstL q.2.1) (looksOf ops o) = true ∧ disj (q.2.2.wr.map (·.1)) L.rd = true := by
  rcases Nat.lt_or_gt_of_ne hne with hlt | hgt
  · have hbel : below i q.1 = true := by simp [below, hlt]
    have hEq : E q.1 = false := by
      cases h : E q.1
      · rfl
      · rw [h, hbel] at hb; exact absurd rfl hb
    rcases hO.ind q hq _ hi hlt with h | ⟨_, h⟩
    · rw [hp _ h] at hEq; cases hEq
    · obtain ⟨h1, _, h3, _⟩ := indep_spec h
      refine ⟨?_, ?_⟩
      · unfold disj at h1 ⊢
        rw [List.all_eq_true] at h1 ⊢
        intro x hx
        have := h1 x hx
        simp at this ⊢
        exact this.1
      · unfold disj at h3 ⊢
        rw [List.all_eq_true] at h3 ⊢
        intro x hx
        have := h3 x hx
        simp at this ⊢
        exact this.1
  · have hbel : below i q.1 = false := by simp [below]; omega
    have hEq : E q.1 = true := by
      cases h : E q.1
      · rw [h, hbel] at hb; exact absurd rfl hb
      · rfl
    rcases hO.ind _ hi q hq hgt with h | ⟨_, h⟩
    · have := hD q.1 hEq i h
      rw [hn] at this; cases this
    · obtain ⟨_, h2, _, h4⟩ := indep_spec h
      exact ⟨h2, h4⟩

theorem uniq_lab (h1 : (i, o, L) ∈ labList 0 ops.toList Ls) {q : Nat × Oper × Lab} (hq : q ∈ labList 0 ops.toList Ls) (he : q.1 = i) : q = (i, o, L) := by
  obtain ⟨q1, q2, q3⟩ := q
  simp only at he
  subst he
  obtain ⟨_, a1, a2⟩ := labList_mem h1
  obtain ⟨_, b1, b2⟩ := labList_mem hq
  rw [a1] at b1
  rw [a2] at b2
  obtain rfl := Option.some.inj b1
  obtain rfl := Option.some.inj b2
  rfl

theorem next_env (hO : OrderOk ops c K (labList 0 ops.toList Ls) m) (hD : Down m E) (hi : (i, o, L) ∈ labList 0 ops.toList Ls) (hn : E i = false) (hp : ∀ j, (m.getD i 0).testBit j = true → E j = true)
    (t : Nat) (ht : t ∈ looksOf ops o) : (runSet (labList 0 ops.toList Ls) E s).env[t]? = (runSet (labList 0 ops.toList Ls) (below i) s).env[t]? := by
  refine runSet_env rfl (fun q hq hqt => ?_)
  by_cases he : q.1 = i
  · rw [he, hn]; simp [below]
  · by_cases hb : E q.1 = below i q.1
    · exact hb
    · exact absurd ht (disj_spec (next_ind hO hD hi hn hp hq he hb).1 hqt)

theorem next_rd (hO : OrderOk ops c K (labList 0 ops.toList Ls) m) (hD : Down m E) (hi : (i, o, L) ∈ labList 0 ops.toList Ls) (hn : E i = false) (hp : ∀ j, (m.getD i 0).testBit j = true → E j = true)
    (x : Nat) (hx : x ∈ L.rd) : (runSet (labList 0 ops.toList Ls) E s).H[x]? = (runSet (labList 0 ops.toList Ls) (below i) s).H[x]? := by
  refine runSet_H rfl (fun q hq hqt => ?_)
  by_cases he : q.1 = i
  · rw [he, hn]; simp [below]
  · by_cases hb : E q.1 = below i q.1
    · exact hb
    · obtain ⟨y, hy⟩ := hqt
      exact absurd hx (disj_spec (next_ind hO hD hi hn hp hq he hb).2 (List.mem_map.2 ⟨_, hy, rfl⟩))

/-- One more. -/
theorem next_upd (hO : OrderOk ops c K (labList 0 ops.toList Ls) m) (hD : Down m E) (ho : ops.toList[i]? = some o) (hL : Ls[i]? = some L) (hn : E i = false) :
    runSet (labList 0 ops.toList Ls) (addE E i) s = updSt o L (runSet (labList 0 ops.toList Ls) E s) := by
  obtain ⟨l1, l2, hl, h1, h2⟩ := labList_split (n := 0) ho hL
  rw [Nat.zero_add] at hl h1 h2
  have hmem : (i, o, L) ∈ labList 0 ops.toList Ls := by rw [hl]; simp
  have hl2 : ∀ q ∈ l2, q ∈ labList 0 ops.toList Ls := fun q hq => by rw [hl]; simp [hq]
  have hadd : ∀ k, k ≠ i → addE E i k = E k := fun k hk => by simp [addE, hk]
  have hlater : ∀ q ∈ l2, addE E i q.1 = true → indepB ops (o, L) q.2 = true := by
    intro q hq hE
    have hlt := h2 q hq
    rw [hadd q.1 (by omega)] at hE
    rcases hO.ind _ hmem q (hl2 q hq) hlt with h | ⟨_, h⟩
    · have := hD q.1 hE i h
      rw [hn] at this; cases this
    · exact h
  have hself : runSet (labList 0 ops.toList Ls) (addE E i) s = runSet l2 (addE E i) (updSt o L (runSet l1 (addE E i) s)) := by
    rw [hl, runSet_append]
    simp only [runSet]
    rw [if_pos (by simp [addE])]
  obtain ⟨len1, len2⟩ := runSet_len (labList 0 ops.toList Ls) (addE E i) s
  obtain ⟨len3, len4⟩ := runSet_len (labList 0 ops.toList Ls) E s
  have henv : (runSet (labList 0 ops.toList Ls) (addE E i) s).env = (updSt o L (runSet (labList 0 ops.toList Ls) E s)).env := by
    apply List.ext_getElem?
    intro t
    by_cases ht : t ∈ dstL o
    · have hrest : (runSet l2 (addE E i) (updSt o L (runSet l1 (addE E i) s))).env[t]? = (runSet l2 (fun _ => false) (updSt o L (runSet l1 (addE E i) s))).env[t]? := by
        refine runSet_env rfl (fun q hq hqt => ?_)
        cases hE : addE E i q.1
        · rfl
        · exfalso
          have := disj_spec (indep_spec (hlater q hq hE)).1 ht
          simp at this
          exact this.2 hqt
      have hnone : ∀ (l : List (Nat × Oper × Lab)) (u : St), runSet l (fun _ => false) u = u := by
        intro l
        induction l with
        | nil => intro u; rfl
        | cons p l ih => intro u; simp [runSet, ih]
      rw [hself, hrest, hnone]
      simp only [updSt, putEnv_mem ht]
      have : ∀ a b : List D, a.length = b.length → a[t]?.map (fun _ => L.val) = b[t]?.map (fun _ => L.val) := by
        intro a b hab
        by_cases hlt : t < a.length
        · rw [List.getElem?_eq_getElem hlt, List.getElem?_eq_getElem (by omega)]; rfl
        · rw [List.getElem?_eq_none (by omega), List.getElem?_eq_none (by omega)]
      exact this _ _ (by rw [len3, (runSet_len l1 _ s).1])
    · simp only [updSt, putEnv_not ht]
      refine runSet_env rfl (fun q hq hqt => ?_)
      by_cases he : q.1 = i
      · have := uniq_lab hmem hq he
        subst this
        exact absurd hqt ht
      · exact hadd _ he
  have hH : (runSet (labList 0 ops.toList Ls) (addE E i) s).H = (updSt o L (runSet (labList 0 ops.toList Ls) E s)).H := by
    apply List.ext_getElem?
    intro t
    by_cases ht : ∃ x, (t, x) ∈ L.wr
    · have hrest : (runSet l2 (addE E i) (updSt o L (runSet l1 (addE E i) s))).H[t]? = (runSet l2 (fun _ => false) (updSt o L (runSet l1 (addE E i) s))).H[t]? := by
        refine runSet_H rfl (fun q hq hqt => ?_)
        cases hE : addE E i q.1
        · rfl
        · exfalso
          obtain ⟨x, hx⟩ := ht
          have := disj_spec (indep_spec (hlater q hq hE)).2.2.1 (List.mem_map.2 ⟨_, hx, rfl⟩)
          obtain ⟨y, hy⟩ := hqt
          simp at this
          exact this.2 _ hy
      have hnone : ∀ (l : List (Nat × Oper × Lab)) (u : St), runSet l (fun _ => false) u = u := by
        intro l
        induction l with
        | nil => intro u; rfl
        | cons p l ih => intro u; simp [runSet, ih]
      rw [hself, hrest, hnone]
      simp only [updSt]
      exact setAll_forget (by rw [len4, (runSet_len l1 _ s).2]) ht
    · simp only [updSt]
      rw [setAll_not (fun x hx => ht ⟨x, hx⟩)]
      refine runSet_H rfl (fun q hq hqt => ?_)
      by_cases he : q.1 = i
      · have := uniq_lab hmem hq he
        subst this
        exact absurd hqt ht
      · exact hadd _ he
  generalize runSet (labList 0 ops.toList Ls) (addE E i) s = A at *
  generalize updSt o L (runSet (labList 0 ops.toList Ls) E s) = B at *
  cases A; cases B
  simp only at henv hH
  rw [henv, hH]

/-- The names that one may take are free as long as it is not listed. -/
theorem next_free (hO : OrderOk ops c K (labList 0 ops.toList Ls) m) (hD : Down m E) (hn : E i = false) (hK : 0 < K) (hs : ∀ x, c ≤ x → hget s.H x = none) {x : Nat} (h1 : c + i * K ≤ x) (h2 : x < c + i * K + K) :
    hget (runSet (labList 0 ops.toList Ls) E s).H x = none := by
  have hdiv : (x - c) / K = i := by
    rw [Nat.div_eq_iff hK]
    rw [Nat.mul_comm] at h1 h2
    rw [Nat.mul_comm]
    constructor <;> omega
  have : (runSet (labList 0 ops.toList Ls) E s).H[x]? = (runSet (labList 0 ops.toList Ls) (fun _ => false) s).H[x]? := by
    refine runSet_H rfl (fun q hq hqt => ?_)
    cases hE : E q.1
    · rfl
    · exfalso
      obtain ⟨y, hy⟩ := hqt
      rcases hO.wr q hq _ hy with h | h | h
      · simp only at h; omega
      · simp only at h; rw [hdiv] at h; rw [← h, hn] at hE; cases hE
      · simp only at h; rw [hdiv] at h; have := hD _ hE _ h; rw [hn] at this; cases this
  have hnone : ∀ (l : List (Nat × Oper × Lab)) (u : St), runSet l (fun _ => false) u = u := by
    intro l
    induction l with
    | nil => intro u; rfl
    | cons p l ih => intro u; simp [runSet, ih]
  rw [hnone] at this
  unfold hget
  rw [List.getD_eq_getElem?_getD, this, ← List.getD_eq_getElem?_getD]
  exact hs x (by omega)

end
end Go.Proofs.Ytifpbdhggooelaa.GD
