/- What is behind a loop does not need what was let go at its end. -/
import Derived.Test.YtifpbdhggooelaaGd29
namespace Go.Proofs.Ytifpbdhggooelaa.GD
open Go Go.ChangeShapes Go.WideShapes Go.RowKit
set_option linter.unusedVariables false
set_option linter.unusedSimpArgs false

/-- Terms that are told more than once. -/
def rep (n : Nat) (p : Prop) (l : List Prop) : List Prop := List.replicate n p ++ l
theorem all_rep {n : Nat} {p : Prop} {l : List Prop} : (∀ c ∈ rep n p l, c) ↔ (n = 0 ∨ p) ∧ ∀ c ∈ l, c := by
  constructor
  · intro h
    refine ⟨?_, fun c hc => h c (List.mem_append_right _ hc)⟩
    cases n with
    | zero => exact .inl rfl
    | succ n => exact .inr (h p (List.mem_append_left _ (by simp [List.replicate_succ])))
  · rintro ⟨h1, h2⟩ c hc
    rcases List.mem_append.1 hc with hc | hc
    · obtain ⟨hn, rfl⟩ := List.mem_replicate.1 hc
      rcases h1 with h1 | h1
      · exact absurd h1 hn
      · exact h1
    · exact h2 c hc

/-- Whether some code is still run. -/
def runsK : Ex → List It → Bool
  | _, [] => false
  | .normal, .seq _ :: _ => true
  | .normal, .lp _ :: _ => true
  | .normal, .blk _ :: k => runsK .normal k
  | .exit j, .blk id :: k => if j = id then runsK .normal k else runsK (.exit j) k
  | e, _ :: k => runsK e k

theorem EvD_keep {P : Program} {T : Tys} {n h : Nat} {keep : List Nat} {s s' : St} {e : Ex} (hn : n ≤ h) (hh : h ≤ s.H.length) (hk : s.keepOk keep h = true) :
    ∀ (k : List It) (e1 : Ex), runsK e1 k = true → EvD P T n e1 k (s.keep keep h) e s' → EvD P T n e1 k s e s'
  | [], e1, hr, _ => by simp [runsK] at hr
  | .seq y :: k, e1, hr, hd => by
    unfold EvD at hd ⊢
    rcases hd with ⟨rfl, e2, s2, g1, g2⟩ | ⟨hne, g⟩
    · exact .inl ⟨rfl, e2, s2, .keep _ _ _ _ _ keep h hn hh hk g1, g2⟩
    · refine .inr ⟨hne, EvD_keep hn hh hk k e1 ?_ g⟩
      cases e1 <;> simp_all [runsK]
  | .lp c :: k, e1, hr, hd => by
    unfold EvD at hd ⊢
    rcases hd with ⟨rfl, e2, s2, g1, g2⟩ | ⟨hne, g⟩
    · exact .inl ⟨rfl, e2, s2, .keep _ _ _ _ _ keep h hn hh hk g1, g2⟩
    · refine .inr ⟨hne, EvD_keep hn hh hk k e1 ?_ g⟩
      cases e1 <;> simp_all [runsK]
  | .blk id :: k, e1, hr, hd => by
    unfold EvD at hd ⊢
    rcases hd with ⟨he, g⟩ | ⟨hne, hne', g⟩
    · refine .inl ⟨he, EvD_keep hn hh hk k .normal ?_ g⟩
      rcases he with rfl | rfl
      · simpa [runsK] using hr
      · simpa [runsK] using hr
    · refine .inr ⟨hne, hne', EvD_keep hn hh hk k e1 ?_ g⟩
      cases e1 with
      | exit j =>
        have hj : ¬ j = id := fun hh => hne' (by rw [hh])
        rw [runsK, if_neg hj] at hr
        exact hr
      | _ => simp_all [runsK]

/-- What is behind a loop comes to this. -/
structure RestOk (P : Program) (T : Tys) (n : Nat) (e1 : Ex) (k : List It) (s : St) (e : Ex) (keep : List Nat) (h : Nat) (env : List D) (H : Heap) : Prop where
  ex : ∃ s', EvD P T n e1 k s e s' ∧ s'.keep keep h = ⟨env, H⟩ ∧ s'.keepOk keep h = true ∧ h ≤ s'.H.length

/-- What code comes to. -/
structure RoadOk (P : Program) (T : Tys) (n : Nat) (cur : Cur) (k : List It) (s : St) (e : Ex) (keep : List Nat) (h : Nat) (env : List D) (H : Heap) : Prop where
  ex : ∃ s', EvK P T n cur k s e s' ∧ s'.keep keep h = ⟨env, H⟩ ∧ s'.keepOk keep h = true ∧ h ≤ s'.H.length

/-- A road from behind a loop, at the state that is kept there. -/
theorem rest_ok {C : Cf} (hC : CfOk C) {m d fn n h h' : Nat} {keep keep' : List Nat} {k : List It} {s s0 : St} {or : Or} {e1 e : Ex} {env : List D} {H : Heap} {cs : List Prop}
    (hn : n ≤ h') (hh : h' ≤ s.H.length) (hk : s.keepOk keep' h' = true) (hs : s.keep keep' h' = s0) (hrun : runsK e1 k = true)
    (hr : cutF keep h (runE C (callE C m d) fn m (.done e1) k s0 or []) = some (e, env, H, cs)) (hc : ∀ c ∈ cs, c) :
    RestOk C.P C.T n e1 k s e keep h env H := by
  subst hs
  obtain ⟨s', g1, g2, g3, g4⟩ := cutF_ok (n := n) hC hr hc
  exact ⟨s', EvD_keep hn hh hk k e1 hrun g1, g2, g3, g4⟩

/-- From behind a loop to the next one, and on from there. -/
theorem rest_loop {C : Cf} (hC : CfOk C) {m d fn n h h' h2 : Nat} {keep keep' keep2 : List Nat} {k k' : List It} {s s0 : St} {or : Or} {e1 : Ex} {c : Code} {env env2 : List D} {H H2 : Heap} {cs : List Prop}
    (hn : n ≤ h') (hh : h' ≤ s.H.length) (hk : s.keepOk keep' h' = true) (hs : s.keep keep' h' = s0) (hrun : runsK e1 k = true)
    (hr : cutS keep h (runE C (callE C m d) fn m (.done e1) k s0 or []) = some (c, k', env, H, cs)) (hc : ∀ c ∈ cs, c) (hn' : n ≤ h) {e2 e : Ex} {s2 : St}
    (hl : Ev C.P C.T (.code n (.loop c) ⟨env, H⟩ e2 s2)) (hr2 : RestOk C.P C.T n e2 k' s2 e keep2 h2 env2 H2) :
    RestOk C.P C.T n e1 k s e keep2 h2 env2 H2 := by
  subst hs
  obtain ⟨s', g, r⟩ := hr2
  exact ⟨s', EvD_keep hn hh hk k e1 hrun (cutS_ok (cur := .done e1) hC hr hc hn' hl g), r⟩

/-- A loop that is left, where another one follows. -/
theorem loop_left_loop {C : Cf} (hC : CfOk C) {m d fn n h h' h2 : Nat} {keep keep' keep2 : List Nat} {c c' : Code} {k k' : List It} {s : St} {or : Or} {e1 e2 e : Ex} {env env' env2 : List D} {H H' H2 : Heap} {cs : List Prop}
    (hb : RoadOk C.P C.T n (.code c) [] s e1 keep' h' env' H') (he : e1 ≠ .normal) (hn : n ≤ h') (hrun : runsK e1 k = true)
    (hr : cutS keep h (runE C (callE C m d) fn m (.done e1) k ⟨env', H'⟩ or []) = some (c', k', env, H, cs)) (hc : ∀ c ∈ cs, c) (hn' : n ≤ h) {s2 : St}
    (hl : Ev C.P C.T (.code n (.loop c') ⟨env, H⟩ e2 s2)) (hr2 : RestOk C.P C.T n e2 k' s2 e keep2 h2 env2 H2) :
    ∃ s1, Ev C.P C.T (.code n (.loop c) s e1 s1) ∧ RestOk C.P C.T n e1 k s1 e keep2 h2 env2 H2 := by
  obtain ⟨s1, g1, g2, g3, g4⟩ := hb
  exact ⟨s1, loop_out he g1, rest_loop hC hn g4 g3 g2 hrun hr hc hn' hl hr2⟩

theorem road_fin {C : Cf} (hC : CfOk C) {m d fn n h : Nat} {keep : List Nat} {cur : Cur} {k : List It} {s : St} {or : Or} {e : Ex} {env : List D} {H : Heap} {cs : List Prop}
    (hr : cutF keep h (runE C (callE C m d) fn m cur k s or []) = some (e, env, H, cs)) (hc : ∀ c ∈ cs, c) : RoadOk C.P C.T n cur k s e keep h env H :=
  ⟨cutF_ok hC hr hc⟩

theorem road_loop {C : Cf} (hC : CfOk C) {m d fn n h h' : Nat} {keep keep' : List Nat} {cur : Cur} {k k' : List It} {s : St} {or : Or} {c : Code} {env env' : List D} {H H' : Heap} {cs : List Prop}
    (hr : cutS keep h (runE C (callE C m d) fn m cur k s or []) = some (c, k', env, H, cs)) (hc : ∀ c ∈ cs, c) (hn : n ≤ h) {e1 : Ex} {s2 : St}
    (hl : Ev C.P C.T (.code n (.loop c) ⟨env, H⟩ e1 s2)) {e : Ex} (hk : RestOk C.P C.T n e1 k' s2 e keep' h' env' H') : RoadOk C.P C.T n cur k s e keep' h' env' H' := by
  obtain ⟨s', g, r⟩ := hk
  exact ⟨s', cutS_ok hC hr hc hn hl g, r⟩

/-- The same, where the calls are reckoned by another configuration of the same program. -/
theorem road_loop' {C : Cf} (hC : CfOk C) {rc : FuncId → List D → Heap → Or → Option CR} (hrc : RcOk C rc) {m fn n h h' : Nat} {keep keep' : List Nat} {cur : Cur} {k k' : List It} {s : St} {or : Or} {c : Code} {env env' : List D} {H H' : Heap} {cs : List Prop}
    (hr : cutS keep h (runE C rc fn m cur k s or []) = some (c, k', env, H, cs)) (hc : ∀ c ∈ cs, c) (hn : n ≤ h) {e1 : Ex} {s2 : St}
    (hl : Ev C.P C.T (.code n (.loop c) ⟨env, H⟩ e1 s2)) {e : Ex} (hk : RestOk C.P C.T n e1 k' s2 e keep' h' env' H') : RoadOk C.P C.T n cur k s e keep' h' env' H' := by
  obtain ⟨s', g, r⟩ := hk
  refine ⟨s', ?_, r⟩
  unfold cutS at hr
  split at hr
  · rename_i c0 k0 s0 or' cs' hrun
    split at hr
    · rename_i hb
      simp only [Bool.and_eq_true, decide_eq_true_eq] at hb
      simp only [Option.some.injEq, Prod.mk.injEq] at hr
      obtain ⟨rfl, rfl, rfl, rfl, rfl⟩ := hr
      refine (runE_ok hC hrc hrun hc).2 _ _ ⟨e1, s2, ?_, g⟩
      exact .keep _ _ _ _ _ _ _ hn hb.2 hb.1 hl
    · cases hr
  · cases hr

/-- Calls as one configuration reckons them are as good for another of the same program. -/
theorem rc_of {C C' : Cf} (hC' : CfOk C') (hP : C'.P = C.P) (hT : C'.T = C.T) {m d : Nat} : RcOk C (callE C' m d) := by
  intro k args H or R h hc
  obtain ⟨X, hX⟩ := callE_ok hC' k args H or R h hc
  rw [hP, hT] at hX
  exact ⟨X, hX⟩

/-- A loop whose round comes to its head again. -/
theorem loop_again {P : Program} {T : Tys} {n h : Nat} {keep : List Nat} {c : Code} {s s2 : St} {env : List D} {H : Heap} {e : Ex} (hb : RoadOk P T n (.code c) [] s .normal keep h env H)
    (hn : n ≤ h) (hl : Ev P T (.code n (.loop c) ⟨env, H⟩ e s2)) : Ev P T (.code n (.loop c) s e s2) := by
  obtain ⟨s1, g1, g2, g3, g4⟩ := hb
  exact loop_next g1 g2 g3 g4 hn hl

/-- A loop that is left, with what is behind it. -/
theorem loop_left {C : Cf} (hC : CfOk C) {m d fn n h h' : Nat} {keep keep' : List Nat} {c : Code} {k : List It} {s : St} {or : Or} {e1 e : Ex} {env env' : List D} {H H' : Heap} {cs : List Prop}
    (hb : RoadOk C.P C.T n (.code c) [] s e1 keep' h' env' H') (he : e1 ≠ .normal) (hn : n ≤ h') (hrun : runsK e1 k = true)
    (hr : cutF keep h (runE C (callE C m d) fn m (.done e1) k ⟨env', H'⟩ or []) = some (e, env, H, cs)) (hc : ∀ c ∈ cs, c) :
    ∃ s2, Ev C.P C.T (.code n (.loop c) s e1 s2) ∧ RestOk C.P C.T n e1 k s2 e keep h env H := by
  obtain ⟨s1, g1, g2, g3, g4⟩ := hb
  exact ⟨s1, loop_out he g1, rest_ok hC hn g4 g3 g2 hrun hr hc⟩

theorem EvD_ret {P : Program} {T : Tys} {n : Nat} {s : St} : ∀ k : List It, EvD P T n .ret k s .ret s
  | [] => ⟨rfl, rfl⟩
  | .seq y :: k => .inr ⟨by simp, EvD_ret k⟩
  | .blk id :: k => .inr ⟨by simp, by simp, EvD_ret k⟩
  | .lp c :: k => .inr ⟨by simp, EvD_ret k⟩

/-- A loop out of which the function returns. -/
theorem loop_ret {P : Program} {T : Tys} {n h : Nat} {keep : List Nat} {c : Code} {s : St} {env : List D} {H : Heap} (k : List It) (hb : RoadOk P T n (.code c) [] s .ret keep h env H) :
    ∃ s1, Ev P T (.code n (.loop c) s .ret s1) ∧ RestOk P T n .ret k s1 .ret keep h env H := by
  obtain ⟨s1, g1, g2, g3, g4⟩ := hb
  exact ⟨s1, loop_out (by simp) g1, ⟨s1, EvD_ret k, g2, g3, g4⟩⟩

/-- A law: what its body comes to, and what it hands back. -/
theorem call_road {P : Program} {T : Tys} {f : FuncId} {fn : Func} {code : Code} {args : List D} {H0 : Heap} {e : Ex} {keep : List Nat} {h t : Nat} {env : List D} {H : Heap} (hf : P.funcs[f]? = some fn) (hb : fn.body = some code)
    (hnum : (fn.name == "runtime.NumGoroutine") = false) (he : e = .normal ∨ e = .ret) (hres : fn.results = #[.tmp t]) (ht : keep.contains t = true)
    (hev : RoadOk P T H0.length (.code code) [] (beginE fn args H0) e keep h env H) :
    ∃ H1, Ev P T (.call f args H0 (env.getD t .undef) H1) := by
  obtain ⟨s1, g1, g2, g3, g4⟩ := hev
  exact ⟨s1.H, call_of hf hb hnum he (resD_slot hres g2 ht) g1⟩

section
variable {H : Type} {enc : TypeId × Value → H} {P : Program} {w : World} {base : Nat} {spare : Nat → Bool} {held : Bool}

/-- An argument's shape. -/
def shpA (P : Program) (n : Nat) (t : TypeId) (d : D) : Prop :=
  match P.underlying t with
  | some (.struct _) | some (.array _ _) => ∃ ds, d = .agg ds ∧ shp P n t ds
  | _ => shp P n t [d]

theorem arg_read (hl : laidOutB P = true) {t : TypeId} (hv : isVar P t = true) {r : Reach} {b0 : Nat} {v : Value} {d : DataW H} {ps : List MemPlace} (ho : Value.okWide P w r b0 t v)
    (ht : DataW.Trod enc P w base spare held t v d ps) : ∃ n x, shpA P n t x ∧ RepP (fun b _ => b < w.heap.size) w x v := by
  obtain ⟨n, hn⟩ := ht
  obtain ⟨ds, h1, h2, h3⟩ := read_ok hl n t _ _ hv hn
  have fine := fine_of hl hv
  unfold rowFine at fine
  rw [hv] at fine
  simp only [Bool.not_true, Bool.false_or] at fine
  have agg : ∀ cs, v = .agg cs → ∃ x, x = D.agg ds ∧ RepP (fun b _ => b < w.heap.size) w x v := by
    rintro cs rfl
    refine ⟨_, rfl, .agg ds cs (by rw [h2.1]; simp [Value.cells]) (fun i d v a b => (h2.2 i d v a (by simpa [Value.cells] using b)).1)⟩
  have one : (∀ cs, v ≠ .agg cs) → ∃ x, ds = [x] ∧ RepP (fun b _ => b < w.heap.size) w x v := by
    intro hne
    have hc : v.cells.toList = [v] := by
      cases v <;> simp_all [Value.cells]
    rw [hc] at h2
    match ds, h2 with
    | [x], h2 => exact ⟨x, rfl, (h2.2 0 x v rfl rfl).1⟩
    | [], h2 => have := h2.1; simp at this
    | _ :: _ :: _, h2 => have := h2.1; simp at this
  unfold Value.okWide at ho
  unfold shpA
  cases hu : P.underlying t with
  | none => unfold DataW.trod at hn; cases n <;> simp [DataW.trod, hu] at hn
  | some k =>
    rw [hu] at ho
    cases k with
    | struct fs =>
      obtain ⟨cs, rfl, _⟩ := ho
      obtain ⟨x, rfl, hx⟩ := agg cs rfl
      exact ⟨n, _, ⟨ds, rfl, h1⟩, hx⟩
    | array m e =>
      obtain ⟨cs, rfl, _⟩ := ho
      obtain ⟨x, rfl, hx⟩ := agg cs rfl
      exact ⟨n, _, ⟨ds, rfl, h1⟩, hx⟩
    | _ =>
      obtain ⟨x, rfl, hx⟩ := one (fun cs hcs => by subst hcs; simp [Cell.okWide, Cell.ok, hu] at ho)
      exact ⟨n, x, h1, hx⟩

theorem shp_bool {n : Nat} {t : TypeId} {ds : List D} (hu : P.underlying t = some .bool) (h : shp P n t ds) : ∃ b, ds = [.bool b] := by
  cases n with
  | zero => exact h.elim
  | succ n => rw [shp, hu] at h; exact h
theorem shp_int {n : Nat} {t : TypeId} {ds : List D} {k : IntKind} (hu : P.underlying t = some (.int k)) (h : shp P n t ds) : ∃ m, ds = [.int k m] ∧ (Lit.int k m).wf = true := by
  cases n with
  | zero => exact h.elim
  | succ n => rw [shp, hu] at h; exact h
theorem shp_str {n : Nat} {t : TypeId} {ds : List D} (hu : P.underlying t = some .string) (h : shp P n t ds) : ∃ x, ds = [.str x] ∧ x.size ≤ maxLen := by
  cases n with
  | zero => exact h.elim
  | succ n => rw [shp, hu] at h; exact h
theorem shp_slice {n : Nat} {t e : TypeId} {ds : List D} (hu : P.underlying t = some (.slice e)) (h : shp P n t ds) :
    ∃ nn es, ds = [.slice nn es none] ∧ (nn = false → es = []) ∧ es.length ≤ maxLen ∧ ∀ c ∈ es, shp P (n - 1) e c := by
  cases n with
  | zero => exact h.elim
  | succ n =>
    rw [shp, hu] at h
    rcases h with rfl | ⟨es, rfl, h1, h2⟩
    · exact ⟨false, [], rfl, fun _ => rfl, Nat.zero_le _, fun c hc => by simp at hc⟩
    · exact ⟨true, es, rfl, fun h => by simp at h, h2, h1⟩
theorem shp_struct {n : Nat} {t : TypeId} {ds : List D} {fs : Array Field} (hu : P.underlying t = some (.struct fs)) (h : shp P n t ds) : shpFs (shp P (n - 1)) fs.toList ds := by
  cases n with
  | zero => exact h.elim
  | succ n => rw [shp, hu] at h; exact h
theorem shpA_one {n : Nat} {t : TypeId} {x : D} (h : shpA P n t x) (hu : (match P.underlying t with | some (.struct _) | some (.array _ _) => false | _ => true) = true) : shp P n t [x] := by
  unfold shpA at h
  split at h
  · rename_i e; rw [e] at hu; cases hu
  · rename_i e; rw [e] at hu; cases hu
  · exact h
theorem shpA_int {n : Nat} {t : TypeId} {x : D} {k : IntKind} (hu : P.underlying t = some (.int k)) (h : shpA P n t x) : ∃ m, x = .int k m ∧ (Lit.int k m).wf = true := by
  obtain ⟨m, h1, h2⟩ := shp_int hu (shpA_one h (by rw [hu]))
  exact ⟨m, by simpa using h1, h2⟩
theorem shpA_bool {n : Nat} {t : TypeId} {x : D} (hu : P.underlying t = some .bool) (h : shpA P n t x) : ∃ b, x = .bool b := by
  obtain ⟨m, h1⟩ := shp_bool hu (shpA_one h (by rw [hu]))
  exact ⟨m, by simpa using h1⟩
theorem shpA_str {n : Nat} {t : TypeId} {x : D} (hu : P.underlying t = some .string) (h : shpA P n t x) : ∃ m, x = .str m ∧ m.size ≤ maxLen := by
  obtain ⟨m, h1, h2⟩ := shp_str hu (shpA_one h (by rw [hu]))
  exact ⟨m, by simpa using h1, h2⟩
theorem shpA_slice {n : Nat} {t e : TypeId} {x : D} (hu : P.underlying t = some (.slice e)) (h : shpA P n t x) :
    ∃ nn es, x = .slice nn es none ∧ (nn = false → es = []) ∧ es.length ≤ maxLen ∧ ∀ c ∈ es, shp P (n - 1) e c := by
  obtain ⟨nn, es, h1, h2⟩ := shp_slice hu (shpA_one h (by rw [hu]))
  exact ⟨nn, es, by simpa using h1, h2⟩
theorem shpA_struct {n : Nat} {t : TypeId} {x : D} {fs : Array Field} (hu : P.underlying t = some (.struct fs)) (h : shpA P n t x) : ∃ ds, x = .agg ds ∧ shpFs (shp P (n - 1)) fs.toList ds := by
  unfold shpA at h
  rw [hu] at h
  obtain ⟨ds, h1, h2⟩ := h
  exact ⟨ds, h1, shp_struct hu h2⟩

theorem shpA_array {n m : Nat} {t e : TypeId} {x : D} (hu : P.underlying t = some (.array m e)) (h : shpA P n t x) : ∃ rows : List (List D), x = .agg rows.flatten ∧ rows.length = m ∧ ∀ r ∈ rows, shp P (n - 1) e r := by
  unfold shpA at h
  rw [hu] at h
  obtain ⟨ds, h1, h2⟩ := h
  cases n with
  | zero => exact h2.elim
  | succ n =>
    rw [shp, hu] at h2
    obtain ⟨rows, g1, g2, g3⟩ := h2
    exact ⟨rows, by rw [h1, g3], g1, g2⟩

theorem shpA_agg {n : Nat} {t : TypeId} {x : D} {fs : Array Field} (hu : P.underlying t = some (.struct fs)) (h : shpA P n t x) : ∃ ds, x = .agg ds ∧ shp P n t ds := by
  unfold shpA at h
  rw [hu] at h
  exact h

/-- Arguments, as they are read, for a call. -/
theorem reps_nil {I : Im} {w : World} : ∀ (i : Nat) d v, ([] : List D)[i]? = some d → (#[] : Array Value)[i]? = some v → RepP I w d v := fun i d v a _ => by simp at a
theorem reps_cons {I : Im} {w : World} {x : D} {y : Value} {xs : List D} {ys : List Value} (h : RepP I w x y) (ih : ∀ (i : Nat) d v, xs[i]? = some d → ys.toArray[i]? = some v → RepP I w d v) :
    ∀ (i : Nat) d v, (x :: xs)[i]? = some d → (y :: ys).toArray[i]? = some v → RepP I w d v := by
  intro i d v a b
  cases i with
  | zero => simp at a b; subst a; subst b; exact h
  | succ i => exact ih i d v (by simpa using a) (by simpa using b)

theorem trodAll_stays (hl : laidOutB P = true) {W W' : World} (hb : Below W.heap.size W W') {sp : Nat → Bool} : ∀ {ts : List TypeId} {vs : List Value} {ds : List (DataW H)} {ps : List MemPlace},
    (∀ t ∈ ts, P.readableRec t = true ∧ t < P.types.size) → DataW.TrodAll enc P W 0 (fun _ => true) true ts vs ds ps → (∀ x ∈ ps, x.block < W.heap.size) → (∀ x ∈ ps, sp x.block = true) →
    DataW.TrodAll enc P W' 0 sp true ts vs ds ps
  | [], [], [], ps, _, h, _, _ => h
  | t :: ts, v :: vs, d :: ds, ps, hr, h, hlt, hs => by
    obtain ⟨p, q, h1, h2, rfl⟩ := h
    refine ⟨p, q, ?_, trodAll_stays hl hb (fun t ht => hr t (List.mem_cons_of_mem _ ht)) h2 (fun x hx => hlt x (by simp [hx])) (fun x hx => hs x (by simp [hx])), rfl⟩
    exact WideElems.Trod_stays hl (hr t (by simp)).1 (hr t (by simp)).2 h1 (fun x hx => hb.same (hlt x (by simp [hx]))) (fun x hx => hs x (by simp [hx]))
  | [], _ :: _, _, _, _, h, _, _ => by simp [DataW.TrodAll] at h
  | [], [], _ :: _, _, _, h, _, _ => by simp [DataW.TrodAll] at h
  | _ :: _, [], _, _, _, h, _, _ => by simp [DataW.TrodAll] at h
  | _ :: _, _ :: _, [], _, _, h, _, _ => by simp [DataW.TrodAll] at h

/-- A law without variables that hands back true: its statement's end. -/
theorem law_post (hl : laidOutB P = true) {f : Func} {s : ChangeSpec} {apart fresh handsOn again : Bool} {W W' : World} {args : Array Value} {ds : List (DataW H)} {before : List MemPlace} {tb : TypeId}
    (hts0 : (f.params.toList.all fun t => P.readableRec t && decide (t < P.types.size)) = true) (hvs : s.vars = []) (hres : f.resultTypes = #[tb]) (hb : P.underlying tb = some .bool)
    (hf : s.fn H ds = { results := [.lit (.bool true)], args := ds }) (hW : DataW.Whole enc P f.params.toList s.vars apart W args.toList ds [] before) (hg : Below W.heap.size W W') :
    s.post enc P f apart fresh handsOn again W args (.bool true) W' := by
  have hts : ∀ t ∈ f.params.toList, P.readableRec t = true ∧ t < P.types.size := fun t ht => by simpa using List.all_eq_true.1 hts0 t ht
  have hW' := hW
  obtain ⟨p, q, hA, hV, hps, _, _⟩ := hW
  rw [hvs] at hV
  have hq : q = [] := hV
  subst hq
  have hf' : s.fn H (ds ++ []) = { results := [.lit (.bool true)], args := ds } := by rw [List.append_nil]; exact hf
  refine post_of_below (pa := before) (pv := []) hW' (fun _ _ _ => ?_) (fun sp hs => ?_) (fun sp _ => ?_) (by simp) hg ?_
  · rw [hres, hf']
    exact trodAll_cons_mk (shut_bool hb _) trodAll_mk0
  · rw [hf']
    have hlt : ∀ x ∈ p, x.block < W.heap.size := fun x hx => hW'.lt x (by rw [hps]; simp [hx])
    have := trodAll_stays (sp := sp) hl hg hts hA hlt (fun x hx => hs x (by rw [hps]; simp [hx]))
    rw [hps, List.append_nil]
    exact this
  · rw [hf', hvs]
    rfl
  · exact ok_one hres rfl (okWide_bool_mk hb _)

end
end Go.Proofs.Ytifpbdhggooelaa.GD
