/- The code of a function on data: what it comes to is what the machine comes to. The theorem. -/
import Derived.Test.YtifpbdhggooelaaGd16
import Derived.LoopN
namespace Go.Proofs.Ytifpbdhggooelaa.GD
open Go
set_option linter.unusedVariables false
set_option linter.unusedSimpArgs false

variable {P : Program} {T : Tys}

/-- A loop from its round's head, other code by its own word. -/
def LoopWp (P : Program) (c : Code) (Q : Exit → Act → World → Prop) (a : Act) (w : World) : Prop :=
  ∀ (b : Frame) (k : List Item) (cs : List Frame), ∃ e a' w', Q e a' w' ∧ Arrives P (lone (b.at a (.code c :: .inLoop c :: k)) cs w) b k cs e a' w'

def CodeWp (P : Program) (c : Code) (Q : Exit → Act → World → Prop) (a : Act) (w : World) : Prop :=
  match c with
  | .loop b => LoopWp P b Q a w
  | c => c.wp P Q a w

theorem CodeWp.wp {c : Code} {Q : Exit → Act → World → Prop} {a : Act} {w : World} (h : CodeWp P c Q a w) : c.wp P Q a w := by
  cases c with
  | loop c =>
    intro b k cs
    obtain ⟨e, a', w', hq, harr⟩ := h b k cs
    exact ⟨e, a', w', hq, .of_steps (.one step_loop) harr⟩
  | _ => exact h

theorem CodeWp.mono {c : Code} {Q Q' : Exit → Act → World → Prop} {a : Act} {w : World} (hq : ∀ e a w, Q e a w → Q' e a w) (h : CodeWp P c Q a w) : CodeWp P c Q' a w := by
  cases c with
  | loop c =>
    intro b k cs
    obtain ⟨e, a', w', h1, harr⟩ := h b k cs
    exact ⟨e, a', w', hq _ _ _ h1, harr⟩
  | _ => exact Code.wp_mono hq h

theorem loopWp_next {c : Code} {Q : Exit → Act → World → Prop} {a : Act} {w : World} (h : c.wp P (Exit.then (LoopWp P c Q) Q) a w) : LoopWp P c Q a w := by
  intro b k cs
  obtain ⟨e, a₁, w₁, hq, harr⟩ := h b (.inLoop c :: k) cs
  cases e with
  | normal =>
    obtain ⟨e₂, a₂, w₂, hq₂, harr₂⟩ := hq b k cs
    exact ⟨e₂, a₂, w₂, hq₂, .of_steps (Steps.trans harr (.one step_inLoop)) harr₂⟩
  | exit id => exact ⟨_, a₁, w₁, hq, .pass (x := .inLoop c) rfl (fun _ _ => .inl (by simp)) harr⟩
  | goto l => exact ⟨_, a₁, w₁, hq, .pass (x := .inLoop c) rfl (fun _ _ => .inl (by simp)) harr⟩
  | ret => exact ⟨_, a₁, w₁, hq, .pass (x := .inLoop c) rfl (fun _ _ => .inl (by simp)) harr⟩
  | panic ch => exact ⟨_, a₁, w₁, hq, .pass (x := .inLoop c) rfl (fun _ _ => .inl (by simp)) harr⟩
  | outgrown => exact ⟨_, a₁, w₁, hq, .pass (x := .inLoop c) rfl (fun _ _ => .inl (by simp)) harr⟩

/-- The state that code leaves. -/
def After (n : Nat) (I : Im) (w : World) (μ : List Loc) (H : Heap) (e : Ex) (s' : St) : Exit → Act → World → Prop :=
  fun x a' w' => x = e.to ∧ ∃ I' μ', Ext n I w μ H I' w' μ' s'.H ∧ WOk I' w' μ' s'.H ∧ EnvOk I' w' μ' s'.env a' ∧ n ≤ s'.H.length

/-- What a judgement says of the machine. -/
def Sound (P : Program) : Jd → Prop
  | .code n c s e s' => ∀ (I : Im) (w : World) (μ : List Loc) (a : Act), WOk I w μ s.H → EnvOk I w μ s.env a → n ≤ s.H.length →
      CodeWp P c (After n I w μ s.H e s') a w
  | .ops n all l s s' => ∀ (I : Im) (w : World) (μ : List Loc) (a : Act), WOk I w μ s.H → EnvOk I w μ s.env a → n ≤ s.H.length →
      ∀ Q : Exit → Act → World → Prop, (∀ a' w', After n I w μ s.H .normal s' .normal a' w' → Q .normal a' w') → wpList P all Q l a w
  | .call f args H r H' => ∀ (I : Im) (w : World) (μ : List Loc) (vs : Array Value), WOk I w μ H → args.length = vs.size →
      (∀ (i : Nat) d v, args[i]? = some d → vs[i]? = some v → Rep I w μ d v) →
      Calls P f vs w fun e w' => ∃ v I' μ', e = .returned v ∧ Ext H.length I w μ H I' w' μ' H' ∧ WOk I' w' μ' H' ∧ Rep I' w' μ' r v ∧ H.length ≤ H'.length
  | .lab all o f K s0 L => ∀ (s : St), s.H.length = s0.H.length → (∀ t ∈ looksOf all o, s.env[t]? = s0.env[t]?) → (∀ x ∈ L.rd, s.H[x]? = s0.H[x]?) →
      ∀ (I : Im) (w : World) (μ : List Loc) (a : Act), WOk I w μ s.H → EnvOk I w μ s.env a → 0 < K → f + K ≤ s.H.length → (∀ x, f ≤ x → x < f + K → hget s.H x = none) →
      (Region.wanted o (yielded all a.tmps) = false ∧ L.val = .non ∧ L.wr = []) ∨
      (Region.wanted o (yielded all a.tmps) = true ∧ ∀ (next : Act → World → Prop) (Q : Exit → Act → World → Prop),
        (∀ v I' w' μ', Ext s.H.length I w μ s.H I' w' μ' (setAll s.H L.wr) → WOk I' w' μ' (setAll s.H L.wr) → Rep I' w' μ' L.val v → next (a.put o.dst v) w') → o.wp P a w next Q)

theorem applyWr_len : ∀ (wr : List (Nat × Option HObj)) (H : Heap), H.length ≤ (applyWr H wr).length
  | [], H => Nat.le_refl _
  | (o, x) :: r, H => Nat.le_trans (length_hset (o := o) (x := x)) (applyWr_len r _)

theorem After.trans {n : Nat} {I I1 : Im} {w w1 : World} {μ μ1 : List Loc} {H H1 : Heap} {e : Ex} {s' : St} {x : Exit} {a : Act} {w' : World}
    (h : Ext n I w μ H I1 w1 μ1 H1) (k : After n I1 w1 μ1 H1 e s' x a w') : After n I w μ H e s' x a w' := by
  obtain ⟨hx, I2, μ2, h1, h2, h3, h4⟩ := k
  exact ⟨hx, I2, μ2, h.trans h1 (Nat.le_refl _), h2, h3, h4⟩

theorem Ex.to_ne {e : Ex} (h : e ≠ .normal) : e.to ≠ .normal := by cases e <;> simp_all [Ex.to]

/-- One operation in a region. -/
theorem wpList_one {all : Array Oper} {o : Oper} {l : List Oper} {Q : Exit → Act → World → Prop} {a : Act} {w : World} (hg : Region.wanted o (yielded all a.tmps) = true)
    (h : o.wp P a w (wpList P all Q l) Q) : wpList P all Q (o :: l) a w := by
  unfold wpList; rw [if_pos hg]; exact .inl h

theorem wpList_skip {all : Array Oper} {o : Oper} {l : List Oper} {Q : Exit → Act → World → Prop} {a : Act} {w : World} (hg : Region.wanted o (yielded all a.tmps) = false)
    (h : wpList P all Q l (a.put o.dst Go.undef) w) : wpList P all Q (o :: l) a w := by
  unfold wpList; rw [if_neg (by rw [hg]; decide)]; exact h

/-! ### results -/
def resSem (a : Act) (x : ResultVar) : Sem Value :=
  match x with
  | .tmp t => pure (a.tmps.getD t Go.undef)
  | .cell b t => do loadVar t (← asAddr (a.tmps.getD b Go.undef))

theorem resOne_ok {I : Im} {w : World} {μ : List Loc} {H : Heap} {env : List D} {a : Act} (hT : TOk P T) (hw : WOk I w μ H) (he : EnvOk I w μ env a) {x : ResultVar} {d : D} (hx : resOne T env H x = some d) :
    ∃ v, (resSem a x).run P w = .ok v w ∧ Rep I w μ d v := by
  cases x with
  | tmp t =>
    simp only [resOne, Option.some.injEq] at hx
    subst hx
    exact ⟨_, rfl, he.opd hw (.tmp t)⟩
  | cell b t =>
    simp only [resOne] at hx
    split at hx
    · rename_i r0 hr0
      obtain rfl := Option.some.inj hx
      have hcs := load_sym hr0
      obtain ⟨ad, u, hv, hu, hR, _⟩ := load_spec (P := P) hT hw (he.opd hw (.tmp b)) hr0 (by rw [hcs]; intro c hc; cases hc)
      refine ⟨u, ?_, hR⟩
      have hv' : a.tmps.getD b Go.undef = .pointer (some ad) := hv
      simp only [resSem, hv', asAddr, Sem.run_bind, Sem.run_pure, Result.andThen_ok, hu]
    · cases hx

theorem resAll_ok {I : Im} {w : World} {μ : List Loc} {H : Heap} {env : List D} {a : Act} (hT : TOk P T) (hw : WOk I w μ H) (he : EnvOk I w μ env a) : ∀ {l : List ResultVar} {ds : List D}, resAll T env H l = some ds →
    ∃ vs : List Value, (l.mapM (resSem a)).run P w = .ok vs w ∧ ds.length = vs.length ∧ ∀ (i : Nat) d v, ds[i]? = some d → vs[i]? = some v → Rep I w μ d v
  | [], ds, h => by
    simp only [resAll, Option.some.injEq] at h
    subst h
    exact ⟨[], rfl, rfl, fun i d v h => by simp at h⟩
  | x :: l, ds, h => by
    simp only [resAll] at h
    split at h
    · rename_i d l' hd hl
      obtain rfl := Option.some.inj h
      obtain ⟨v, h1, h2⟩ := resOne_ok hT hw he hd
      obtain ⟨vs, k1, k2, k3⟩ := resAll_ok hT hw he hl
      refine ⟨v :: vs, ?_, by simp [k2], fun i e u a b => ?_⟩
      · simp [List.mapM_cons, h1, k1]
      · cases i with
        | zero => simp at a b; subst a; subst b; exact h2
        | succ i => exact k3 i e u (by simpa using a) (by simpa using b)
    · cases h

theorem res_ok {I : Im} {w : World} {μ : List Loc} {H : Heap} {env : List D} {a : Act} {fn : Func} {r : D} (hT : TOk P T) (hw : WOk I w μ H) (he : EnvOk I w μ env a) (hr : resD T fn env H = some r) :
    ∃ v, (results fn a.tmps).run P w = .ok v w ∧ Rep I w μ r v := by
  have hres : results fn a.tmps = (do
      let vs ← fn.results.mapM (resSem a)
      pure (if h : vs.size = 1 then vs[0] else .tuple vs)) := by
    unfold results
    congr 1
  have hall : ∃ ds, resAll T env H fn.results.toList = some ds := by
    unfold resD at hr
    split at hr
    · rename_i d h; exact ⟨_, h⟩
    · rename_i l _ h; exact ⟨_, h⟩
    · cases hr
  obtain ⟨ds, hds⟩ := hall
  obtain ⟨vs, h1, h2, h3⟩ := resAll_ok hT hw he hds
  have hm : (fn.results.mapM (resSem a)).run P w = .ok vs.toArray w := by
    rw [← Array.toArray_toList (xs := fn.results), List.mapM_toArray]
    simp [h1]
  rw [hres]
  simp only [Sem.run_bind, hm, Result.andThen_ok, Sem.run_pure]
  unfold resD at hr
  rw [hds] at hr
  split at hr
  · rename_i d hd
    simp only [Option.some.injEq] at hd hr
    subst hd; subst hr
    match vs, h2, h3 with
    | [v], _, h3 => exact ⟨v, rfl, h3 0 _ v rfl rfl⟩
  · rename_i l hne hl
    simp only [Option.some.injEq] at hl hr
    subst hl; subst hr
    have hsz : ¬ vs.toArray.size = 1 := by
      intro h
      simp at h
      match ds, h2, hne with
      | [d], _, hne => exact hne d rfl
      | [], h2, _ => simp at h2; omega
      | a :: b :: c, h2, _ => simp at h2; omega
    rw [dif_neg hsz]
    exact ⟨_, rfl, .tuple ds vs.toArray (by simpa using h2) (fun i d v a b => h3 i d v a (by simpa using b))⟩
  · cases hr

end Go.Proofs.Ytifpbdhggooelaa.GD
