/- From what the code comes to, to the statement. -/
import Derived.Test.YtifpbdhggooelaaGd27
import Derived.ChangeSame
import Derived.KernelRfl
namespace Go.Proofs.Ytifpbdhggooelaa.GD
open Go Go.ChangeShapes Go.WideShapes Go.RowKit
set_option linter.unusedVariables false
set_option linter.unusedSimpArgs false

section
variable {H : Type} {enc : TypeId × Value → H} {P : Program}

/-- As the kit's lemma for a world that has grown by blocks that are nobody's; here the new blocks may be of any kind. -/
theorem post_of_below {f : Func} {s : ChangeSpec} {apart fresh handsOn again : Bool} {W W' : World} {args : Array Value} {v : Value} {ds gs : List (DataW H)} {before pa pv : List MemPlace}
    (hW : DataW.Whole enc P f.params.toList s.vars apart W args.toList ds gs before)
    (hres : ∀ (b : Nat) (sp : Nat → Bool) (hd : Bool), DataW.TrodAll enc P W' b sp hd f.resultTypes.toList (v.resultList f.resultTypes.size) (s.fn H (ds ++ gs)).results [])
    (hargs : ∀ sp : Nat → Bool, (∀ p ∈ before, sp p.block = true) → DataW.TrodAll enc P W' 0 sp true f.params.toList args.toList (s.fn H (ds ++ gs)).args pa)
    (hvars : ∀ sp : Nat → Bool, (∀ p ∈ before, sp p.block = true) → DataW.TrodVars enc P W' sp s.vars (s.fn H (ds ++ gs)).vars pv)
    (hps : before = pa ++ pv) (hb : Below W.heap.size W W')
    (hok : ∀ (j : Nat) (t : TypeId) (r : Value), f.resultTypes[j]? = some t → (v.resultList f.resultTypes.size)[j]? = some r → Value.okWide P W' .any 0 t r) :
    s.post enc P f apart fresh handsOn again W args v W' := by
  have hold : ∀ p ∈ before, (fun b => decide (b < W.heap.size)) p.block = true := fun p hp => by simpa using hW.lt p hp
  have hlt : ∀ p ∈ before, p.block < W.heap.size := fun p hp => hW.lt p hp
  refine ⟨ds, gs, before, [], pa, pv, hW, hres _ _ _, hargs _ hold, hvars _ hold, World.keptBut_mono (fun p hp => ⟨hp, ?_⟩) (hb.frame (· ∈ before)), fun _ => ?_⟩
  · rw [hps, List.mem_append] at hp
    exact Or.inr hp
  · obtain ⟨_, _, _, _, _, hz, hn⟩ := hW
    refine ⟨hok, _, _, ([] ++ pa) ++ pv, ⟨[] ++ pa, pv, trodAll_append (hargs _ (fun _ _ => rfl)) (hres _ _ _), hvars _ (fun _ _ => rfl), rfl, ?_, ?_⟩, ?_⟩
    · intro b off hp
      have hm : MemPlace.cell b off ∈ before := by rw [hps]; simpa using hp
      rw [hb.frozen (p := ⟨b, off, none⟩) (hlt _ hm)]
      exact hz b off hm
    · intro ha
      have := hn ha
      rw [hps] at this
      simpa using this
    · intro p hp _
      rw [hps]
      simpa using hp

end

/-- A law: it hands back true, and nothing that was there has turned. -/
theorem law_calls {P : Program} {T : Tys} {f : FuncId} {args : List D} {H1 : Heap} (hT : TOk P T) (h : Ev P T (.call f args [] (.bool true) H1)) {I : Im} {w : World} {vs : Array Value}
    (hI : ∀ b k, I b k → b < w.heap.size) (hl : args.length = vs.size) (hr : ∀ (i : Nat) d v, args[i]? = some d → vs[i]? = some v → RepP I w d v)
    (hgl : ∀ g, RepP I w (glT g) (.pointer (some ⟨g, 0, none⟩)) := by exact fun _ => .undef _) :
    Calls P f vs w fun e w' => e = .returned (.bool true) ∧ Below w.heap.size w w' := by
  have hw : WOk I w [] [] := ⟨rfl, fun o x h => by simp [hget] at h, fun o o' x x' m m' _ h => by simp [hget] at h, hI, fun o m _ hm => by simp at hm, hgl⟩
  refine (sound hT h I w [] vs hw hl (fun i d v a b => .pure (hr i d v a b))).mono fun e w' hh => ?_
  obtain ⟨v, I', μ', rfl, hx, _, hR, _⟩ := hh
  exact ⟨by rw [rep_bool hR], Below.of_ext hx (fun b => own_nil)⟩

/-- What the reckoning of a closed law tells. -/
def tells : Option CR → Option (Heap × List Prop)
  | some ⟨.bool true, H, _, cs⟩ => some (H, cs)
  | _ => none

def tellsTrue (x : Option CR) : Bool :=
  match tells x with
  | some (_, []) => true
  | _ => false

theorem tellsTrue_ok {x : Option CR} (h : tellsTrue x = true) : ∃ R, x = some R ∧ R.r = .bool true ∧ R.cs = [] := by
  unfold tellsTrue at h
  split at h
  · rename_i H hx
    unfold tells at hx
    split at hx
    · simp only [Option.some.injEq, Prod.mk.injEq] at hx
      exact ⟨_, rfl, rfl, hx.2⟩
    · cases hx
  · cases h

/-- A law without arguments, reckoned. -/
theorem closed_law {C : Cf} (hC : CfOk C) {P : Program} (hP : C.P = P) {m d : Nat} {f : FuncId} (h : tellsTrue (callE C m d f [] [] .auto) = true) (w : World)
    (hgl : ∀ g, RepP (fun _ _ => False) w (glT g) (.pointer (some ⟨g, 0, none⟩)) := by exact fun _ => .undef _) :
    Calls P f #[] w fun e w' => e = .returned (.bool true) ∧ Below w.heap.size w w' := by
  subst hP
  obtain ⟨R, h1, h2, h3⟩ := tellsTrue_ok h
  obtain ⟨X, hev⟩ := callE_ok hC _ _ _ _ _ h1 (fun c hc => by rw [h3] at hc; simp at hc)
  rw [h2] at hev
  exact law_calls (I := fun _ _ => False) hC.hT hev (fun _ _ h => h.elim) rfl (fun i d v a b => by simp at a) hgl

/-- What is kept of a state at the end of a road. -/
def cutF (keep : List Nat) (h : Nat) : Option RR → Option (Ex × List D × Heap × List Prop)
  | some (.fin e s _ cs) => if s.keepOk keep h && decide (h ≤ s.H.length) then some (e, (s.keep keep h).env, (s.keep keep h).H, cs) else none
  | _ => none

def stC : Option RR → Code
  | some (.stop c _ _ _ _) => c
  | _ => .skip
def stK : Option RR → List It
  | some (.stop _ k _ _ _) => k
  | _ => []
/-- A road that comes to a loop: what is kept there. -/
def cutS (keep : List Nat) (h : Nat) : Option RR → Option (Code × List It × List D × Heap × List Prop)
  | some (.stop c k s _ cs) => if s.keepOk keep h && decide (h ≤ s.H.length) then some (c, k, (s.keep keep h).env, (s.keep keep h).H, cs) else none
  | _ => none

theorem cutF_ok {C : Cf} (hC : CfOk C) {m d fn n h : Nat} {keep : List Nat} {cur : Cur} {k : List It} {s : St} {or : Or} {e : Ex} {env : List D} {H : Heap} {cs : List Prop}
    (hr : cutF keep h (runE C (callE C m d) fn m cur k s or []) = some (e, env, H, cs)) (hc : ∀ c ∈ cs, c) :
    ∃ s', EvK C.P C.T n cur k s e s' ∧ s'.keep keep h = ⟨env, H⟩ ∧ s'.keepOk keep h = true ∧ h ≤ s'.H.length := by
  unfold cutF at hr
  split at hr
  · rename_i e0 s' or' cs' hrun
    split at hr
    · rename_i hb
      simp only [Bool.and_eq_true, decide_eq_true_eq] at hb
      simp only [Option.some.injEq, Prod.mk.injEq] at hr
      obtain ⟨rfl, rfl, rfl, rfl⟩ := hr
      exact ⟨s', (runE_ok hC (callE_ok hC) hrun hc).2 _ _ ⟨rfl, rfl⟩, rfl, hb.1, hb.2⟩
    · cases hr
  · cases hr

/-- A road up to a loop, and what the loop and the rest come to. -/
theorem cutS_ok {C : Cf} (hC : CfOk C) {m d fn n h : Nat} {keep : List Nat} {cur : Cur} {k k' : List It} {s : St} {or : Or} {c : Code} {env : List D} {H : Heap} {cs : List Prop}
    (hr : cutS keep h (runE C (callE C m d) fn m cur k s or []) = some (c, k', env, H, cs)) (hc : ∀ c ∈ cs, c) (hn : n ≤ h) {e1 : Ex} {s2 : St}
    (hl : Ev C.P C.T (.code n (.loop c) ⟨env, H⟩ e1 s2)) {e : Ex} {s' : St} (hk : EvD C.P C.T n e1 k' s2 e s') : EvK C.P C.T n cur k s e s' := by
  unfold cutS at hr
  split at hr
  · rename_i c0 k0 s0 or' cs' hrun
    split at hr
    · rename_i hb
      simp only [Bool.and_eq_true, decide_eq_true_eq] at hb
      simp only [Option.some.injEq, Prod.mk.injEq] at hr
      obtain ⟨rfl, rfl, rfl, rfl, rfl⟩ := hr
      refine (runE_ok hC (callE_ok hC) hrun hc).2 _ _ ⟨e1, s2, ?_, hk⟩
      exact .keep _ _ _ _ _ keep h hn hb.2 hb.1 hl
    · cases hr
  · cases hr

/-- A loop whose round comes to its head again. -/
theorem loop_next {P : Program} {T : Tys} {n h : Nat} {keep : List Nat} {c : Code} {s s1 s2 : St} {env : List D} {H : Heap} {e : Ex} (hb : EvK P T n (.code c) [] s .normal s1)
    (h1 : s1.keep keep h = ⟨env, H⟩) (h2 : s1.keepOk keep h = true) (h3 : h ≤ s1.H.length) (hn : n ≤ h) (hl : Ev P T (.code n (.loop c) ⟨env, H⟩ e s2)) : Ev P T (.code n (.loop c) s e s2) := by
  obtain ⟨e1, s1', g1, rfl, rfl⟩ := hb
  exact .loopN _ _ _ _ _ _ g1 (.keep _ _ _ _ _ keep h hn h3 h2 (by rw [h1]; exact hl))

theorem loop_out {P : Program} {T : Tys} {n : Nat} {c : Code} {s s1 : St} {e : Ex} (he : e ≠ .normal) (hb : EvK P T n (.code c) [] s e s1) : Ev P T (.code n (.loop c) s e s1) := by
  obtain ⟨e1, s1', g1, rfl, rfl⟩ := hb
  exact .loopX _ _ _ _ _ he g1

/-- What is told of a call: what it hands back, the first objects, on what terms. -/
def outC (n : Nat) (x : Option CR) : Option (D × Heap × List Prop) :=
  match x with
  | some R => some (R.r, R.H.take n, R.cs)
  | none => none

def csC : Option CR → Option (List Prop)
  | some R => some R.cs
  | none => none
def csR : Option RR → Option (List Prop)
  | some (.fin _ _ _ cs) => some cs
  | some (.stop _ _ _ _ cs) => some cs
  | none => none

def orR : Option RR → Option Or
  | some (.fin _ _ or _) => some or
  | some (.stop _ _ _ or _) => some or
  | none => none
def orC : Option CR → Option Or
  | some R => some R.or
  | none => none

theorem outC_ok {C : Cf} (hC : CfOk C) {m d f n : Nat} {args : List D} {H : Heap} {or : Or} {r : D} {H1 : Heap} {cs : List Prop} (h : outC n (callE C m d f args H or) = some (r, H1, cs)) (hc : ∀ c ∈ cs, c) :
    ∃ X, Ev C.P C.T (.call f args H r (H1 ++ X)) := by
  unfold outC at h
  split at h
  · rename_i R hR
    simp only [Option.some.injEq, Prod.mk.injEq] at h
    obtain ⟨rfl, rfl, rfl⟩ := h
    obtain ⟨X, hX⟩ := callE_ok hC _ _ _ _ _ hR hc
    exact ⟨R.H.drop n ++ X, by rw [← List.append_assoc, List.take_append_drop]; exact hX⟩
  · cases h

theorem wrap_i64 {n : Int} (h : -9223372036854775808 ≤ n ∧ n ≤ 9223372036854775807) : IntKind.i64.wrap n = n := by
  have hs : IntKind.i64.signed = true := rfl
  have hb : (2 ^ IntKind.i64.bits : Int) = 18446744073709551616 := by decide
  have hb' : (2 ^ (IntKind.i64.bits - 1) : Int) = 9223372036854775808 := by decide
  unfold IntKind.wrap
  simp only [hs, hb, hb', Bool.true_and, decide_eq_true_eq]
  split <;> omega

/-- A function whose road is known. -/
theorem call_of {P : Program} {T : Tys} {f : FuncId} {fn : Func} {code : Code} {args : List D} {H : Heap} {e : Ex} {s : St} {r : D} (hf : P.funcs[f]? = some fn) (hb : fn.body = some code)
    (hnum : (fn.name == "runtime.NumGoroutine") = false) (he : e = .normal ∨ e = .ret) (hr : resD T fn s.env s.H = some r) (hev : EvK P T H.length (.code code) [] (beginE fn args H) e s) :
    Ev P T (.call f args H r s.H) := by
  obtain ⟨e1, s1, g1, rfl, rfl⟩ := hev
  exact .call f args H fn code e1 s1 r hf hb hnum he hr g1

/-- A law's result lies in one slot. -/
theorem resD_slot {T : Tys} {fn : Func} {t : Nat} {keep : List Nat} {h : Nat} {s : St} {env : List D} {H : Heap} (hres : fn.results = #[.tmp t]) (hk : s.keep keep h = ⟨env, H⟩) (ht : keep.contains t = true) :
    resD T fn s.env s.H = some (env.getD t .undef) := by
  have he : env = maskEnv keep s.env := by
    have := congrArg St.env hk
    exact this.symm
  have : env.getD t .undef = s.env.getD t .undef := by
    rw [he, List.getD_eq_getElem?_getD, List.getD_eq_getElem?_getD, maskEnv, List.getElem?_mapIdx]
    cases hx : s.env[t]? with
    | none => rfl
    | some d => simp [ht]; intro h; exact absurd (by simpa using ht) h
  rw [this]
  unfold resD
  rw [hres]
  rfl

theorem all_cons {p : Prop} {l : List Prop} : (∀ c ∈ p :: l, c) ↔ p ∧ ∀ c ∈ l, c :=
  ⟨fun h => ⟨h p (by simp), fun c hc => h c (List.mem_cons_of_mem _ hc)⟩, fun h c hc => by
    rcases List.mem_cons.1 hc with rfl | hc
    · exact h.1
    · exact h.2 c hc⟩
theorem all_nil : (∀ c ∈ ([] : List Prop), c) ↔ True := ⟨fun _ => trivial, fun _ c hc => by simp at hc⟩

end Go.Proofs.Ytifpbdhggooelaa.GD
