/- Points of a function (its loops), and what is behind them: what the function hands back. -/
import Derived.Test.YtifpbdhggooelaaGd30
namespace Go.Proofs.Ytifpbdhggooelaa.GD
open Go
set_option linter.unusedVariables false
set_option linter.unusedSimpArgs false

/-- A call comes to this. -/
def Ret (P : Program) (T : Tys) (f : FuncId) (args : List D) (H : Heap) (r : D) (H1 : Heap) : Prop := ∃ X, Ev P T (.call f args H r (H1 ++ X))

theorem Ret.pur {P : Program} {T : Tys} {f : FuncId} {args : List D} {H : Heap} {r r' : D} {H1 : Heap} (g : Ret P T f args H r H1) (h : pur r = some r') : Ret P T f args H r' H1 := by
  obtain ⟨X, g⟩ := g
  exact ⟨X, .callPur _ _ _ _ _ _ h g⟩
theorem Ret.less {P : Program} {T : Tys} {f : FuncId} {args : List D} {H : Heap} {r : D} {H1 : Heap} (k : Nat) (g : Ret P T f args H r H1) : Ret P T f args H r (H1.take k) := by
  obtain ⟨X, g⟩ := g
  exact ⟨H1.drop k ++ X, by rw [← List.append_assoc, List.take_append_drop]; exact g⟩
/-- The result is as good without what can be extended. -/
theorem Ret.pure {P : Program} {T : Tys} {f : FuncId} {args : List D} {r r' : D} {H1 : Heap} (g : Ret P T f args [] r H1) (h : GD.pur r = some r') : Ret P T f args [] r' [] := by
  have := (g.pur h).less 0
  simpa using this
theorem froz_ext {H X : Heap} {r r' : D} (h : Froz H r r') : Froz (H ++ X) r r' := by
  induction h with
  | pure d d' h => exact .pure d d' h
  | view o st len sz es es' ho hle hp he =>
    refine .view o st len sz es es' ?_ hle hp he
    unfold hget at ho ⊢
    rw [List.getD_eq_getElem?_getD] at ho ⊢
    by_cases hl : o < H.length
    · rw [List.getElem?_append_left hl]; exact ho
    · rw [List.getElem?_eq_none (by omega)] at ho; simp at ho
  | agg ds es hl _ ih => exact .agg ds es hl ih
  | tuple ds es hl _ ih => exact .tuple ds es hl ih
/-- Views are handed back as what lies in them; objects that were not needed may be there. -/
theorem Ret.skip {P : Program} {T : Tys} {f : FuncId} {args args' : List D} {H : Heap} {r : D} {H1 : Heap} {F : Nat → Bool} {r' : D} {cs : List Prop} (g : Ret P T f args' [] r H1) (ha : purs args = some args') (h : frozE F H1 r = some (r', cs)) (hc : ∀ c ∈ cs, c) : Ret P T f args H r' H := by
  obtain ⟨X, g⟩ := g
  have := Ev.callSkip _ _ _ H _ _ _ ha (froz_ext (X := X) (frozE_ok h hc)) g
  exact ⟨[], by rw [List.append_nil]; exact this⟩
theorem Ret.froz {P : Program} {T : Tys} {f : FuncId} {args : List D} {r : D} {H1 : Heap} {F : Nat → Bool} {r' : D} {cs : List Prop} (g : Ret P T f args [] r H1) (ha : purs args = some args) (h : frozE F H1 r = some (r', cs)) (hc : ∀ c ∈ cs, c) : Ret P T f args [] r' [] := g.skip ha h hc

theorem cutH_app {h : Nat} {H X : Heap} (hl : h ≤ H.length) : cutH h (H ++ X) = cutH h H ++ X := by
  unfold cutH
  rw [List.drop_append_of_le_length hl, List.append_assoc]
/-- Views of what a call made are handed back as what lies in them; what it was handed stays. -/
theorem Ret.cut {P : Program} {T : Tys} {f : FuncId} {args : List D} {H : Heap} {r : D} {H1 : Heap} {F : Nat → Bool} {r' : D} {cs : List Prop} (g : Ret P T f args H r H1) (hl : H.length ≤ H1.length) (hk : (H1.take H.length).all (objRefs (below H.length)) = true)
    (h : frozE F (cutH H.length H1) r = some (r', cs)) (hc : ∀ c ∈ cs, c) : Ret P T f args H r' (H1.take H.length) := by
  obtain ⟨X, g⟩ := g
  have e : (H1 ++ X).take H.length = H1.take H.length := List.take_append_of_le_length hl
  have := Ev.callCut _ _ _ _ r' _ (by rw [List.length_append]; omega) (by rw [e]; exact hk) (by rw [cutH_app hl]; exact froz_ext (frozE_ok h hc)) g
  rw [e] at this
  exact ⟨[], by rw [List.append_nil]; exact this⟩

/-- From here the function comes to this. -/
structure Fin (P : Program) (T : Tys) (fn : Func) (n : Nat) (cur : Cur) (k : List It) (s : St) (r : D) (H1 : Heap) : Prop where
  ex : ∃ e s' X, EvK P T n cur k s e s' ∧ (e = .normal ∨ e = .ret) ∧ resD T fn s'.env s'.H = some r ∧ s'.H = H1 ++ X

/-- What is told at a function's end. -/
def outF (T : Tys) (fn : Func) (h : Nat) : Option RR → Option (D × Heap × List Prop)
  | some (.fin (.exit _) _ _ _) => none
  | some (.fin _ s _ cs) => match resD T fn s.env s.H with | some r => some (r, s.H.take h, cs) | none => none
  | _ => none

theorem fin_ret {C : Cf} (hC : CfOk C) {m d f n h : Nat} {fn : Func} {cur : Cur} {k : List It} {s : St} {or : Or} {r : D} {H1 : Heap} {cs : List Prop}
    (hr : outF C.T fn h (runE C (callE C m d) f m cur k s or []) = some (r, H1, cs)) (hc : ∀ c ∈ cs, c) : Fin C.P C.T fn n cur k s r H1 := by
  have main : ∀ {e : Ex} {s' : St} {or' : Or} {cs' : List Prop}, runE C (callE C m d) f m cur k s or [] = some (.fin e s' or' cs') → (e = .normal ∨ e = .ret) →
      (match resD C.T fn s'.env s'.H with | some r => some (r, s'.H.take h, cs') | none => none) = some (r, H1, cs) → Fin C.P C.T fn n cur k s r H1 := by
    intro e s' or' cs' hrun he hx
    split at hx
    · rename_i r0 hres
      simp only [Option.some.injEq, Prod.mk.injEq] at hx
      obtain ⟨rfl, rfl, rfl⟩ := hx
      exact ⟨⟨e, s', s'.H.drop h, (runE_ok hC (callE_ok hC) hrun hc).2 _ _ ⟨rfl, rfl⟩, he, hres, (List.take_append_drop h s'.H).symm⟩⟩
    · cases hx
  unfold outF at hr
  split at hr
  · cases hr
  · rename_i e s' or' cs' hne hrun
    refine main hrun ?_ hr
    cases e with
    | normal => exact .inl rfl
    | ret => exact .inr rfl
    | exit id => exact absurd rfl (hne id)
  · cases hr

/-- What is kept at a loop, where rows of some sizes are said to name no objects. -/
def objRefsX (F : Nat → Bool) (p : Nat → Bool) (n : Nat) (o : Option HObj) : Bool := bif flatObj F n o then true else objRefs p o
def allX (F : Nat → Bool) (p : Nat → Bool) : Nat → Heap → Bool
  | _, [] => true
  | i, x :: r => objRefsX F p i x && allX F p (i + 1) r
def cutX (F : Nat → Bool) (keep : List Nat) (h : Nat) : Option RR → Option (Code × List It × List D × Heap × List Prop)
  | some (.stop c k s _ cs) =>
    if refsAll (below h) (maskEnv keep s.env) && allX F (below h) 0 (s.H.take h) && decide (h ≤ s.H.length) then some (c, k, (s.keep keep h).env, (s.keep keep h).H, flatCs F id 0 (s.H.take h) ++ cs) else none
  | _ => none

theorem flat_refs {p : Nat → Bool} : (∀ {d : D}, pur d = some d → refsOk p d = true) ∧ (∀ {l : List D}, purs l = some l → refsAll p l = true) := by
  have key : ∀ n : Nat, (∀ {d : D}, SizeOf.sizeOf d < n → pur d = some d → refsOk p d = true) ∧ (∀ {l : List D}, SizeOf.sizeOf l < n → purs l = some l → refsAll p l = true) := by
    intro n
    induction n with
    | zero => exact ⟨fun h => by omega, fun h => by omega⟩
    | succ n ih =>
      obtain ⟨ih1, ih2⟩ := ih
      constructor
      · intro d hn h
        cases d with
        | slice nn es t => cases t with
          | none => simp [refsOk]
          | some t => simp [pur] at h
        | ptr _ _ _ => simp [pur] at h
        | view _ _ _ => simp [pur] at h
        | mapp _ => simp [pur] at h
        | iter _ => simp [pur] at h
        | agg cs =>
          simp only [pur] at h
          split at h
          · rename_i l hl
            simp only [Option.some.injEq, D.agg.injEq] at h
            rw [h] at hl
            have := ih2 (l := cs) (by simp at hn; omega) hl
            simpa [refsOk] using this
          · cases h
        | tuple cs =>
          simp only [pur] at h
          split at h
          · rename_i l hl
            simp only [Option.some.injEq, D.tuple.injEq] at h
            rw [h] at hl
            have := ih2 (l := cs) (by simp at hn; omega) hl
            simpa [refsOk] using this
          · cases h
        | func fn a b =>
          simp only [pur] at h
          split at h
          · rename_i x y hx hy
            simp only [Option.some.injEq, D.func.injEq] at h
            rw [h.2.1] at hx
            rw [h.2.2] at hy
            have h1 := ih2 (l := a) (by simp at hn; omega) hx
            have h2 := ih2 (l := b) (by simp at hn; omega) hy
            simp [refsOk, h1, h2]
          · cases h
        | iface t v =>
          simp only [pur] at h
          split at h
          · rename_i x hx
            simp only [Option.some.injEq, D.iface.injEq] at h
            rw [h.2] at hx
            have := ih1 (d := v) (by simp at hn; omega) hx
            simpa [refsOk] using this
          · cases h
        | _ => simp [refsOk]
      · intro l hn h
        cases l with
        | nil => simp [refsAll]
        | cons d r =>
          simp only [purs] at h
          split at h
          · rename_i x y hx hy
            simp only [Option.some.injEq, List.cons.injEq] at h
            rw [h.1] at hx
            rw [h.2] at hy
            have h1 := ih1 (d := d) (by simp at hn; omega) hx
            have h2 := ih2 (l := r) (by simp at hn; omega) hy
            simp [refsAll, h1, h2]
          · cases h
  exact ⟨fun {d} h => (key (SizeOf.sizeOf d + 1)).1 (by omega) h, fun {l} h => (key (SizeOf.sizeOf l + 1)).2 (by omega) h⟩

theorem objRefsX_ok {F : Nat → Bool} {p : Nat → Bool} : ∀ {i : Nat} {H : Heap}, allX F p i H = true → (∀ c ∈ flatCs F id i H, c) → H.all (objRefs p) = true
  | _, [], _, _ => rfl
  | i, x :: r, h, hc => by
    simp only [allX, List.all_cons, Bool.and_eq_true] at h ⊢
    refine ⟨?_, objRefsX_ok h.2 (flatCs_tail hc)⟩
    have h1 := h.1
    unfold objRefsX at h1
    cases hF : flatObj F i x with
    | false => rw [hF] at h1; exact h1
    | true =>
      obtain ⟨sz, es, rfl⟩ := flatObj_row hF
      have hfl : FlatEs es := flatCs_head hc hF
      simp only [objRefs]
      exact List.all_eq_true.2 fun c hcc => flat_refs.2 (hfl c hcc)

theorem fin_stop {C : Cf} (hC : CfOk C) {m d f n h : Nat} {F : Nat → Bool} {keep : List Nat} {fn : Func} {cur : Cur} {k k' : List It} {s : St} {or : Or} {c : Code} {env : List D} {H : Heap} {r : D} {H1 : Heap} {cs : List Prop}
    (hr : cutX F keep h (runE C (callE C m d) f m cur k s or []) = some (c, k', env, H, cs)) (hc : ∀ c ∈ cs, c) (hn : n ≤ h)
    (g : Fin C.P C.T fn n (.code (.loop c)) k' ⟨env, H⟩ r H1) : Fin C.P C.T fn n cur k s r H1 := by
  obtain ⟨e, s', X, ⟨e1, s2, g1, g2⟩, g3⟩ := g
  refine ⟨⟨e, s', X, ?_, g3⟩⟩
  unfold cutX at hr
  split at hr
  · rename_i c0 k0 s0 or' cs' hrun
    split at hr
    · rename_i hb
      simp only [Bool.and_eq_true, decide_eq_true_eq] at hb
      simp only [Option.some.injEq, Prod.mk.injEq] at hr
      obtain ⟨rfl, rfl, rfl, rfl, rfl⟩ := hr
      have hc1 : ∀ x ∈ flatCs F id 0 (s0.H.take h), x := fun x hx => hc x (List.mem_append_left _ hx)
      have hc2 : ∀ x ∈ cs', x := fun x hx => hc x (List.mem_append_right _ hx)
      refine (runE_ok hC (callE_ok hC) hrun hc2).2 _ _ ⟨e1, s2, ?_, g2⟩
      refine .keep _ _ _ _ _ keep h hn hb.2 ?_ g1
      unfold St.keepOk
      rw [hb.1.1, objRefsX_ok hb.1.2 hc1]
      rfl
    · cases hr
  · cases hr

def isNilS : Option D → Bool
  | some (.slice false [] none) => true
  | _ => false
/-- Nil slices that are told as ones that can be extended (slot, cells of an element). -/
def tokOne (p : Nat × Nat) (s : St) : St := ⟨s.env.set p.1 (.slice false [] (some s.H.length)), s.H ++ [some (.tok 0 p.2)]⟩
def tokAll : List (Nat × Nat) → St → St
  | [], s => s
  | p :: r, s => tokAll r (tokOne p s)
def tokOk : List (Nat × Nat) → St → Bool
  | [], _ => true
  | p :: r, s => isNilS s.env[p.1]? && tokOk r (tokOne p s)

theorem fin_toks {P : Program} {T : Tys} {fn : Func} {n : Nat} {c : Code} {k : List It} {r : D} {H1 : Heap} {s' : St} : ∀ (l : List (Nat × Nat)) {s : St}, tokOk l s = true → s' = tokAll l s →
    Fin P T fn n (.code c) k s' r H1 → Fin P T fn n (.code c) k s r H1
  | [], s, _, hs, g => by rw [hs] at g; exact g
  | p :: l, s, hok, hs, g => by
    simp only [tokOk, Bool.and_eq_true] at hok
    obtain ⟨⟨e, s2, X, ⟨e1, s1, g1, g2⟩, g3⟩⟩ := fin_toks (s := tokOne p s) l hok.2 hs g
    refine ⟨⟨e, s2, X, ⟨e1, s1, ?_, g2⟩, g3⟩⟩
    have hi : s.env[p.1]? = some (.slice false [] none) := by
      have h1 := hok.1
      unfold isNilS at h1
      split at h1
      · rename_i h; exact h
      · cases h1
    exact .tokn n c s.env s.H s1 e1 p.1 p.2 hi g1

theorem fin_loop {P : Program} {T : Tys} {fn : Func} {n : Nat} {c : Code} {k : List It} {s : St} {r : D} {H1 : Heap} (g : Fin P T fn n (.code c) (.lp c :: k) s r H1) : Fin P T fn n (.code (.loop c)) k s r H1 := by
  obtain ⟨e, s', X, ⟨e1, s1, g1, g2⟩, g3⟩ := g
  unfold EvD at g2
  rcases g2 with ⟨rfl, e2, s2, h1, h2⟩ | ⟨hne, h2⟩
  · exact ⟨⟨e, s', X, ⟨e2, s2, .loopN _ _ _ _ _ _ g1 h1, h2⟩, g3⟩⟩
  · exact ⟨⟨e, s', X, ⟨e1, s1, .loopX _ _ _ _ _ hne g1, h2⟩, g3⟩⟩

theorem fin_call {P : Program} {T : Tys} {f : FuncId} {fn : Func} {code : Code} {args : List D} {H : Heap} {r : D} {H1 : Heap} (hf : P.funcs[f]? = some fn) (hb : fn.body = some code)
    (hnum : (fn.name == "runtime.NumGoroutine") = false) (g : Fin P T fn H.length (.code code) [] (beginE fn args H) r H1) : Ret P T f args H r H1 := by
  obtain ⟨e, s', X, g1, g2, g3, g4⟩ := g
  have := call_of hf hb hnum g2 g3 g1
  rw [g4] at this
  exact ⟨X, this⟩

/-- The loops of some code, with what is behind each. -/
def loopsOf : Code → List It → List (Code × List It)
  | .seq x y, k => loopsOf x (.seq y :: k) ++ loopsOf y k
  | .cond _ x y, k => loopsOf x k ++ loopsOf y k
  | .block id x, k => loopsOf x (.blk id :: k)
  | .loop x, k => (x, k) :: loopsOf x (.lp x :: k)
  | _, _ => []

noncomputable def fnAt (P : Program) (f : Nat) : Func := match P.funcs[f]? with | some fn => fn | none => default
noncomputable def bodyAt (P : Program) (f : Nat) : Code := match P.funcs[f]? with | some fn => (match fn.body with | some c => c | none => .skip) | none => .skip
noncomputable def loopAt (P : Program) (f j : Nat) : Code × List It := match (loopsOf (bodyAt P f) [])[j]? with | some x => x | none => (.skip, [])

/-- Hints by their places. -/
def hintOf : List (Nat × Nat × Nat × Hint) → Nat → Nat → Nat → Hint
  | [], _, _, _ => .sym
  | (a, b, c, h) :: t, f, r, o => bif Nat.beq a f && (Nat.beq b r && Nat.beq c o) then h else hintOf t f r o

/-- Slots that are filled, among so many. -/
def envOf (n : Nat) (l : List (Nat × D)) : List D := l.foldl (fun e p => e.set p.1 p.2) (List.replicate n .undef)

/-- A table of what calls come to: each with the claim that it is so. -/
def tabOf (P : Program) (T : Tys) (t : FuncId → List D → Heap → Option (D × Heap)) (k : FuncId) (args : List D) (H : Heap) : Option (D × Heap × List Prop) :=
  match t k args H with
  | some (r, H1) => some (r, H1, [Ret P T k args H r H1])
  | none => none

theorem tabOf_ok {P : Program} {T : Tys} {t : FuncId → List D → Heap → Option (D × Heap)} : ∀ k args H r H1 cs, tabOf P T t k args H = some (r, H1, cs) → (∀ c ∈ cs, c) → ∃ X, Ev P T (.call k args H r (H1 ++ X)) := by
  intro k args H r H1 cs h hc
  unfold tabOf at h
  split at h
  · simp only [Option.some.injEq, Prod.mk.injEq] at h
    obtain ⟨rfl, rfl, rfl⟩ := h
    exact hc _ (List.mem_cons_self ..)
  · cases h

/-- Is this the method? -/
def methB (P : Program) (t : TypeId) (name : String) (f : FuncId) : Bool :=
  match P.info? t, P.underlying t with
  | some i, some d =>
    match i.methods.find? (·.name == name) with
    | some m =>
      match m.func with
      | some (g, pr) => m.path.isEmpty && g == f && (match d with | .pointer _ => pr | _ => !pr)
      | none => false
    | none => false
  | _, _ => false
theorem methB_ok {P : Program} {t : TypeId} {name : String} {f : FuncId} (h : methB P t name f = true) : MethOk P t name f := by
  unfold methB at h
  split at h
  · rename_i i d hi hd
    split at h
    · rename_i m hm
      split at h
      · rename_i g pr hg
        simp only [Bool.and_eq_true, beq_iff_eq, Array.isEmpty_iff] at h
        obtain ⟨⟨h1, rfl⟩, h3⟩ := h
        refine ⟨i, m, pr, hi, hm, h1, hg, ?_⟩
        cases d with
        | pointer e => exact .inl ⟨e, hd, h3⟩
        | _ => exact .inr ⟨_, hd, (fun e he => by cases he), by simpa using h3⟩
      · cases h
    · cases h
  · cases h
/-- A table of methods. -/
def methT (l : List (TypeId × String × FuncId)) (t : TypeId) (n : String) : Option FuncId := (l.find? fun x => x.1 == t && x.2.1 == n).map (·.2.2)
theorem methT_ok {P : Program} {l : List (TypeId × String × FuncId)} (h : (l.all fun x => methB P x.1 x.2.1 x.2.2) = true) : ∀ t n k, methT l t n = some k → MethOk P t n k := by
  intro t n k hk
  unfold methT at hk
  obtain ⟨x, hx, rfl⟩ := Option.map_eq_some_iff.1 hk
  have h1 := List.find?_some hx
  simp only [Bool.and_eq_true, beq_iff_eq] at h1
  have h2 := List.all_eq_true.1 h x (List.mem_of_find?_eq_some hx)
  obtain ⟨rfl, rfl⟩ := h1
  exact methB_ok h2
/-- Is this the method of what the pointer's type points to? -/
def methLB (P : Program) (t : TypeId) (name : String) (f : FuncId) (e : TypeId) : Bool :=
  match P.info? t, P.underlying t with
  | some i, some (.pointer e') =>
    match i.methods.find? (·.name == name) with
    | some m =>
      match m.func with
      | some (g, pr) => m.path.isEmpty && g == f && !pr && e' == e
      | none => false
    | none => false
  | _, _ => false
theorem methLB_ok {P : Program} {t : TypeId} {name : String} {f : FuncId} {e : TypeId} (h : methLB P t name f e = true) : MethL P t name f e := by
  unfold methLB at h
  split at h
  · rename_i i e' hi hd
    split at h
    · rename_i m hm
      split at h
      · rename_i g pr hg
        simp only [Bool.and_eq_true, beq_iff_eq, Array.isEmpty_iff, Bool.not_eq_true'] at h
        obtain ⟨⟨⟨h1, rfl⟩, rfl⟩, rfl⟩ := h
        exact ⟨i, m, hi, hm, h1, hg, hd⟩
      · cases h
    · cases h
  · cases h
def methlT (l : List (TypeId × String × FuncId × TypeId)) (t : TypeId) (n : String) : Option (FuncId × TypeId) := (l.find? fun x => x.1 == t && x.2.1 == n).map (·.2.2)
theorem methlT_ok {P : Program} {l : List (TypeId × String × FuncId × TypeId)} (h : (l.all fun x => methLB P x.1 x.2.1 x.2.2.1 x.2.2.2) = true) : ∀ t n k e, methlT l t n = some (k, e) → MethL P t n k e := by
  intro t n k e hk
  unfold methlT at hk
  obtain ⟨x, hx, hxe⟩ := Option.map_eq_some_iff.1 hk
  have h1 := List.find?_some hx
  simp only [Bool.and_eq_true, beq_iff_eq] at h1
  have h2 := List.all_eq_true.1 h x (List.mem_of_find?_eq_some hx)
  obtain ⟨rfl, rfl⟩ := h1
  obtain ⟨a, b, c, d⟩ := x
  simp only [Prod.mk.injEq] at hxe
  obtain ⟨rfl, rfl⟩ := hxe
  exact methLB_ok h2

/-- A configuration of a program: hints, what calls come to, whose calls only look, methods (reached straight; behind a pointer). -/
def cfg (P : Program) (hint : FuncId → Nat → Nat → Hint) (t : FuncId → List D → Heap → Option (D × Heap)) (look : FuncId → Bool := fun _ => false) (room : Nat := 2) (stop : Bool := true) (flat : Nat → Bool := fun _ => false) (xt : FuncId → List D → Option D := fun _ _ => none)
    (ms : List (TypeId × String × FuncId) := []) (ml : List (TypeId × String × FuncId × TypeId) := []) : Cf :=
  { P, T := tyOf P, hint, room := fun _ _ => room, meth := methT ms, ct := tabOf P (tyOf P) t, stop, look, flat, xt, methl := methlT ml }

theorem cfg_ok {P : Program} {hint : FuncId → Nat → Nat → Hint} {t : FuncId → List D → Heap → Option (D × Heap)} {look : FuncId → Bool} {room : Nat} {stop : Bool} {flat : Nat → Bool} {xt : FuncId → List D → Option D}
    {ms : List (TypeId × String × FuncId)} {ml : List (TypeId × String × FuncId × TypeId)} (hm : P.follows .mixedOrders = true)
    (h1 : (ms.all fun x => methB P x.1 x.2.1 x.2.2) = true := by exact rfl) (h2 : (ml.all fun x => methLB P x.1 x.2.1 x.2.2.1 x.2.2.2) = true := by exact rfl) : CfOk (cfg P hint t look room stop flat xt ms ml) where
  hT := fun _ _ h => h
  hm := hm
  meth := methT_ok h1
  methl := methlT_ok h2
  ct := tabOf_ok

/-- A call that a closed reckoning tells. -/
theorem ret_closed {C : Cf} (hC : CfOk C) {m d f : Nat} (h : tellsTrue (callE C m d f [] [] .auto) = true) : Ret C.P C.T f [] [] (.bool true) [] := by
  obtain ⟨R, h1, h2, h3⟩ := tellsTrue_ok h
  obtain ⟨X, hev⟩ := callE_ok hC _ _ _ _ _ h1 (fun c hc => by rw [h3] at hc; simp at hc)
  rw [h2] at hev
  exact ⟨R.H ++ X, hev⟩

/-! ### names for what is reckoned with bits -/
def andW (k : IntKind) (a b : Int) : Int := k.wrap ((BitVec.ofInt k.bits a &&& BitVec.ofInt k.bits b).toNat : Int)
def orW (k : IntKind) (a b : Int) : Int := k.wrap ((BitVec.ofInt k.bits a ||| BitVec.ofInt k.bits b).toNat : Int)
def xorW (k : IntKind) (a b : Int) : Int := k.wrap ((BitVec.ofInt k.bits a ^^^ BitVec.ofInt k.bits b).toNat : Int)
def andNotW (k : IntKind) (a b : Int) : Int := k.wrap ((BitVec.ofInt k.bits a &&& ~~~BitVec.ofInt k.bits b).toNat : Int)
def shlW (k : IntKind) (a b : Int) : Int := k.wrap (a * 2 ^ (min b.toNat k.bits))
def shrW (k : IntKind) (a b : Int) : Int := a.fdiv (2 ^ (min b.toNat k.bits))

theorem true_of {b : Bool} {p : Prop} [Decidable p] (h : decide p = b) (hb : b = true) : p := of_decide_eq_true (h.trans hb)

end Go.Proofs.Ytifpbdhggooelaa.GD
