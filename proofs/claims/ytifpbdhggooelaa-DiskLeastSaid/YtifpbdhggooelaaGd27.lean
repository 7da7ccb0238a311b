/- What code comes to, reckoned: it is so. -/
import Derived.Test.YtifpbdhggooelaaGd26
namespace Go.Proofs.Ytifpbdhggooelaa.GD
open Go
set_option linter.unusedVariables false
set_option linter.unusedSimpArgs false

structure CfOk (C : Cf) : Prop where
  hT : TOk C.P C.T
  hm : C.P.follows .mixedOrders = true
  meth : ∀ t n k, C.meth t n = some k → MethOk C.P t n k
  methl : ∀ t n k e, C.methl t n = some (k, e) → MethL C.P t n k e := by intro _ _ _ _ h; cases h
  ct : ∀ k args H r H1 cs, C.ct k args H = some (r, H1, cs) → (∀ c ∈ cs, c) → ∃ X, Ev C.P C.T (.call k args H r (H1 ++ X))

def RcOk (C : Cf) (rc : FuncId → List D → Heap → Or → Option CR) : Prop :=
  ∀ k args H or R, rc k args H or = some R → (∀ c ∈ R.cs, c) → ∃ X, Ev C.P C.T (.call k args H R.r (R.H ++ X))

theorem choose_ok {b c : Bool} {or or' : Or} {cs : List Prop} (h : or.choose b = some (c, or', cs)) (hc : ∀ x ∈ cs, x) : b = c := by
  unfold Or.choose at h
  split at h
  case h_4 => cases h
  all_goals
    simp only [Option.some.injEq, Prod.mk.injEq] at h
    obtain ⟨h1, _, rfl⟩ := h
    first
      | exact h1
      | (subst h1; exact hc _ (by simp))

theorem guardE_ok {all : Array Oper} {o : Oper} {env : List D} {or or' : Or} {c : Bool} {cs : List Prop} (h : guardE all o env or = some (c, or', cs)) (hc : ∀ x ∈ cs, x) : GuardOk all o env c := by
  unfold guardE at h
  split at h
  · rename_i hg
    simp only [Option.some.injEq, Prod.mk.injEq] at h
    exact .inl ⟨hg, h.1.symm⟩
  · rename_i j want hg
    split at h
    · rename_i d hd
      split at h
      · rename_i b hb
        exact .inr (.inl ⟨j, want, d, b, hg, hd, hb, choose_ok h hc⟩)
      · rename_i hb
        simp only [Option.some.injEq, Prod.mk.injEq] at h
        exact .inr (.inr ⟨j, want, d, hg, hd, hb, h.1.symm⟩)
      · cases h
    · cases h

theorem ndB_ok : ∀ {l : List Nat}, ndB l = true → l.Nodup
  | [], _ => List.nodup_nil
  | p :: r, h => by
    simp only [ndB, Bool.and_eq_true, Bool.not_eq_true'] at h
    refine List.nodup_cons.2 ⟨?_, ndB_ok h.2⟩
    simpa using h.1

section
variable {C : Cf} {rc : FuncId → List D → Heap → Or → Option CR}

theorem tgtF_ok (hC : CfOk C) {ρ : Operand → D} {ld : TypeId → D → Option D} {c : Call} {k : FuncId} {args : List D} (h : tgtF C ρ ld c = some (k, args)) : Tgt C.P ρ ld c k args := by
  obtain ⟨callee, as, ts⟩ := c
  unfold tgtF at h
  split at h
  · rename_i f hf
    simp only at hf
    subst hf
    split at h
    · rename_i k' fi ca hk
      simp only [Option.some.injEq, Prod.mk.injEq] at h
      obtain ⟨rfl, rfl⟩ := h
      exact .value f as ts _ fi ca hk
    · cases h
  · rename_i r nm hf
    simp only at hf
    subst hf
    split at h
    · rename_i t v hr
      split at h
      · rename_i k' hk
        simp only [Option.some.injEq, Prod.mk.injEq] at h
        obtain ⟨rfl, rfl⟩ := h
        exact .invoke r nm as ts t v _ hr (hC.meth _ _ _ hk)
      · split at h
        · rename_i k' e hk
          split at h
          · rename_i d hd
            simp only [Option.some.injEq, Prod.mk.injEq] at h
            obtain ⟨rfl, rfl⟩ := h
            exact .invokeL r nm as ts t v _ e d hr (hC.methl _ _ _ _ hk) hd
          · cases h
        · cases h
    · cases h
  · cases h

mutual
theorem flat_ren1 {f : Nat → Option Nat} : ∀ {d : D}, pur d = some d → ren f d = some d
  | .slice nn es none, h => rfl
  | .slice nn es (some t), h => by simp [pur] at h
  | .ptr _ _ _, h => by simp [pur] at h
  | .view _ _ _, h => by simp [pur] at h
  | .mapp _, h => by simp [pur] at h
  | .iter _, h => by simp [pur] at h
  | .agg cs, h => by
    simp only [pur] at h
    split at h
    · rename_i l hl
      simp only [Option.some.injEq, D.agg.injEq] at h
      rw [h] at hl
      simp only [ren, flat_rens hl]
    · cases h
  | .tuple cs, h => by
    simp only [pur] at h
    split at h
    · rename_i l hl
      simp only [Option.some.injEq, D.tuple.injEq] at h
      rw [h] at hl
      simp only [ren, flat_rens hl]
    · cases h
  | .func fn a b, h => by
    simp only [pur] at h
    split at h
    · rename_i x y hx hy
      simp only [Option.some.injEq, D.func.injEq] at h
      rw [h.2.1] at hx
      rw [h.2.2] at hy
      simp only [ren, flat_rens hx, flat_rens hy]
    · cases h
  | .iface t v, h => by
    simp only [pur] at h
    split at h
    · rename_i x hx
      simp only [Option.some.injEq, D.iface.injEq] at h
      rw [h.2] at hx
      simp only [ren, flat_ren1 hx]
    · cases h
  | .undef, h => rfl
  | .non, h => rfl
  | .bool _, h => rfl
  | .int _ _, h => rfl
  | .str _, h => rfl
  | .pnil, h => rfl
  | .sptr _, h => rfl
  | .fnil, h => rfl
  | .inil, h => rfl
  | .mnil, h => rfl
theorem flat_rens {f : Nat → Option Nat} : ∀ {l : List D}, purs l = some l → rens f l = some l
  | [], h => rfl
  | d :: r, h => by
    simp only [purs] at h
    split at h
    · rename_i x y hx hy
      simp only [Option.some.injEq, List.cons.injEq] at h
      rw [h.1] at hx
      rw [h.2] at hy
      simp only [rens, flat_ren1 hx, flat_rens hy]
    · cases h
end

theorem flatEs_ren {f : Nat → Option Nat} : ∀ {es : List (List D)}, FlatEs es → renEs f es = some es
  | [], _ => rfl
  | c :: r, h => by
    have h1 := flat_rens (f := f) (h c (by simp))
    have h2 := flatEs_ren (f := f) (es := r) (fun c hc => h c (List.mem_cons_of_mem _ hc))
    simp only [renEs, h1, h2]

theorem flatCs_tail {F : Nat → Bool} {nm : Nat → Nat} {i : Nat} {x : Option HObj} {r : Heap} (hc : ∀ c ∈ flatCs F nm i (x :: r), c) : ∀ c ∈ flatCs F nm (i + 1) r, c := by
  intro c hcc
  refine hc c ?_
  cases x with
  | none => exact hcc
  | some o =>
    cases o with
    | row sz es =>
      show c ∈ (bif flatObj F (nm i) (some (.row sz es)) then FlatEs es :: flatCs F nm (i + 1) r else flatCs F nm (i + 1) r)
      cases flatObj F (nm i) (some (.row sz es)) with
      | true => exact List.mem_cons_of_mem _ hcc
      | false => exact hcc
    | fro sz es => exact hcc
    | tok n sz => exact hcc
    | sit s p => exact hcc
    | mp k ks vs => exact hcc
    | dead => exact hcc
theorem flatCs_head {F : Nat → Bool} {nm : Nat → Nat} {i : Nat} {sz : Nat} {es : List (List D)} {r : Heap} (hc : ∀ c ∈ flatCs F nm i (some (.row sz es) :: r), c) (hF : flatObj F (nm i) (some (.row sz es)) = true) : FlatEs es := by
  refine hc _ ?_
  show FlatEs es ∈ (bif flatObj F (nm i) (some (.row sz es)) then FlatEs es :: flatCs F nm (i + 1) r else flatCs F nm (i + 1) r)
  rw [hF]
  exact List.mem_cons_self ..
theorem flatObj_row {F : Nat → Bool} {n : Nat} {x : Option HObj} (h : flatObj F n x = true) : ∃ sz es, x = some (.row sz es) := by
  unfold flatObj at h
  split at h
  · exact ⟨_, _, rfl⟩
  · cases h
theorem renHF_ok {F : Nat → Bool} {nm : Nat → Nat} {f : Nat → Option Nat} : ∀ {i : Nat} {H H' : Heap}, renHF F nm f i H = some H' → (∀ c ∈ flatCs F nm i H, c) → renH f H = some H'
  | _, [], H', h, _ => h
  | i, x :: r, H', h, hc => by
    simp only [renHF] at h
    have hr := flatCs_tail hc
    have hx : (bif flatObj F (nm i) x then some x else renO f x) = renO f x := by
      cases hF : flatObj F (nm i) x with
      | false => rfl
      | true =>
        obtain ⟨sz, es, rfl⟩ := flatObj_row hF
        have : FlatEs es := flatCs_head hc hF
        simp only [cond_true, renO, flatEs_ren this]
    rw [hx] at h
    simp only [renH]
    split at h
    · rename_i y l h1 h2
      rw [h1, renHF_ok h2 hr]
      exact h
    · cases h

theorem frameE_ok (hC : CfOk C) (hrc : RcOk C rc) {lim : Nat} {s : St} {f : Nat} {k : FuncId} {args : List D} {or : Or} {R : FR} (h : frameE C rc lim s f k args or = some R) (hc : ∀ x ∈ R.cs, x) :
    ∃ args' H0 r H1, Framed s f args r H1 R.fp R.h args' H0 R.r R.W ∧ Ev C.P C.T (.call k args' H0 r H1) := by
  unfold frameE at h
  simp only at h
  split at h
  · rename_i args' H0 ha h0
    split at h
    · rename_i R0 hR0
      split at h
      · simp only [Option.some.injEq] at h
        subst h
        exact absurd (hc False (by simp)) id
      split at h
      · rename_i hb
        simp only [Bool.and_eq_true] at hb
        obtain ⟨⟨⟨hb1, hb2⟩, hb3⟩, hb4⟩ := hb
        rw [decide_eq_true_eq] at hb4
        split at h
        · rename_i r' H1' hr hw
          simp only [Option.some.injEq] at h
          subst h
          simp only at hc
          have hc0 : ∀ x ∈ flatCs C.flat (nmOf (reachF C.flat id s.H 100000 (namesAll args) []) f) 0 (List.map (hget s.H) (reachF C.flat id s.H 100000 (namesAll args) [])), x := fun x hx => hc x (List.mem_append_left _ hx)
          have hc1 : ∀ x ∈ flatCs C.flat (nmOf (reachF C.flat id s.H 100000 (namesAll args) []) f) 0 (R0.H.take (frameH C.flat (nmOf (reachF C.flat id s.H 100000 (namesAll args) []) f) R0.r R0.H (reachF C.flat id s.H 100000 (namesAll args) []).length lim)), x := fun x hx => hc x (List.mem_append_right _ (List.mem_append_left _ hx))
          replace hc : ∀ x ∈ R0.cs, x := fun x hx => hc x (List.mem_append_right _ (List.mem_append_right _ hx))
          have h0 := renHF_ok h0 hc0
          have hw := renHF_ok hw hc1
          have hX : ∃ X, Ev C.P C.T (.call k args' H0 R0.r (R0.H ++ X)) := by
            split at hR0
            · rename_i r H1 cs hct
              simp only [Option.some.injEq] at hR0
              subst hR0
              exact hC.ct _ _ _ _ _ _ hct hc
            · exact hrc _ _ _ _ _ hR0 hc
          obtain ⟨X, hX⟩ := hX
          refine ⟨args', H0, R0.r, R0.H ++ X, ⟨ndB_ok hb3, fun p hp => ?_, fun p hp => ?_, frameH_le .., ha, h0, hr, H1', ?_, rfl⟩, hX⟩
          · have := List.all_eq_true.1 hb1 p hp
            simpa using this
          · have := List.all_eq_true.1 hb2 p hp
            simpa using this
          · rw [List.take_append_of_le_length hb4]; exact hw
        · cases h
      · cases h
    · cases h
  · cases h

theorem callX0_ok {P : Program} {k : FuncId} {args : List D} {r : D} (h : callX0 P k args = some r) : ∃ args', purs args = some args' ∧ ExtOk P k args' r := by
  unfold callX0 at h
  split at h
  · split at h
    · split at h
      · rename_i a ha
        exact ⟨a, ha, extE_ok h⟩
      · cases h
    · cases h
  · cases h

theorem callX_ok {C : Cf} {k : FuncId} {args : List D} {r : D} {cx : List Prop} (h : callX C k args = some (r, cx)) (hc : ∀ c ∈ cx, c) : ∃ args', purs args = some args' ∧ ExtOk C.P k args' r := by
  unfold callX at h
  split at h
  · split at h
    · rename_i a ha
      simp only [Option.some.injEq, Prod.mk.injEq] at h
      obtain ⟨rfl, rfl⟩ := h
      exact ⟨a, ha, hc _ (List.mem_cons_self ..)⟩
    · cases h
  · split at h
    · rename_i r' hr
      simp only [Option.some.injEq, Prod.mk.injEq] at h
      obtain ⟨rfl, _⟩ := h
      exact callX0_ok hr
    · cases h

theorem flat_sub {es l : List (List D)} (h : FlatEs es) (hs : ∀ c ∈ l, c ∈ es) : l.all purC = true ∧ purStrip l = l := by
  constructor
  · refine List.all_eq_true.2 fun c hc => ?_
    unfold purC
    rw [h c (hs c hc)]
  · unfold purStrip
    conv => rhs; rw [← List.map_id l]
    refine List.map_congr_left fun c hc => ?_
    rw [h c (hs c hc)]
    rfl

mutual
theorem frozE_ok {F : Nat → Bool} {H : Heap} : ∀ {d e : D} {p : List Prop}, frozE F H d = some (e, p) → (∀ x ∈ p, x) → Froz H d e
  | .view o st len, e, p, h, hp => by
    unfold frozE at h
    split at h
    · rename_i sz es ho
      cases hF : F sz with
      | true =>
        rw [hF, cond_true] at h
        simp only [Option.some.injEq, Prod.mk.injEq] at h
        obtain ⟨rfl, rfl⟩ := h
        have hle : st + len ≤ es.length := hp _ (by simp)
        have hfl : FlatEs es := hp (FlatEs es) (by simp)
        obtain ⟨g1, g2⟩ := flat_sub (l := (es.drop st).take len) hfl (fun c hc => List.mem_of_mem_drop (List.mem_of_mem_take hc))
        exact .view o st len sz es _ ho hle g1 g2.symm
      | false =>
        rw [hF, cond_false] at h
        split at h
        · rename_i hb
          simp only [Option.some.injEq, Prod.mk.injEq] at h
          obtain ⟨rfl, rfl⟩ := h
          exact .view o st len sz es _ ho hb.1 hb.2 rfl
        · cases h
    · cases h
  | .agg cs, e, p, h, hp => by
    unfold frozE at h
    split at h
    · rename_i l q hl
      simp only [Option.some.injEq, Prod.mk.injEq] at h
      obtain ⟨rfl, rfl⟩ := h
      obtain ⟨h1, h2⟩ := frozEs_ok hl hp
      exact .agg cs l h1 h2
    · cases h
  | .tuple cs, e, p, h, hp => by
    unfold frozE at h
    split at h
    · rename_i l q hl
      simp only [Option.some.injEq, Prod.mk.injEq] at h
      obtain ⟨rfl, rfl⟩ := h
      obtain ⟨h1, h2⟩ := frozEs_ok hl hp
      exact .tuple cs l h1 h2
    · cases h
  | .undef, e, p, h, hp => pure_ok h
  | .non, e, p, h, hp => pure_ok h
  | .bool _, e, p, h, hp => pure_ok h
  | .int _ _, e, p, h, hp => pure_ok h
  | .str _, e, p, h, hp => pure_ok h
  | .pnil, e, p, h, hp => pure_ok h
  | .ptr _ _ _, e, p, h, hp => pure_ok h
  | .sptr _, e, p, h, hp => pure_ok h
  | .slice _ _ _, e, p, h, hp => pure_ok h
  | .func _ _ _, e, p, h, hp => pure_ok h
  | .fnil, e, p, h, hp => pure_ok h
  | .iface _ _, e, p, h, hp => pure_ok h
  | .inil, e, p, h, hp => pure_ok h
  | .mapp _, e, p, h, hp => pure_ok h
  | .mnil, e, p, h, hp => pure_ok h
  | .iter _, e, p, h, hp => pure_ok h
theorem frozEs_ok {F : Nat → Bool} {H : Heap} : ∀ {ds es : List D} {p : List Prop}, frozEs F H ds = some (es, p) → (∀ x ∈ p, x) → FrozAll H ds es
  | [], es, p, h, hp => by
    simp only [frozEs, Option.some.injEq, Prod.mk.injEq] at h
    obtain ⟨rfl, _⟩ := h
    exact ⟨rfl, fun i d e a => by simp at a⟩
  | d :: r, es, p, h, hp => by
    unfold frozEs at h
    split at h
    · rename_i x p1 y p2 hx hy
      simp only [Option.some.injEq, Prod.mk.injEq] at h
      obtain ⟨rfl, rfl⟩ := h
      have g1 := frozE_ok hx (fun c hc => hp c (List.mem_append_left _ hc))
      obtain ⟨g2, g3⟩ := frozEs_ok hy (fun c hc => hp c (List.mem_append_right _ hc))
      refine ⟨by simp [g2], fun i d e a b => ?_⟩
      cases i with
      | zero => simp at a b; subst a; subst b; exact g1
      | succ i => exact g3 i d e (by simpa using a) (by simpa using b)
    · cases h
theorem pure_ok {H : Heap} {d e : D} {p : List Prop} (h : (match pur d with | some e => some (e, ([] : List Prop)) | none => none) = some (e, p)) : Froz H d e := by
  split at h
  · rename_i x hx
    simp only [Option.some.injEq, Prod.mk.injEq] at h
    obtain ⟨rfl, _⟩ := h
    exact .pure _ _ hx
  · cases h
end

theorem lookE_ok (hC : CfOk C) (hrc : RcOk C rc) {s : St} {k : FuncId} {args : List D} {or or' : Or} {r : D} {cs : List Prop} (h : lookE C rc s k args or = some (r, or', cs)) (hc : ∀ x ∈ cs, x) :
    ∃ args' H1, FrozAll s.H args args' ∧ flatD r = true ∧ Ev C.P C.T (.call k args' [] r H1) := by
  unfold lookE at h
  split at h
  · split at h
    · rename_i args' fcs ha
      split at h
      · rename_i R hR
        split at h
        · simp only [Option.some.injEq, Prod.mk.injEq] at h
          obtain ⟨_, _, rfl⟩ := h
          exact absurd (hc False (by simp)) id
        split at h
        · rename_i hfl
          simp only [Option.some.injEq, Prod.mk.injEq] at h
          obtain ⟨rfl, _, rfl⟩ := h
          have hf0 : ∀ x ∈ fcs, x := fun x hx => hc x (List.mem_append_left _ hx)
          replace hc : ∀ x ∈ R.cs, x := fun x hx => hc x (List.mem_append_right _ hx)
          have hX : ∃ X, Ev C.P C.T (.call k args' [] R.r (R.H ++ X)) := by
            split at hR
            · rename_i r H1 cs hct
              simp only [Option.some.injEq] at hR
              subst hR
              exact hC.ct _ _ _ _ _ _ hct hc
            · exact hrc _ _ _ _ _ hR hc
          obtain ⟨X, hX⟩ := hX
          exact ⟨args', _, frozEs_ok ha hf0, hfl, hX⟩
        · cases h
      · cases h
    · cases h
  · cases h

theorem opsE_ok (hC : CfOk C) (hrc : RcOk C rc) {fn : FuncId} {rid n : Nat} {all : Array Oper} : ∀ {l : List Oper} {i : Nat} {s : St} {or : Or} {cs : List Prop} {s' : St} {or' : Or} {cs' : List Prop},
    opsE C rc fn rid all i l s or cs = some (s', or', cs') → (∀ x ∈ cs', x) → (∀ x ∈ cs, x) ∧ Ev C.P C.T (.ops n all l s s')
  | [], i, s, or, cs, s', or', cs', h, hc => by
    simp only [opsE, Option.some.injEq, Prod.mk.injEq] at h
    obtain ⟨rfl, _, rfl⟩ := h
    exact ⟨hc, .opsNil ..⟩
  | o :: l, i, s, or, cs, s', or', cs', h, hc => by
    have app : ∀ {a b : List Prop}, (∀ x ∈ a ++ b, x) → (∀ x ∈ a, x) ∧ (∀ x ∈ b, x) := fun h => ⟨fun x hx => h x (List.mem_append_left _ hx), fun x hx => h x (List.mem_append_right _ hx)⟩
    have no : some (s, or, [False]) = some (s', or', cs') → False := fun h => by
      simp only [Option.some.injEq, Prod.mk.injEq] at h
      obtain ⟨_, _, rfl⟩ := h
      exact hc False (by simp)
    have no2 : ∀ {or1 : Or}, some (s, or1, [False]) = some (s', or', cs') → False := fun h => by
      simp only [Option.some.injEq, Prod.mk.injEq] at h
      obtain ⟨_, _, rfl⟩ := h
      exact hc False (by simp)
    simp only [opsE] at h
    split at h
    · exact (no h).elim
    split at h
    · rename_i or1 c1 hg
      obtain ⟨h1, h2⟩ := opsE_ok hC hrc h hc
      obtain ⟨h3, h4⟩ := app h1
      exact ⟨h4, .opsSkip _ _ _ _ _ _ (guardE_ok hg h3) h2⟩
    · rename_i or1 c1 hg
      split at h
      · exact (no2 h).elim
      split at h
      · rename_i c ho
        split at h
        · split at h
          · rename_i r hr
            obtain ⟨h1, h2⟩ := opsE_ok hC hrc h hc
            obtain ⟨h3, h4⟩ := app h1
            obtain ⟨h5, h6⟩ := app h4
            exact ⟨h6, .opsPrim _ _ _ _ _ _ _ _ (guardE_ok hg h5) hr h3 h2⟩
          · cases h
        · split at h
          · rename_i k args ht
            split at h
            · rename_i r cx hx
              obtain ⟨h1, h2⟩ := opsE_ok hC hrc h hc
              obtain ⟨h3, h4⟩ := app h1
              obtain ⟨h5, h6⟩ := app h4
              obtain ⟨args', ha, hxo⟩ := callX_ok hx h3
              exact ⟨h6, .opsExt _ _ _ _ _ _ _ _ _ _ _ (guardE_ok hg h5) ho (tgtF_ok hC ht) ha hxo h2⟩
            split at h
            · rename_i r or2 c2 hx
              obtain ⟨h1, h2⟩ := opsE_ok hC hrc h hc
              obtain ⟨h3, h4⟩ := app h1
              obtain ⟨h5, h6⟩ := app h4
              obtain ⟨args', H1, g1, g2, g3⟩ := lookE_ok hC hrc hx h3
              exact ⟨h6, .opsLook _ _ _ _ _ _ _ _ _ _ _ _ (guardE_ok hg h5) ho (tgtF_ok hC ht) g1 g2 g3 h2⟩
            split at h
            · rename_i R hR
              obtain ⟨h1, h2⟩ := opsE_ok hC hrc h hc
              obtain ⟨h3, h4⟩ := app h1
              obtain ⟨h5, h6⟩ := app h4
              obtain ⟨args', H0, r, H1, hf, hev⟩ := frameE_ok hC hrc hR h3
              exact ⟨h6, .opsFrame _ _ _ _ _ _ _ _ _ _ _ _ _ _ _ _ _ (guardE_ok hg h5) ho (tgtF_ok hC ht) hf hev h2⟩
            · cases h
          · cases h
      · split at h
        · split at h
          · exact (no2 h).elim
          split at h
          · rename_i r hr
            obtain ⟨h1, h2⟩ := opsE_ok hC hrc h hc
            obtain ⟨h3, h4⟩ := app h1
            obtain ⟨h5, h6⟩ := app h4
            exact ⟨h6, .opsPrim _ _ _ _ _ _ _ _ (guardE_ok hg h5) hr h3 h2⟩
          · cases h
        · cases h
    · cases h

theorem labE_ok (hC : CfOk C) (hrc : RcOk C rc) {fn : FuncId} {rid : Nat} {all : Array Oper} {i : Nat} {o : Oper} {f K : Nat} {s : St} {or or' : Or} {L : Lab} {cs : List Prop}
    (h : labE C rc fn rid all i o f K s or = some (L, or', cs)) (hc : ∀ x ∈ cs, x) : Ev C.P C.T (.lab all o f K s L) := by
  have app : ∀ {a b : List Prop}, (∀ x ∈ a ++ b, x) → (∀ x ∈ a, x) ∧ (∀ x ∈ b, x) := fun h => ⟨fun x hx => h x (List.mem_append_left _ hx), fun x hx => h x (List.mem_append_right _ hx)⟩
  have hwr : ∀ {W : List (Nat × Option HObj)} {n : Nat}, wrB' W n = true → ∀ x ∈ W, x.1 < n := fun h x hx => by
    have := List.all_eq_true.1 h x hx
    simpa using this
  have no2 : ∀ {or1 : Or} {L1 : Lab}, some (L1, or1, [False]) = some (L, or', cs) → False := fun h => by
    simp only [Option.some.injEq, Prod.mk.injEq] at h
    obtain ⟨_, _, rfl⟩ := h
    exact hc False (by simp)
  unfold labE at h
  split at h
  · rename_i or1 c1 hg
    simp only [Option.some.injEq, Prod.mk.injEq] at h
    obtain ⟨rfl, _, rfl⟩ := h
    exact .labSkip _ _ _ _ _ (guardE_ok hg hc)
  · rename_i or1 c1 hg
    split at h
    · exact (no2 h).elim
    split at h
    · rename_i c ho
      split at h
      · split at h
        · rename_i r hr
          split at h
          · rename_i hb
            simp only [Option.some.injEq, Prod.mk.injEq] at h
            obtain ⟨rfl, _, rfl⟩ := h
            obtain ⟨h3, h5⟩ := app hc
            exact .labPrim _ _ _ _ _ _ _ (guardE_ok hg h5) hr h3 (hwr hb)
          · cases h
        · cases h
      · split at h
        · rename_i k args ht
          split at h
          · rename_i r cx hx
            simp only [Option.some.injEq, Prod.mk.injEq] at h
            obtain ⟨rfl, _, rfl⟩ := h
            obtain ⟨h3, h5⟩ := app hc
            obtain ⟨args', ha, hxo⟩ := callX_ok hx h3
            exact .labExt _ _ _ _ _ _ _ _ _ _ (guardE_ok hg h5) ho (tgtF_ok hC ht) ha hxo
          split at h
          · rename_i r or2 c2 hx
            split at h
            · exact (no2 h).elim
            simp only [Option.some.injEq, Prod.mk.injEq] at h
            obtain ⟨rfl, _, rfl⟩ := h
            obtain ⟨h3, h5⟩ := app hc
            obtain ⟨args', H1, g1, g2, g3⟩ := lookE_ok hC hrc hx h3
            exact .labLook _ _ _ _ _ _ _ _ _ _ _ (guardE_ok hg h5) ho (tgtF_ok hC ht) g1 g2 g3
          split at h
          · rename_i R hR
            split at h
            · exact (no2 h).elim
            split at h
            · rename_i hb
              simp only [Option.some.injEq, Prod.mk.injEq] at h
              obtain ⟨rfl, _, rfl⟩ := h
              obtain ⟨h3, h5⟩ := app hc
              obtain ⟨args', H0, r, H1, hf, hev⟩ := frameE_ok hC hrc hR h3
              exact .labFrame _ _ _ _ _ _ _ _ _ _ _ _ _ _ _ _ (guardE_ok hg h5) ho (tgtF_ok hC ht) hf hb hev
            · cases h
          · cases h
        · cases h
    · split at h
      · split at h
        · exact (no2 h).elim
        split at h
        · rename_i r hr
          split at h
          · rename_i hb
            simp only [Option.some.injEq, Prod.mk.injEq] at h
            obtain ⟨rfl, _, rfl⟩ := h
            obtain ⟨h3, h5⟩ := app hc
            exact .labPrim _ _ _ _ _ _ _ (guardE_ok hg h5) hr h3 (hwr hb)
          · cases h
        · cases h
      · cases h
  · cases h

theorem runSet_none : ∀ {l : List (Nat × Oper × Lab)} {E : Nat → Bool} {s : St}, (∀ p ∈ l, E p.1 = false) → runSet l E s = s
  | [], E, s, _ => rfl
  | p :: l, E, s, h => by
    simp only [runSet]
    rw [h p (by simp)]
    exact runSet_none (fun q hq => h q (List.mem_cons_of_mem _ hq))

theorem labsE_ok (hC : CfOk C) (hrc : RcOk C rc) {fn : FuncId} {rid : Nat} {all : Array Oper} {c K : Nat} : ∀ {os : List Oper} {i : Nat} {s : St} {or : Or} {cs : List Prop} {Ls : List Lab} {s' : St} {or' : Or} {cs' : List Prop},
    labsE C rc fn rid all c K i os s or cs = some (Ls, s', or', cs') → (∀ x ∈ cs', x) → (∀ x ∈ cs, x) ∧ Ls.length = os.length ∧ s' = runSet (labList i os Ls) (fun _ => true) s ∧
      ∀ (j : Nat) (o : Oper) (L : Lab), os[j]? = some o → Ls[j]? = some L → Ev C.P C.T (.lab all o (c + (i + j) * K) K (runSet (labList i os Ls) (below (i + j)) s) L)
  | [], i, s, or, cs, Ls, s', or', cs', h, hc => by
    simp only [labsE, Option.some.injEq, Prod.mk.injEq] at h
    obtain ⟨rfl, rfl, _, rfl⟩ := h
    exact ⟨hc, rfl, rfl, fun j o L h => by simp at h⟩
  | o :: os, i, s, or, cs, Ls, s', or', cs', h, hc => by
    have app : ∀ {a b : List Prop}, (∀ x ∈ a ++ b, x) → (∀ x ∈ a, x) ∧ (∀ x ∈ b, x) := fun h => ⟨fun x hx => h x (List.mem_append_left _ hx), fun x hx => h x (List.mem_append_right _ hx)⟩
    simp only [labsE] at h
    split at h
    · rename_i L or1 c1 hL
      split at h
      · simp only [Option.some.injEq, Prod.mk.injEq] at h
        obtain ⟨_, _, _, rfl⟩ := h
        exact absurd (hc False (by simp)) id
      split at h
      · rename_i Ls1 s1 or2 cs2 hrest
        simp only [Option.some.injEq, Prod.mk.injEq] at h
        obtain ⟨rfl, rfl, _, rfl⟩ := h
        obtain ⟨h1, h2, h3, h4⟩ := labsE_ok hC hrc hrest hc
        obtain ⟨h5, h6⟩ := app h1
        refine ⟨h6, by simp [h2], by simp only [labList, runSet, if_true]; exact h3, fun j o' L' ho' hL' => ?_⟩
        cases j with
        | zero =>
          simp only [List.getElem?_cons_zero, Option.some.injEq] at ho' hL'
          subst ho'; subst hL'
          have : runSet (labList i (o :: os) (L :: Ls1)) (below (i + 0)) s = s := by
            refine runSet_none (fun p hp => ?_)
            have := (labList_mem (i := p.1) (o := p.2.1) (L := p.2.2) hp).1
            simp [below]; omega
          rw [this]
          exact labE_ok hC hrc hL h5
        | succ j =>
          have := h4 j o' L' (by simpa using ho') (by simpa using hL')
          have hb : below (i + (j + 1)) i = true := by simp [below]
          rw [show i + (j + 1) = i + 1 + j by omega]
          rw [show i + (j + 1) = i + 1 + j by omega] at hb
          simp only [labList, runSet]
          rw [if_pos hb]
          exact this
      · cases h
    · cases h

theorem regionE_ok (hC : CfOk C) (hrc : RcOk C rc) {fn : FuncId} {rid n : Nat} {ops : Array Oper} {draw : Bool} {s s' : St} {or or' : Or} {cs : List Prop}
    (h : regionE C rc fn rid ops draw s or = some (s', or', cs)) (hc : ∀ x ∈ cs, x) : Ev C.P C.T (.code n (.region rid ops draw) s .normal s') := by
  unfold regionE at h
  cases draw with
  | false =>
    simp only [Bool.false_eq_true, if_false] at h
    exact .region _ _ _ _ _ (opsE_ok hC hrc h hc).2
  | true =>
    simp only [if_true] at h
    split at h
    · rename_i Ls s1 or1 cs1 hL
      split at h
      · simp only [Option.some.injEq, Prod.mk.injEq] at h
        obtain ⟨_, _, rfl⟩ := h
        exact absurd (hc False (by simp)) id
      split at h
      · rename_i hb
        simp only [Bool.and_eq_true, decide_eq_true_eq] at hb
        simp only [Option.some.injEq, Prod.mk.injEq] at h
        obtain ⟨rfl, _, rfl⟩ := h
        obtain ⟨_, h2, h3, h4⟩ := labsE_ok hC hrc hL hc
        rw [h3]
        refine .draw _ _ _ _ (C.room fn rid) (masksE ops.toList []) Ls (by simpa using h2) hb.1 hC.hm hb.2 (fun i o L ho hL' => ?_)
        have := h4 i o L (by rw [Array.getElem?_toList]; exact ho) hL'
        simpa using this
      · cases h
    · cases h

/-- What is left to do, done. -/
def EvD (P : Program) (T : Tys) (n : Nat) : Ex → List It → St → Ex → St → Prop
  | e1, [], s1, e, s => e1 = e ∧ s1 = s
  | e1, .seq y :: k, s1, e, s => (e1 = .normal ∧ ∃ e2 s2, Ev P T (.code n y s1 e2 s2) ∧ EvD P T n e2 k s2 e s) ∨ (e1 ≠ .normal ∧ EvD P T n e1 k s1 e s)
  | e1, .blk id :: k, s1, e, s => ((e1 = .normal ∨ e1 = .exit id) ∧ EvD P T n .normal k s1 e s) ∨ (e1 ≠ .normal ∧ e1 ≠ .exit id ∧ EvD P T n e1 k s1 e s)
  | e1, .lp c :: k, s1, e, s => (e1 = .normal ∧ ∃ e2 s2, Ev P T (.code n (.loop c) s1 e2 s2) ∧ EvD P T n e2 k s2 e s) ∨ (e1 ≠ .normal ∧ EvD P T n e1 k s1 e s)

def EvK (P : Program) (T : Tys) (n : Nat) (cur : Cur) (k : List It) (s : St) (e : Ex) (s' : St) : Prop :=
  match cur with
  | .code c => ∃ e1 s1, Ev P T (.code n c s e1 s1) ∧ EvD P T n e1 k s1 e s'
  | .done e1 => EvD P T n e1 k s e s'

/-- What a reckoning tells. -/
def ResOk (P : Program) (T : Tys) (n : Nat) : RR → Ex → St → Prop
  | .fin e0 s0 _ _, e, s => e0 = e ∧ s0 = s
  | .stop c k s1 _ _, e, s => ∃ e1 s2, Ev P T (.code n (.loop c) s1 e1 s2) ∧ EvD P T n e1 k s2 e s

def RR.cs : RR → List Prop
  | .fin _ _ _ cs => cs
  | .stop _ _ _ _ cs => cs

theorem isN_ok {e : Ex} : e.isN = true ↔ e = .normal := by cases e <;> simp [Ex.isN]
theorem leaves_ok {e : Ex} {id : Nat} : e.leaves id = true ↔ e = .normal ∨ e = .exit id := by cases e <;> simp [Ex.leaves]

theorem runE_ok (hC : CfOk C) (hrc : RcOk C rc) {fn : FuncId} {n : Nat} : ∀ {m : Nat} {cur : Cur} {k : List It} {s : St} {or : Or} {cs : List Prop} {R : RR},
    runE C rc fn m cur k s or cs = some R → (∀ x ∈ R.cs, x) → (∀ x ∈ cs, x) ∧ ∀ e s', ResOk C.P C.T n R e s' → EvK C.P C.T n cur k s e s' := by
  have app : ∀ {a b : List Prop}, (∀ x ∈ a ++ b, x) → (∀ x ∈ a, x) ∧ (∀ x ∈ b, x) := fun h => ⟨fun x hx => h x (List.mem_append_left _ hx), fun x hx => h x (List.mem_append_right _ hx)⟩
  intro m
  induction m with
  | zero => intro cur k s or cs R h; simp [runE] at h
  | succ m ih =>
    intro cur k s or cs R h hc
    cases cur with
    | code c =>
      simp only [runE] at h
      split at h
      · simp only [Option.some.injEq] at h
        subst h
        exact absurd (hc False (by simp [RR.cs])) id
      split at h
      · obtain ⟨h1, h2⟩ := ih h hc
        exact ⟨h1, fun e s' hr => ⟨.normal, s, .skip .., h2 e s' hr⟩⟩
      · rename_i x y
        obtain ⟨h1, h2⟩ := ih h hc
        refine ⟨h1, fun e s' hr => ?_⟩
        obtain ⟨e1, s1, g1, g2⟩ := h2 e s' hr
        rcases g2 with ⟨rfl, e2, s2, g3, g4⟩ | ⟨hne, g3⟩
        · exact ⟨e2, s2, .seqN _ _ _ _ _ _ _ g1 g3, g4⟩
        · exact ⟨e1, s1, .seqX _ _ _ _ _ _ hne g1, g3⟩
      · rename_i o x y
        split at h
        · rename_i b hb
          split at h
          · rename_i or1 c1 hch
            obtain ⟨h1, h2⟩ := ih h hc
            obtain ⟨h3, h4⟩ := app h1
            refine ⟨h4, fun e s' hr => ?_⟩
            obtain ⟨e1, s1, g1, g2⟩ := h2 e s' hr
            obtain rfl := choose_ok hch h3
            exact ⟨e1, s1, .cond _ _ _ _ _ _ _ true hb g1, g2⟩
          · rename_i or1 c1 hch
            obtain ⟨h1, h2⟩ := ih h hc
            obtain ⟨h3, h4⟩ := app h1
            refine ⟨h4, fun e s' hr => ?_⟩
            obtain ⟨e1, s1, g1, g2⟩ := h2 e s' hr
            obtain rfl := choose_ok hch h3
            exact ⟨e1, s1, .cond _ _ _ _ _ _ _ false hb g1, g2⟩
          · cases h
        · cases h
      · rename_i id x
        obtain ⟨h1, h2⟩ := ih h hc
        refine ⟨h1, fun e s' hr => ?_⟩
        obtain ⟨e1, s1, g1, g2⟩ := h2 e s' hr
        rcases g2 with ⟨hx, g3⟩ | ⟨hn1, hn2, g3⟩
        · exact ⟨.normal, s1, .blockN _ _ _ _ _ _ hx g1, g3⟩
        · exact ⟨e1, s1, .blockX _ _ _ _ _ _ hn2 hn1 g1, g3⟩
      · rename_i x
        split at h
        · simp only [Option.some.injEq] at h
          subst h
          exact ⟨hc, fun e s' hr => hr⟩
        · obtain ⟨h1, h2⟩ := ih h hc
          refine ⟨h1, fun e s' hr => ?_⟩
          obtain ⟨e1, s1, g1, g2⟩ := h2 e s' hr
          rcases g2 with ⟨rfl, e2, s2, g3, g4⟩ | ⟨hne, g3⟩
          · exact ⟨e2, s2, .loopN _ _ _ _ _ _ g1 g3, g4⟩
          · exact ⟨e1, s1, .loopX _ _ _ _ _ hne g1, g3⟩
      · rename_i id
        obtain ⟨h1, h2⟩ := ih h hc
        exact ⟨h1, fun e s' hr => ⟨.exit id, s, .exit .., h2 e s' hr⟩⟩
      · obtain ⟨h1, h2⟩ := ih h hc
        exact ⟨h1, fun e s' hr => ⟨.ret, s, .ret .., h2 e s' hr⟩⟩
      · rename_i id ops d
        split at h
        · rename_i s1 or1 c1 hreg
          obtain ⟨h1, h2⟩ := ih h hc
          obtain ⟨h3, h4⟩ := app h1
          exact ⟨h4, fun e s' hr => ⟨.normal, s1, regionE_ok hC hrc hreg h3, h2 e s' hr⟩⟩
        · cases h
      · cases h
    | done e0 =>
      simp only [runE] at h
      split at h
      · simp only [Option.some.injEq] at h
        subst h
        exact absurd (hc False (by simp [RR.cs])) id
      split at h
      · simp only [Option.some.injEq] at h
        subst h
        exact ⟨hc, fun e s' hr => hr⟩
      · rename_i y k'
        split at h
        · rename_i hN
          obtain ⟨h1, h2⟩ := ih h hc
          exact ⟨h1, fun e s' hr => .inl ⟨isN_ok.1 hN, h2 e s' hr⟩⟩
        · rename_i hN
          obtain ⟨h1, h2⟩ := ih h hc
          exact ⟨h1, fun e s' hr => .inr ⟨fun q => hN (isN_ok.2 q), h2 e s' hr⟩⟩
      · rename_i id k'
        split at h
        · rename_i hN
          obtain ⟨h1, h2⟩ := ih h hc
          exact ⟨h1, fun e s' hr => .inl ⟨leaves_ok.1 hN, h2 e s' hr⟩⟩
        · rename_i hN
          obtain ⟨h1, h2⟩ := ih h hc
          exact ⟨h1, fun e s' hr => .inr ⟨fun q => hN (leaves_ok.2 (.inl q)), fun q => hN (leaves_ok.2 (.inr q)), h2 e s' hr⟩⟩
      · rename_i c k'
        split at h
        · rename_i hN
          obtain ⟨h1, h2⟩ := ih h hc
          refine ⟨h1, fun e s' hr => .inl ⟨isN_ok.1 hN, h2 e s' hr⟩⟩
        · rename_i hN
          obtain ⟨h1, h2⟩ := ih h hc
          exact ⟨h1, fun e s' hr => .inr ⟨fun q => hN (isN_ok.2 q), h2 e s' hr⟩⟩

theorem callE_ok (hC : CfOk C) {m : Nat} : ∀ {d : Nat}, RcOk C (callE C m d)
  | 0 => fun k args H or R h => by simp [callE] at h
  | d + 1 => fun k args H or R h hc => by
    simp only [callE] at h
    split at h
    · rename_i fn hf
      split at h
      · rename_i code hb
        split at h
        · cases h
        · rename_i hn
          have hn' : (fn.name == "runtime.NumGoroutine") = false := by simpa using hn
          split at h
          · cases h
          · rename_i e s' or' cs' hne hrun
            split at h
            · simp only [Option.some.injEq] at h
              subst h
              exact absurd (hc False (by simp)) id
            split at h
            · rename_i r hr
              simp only [Option.some.injEq] at h
              subst h
              simp only at hc ⊢
              obtain ⟨_, h2⟩ := runE_ok (n := H.length) hC (callE_ok hC) hrun hc
              obtain ⟨e1, s1, g1, g2, g3⟩ := h2 e s' ⟨rfl, rfl⟩
              subst g2; subst g3
              refine ⟨[], ?_⟩
              rw [List.append_nil]
              refine .call k args H fn code e1 s1 r hf hb hn' ?_ hr g1
              cases e1 with
              | normal => exact .inl rfl
              | ret => exact .inr rfl
              | exit i => exact (hne i rfl).elim
            · cases h
          · cases h
      · cases h
    · cases h

end
end Go.Proofs.Ytifpbdhggooelaa.GD
