/- One operation on data is what the machine does: operations that write nothing. -/
import Derived.Test.YtifpbdhggooelaaGd4
namespace Go.Proofs.Ytifpbdhggooelaa.GD
open Go
set_option linter.unusedVariables false
set_option linter.unusedSimpArgs false

variable {P : Program} {T : Tys}

def GoodV (P : Program) (s : Sem Value) (I : Im) (w : World) (μ : List Loc) (H : Heap) (r : SR) : Prop :=
  ∃ v I' w' μ', s.run P w = .ok v w' ∧ Ext μ.length I w μ H I' w' μ' (applyWr H r.wr) ∧
    WOk I' w' μ' (applyWr H r.wr) ∧ Rep I' w' μ' r.v v

section
variable {I : Im} {w : World} {μ : List Loc} {H : Heap}

theorem GoodV.good {s : Sem Value} {r : SR} (h : GoodV P s I w μ H r) : Good P (do pure (Next.value (← s))) I w μ H r := by
  obtain ⟨v, I', w', μ', h1, h2⟩ := h
  exact ⟨.value v, v, I', w', μ', by simp [h1], .inl rfl, h2⟩

theorem goodV_same {s : Sem Value} {v : Value} {r : SR} (hw : WOk I w μ H) (hr : s.run P w = .ok v w) (h0 : r.wr = []) (hv : Rep I w μ r.v v) : GoodV P s I w μ H r :=
  ⟨v, I, w, μ, hr, by rw [h0]; exact Ext.refl .., by rw [h0]; exact hw, hv⟩

theorem req_ok {h : Hint} {p : Prop} [Decidable p] {cs : List Prop} (hr : req h p = some cs) (hc : ∀ c ∈ cs, c) : p := by
  unfold req at hr
  split at hr
  · split at hr
    · assumption
    · cases hr
  · obtain rfl := Option.some.inj hr
    exact hc p (by simp)

theorem good_int {s : Sem Value} {k : IntKind} {n : Int} {cs : List Prop} (hw : WOk I w μ H) (hr : s.run P w = .ok (.int k n) w) :
    GoodV P s I w μ H { v := .int k n, cs } := goodV_same hw hr rfl (.pure (.int k n))
theorem good_bool {s : Sem Value} {b : Bool} {cs : List Prop} (hw : WOk I w μ H) (hr : s.run P w = .ok (.bool b) w) :
    GoodV P s I w μ H { v := .bool b, cs } := goodV_same hw hr rfl (.pure (.bool b))
theorem good_str {s : Sem Value} {b : ByteArray} {cs : List Prop} (hw : WOk I w μ H) (hr : s.run P w = .ok (.string b) w) :
    GoodV P s I w μ H { v := .str b, cs } := goodV_same hw hr rfl (.pure (.str b))

theorem bits_ok {op : BinOp} {k : IntKind} {a b n : Int} (h : bitsD op k a b = some n) (w : World) : (Op.intBits op k a b).run P w = .ok (.int k n) w := by
  cases op <;> simp only [bitsD, Option.some.injEq, reduceCtorEq] at h <;> subst h <;> rfl

theorem cmp_ok {op : BinOp} {a b : Int} {c : Bool} (h : intCmpD op a b = some c) (w : World) : (Op.intCmp op a b).run P w = .ok (.bool c) w := by
  cases op <;> simp only [intCmpD, Option.some.injEq, reduceCtorEq] at h <;> subst h <;> rfl

theorem arith_ok (op : BinOp) (k : IntKind) (a b : Int) (w : World) : (binOp op 0 (.int k a) (.int k b)).run P w = (binOp op 0 (.int k a) (.int k b)).run P w := rfl

theorem binInt {h : Hint} {op : BinOp} {t : TypeId} {x y : Operand} {ρ : Operand → D} {k k' : IntKind} {a b : Int} {r : SR} (hw : WOk I w μ H)
    (hx : ρ x = .int k a) (hy : ρ y = .int k' b) (hr : binF T op t x y ρ h = some r) (hc : ∀ c ∈ r.cs, c) :
    GoodV P (do eqGuard op t x y (.int k a) (.int k' b); binOp op t (.int k a) (.int k' b)) I w μ H r := by
  unfold binF at hr
  rw [hx, hy] at hr
  have hg : (eqGuard op t x y (.int k a) (.int k' b)).run P w = .ok () w := by
    unfold eqGuard; cases op <;> rfl
  have key : ∀ {s : Sem Value}, s = binOp op t (.int k a) (.int k' b) → GoodV P s I w μ H r → GoodV P (do eqGuard op t x y (.int k a) (.int k' b); binOp op t (.int k a) (.int k' b)) I w μ H r := by
    rintro s rfl ⟨v, I', w', μ', h1, h2⟩
    exact ⟨v, I', w', μ', by simp [hg, h1], h2⟩
  refine key rfl ?_
  dsimp only at hr
  cases op <;> dsimp only at hr <;> first
    | (obtain ⟨cs, hq, rfl⟩ := Option.map_eq_some_iff.1 hr
       have hb := req_ok hq hc
       refine good_int hw ?_
       simp [binOp, Op.shift, show ¬ b < 0 by omega]; done)
    | (split at hr
       · rename_i hk
         subst hk
         first
           | (obtain rfl := Option.some.inj hr
              refine good_int hw ?_
              simp [binOp, Op.intArith]; done)
           | (obtain ⟨cs, hq, rfl⟩ := Option.map_eq_some_iff.1 hr
              have hb := req_ok hq hc
              refine good_int hw ?_
              simp [binOp, Op.intDiv, hb]; done)
           | (obtain ⟨n, hn, rfl⟩ := Option.map_eq_some_iff.1 hr
              refine good_int hw ?_
              simp only [binOp, ne_eq, not_true_eq_false, if_false]
              exact bits_ok hn w)
           | (obtain ⟨n, hn, rfl⟩ := Option.map_eq_some_iff.1 hr
              refine good_bool hw ?_
              simp only [binOp, ne_eq, not_true_eq_false, if_false]
              exact cmp_ok hn w)
       · cases hr)

theorem binStr {h : Hint} {op : BinOp} {t : TypeId} {x y : Operand} {ρ : Operand → D} {a b : ByteArray} {r : SR} (hw : WOk I w μ H)
    (hx : ρ x = .str a) (hy : ρ y = .str b) (hr : binF T op t x y ρ h = some r) (hc : ∀ c ∈ r.cs, c) :
    GoodV P (do eqGuard op t x y (.string a) (.string b); binOp op t (.string a) (.string b)) I w μ H r := by
  unfold binF at hr
  rw [hx, hy] at hr
  have hg : (eqGuard op t x y (.string a) (.string b)).run P w = .ok () w := by
    unfold eqGuard; cases op <;> rfl
  have key : ∀ {s : Sem Value}, s = Op.stringOp op a b → binOp op t (.string a) (.string b) = s → GoodV P s I w μ H r → GoodV P (do eqGuard op t x y (.string a) (.string b); binOp op t (.string a) (.string b)) I w μ H r := by
    rintro s rfl e ⟨v, I', w', μ', h1, h2⟩
    exact ⟨v, I', w', μ', by simp [hg, e, h1], h2⟩
  refine key rfl (by cases op <;> rfl) ?_
  dsimp only at hr
  cases op <;> dsimp only at hr <;> first
    | (obtain ⟨cs, hq, rfl⟩ := Option.map_eq_some_iff.1 hr
       have hb := req_ok hq hc
       refine good_str hw ?_
       have h1 : ¬ (((a.size + b.size : Nat) : Int) > IntKind.i64.max) := by
         have : IntKind.i64.max = 9223372036854775807 := by decide
         rw [this]; omega
       simp only [Op.stringOp, if_neg h1]; rfl)
    | (obtain rfl := Option.some.inj hr
       refine good_bool hw ?_
       rfl)
    | (cases hr; done)

theorem isNil_const {x : Operand} (h : isNilV x = true) : ∃ v, x = .const v := by
  unfold isNilV at h; split at h <;> first | exact ⟨_, rfl⟩ | cases h

theorem tk_ptr {d : TypeDesc} {e : TypeId} (h : TK.ptr e = tkOf d) : d = .pointer e := by cases d <;> simp [tkOf] at h <;> simp [h]
theorem tk_slice {d : TypeDesc} {e : TypeId} (h : TK.slice e = tkOf d) : d = .slice e := by cases d <;> simp [tkOf] at h <;> simp [h]
theorem tk_iface {d : TypeDesc} (h : TK.iface = tkOf d) : ∃ ms, d = .interface ms := by cases d <;> simp [tkOf] at h <;> exact ⟨_, rfl⟩
theorem tk_func {d : TypeDesc} (h : TK.func = tkOf d) : ∃ a b c, d = .func a b c := by cases d <;> simp [tkOf] at h <;> exact ⟨_, _, _, rfl⟩
theorem tk_map {d : TypeDesc} {a b : TypeId} (h : TK.map a b = tkOf d) : d = .map a b := by cases d <;> simp [tkOf] at h <;> simp [h]
theorem tk_bool {d : TypeDesc} (h : TK.bool = tkOf d) : d = .bool := by cases d <;> simp [tkOf] at h <;> rfl
theorem tk_str {d : TypeDesc} (h : TK.str = tkOf d) : d = .string := by cases d <;> simp [tkOf] at h <;> rfl
theorem tk_int {d : TypeDesc} {k : IntKind} (h : TK.int k = tkOf d) : d = .int k := by cases d <;> simp [tkOf] at h <;> simp [h]
theorem tk_array {d : TypeDesc} {n : Nat} {e : TypeId} (h : TK.array n e = tkOf d) : d = .array n e := by cases d <;> simp [tkOf] at h <;> simp [h]
theorem tk_struct {d : TypeDesc} {fs : List (TypeId × Nat)} (h : TK.struct fs = tkOf d) : ∃ gs, d = .struct gs ∧ fs = gs.toList.map fun f => (f.type, f.offset) := by
  cases d <;> simp [tkOf] at h <;> exact ⟨_, rfl, h⟩

theorem nilEq_ok {t : TypeId} {y : Ty} {a b : D} {va vb : Value} {c : Bool} (hT : TOk P T) (ht : T t = some y) (ha : Rep I w μ a va) (hb : Rep I w μ b vb)
    (hn : nilEq y.k a b = some c) : (Op.equal t va vb).run P w = .ok c w := by
  obtain ⟨i, d, hi, hd, hyk, _⟩ := ty_of hT ht
  have hu : (underlying t).run P w = .ok d w := run_underlying hd w
  unfold nilEq at hn
  rw [show Op.equal t va vb = Op.equalIn (9999 + 1) t va vb from rfl]
  unfold Op.equalIn
  split at hn <;> simp only [Option.some.injEq, reduceCtorEq] at hn
  all_goals (rename_i hk; rw [hk] at hyk)
  · obtain rfl := tk_ptr hyk; obtain rfl := rep_pnil ha; obtain rfl := rep_pnil hb; subst hn; simp [hu]
  · obtain rfl := tk_ptr hyk; obtain rfl := rep_pnil ha; obtain ⟨m, _, _, rfl⟩ := rep_ptr hb; subst hn; simp [hu]
  · obtain rfl := tk_ptr hyk; obtain rfl := rep_pnil hb; obtain ⟨m, _, _, rfl⟩ := rep_ptr ha; subst hn; simp [hu]
  · obtain rfl := tk_ptr hyk; obtain rfl := rep_pnil ha; obtain ⟨m, _, rfl, _⟩ := rep_sptr hb; subst hn; simp [hu]
  · obtain rfl := tk_ptr hyk; obtain rfl := rep_pnil hb; obtain ⟨m, _, rfl, _⟩ := rep_sptr ha; subst hn; simp [hu]
  · obtain rfl := tk_slice hyk
    rcases rep_slice hb with ⟨_, _, rfl⟩ | ⟨h, _⟩
    · rcases rep_slice ha with ⟨rfl, _, rfl⟩ | ⟨rfl, a, cap, rfl, _⟩ <;> subst hn <;> simp [hu]
    · cases h
  · obtain rfl := tk_slice hyk
    rcases rep_slice hb with ⟨_, _, rfl⟩ | ⟨h, _⟩
    · obtain ⟨m, a, _, _, _, _, rfl⟩ := rep_view ha; subst hn; simp [hu]
    · cases h
  · obtain ⟨ms, rfl⟩ := tk_iface hyk; obtain rfl := rep_inil ha; obtain rfl := rep_inil hb; subst hn; simp [hu]
  · obtain ⟨ms, rfl⟩ := tk_iface hyk; obtain rfl := rep_inil ha; obtain ⟨u, rfl, _⟩ := rep_iface hb; subst hn; simp [hu]
  · obtain ⟨ms, rfl⟩ := tk_iface hyk; obtain rfl := rep_inil hb; obtain ⟨u, rfl, _⟩ := rep_iface ha; subst hn; simp [hu]
  · obtain ⟨_, _, _, rfl⟩ := tk_func hyk; obtain rfl := rep_fnil ha; obtain rfl := rep_fnil hb; subst hn; simp [hu]
  · obtain ⟨_, _, _, rfl⟩ := tk_func hyk; obtain rfl := rep_fnil ha; obtain ⟨_, _, rfl, _⟩ := rep_func hb; subst hn; simp [hu]
  · obtain ⟨_, _, _, rfl⟩ := tk_func hyk; obtain rfl := rep_fnil hb; obtain ⟨_, _, rfl, _⟩ := rep_func ha; subst hn; simp [hu]
  · obtain rfl := tk_map hyk; obtain rfl := rep_mnil ha; obtain rfl := rep_mnil hb; subst hn; simp [hu]
  · obtain rfl := tk_map hyk; obtain rfl := rep_mnil hb
    have : ∃ m, va = .map (some m) := by
      cases ha with
      | pure h => cases h
      | mapp _ m => exact ⟨_, rfl⟩
    obtain ⟨m, rfl⟩ := this
    subst hn; simp [hu]

def eqOut (op : BinOp) (c : Bool) : Bool := match op with | .eql => c | _ => !c

/-- What may stand on both sides where one is compared with nil. -/
theorem nilEq_form {k : TK} {a b : D} {c : Bool} {va vb : Value} (h : nilEq k a b = some c) (ha : Rep I w μ a va) (hb : Rep I w μ b vb) (op : BinOp) (t : TypeId)
    (hop : op = .eql ∨ op = .neq) : (binOp op t va vb).run P w = (do let e ← Op.equal t va vb; pure (Value.bool (eqOut op e)) : Sem Value).run P w := by
  have hA : (∃ x, va = .pointer x) ∨ (∃ x n c, va = .slice x n c) ∨ va = .nilIface ∨ (∃ t u, va = .iface t u) ∨ va = .nilFunc ∨ (∃ f x y, va = .func f x y) ∨ (∃ m, va = .map m) := by
    cases ha with
    | pure h' => cases h' <;> first
      | (exact .inl ⟨_, rfl⟩) | exact .inr (.inl ⟨_, _, _, rfl⟩) | exact .inr (.inr (.inl rfl)) | exact .inr (.inr (.inr (.inl ⟨_, _, rfl⟩)))
      | exact .inr (.inr (.inr (.inr (.inl rfl)))) | exact .inr (.inr (.inr (.inr (.inr (.inl ⟨_, _, _, rfl⟩))))) | exact .inr (.inr (.inr (.inr (.inr (.inr ⟨_, rfl⟩)))))
      | (exfalso; revert h; cases k <;> simp [nilEq]; done)
    | agg => exfalso; revert h; cases k <;> simp [nilEq]
    | tuple => exfalso; revert h; cases k <;> simp [nilEq]
    | iter => exact .inl ⟨_, rfl⟩
    | ptr => exact .inl ⟨_, rfl⟩
    | tokN => exact .inr (.inl ⟨_, _, _, rfl⟩)
    | tok => exact .inr (.inl ⟨_, _, _, rfl⟩)
    | view => exact .inr (.inl ⟨_, _, _, rfl⟩)
    | func => exact .inr (.inr (.inr (.inr (.inr (.inl ⟨_, _, _, rfl⟩)))))
    | iface => exact .inr (.inr (.inr (.inl ⟨_, _, rfl⟩)))
    | mapp => exact .inr (.inr (.inr (.inr (.inr (.inr ⟨_, rfl⟩)))))
  have hB : (∃ x, vb = .pointer x) ∨ (∃ x n c, vb = .slice x n c) ∨ vb = .nilIface ∨ (∃ t u, vb = .iface t u) ∨ vb = .nilFunc ∨ (∃ f x y, vb = .func f x y) ∨ (∃ m, vb = .map m) := by
    cases hb with
    | pure h' => cases h' <;> first
      | (exact .inl ⟨_, rfl⟩) | exact .inr (.inl ⟨_, _, _, rfl⟩) | exact .inr (.inr (.inl rfl)) | exact .inr (.inr (.inr (.inl ⟨_, _, rfl⟩)))
      | exact .inr (.inr (.inr (.inr (.inl rfl)))) | exact .inr (.inr (.inr (.inr (.inr (.inl ⟨_, _, _, rfl⟩))))) | exact .inr (.inr (.inr (.inr (.inr (.inr ⟨_, rfl⟩)))))
      | (exfalso; revert h; unfold nilEq; split <;> simp_all; done)
    | agg => exfalso; revert h; unfold nilEq; split <;> simp_all
    | tuple => exfalso; revert h; unfold nilEq; split <;> simp_all
    | iter => exact .inl ⟨_, rfl⟩
    | ptr => exact .inl ⟨_, rfl⟩
    | tokN => exact .inr (.inl ⟨_, _, _, rfl⟩)
    | tok => exact .inr (.inl ⟨_, _, _, rfl⟩)
    | view => exact .inr (.inl ⟨_, _, _, rfl⟩)
    | func => exact .inr (.inr (.inr (.inr (.inr (.inl ⟨_, _, _, rfl⟩)))))
    | iface => exact .inr (.inr (.inr (.inl ⟨_, _, rfl⟩)))
    | mapp => exact .inr (.inr (.inr (.inr (.inr (.inr ⟨_, rfl⟩)))))
  rcases hop with rfl | rfl <;> (
    rcases hA with ⟨_, rfl⟩ | ⟨_, _, _, rfl⟩ | rfl | ⟨_, _, rfl⟩ | rfl | ⟨_, _, _, rfl⟩ | ⟨_, rfl⟩ <;>
    rcases hB with ⟨_, rfl⟩ | ⟨_, _, _, rfl⟩ | rfl | ⟨_, _, rfl⟩ | rfl | ⟨_, _, _, rfl⟩ | ⟨_, rfl⟩ <;> rfl)

end
end Go.Proofs.Ytifpbdhggooelaa.GD
