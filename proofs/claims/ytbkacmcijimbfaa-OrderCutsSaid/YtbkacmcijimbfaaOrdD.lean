/- Cut, By, Same: what they come to. -/
import Derived.Test.YtbkacmcijimbfaaOrdC
namespace Go.Proofs.Ytbkacmcijimbfaa.ordk
open Go Ytbkacmcijimbfaa.GD valk
set_option linter.unusedVariables false
set_option linter.unusedSimpArgs false
set_option maxRecDepth 100000

theorem cmp_self {a : Cs} (ha : VS a) : cmpV a a = 0 := by
  have := (cmp_R ha ha).2
  omega

/-! ### a row's item -/
def ctOf : Cs → CT
  | [.int _ k, .int _ n, .str s, .slice xb eb _, .slice xf ef _, .slice xl el _] => (k, n, s, xb, eb, xf, ef, xl, el)
  | _ => (0, 0, ByteArray.mk #[], false, [], false, [], false, [])
def valAt (es : Es) (i : Nat) : Cs := match es[i]? with | some c => c | none => zeroV
def atE (es : Es) (i : Int) : CT := ctOf (valAt es i.toNat)
theorem cells_val (k n : Int) (s : ByteArray) (xb : Bool) (eb : Es) (xf : Bool) (ef : Es) (xl : Bool) (el : Es) : cellsT (ctOf (valk.val k n s xb eb xf ef xl el)) = valk.val k n s xb eb xf ef xl el := rfl
theorem vs_at {es : Es} (h : ∀ r ∈ es, VS r) (i : Nat) : VS (valAt es i) := by
  unfold valAt
  by_cases hi : i < es.length
  · rw [List.getElem?_eq_getElem hi]; exact h _ (List.getElem_mem hi)
  · rw [List.getElem?_eq_none (by omega)]; exact vs_zero
theorem cells_at {es : Es} (h : ∀ r ∈ es, VS r) (i : Nat) : cellsT (atE es i) = valAt es i := by
  unfold atE
  rw [Int.toNat_natCast]
  obtain ⟨k, n, s, xb, eb, xf, ef, xl, el, he⟩ := (vs_at h i).get
  rw [he, cells_val]
theorem val_lt {es : Es} {i : Nat} (hi : i < es.length) : valAt es i = es[i] := by unfold valAt; rw [List.getElem?_eq_getElem hi]
theorem val_ge {es : Es} {i : Nat} (hi : es.length ≤ i) : valAt es i = zeroV := by unfold valAt; rw [List.getElem?_eq_none hi]
theorem at58 (xb : Bool) {es : Es} (h : ∀ r ∈ es, VS r) (i : Nat) : Ret P T 58 [.slice xb es none, .int .i64 i] [] (.agg (cellsT (atE es i))) [] := by
  rw [cells_at h]
  by_cases hi : i < es.length
  · rw [val_lt hi]
    obtain ⟨k, n, s, yb, eb, yf, ef, yl, el, he⟩ := (h _ (List.getElem_mem hi)).get
    rw [he]
    exact rat_in_1 (by omega) (by omega) (by rw [Int.toNat_natCast, List.getElem?_eq_getElem hi, he])
  · rw [val_ge (by omega)]
    exact rat_in_0 (by omega)

/-! ### By -/
def isDn (ed : Es) (i : Nat) : Bool := match ed[i]? with | some [.bool b] => b | _ => false
def byI (a b d : Es) (i : Nat) : Int := if isDn d i then -cmpV (valAt a i) (valAt b i) else cmpV (valAt a i) (valAt b i)
/-- So many places from one on. -/
def byN (a b d : Es) : Nat → Nat → Int
  | 0, _ => 0
  | m + 1, i => lx (byI a b d i) (byN a b d m (i + 1))
def byE (a b d : Es) : Int := byN a b d (max a.length b.length) 0

theorem wrap_neg {c : Int} (h : R3 c) : IntKind.i64.wrap (0 - c) = -c := by
  rcases h with h | h | h <;> (subst h; decide)

theorem by39 (xa : Bool) {ea : Es} (xb : Bool) {eb : Es} (xd : Bool) {ed : Es} (ha : ∀ r ∈ ea, VS r) (hb : ∀ r ∈ eb, VS r) (hd : ∀ r ∈ ed, ∃ b, r = [D.bool b]) (la : ea.length ≤ maxLen) (lb : eb.length ≤ maxLen) :
    Ret P T 39 [.slice xa ea none, .slice xb eb none, .slice xd ed none] [] (.int .i64 (byE ea eb ed)) [] := by
  have hmax : (if ((eb.length : Int)) > (ea.length : Int) then (eb.length : Int) else (ea.length : Int)) = ((max ea.length eb.length : Nat) : Int) := by
    split <;> omega
  have key : ∀ (m i : Nat), i + m = max ea.length eb.length → by__at0 atE xa ea xb eb xd ed i (.int .i64 (byN ea eb ed m i)) [] := by
    intro m
    induction m with
    | zero =>
      intro i hi
      exact by__0_6 (by rw [hmax]; omega)
    | succ m ihm =>
      intro i hi
      have hlt : ((i : Int)) < (if ((eb.length : Int)) > (ea.length : Int) then (eb.length : Int) else (ea.length : Int)) := by rw [hmax]; omega
      have hc : Ret P T 32 [.agg (cellsT (atE ea i)), .agg (cellsT (atE eb i))] [] (.int .i64 (cmpV (cellsT (atE ea i)) (cellsT (atE eb i)))) [] := by
        rw [cells_at ha, cells_at hb]; exact cmp32 (vs_at ha i) (vs_at hb i)
      have eC : cmpV (cellsT (atE ea i)) (cellsT (atE eb i)) = cmpV (valAt ea i) (valAt eb i) := by rw [cells_at ha, cells_at hb]
      have hR : R3 (cmpV (cellsT (atE ea i)) (cellsT (atE eb i))) := by rw [eC]; exact (cmp_R (vs_at ha i) (vs_at hb i)).1
      have hA := at58 xa ha i
      have hB := at58 xb hb i
      have hw := wrap_neg hR
      have hnext : by__at0 atE xa ea xb eb xd ed (IntKind.i64.wrap ((i : Int) + 1)) (.int .i64 (byN ea eb ed m (i + 1))) [] := by
        rw [up (n := max ea.length eb.length) (by omega) (by omega)]
        exact ihm (i + 1) (by omega)
      show by__at0 atE xa ea xb eb xd ed i (.int .i64 (lx (byI ea eb ed i) (byN ea eb ed m (i + 1)))) []
      by_cases hdl : i < ed.length
      · obtain ⟨b, hbb⟩ := hd _ (List.getElem_mem hdl)
        have hg : ed[((i : Int)).toNat]? = some [D.bool b] := by rw [Int.toNat_natCast, List.getElem?_eq_getElem hdl, hbb]
        have hdn : isDn ed i = b := by unfold isDn; rw [List.getElem?_eq_getElem hdl, hbb]
        unfold byI
        rw [hdn, ← eC]
        cases b with
        | true =>
          rw [if_pos rfl]
          by_cases hz : -cmpV (cellsT (atE ea i)) (cellsT (atE eb i)) = 0
          · rw [lx_zero hz]
            exact by__0_1 hlt (by omega) rfl (by show IntKind.i64.wrap (0 - cmpV (cellsT (atE ea i)) (cellsT (atE eb i))) = 0; rw [hw]; exact hz) (by omega) hg hc hB hA hnext
          · rw [lx_pos hz, ← hw]
            exact by__0_0 hlt (by omega) rfl (by show IntKind.i64.wrap (0 - cmpV (cellsT (atE ea i)) (cellsT (atE eb i))) ≠ 0; rw [hw]; exact hz) (by omega) hg hc hB hA
        | false =>
          rw [if_neg (by decide)]
          by_cases hz : cmpV (cellsT (atE ea i)) (cellsT (atE eb i)) = 0
          · rw [lx_zero hz]
            exact by__0_3 hlt (by omega) rfl hz (by omega) hg hc hB hA hnext
          · rw [lx_pos hz]
            exact by__0_2 hlt (by omega) rfl hz (by omega) hg hc hB hA
      · have hdn : isDn ed i = false := by unfold isDn; rw [List.getElem?_eq_none (by omega)]
        unfold byI
        rw [hdn, ← eC, if_neg (by decide)]
        by_cases hz : cmpV (cellsT (atE ea i)) (cellsT (atE eb i)) = 0
        · rw [lx_zero hz]
          exact by__0_5 hlt (by omega) hz hc hB hA hnext
        · rw [lx_pos hz]
          exact by__0_4 hlt (by omega) hz hc hB hA
  exact by__in_0 (by simpa [byE] using key (max ea.length eb.length) 0 (by omega))

/-! ### Cut -/
def cutL (dn : Bool) : Cs → Es → Cs
  | best, [] => best
  | best, x :: r => cutL dn (if (if dn then cmpV x best > 0 else cmpV x best < 0) then x else best) r
def cutV (v : Cs) (dn : Bool) : Cs :=
  match v with
  | [.int _ k, _, _, _, _, .slice _ el _] => if k = 7 then cutL dn (valAt el 0) el else v
  | _ => v
theorem cut_val (k n : Int) (s : ByteArray) (xb : Bool) (eb : Es) (xf : Bool) (ef : Es) (xl : Bool) (el : Es) (dn : Bool) : cutV (valk.val k n s xb eb xf ef xl el) dn = if k = 7 then cutL dn (valAt el 0) el else valk.val k n s xb eb xf ef xl el := rfl
theorem vs_cutL (dn : Bool) : ∀ (l : Es) (best : Cs), VS best → (∀ r ∈ l, VS r) → VS (cutL dn best l)
  | [], best, h, _ => h
  | x :: r, best, h, hl => by
    rw [cutL]
    refine vs_cutL dn r _ ?_ (fun y hy => hl y (List.mem_cons_of_mem _ hy))
    by_cases hc : (if dn then cmpV x best > 0 else cmpV x best < 0)
    · rw [if_pos hc]; exact hl x (by simp)
    · rw [if_neg hc]; exact h
theorem vs_cut {v : Cs} (hv : VS v) (dn : Bool) : VS (cutV v dn) := by
  have hv0 := hv
  cases hv with
  | mk k n s xb eb xf ef xl el bs hk hn hs hb hb' lb lf ll nb nf nl hf hfv hl =>
    rw [cut_val]
    split
    · exact vs_cutL dn _ _ (vs_at hl 0) hl
    · exact hv0

theorem cut36 {v : Cs} (hv : VS v) (dn : Bool) : Ret P T 36 [.agg v, .bool dn] [] (.agg (cutV v dn)) [] := by
  cases hv with
  | mk k n s xb eb xf ef xl el bs hk hn hs hb hb' lb lf ll nb nf nl hf hfv hl =>
    rw [cut_val]
    by_cases h7 : k = 7
    · rw [if_pos h7]
      have key : ∀ (m i : Nat) (c0 c1 : Int) (c2 : ByteArray) (c3 : Bool) (c4 : Es) (c5 : Bool) (c6 : Es) (c7 : Bool) (c8 : Es), i + m = el.length → VS (valk.val c0 c1 c2 c3 c4 c5 c6 c7 c8) →
          ct_at0 cmpV atE k n s xb eb xf ef xl el dn i c0 c1 c2 c3 c4 c5 c6 c7 c8 (.agg (cutL dn (valk.val c0 c1 c2 c3 c4 c5 c6 c7 c8) (el.drop i))) [] := by
        intro m
        induction m with
        | zero =>
          intro i c0 c1 c2 c3 c4 c5 c6 c7 c8 hi hbest
          rw [List.drop_of_length_le (by omega)]
          exact ct_0_6 (by omega)
        | succ m ihm =>
          intro i c0 c1 c2 c3 c4 c5 c6 c7 c8 hi hbest
          have hlt : i < el.length := by omega
          have hvx := hl _ (List.getElem_mem hlt)
          have hc := cmp32 hvx hbest
          obtain ⟨ck, cn, cs, yb, cb, yf, cf, yl, cl, hrow⟩ := hvx.get
          have hg : el[((i : Int)).toNat]? = some (valk.val ck cn cs yb cb yf cf yl cl) := by rw [Int.toNat_natCast, List.getElem?_eq_getElem hlt, hrow]
          rw [List.drop_eq_getElem_cons hlt]
          rw [hrow] at hc hvx ⊢
          rw [cutL]
          have n1 := ihm (i + 1) ck cn cs yb cb yf cf yl cl (by omega) hvx
          have n2 := ihm (i + 1) c0 c1 c2 c3 c4 c5 c6 c7 c8 (by omega) hbest
          rw [← up hlt ll] at n1 n2
          cases dn with
          | true =>
            simp only [if_true]
            by_cases hp : cmpV (valk.val ck cn cs yb cb yf cf yl cl) (valk.val c0 c1 c2 c3 c4 c5 c6 c7 c8) > 0
            · rw [if_pos hp]
              exact ct_0_3 (by omega) (by show ¬ (cmpV (valk.val ck cn cs yb cb yf cf yl cl) (valk.val c0 c1 c2 c3 c4 c5 c6 c7 c8) < 0); omega) hp rfl hc (by omega) hg n1
            · rw [if_neg hp]
              by_cases hq : cmpV (valk.val ck cn cs yb cb yf cf yl cl) (valk.val c0 c1 c2 c3 c4 c5 c6 c7 c8) < 0
              · exact ct_0_1 (by omega) hq rfl hp hc (by omega) hg n2
              · exact ct_0_5 (by omega) hq hp hc (by omega) hg n2
          | false =>
            simp only [Bool.false_eq_true, if_false]
            by_cases hq : cmpV (valk.val ck cn cs yb cb yf cf yl cl) (valk.val c0 c1 c2 c3 c4 c5 c6 c7 c8) < 0
            · rw [if_pos hq]
              exact ct_0_2 (by omega) hq rfl hc (by omega) hg n1
            · rw [if_neg hq]
              by_cases hp : cmpV (valk.val ck cn cs yb cb yf cf yl cl) (valk.val c0 c1 c2 c3 c4 c5 c6 c7 c8) > 0
              · exact ct_0_4 (by omega) hq hp rfl hc (by omega) hg n2
              · exact ct_0_5 (by omega) hq hp hc (by omega) hg n2
      have h0 := at58 xl hl 0
      have hv0 := vs_at hl 0
      have e0 := cells_at hl 0
      have k0 := key el.length 0 (atE el 0).1 (atE el 0).2.1 (atE el 0).2.2.1 (atE el 0).2.2.2.1 (atE el 0).2.2.2.2.1 (atE el 0).2.2.2.2.2.1 (atE el 0).2.2.2.2.2.2.1 (atE el 0).2.2.2.2.2.2.2.1 (atE el 0).2.2.2.2.2.2.2.2 (by omega) (by
        show VS (cellsT (atE el ((0 : Nat) : Int)))
        rw [e0]; exact hv0)
      rw [← e0]
      exact ct_in_1 h7 h0 k0
    · rw [if_neg h7]
      exact ct_in_0 (cV := cmpV) (gat := atE) h7


/-! ### the reference's Cut -/
theorem cut40 {v : Cs} (hv : VS v) (dn : Bool) : Ret P T 40 [.agg v, .bool dn] [] (.agg (cutV v dn)) [] := by
  cases hv with
  | mk k n s xb eb xf ef xl el bs hk hn hs hb hb' lb lf ll nb nf nl hf hfv hl =>
    rw [cut_val]
    by_cases h7 : k = 7
    · rw [if_pos h7]
      have key : ∀ (m i : Nat) (c0 c1 : Int) (c2 : ByteArray) (c3 : Bool) (c4 : Es) (c5 : Bool) (c6 : Es) (c7 : Bool) (c8 : Es), i ≠ 0 → i + m = el.length → VS (valk.val c0 c1 c2 c3 c4 c5 c6 c7 c8) →
          cr_at0 cmpV atE k n s xb eb xf ef xl el dn i c0 c1 c2 c3 c4 c5 c6 c7 c8 (.agg (cutL dn (valk.val c0 c1 c2 c3 c4 c5 c6 c7 c8) (el.drop i))) [] := by
        intro m
        induction m with
        | zero =>
          intro i c0 c1 c2 c3 c4 c5 c6 c7 c8 hi0 hi hbest
          rw [List.drop_of_length_le (by omega)]
          exact cr_0_5 (by omega)
        | succ m ihm =>
          intro i c0 c1 c2 c3 c4 c5 c6 c7 c8 hi0 hi hbest
          have hlt : i < el.length := by omega
          have hvx := hl _ (List.getElem_mem hlt)
          have hc := cmp33 hvx hbest
          obtain ⟨ck, cn, cs, yb, cb, yf, cf, yl, cl, hrow⟩ := hvx.get
          have hg : el[((i : Int)).toNat]? = some (valk.val ck cn cs yb cb yf cf yl cl) := by rw [Int.toNat_natCast, List.getElem?_eq_getElem hlt, hrow]
          rw [List.drop_eq_getElem_cons hlt]
          rw [hrow] at hc hvx ⊢
          rw [cutL]
          have n1 := ihm (i + 1) ck cn cs yb cb yf cf yl cl (by omega) (by omega) hvx
          have n2 := ihm (i + 1) c0 c1 c2 c3 c4 c5 c6 c7 c8 (by omega) (by omega) hbest
          rw [← up hlt ll] at n1 n2
          cases dn with
          | true =>
            simp only [if_true]
            by_cases hp : cmpV (valk.val ck cn cs yb cb yf cf yl cl) (valk.val c0 c1 c2 c3 c4 c5 c6 c7 c8) > 0
            · rw [if_pos hp]
              exact cr_0_1 (by omega) (by omega) rfl hp (by omega) hg hc hg n1
            · rw [if_neg hp]
              exact cr_0_2 (by omega) (by omega) rfl hp hc (by omega) hg n2
          | false =>
            simp only [Bool.false_eq_true, if_false]
            by_cases hq : cmpV (valk.val ck cn cs yb cb yf cf yl cl) (valk.val c0 c1 c2 c3 c4 c5 c6 c7 c8) < 0
            · rw [if_pos hq]
              exact cr_0_3 (by omega) (by omega) rfl hq (by omega) hg hc hg n1
            · rw [if_neg hq]
              exact cr_0_4 (by omega) (by omega) rfl hq hc (by omega) hg n2
      refine cr_in_1 (cV := cmpV) (gat := atE) h7 ?_
      by_cases h0 : 0 < el.length
      · have hvx := hl _ (List.getElem_mem h0)
        have hc := cmp33 hvx vs_zero
        have hself := cmp_self hvx
        obtain ⟨ck, cn, cs, yb, cb, yf, cf, yl, cl, hrow⟩ := hvx.get
        have hg : el[((0 : Int)).toNat]? = some (valk.val ck cn cs yb cb yf cf yl cl) := by rw [show ((0 : Int)).toNat = 0 from rfl, List.getElem?_eq_getElem h0, hrow]
        have eL : cutL dn (valAt el 0) el = cutL dn (valk.val ck cn cs yb cb yf cf yl cl) (el.drop 1) := by
          rw [val_lt h0, hrow]
          conv => lhs; rw [show el = el[0] :: el.drop 1 from by rw [← List.drop_eq_getElem_cons h0]; rfl, hrow]
          rw [cutL]
          rw [hrow] at hself
          congr 1
          rw [if_neg]
          rw [hself]
          cases dn <;> simp
        rw [eL]
        rw [hrow] at hc hvx
        have n1 := key (el.length - 1) 1 ck cn cs yb cb yf cf yl cl (by omega) (by omega) hvx
        exact cr_0_0 (by omega) rfl (by omega) hg hc hg n1
      · have e : el = [] := List.eq_nil_of_length_eq_zero (by omega)
        subst e
        exact cr_0_5 (by simp)
    · rw [if_neg h7]
      exact cr_in_0 (cV := cmpV) (gat := atE) h7

/-! ### facts of By -/
theorem byI_neg {a b d : Es} (ha : ∀ r ∈ a, VS r) (hb : ∀ r ∈ b, VS r) (i : Nat) : byI b a d i = -byI a b d i := by
  have h := (cmp_R (vs_at ha i) (vs_at hb i)).2
  unfold byI
  split <;> omega
theorem byN_neg {a b d : Es} (ha : ∀ r ∈ a, VS r) (hb : ∀ r ∈ b, VS r) : ∀ m i, byN b a d m i = -byN a b d m i
  | 0, _ => rfl
  | m + 1, i => by
    show lx (byI b a d i) (byN b a d m (i + 1)) = -lx (byI a b d i) (byN a b d m (i + 1))
    exact neg_lx (byI_neg ha hb i) fun _ => byN_neg ha hb m (i + 1)
theorem byE_neg {a b : Es} (d : Es) (ha : ∀ r ∈ a, VS r) (hb : ∀ r ∈ b, VS r) : byE b a d = -byE a b d := by
  unfold byE
  rw [Nat.max_comm]
  exact byN_neg ha hb _ _
theorem byN_R {a b d : Es} (ha : ∀ r ∈ a, VS r) (hb : ∀ r ∈ b, VS r) : ∀ m i, R3 (byN a b d m i)
  | 0, _ => .inr (.inl rfl)
  | m + 1, i => by
    show R3 (lx (byI a b d i) (byN a b d m (i + 1)))
    refine R3.lx ?_ (byN_R ha hb m (i + 1))
    have h := (cmp_R (vs_at ha i) (vs_at hb i)).1
    unfold byI
    unfold R3 at *
    split <;> omega
theorem byE_R {a b : Es} (d : Es) (ha : ∀ r ∈ a, VS r) (hb : ∀ r ∈ b, VS r) : R3 (byE a b d) := byN_R ha hb _ _
theorem byE_self {a : Es} (d : Es) (ha : ∀ r ∈ a, VS r) : byE a a d = 0 := by
  have := byE_neg d ha ha
  omega

end Go.Proofs.Ytbkacmcijimbfaa.ordk
