/- Keys: May, Plain, sign; Encode hands back a row's key. -/
import Derived.Test.YtlccdfilbiipmaaKvQ
import Derived.Test.YtlccdfilbiipmaaKvWY
import Derived.Test.YtlccdfilbiipmaaKvBy
import Derived.Test.YtlccdfilbiipmaaKvH
namespace Go.Proofs.Ytlccdfilbiipmaa.ordk
open Go Ytlccdfilbiipmaa.GD valk
set_option linter.unusedVariables false
set_option linter.unusedSimpArgs false
set_option maxRecDepth 100000

/-! ### May -/
/-- A document of one field without a name. -/
abbrev docOf (c : Cs) : Cs := valk.val 6 0 (ByteArray.mk #[]) false [] true [D.str (ByteArray.mk #[]) :: c] false []
theorem vs_doc {c : Cs} (h : VS c) : VS (docOf c) := by
  refine .mk 6 0 _ _ _ _ _ _ _ [] (by omega) (by omega) (by decide) rfl (fun x hx => by cases hx) (by decide) (show 1 ≤ maxLen by decide) (by decide) (fun _ => rfl) (fun hh => by cases hh) (fun _ => rfl) (fun r hr => ?_) (fun nm c' hm => ?_) (fun r hr => by cases hr)
  · simp only [List.mem_singleton] at hr
    exact ⟨_, c, hr, by decide⟩
  · simp only [List.mem_singleton, List.cons.injEq] at hm
    rw [hm.2]; exact h
theorem may18 {c : Cs} (h : VS c) : ∃ b, Ret P T 18 [.agg (docOf c)] [] (.bool b) [] ∧ (b = true → WF 31 c ∧ (encV c).length ≤ 700000) := by
  obtain ⟨⟨x, l, ok⟩, g, hok⟩ := own33 (vs_doc h) 1 (by omega)
  cases ok with
  | true =>
    refine ⟨true, may_in_1 (ox := fun _ _ => x) (oe := fun _ _ => rows l) (oo := fun _ _ => true) rfl rfl g, fun _ => ?_⟩
    obtain ⟨h1, h2, h3⟩ := hok rfl
    have hw := h2 32 (by omega)
    refine ⟨?_, ?_⟩
    · cases hw with
      | doc b _ _ _ _ _ _ _ hh => exact hh (ByteArray.mk #[]) c (by simp)
    · have e : (encV (docOf c)).length = 2 + (encFs [D.str (ByteArray.mk #[]) :: c]).length + (encLs []).length := encL_c (.inl rfl)
      have e2 : (encFs [D.str (ByteArray.mk #[]) :: c]).length ≥ (encV c).length := by
        rw [encFs, encFs, encF_eq]; simp; omega
      have h1' : l.length ≤ 70000 := h1
      have h3' : (encV (docOf c)).length ≤ 9 + 9 * l.length := h3
      omega
  | false => exact ⟨false, may_in_2 (ox := fun _ _ => x) (oe := fun _ _ => rows l) (oo := fun _ _ => false) rfl rfl g, fun hh => by cases hh⟩

/-! ### Same with Missing -/
theorem same_zero {v : Cs} (hv : VS v) : ∃ b, Ret P T 19 [.agg v, .agg zeroV] [] (.bool b) [] := by
  cases hv with
  | mk k n s xb eb xf ef xl el bs hk hn hs hb hb' lb lf ll nb nf nl hf hfv hl =>
    have hB : eb.all isByteC = true := by rw [bytes_rows hb]; exact allB_rows hb'
    by_cases h1 : k = 0
    · by_cases h2 : n = 0
      · by_cases h3 : s.toList = (ByteArray.mk #[]).toList
        · by_cases h4 : (GD.bytesOf eb).toList = (GD.bytesOf []).toList
          · by_cases h5 : (ef.length : Int) = (([] : Es).length : Int)
            · by_cases h6 : (el.length : Int) = (([] : Es).length : Int)
              · have e1 : ef = [] := List.length_eq_zero_iff.1 (by simpa using h5)
                have e2 : el = [] := List.length_eq_zero_iff.1 (by simpa using h6)
                subst e1
                subst e2
                exact ⟨true, sm_in_4 (cS := fun _ _ => true) h1 h2 h3 h4 h5 h6 rfl hB (sm_0_3 (by simp) (sm_1_2 (by simp)))⟩
              · exact ⟨false, sm_in_3 (cS := fun _ _ => true) h1 h2 h3 h4 h5 h6 rfl hB⟩
            · exact ⟨false, sm_in_2 (cS := fun _ _ => true) h1 h2 h3 h4 h5 rfl hB⟩
          · exact ⟨false, sm_in_5 (cS := fun _ _ => true) h1 h2 h3 h4 rfl hB⟩
        · exact ⟨false, sm_in_6 (cS := fun _ _ => true) h1 h2 h3⟩
      · exact ⟨false, sm_in_1 (cS := fun _ _ => true) h1 h2⟩
    · exact ⟨false, sm_in_0 (cS := fun _ _ => true) h1⟩

/-! ### few, plain -/
theorem few20b (es : Es) (hl : es.length ≤ maxLen) (hv : ∀ c ∈ es, VS c) : ∃ b, (b = true → es.length ≤ 30) ∧ ∀ xb, Ret P T 20 [.slice xb es none] [] (.bool b) [] := by
  have key : ∀ (m i : Nat) (t : Int), i + m = es.length → ∃ b, (b = true → es.length ≤ 30) ∧ ∀ xb, few_at0 smallB W xb es t i (.bool b) [] := by
    intro m
    induction m with
    | zero =>
      intro i t hi
      by_cases h : (es.length : Int) ≤ 30
      · exact ⟨_, fun _ => by omega, fun xb => few_0_2 (by omega) h⟩
      · exact ⟨false, (fun hh => by cases hh), fun xb => few_0_3 (by omega) h⟩
    | succ m ih =>
      intro i t hi
      have hlt : i < es.length := by omega
      have hvi := hv _ (List.getElem_mem hlt)
      obtain ⟨ck, cn, cs, yb, cb, yf, cf, yl, cl, hrow⟩ := hvi.get
      have hg : es[((i : Int)).toNat]? = some (valk.val ck cn cs yb cb yf cf yl cl) := by rw [Int.toNat_natCast, List.getElem?_eq_getElem hlt, hrow]
      rw [hrow] at hvi
      have h14 : Ret P T 24 [.agg (valk.val ck cn cs yb cb yf cf yl cl)] [] (.bool (smallB (valk.val ck cn cs yb cb yf cf yl cl))) [] := small hvi
      have h42 : Ret P T 25 [.agg (valk.val ck cn cs yb cb yf cf yl cl), .int .i64 3000] [] (.int .i64 (W (valk.val ck cn cs yb cb yf cf yl cl) 3000)) [] := W_ok (weight hvi 3000)
      cases hs : smallB (valk.val ck cn cs yb cb yf cf yl cl) with
      | false =>
        exact ⟨false, (fun hh => by cases hh), fun xb => few_0_1 (smB := smallB) (by omega) hs h14 (by omega) hg⟩
      | true =>
        obtain ⟨b, hb, g⟩ := ih (i + 1) (IntKind.i64.wrap (t + W (valk.val ck cn cs yb cb yf cf yl cl) 3000)) (by omega)
        refine ⟨b, hb, fun xb => few_0_0 (by omega) hs h42 (by omega) hg h14 hg ?_⟩
        rw [up hlt hl]
        exact g xb
  obtain ⟨b, hb, g⟩ := key es.length 0 0 (by omega)
  exact ⟨b, hb, fun xb => few_in_0 (g xb)⟩

/-- What stands in a row that is plain. -/
def PlainV (c : Cs) : Prop := (kindOf c = 0 ∧ (encV c).length = 1) ∨ (WF 31 c ∧ (encV c).length ≤ 700000)
def docInv : Cs → Cs
  | [_, _, _, _, .slice _ [_ :: c] _, _] => c
  | _ => []
open Classical in
noncomputable def myR (v : Cs) : Bool := if h : ∃ c, v = docOf c ∧ VS c then (may18 h.choose_spec.2).choose else false
theorem myR_ok {c : Cs} (h : VS c) : Ret P T 18 [.agg (docOf c)] [] (.bool (myR (docOf c))) [] ∧ (myR (docOf c) = true → WF 31 c ∧ (encV c).length ≤ 700000) := by
  have hx : ∃ c', docOf c = docOf c' ∧ VS c' := ⟨c, rfl, h⟩
  unfold myR
  rw [dif_pos hx]
  have e : hx.choose = c := (congrArg docInv hx.choose_spec.1).symm
  have hs := (may18 hx.choose_spec.2).choose_spec
  generalize (may18 hx.choose_spec.2).choose = b at hs ⊢
  rw [e] at hs
  exact hs
open Classical in
noncomputable def smR (a b : Cs) : Bool := if h : VS a then (same_zero h).choose else false
theorem smR_ok {a : Cs} (h : VS a) : Ret P T 19 [.agg a, .agg zeroV] [] (.bool (smR a zeroV)) [] := by
  unfold smR
  rw [dif_pos h]
  exact (same_zero h).choose_spec

theorem plain8 (es : Es) (hl : es.length ≤ maxLen) (hv : ∀ c ∈ es, VS c) : ∃ b, (b = true → es.length ≤ 30 ∧ ∀ c ∈ es, PlainV c) ∧ ∀ xb, Ret P T 8 [.slice xb es none] [] (.bool b) [] := by
  obtain ⟨fb, hfb, gf⟩ := few20b es hl hv
  have key : ∀ (m i : Nat), i + m = es.length → (∀ j, j < i → ∀ c, es[j]? = some c → PlainV c) → ∃ b, (b = true → es.length ≤ 30 ∧ ∀ c ∈ es, PlainV c) ∧ ∀ xb, pl_at0 myR smR (fun _ => fb) xb es i (.bool b) [] := by
    intro m
    induction m with
    | zero =>
      intro i hi hp
      refine ⟨fb, fun h => ⟨hfb h, fun c hc => ?_⟩, fun xb => pl_0_7 (by omega) (gf xb)⟩
      obtain ⟨j, hj, e⟩ := List.getElem_of_mem hc
      exact hp j (by omega) c (by rw [List.getElem?_eq_getElem hj, e])
    | succ m ih =>
      intro i hi hp
      have hlt : i < es.length := by omega
      have hvi := hv _ (List.getElem_mem hlt)
      have hgo : PlainV es[i] → ∃ b, (b = true → es.length ≤ 30 ∧ ∀ c ∈ es, PlainV c) ∧ ∀ xb, pl_at0 myR smR (fun _ => fb) xb es (IntKind.i64.wrap ((i : Int) + 1)) (.bool b) [] := by
        intro hpi
        obtain ⟨b, hb, g⟩ := ih (i + 1) (by omega) (fun j hj c hc => by
          rcases Nat.lt_succ_iff_lt_or_eq.1 hj with h | rfl
          · exact hp j h c hc
          · rw [List.getElem?_eq_getElem hlt] at hc; rw [← Option.some.inj hc]; exact hpi)
        rw [← up hlt hl] at g
        exact ⟨b, hb, g⟩
      obtain ⟨ck, cn, cs, yb, cb, yf, cf, yl, cl, hrow⟩ := hvi.get
      have hg : es[((i : Int)).toNat]? = some (valk.val ck cn cs yb cb yf cf yl cl) := by rw [Int.toNat_natCast, List.getElem?_eq_getElem hlt, hrow]
      rw [hrow] at hvi hgo
      have hmy := myR_ok hvi
      have hsm := smR_ok hvi
      by_cases h0 : ck = 0
      · have hp0 : PlainV (valk.val ck cn cs yb cb yf cf yl cl) := by
          refine .inl ⟨h0, ?_⟩
          rw [encV_eq]; unfold encB
          rw [if_neg (by omega), if_neg (by omega), if_neg (by omega), if_neg (by omega), if_neg (by omega)]; rfl
        obtain ⟨b, hb, g⟩ := hgo hp0
        cases hs : smR (valk.val ck cn cs yb cb yf cf yl cl) zeroV with
        | true => exact ⟨b, hb, fun xb => pl_0_4 (my := myR) (by omega) h0 h0 hs hsm (by omega) hg hg hg (g xb)⟩
        | false => exact ⟨false, (fun hh => by cases hh), fun xb => pl_0_5 (my := myR) (by omega) h0 h0 hs hsm (by omega) hg hg hg⟩
      · cases hm : myR (docOf (valk.val ck cn cs yb cb yf cf yl cl)) with
        | true =>
          obtain ⟨b, hb, g⟩ := hgo (.inr (hmy.2 hm))
          exact ⟨b, hb, fun xb => pl_0_2 (sm := smR) (by omega) h0 hm h0 (by omega) hg hmy.1 hg hg (g xb)⟩
        | false => exact ⟨false, (fun hh => by cases hh), fun xb => pl_0_3 (sm := smR) (by omega) h0 hm hmy.1 (by omega) hg hg⟩
  obtain ⟨b, hb, g⟩ := key es.length 0 (by omega) (fun j hj => by omega)
  exact ⟨b, hb, fun xb => pl_in_0 (g xb)⟩

/-! ### sign -/
theorem lexI_drop {A B : List Int} {i : Nat} (ha : i < A.length) (hb : i < B.length) : lexI (A.drop i) (B.drop i) = lx (sgnU A[i] B[i]) (lexI (A.drop (i + 1)) (B.drop (i + 1))) := by
  rw [List.drop_eq_getElem_cons ha, List.drop_eq_getElem_cons hb, lexI]
theorem sign10 (xa : Bool) (A : List Int) (xb : Bool) (B : List Int) (ha : A.length ≤ maxLen) : Ret P T 10 [.slice xa (rows A) none, .slice xb (rows B) none] [] (.int .i64 (lexI A B)) [] := by
  have hmx : maxLen ≤ 9223372036854775807 := by decide
  have key : ∀ (m i : Nat), i + m = A.length → (i ≤ B.length) → ksi_at0 xa (rows A) xb (rows B) i (.int .i64 (lexI (A.drop i) (B.drop i))) [] := by
    intro m
    induction m with
    | zero =>
      intro i hi hib
      have hA : A.drop i = [] := List.drop_of_length_le (by omega)
      rw [hA]
      by_cases h : A.length < B.length
      · rw [List.drop_eq_getElem_cons (show i < B.length by omega)]
        exact ksi_0_6 (by rw [rk_len]; omega) (by rw [rk_len, rk_len]; omega)
      · rw [List.drop_of_length_le (show B.length ≤ i by omega)]
        exact ksi_0_8 (by rw [rk_len]; omega) (by rw [rk_len, rk_len]; omega) (by rw [rk_len, rk_len]; omega)
    | succ m ih =>
      intro i hi hib
      have hlt : i < A.length := by omega
      by_cases hb : i < B.length
      · rw [lexI_drop hlt hb]
        have ga : (rows A)[((i : Int)).toNat]? = some [D.int .u8 A[i]] := by simp [rows, hlt]
        have gb : (rows B)[((i : Int)).toNat]? = some [D.int .u8 B[i]] := by simp [rows, hb]
        by_cases hne : A[i] = B[i]
        · have g := ih (i + 1) (by omega) (by omega)
          rw [← up hlt ha] at g
          rw [hne, sgn_self, lx_zero rfl]
          rw [hne] at ga
          exact ksi_0_2 (by rw [rk_len]; omega) (by rw [rk_len]; omega) rfl (by omega) gb ga g
        · by_cases hl : A[i] < B[i]
          · rw [sgn_lt hl, lx_pos (by decide)]
            exact ksi_0_0 (by rw [rk_len]; omega) (by rw [rk_len]; omega) hne hl (by omega) gb ga gb ga
          · rw [sgn_gt (by omega), lx_pos (by decide)]
            exact ksi_0_1 (by rw [rk_len]; omega) (by rw [rk_len]; omega) hne hl (by omega) gb ga gb ga
      · rw [List.drop_eq_getElem_cons hlt, List.drop_of_length_le (show B.length ≤ i by omega)]
        exact ksi_0_4 (by rw [rk_len]; omega) (by rw [rk_len]; omega) (by rw [rk_len, rk_len]; omega) (by rw [rk_len, rk_len]; omega)
  have g := key A.length 0 (by omega) (by omega)
  rw [List.drop_zero, List.drop_zero] at g
  exact ksi_in_0 g

def tnO (ed : Es) (i : Nat) : Int := if isDn ed i then 255 else 0
/-- A row's key. -/
def encRow (ed : Es) : Nat → Es → List Int
  | _, [] => []
  | i, c :: r => turnI (tnO ed i) (encV c) ++ encRow ed (i + 1) r
theorem val_nil {v : Cs} (h : ValOk v 0) (tn : Int) (hlen : (encV v).length ≤ 140737488355328) :
    Ret P T 21 [.ptr 0 0 0, .agg v, .int .i64 0] [some (.row 3 [[.slice false [] none, .int .u8 tn, .bool false]])] (.tuple [])
      [some (.row 3 [[.slice true (rows (turnI tn (encV v))) (some 1), .int .u8 tn, .bool false]]), some (.tok (turnI tn (encV v)).length 1)] := by
  have g := h false [] tn false (by simpa using hlen)
  rw [List.nil_append] at g
  exact Ret.tok (o := 0) (i := 0) (j := 0) (sz := 1) rfl rfl rfl g

section
variable (xl : Bool) (el : Es) (xd : Bool) (ed : Es) (ll : el.length ≤ maxLen) (hd : ∀ r ∈ ed, ∃ b, r = [D.bool b])
  (hv0 : ∀ r ∈ el, VS r ∧ ValOk r 0) (tot : List Int) (ht : tot.length ≤ 140737488355328)
include ll hd hv0 ht
theorem ken_key1 : ∀ (m i : Nat), i + m = el.length → ∀ c : List Int, c ++ encRow ed i (el.drop i) = tot → ∀ (nh nh1 nh2 : Int) (sh : ByteArray) (xh : Bool) (eh1 : Es) (xh1 : Bool) (eh2 : Es) (xh2 : Bool) (eh3 : Es),
    ∃ r H1, ken_at1 ckR nmE' txR enR xl el xd ed (i : Int) (rows c) nh nh1 nh2 sh xh eh1 xh1 eh2 xh2 eh3 c.length r H1 ∧ GD.pur r = some (.slice true (rows tot) none) ∧ H1.take 0 = [] := by
  intro m
  induction m with
  | zero =>
    intro i hi c hc nh nh1 nh2 sh xh eh1 xh1 eh2 xh2 eh3
    rw [List.drop_of_length_le (by omega), encRow, List.append_nil] at hc
    subst hc
    exact ⟨_, _, ken_1_3 (by omega), rfl, rfl⟩
  | succ m ih =>
    intro i hi c hc nh nh1 nh2 sh xh eh1 xh1 eh2 xh2 eh3
    have hlt : i < el.length := by omega
    rw [List.drop_eq_getElem_cons hlt, encRow] at hc
    obtain ⟨hvs, hok⟩ := hv0 _ (List.getElem_mem hlt)
    obtain ⟨ck, cn, cs, yb, cb, yf, cf, yl, cl, he⟩ := hvs.get
    have hg : el[((i : Int)).toNat]? = some (valk.val ck cn cs yb cb yf cf yl cl) := by rw [Int.toNat_natCast, List.getElem?_eq_getElem hlt, he]
    rw [he] at hc hok
    have hlen : c.length + (encV (valk.val ck cn cs yb cb yf cf yl cl)).length ≤ tot.length := by rw [← hc]; simp [turnI_len]
    obtain ⟨r, H1, g, hr, hH⟩ := ih (i + 1) (by omega) (c ++ turnI (tnO ed i) (encV (valk.val ck cn cs yb cb yf cf yl cl))) (by rw [← hc]; simp) (tnO ed i) nh1 nh2 sh xh eh1 xh1 eh2 xh2 eh3
    have hv := hok true c (tnO ed i) false (by omega)
    have w1 := up hlt ll
    refine ⟨r, H1, ?_, hr, hH⟩
    simp only [wrS, rk_app, ← turnC_rows, List.length_append, turnI_len] at hv g
    rw [← w1] at g
    have e2 : (encV (valk.val ck cn cs yb cb yf cf yl cl)).length = (enR (valk.val ck cn cs yb cb yf cf yl cl)).length := (rk_len _).symm
    rw [e2] at hv g
    by_cases hin : i < ed.length
    · obtain ⟨bv, hb⟩ := hd _ (List.getElem_mem hin)
      have hbi : ed[((i : Int)).toNat]? = some [D.bool bv] := by rw [Int.toNat_natCast, List.getElem?_eq_getElem hin, hb]
      cases bv with
      | true =>
        have etn : tnO ed i = 255 := by simp [tnO, isDn, List.getElem?_eq_getElem hin, hb]
        rw [etn] at hv g
        exact ken_1_0 (ckE := ckR) (nmE := nmE') (txE := txR) (enE := enR) (by omega) (by omega) rfl hv (by omega) hbi hg g
      | false =>
        have etn : tnO ed i = 0 := by simp [tnO, isDn, List.getElem?_eq_getElem hin, hb]
        rw [etn] at hv g
        exact ken_1_1 (ckE := ckR) (nmE := nmE') (txE := txR) (enE := enR) (by omega) (by omega) rfl hv (by omega) hbi hg g
    · have etn : tnO ed i = 0 := by simp [tnO, isDn, List.getElem?_eq_none (Nat.le_of_not_lt hin)]
      rw [etn] at hv g
      exact ken_1_2 (ckE := ckR) (nmE := nmE') (txE := txR) (enE := enR) (by omega) (by omega) hv (by omega) hg g

theorem ken_key (hE : tot = encRow ed 0 el) : ∃ x, x = decide (0 < el.length) ∧ Ret P T 9 [.slice xl el none, .slice xd ed none] [] (.slice x (rows tot) none) [] := by
  refine ⟨_, rfl, ?_⟩
  cases hel : el with
  | nil =>
    subst hel
    have e : rows tot = [] := by rw [hE, encRow]; rfl
    rw [e]
    have g := ken_in_0 (ken_0_3 (ckE := ckR) (nmE := nmE') (txE := txR) (enE := enR) (xl := xl) (el := []) (xd := xd) (ed := ed) (n12 := 0) (by simp))
    exact g
  | cons v0 rest =>
    rw [← hel]
    have hlt : 0 < el.length := by rw [hel]; simp
    have hc : encRow ed 0 el = turnI (tnO ed 0) (encV el[0]) ++ encRow ed 1 (el.drop 1) := by
      have := List.drop_eq_getElem_cons (l := el) hlt
      rw [List.drop_zero] at this
      conv => lhs; rw [this]
      rw [encRow]
    obtain ⟨hvs, hok⟩ := hv0 _ (List.getElem_mem hlt)
    obtain ⟨ck, cn, cs, yb, cb, yf, cf, yl, cl, he⟩ := hvs.get
    have hg : el[((0 : Int)).toNat]? = some (valk.val ck cn cs yb cb yf cf yl cl) := by show el[0]? = _; rw [List.getElem?_eq_getElem hlt, he]
    rw [he] at hc hok
    have hlen : (encV (valk.val ck cn cs yb cb yf cf yl cl)).length ≤ tot.length := by rw [hE, hc]; simp [turnI_len]
    obtain ⟨r, H1, g, hr, hH⟩ := ken_key1 xl el xd ed ll hd hv0 tot ht (el.length - 1) 1 (by omega) (turnI (tnO ed 0) (encV (valk.val ck cn cs yb cb yf cf yl cl))) (by rw [hE, hc]) (tnO ed 0) ck cn cs yb cb yf cf yl cl
    have hv := val_nil hok (tnO ed 0) (by omega)
    have g1 : Ret P T 9 [.slice xl el none, .slice xd ed none] [] r H1 := by
      refine ken_in_0 (ckE := ckR) (nmE := nmE') (txE := txR) (enE := enR) ?_
      have w1 : IntKind.i64.wrap ((0 : Int) + 1) = ((1 : Nat) : Int) := by decide
      simp only [← turnC_rows, turnI_len] at hv g
      rw [← w1] at g
      have e2 : (encV (valk.val ck cn cs yb cb yf cf yl cl)).length = (enR (valk.val ck cn cs yb cb yf cf yl cl)).length := (rk_len _).symm
      rw [e2] at hv g
      by_cases hin : 0 < ed.length
      · obtain ⟨bv, hb⟩ := hd _ (List.getElem_mem hin)
        have hbi : ed[((0 : Int)).toNat]? = some [D.bool bv] := by show ed[0]? = _; rw [List.getElem?_eq_getElem hin, hb]
        cases bv with
        | true =>
          have etn : tnO ed 0 = 255 := by simp [tnO, isDn, List.getElem?_eq_getElem hin, hb]
          rw [etn] at hv g
          exact ken_0_0 (ckE := ckR) (nmE := nmE') (txE := txR) (enE := enR) (by omega) (by omega) rfl hv (by omega) hbi hg g
        | false =>
          have etn : tnO ed 0 = 0 := by simp [tnO, isDn, List.getElem?_eq_getElem hin, hb]
          rw [etn] at hv g
          exact ken_0_1 (ckE := ckR) (nmE := nmE') (txE := txR) (enE := enR) (by omega) (by omega) rfl hv (by omega) hbi hg g
      · have etn : tnO ed 0 = 0 := by simp [tnO, isDn, List.getElem?_eq_none (Nat.le_of_not_lt hin)]
        rw [etn] at hv g
        exact ken_0_2 (ckE := ckR) (nmE := nmE') (txE := txR) (enE := enR) (by omega) (by omega) hv (by omega) hg g
    have ed1 : decide (0 < el.length) = true := decide_eq_true hlt
    rw [ed1]
    have g2 := (g1.pur hr).less 0
    rw [hH] at g2
    exact g2
end

section
variable (xl : Bool) (el : Es) (nt : Nat) (ed : Es) (hfl : FlatEs ed) (ll : el.length ≤ maxLen) (hd : ∀ r ∈ ed, ∃ b, r = [D.bool b])
  (hv0 : ∀ r ∈ el, VS r ∧ ValOk r 0) (tot : List Int) (ht : tot.length ≤ 140737488355328)
include ll hd hv0 ht hfl
theorem kew_key1 : ∀ (m i : Nat), i + m = el.length → ∀ c : List Int, c ++ encRow ed i (el.drop i) = tot → ∀ (nh nh1 nh2 : Int) (sh : ByteArray) (xh : Bool) (eh1 : Es) (xh1 : Bool) (eh2 : Es) (xh2 : Bool) (eh3 : Es),
    ∃ r H1, kew_at1 ckR nmE' txR enR xl el nt 0 ed.length ed (i : Int) (rows c) nh nh1 nh2 sh xh eh1 xh1 eh2 xh2 eh3 c.length r H1 ∧ GD.pur r = some (.slice true (rows tot) none) ∧ H1.take 2 = [some (.tok nt 6), some (.row 1 ed)] := by
  intro m
  induction m with
  | zero =>
    intro i hi c hc nh nh1 nh2 sh xh eh1 xh1 eh2 xh2 eh3
    rw [List.drop_of_length_le (by omega), encRow, List.append_nil] at hc
    subst hc
    exact ⟨_, _, kew_1_3 (by omega), rfl, rfl⟩
  | succ m ih =>
    intro i hi c hc nh nh1 nh2 sh xh eh1 xh1 eh2 xh2 eh3
    have hlt : i < el.length := by omega
    rw [List.drop_eq_getElem_cons hlt, encRow] at hc
    obtain ⟨hvs, hok⟩ := hv0 _ (List.getElem_mem hlt)
    obtain ⟨ck, cn, cs, yb, cb, yf, cf, yl, cl, he⟩ := hvs.get
    have hg : el[((i : Int)).toNat]? = some (valk.val ck cn cs yb cb yf cf yl cl) := by rw [Int.toNat_natCast, List.getElem?_eq_getElem hlt, he]
    rw [he] at hc hok
    have hlen : c.length + (encV (valk.val ck cn cs yb cb yf cf yl cl)).length ≤ tot.length := by rw [← hc]; simp [turnI_len]
    obtain ⟨r, H1, g, hr, hH⟩ := ih (i + 1) (by omega) (c ++ turnI (tnO ed i) (encV (valk.val ck cn cs yb cb yf cf yl cl))) (by rw [← hc]; simp) (tnO ed i) nh1 nh2 sh xh eh1 xh1 eh2 xh2 eh3
    have hv := hok true c (tnO ed i) false (by omega)
    have w1 := up hlt ll
    refine ⟨r, H1, ?_, hr, hH⟩
    simp only [wrS, rk_app, ← turnC_rows, List.length_append, turnI_len] at hv g
    rw [← w1] at g
    have e2 : (encV (valk.val ck cn cs yb cb yf cf yl cl)).length = (enR (valk.val ck cn cs yb cb yf cf yl cl)).length := (rk_len _).symm
    rw [e2] at hv g
    by_cases hin : i < ed.length
    · obtain ⟨bv, hb⟩ := hd _ (List.getElem_mem hin)
      have hbi : ed[0 + ((i : Int)).toNat]? = some [D.bool bv] := by rw [Nat.zero_add, Int.toNat_natCast, List.getElem?_eq_getElem hin, hb]
      cases bv with
      | true =>
        have etn : tnO ed i = 255 := by simp [tnO, isDn, List.getElem?_eq_getElem hin, hb]
        rw [etn] at hv g
        exact kew_1_0 (ckE := ckR) (nmE := nmE') (txE := txR) (enE := enR) (by omega) (by omega) rfl hfl hv hbi (by omega) (by omega) hg g
      | false =>
        have etn : tnO ed i = 0 := by simp [tnO, isDn, List.getElem?_eq_getElem hin, hb]
        rw [etn] at hv g
        exact kew_1_1 (ckE := ckR) (nmE := nmE') (txE := txR) (enE := enR) (by omega) (by omega) rfl hfl hv hbi (by omega) (by omega) hg g
    · have etn : tnO ed i = 0 := by simp [tnO, isDn, List.getElem?_eq_none (Nat.le_of_not_lt hin)]
      rw [etn] at hv g
      exact kew_1_2 (ckE := ckR) (nmE := nmE') (txE := txR) (enE := enR) (by omega) (by omega) hfl hv (by omega) hg g

theorem kew_key (hE : tot = encRow ed 0 el) : ∃ x, x = decide (0 < el.length) ∧ Ret P T 9 [.slice xl el (some 0), .view 1 0 ed.length] [some (.tok nt 6), some (.row 1 ed)] (.slice x (rows tot) none) [some (.tok nt 6), some (.row 1 ed)] := by
  refine ⟨_, rfl, ?_⟩
  cases hel : el with
  | nil =>
    subst hel
    have e : rows tot = [] := by rw [hE, encRow]; rfl
    rw [e]
    have g := kew_in_0 hfl (kew_0_3 (ckE := ckR) (nmE := nmE') (txE := txR) (enE := enR) (xl := xl) (el := []) (nt := nt) (st := 0) (len := ed.length) (ed := ed) (n12 := 0) (by simp))
    exact g
  | cons v0 rest =>
    rw [← hel]
    have hlt : 0 < el.length := by rw [hel]; simp
    have hc : encRow ed 0 el = turnI (tnO ed 0) (encV el[0]) ++ encRow ed 1 (el.drop 1) := by
      have := List.drop_eq_getElem_cons (l := el) hlt
      rw [List.drop_zero] at this
      conv => lhs; rw [this]
      rw [encRow]
    obtain ⟨hvs, hok⟩ := hv0 _ (List.getElem_mem hlt)
    obtain ⟨ck, cn, cs, yb, cb, yf, cf, yl, cl, he⟩ := hvs.get
    have hg : el[((0 : Int)).toNat]? = some (valk.val ck cn cs yb cb yf cf yl cl) := by show el[0]? = _; rw [List.getElem?_eq_getElem hlt, he]
    rw [he] at hc hok
    have hlen : (encV (valk.val ck cn cs yb cb yf cf yl cl)).length ≤ tot.length := by rw [hE, hc]; simp [turnI_len]
    obtain ⟨r, H1, g, hr, hH⟩ := kew_key1 xl el nt ed hfl ll hd hv0 tot ht (el.length - 1) 1 (by omega) (turnI (tnO ed 0) (encV (valk.val ck cn cs yb cb yf cf yl cl))) (by rw [hE, hc]) (tnO ed 0) ck cn cs yb cb yf cf yl cl
    have hv := val_nil hok (tnO ed 0) (by omega)
    have g1 : Ret P T 9 [.slice xl el (some 0), .view 1 0 ed.length] [some (.tok nt 6), some (.row 1 ed)] r H1 := by
      refine kew_in_0 hfl (ckE := ckR) (nmE := nmE') (txE := txR) (enE := enR) ?_
      have w1 : IntKind.i64.wrap ((0 : Int) + 1) = ((1 : Nat) : Int) := by decide
      simp only [← turnC_rows, turnI_len] at hv g
      rw [← w1] at g
      have e2 : (encV (valk.val ck cn cs yb cb yf cf yl cl)).length = (enR (valk.val ck cn cs yb cb yf cf yl cl)).length := (rk_len _).symm
      rw [e2] at hv g
      by_cases hin : 0 < ed.length
      · obtain ⟨bv, hb⟩ := hd _ (List.getElem_mem hin)
        have hbi : ed[0 + ((0 : Int)).toNat]? = some [D.bool bv] := by show ed[0 + 0]? = _; rw [Nat.add_zero, List.getElem?_eq_getElem hin, hb]
        cases bv with
        | true =>
          have etn : tnO ed 0 = 255 := by simp [tnO, isDn, List.getElem?_eq_getElem hin, hb]
          rw [etn] at hv g
          exact kew_0_0 (ckE := ckR) (nmE := nmE') (txE := txR) (enE := enR) (by omega) (by omega) rfl hfl hv hbi (by omega) (by omega) hg g
        | false =>
          have etn : tnO ed 0 = 0 := by simp [tnO, isDn, List.getElem?_eq_getElem hin, hb]
          rw [etn] at hv g
          exact kew_0_1 (ckE := ckR) (nmE := nmE') (txE := txR) (enE := enR) (by omega) (by omega) rfl hfl hv hbi (by omega) (by omega) hg g
      · have etn : tnO ed 0 = 0 := by simp [tnO, isDn, List.getElem?_eq_none (Nat.le_of_not_lt hin)]
        rw [etn] at hv g
        exact kew_0_2 (ckE := ckR) (nmE := nmE') (txE := txR) (enE := enR) (by omega) (by omega) hfl hv (by omega) hg g
    have ed1 : decide (0 < el.length) = true := decide_eq_true hlt
    rw [ed1]
    have g2 := (g1.pur hr).less 2
    rw [hH] at g2
    exact g2
end

end Go.Proofs.Ytlccdfilbiipmaa.ordk
