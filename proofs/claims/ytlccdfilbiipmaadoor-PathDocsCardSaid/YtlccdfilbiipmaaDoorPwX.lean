/- Paths: All comes to a law, the program's and the document's. -/
import Derived.Test.YtlccdfilbiipmaaDoorPwV
namespace Go.Proofs.YtlccdfilbiipmaaDoor.ordk
open Go YtlccdfilbiipmaaDoor.GD valk
set_option linter.unusedVariables false
set_option linter.unusedSimpArgs false
set_option maxRecDepth 100000

/-- A row that is not empty. -/
def orZ (l : Es) : Es := if l.isEmpty then [zeroV] else l
mutual
def al1 (nm : ByteArray) (A : Cs → Es) : Cs → Es
  | [.int _ k, _, _, _, .slice _ ef _, .slice _ el _] => if k = 6 then (if kindOf (getF nm ef) = 0 then [zeroV] else A (getF nm ef)) else if k = 7 then orZ (alL nm A el) else [zeroV]
  | _ => [zeroV]
def alL (nm : ByteArray) (A : Cs → Es) : Es → Es
  | [] => []
  | x :: t => if kindOf x = 6 then al1 nm A x ++ alL nm A t else alL nm A t
end
/-- What a query's path leads to. -/
def allN : List ByteArray → Cs → Es
  | [], v => if kindOf v = 7 then v :: itsOf v else [v]
  | nm :: ps, v => al1 nm (allN ps) v
theorem al1_val (nm : ByteArray) (A : Cs → Es) (k n : Int) (s : ByteArray) (xb : Bool) (eb : Es) (xf : Bool) (ef : Es) (xl : Bool) (el : Es) :
    al1 nm A (valk.val k n s xb eb xf ef xl el) = if k = 6 then (if kindOf (getF nm ef) = 0 then [zeroV] else A (getF nm ef)) else if k = 7 then orZ (alL nm A el) else [zeroV] := by
  unfold valk.val; rw [al1]
theorem emp_app (a b : Es) : (!(a ++ b).isEmpty) = (!a.isEmpty || !b.isEmpty) := by cases a <;> simp
theorem all6 {l : Es} (h : ∀ y ∈ l, VS y) : (List.all l fun c => c.length == (6 : Nat)) = true := by
  rw [List.all_eq_true]
  intro x hx
  obtain ⟨k, n, s, xb, eb, xf, ef, xl, el, rfl⟩ := (h x hx).get
  rfl
theorem bd_sum {n : Int} {s : ByteArray} {xb : Bool} {eb : Es} {xf : Bool} {ef : Es} {xl : Bool} {el : Es} (h : Bd (valk.val 7 n s xb eb xf ef xl el)) : cntLs el ≤ 1000000 := by
  unfold Bd at h
  rw [cntV_7] at h
  omega
theorem alL_mem (nm : ByteArray) (A : Cs → Es) : ∀ (l : Es), ∀ r ∈ alL nm A l, ∃ x ∈ l, r ∈ al1 nm A x
  | [], r, hr => by simp [alL] at hr
  | x :: t, r, hr => by
    rw [alL] at hr
    split at hr
    · rcases List.mem_append.1 hr with h | h
      · exact ⟨x, by simp, h⟩
      · obtain ⟨y, hy, e⟩ := alL_mem nm A t r h
        exact ⟨y, List.mem_cons_of_mem _ hy, e⟩
    · obtain ⟨y, hy, e⟩ := alL_mem nm A t r hr
      exact ⟨y, List.mem_cons_of_mem _ hy, e⟩
theorem alL_len (nm : ByteArray) (A : Cs → Es) : ∀ (l : Es), (∀ x ∈ l, (al1 nm A x).length ≤ cntV x) → (alL nm A l).length ≤ cntLs l
  | [], _ => by simp [alL]
  | x :: t, h => by
    have h1 := alL_len nm A t (fun y hy => h y (List.mem_cons_of_mem _ hy))
    have h2 := h x (by simp)
    rw [alL, cntLs_cons]
    split
    · rw [List.length_append]; omega
    · omega
theorem orZ_mem {l : Es} {y : Cs} (h : y ∈ orZ l) : y = zeroV ∨ y ∈ l := by
  unfold orZ at h
  split at h
  · exact .inl (by simpa using h)
  · exact .inr h
theorem orZ_len (l : Es) : (orZ l).length ≤ l.length + 1 := by
  unfold orZ; split <;> simp
theorem all_vs : ∀ (ps : List ByteArray) {v : Cs}, VS v → ∀ y ∈ allN ps v, VS y
  | [], v, hv, y, hy => by
    rw [allN] at hy
    cases hv with
    | mk k n s xb eb xf ef xl el bs hk hn hs hb hb' lb lf ll nb nf nl hf hfv hl =>
      have hv : VS (valk.val k n s xb eb xf ef xl el) := .mk k n s xb eb xf ef xl el bs hk hn hs hb hb' lb lf ll nb nf nl hf hfv hl
      split at hy
      · rcases List.mem_cons.1 hy with rfl | h
        · exact hv
        · exact hl y h
      · rcases List.mem_cons.1 hy with rfl | h
        · exact hv
        · cases h
  | nm :: ps, v, hv, y, hy => by
    have ih : ∀ {v : Cs}, VS v → ∀ y ∈ allN ps v, VS y := fun h => all_vs ps h
    rw [allN] at hy
    induction hv generalizing y with
    | mk k n s xb eb xf ef xl el bs hk hn hs hb hb' lb lf ll nb nf nl hf hfv hl ihf ihl =>
      have hv : VS (valk.val k n s xb eb xf ef xl el) := .mk k n s xb eb xf ef xl el bs hk hn hs hb hb' lb lf ll nb nf nl hf hfv hl
      have z1 : ∀ {y : Cs}, y ∈ [zeroV] → VS y := fun h => by rcases List.mem_cons.1 h with rfl | h; exact vs_zero; cases h
      rw [al1_val] at hy
      split at hy
      · split at hy
        · exact z1 hy
        · exact ih (getF_vs (flds_of hv).1 nm) y hy
      · split at hy
        · rcases orZ_mem hy with rfl | h
          · exact vs_zero
          · obtain ⟨x, hx, h⟩ := alL_mem nm _ el y h
            exact ihl x hx y h
        · exact z1 hy
theorem getF_len {ef : Es} (h : Flds ef) (nm : ByteArray) : kindOf (getF nm ef) ≠ 0 → cntV (getF nm ef) ≤ cntFs ef := by
  intro hk
  rcases getF_mem h nm with h1 | ⟨x, h1⟩
  · rw [h1] at hk; exact absurd rfl hk
  · exact cntFs_mem h1
theorem all_len : ∀ (ps : List ByteArray) {v : Cs}, VS v → (allN ps v).length ≤ cntV v
  | [], v, hv => by
    have h1 := cntV_pos v
    obtain ⟨k, n, s, xb, eb, xf, ef, xl, el, rfl⟩ := hv.get
    rw [allN]
    split
    · next h =>
      have h7 : k = 7 := h
      have := cntLs_count el
      subst h7; rw [cntV_7]
      show el.length + 1 ≤ _
      omega
    · exact h1
  | nm :: ps, v, hv => by
    have ih : ∀ {v : Cs}, VS v → (allN ps v).length ≤ cntV v := fun h => all_len ps h
    rw [allN]
    induction hv with
    | mk k n s xb eb xf ef xl el bs hk hn hs hb hb' lb lf ll nb nf nl hf hfv hl ihf ihl =>
      have hv : VS (valk.val k n s xb eb xf ef xl el) := .mk k n s xb eb xf ef xl el bs hk hn hs hb hb' lb lf ll nb nf nl hf hfv hl
      have h1 := cntV_pos (valk.val k n s xb eb xf ef xl el)
      rw [al1_val]
      split
      · next h6 =>
        split
        · exact h1
        · next hz =>
          have h2 := ih (getF_vs (flds_of hv).1 nm)
          change (allN ps (getF nm ef)).length ≤ cntV (getF nm ef) at h2
          have h3 := getF_len (flds_of hv).1 nm hz
          change cntV (getF nm ef) ≤ cntFs ef at h3
          subst h6; rw [cntV_6]
          exact Nat.le_trans h2 (by omega)
      · split
        · next h7 =>
          have h2 := alL_len nm (allN ps) el (fun x hx => ihl x hx)
          have h3 := orZ_len (alL nm (allN ps) el)
          subst h7; rw [cntV_7]
          omega
        · exact h1

section
variable (k n : Int) (s : ByteArray) (xb : Bool) (eb : Es) (xf : Bool) (ef : Es) (xl : Bool) (el : Es) (xp : Bool) (nm : ByteArray) (ps : List ByteArray) (ll : el.length ≤ 1000000)
  (hR : ∀ x ∈ el, VS x ∧ (∀ y ∈ al1 nm (allN ps) x, VS y) ∧ (al1 nm (allN ps) x).length ≤ cntV x ∧ Ret P T 19 [.agg x, .slice xp (nmS (nm :: ps)) none] [] (.slice true (al1 nm (allN ps) x) none) [])
include ll hR
theorem all_lp0 : ∀ (m i : Nat), i + m = el.length → ∀ c : Es, c.length + cntLs (el.drop i) ≤ 1000000 →
    ∃ r H1, all_at0 (fun _ _ => ctOf zeroV) (fun _ _ => ctOf zeroV) (fun _ _ => true) (fun v _ => al1 nm (allN ps) v) k n s xb eb xf ef xl el xp (nmS (nm :: ps)) (!c.isEmpty) c (i : Int) c.length r H1 ∧ GD.pur r = some (.slice true (orZ (c ++ alL nm (allN ps) (el.drop i))) none) := by
  have hmx : (1000000 : Nat) ≤ maxLen := by decide
  intro m
  induction m with
  | zero =>
    intro i hi c hc
    rw [List.drop_of_length_le (by omega), alL, List.append_nil]
    by_cases h0 : c.length = 0
    · refine ⟨_, _, all_0_3 (by omega) (by omega), ?_⟩
      have e : c = [] := List.length_eq_zero_iff.1 h0
      rw [e]; rfl
    · refine ⟨_, _, all_0_2 (by omega) (by omega), ?_⟩
      cases c with
      | nil => simp at h0
      | cons a b => rfl
  | succ m ih =>
    intro i hi c hc
    have hlt : i < el.length := by omega
    rw [List.drop_eq_getElem_cons hlt] at hc ⊢
    obtain ⟨hv, hvs, hvl, hrt⟩ := hR _ (List.getElem_mem hlt)
    rw [cntLs_cons] at hc
    obtain ⟨ck, cn, cs, yb, cb, yf, cf, yl, cl, he⟩ := hv.get
    have hg : el[((i : Int)).toNat]? = some (valk.val ck cn cs yb cb yf cf yl cl) := by rw [Int.toNat_natCast, List.getElem?_eq_getElem hlt, he]
    rw [he] at hrt hvs hvl hc ⊢
    have hk : kindOf (valk.val ck cn cs yb cb yf cf yl cl) = ck := rfl
    have w1 := up hlt (Nat.le_trans ll hmx)
    by_cases h6 : ck = 6
    · have e : alL nm (allN ps) (valk.val ck cn cs yb cb yf cf yl cl :: el.drop (i + 1)) = al1 nm (allN ps) (valk.val ck cn cs yb cb yf cf yl cl) ++ alL nm (allN ps) (el.drop (i + 1)) := by rw [alL, if_pos (by rw [hk]; exact h6)]
      rw [e, ← List.append_assoc]
      obtain ⟨r, H1, g, hr⟩ := ih (i + 1) (by omega) (c ++ al1 nm (allN ps) (valk.val ck cn cs yb cb yf cf yl cl)) (by rw [List.length_append]; omega)
      rw [← w1, List.length_append, emp_app] at g
      exact ⟨r, H1, all_0_0 (by omega) h6 ⟨rfl, by omega, all6 hvs⟩ hrt (by omega) hg g, hr⟩
    · have e : alL nm (allN ps) (valk.val ck cn cs yb cb yf cf yl cl :: el.drop (i + 1)) = alL nm (allN ps) (el.drop (i + 1)) := by rw [alL, if_neg (by rw [hk]; exact h6)]
      rw [e]
      obtain ⟨r, H1, g, hr⟩ := ih (i + 1) (by omega) c (by omega)
      rw [← w1] at g
      exact ⟨r, H1, all_0_1 (by omega) h6 (by omega) hg g, hr⟩
end
theorem all19 (xp : Bool) : ∀ (ps : List ByteArray) {v : Cs}, VS v → Bd v → Ret P T 19 [.agg v, .slice xp (nmS ps) none] [] (.slice true (allN ps v) none) []
  | [], v, hv, hbd => by
    cases hv with
    | mk k n s xb eb xf ef xl el bs hk hn hs hb hb' lb lf ll nb nf nl hf hfv hl =>
      by_cases h7 : k = 7
      · have hbl := bd_list (h7 ▸ hbd : Bd (valk.val 7 n s xb eb xf ef xl el))
        have ee := (all_in_0 (gV := fun _ _ => ctOf zeroV) (rV := fun _ _ => ctOf zeroV) (aX := fun _ _ => false) (aV := fun _ _ => []) (k := k) (n := n) (s := s) (xb := xb) (eb := eb) (xf := xf) (ef := ef) (xl := xl) (el := el) (xp := xp) (ep := nmS []) rfl h7 ⟨rfl, by omega, all6 hl⟩).pure rfl
        have e : allN [] (valk.val k n s xb eb xf ef xl el) = valk.val k n s xb eb xf ef xl el :: el := by rw [allN, if_pos (show kindOf (valk.val k n s xb eb xf ef xl el) = 7 from h7)]; rfl
        rw [e]; exact ee
      · have ee := (all_in_1 (gV := fun _ _ => ctOf zeroV) (rV := fun _ _ => ctOf zeroV) (aX := fun _ _ => false) (aV := fun _ _ => []) (k := k) (n := n) (s := s) (xb := xb) (eb := eb) (xf := xf) (ef := ef) (xl := xl) (el := el) (xp := xp) (ep := nmS []) rfl h7).pure rfl
        have e : allN [] (valk.val k n s xb eb xf ef xl el) = [valk.val k n s xb eb xf ef xl el] := by rw [allN, if_neg (show ¬ kindOf (valk.val k n s xb eb xf ef xl el) = 7 from h7)]
        rw [e]; exact ee
  | nm :: ps, v, hv, hbd => by
    have ihp : ∀ {v : Cs}, VS v → Bd v → Ret P T 19 [.agg v, .slice xp (nmS ps) none] [] (.slice true (allN ps v) none) [] := fun h1 h2 => all19 xp ps h1 h2
    induction hv with
    | mk k n s xb eb xf ef xl el bs hk hn hs hb hb' lb lf ll nb nf nl hf hfv hl ihf ihl =>
      have hv : VS (valk.val k n s xb eb xf ef xl el) := .mk k n s xb eb xf ef xl el bs hk hn hs hb hb' lb lf ll nb nf nl hf hfv hl
      have hlen : ((nmS (nm :: ps)).length : Int) ≠ 0 := by simp [nmS]; omega
      by_cases h6 : k = 6
      · have hgv : getV (valk.val k n s xb eb xf ef xl el) nm = getF nm ef := by show (if k = 6 then _ else _) = _; rw [if_pos h6]; rfl
        have hg := get30 hv nm
        rw [hgv] at hg
        have hfl : Flds ef := (flds_of hv).1
        have v1 := getF_vs hfl nm
        have b1 : Bd (getF nm ef) := bd_get hfl (h6 ▸ hbd) nm
        have c1 := cells_of v1
        have k1 : (ctOf (getF nm ef)).1 = kindOf (getF nm ef) := ct_kind v1
        rw [← c1] at hg
        by_cases hz : kindOf (getF nm ef) = 0
        · have e : allN (nm :: ps) (valk.val k n s xb eb xf ef xl el) = [zeroV] := by rw [allN, al1_val, if_pos h6, if_pos hz]
          rw [e]
          exact (@all_in_2 (fun _ _ => ctOf (getF nm ef)) (fun _ _ => ctOf zeroV) (fun _ _ => true) (fun _ _ => []) k n s xb eb xf ef xl el xp (nmS (nm :: ps)) nm hlen h6 (by rw [k1]; exact hz) hg (by simp [nmS])).pure rfl
        · have e : allN (nm :: ps) (valk.val k n s xb eb xf ef xl el) = allN ps (getF nm ef) := by rw [allN, al1_val, if_pos h6, if_neg hz]
          rw [e]
          have hr := ihp v1 b1
          have ee := @all_in_3 (fun _ _ => ctOf (getF nm ef)) (fun _ _ => ctOf zeroV) (fun _ _ => true) (fun _ _ => allN ps (getF nm ef)) k n s xb eb xf ef xl el xp (nmS (nm :: ps)) nm
          have hdrop : List.drop 1 (List.take (((nmS (nm :: ps)).length : Nat) : Int).toNat (nmS (nm :: ps))) = nmS ps := by
            rw [Int.toNat_natCast, List.take_length]; rfl
          have hr' : Ret P T 19 [.agg (cellsT (ctOf (getF nm ef))), .slice xp (nmS ps) none] [] (.slice true (allN ps (getF nm ef)) none) [] := by rw [c1]; exact hr
          rw [hdrop] at ee
          exact (ee hlen h6 (by rw [k1]; exact hz) hr' ⟨by omega, by rw [nmS_len, List.length_cons]; omega, by omega, nmS_all _⟩ hg (by simp [nmS])).pure rfl
      · by_cases h7 : k = 7
        · have e : allN (nm :: ps) (valk.val k n s xb eb xf ef xl el) = orZ (alL nm (allN ps) el) := by rw [allN, al1_val, if_neg h6, if_pos h7]
          rw [e]
          have hbl := bd_list (h7 ▸ hbd : Bd (valk.val 7 n s xb eb xf ef xl el))
          have hsum := bd_sum (h7 ▸ hbd : Bd (valk.val 7 n s xb eb xf ef xl el))
          obtain ⟨r, H1, g, hr⟩ := all_lp0 k n s xb eb xf ef xl el xp nm ps hbl.1 (fun x hx => ⟨hl x hx, fun y hy => all_vs (nm :: ps) (hl x hx) y hy, all_len (nm :: ps) (hl x hx), ihl x hx (hbl.2 x hx)⟩) el.length 0 (by omega) [] (by simpa using hsum)
          rw [List.drop_zero, List.nil_append] at hr
          exact (all_in_4 hlen h6 h7 g).pure hr
        · have e : allN (nm :: ps) (valk.val k n s xb eb xf ef xl el) = [zeroV] := by rw [allN, al1_val, if_neg h6, if_neg h7]
          rw [e]
          exact (all_in_5 (gV := fun _ _ => ctOf zeroV) (rV := fun _ _ => ctOf zeroV) (aX := fun _ _ => false) (aV := fun _ _ => []) hlen h6 h7).pure rfl

section
variable (k n : Int) (s : ByteArray) (xb : Bool) (eb : Es) (xf : Bool) (ef : Es) (xl : Bool) (el : Es) (xp : Bool) (nm : ByteArray) (ps : List ByteArray) (ll : el.length ≤ 1000000)
  (hR : ∀ x ∈ el, VS x ∧ (∀ y ∈ al1 nm (allN ps) x, VS y) ∧ (al1 nm (allN ps) x).length ≤ cntV x ∧ Ret P T 20 [.agg x, .slice xp (nmS (nm :: ps)) none] [] (.slice true (al1 nm (allN ps) x) none) [])
include ll hR
theorem alr_lp0 : ∀ (m i : Nat), i + m = el.length → ∀ c : Es, c.length + cntLs (el.drop i) ≤ 1000000 →
    ∃ r H1, alr_at0 (fun _ _ => ctOf zeroV) (fun _ _ => ctOf zeroV) (fun _ _ => true) (fun v _ => al1 nm (allN ps) v) k n s xb eb xf ef xl el xp (nmS (nm :: ps)) (!c.isEmpty) c (i : Int) c.length r H1 ∧ GD.pur r = some (.slice true (orZ (c ++ alL nm (allN ps) (el.drop i))) none) := by
  have hmx : (1000000 : Nat) ≤ maxLen := by decide
  intro m
  induction m with
  | zero =>
    intro i hi c hc
    rw [List.drop_of_length_le (by omega), alL, List.append_nil]
    by_cases h0 : c.length = 0
    · refine ⟨_, _, alr_0_3 (by omega) (by omega), ?_⟩
      have e : c = [] := List.length_eq_zero_iff.1 h0
      rw [e]; rfl
    · refine ⟨_, _, alr_0_2 (by omega) (by omega), ?_⟩
      cases c with
      | nil => simp at h0
      | cons a b => rfl
  | succ m ih =>
    intro i hi c hc
    have hlt : i < el.length := by omega
    rw [List.drop_eq_getElem_cons hlt] at hc ⊢
    obtain ⟨hv, hvs, hvl, hrt⟩ := hR _ (List.getElem_mem hlt)
    rw [cntLs_cons] at hc
    obtain ⟨ck, cn, cs, yb, cb, yf, cf, yl, cl, he⟩ := hv.get
    have hg : el[((i : Int)).toNat]? = some (valk.val ck cn cs yb cb yf cf yl cl) := by rw [Int.toNat_natCast, List.getElem?_eq_getElem hlt, he]
    rw [he] at hrt hvs hvl hc ⊢
    have hk : kindOf (valk.val ck cn cs yb cb yf cf yl cl) = ck := rfl
    have w1 := up hlt (Nat.le_trans ll hmx)
    by_cases h6 : ck = 6
    · have e : alL nm (allN ps) (valk.val ck cn cs yb cb yf cf yl cl :: el.drop (i + 1)) = al1 nm (allN ps) (valk.val ck cn cs yb cb yf cf yl cl) ++ alL nm (allN ps) (el.drop (i + 1)) := by rw [alL, if_pos (by rw [hk]; exact h6)]
      rw [e, ← List.append_assoc]
      obtain ⟨r, H1, g, hr⟩ := ih (i + 1) (by omega) (c ++ al1 nm (allN ps) (valk.val ck cn cs yb cb yf cf yl cl)) (by rw [List.length_append]; omega)
      rw [← w1, List.length_append, emp_app] at g
      exact ⟨r, H1, alr_0_0 (by omega) h6 ⟨rfl, by omega, all6 hvs⟩ hrt (by omega) hg hg g, hr⟩
    · have e : alL nm (allN ps) (valk.val ck cn cs yb cb yf cf yl cl :: el.drop (i + 1)) = alL nm (allN ps) (el.drop (i + 1)) := by rw [alL, if_neg (by rw [hk]; exact h6)]
      rw [e]
      obtain ⟨r, H1, g, hr⟩ := ih (i + 1) (by omega) c (by omega)
      rw [← w1] at g
      exact ⟨r, H1, alr_0_1 (by omega) h6 (by omega) hg g, hr⟩
end
theorem all20 (xp : Bool) : ∀ (ps : List ByteArray) {v : Cs}, VS v → Bd v → Ret P T 20 [.agg v, .slice xp (nmS ps) none] [] (.slice true (allN ps v) none) []
  | [], v, hv, hbd => by
    cases hv with
    | mk k n s xb eb xf ef xl el bs hk hn hs hb hb' lb lf ll nb nf nl hf hfv hl =>
      by_cases h7 : k = 7
      · have hbl := bd_list (h7 ▸ hbd : Bd (valk.val 7 n s xb eb xf ef xl el))
        have ee := (alr_in_0 (gV := fun _ _ => ctOf zeroV) (rV := fun _ _ => ctOf zeroV) (aX := fun _ _ => false) (aV := fun _ _ => []) (k := k) (n := n) (s := s) (xb := xb) (eb := eb) (xf := xf) (ef := ef) (xl := xl) (el := el) (xp := xp) (ep := nmS []) rfl h7 ⟨rfl, by omega, all6 hl⟩).pure rfl
        have e : allN [] (valk.val k n s xb eb xf ef xl el) = valk.val k n s xb eb xf ef xl el :: el := by rw [allN, if_pos (show kindOf (valk.val k n s xb eb xf ef xl el) = 7 from h7)]; rfl
        rw [e]; exact ee
      · have ee := (alr_in_1 (gV := fun _ _ => ctOf zeroV) (rV := fun _ _ => ctOf zeroV) (aX := fun _ _ => false) (aV := fun _ _ => []) (k := k) (n := n) (s := s) (xb := xb) (eb := eb) (xf := xf) (ef := ef) (xl := xl) (el := el) (xp := xp) (ep := nmS []) rfl h7).pure rfl
        have e : allN [] (valk.val k n s xb eb xf ef xl el) = [valk.val k n s xb eb xf ef xl el] := by rw [allN, if_neg (show ¬ kindOf (valk.val k n s xb eb xf ef xl el) = 7 from h7)]
        rw [e]; exact ee
  | nm :: ps, v, hv, hbd => by
    have ihp : ∀ {v : Cs}, VS v → Bd v → Ret P T 20 [.agg v, .slice xp (nmS ps) none] [] (.slice true (allN ps v) none) [] := fun h1 h2 => all20 xp ps h1 h2
    induction hv with
    | mk k n s xb eb xf ef xl el bs hk hn hs hb hb' lb lf ll nb nf nl hf hfv hl ihf ihl =>
      have hv : VS (valk.val k n s xb eb xf ef xl el) := .mk k n s xb eb xf ef xl el bs hk hn hs hb hb' lb lf ll nb nf nl hf hfv hl
      have hlen : ((nmS (nm :: ps)).length : Int) ≠ 0 := by simp [nmS]; omega
      by_cases h6 : k = 6
      · have hgv : getV (valk.val k n s xb eb xf ef xl el) nm = getF nm ef := by show (if k = 6 then _ else _) = _; rw [if_pos h6]; rfl
        have hg := field22 hv nm
        rw [hgv] at hg
        have hfl : Flds ef := (flds_of hv).1
        have v1 := getF_vs hfl nm
        have b1 : Bd (getF nm ef) := bd_get hfl (h6 ▸ hbd) nm
        have c1 := cells_of v1
        have k1 : (ctOf (getF nm ef)).1 = kindOf (getF nm ef) := ct_kind v1
        rw [← c1] at hg
        by_cases hz : kindOf (getF nm ef) = 0
        · have e : allN (nm :: ps) (valk.val k n s xb eb xf ef xl el) = [zeroV] := by rw [allN, al1_val, if_pos h6, if_pos hz]
          rw [e]
          exact (@alr_in_2 (fun _ _ => ctOf (getF nm ef)) (fun _ _ => ctOf zeroV) (fun _ _ => true) (fun _ _ => []) k n s xb eb xf ef xl el xp (nmS (nm :: ps)) nm hlen h6 (by rw [k1]; exact hz) hg (by simp [nmS])).pure rfl
        · have e : allN (nm :: ps) (valk.val k n s xb eb xf ef xl el) = allN ps (getF nm ef) := by rw [allN, al1_val, if_pos h6, if_neg hz]
          rw [e]
          have hr := ihp v1 b1
          have ee := @alr_in_3 (fun _ _ => ctOf (getF nm ef)) (fun _ _ => ctOf zeroV) (fun _ _ => true) (fun _ _ => allN ps (getF nm ef)) k n s xb eb xf ef xl el xp (nmS (nm :: ps)) nm
          have hdrop : List.drop 1 (List.take (((nmS (nm :: ps)).length : Nat) : Int).toNat (nmS (nm :: ps))) = nmS ps := by
            rw [Int.toNat_natCast, List.take_length]; rfl
          have hr' : Ret P T 20 [.agg (cellsT (ctOf (getF nm ef))), .slice xp (nmS ps) none] [] (.slice true (allN ps (getF nm ef)) none) [] := by rw [c1]; exact hr
          rw [hdrop] at ee
          exact (ee hlen h6 (by rw [k1]; exact hz) hr' ⟨by omega, by rw [nmS_len, List.length_cons]; omega, by omega, nmS_all _⟩ hg (by simp [nmS])).pure rfl
      · by_cases h7 : k = 7
        · have e : allN (nm :: ps) (valk.val k n s xb eb xf ef xl el) = orZ (alL nm (allN ps) el) := by rw [allN, al1_val, if_neg h6, if_pos h7]
          rw [e]
          have hbl := bd_list (h7 ▸ hbd : Bd (valk.val 7 n s xb eb xf ef xl el))
          have hsum := bd_sum (h7 ▸ hbd : Bd (valk.val 7 n s xb eb xf ef xl el))
          obtain ⟨r, H1, g, hr⟩ := alr_lp0 k n s xb eb xf ef xl el xp nm ps hbl.1 (fun x hx => ⟨hl x hx, fun y hy => all_vs (nm :: ps) (hl x hx) y hy, all_len (nm :: ps) (hl x hx), ihl x hx (hbl.2 x hx)⟩) el.length 0 (by omega) [] (by simpa using hsum)
          rw [List.drop_zero, List.nil_append] at hr
          exact (alr_in_4 hlen h6 h7 g).pure hr
        · have e : allN (nm :: ps) (valk.val k n s xb eb xf ef xl el) = [zeroV] := by rw [allN, al1_val, if_neg h6, if_neg h7]
          rw [e]
          exact (alr_in_5 (gV := fun _ _ => ctOf zeroV) (rV := fun _ _ => ctOf zeroV) (aX := fun _ _ => false) (aV := fun _ _ => []) hlen h6 h7).pure rfl

end Go.Proofs.YtlccdfilbiipmaaDoor.ordk
