/- Paths: With; the law PathTouches hands back true. -/
import Derived.Test.YtlccdfilbiipmaaDoorPwL
import Derived.Test.YtlccdfilbiipmaaDoorPwZb
namespace Go.Proofs.YtlccdfilbiipmaaDoor.ordk
open Go YtlccdfilbiipmaaDoor.GD valk
set_option linter.unusedVariables false
set_option linter.unusedSimpArgs false
set_option maxRecDepth 100000

/-! ### With -/
abbrev v77 : Cs := valk.val 3 77 (ByteArray.mk #[]) false [] false [] false []
theorem vs_77 : VS v77 := .mk 3 77 _ _ _ _ _ _ _ [] (by omega) (by omega) (by decide) rfl (fun x hx => by cases hx) (by decide) (by decide) (by decide) (fun _ => rfl) (fun _ => rfl) (fun _ => rfl) (fun r hr => by cases hr) (fun nm c hc => by cases hc) (fun r hr => by cases hr)
def withL (nm : ByteArray) : Bool → Es → Es
  | d, [] => if d then [] else [D.str nm :: v77]
  | d, (.str x :: c) :: t => if x.toList = nm.toList then (if d then (.str x :: c) :: withL nm d t else (.str x :: v77) :: withL nm true t) else (.str x :: c) :: withL nm d t
  | d, r :: t => r :: withL nm d t
theorem withL_len (nm : ByteArray) : ∀ (l : Es) (d : Bool), Flds l → (withL nm d l).length ≤ l.length + 1
  | [], d, _ => by rw [withL]; split <;> simp
  | r :: t, d, h => by
    obtain ⟨x, c, rfl, _, hv⟩ := h r (by simp)
    have ih := fun d => withL_len nm t d (fun r hr => h r (List.mem_cons_of_mem _ hr))
    rw [withL]
    split
    · split
      · simpa using ih d
      · simpa using ih true
    · simpa using ih d
theorem withL_flds {nm : ByteArray} (hn : nm.size ≤ maxLen) : ∀ (l : Es) (d : Bool), Flds l → Flds (withL nm d l)
  | [], d, _ => by
    rw [withL]
    split
    · exact fun r hr => by cases hr
    · intro r hr
      simp only [List.mem_singleton] at hr
      exact ⟨nm, v77, hr, hn, vs_77⟩
  | r :: t, d, h => by
    obtain ⟨x, c, rfl, hx, hv⟩ := h r (by simp)
    have ih := fun d => withL_flds hn t d (fun r hr => h r (List.mem_cons_of_mem _ hr))
    have cc : ∀ {c : Cs} {l : Es}, VS c → Flds l → Flds ((D.str x :: c) :: l) := fun hc hl r hr => by
      rcases List.mem_cons.1 hr with rfl | hr
      · exact ⟨x, _, rfl, hx, hc⟩
      · exact hl r hr
    rw [withL]
    split
    · split
      · exact cc hv (ih d)
      · exact cc vs_77 (ih true)
    · exact cc hv (ih d)
theorem withL_get {nm b : ByteArray} (hb : nm.toList ≠ b.toList) : ∀ (l : Es) (d : Bool), Flds l → getF b (withL nm d l) = getF b l
  | [], d, _ => by
    rw [withL]
    split
    · rfl
    · conv => lhs; rw [getF, if_neg hb]
  | r :: t, d, h => by
    obtain ⟨x, c, rfl, hx, hv⟩ := h r (by simp)
    have ih := fun d => withL_get hb t d (fun r hr => h r (List.mem_cons_of_mem _ hr))
    rw [withL]
    by_cases he : x.toList = nm.toList
    · have hne : ¬ x.toList = b.toList := fun e => hb (he.symm.trans e)
      rw [if_pos he]
      split
      · rw [getF, if_neg hne, ih, getF, if_neg hne]
      · rw [getF, if_neg hne, ih, getF, if_neg hne]
    · rw [if_neg he, getF, ih]
      rw [getF]
theorem withL_cnt (nm : ByteArray) : ∀ (l : Es) (d : Bool), Flds l → cntFs (withL nm d l) ≤ cntFs l + 1
  | [], d, _ => by
    have e : cntV v77 = 1 := by rw [cntV_eq, if_neg (by omega), if_neg (by omega)]
    rw [withL]
    split
    · simp [cntFs]
    · rw [cntFs_cons, cntF_eq, e]; simp [cntFs]
  | r :: t, d, h => by
    obtain ⟨x, c, rfl, hx, hv⟩ := h r (by simp)
    have ih := fun d => withL_cnt nm t d (fun r hr => h r (List.mem_cons_of_mem _ hr))
    have e : cntV v77 = 1 := by rw [cntV_eq, if_neg (by omega), if_neg (by omega)]
    have hp := cntV_pos c
    have i1 := ih d
    have i2 := ih true
    rw [withL]
    split
    · split
      · rw [cntFs, cntFs]; omega
      · rw [cntFs, cntFs, cntF_eq, cntF_eq, e]; omega
    · rw [cntFs, cntFs]; omega
section
variable (k n : Int) (s : ByteArray) (xb : Bool) (eb : Es) (xf : Bool) (ef : Es) (xl : Bool) (el : Es) (nm : ByteArray) (hf : Flds ef) (lf : ef.length ≤ 1000000)
include hf lf
theorem wth_lp1 : ∀ (m i : Nat), i + m = ef.length → ∀ (d : Bool) (c : Es), 0 < c.length → c.length ≤ i → ∀ {sh nh nh1 sh1 xh eh1 xh1 eh2 xh2 eh3},
    ∃ r H1, wth_at1 k n s xb eb xf ef xl el nm d (i : Int) c sh nh nh1 sh1 xh eh1 xh1 eh2 xh2 eh3 c.length r H1 ∧ GD.pur r = some (.agg (valk.val k n s xb eb true (c ++ withL nm d (ef.drop i)) xl el)) := by
  have hmx : (1000000 : Nat) ≤ maxLen := by decide
  intro m
  induction m with
  | zero =>
    intro i hi d c hc hci sh nh nh1 sh1 xh eh1 xh1 eh2 xh2 eh3
    rw [List.drop_of_length_le (by omega), withL]
    cases d with
    | true =>
      refine ⟨_, _, wth_1_3 (by omega) rfl, ?_⟩
      simp [GD.pur, purs, valk.val]
    | false =>
      refine ⟨_, _, wth_1_4 (by omega) rfl ⟨rfl, by omega, rfl⟩, ?_⟩
      simp [GD.pur, purs, valk.val]
  | succ m ih =>
    intro i hi d c hc hci sh nh nh1 sh1 xh eh1 xh1 eh2 xh2 eh3
    have hlt : i < ef.length := by omega
    obtain ⟨x, ck, cn, cs, yb, cb, yf, cf, yl, cl, e, hg⟩ := fld_at hf hlt
    have w1 := up hlt (Nat.le_trans lf hmx)
    rw [List.drop_eq_getElem_cons hlt, e, withL]
    by_cases hx : x.toList = nm.toList
    · rw [if_pos hx]
      cases d with
      | true =>
        rw [if_pos rfl]
        obtain ⟨r, H1, g, hr⟩ := ih (i + 1) (by omega) true (c ++ [D.str x :: valk.val ck cn cs yb cb yf cf yl cl]) (by simp) (by simp; omega) (sh := sh) (nh := nh) (nh1 := nh1) (sh1 := sh1) (xh := xh) (eh1 := eh1) (xh1 := xh1) (eh2 := eh2) (xh2 := xh2) (eh3 := eh3)
        rw [List.append_assoc] at hr
        rw [← w1, List.length_append] at g
        exact ⟨r, H1, wth_1_0 (by omega) hx rfl ⟨rfl, by omega, rfl⟩ (by omega) hg g, hr⟩
      | false =>
        rw [if_neg (by decide)]
        obtain ⟨r, H1, g, hr⟩ := ih (i + 1) (by omega) true (c ++ [D.str x :: v77]) (by simp) (by simp; omega) (sh := sh) (nh := nh) (nh1 := nh1) (sh1 := sh1) (xh := xh) (eh1 := eh1) (xh1 := xh1) (eh2 := eh2) (xh2 := xh2) (eh3 := eh3)
        rw [List.append_assoc] at hr
        rw [← w1, List.length_append] at g
        exact ⟨r, H1, wth_1_1 (by omega) hx rfl ⟨rfl, by omega, rfl⟩ (by omega) hg g, hr⟩
    · rw [if_neg hx]
      obtain ⟨r, H1, g, hr⟩ := ih (i + 1) (by omega) d (c ++ [D.str x :: valk.val ck cn cs yb cb yf cf yl cl]) (by simp) (by simp; omega) (sh := sh) (nh := nh) (nh1 := nh1) (sh1 := sh1) (xh := xh) (eh1 := eh1) (xh1 := xh1) (eh2 := eh2) (xh2 := xh2) (eh3 := eh3)
      rw [List.append_assoc] at hr
      rw [← w1, List.length_append] at g
      exact ⟨r, H1, wth_1_2 (by omega) hx ⟨rfl, by omega, rfl⟩ (by omega) hg g, hr⟩
theorem with25 (h6 : k = 6) : Ret P T 25 [.agg (valk.val k n s xb eb xf ef xl el), .str nm, .agg v77] [] (.agg (valk.val k n s xb eb true (withL nm false ef) xl el)) [] := by
  have hmx : (1000000 : Nat) ≤ maxLen := by decide
  by_cases h0 : ef.length = 0
  · have e0 : ef = [] := List.length_eq_zero_iff.1 h0
    subst e0
    refine (wth_in_1 h6 (wth_0_4 (by simp) rfl)).pure ?_
    simp [GD.pur, purs, valk.val, withL]
  · have hlt : 0 < ef.length := by omega
    obtain ⟨x, ck, cn, cs, yb, cb, yf, cf, yl, cl, e, hg⟩ := fld_at hf hlt
    have w1 := up hlt (Nat.le_trans lf hmx)
    have ee : ef = ef[0] :: ef.drop 1 := by
      have := List.drop_eq_getElem_cons hlt
      simpa using this
    by_cases hx : x.toList = nm.toList
    · have hw : withL nm false ef = (D.str x :: v77) :: withL nm true (ef.drop 1) := by
        conv => lhs; rw [ee, e]
        rw [withL, if_pos hx, if_neg (by decide)]
      rw [hw]
      obtain ⟨r, H1, g, hr⟩ := wth_lp1 k n s xb eb xf ef xl el nm hf lf (ef.length - 1) 1 (by omega) true [D.str x :: v77] (by simp) (by simp) (sh := x) (nh := 3) (nh1 := 77) (sh1 := ByteArray.mk #[]) (xh := false) (eh1 := []) (xh1 := false) (eh2 := []) (xh2 := false) (eh3 := [])
      rw [show ((1 : Nat) : Int) = ((0 + 1 : Nat) : Int) from rfl, ← w1] at g
      exact (wth_in_1 h6 (wth_0_1 (by omega) hx rfl (by omega) hg g)).pure hr
    · have hw : withL nm false ef = (D.str x :: valk.val ck cn cs yb cb yf cf yl cl) :: withL nm false (ef.drop 1) := by
        conv => lhs; rw [ee, e]
        rw [withL, if_neg hx]
      rw [hw]
      obtain ⟨r, H1, g, hr⟩ := wth_lp1 k n s xb eb xf ef xl el nm hf lf (ef.length - 1) 1 (by omega) false [D.str x :: valk.val ck cn cs yb cb yf cf yl cl] (by simp) (by simp) (sh := x) (nh := ck) (nh1 := cn) (sh1 := cs) (xh := yb) (eh1 := cb) (xh1 := yf) (eh2 := cf) (xh2 := yl) (eh3 := cl)
      rw [show ((1 : Nat) : Int) = ((0 + 1 : Nat) : Int) from rfl, ← w1] at g
      exact (wth_in_1 h6 (wth_0_2 (by omega) hx (by omega) hg g)).pure hr
end

/-! ### the law -/
def nmOf (l : Es) : List ByteArray := l.map fun r => match r with | [.str s] => s | _ => ByteArray.mk #[]
theorem nmOf_nmS (ps : List ByteArray) : nmOf (nmS ps) = ps := by simp [nmOf, nmS, List.map_map, Function.comp_def]
theorem vs_with {n : Int} {s : ByteArray} {xb : Bool} {eb : Es} {xf : Bool} {ef : Es} {xl : Bool} {el : Es} {a : ByteArray} (ha : a.size ≤ maxLen) (lf : ef.length ≤ 1000000) (h : VS (valk.val 6 n s xb eb xf ef xl el)) : VS (valk.val 6 n s xb eb true (withL a false ef) xl el) := by
  have hfl := (flds_of h).1
  change Flds ef at hfl
  have h2 := withL_flds ha ef false hfl
  have h3 := withL_len a ef false hfl
  have hmx : (1000001 : Nat) ≤ maxLen := by decide
  cases h with
  | mk _ _ _ _ _ _ _ _ _ bs hk hn hs hb hb' lb lf' ll nb nf nl hf hfv hl =>
    refine .mk 6 n s xb eb true _ xl el bs hk hn hs hb hb' lb (by omega) ll nb (fun e => by cases e) nl (fun r hr => ?_) (fun nm c hm => ?_) hl
    · obtain ⟨x, c, e, hx, _⟩ := h2 r hr
      exact ⟨x, c, e, hx⟩
    · obtain ⟨x, c', e, _, hv⟩ := h2 _ hm
      simp only [List.cons.injEq, D.str.injEq] at e
      obtain ⟨_, rfl⟩ := e
      exact hv
theorem nmS_0 (a : ByteArray) (t : List ByteArray) : (nmS (a :: t))[(0 : Nat)]? = some [D.str a] := rfl
theorem law8 (xa xp : Bool) (pa ps : List ByteArray) (hp : ∀ s ∈ pa, s.size ≤ maxLen) (la : pa.length ≤ maxLen) (lp : ps.length ≤ maxLen) {v : Cs} (hv : VS v) : Ret P T 8 [.slice xa (nmS pa) none, .slice xp (nmS ps) none, .agg v] [] (.bool true) [] := by
  obtain ⟨b, hb, hok⟩ := valid13 hv
  have fa := few14 xa pa la
  have fp := few14 xp ps lp
  have t1 := touch23 xa xp pa ps la lp
  have t2 := touch24 xa xp pa ps la lp
  have t3 := touch23 xp xa ps pa lp la
  rw [← tcB_comm pa ps] at t3
  cases wa : fewW pa with
  | false =>
    rw [wa] at fa
    obtain ⟨k, n, s, xb, eb, xf, ef, xl, el, rfl⟩ := hv.get
    exact lpt_in_7 (vd := fun _ => false) (fw := fun _ => false) (sm := fun _ _ => true) (sa := fun _ _ => true) (rV := fun _ _ => ctOf zeroV) (aV := fun _ _ => []) (tc := fun _ _ => false) (wV := fun _ _ _ => ctOf zeroV) rfl fa awake9
  | true =>
    rw [wa] at fa
    cases wp : fewW ps with
    | false =>
      rw [wp] at fp
      obtain ⟨k, n, s, xb, eb, xf, ef, xl, el, rfl⟩ := hv.get
      exact lpt_in_6 (vd := fun _ => false) (fw := fun x => fewW (nmOf x)) (sm := fun _ _ => true) (sa := fun _ _ => true) (rV := fun _ _ => ctOf zeroV) (aV := fun _ _ => []) (tc := fun _ _ => false) (wV := fun _ _ _ => ctOf zeroV) (by rw [nmOf_nmS]; exact wa) (by rw [nmOf_nmS]; exact wp) (by rw [nmOf_nmS, wp]; exact fp) (by rw [nmOf_nmS, wa]; exact fa) awake9
    | true =>
      rw [wp] at fp
      cases b with
      | false =>
        obtain ⟨k, n, s, xb, eb, xf, ef, xl, el, rfl⟩ := hv.get
        exact lpt_in_5 (vd := fun _ => false) (fw := fun _ => true) (sm := fun _ _ => true) (sa := fun _ _ => true) (rV := fun _ _ => ctOf zeroV) (aV := fun _ _ => []) (tc := fun _ _ => false) (wV := fun _ _ _ => ctOf zeroV) rfl rfl rfl hb fp fa awake9
      | true =>
        have hbd := bd_of hv (hok rfl).2
        cases pa with
        | nil =>
          obtain ⟨k, n, s, xb, eb, xf, ef, xl, el, rfl⟩ := hv.get
          exact lpt_in_0 (vd := fun _ => true) (fw := fun _ => true) (sm := fun _ _ => true) (sa := fun _ _ => true) (rV := fun _ _ => ctOf zeroV) (aV := fun _ _ => []) (tc := fun _ _ => tcB [] ps) (wV := fun _ _ _ => ctOf zeroV) rfl rfl rfl rfl rfl t3 t2 t1 hb fp fa awake9
        | cons a ta =>
          cases ps with
          | nil =>
            obtain ⟨k, n, s, xb, eb, xf, ef, xl, el, rfl⟩ := hv.get
            exact lpt_in_1 (vd := fun _ => true) (fw := fun _ => true) (sm := fun _ _ => true) (sa := fun _ _ => true) (rV := fun _ _ => ctOf zeroV) (aV := fun _ _ => []) (tc := fun _ _ => tcB (a :: ta) []) (wV := fun _ _ _ => ctOf zeroV) rfl rfl rfl rfl (by simp [nmS]; omega) rfl t3 t2 t1 hb fp fa awake9
          | cons p tp =>
            have n1 : (((nmS (a :: ta)).length : Nat) : Int) ≠ 0 := by simp [nmS]; omega
            have n2 : (((nmS (p :: tp)).length : Nat) : Int) ≠ 0 := by simp [nmS]; omega
            by_cases hap : a.toList = p.toList
            · obtain ⟨k, n, s, xb, eb, xf, ef, xl, el, rfl⟩ := hv.get
              exact lpt_in_2 (vd := fun _ => true) (fw := fun _ => true) (sm := fun _ _ => true) (sa := fun _ _ => true) (rV := fun _ _ => ctOf zeroV) (aV := fun _ _ => []) (tc := fun _ _ => tcB (a :: ta) (p :: tp)) (wV := fun _ _ _ => ctOf zeroV) rfl rfl rfl rfl n1 n2 hap (nmS_0 p tp) (nmS_0 a ta) t3 t2 t1 hb fp fa awake9
            · have hfl := flds_of hv
              obtain ⟨k, n, s, xb, eb, xf, ef, xl, el, rfl⟩ := hv.get
              change Flds ef ∧ ef.length ≤ maxLen at hfl
              by_cases h6 : k = 6
              · subst h6
                have tf : tcB (a :: ta) (p :: tp) = false := by rw [tcB, if_neg hap]
                rw [tf] at t1 t2 t3
                have hbd' := hbd
                unfold Bd at hbd'
                rw [cntV_6] at hbd'
                have lc : ef.length ≤ cntFs ef := by
                  have hh : ∀ t : Es, Flds t → t.length ≤ cntFs t := by
                    intro t
                    induction t with
                    | nil => intro _; simp
                    | cons r t ih =>
                      intro h
                      obtain ⟨x, c, rfl, _, _⟩ := h r (by simp)
                      have h1 := ih (fun r hr => h r (List.mem_cons_of_mem _ hr))
                      have h2 := cntV_pos c
                      rw [cntFs, cntF, List.length_cons]; omega
                  exact hh ef hfl.1
                have w25 := with25 6 n s xb eb xf ef xl el a hfl.1 (by omega) rfl
                have hfl2 := withL_flds (hp a (by simp)) ef false hfl.1
                have ge := withL_get hap ef false hfl.1
                have hx := vs_with (hp a (by simp)) (show ef.length ≤ 1000000 by omega) hv
                have hbx : Bd (valk.val 6 n s xb eb true (withL a false ef) xl el) := by
                  have := withL_cnt a ef false hfl.1
                  have h7 := (hok rfl).2
                  have h8 := cnt_enc hv
                  rw [cntV_6] at h8
                  unfold Bd
                  rw [cntV_6]; omega
                have eR : reachN (p :: tp) (valk.val 6 n s xb eb true (withL a false ef) xl el) = reachN (p :: tp) (valk.val 6 n s xb eb xf ef xl el) := by
                  rw [reachN, rc1_val, reachN, rc1_val, if_pos rfl, if_pos rfl, ge]
                have eA : allN (p :: tp) (valk.val 6 n s xb eb true (withL a false ef) xl el) = allN (p :: tp) (valk.val 6 n s xb eb xf ef xl el) := by
                  rw [allN, al1_val, allN, al1_val, if_pos rfl, if_pos rfl, ge]
                have r1 := reach16 xp (p :: tp) hv hbd
                have r2 := reach16 xp (p :: tp) hx hbx
                have a1 := all19 xp (p :: tp) hv hbd
                have a2 := all19 xp (p :: tp) hx hbx
                rw [eR] at r2
                rw [eA] at a2
                have s1 := same15 (reach_vs (p :: tp) hv)
                have s2 := same18 true true (all_vs (p :: tp) hv) (all_max (ps := p :: tp) hv hbd)
                have c1 := cells_of (reach_vs (p :: tp) hv)
                rw [← c1] at r1 r2 s1
                exact lpt_in_4 (vd := fun _ => true) (fw := fun _ => true) (sm := fun _ _ => true) (sa := fun _ _ => true) (rV := fun _ _ => ctOf (reachN (p :: tp) (valk.val 6 n s xb eb xf ef xl el))) (aV := fun _ _ => allN (p :: tp) (valk.val 6 n s xb eb xf ef xl el)) (tc := fun _ _ => false) (wV := fun _ _ _ => ctOf (valk.val 6 n s xb eb true (withL a false ef) xl el)) rfl rfl rfl rfl n1 n2 hap rfl rfl rfl s2 a2 a1 s1 r2 r1 w25 (nmS_0 a ta) (nmS_0 p tp) (nmS_0 a ta) t3 t2 t1 hb fp fa awake9
              · exact lpt_in_3 (vd := fun _ => true) (fw := fun _ => true) (sm := fun _ _ => true) (sa := fun _ _ => true) (rV := fun _ _ => ctOf zeroV) (aV := fun _ _ => []) (tc := fun _ _ => tcB (a :: ta) (p :: tp)) (wV := fun _ _ _ => ctOf zeroV) rfl rfl rfl rfl n1 n2 hap h6 (nmS_0 p tp) (nmS_0 a ta) t3 t2 t1 hb fp fa awake9

end Go.Proofs.YtlccdfilbiipmaaDoor.ordk
