/- Paths: Reach comes to a law, the program's and the document's. -/
import Derived.Test.YtlccdfilbiipmaaDoorPwT
namespace Go.Proofs.YtlccdfilbiipmaaDoor.ordk
open Go YtlccdfilbiipmaaDoor.GD valk
set_option linter.unusedVariables false
set_option linter.unusedSimpArgs false
set_option maxRecDepth 100000

/-- Names as a slice's elements. -/
def nmS (ps : List ByteArray) : Es := ps.map fun s => [D.str s]
theorem nmS_all (ps : List ByteArray) : (List.all (nmS ps) fun c => c.length == 1) = true := by
  rw [List.all_eq_true]; intro x hx
  obtain ⟨s, _, rfl⟩ := List.mem_map.1 hx
  rfl
theorem nmS_len (ps : List ByteArray) : (nmS ps).length = ps.length := List.length_map ..
def mkL (l : Es) : Cs := valk.val 7 0 (ByteArray.mk #[]) false [] false [] (!l.isEmpty) l
mutual
def rc1 (nm : ByteArray) (R : Cs → Cs) : Cs → Cs
  | [.int _ k, _, _, _, .slice _ ef _, .slice _ el _] => if k = 6 then R (getF nm ef) else if k = 7 then mkL (rcL nm R el) else zeroV
  | _ => zeroV
def rcL (nm : ByteArray) (R : Cs → Cs) : Es → Es
  | [] => []
  | x :: t => if (kindOf x = 6 ∨ kindOf x = 7) ∧ kindOf (rc1 nm R x) ≠ 0 then rc1 nm R x :: rcL nm R t else rcL nm R t
end
/-- What an expression's path leads to. -/
def reachN : List ByteArray → Cs → Cs
  | [], v => v
  | nm :: ps, v => rc1 nm (reachN ps) v
theorem rc1_val (nm : ByteArray) (R : Cs → Cs) (k n : Int) (s : ByteArray) (xb : Bool) (eb : Es) (xf : Bool) (ef : Es) (xl : Bool) (el : Es) :
    rc1 nm R (valk.val k n s xb eb xf ef xl el) = if k = 6 then R (getF nm ef) else if k = 7 then mkL (rcL nm R el) else zeroV := by
  unfold valk.val; rw [rc1]
theorem ct_kind {v : Cs} (hv : VS v) : (ctOf v).1 = kindOf v := by
  obtain ⟨k, n, s, xb, eb, xf, ef, xl, el, rfl⟩ := hv.get
  rfl
theorem vs_mkL {l : Es} (hl : ∀ r ∈ l, VS r) (h : l.length ≤ maxLen) : VS (mkL l) :=
  .mk 7 0 _ _ _ _ _ _ _ [] (by omega) (by omega) (by decide) rfl (fun x hx => by cases hx) (by decide) (by decide) h (fun _ => rfl) (fun _ => rfl) (fun e => by cases l with | nil => rfl | cons a b => simp at e) (fun r hr => by cases hr) (fun nm c hm => by cases hm) hl
theorem rcL_len (nm : ByteArray) (R : Cs → Cs) : ∀ l : Es, (rcL nm R l).length ≤ l.length
  | [] => by simp [rcL]
  | x :: t => by
    have := rcL_len nm R t
    rw [rcL]
    split <;> simp <;> omega
theorem rcL_mem (nm : ByteArray) (R : Cs → Cs) : ∀ (l : Es), ∀ r ∈ rcL nm R l, ∃ x ∈ l, r = rc1 nm R x
  | [], r, hr => by simp [rcL] at hr
  | x :: t, r, hr => by
    rw [rcL] at hr
    split at hr
    · rcases List.mem_cons.1 hr with h | h
      · exact ⟨x, by simp, h⟩
      · obtain ⟨y, hy, e⟩ := rcL_mem nm R t r h
        exact ⟨y, List.mem_cons_of_mem _ hy, e⟩
    · obtain ⟨y, hy, e⟩ := rcL_mem nm R t r hr
      exact ⟨y, List.mem_cons_of_mem _ hy, e⟩
theorem reach_vs : ∀ (ps : List ByteArray) {v : Cs}, VS v → VS (reachN ps v)
  | [], v, hv => hv
  | nm :: ps, v, hv => by
    have ih := @reach_vs ps
    induction hv with
    | mk k n s xb eb xf ef xl el bs hk hn hs hb hb' lb lf ll nb nf nl hf hfv hl ihf ihl =>
      have hv : VS (valk.val k n s xb eb xf ef xl el) := .mk k n s xb eb xf ef xl el bs hk hn hs hb hb' lb lf ll nb nf nl hf hfv hl
      rw [reachN, rc1_val]
      split
      · exact ih (getF_vs (flds_of hv).1 nm)
      · split
        · refine vs_mkL (fun r hr => ?_) (Nat.le_trans (rcL_len _ _ _) ll)
          obtain ⟨x, hx, rfl⟩ := rcL_mem nm _ el r hr
          exact ihl x hx
        · exact vs_zero

/-! how many values there are -/
mutual
def cntV : Cs → Nat
  | [.int _ k, _, _, _, .slice _ ef _, .slice _ el _] => 1 + (if k = 6 then cntFs ef else 0) + (if k = 7 then cntLs el else 0)
  | _ => 1
def cntF : Cs → Nat
  | .str _ :: c => cntV c
  | _ => 0
def cntFs : Es → Nat
  | [] => 0
  | r :: t => cntF r + cntFs t
def cntLs : Es → Nat
  | [] => 0
  | r :: t => cntV r + cntLs t
end
theorem cntV_eq (k n : Int) (s : ByteArray) (xb : Bool) (eb : Es) (xf : Bool) (ef : Es) (xl : Bool) (el : Es) : cntV (valk.val k n s xb eb xf ef xl el) = 1 + (if k = 6 then cntFs ef else 0) + (if k = 7 then cntLs el else 0) := by
  unfold valk.val; rw [cntV]
theorem cntF_eq (nm : ByteArray) (c : Cs) : cntF (D.str nm :: c) = cntV c := by rw [cntF]
theorem cntLs_cons (x : Cs) (t : Es) : cntLs (x :: t) = cntV x + cntLs t := by rw [cntLs]
theorem cntFs_cons (x : Cs) (t : Es) : cntFs (x :: t) = cntF x + cntFs t := by rw [cntFs]
theorem cntV_pos (v : Cs) : 1 ≤ cntV v := by
  unfold cntV; split <;> omega
/-- Small enough. -/
def Bd (v : Cs) : Prop := cntV v ≤ 1000000
theorem cntFs_mem {nm : ByteArray} {c : Cs} : ∀ {ef : Es}, (D.str nm :: c) ∈ ef → cntV c ≤ cntFs ef
  | [], h => by cases h
  | r :: t, h => by
    rw [cntFs]
    rcases List.mem_cons.1 h with h | h
    · subst h
      rw [cntF]; omega
    · have := cntFs_mem h
      omega
theorem cntLs_mem {c : Cs} : ∀ {el : Es}, c ∈ el → cntV c ≤ cntLs el
  | [], h => by cases h
  | r :: t, h => by
    rw [cntLs]
    rcases List.mem_cons.1 h with h | h
    · subst h; omega
    · have := cntLs_mem h
      omega
theorem cntLs_count : ∀ (el : Es), el.length ≤ cntLs el
  | [] => by simp
  | r :: t => by
    have := cntLs_count t
    have := cntV_pos r
    rw [cntLs, List.length_cons]; omega
theorem encV_pos {v : Cs} (hv : VS v) : 1 ≤ (encV v).length := by
  obtain ⟨k, n, s, xb, eb, xf, ef, xl, el, rfl⟩ := hv.get
  rw [encV_eq]; simp
theorem cnt_enc {v : Cs} (hv : VS v) : cntV v ≤ (encV v).length := by
  induction hv with
  | mk k n s xb eb xf ef xl el bs hk hn hs hb hb' lb lf ll nb nf nl hf hfv hl ihf ihl =>
    have hv : VS (valk.val k n s xb eb xf ef xl el) := .mk k n s xb eb xf ef xl el bs hk hn hs hb hb' lb lf ll nb nf nl hf hfv hl
    have h1 := encV_pos hv
    have kf : ∀ t : Es, (∀ r ∈ t, r ∈ ef) → cntFs t ≤ (encFs t).length := by
      intro t
      induction t with
      | nil => intro _; simp [cntFs]
      | cons r t ih =>
        intro h
        have h2 := ih (fun r hr => h r (List.mem_cons_of_mem _ hr))
        obtain ⟨nm, c, rfl, _⟩ := hf r (h r (by simp))
        have h3 := ihf nm c (h _ (by simp))
        rw [cntFs, cntF, encFs, encF]; simp; omega
    have kl : ∀ t : Es, (∀ r ∈ t, r ∈ el) → cntLs t ≤ (encLs t).length := by
      intro t
      induction t with
      | nil => intro _; simp [cntLs]
      | cons r t ih =>
        intro h
        have h2 := ih (fun r hr => h r (List.mem_cons_of_mem _ hr))
        have h3 := ihl r (h _ (by simp))
        rw [cntLs, encLs]; simp; omega
    have h2 := kf ef (fun _ h => h)
    have h3 := kl el (fun _ h => h)
    rw [cntV_eq]
    by_cases h6 : k = 6
    · rw [encL_c (.inl h6), if_pos h6, if_neg (by omega)]; omega
    · by_cases h7 : k = 7
      · rw [encL_c (.inr h7), if_neg h6, if_pos h7]; omega
      · rw [if_neg h6, if_neg h7]; omega
theorem bd_zero : Bd zeroV := by
  unfold Bd zeroV
  rw [cntV_eq, if_neg (by omega), if_neg (by omega)]
  omega
theorem getF_mem {ef : Es} (h : Flds ef) (nm : ByteArray) : getF nm ef = zeroV ∨ ∃ x, (D.str x :: getF nm ef) ∈ ef := by
  induction ef with
  | nil => exact .inl rfl
  | cons r t ih =>
    obtain ⟨x, c, rfl, _, hv⟩ := h r (by simp)
    rw [getF]
    split
    · exact .inr ⟨x, by simp⟩
    · rcases ih (fun r hr => h r (List.mem_cons_of_mem _ hr)) with h1 | ⟨y, h1⟩
      · exact .inl h1
      · exact .inr ⟨y, List.mem_cons_of_mem _ h1⟩
theorem cntV_6 {n : Int} {s : ByteArray} {xb : Bool} {eb : Es} {xf : Bool} {ef : Es} {xl : Bool} {el : Es} : cntV (valk.val 6 n s xb eb xf ef xl el) = 1 + cntFs ef := by
  rw [cntV_eq, if_pos rfl, if_neg (by omega)]; omega
theorem cntV_7 {n : Int} {s : ByteArray} {xb : Bool} {eb : Es} {xf : Bool} {ef : Es} {xl : Bool} {el : Es} : cntV (valk.val 7 n s xb eb xf ef xl el) = 1 + cntLs el := by
  rw [cntV_eq, if_neg (by omega), if_pos rfl]
theorem bd_get {n : Int} {s : ByteArray} {xb : Bool} {eb : Es} {xf : Bool} {ef : Es} {xl : Bool} {el : Es} (hf : Flds ef) (h : Bd (valk.val 6 n s xb eb xf ef xl el)) (nm : ByteArray) : Bd (getF nm ef) := by
  unfold Bd at h ⊢
  rw [cntV_6] at h
  rcases getF_mem hf nm with h1 | ⟨x, h1⟩
  · rw [h1]; exact bd_zero
  · have := cntFs_mem h1
    omega
theorem bd_list {n : Int} {s : ByteArray} {xb : Bool} {eb : Es} {xf : Bool} {ef : Es} {xl : Bool} {el : Es} (h : Bd (valk.val 7 n s xb eb xf ef xl el)) : el.length ≤ 1000000 ∧ ∀ x ∈ el, Bd x := by
  unfold Bd at h
  rw [cntV_7] at h
  have := cntLs_count el
  refine ⟨by omega, fun x hx => ?_⟩
  have := cntLs_mem hx
  unfold Bd
  omega

section
variable (k n : Int) (s : ByteArray) (xb : Bool) (eb : Es) (xf : Bool) (ef : Es) (xl : Bool) (el : Es) (xp : Bool) (nm : ByteArray) (ps : List ByteArray) (ll : el.length ≤ 1000000)
  (R : Cs → Cs) (hR : ∀ x ∈ el, VS x ∧ VS (rc1 nm R x) ∧ Ret P T 16 [.agg x, .slice xp (nmS (nm :: ps)) none] [] (.agg (rc1 nm R x)) [])
include ll hR
theorem rch_lp1 : ∀ (m i : Nat), i + m = el.length → ∀ c : Es, 0 < c.length → c.length ≤ i → ∀ (nh nh1 : Int) (sh : ByteArray) (xh : Bool) (eh1 : Es) (xh1 : Bool) (eh2 : Es) (xh2 : Bool) (eh3 : Es) (mh mh1 : Int) (th : ByteArray) (yh : Bool) (fh1 : Es) (yh1 : Bool) (fh2 : Es) (yh2 : Bool) (fh3 : Es),
    ∃ r H1, rch_at1 (fun _ _ => ctOf zeroV) (fun v _ => ctOf (rc1 nm R v)) (fun _ _ => false) (fun _ _ => []) k n s xb eb xf ef xl el xp (nmS (nm :: ps)) (i : Int) c nh nh1 sh xh eh1 xh1 eh2 xh2 eh3 mh mh1 th yh fh1 yh1 fh2 yh2 fh3 c.length r H1 ∧ GD.pur r = some (.agg (mkL (c ++ rcL nm R (el.drop i)))) := by
  have hmx : (1000000 : Nat) ≤ maxLen := by decide
  intro m
  induction m with
  | zero =>
    intro i hi c hc0 hci nh nh1 sh xh eh1 xh1 eh2 xh2 eh3 mh mh1 th yh fh1 yh1 fh2 yh2 fh3
    rw [List.drop_of_length_le (by omega), rcL, List.append_nil]
    refine ⟨_, _, rch_1_5 (by omega), ?_⟩
    have e : c.isEmpty = false := by cases c with | nil => simp at hc0 | cons a b => rfl
    simp [GD.pur, purs, mkL, valk.val, e]
  | succ m ih =>
    intro i hi c hc0 hci nh nh1 sh xh eh1 xh1 eh2 xh2 eh3 mh mh1 th yh fh1 yh1 fh2 yh2 fh3
    have hlt : i < el.length := by omega
    rw [List.drop_eq_getElem_cons hlt]
    obtain ⟨hv, hvr, hrt⟩ := hR _ (List.getElem_mem hlt)
    obtain ⟨ck, cn, cs, yb, cb, yf, cf, yl, cl, he⟩ := hv.get
    have hg : el[((i : Int)).toNat]? = some (valk.val ck cn cs yb cb yf cf yl cl) := by rw [Int.toNat_natCast, List.getElem?_eq_getElem hlt, he]
    rw [he] at hvr hrt ⊢
    have hk : kindOf (valk.val ck cn cs yb cb yf cf yl cl) = ck := rfl
    have hcells := cells_of hvr
    have hkr : (ctOf (rc1 nm R (valk.val ck cn cs yb cb yf cf yl cl))).1 = kindOf (rc1 nm R (valk.val ck cn cs yb cb yf cf yl cl)) := ct_kind hvr
    rw [← hcells] at hrt
    have w1 := up hlt (Nat.le_trans ll hmx)
    by_cases h6 : ck = 6
    · by_cases hz : (ctOf (rc1 nm R (valk.val ck cn cs yb cb yf cf yl cl))).1 = 0
      · have e : rcL nm R (valk.val ck cn cs yb cb yf cf yl cl :: el.drop (i + 1)) = rcL nm R (el.drop (i + 1)) := by rw [rcL, if_neg (by rw [← hkr]; exact fun h => h.2 hz)]
        rw [e]
        obtain ⟨r, H1, g, hr⟩ := ih (i + 1) (by omega) c hc0 (by omega) nh nh1 sh xh eh1 xh1 eh2 xh2 eh3 mh mh1 th yh fh1 yh1 fh2 yh2 fh3
        rw [← w1] at g
        exact ⟨r, H1, rch_1_4 (by omega) h6 hz hrt (by omega) hg g, hr⟩
      · have e : rcL nm R (valk.val ck cn cs yb cb yf cf yl cl :: el.drop (i + 1)) = rc1 nm R (valk.val ck cn cs yb cb yf cf yl cl) :: rcL nm R (el.drop (i + 1)) := by rw [rcL, if_pos ⟨.inl (hk.trans h6), by rw [← hkr]; exact hz⟩]
        rw [e]
        obtain ⟨r, H1, g, hr⟩ := ih (i + 1) (by omega) (c ++ [cellsT (ctOf (rc1 nm R (valk.val ck cn cs yb cb yf cf yl cl)))]) (by simp) (by simp; omega) nh nh1 sh xh eh1 xh1 eh2 xh2 eh3 mh mh1 th yh fh1 yh1 fh2 yh2 fh3
        rw [hcells, List.append_assoc] at hr
        rw [← w1, List.length_append] at g
        exact ⟨r, H1, rch_1_3 (by omega) h6 hz ⟨rfl, by omega, rfl⟩ hrt (by omega) hg g, hr⟩
    · by_cases h7 : ck = 7
      · by_cases hz : (ctOf (rc1 nm R (valk.val ck cn cs yb cb yf cf yl cl))).1 = 0
        · have e : rcL nm R (valk.val ck cn cs yb cb yf cf yl cl :: el.drop (i + 1)) = rcL nm R (el.drop (i + 1)) := by rw [rcL, if_neg (by rw [← hkr]; exact fun h => h.2 hz)]
          rw [e]
          obtain ⟨r, H1, g, hr⟩ := ih (i + 1) (by omega) c hc0 (by omega) nh nh1 sh xh eh1 xh1 eh2 xh2 eh3 mh mh1 th yh fh1 yh1 fh2 yh2 fh3
          rw [← w1] at g
          exact ⟨r, H1, rch_1_2 (by omega) h6 h7 hz hrt (by omega) hg g, hr⟩
        · have e : rcL nm R (valk.val ck cn cs yb cb yf cf yl cl :: el.drop (i + 1)) = rc1 nm R (valk.val ck cn cs yb cb yf cf yl cl) :: rcL nm R (el.drop (i + 1)) := by rw [rcL, if_pos ⟨.inr (hk.trans h7), by rw [← hkr]; exact hz⟩]
          rw [e]
          obtain ⟨r, H1, g, hr⟩ := ih (i + 1) (by omega) (c ++ [cellsT (ctOf (rc1 nm R (valk.val ck cn cs yb cb yf cf yl cl)))]) (by simp) (by simp; omega) nh nh1 sh xh eh1 xh1 eh2 xh2 eh3 mh mh1 th yh fh1 yh1 fh2 yh2 fh3
          rw [hcells, List.append_assoc] at hr
          rw [← w1, List.length_append] at g
          exact ⟨r, H1, rch_1_1 (by omega) h6 h7 hz ⟨rfl, by omega, rfl⟩ hrt (by omega) hg g, hr⟩
      · have e : rcL nm R (valk.val ck cn cs yb cb yf cf yl cl :: el.drop (i + 1)) = rcL nm R (el.drop (i + 1)) := by rw [rcL, if_neg (by rw [hk]; exact fun h => h.1.elim h6 h7)]
        rw [e]
        obtain ⟨r, H1, g, hr⟩ := ih (i + 1) (by omega) c hc0 (by omega) nh nh1 sh xh eh1 xh1 eh2 xh2 eh3 mh mh1 th yh fh1 yh1 fh2 yh2 fh3
        rw [← w1] at g
        exact ⟨r, H1, rch_1_0 (by omega) h6 h7 (by omega) hg g, hr⟩
theorem rch_lp0 : ∀ (m i : Nat), i + m = el.length → 
    ∃ r H1, rch_at0 (fun _ _ => ctOf zeroV) (fun v _ => ctOf (rc1 nm R v)) (fun _ _ => false) (fun _ _ => []) k n s xb eb xf ef xl el xp (nmS (nm :: ps)) (i : Int) r H1 ∧ GD.pur r = some (.agg (mkL (rcL nm R (el.drop i)))) := by
  have hmx : (1000000 : Nat) ≤ maxLen := by decide
  intro m
  induction m with
  | zero =>
    intro i hi
    rw [List.drop_of_length_le (by omega), rcL]
    exact ⟨_, _, rch_0_5 (by omega), rfl⟩
  | succ m ih =>
    intro i hi
    have hlt : i < el.length := by omega
    rw [List.drop_eq_getElem_cons hlt]
    obtain ⟨hv, hvr, hrt⟩ := hR _ (List.getElem_mem hlt)
    obtain ⟨ck, cn, cs, yb, cb, yf, cf, yl, cl, he⟩ := hv.get
    have hg : el[((i : Int)).toNat]? = some (valk.val ck cn cs yb cb yf cf yl cl) := by rw [Int.toNat_natCast, List.getElem?_eq_getElem hlt, he]
    rw [he] at hvr hrt ⊢
    have hk : kindOf (valk.val ck cn cs yb cb yf cf yl cl) = ck := rfl
    have hcells := cells_of hvr
    have hkr : (ctOf (rc1 nm R (valk.val ck cn cs yb cb yf cf yl cl))).1 = kindOf (rc1 nm R (valk.val ck cn cs yb cb yf cf yl cl)) := ct_kind hvr
    rw [← hcells] at hrt
    have w1 := up hlt (Nat.le_trans ll hmx)
    have l1 := rch_lp1 k n s xb eb xf ef xl el xp nm ps ll R hR m (i + 1) (by omega) [cellsT (ctOf (rc1 nm R (valk.val ck cn cs yb cb yf cf yl cl)))] (by simp) (by simp)
    by_cases h6 : ck = 6
    · by_cases hz : (ctOf (rc1 nm R (valk.val ck cn cs yb cb yf cf yl cl))).1 = 0
      · have e : rcL nm R (valk.val ck cn cs yb cb yf cf yl cl :: el.drop (i + 1)) = rcL nm R (el.drop (i + 1)) := by rw [rcL, if_neg (by rw [← hkr]; exact fun h => h.2 hz)]
        rw [e]
        obtain ⟨r, H1, g, hr⟩ := ih (i + 1) (by omega)
        rw [← w1] at g
        exact ⟨r, H1, rch_0_4 (by omega) h6 hz hrt (by omega) hg g, hr⟩
      · have e : rcL nm R (valk.val ck cn cs yb cb yf cf yl cl :: el.drop (i + 1)) = rc1 nm R (valk.val ck cn cs yb cb yf cf yl cl) :: rcL nm R (el.drop (i + 1)) := by rw [rcL, if_pos ⟨.inl (hk.trans h6), by rw [← hkr]; exact hz⟩]
        rw [e]
        obtain ⟨r, H1, g, hr⟩ := l1 ck cn cs yb cb yf cf yl cl (ctOf (rc1 nm R (valk.val ck cn cs yb cb yf cf yl cl))).1 (ctOf (rc1 nm R (valk.val ck cn cs yb cb yf cf yl cl))).2.1 (ctOf (rc1 nm R (valk.val ck cn cs yb cb yf cf yl cl))).2.2.1 (ctOf (rc1 nm R (valk.val ck cn cs yb cb yf cf yl cl))).2.2.2.1 (ctOf (rc1 nm R (valk.val ck cn cs yb cb yf cf yl cl))).2.2.2.2.1 (ctOf (rc1 nm R (valk.val ck cn cs yb cb yf cf yl cl))).2.2.2.2.2.1 (ctOf (rc1 nm R (valk.val ck cn cs yb cb yf cf yl cl))).2.2.2.2.2.2.1 (ctOf (rc1 nm R (valk.val ck cn cs yb cb yf cf yl cl))).2.2.2.2.2.2.2.1 (ctOf (rc1 nm R (valk.val ck cn cs yb cb yf cf yl cl))).2.2.2.2.2.2.2.2
        rw [hcells] at hr
        rw [← w1] at g
        exact ⟨r, H1, rch_0_3 (by omega) h6 hz hrt (by omega) hg g, hr⟩
    · by_cases h7 : ck = 7
      · by_cases hz : (ctOf (rc1 nm R (valk.val ck cn cs yb cb yf cf yl cl))).1 = 0
        · have e : rcL nm R (valk.val ck cn cs yb cb yf cf yl cl :: el.drop (i + 1)) = rcL nm R (el.drop (i + 1)) := by rw [rcL, if_neg (by rw [← hkr]; exact fun h => h.2 hz)]
          rw [e]
          obtain ⟨r, H1, g, hr⟩ := ih (i + 1) (by omega)
          rw [← w1] at g
          exact ⟨r, H1, rch_0_2 (by omega) h6 h7 hz hrt (by omega) hg g, hr⟩
        · have e : rcL nm R (valk.val ck cn cs yb cb yf cf yl cl :: el.drop (i + 1)) = rc1 nm R (valk.val ck cn cs yb cb yf cf yl cl) :: rcL nm R (el.drop (i + 1)) := by rw [rcL, if_pos ⟨.inr (hk.trans h7), by rw [← hkr]; exact hz⟩]
          rw [e]
          obtain ⟨r, H1, g, hr⟩ := l1 ck cn cs yb cb yf cf yl cl (ctOf (rc1 nm R (valk.val ck cn cs yb cb yf cf yl cl))).1 (ctOf (rc1 nm R (valk.val ck cn cs yb cb yf cf yl cl))).2.1 (ctOf (rc1 nm R (valk.val ck cn cs yb cb yf cf yl cl))).2.2.1 (ctOf (rc1 nm R (valk.val ck cn cs yb cb yf cf yl cl))).2.2.2.1 (ctOf (rc1 nm R (valk.val ck cn cs yb cb yf cf yl cl))).2.2.2.2.1 (ctOf (rc1 nm R (valk.val ck cn cs yb cb yf cf yl cl))).2.2.2.2.2.1 (ctOf (rc1 nm R (valk.val ck cn cs yb cb yf cf yl cl))).2.2.2.2.2.2.1 (ctOf (rc1 nm R (valk.val ck cn cs yb cb yf cf yl cl))).2.2.2.2.2.2.2.1 (ctOf (rc1 nm R (valk.val ck cn cs yb cb yf cf yl cl))).2.2.2.2.2.2.2.2
          rw [hcells] at hr
          rw [← w1] at g
          exact ⟨r, H1, rch_0_1 (by omega) h6 h7 hz hrt (by omega) hg g, hr⟩
      · have e : rcL nm R (valk.val ck cn cs yb cb yf cf yl cl :: el.drop (i + 1)) = rcL nm R (el.drop (i + 1)) := by rw [rcL, if_neg (by rw [hk]; exact fun h => h.1.elim h6 h7)]
        rw [e]
        obtain ⟨r, H1, g, hr⟩ := ih (i + 1) (by omega)
        rw [← w1] at g
        exact ⟨r, H1, rch_0_0 (by omega) h6 h7 (by omega) hg g, hr⟩
end
theorem reach16 (xp : Bool) : ∀ (ps : List ByteArray) {v : Cs}, VS v → Bd v → Ret P T 16 [.agg v, .slice xp (nmS ps) none] [] (.agg (reachN ps v)) []
  | [], v, hv, _ => by
    obtain ⟨k, n, s, xb, eb, xf, ef, xl, el, rfl⟩ := hv.get
    exact rch_in_0 (gV := fun _ _ => ctOf zeroV) (rV := fun _ _ => ctOf zeroV) (aX := fun _ _ => false) (aV := fun _ _ => []) rfl
  | nm :: ps, v, hv, hbd => by
    have ihp : ∀ {v : Cs}, VS v → Bd v → Ret P T 16 [.agg v, .slice xp (nmS ps) none] [] (.agg (reachN ps v)) [] := fun h1 h2 => reach16 xp ps h1 h2
    have hvs := @reach_vs ps
    induction hv with
    | mk k n s xb eb xf ef xl el bs hk hn hs hb hb' lb lf ll nb nf nl hf hfv hl ihf ihl =>
      have hv : VS (valk.val k n s xb eb xf ef xl el) := .mk k n s xb eb xf ef xl el bs hk hn hs hb hb' lb lf ll nb nf nl hf hfv hl
      have hlen : ((nmS (nm :: ps)).length : Int) ≠ 0 := by simp [nmS]; omega
      by_cases h6 : k = 6
      · have e : reachN (nm :: ps) (valk.val k n s xb eb xf ef xl el) = reachN ps (getF nm ef) := by rw [reachN, rc1_val, if_pos h6]
        rw [e]
        have hgv : getV (valk.val k n s xb eb xf ef xl el) nm = getF nm ef := by show (if k = 6 then _ else _) = _; rw [if_pos h6]; rfl
        have hg := get30 hv nm
        rw [hgv] at hg
        have hfl : Flds ef := (flds_of hv).1
        have v1 := getF_vs hfl nm
        have b1 : Bd (getF nm ef) := bd_get hfl (h6 ▸ hbd) nm
        have hr := ihp v1 b1
        have v2 := reach_vs ps v1
        have c1 := cells_of v1
        have c2 := cells_of v2
        have ee := @rch_in_1 (fun _ _ => ctOf (getF nm ef)) (fun _ _ => ctOf (reachN ps (getF nm ef))) (fun _ _ => false) (fun _ _ => []) k n s xb eb xf ef xl el xp (nmS (nm :: ps)) nm
        have hdrop : List.drop 1 (List.take (((nmS (nm :: ps)).length : Nat) : Int).toNat (nmS (nm :: ps))) = nmS ps := by
          rw [Int.toNat_natCast, List.take_length]; rfl
        have hr' : Ret P T 16 [.agg (cellsT (ctOf (getF nm ef))), .slice xp (nmS ps) none] [] (.agg (cellsT (ctOf (reachN ps (getF nm ef))))) [] := by rw [c1, c2]; exact hr
        rw [← c1] at hg
        rw [← c2]
        rw [hdrop] at ee
        exact ee hlen h6 hr' ⟨by omega, by rw [nmS_len, List.length_cons]; omega, by omega, nmS_all _⟩ hg (by simp [nmS])
      · by_cases h7 : k = 7
        · have e : reachN (nm :: ps) (valk.val k n s xb eb xf ef xl el) = mkL (rcL nm (reachN ps) el) := by rw [reachN, rc1_val, if_neg h6, if_pos h7]
          rw [e]
          have hbl := bd_list (h7 ▸ hbd : Bd (valk.val 7 n s xb eb xf ef xl el))
          obtain ⟨r, H1, g, hr⟩ := rch_lp0 k n s xb eb xf ef xl el xp nm ps hbl.1 (reachN ps) (fun x hx => ⟨hl x hx, reach_vs (nm :: ps) (hl x hx), ihl x hx (hbl.2 x hx)⟩) el.length 0 (by omega)
          rw [List.drop_zero] at hr
          exact (rch_in_2 hlen h6 h7 g).pure hr
        · have e : reachN (nm :: ps) (valk.val k n s xb eb xf ef xl el) = zeroV := by rw [reachN, rc1_val, if_neg h6, if_neg h7]
          rw [e]
          exact rch_in_3 (gV := fun _ _ => ctOf zeroV) (rV := fun _ _ => ctOf zeroV) (aX := fun _ _ => false) (aV := fun _ _ => []) hlen h6 h7

section
variable (k n : Int) (s : ByteArray) (xb : Bool) (eb : Es) (xf : Bool) (ef : Es) (xl : Bool) (el : Es) (xp : Bool) (nm : ByteArray) (ps : List ByteArray) (ll : el.length ≤ 1000000)
  (R : Cs → Cs) (hR : ∀ x ∈ el, VS x ∧ VS (rc1 nm R x) ∧ Ret P T 17 [.agg x, .slice xp (nmS (nm :: ps)) none] [] (.agg (rc1 nm R x)) [])
include ll hR
theorem rcr_lp1 : ∀ (m i : Nat), i + m = el.length → ∀ c : Es, 0 < c.length → c.length ≤ i → ∀ (nh nh1 : Int) (sh : ByteArray) (xh : Bool) (eh1 : Es) (xh1 : Bool) (eh2 : Es) (xh2 : Bool) (eh3 : Es),
    ∃ r H1, rcr_at1 (fun _ _ => ctOf zeroV) (fun v _ => ctOf (rc1 nm R v)) (fun _ _ => false) (fun _ _ => []) k n s xb eb xf ef xl el xp (nmS (nm :: ps)) (i : Int) c nh nh1 sh xh eh1 xh1 eh2 xh2 eh3 c.length r H1 ∧ GD.pur r = some (.agg (mkL (c ++ rcL nm R (el.drop i)))) := by
  have hmx : (1000000 : Nat) ≤ maxLen := by decide
  intro m
  induction m with
  | zero =>
    intro i hi c hc0 hci nh nh1 sh xh eh1 xh1 eh2 xh2 eh3
    rw [List.drop_of_length_le (by omega), rcL, List.append_nil]
    refine ⟨_, _, rcr_1_5 (by omega), ?_⟩
    have e : c.isEmpty = false := by cases c with | nil => simp at hc0 | cons a b => rfl
    simp [GD.pur, purs, mkL, valk.val, e]
  | succ m ih =>
    intro i hi c hc0 hci nh nh1 sh xh eh1 xh1 eh2 xh2 eh3
    have hlt : i < el.length := by omega
    rw [List.drop_eq_getElem_cons hlt]
    obtain ⟨hv, hvr, hrt⟩ := hR _ (List.getElem_mem hlt)
    obtain ⟨ck, cn, cs, yb, cb, yf, cf, yl, cl, he⟩ := hv.get
    have hg : el[((i : Int)).toNat]? = some (valk.val ck cn cs yb cb yf cf yl cl) := by rw [Int.toNat_natCast, List.getElem?_eq_getElem hlt, he]
    rw [he] at hvr hrt ⊢
    have hk : kindOf (valk.val ck cn cs yb cb yf cf yl cl) = ck := rfl
    have hcells := cells_of hvr
    have hkr : (ctOf (rc1 nm R (valk.val ck cn cs yb cb yf cf yl cl))).1 = kindOf (rc1 nm R (valk.val ck cn cs yb cb yf cf yl cl)) := ct_kind hvr
    rw [← hcells] at hrt
    have w1 := up hlt (Nat.le_trans ll hmx)
    by_cases h6 : ck = 6
    · by_cases hz : (ctOf (rc1 nm R (valk.val ck cn cs yb cb yf cf yl cl))).1 = 0
      · have e : rcL nm R (valk.val ck cn cs yb cb yf cf yl cl :: el.drop (i + 1)) = rcL nm R (el.drop (i + 1)) := by rw [rcL, if_neg (by rw [← hkr]; exact fun h => h.2 hz)]
        rw [e]
        obtain ⟨r, H1, g, hr⟩ := ih (i + 1) (by omega) c hc0 (by omega) nh nh1 sh xh eh1 xh1 eh2 xh2 eh3
        rw [← w1] at g
        exact ⟨r, H1, rcr_1_4 (by omega) h6 hz hrt (by omega) hg hg g, hr⟩
      · have e : rcL nm R (valk.val ck cn cs yb cb yf cf yl cl :: el.drop (i + 1)) = rc1 nm R (valk.val ck cn cs yb cb yf cf yl cl) :: rcL nm R (el.drop (i + 1)) := by rw [rcL, if_pos ⟨.inl (hk.trans h6), by rw [← hkr]; exact hz⟩]
        rw [e]
        obtain ⟨r, H1, g, hr⟩ := ih (i + 1) (by omega) (c ++ [cellsT (ctOf (rc1 nm R (valk.val ck cn cs yb cb yf cf yl cl)))]) (by simp) (by simp; omega) nh nh1 sh xh eh1 xh1 eh2 xh2 eh3
        rw [hcells, List.append_assoc] at hr
        rw [← w1, List.length_append] at g
        exact ⟨r, H1, rcr_1_3 (by omega) h6 hz ⟨rfl, by omega, rfl⟩ hrt (by omega) hg hg g, hr⟩
    · by_cases h7 : ck = 7
      · by_cases hz : (ctOf (rc1 nm R (valk.val ck cn cs yb cb yf cf yl cl))).1 = 0
        · have e : rcL nm R (valk.val ck cn cs yb cb yf cf yl cl :: el.drop (i + 1)) = rcL nm R (el.drop (i + 1)) := by rw [rcL, if_neg (by rw [← hkr]; exact fun h => h.2 hz)]
          rw [e]
          obtain ⟨r, H1, g, hr⟩ := ih (i + 1) (by omega) c hc0 (by omega) nh nh1 sh xh eh1 xh1 eh2 xh2 eh3
          rw [← w1] at g
          exact ⟨r, H1, rcr_1_2 (by omega) h6 h7 hz hrt (by omega) hg hg hg g, hr⟩
        · have e : rcL nm R (valk.val ck cn cs yb cb yf cf yl cl :: el.drop (i + 1)) = rc1 nm R (valk.val ck cn cs yb cb yf cf yl cl) :: rcL nm R (el.drop (i + 1)) := by rw [rcL, if_pos ⟨.inr (hk.trans h7), by rw [← hkr]; exact hz⟩]
          rw [e]
          obtain ⟨r, H1, g, hr⟩ := ih (i + 1) (by omega) (c ++ [cellsT (ctOf (rc1 nm R (valk.val ck cn cs yb cb yf cf yl cl)))]) (by simp) (by simp; omega) nh nh1 sh xh eh1 xh1 eh2 xh2 eh3
          rw [hcells, List.append_assoc] at hr
          rw [← w1, List.length_append] at g
          exact ⟨r, H1, rcr_1_1 (by omega) h6 h7 hz ⟨rfl, by omega, rfl⟩ hrt (by omega) hg hg hg g, hr⟩
      · have e : rcL nm R (valk.val ck cn cs yb cb yf cf yl cl :: el.drop (i + 1)) = rcL nm R (el.drop (i + 1)) := by rw [rcL, if_neg (by rw [hk]; exact fun h => h.1.elim h6 h7)]
        rw [e]
        obtain ⟨r, H1, g, hr⟩ := ih (i + 1) (by omega) c hc0 (by omega) nh nh1 sh xh eh1 xh1 eh2 xh2 eh3
        rw [← w1] at g
        exact ⟨r, H1, rcr_1_0 (by omega) h6 h7 (by omega) hg hg g, hr⟩
theorem rcr_lp0 : ∀ (m i : Nat), i + m = el.length → 
    ∃ r H1, rcr_at0 (fun _ _ => ctOf zeroV) (fun v _ => ctOf (rc1 nm R v)) (fun _ _ => false) (fun _ _ => []) k n s xb eb xf ef xl el xp (nmS (nm :: ps)) (i : Int) r H1 ∧ GD.pur r = some (.agg (mkL (rcL nm R (el.drop i)))) := by
  have hmx : (1000000 : Nat) ≤ maxLen := by decide
  intro m
  induction m with
  | zero =>
    intro i hi
    rw [List.drop_of_length_le (by omega), rcL]
    exact ⟨_, _, rcr_0_5 (by omega), rfl⟩
  | succ m ih =>
    intro i hi
    have hlt : i < el.length := by omega
    rw [List.drop_eq_getElem_cons hlt]
    obtain ⟨hv, hvr, hrt⟩ := hR _ (List.getElem_mem hlt)
    obtain ⟨ck, cn, cs, yb, cb, yf, cf, yl, cl, he⟩ := hv.get
    have hg : el[((i : Int)).toNat]? = some (valk.val ck cn cs yb cb yf cf yl cl) := by rw [Int.toNat_natCast, List.getElem?_eq_getElem hlt, he]
    rw [he] at hvr hrt ⊢
    have hk : kindOf (valk.val ck cn cs yb cb yf cf yl cl) = ck := rfl
    have hcells := cells_of hvr
    have hkr : (ctOf (rc1 nm R (valk.val ck cn cs yb cb yf cf yl cl))).1 = kindOf (rc1 nm R (valk.val ck cn cs yb cb yf cf yl cl)) := ct_kind hvr
    rw [← hcells] at hrt
    have w1 := up hlt (Nat.le_trans ll hmx)
    have l1 := rcr_lp1 k n s xb eb xf ef xl el xp nm ps ll R hR m (i + 1) (by omega) [cellsT (ctOf (rc1 nm R (valk.val ck cn cs yb cb yf cf yl cl)))] (by simp) (by simp)
    by_cases h6 : ck = 6
    · by_cases hz : (ctOf (rc1 nm R (valk.val ck cn cs yb cb yf cf yl cl))).1 = 0
      · have e : rcL nm R (valk.val ck cn cs yb cb yf cf yl cl :: el.drop (i + 1)) = rcL nm R (el.drop (i + 1)) := by rw [rcL, if_neg (by rw [← hkr]; exact fun h => h.2 hz)]
        rw [e]
        obtain ⟨r, H1, g, hr⟩ := ih (i + 1) (by omega)
        rw [← w1] at g
        exact ⟨r, H1, rcr_0_4 (by omega) h6 hz hrt (by omega) hg hg g, hr⟩
      · have e : rcL nm R (valk.val ck cn cs yb cb yf cf yl cl :: el.drop (i + 1)) = rc1 nm R (valk.val ck cn cs yb cb yf cf yl cl) :: rcL nm R (el.drop (i + 1)) := by rw [rcL, if_pos ⟨.inl (hk.trans h6), by rw [← hkr]; exact hz⟩]
        rw [e]
        obtain ⟨r, H1, g, hr⟩ := l1 (ctOf (rc1 nm R (valk.val ck cn cs yb cb yf cf yl cl))).1 (ctOf (rc1 nm R (valk.val ck cn cs yb cb yf cf yl cl))).2.1 (ctOf (rc1 nm R (valk.val ck cn cs yb cb yf cf yl cl))).2.2.1 (ctOf (rc1 nm R (valk.val ck cn cs yb cb yf cf yl cl))).2.2.2.1 (ctOf (rc1 nm R (valk.val ck cn cs yb cb yf cf yl cl))).2.2.2.2.1 (ctOf (rc1 nm R (valk.val ck cn cs yb cb yf cf yl cl))).2.2.2.2.2.1 (ctOf (rc1 nm R (valk.val ck cn cs yb cb yf cf yl cl))).2.2.2.2.2.2.1 (ctOf (rc1 nm R (valk.val ck cn cs yb cb yf cf yl cl))).2.2.2.2.2.2.2.1 (ctOf (rc1 nm R (valk.val ck cn cs yb cb yf cf yl cl))).2.2.2.2.2.2.2.2
        rw [hcells] at hr
        rw [← w1] at g
        exact ⟨r, H1, rcr_0_3 (by omega) h6 hz hrt (by omega) hg hg g, hr⟩
    · by_cases h7 : ck = 7
      · by_cases hz : (ctOf (rc1 nm R (valk.val ck cn cs yb cb yf cf yl cl))).1 = 0
        · have e : rcL nm R (valk.val ck cn cs yb cb yf cf yl cl :: el.drop (i + 1)) = rcL nm R (el.drop (i + 1)) := by rw [rcL, if_neg (by rw [← hkr]; exact fun h => h.2 hz)]
          rw [e]
          obtain ⟨r, H1, g, hr⟩ := ih (i + 1) (by omega)
          rw [← w1] at g
          exact ⟨r, H1, rcr_0_2 (by omega) h6 h7 hz hrt (by omega) hg hg hg g, hr⟩
        · have e : rcL nm R (valk.val ck cn cs yb cb yf cf yl cl :: el.drop (i + 1)) = rc1 nm R (valk.val ck cn cs yb cb yf cf yl cl) :: rcL nm R (el.drop (i + 1)) := by rw [rcL, if_pos ⟨.inr (hk.trans h7), by rw [← hkr]; exact hz⟩]
          rw [e]
          obtain ⟨r, H1, g, hr⟩ := l1 (ctOf (rc1 nm R (valk.val ck cn cs yb cb yf cf yl cl))).1 (ctOf (rc1 nm R (valk.val ck cn cs yb cb yf cf yl cl))).2.1 (ctOf (rc1 nm R (valk.val ck cn cs yb cb yf cf yl cl))).2.2.1 (ctOf (rc1 nm R (valk.val ck cn cs yb cb yf cf yl cl))).2.2.2.1 (ctOf (rc1 nm R (valk.val ck cn cs yb cb yf cf yl cl))).2.2.2.2.1 (ctOf (rc1 nm R (valk.val ck cn cs yb cb yf cf yl cl))).2.2.2.2.2.1 (ctOf (rc1 nm R (valk.val ck cn cs yb cb yf cf yl cl))).2.2.2.2.2.2.1 (ctOf (rc1 nm R (valk.val ck cn cs yb cb yf cf yl cl))).2.2.2.2.2.2.2.1 (ctOf (rc1 nm R (valk.val ck cn cs yb cb yf cf yl cl))).2.2.2.2.2.2.2.2
          rw [hcells] at hr
          rw [← w1] at g
          exact ⟨r, H1, rcr_0_1 (by omega) h6 h7 hz hrt (by omega) hg hg hg g, hr⟩
      · have e : rcL nm R (valk.val ck cn cs yb cb yf cf yl cl :: el.drop (i + 1)) = rcL nm R (el.drop (i + 1)) := by rw [rcL, if_neg (by rw [hk]; exact fun h => h.1.elim h6 h7)]
        rw [e]
        obtain ⟨r, H1, g, hr⟩ := ih (i + 1) (by omega)
        rw [← w1] at g
        exact ⟨r, H1, rcr_0_0 (by omega) h6 h7 (by omega) hg hg g, hr⟩
end
theorem reach17 (xp : Bool) : ∀ (ps : List ByteArray) {v : Cs}, VS v → Bd v → Ret P T 17 [.agg v, .slice xp (nmS ps) none] [] (.agg (reachN ps v)) []
  | [], v, hv, _ => by
    obtain ⟨k, n, s, xb, eb, xf, ef, xl, el, rfl⟩ := hv.get
    exact rcr_in_0 (gV := fun _ _ => ctOf zeroV) (rV := fun _ _ => ctOf zeroV) (aX := fun _ _ => false) (aV := fun _ _ => []) rfl
  | nm :: ps, v, hv, hbd => by
    have ihp : ∀ {v : Cs}, VS v → Bd v → Ret P T 17 [.agg v, .slice xp (nmS ps) none] [] (.agg (reachN ps v)) [] := fun h1 h2 => reach17 xp ps h1 h2
    have hvs := @reach_vs ps
    induction hv with
    | mk k n s xb eb xf ef xl el bs hk hn hs hb hb' lb lf ll nb nf nl hf hfv hl ihf ihl =>
      have hv : VS (valk.val k n s xb eb xf ef xl el) := .mk k n s xb eb xf ef xl el bs hk hn hs hb hb' lb lf ll nb nf nl hf hfv hl
      have hlen : ((nmS (nm :: ps)).length : Int) ≠ 0 := by simp [nmS]; omega
      by_cases h6 : k = 6
      · have e : reachN (nm :: ps) (valk.val k n s xb eb xf ef xl el) = reachN ps (getF nm ef) := by rw [reachN, rc1_val, if_pos h6]
        rw [e]
        have hgv : getV (valk.val k n s xb eb xf ef xl el) nm = getF nm ef := by show (if k = 6 then _ else _) = _; rw [if_pos h6]; rfl
        have hg := field22 hv nm
        rw [hgv] at hg
        have hfl : Flds ef := (flds_of hv).1
        have v1 := getF_vs hfl nm
        have b1 : Bd (getF nm ef) := bd_get hfl (h6 ▸ hbd) nm
        have hr := ihp v1 b1
        have v2 := reach_vs ps v1
        have c1 := cells_of v1
        have c2 := cells_of v2
        have ee := @rcr_in_1 (fun _ _ => ctOf (getF nm ef)) (fun _ _ => ctOf (reachN ps (getF nm ef))) (fun _ _ => false) (fun _ _ => []) k n s xb eb xf ef xl el xp (nmS (nm :: ps)) nm
        have hdrop : List.drop 1 (List.take (((nmS (nm :: ps)).length : Nat) : Int).toNat (nmS (nm :: ps))) = nmS ps := by
          rw [Int.toNat_natCast, List.take_length]; rfl
        have hr' : Ret P T 17 [.agg (cellsT (ctOf (getF nm ef))), .slice xp (nmS ps) none] [] (.agg (cellsT (ctOf (reachN ps (getF nm ef))))) [] := by rw [c1, c2]; exact hr
        rw [← c1] at hg
        rw [← c2]
        rw [hdrop] at ee
        exact ee hlen h6 hr' ⟨by omega, by rw [nmS_len, List.length_cons]; omega, by omega, nmS_all _⟩ hg (by simp [nmS])
      · by_cases h7 : k = 7
        · have e : reachN (nm :: ps) (valk.val k n s xb eb xf ef xl el) = mkL (rcL nm (reachN ps) el) := by rw [reachN, rc1_val, if_neg h6, if_pos h7]
          rw [e]
          have hbl := bd_list (h7 ▸ hbd : Bd (valk.val 7 n s xb eb xf ef xl el))
          obtain ⟨r, H1, g, hr⟩ := rcr_lp0 k n s xb eb xf ef xl el xp nm ps hbl.1 (reachN ps) (fun x hx => ⟨hl x hx, reach_vs (nm :: ps) (hl x hx), ihl x hx (hbl.2 x hx)⟩) el.length 0 (by omega)
          rw [List.drop_zero] at hr
          exact (rcr_in_2 hlen h6 h7 g).pure hr
        · have e : reachN (nm :: ps) (valk.val k n s xb eb xf ef xl el) = zeroV := by rw [reachN, rc1_val, if_neg h6, if_neg h7]
          rw [e]
          exact rcr_in_3 (gV := fun _ _ => ctOf zeroV) (rV := fun _ _ => ctOf zeroV) (aX := fun _ _ => false) (aV := fun _ _ => []) hlen h6 h7

end Go.Proofs.YtlccdfilbiipmaaDoor.ordk
