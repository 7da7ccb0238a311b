/- Paths: the law PathLists hands back true. -/
import Derived.Test.YtlccdfilbiipmaaDoorPwL
import Derived.Test.YtlccdfilbiipmaaDoorPwK
namespace Go.Proofs.YtlccdfilbiipmaaDoor.ordk
open Go YtlccdfilbiipmaaDoor.GD valk
set_option linter.unusedVariables false
set_option linter.unusedSimpArgs false
set_option maxRecDepth 100000

/-! ### results that stay, whatever else is there -/
theorem skA {f : FuncId} {args args' : List D} {H : GD.Heap} {c : CT} (g : Ret P T f args' [] (.agg (cellsT c)) []) (ha : purs args = some args') : Ret P T f args H (.agg (cellsT c)) H :=
  g.skip (F := fun _ => false) (r' := .agg (cellsT c)) (cs := []) ha rfl (fun _ h => by cases h)
theorem skS {f : FuncId} {args args' : List D} {H : GD.Heap} {x : Bool} {es : Es} (g : Ret P T f args' [] (.slice x es none) []) (ha : purs args = some args') : Ret P T f args H (.slice x es none) H :=
  g.skip (F := fun _ => false) (r' := .slice x es none) (cs := []) ha rfl (fun _ h => by cases h)
theorem skB {f : FuncId} {args args' : List D} {H : GD.Heap} {x : Bool} (g : Ret P T f args' [] (.bool x) []) (ha : purs args = some args') : Ret P T f args H (.bool x) H :=
  g.skip (F := fun _ => false) (r' := .bool x) (cs := []) ha rfl (fun _ h => by cases h)

theorem wf_kind {b : Nat} {c : Cs} (h : WF b c) : kindOf c ≠ 0 := by
  cases h with
  | leaf _ k n s xb eb xf xl hk => show k ≠ 0; omega
  | doc b n s xb eb xf ef xl h => show (6 : Int) ≠ 0; omega
  | list b n s xb eb xf xl el h => show (7 : Int) ≠ 0; omega
theorem getF_zero {ef : Es} (hf : Flds ef) (hk : ∀ nm c, (D.str nm :: c) ∈ ef → kindOf c ≠ 0) (nm : ByteArray) (h : kindOf (getF nm ef) = 0) : getF nm ef = zeroV := by
  rcases getF_mem hf nm with h1 | ⟨x, h1⟩
  · exact h1
  · exact absurd h (hk _ _ h1)
theorem kinds_of {b : Nat} {k n : Int} {s : ByteArray} {xb : Bool} {eb : Es} {xf : Bool} {ef : Es} {xl : Bool} {el : Es} (h : WF b (valk.val k n s xb eb xf ef xl el)) (h6 : k = 6) : ∀ nm c, (D.str nm :: c) ∈ ef → kindOf c ≠ 0 := by
  subst h6
  cases h with
  | leaf _ _ _ _ _ _ _ _ hk => exact absurd hk (by omega)
  | doc b _ _ _ _ _ _ _ h => exact fun nm c hm => wf_kind (h nm c hm)
theorem items_of {b : Nat} {n : Int} {s : ByteArray} {xb : Bool} {eb : Es} {xf : Bool} {ef : Es} {xl : Bool} {el : Es} (h : WF b (valk.val 7 n s xb eb xf ef xl el)) : ∃ b', ∀ r ∈ el, WF b' r := by
  cases h with
  | leaf _ _ _ _ _ _ _ _ hk => exact absurd hk (by omega)
  | list b _ _ _ _ _ _ _ h => exact ⟨b, h⟩

theorem items_vs {k n : Int} {s : ByteArray} {xb : Bool} {eb : Es} {xf : Bool} {ef : Es} {xl : Bool} {el : Es} (h : VS (valk.val k n s xb eb xf ef xl el)) : (∀ r ∈ el, VS r) ∧ el.length ≤ maxLen := by
  cases h with
  | mk _ _ _ _ _ _ _ _ _ bs hk hn hs hb hb' lb lf ll nb nf nl hf hfv hl => exact ⟨hl, ll⟩
theorem orZ_some {l : Es} {n : Nat} (h : n < l.length) : orZ l = l := by
  unfold orZ
  cases e : l with
  | nil => rw [e] at h; simp at h
  | cons a b => rfl
/-! ### the law -/
abbrev l1 : ByteArray := ByteArray.mk #[(108 : UInt8)]
noncomputable def rV7 (nm : ByteArray) (el : Es) : Cs → Es → CT := fun v p => match p with | [_] => ctOf (rc1 nm (reachN []) v) | _ => ctOf (mkL (rcL nm (reachN []) el))
noncomputable def gV7 : Cs → ByteArray → CT := fun v x => ctOf (getV v x)
section
variable (xl : Bool) (el : Es) (nm : ByteArray) (hl : ∀ r ∈ el, VS r) (l20 : el.length ≤ 20) (hw : ∀ r ∈ el, ∃ b, WF b r) (hbd : ∀ r ∈ el, Bd r) (hal : (alL nm (allN []) el).length ≤ 1000000)
include hal
theorem lpl_lp1 (x9 : Bool) (c : Es) (i : Nat) (kc : Nat) (rest : Es) {nh1 : Int} {sh : ByteArray} {xh : Bool} {eh : Es} {xh1 : Bool} {eh1 : Es} {xh2 : Bool} {l2 : Es} (h2 : ∀ r ∈ l2, VS r) (l2l : l2.length ≤ maxLen) : ∀ (m j : Nat), j + m = l2.length → ∀ n : Nat,
    (alL nm (allN []) el).drop n = l2.drop j ++ rest →
    (∃ H1, lpl_at0 (fun _ => true) (fun _ _ => true) (fun _ _ => true) (rV7 nm el) (fun _ _ => orZ (alL nm (allN []) el)) gV7 xl el nm x9 c ((n + m : Nat) : Int) (IntKind.i64.wrap ((i : Int) + 1)) kc (.bool true) H1) →
    ∃ H1, lpl_at1 (fun _ => true) (fun _ _ => true) (fun _ _ => true) (rV7 nm el) (fun _ _ => orZ (alL nm (allN []) el)) gV7 xl el nm x9 c (n : Int) (i : Int) (j : Int) kc 7 nh1 sh xh eh xh1 eh1 xh2 l2 (.bool true) H1 := by
  have hmx : (1000000 : Nat) ≤ maxLen := by decide
  intro m
  induction m with
  | zero =>
    intro j hj n hd ⟨H1, g⟩
    exact ⟨H1, lpl_1_1 rfl (by omega) g⟩
  | succ m ih =>
    intro j hj n hd ⟨H1, g⟩
    have hlt : j < l2.length := by omega
    rw [List.drop_eq_getElem_cons hlt, List.cons_append] at hd
    have hn : n < (alL nm (allN []) el).length := by
      rcases Nat.lt_or_ge n (alL nm (allN []) el).length with h | h
      · exact h
      · rw [List.drop_of_length_le h] at hd; cases hd
    have hA : orZ (alL nm (allN []) el) = alL nm (allN []) el := by
      unfold orZ
      cases e : alL nm (allN []) el with
      | nil => rw [e] at hn; simp at hn
      | cons a b => rfl
    rw [List.drop_eq_getElem_cons hn] at hd
    injection hd with hd1 hd2
    have hv := h2 _ (List.getElem_mem hlt)
    have hs := same15 hv
    obtain ⟨ck, cn, cs, yb, cb, yf, cf, yl, cl, he⟩ := hv.get
    have hg : l2[((j : Int)).toNat]? = some (valk.val ck cn cs yb cb yf cf yl cl) := by rw [Int.toNat_natCast, List.getElem?_eq_getElem hlt, he]
    have hgA : (orZ (alL nm (allN []) el))[((n : Int)).toNat]? = some (valk.val ck cn cs yb cb yf cf yl cl) := by rw [hA, Int.toNat_natCast, List.getElem?_eq_getElem hn, hd1, he]
    rw [he] at hs
    have w1 := up hn (Nat.le_trans hal hmx)
    have w2 := up hlt l2l
    obtain ⟨H2, g2⟩ := ih (j + 1) (by omega) (n + 1) hd2 ⟨H1, by rw [show n + 1 + m = n + (m + 1) by omega]; exact g⟩
    rw [← w1, ← w2] at g2
    exact ⟨H2, lpl_1_0 rfl (by omega) (by rw [hA]; omega) rfl hs (by omega) hg (by omega) hgA g2⟩
include hl l20 hw hbd
theorem lpl_lp0 : ∀ (m i : Nat), i + m = el.length → ∀ (c : Es) (n : Nat), c ++ rcL nm (reachN []) (el.drop i) = rcL nm (reachN []) el → (alL nm (allN []) el).drop n = alL nm (allN []) (el.drop i) → n ≤ (alL nm (allN []) el).length → c.length ≤ i →
    ∃ H1, lpl_at0 (fun _ => true) (fun _ _ => true) (fun _ _ => true) (rV7 nm el) (fun _ _ => orZ (alL nm (allN []) el)) gV7 xl el nm (!c.isEmpty) c (n : Int) (i : Int) c.length (.bool true) H1 := by
  have hmx : (1000000 : Nat) ≤ maxLen := by decide
  intro m
  induction m with
  | zero =>
    intro i hi c n hc hd hn hci
    rw [List.drop_of_length_le (by omega), rcL, List.append_nil] at hc
    rw [List.drop_of_length_le (l := el) (by omega), alL] at hd
    have hn2 : n = (alL nm (allN []) el).length := by
      have := congrArg List.length hd
      rw [List.length_drop] at this
      simp at this; omega
    have hRL : ∀ r ∈ rcL nm (reachN []) el, VS r := fun r hr => by
      obtain ⟨x, hx, rfl⟩ := rcL_mem nm _ el r hr
      exact reach_vs [nm] (hl x hx)
    have hlen := rcL_len nm (reachN []) el
    have s18 : ∀ x y : Bool, Ret P T 18 [.slice x (rcL nm (reachN []) el) none, .slice y c (some 0)] [some (.tok c.length 6)] (.bool true) [some (.tok c.length 6)] := fun x y => by
      rw [hc]
      exact skB (same18 x y hRL (by omega)) rfl
    by_cases h0 : n = 0
    · have hA : orZ (alL nm (allN []) el) = [zeroV] := by
        have : alL nm (allN []) el = [] := List.length_eq_zero_iff.1 (by omega)
        rw [this]; rfl
      subst h0
      refine ⟨_, lpl_0_4 (by omega) rfl (by rw [hA]; rfl) rfl rfl (s18 _ _) (by rw [hA]; rfl)⟩
    · have hA : orZ (alL nm (allN []) el) = alL nm (allN []) el := by
        unfold orZ
        cases e : alL nm (allN []) el with
        | nil => rw [e] at hn2; simp at hn2; omega
        | cons a b => rfl
      exact ⟨_, lpl_0_5 (by omega) (by omega) (by rw [hA]; omega) rfl (s18 _ _)⟩
  | succ m ih =>
    intro i hi c n hc hd hn hci
    have hlt : i < el.length := by omega
    rw [List.drop_eq_getElem_cons hlt] at hc hd
    have hv := hl _ (List.getElem_mem hlt)
    obtain ⟨b, hwf⟩ := hw _ (List.getElem_mem hlt)
    have hb := hbd _ (List.getElem_mem hlt)
    have f22 := field22 hv nm
    have w1 := up hlt (show el.length ≤ maxLen by omega)
    have r17 := reach17 true [nm] hv hb
    have vr := reach_vs [nm] hv
    have vg := getV_vs hv nm
    have cg := cells_of vg
    have cr := cells_of vr
    rw [← cg] at f22
    rw [← cr] at r17
    obtain ⟨ck, cn, cs, yb, cb, yf, cf, yl, cl, he⟩ := hv.get
    have hg : el[((i : Int)).toNat]? = some (valk.val ck cn cs yb cb yf cf yl cl) := by rw [Int.toNat_natCast, List.getElem?_eq_getElem hlt, he]
    have hfl := (flds_of hv).1
    rw [he] at hc hd f22 r17 vr vg cg cr hwf hfl hv
    change Flds cf at hfl
    have hk : kindOf (valk.val ck cn cs yb cb yf cf yl cl) = ck := rfl
    by_cases h7 : ck = 7
    · have e1 : rc1 nm (reachN []) (valk.val ck cn cs yb cb yf cf yl cl) = mkL (rcL nm (reachN []) cl) := by rw [rc1_val, if_neg (by omega), if_pos h7]
      rw [rcL, if_pos ⟨.inr (hk.trans h7), by rw [e1]; show (7 : Int) ≠ 0; omega⟩] at hc
      rw [alL, if_neg (by rw [hk]; omega)] at hd
      obtain ⟨H1, g⟩ := ih (i + 1) (by omega) (c ++ [rc1 nm (reachN []) (valk.val ck cn cs yb cb yf cf yl cl)]) n (by rw [List.append_assoc]; exact hc) hd hn (by simp; omega)
      rw [← w1, List.length_append, emp_app] at g
      have hr : Ret P T 17 [.agg (valk.val ck cn cs yb cb yf cf yl cl), .slice true [[.str nm]] (some 0)] [some (.tok 1 1)] (.agg (cellsT (ctOf (rc1 nm (reachN []) (valk.val ck cn cs yb cb yf cf yl cl))))) [some (.tok 1 1)] := skA r17 rfl
      refine ⟨H1, lpl_0_0 (rV := rV7 nm el) (gV := gV7) (by omega) h7 ⟨rfl, by omega, rfl⟩ hr (by omega) hg hg f22 hg ?_⟩
      show lpl_at0 _ _ _ _ _ _ _ _ _ _ (c ++ [cellsT (ctOf (rc1 nm (reachN []) (valk.val ck cn cs yb cb yf cf yl cl)))]) _ _ _ _ _
      rw [show cellsT (ctOf (rc1 nm (reachN []) (valk.val ck cn cs yb cb yf cf yl cl))) = rc1 nm (reachN []) (valk.val ck cn cs yb cb yf cf yl cl) from cr]
      exact g
    · by_cases h6 : ck = 6
      · have hkf := kinds_of hwf h6
        have hgv : getV (valk.val ck cn cs yb cb yf cf yl cl) nm = getF nm cf := by show (if ck = 6 then _ else _) = _; rw [if_pos h6]; rfl
        have e1 : rc1 nm (reachN []) (valk.val ck cn cs yb cb yf cf yl cl) = getF nm cf := by rw [rc1_val, if_pos h6]; rfl
        have e2 : al1 nm (allN []) (valk.val ck cn cs yb cb yf cf yl cl) = if kindOf (getF nm cf) = 0 then [zeroV] else allN [] (getF nm cf) := by rw [al1_val, if_pos h6]
        rw [rcL, e1] at hc
        rw [alL, if_pos (hk.trans h6), e2] at hd
        have kg := ct_kind vg
        have s15 := same15 vg
        rw [← cg] at s15
        by_cases hz : kindOf (getF nm cf) = 0
        · rw [if_neg (fun h => h.2 hz)] at hc
          rw [if_pos hz] at hd
          have ez := getF_zero hfl hkf nm hz
          rw [List.singleton_append] at hd
          have hn1 : n < (alL nm (allN []) el).length := by
            rcases Nat.lt_or_ge n (alL nm (allN []) el).length with h | h
            · exact h
            · rw [List.drop_of_length_le h] at hd; cases hd
          have hA := orZ_some hn1
          rw [List.drop_eq_getElem_cons hn1] at hd
          injection hd with hd1 hd2
          have hgA : (orZ (alL nm (allN []) el))[((n : Int)).toNat]? = some zeroV := by rw [hA, Int.toNat_natCast, List.getElem?_eq_getElem hn1, hd1]
          have wn := up hn1 (Nat.le_trans hal hmx)
          obtain ⟨H1, g⟩ := ih (i + 1) (by omega) c (n + 1) hc hd2 (by omega) (by omega)
          rw [← w1, ← wn] at g
          have g7 : gV7 (valk.val ck cn cs yb cb yf cf yl cl) nm = ctOf zeroV := by show ctOf (getV _ nm) = _; rw [hgv, ez]
          have s15' : Ret P T 15 [.agg zeroV, .agg (cellsT (gV7 (valk.val ck cn cs yb cb yf cf yl cl) nm))] [] (.bool true) [] := by rw [g7]; exact same15 vs_zero
          refine ⟨H1, lpl_0_3 (rV := rV7 nm el) (gV := gV7) (by omega) h7 h6 (by rw [g7]; rfl) (by rw [hA]; omega) rfl s15' (by omega) hgA (by omega) hg hg f22 hg ?_⟩
          rw [g7]
          exact lpl_1_2 (show ¬ (0 : Int) = 7 by omega) g
        · rw [if_pos ⟨.inl (hk.trans h6), hz⟩] at hc
          rw [if_neg hz] at hd
          rw [hgv] at vg
          obtain ⟨vk, vn, vs, vxb, veb, vxf, vef, vxl, vel, hv2⟩ := vg.get
          have hits := items_vs (hv2 ▸ vg)
          rw [hv2] at hc hd hz
          have hz' : vk ≠ 0 := hz
          have hA0 : allN [] (valk.val vk vn vs vxb veb vxf vef vxl vel) = valk.val vk vn vs vxb veb vxf vef vxl vel :: (if vk = 7 then vel else []) := by
            rw [allN]
            by_cases h : vk = 7
            · rw [if_pos h, if_pos (show kindOf (valk.val vk vn vs vxb veb vxf vef vxl vel) = 7 from h)]; rfl
            · rw [if_neg h, if_neg (show ¬ kindOf (valk.val vk vn vs vxb veb vxf vef vxl vel) = 7 from h)]
          rw [hA0, List.cons_append] at hd
          have hn1 : n < (alL nm (allN []) el).length := by
            rcases Nat.lt_or_ge n (alL nm (allN []) el).length with h | h
            · exact h
            · rw [List.drop_of_length_le h] at hd; cases hd
          have hA := orZ_some hn1
          rw [List.drop_eq_getElem_cons hn1] at hd
          injection hd with hd1 hd2
          have wn := up hn1 (Nat.le_trans hal hmx)
          have hgA : (orZ (alL nm (allN []) el))[((n : Int)).toNat]? = some (valk.val vk vn vs vxb veb vxf vef vxl vel) := by rw [hA, Int.toNat_natCast, List.getElem?_eq_getElem hn1, hd1]
          have g7 : gV7 (valk.val ck cn cs yb cb yf cf yl cl) nm = ctOf (valk.val vk vn vs vxb veb vxf vef vxl vel) := by show ctOf (getV _ nm) = _; rw [hgv, hv2]
          have s15' : Ret P T 15 [.agg (valk.val vk vn vs vxb veb vxf vef vxl vel), .agg (cellsT (gV7 (valk.val ck cn cs yb cb yf cf yl cl) nm))] [] (.bool true) [] := by rw [g7]; exact same15 (hv2 ▸ vg)
          have key : ∃ H1, lpl_at1 (fun _ => true) (fun _ _ => true) (fun _ _ => true) (rV7 nm el) (fun _ _ => orZ (alL nm (allN []) el)) gV7 xl el nm (!c.isEmpty || true) (c ++ [valk.val vk vn vs vxb veb vxf vef vxl vel]) (IntKind.i64.wrap ((n : Int) + 1)) (i : Int) 0 (c.length + 1) vk vn vs vxb veb vxf vef vxl vel (.bool true) H1 := by
            have cont : ∀ q : Nat, q ≤ (alL nm (allN []) el).length → (alL nm (allN []) el).drop q = alL nm (allN []) (el.drop (i + 1)) → ∃ H1, lpl_at0 (fun _ => true) (fun _ _ => true) (fun _ _ => true) (rV7 nm el) (fun _ _ => orZ (alL nm (allN []) el)) gV7 xl el nm (!c.isEmpty || true) (c ++ [valk.val vk vn vs vxb veb vxf vef vxl vel]) (q : Int) (IntKind.i64.wrap ((i : Int) + 1)) (c.length + 1) (.bool true) H1 := fun q hq hdq => by
              obtain ⟨H1, g⟩ := ih (i + 1) (by omega) (c ++ [valk.val vk vn vs vxb veb vxf vef vxl vel]) q (by rw [List.append_assoc]; exact hc) hdq hq (by simp; omega)
              rw [← w1, List.length_append, emp_app] at g
              exact ⟨H1, g⟩
            rw [wn]
            by_cases hk7 : vk = 7
            · rw [if_pos hk7] at hd2
              have hlen := congrArg List.length hd2
              rw [List.length_drop, List.length_append] at hlen
              subst hk7
              exact lpl_lp1 xl el nm hal (!c.isEmpty || true) _ i (c.length + 1) _ hits.1 hits.2 vel.length 0 (by omega) (n + 1) hd2
                (cont (n + 1 + vel.length) (by omega) (by rw [← List.drop_drop, hd2, List.drop_left]))
            · rw [if_neg hk7, List.nil_append] at hd2
              obtain ⟨H1, g⟩ := cont (n + 1) (by omega) hd2
              exact ⟨H1, lpl_1_2 hk7 g⟩
          obtain ⟨H1, g⟩ := key
          refine ⟨H1, lpl_0_2 (rV := rV7 nm el) (gV := gV7) (by omega) h7 h6 (by rw [g7]; exact hz') (by rw [hA]; omega) rfl s15' (by omega) hgA ⟨rfl, by omega, rfl⟩ (by omega) hg hg f22 hg ?_⟩
          rw [g7]
          exact g
      · rw [rcL, if_neg (fun h => h.1.elim (fun e => h6 (hk.symm.trans e)) (fun e => h7 (hk.symm.trans e)))] at hc
        rw [alL, if_neg (by rw [hk]; exact h6)] at hd
        obtain ⟨H1, g⟩ := ih (i + 1) (by omega) c n hc hd hn (by omega)
        rw [← w1] at g
        exact ⟨H1, lpl_0_1 (rV := rV7 nm el) (gV := gV7) (by omega) h7 h6 (by omega) hg hg f22 hg g⟩
end
theorem law7 (xl : Bool) (el : Es) (nm : ByteArray) (hl : ∀ r ∈ el, VS r) (ll : el.length ≤ maxLen) (nl : xl = false → el = []) (hn : nm.size ≤ maxLen) : Ret P T 7 [.slice xl el none, .str nm] [] (.bool true) [] := by
  by_cases h20 : (el.length : Int) > 20
  · exact lpl_in_0 (vd := fun _ => false) (sm := fun _ _ => true) (sa := fun _ _ => true) (rV := rV7 nm el) (aV := fun _ _ => []) (gV := gV7) h20 awake9
  by_cases h100 : (nm.size : Int) > 100
  · exact lpl_in_1 (vd := fun _ => false) (sm := fun _ _ => true) (sa := fun _ _ => true) (rV := rV7 nm el) (aV := fun _ _ => []) (gV := gV7) h20 h100 awake9
  have vL : VS (valk.val 7 0 (ByteArray.mk #[]) false [] false [] xl el) := .mk 7 0 _ _ _ _ _ _ _ [] (by omega) (by omega) (by decide) rfl (fun x hx => by cases hx) (by decide) (by decide) ll (fun _ => rfl) (fun _ => rfl) nl (fun r hr => by cases hr) (fun nm c hm => by cases hm) hl
  obtain ⟨b, hb, hok⟩ := valid13 vL
  cases b with
  | false => exact lpl_in_3 (vd := fun _ => false) (sm := fun _ _ => true) (sa := fun _ _ => true) (rV := rV7 nm el) (aV := fun _ _ => []) (gV := gV7) h20 h100 rfl hb awake9
  | true =>
    have hbL := bd_of vL (hok rfl).2
    obtain ⟨b', hwf⟩ := items_of (hok rfl).1
    have hbl := bd_list hbL
    have hl1 : l1.size ≤ maxLen := by decide
    have vd : VS (valk.val 6 0 (ByteArray.mk #[]) false [] true [D.str l1 :: valk.val 7 0 (ByteArray.mk #[]) false [] false [] xl el] false []) := by
      refine .mk 6 0 _ _ _ _ _ _ _ [] (by omega) (by omega) (by decide) rfl (fun x hx => by cases hx) (by decide) (show 1 ≤ maxLen by decide) (by decide) (fun _ => rfl) (fun hh => by cases hh) (fun _ => rfl) (fun r hr => ?_) (fun nm c' hm => ?_) (fun r hr => by cases hr)
      · simp only [List.mem_singleton] at hr
        exact ⟨_, _, hr, hl1⟩
      · simp only [List.mem_singleton, List.cons.injEq] at hm
        rw [hm.2]; exact vL
    have hcd : Bd (valk.val 6 0 (ByteArray.mk #[]) false [] true [D.str l1 :: valk.val 7 0 (ByteArray.mk #[]) false [] false [] xl el] false []) := by
      have h1 := cnt_enc vL
      have h2 := (hok rfl).2
      unfold Bd
      rw [cntV_6, cntFs_cons, cntF_eq]
      simp only [cntFs]
      omega
    have r16 := reach16 true [l1, nm] vd hcd
    have a19 := all19 true [l1, nm] vd hcd
    have eg : getF l1 [D.str l1 :: valk.val 7 0 (ByteArray.mk #[]) false [] false [] xl el] = valk.val 7 0 (ByteArray.mk #[]) false [] false [] xl el := by rw [getF, if_pos rfl]
    have eR : reachN [l1, nm] (valk.val 6 0 (ByteArray.mk #[]) false [] true [D.str l1 :: valk.val 7 0 (ByteArray.mk #[]) false [] false [] xl el] false []) = mkL (rcL nm (reachN []) el) := by
      rw [reachN, rc1_val, if_pos rfl, eg, reachN, rc1_val, if_neg (by omega), if_pos rfl]
    have eA : allN [l1, nm] (valk.val 6 0 (ByteArray.mk #[]) false [] true [D.str l1 :: valk.val 7 0 (ByteArray.mk #[]) false [] false [] xl el] false []) = orZ (alL nm (allN []) el) := by
      rw [allN, al1_val, if_pos rfl, eg, if_neg (show ¬ kindOf (valk.val 7 0 (ByteArray.mk #[]) false [] false [] xl el) = 0 from (show ¬ (7 : Int) = 0 by omega)), allN, al1_val, if_neg (by omega), if_pos rfl]
    rw [eR] at r16
    rw [eA] at a19
    have hal : (alL nm (allN []) el).length ≤ 1000000 := by
      have h1 := alL_len nm (allN []) el (fun x hx => all_len [nm] (hl x hx))
      have h2 := bd_sum hbL
      omega
    obtain ⟨H1, g⟩ := lpl_lp0 xl el nm hl (by omega) (fun r hr => ⟨b', hwf r hr⟩) hbl.2 hal el.length 0 (by omega) [] 0 rfl rfl (by omega) (by simp)
    have c16 : cellsT (ctOf (mkL (rcL nm (reachN []) el))) = mkL (rcL nm (reachN []) el) := rfl
    rw [← c16] at r16
    exact (lpl_in_2 (vd := fun _ => true) (sm := fun _ _ => true) (sa := fun _ _ => true) (rV := rV7 nm el) (aV := fun _ _ => orZ (alL nm (allN []) el)) (gV := gV7) h20 h100 rfl (skS a19 rfl) (skA r16 rfl) hb awake9 g).pure rfl
end Go.Proofs.YtlccdfilbiipmaaDoor.ordk
