/- The document's own Compare comes to the one order. -/
import Derived.Test.YtlccdfilbiipmaaKvX
namespace Go.Proofs.Ytlccdfilbiipmaa.ordk
open Go Ytlccdfilbiipmaa.GD valk
set_option linter.unusedVariables false
set_option linter.unusedSimpArgs false
set_option maxRecDepth 100000

section
variable {k n : Int} {s : ByteArray} {xb : Bool} {eb : Es} {xf : Bool} {ef : Es} {xl : Bool} {el : Es} {k' n' : Int} {s' : ByteArray} {xb' : Bool} {eb' : Es} {xf' : Bool} {ef' : Es} {xl' : Bool} {el' : Es}
open valk in
theorem rls_ok (la : el.length ≤ maxLen) (ha : ∀ r ∈ el, VS r) (hb : ∀ r ∈ el', VS r) (ih : ∀ r ∈ el, ∀ b, VS b → Ret P T 22 [.agg r, .agg b] [] (.int .i64 (cmpV r b)) []) :
    rv_at1 cmpV k n s xb eb xf ef xl el k' n' s' xb' eb' xf' ef' xl' el' 0 (.int .i64 (cmpLs el el')) [] := by
  have key : ∀ (m i : Nat), i + m = el.length → i ≤ el'.length → rv_at1 cmpV k n s xb eb xf ef xl el k' n' s' xb' eb' xf' ef' xl' el' i (.int .i64 (cmpLs (el.drop i) (el'.drop i))) [] := by
    intro m
    induction m with
    | zero =>
      intro i hi hie
      rw [List.drop_of_length_le (l := el) (by omega)]
      by_cases h : i < el'.length
      · rw [List.drop_eq_getElem_cons h]
        simp only [cmpLs]
        have e := @rv_1_3 cmpV k n s xb eb xf ef xl el k' n' s' xb' eb' xf' ef' xl' el' (i : Int) (by omega)
        rwa [sgn_lt (by omega)] at e
      · rw [List.drop_of_length_le (by omega)]
        simp only [cmpLs]
        have e := @rv_1_3 cmpV k n s xb eb xf ef xl el k' n' s' xb' eb' xf' ef' xl' el' (i : Int) (by omega)
        rwa [sgn_eq (by omega)] at e
    | succ m ihm =>
      intro i hi hie
      have hlt : i < el.length := by omega
      obtain ⟨ck, cn, cs, yb, cb, yf, cf, yl, cl, hrow⟩ := (ha _ (List.getElem_mem hlt)).get
      have hg : el[((i : Int)).toNat]? = some (valk.val ck cn cs yb cb yf cf yl cl) := by rw [Int.toNat_natCast, List.getElem?_eq_getElem hlt, hrow]
      rw [List.drop_eq_getElem_cons hlt]
      by_cases h : i < el'.length
      · obtain ⟨dk, dn, ds, zb, db, zf, df, zl, dl, hrow'⟩ := (hb _ (List.getElem_mem h)).get
        have hg' : el'[((i : Int)).toNat]? = some (valk.val dk dn ds zb db zf df zl dl) := by rw [Int.toNat_natCast, List.getElem?_eq_getElem h, hrow']
        rw [List.drop_eq_getElem_cons h]
        have hc := ih _ (List.getElem_mem hlt) _ (hb _ (List.getElem_mem h))
        simp only [cmpLs, lx]
        rw [hrow, hrow'] at hc ⊢
        by_cases hz : cmpV (valk.val ck cn cs yb cb yf cf yl cl) (valk.val dk dn ds zb db zf df zl dl) = 0
        · rw [if_neg (by simpa using hz)]
          refine rv_1_1 (by omega) (by omega) hz hc (by omega) hg' hg ?_
          rw [up hlt la]
          exact ihm (i + 1) (by omega) (by omega)
        · rw [if_pos hz]
          exact rv_1_0 (by omega) (by omega) hz hc (by omega) hg' hg
      · rw [List.drop_of_length_le (l := el') (by omega)]
        simp only [cmpLs]
        have e := @rv_1_2 cmpV k n s xb eb xf ef xl el k' n' s' xb' eb' xf' ef' xl' el' (i : Int) (by omega) (by omega)
        rwa [sgn_gt (by omega)] at e
  simpa using key el.length 0 (by omega) (by omega)

open valk in
theorem rfs_ok (la : ef.length ≤ maxLen) (ha : ∀ r ∈ ef, ∃ nm c, r = .str nm :: c ∧ nm.size ≤ maxLen ∧ VS c) (hb : ∀ r ∈ ef', ∃ nm c, r = .str nm :: c ∧ nm.size ≤ maxLen ∧ VS c)
    (ih : ∀ nm c, (.str nm :: c) ∈ ef → ∀ b, VS b → Ret P T 22 [.agg c, .agg b] [] (.int .i64 (cmpV c b)) []) :
    rv_at0 cmpV k n s xb eb xf ef xl el k' n' s' xb' eb' xf' ef' xl' el' 0 (.int .i64 (cmpFs ef ef')) [] := by
  have key : ∀ (m i : Nat), i + m = ef.length → i ≤ ef'.length → rv_at0 cmpV k n s xb eb xf ef xl el k' n' s' xb' eb' xf' ef' xl' el' i (.int .i64 (cmpFs (ef.drop i) (ef'.drop i))) [] := by
    intro m
    induction m with
    | zero =>
      intro i hi hie
      rw [List.drop_of_length_le (l := ef) (by omega)]
      by_cases h : i < ef'.length
      · rw [List.drop_eq_getElem_cons h]
        simp only [cmpFs]
        have e := @rv_0_7 cmpV k n s xb eb xf ef xl el k' n' s' xb' eb' xf' ef' xl' el' (i : Int) (by omega)
        rwa [sgn_lt (by omega)] at e
      · rw [List.drop_of_length_le (by omega)]
        simp only [cmpFs]
        have e := @rv_0_7 cmpV k n s xb eb xf ef xl el k' n' s' xb' eb' xf' ef' xl' el' (i : Int) (by omega)
        rwa [sgn_eq (by omega)] at e
    | succ m ihm =>
      intro i hi hie
      have hlt : i < ef.length := by omega
      obtain ⟨nm, c, hr, hnm, hv⟩ := ha _ (List.getElem_mem hlt)
      have hmem : (.str nm :: c) ∈ ef := hr ▸ List.getElem_mem hlt
      have hih := ih nm c hmem
      obtain ⟨ck, cn, cs, yb, cb, yf, cf, yl, cl, rfl⟩ := hv.get
      have hg : ef[((i : Int)).toNat]? = some (.str nm :: valk.val ck cn cs yb cb yf cf yl cl) := by rw [Int.toNat_natCast, List.getElem?_eq_getElem hlt, hr]
      rw [List.drop_eq_getElem_cons hlt]
      by_cases h : i < ef'.length
      · obtain ⟨nm', c', hr', hnm', hv'⟩ := hb _ (List.getElem_mem h)
        have hc := hih _ hv'
        obtain ⟨dk, dn, ds, zb, db, zf, df, zl, dl, rfl⟩ := hv'.get
        have hg' : ef'[((i : Int)).toNat]? = some (.str nm' :: valk.val dk dn ds zb db zf df zl dl) := by rw [Int.toNat_natCast, List.getElem?_eq_getElem h, hr']
        rw [List.drop_eq_getElem_cons h, hr, hr']
        have eF : cmpFs ((.str nm :: valk.val ck cn cs yb cb yf cf yl cl) :: ef.drop (i + 1)) ((.str nm' :: valk.val dk dn ds zb db zf df zl dl) :: ef'.drop (i + 1)) =
            lx (lx (sgnU (classU ck) (classU dk)) (lx (lexB nm nm') (cmpV (valk.val ck cn cs yb cb yf cf yl cl) (valk.val dk dn ds zb db zf df zl dl)))) (cmpFs (ef.drop (i + 1)) (ef'.drop (i + 1))) := by
          simp only [cmpFs, cmpF]; rfl
        rw [eF]
        have h57 := txt57 nm nm' hnm
        by_cases h2 : sgnU (classU ck) (classU dk) = 0
        · by_cases h3 : lexB nm nm' = 0
          · by_cases h4 : cmpV (valk.val ck cn cs yb cb yf cf yl cl) (valk.val dk dn ds zb db zf df zl dl) = 0
            · rw [lx_zero h2, lx_zero h3, lx_zero h4]
              refine rv_0_1 (by omega) (by omega) h2 h3 h4 hc h57 (by omega) hg' hg ?_
              rw [up hlt la]
              exact ihm (i + 1) (by omega) (by omega)
            · rw [lx_zero h2, lx_zero h3, lx_pos h4]
              exact rv_0_0 (by omega) (by omega) h2 h3 h4 hc h57 (by omega) hg' hg
          · rw [lx_zero h2, lx_pos h3, lx_pos h3]
            exact rv_0_2 (by omega) (by omega) h2 h3 h3 h57 (by omega) hg' hg
        · rw [lx_pos h2, lx_pos h2]
          exact rv_0_4 (by omega) (by omega) h2 h2 (by omega) hg' hg
      · rw [List.drop_of_length_le (l := ef') (by omega), hr]
        simp only [cmpFs]
        have e := @rv_0_6 cmpV k n s xb eb xf ef xl el k' n' s' xb' eb' xf' ef' xl' el' (i : Int) (by omega) (by omega)
        rwa [sgn_gt (by omega)] at e
  simpa using key ef.length 0 (by omega) (by omega)
end

open valk in
/-- The reference's comparing is the same. -/
theorem cmp33 {a : Cs} (ha : VS a) : ∀ {b : Cs}, VS b → Ret P T 22 [.agg a, .agg b] [] (.int .i64 (cmpV a b)) [] := by
  induction ha with
  | mk k n s xb eb xf ef xl el bs hk hn hs hb hb' lb lf ll nb nf nl hf hfv hl ihf ihl =>
    intro b hvb
    cases hvb with
    | mk k' n' s' xb' eb' xf' ef' xl' el' bs' hk' hn' hs' hb1 hb1' lb' lf' ll' nb' nf' nl' hf' hfv' hl' =>
      rw [cmpV_eq]
      have hF : ∀ r ∈ ef', ∃ nm c, r = .str nm :: c ∧ nm.size ≤ maxLen ∧ VS c := fun r hr => by
        obtain ⟨nm, c, rfl, h1⟩ := hf' r hr
        exact ⟨nm, c, rfl, h1, hfv' nm c hr⟩
      have hF0 : ∀ r ∈ ef, ∃ nm c, r = .str nm :: c ∧ nm.size ≤ maxLen ∧ VS c := fun r hr => by
        obtain ⟨nm, c, rfl, h1⟩ := hf r hr
        exact ⟨nm, c, rfl, h1, hfv nm c hr⟩
      have hLs := @rls_ok k n s xb eb xf ef xl el k' n' s' xb' eb' xf' ef' xl' el' ll hl hl' (fun r hr b hb => ihl r hr hb)
      have hFs := @rfs_ok k n s xb eb xf ef xl el k' n' s' xb' eb' xf' ef' xl' el' lf hF0 hF (fun nm c hm b hb => ihf nm c hm hb)
      have hB : eb.all isByteC = true := by rw [bytes_rows hb]; exact allB_rows hb'
      have hB' : eb'.all isByteC = true := by rw [bytes_rows hb1]; exact allB_rows hb1'
      have eB : lexB (bytesOf eb) (bytesOf eb') = cbE eb eb' := by rw [bytes_rows hb, bytes_rows hb1]; exact lexB_rows _ _
      have h57 := txt57 (bytesOf eb) (bytesOf eb') (by rw [show (bytesOf eb).size = eb.length from by simp [bytesOf, ByteArray.size]]; exact lb)
      by_cases h0 : sgnU (classU k) (classU k') = 0
      · unfold lx bodyV
        rw [if_neg (by simpa using h0)]
        by_cases h3 : k = 3
        · rw [if_pos (by omega)]; exact rv_in_1 (cV := cmpV) h0 h3
        by_cases h4 : k = 4
        · rw [if_pos (by omega)]; exact rv_in_2 (cV := cmpV) h0 h3 h4
        by_cases h10 : k = 10
        · rw [if_pos (by omega)]; exact rv_in_3 (cV := cmpV) h0 h3 h4 h10
        by_cases h11 : k = 11
        · rw [if_pos (by omega)]; exact rv_in_4 (cV := cmpV) h0 h3 h4 h10 h11
        rw [if_neg (by omega)]
        by_cases h5 : k = 5
        · rw [if_pos h5]; exact rv_in_5 (cV := cmpV) h0 h3 h4 h10 h11 h5 (txt57 s s' hs)
        rw [if_neg h5]
        by_cases h6 : k = 6
        · rw [if_pos h6]; exact rv_in_9 (cV := cmpV) h0 h3 h4 h10 h11 h5 (by omega) (by omega) h6 hFs
        rw [if_neg h6]
        by_cases h7 : k = 7
        · rw [if_pos h7]; exact rv_in_10 (cV := cmpV) h0 h3 h4 h10 h11 h5 (by omega) (by omega) h6 h7 hLs
        rw [if_neg h7]
        by_cases h8 : k = 8
        · rw [if_pos h8]
          unfold lx
          by_cases hl8 : sgnU eb.length eb'.length = 0
          · rw [if_neg (by simpa using hl8), ← eB]
            exact rv_in_7 (cV := cmpV) h0 h3 h4 h10 h11 h5 h8 hl8 h57 hB' hB
          · rw [if_pos hl8]
            exact rv_in_6 (cV := cmpV) h0 h3 h4 h10 h11 h5 h8 hl8
        rw [if_neg h8]
        by_cases h9 : k = 9
        · rw [if_pos h9, ← eB]
          exact rv_in_8 (cV := cmpV) h0 h3 h4 h10 h11 h5 h8 h9 h57 hB' hB
        rw [if_neg h9]
        exact rv_in_11 (cV := cmpV) h0 h3 h4 h10 h11 h5 h8 h9 h6 h7
      · unfold lx
        rw [if_pos h0]
        exact rv_in_0 (cV := cmpV) h0



end Go.Proofs.Ytlccdfilbiipmaa.ordk
