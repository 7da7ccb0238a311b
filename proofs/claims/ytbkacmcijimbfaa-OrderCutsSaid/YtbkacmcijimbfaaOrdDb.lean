/- Same, and the reference's By: what they come to. -/
import Derived.Test.YtbkacmcijimbfaaOrdCb
import Derived.Test.YtbkacmcijimbfaaOrdD
namespace Go.Proofs.Ytbkacmcijimbfaa.ordk
open Go Ytbkacmcijimbfaa.GD valk
set_option linter.unusedVariables false
set_option linter.unusedSimpArgs false
set_option maxRecDepth 100000

/-! ### Same: a value and itself -/
theorem same17 {a : Cs} (ha : VS a) : Ret P T 17 [.agg a, .agg a] [] (.bool true) [] := by
  induction ha with
  | mk k n s xb eb xf ef xl el bs hk hn hs hb hb' lb lf ll nb nf nl hf hfv hl ihf ihl =>
    have hB : eb.all isByteC = true := by rw [bytes_rows hb]; exact allB_rows hb'
    have kl : ∀ (m i : Nat), i + m = el.length → sm_at1 (fun _ _ => true) k n s xb eb xf ef xl el k n s xb eb xf ef xl el i (.bool true) [] := by
      intro m
      induction m with
      | zero => intro i hi; exact sm_1_2 (by omega)
      | succ m ihm =>
        intro i hi
        have hlt : i < el.length := by omega
        have hih := ihl _ (List.getElem_mem hlt)
        obtain ⟨ck, cn, cs, yb, cb, yf, cf, yl, cl, hrow⟩ := (hl _ (List.getElem_mem hlt)).get
        have hg : el[((i : Int)).toNat]? = some (valk.val ck cn cs yb cb yf cf yl cl) := by rw [Int.toNat_natCast, List.getElem?_eq_getElem hlt, hrow]
        rw [hrow] at hih
        refine sm_1_0 (by omega) rfl hih (by omega) hg hg ?_
        rw [up hlt ll]
        exact ihm (i + 1) (by omega)
    have kf : ∀ (m i : Nat), i + m = ef.length → sm_at0 (fun _ _ => true) k n s xb eb xf ef xl el k n s xb eb xf ef xl el i (.bool true) [] := by
      intro m
      induction m with
      | zero => intro i hi; exact sm_0_3 (by omega) (by simpa using kl el.length 0 (by omega))
      | succ m ihm =>
        intro i hi
        have hlt : i < ef.length := by omega
        obtain ⟨nm, c, hr, hnm⟩ := hf _ (List.getElem_mem hlt)
        have hmem : (.str nm :: c) ∈ ef := hr ▸ List.getElem_mem hlt
        have hih := ihf nm c hmem
        obtain ⟨ck, cn, cs, yb, cb, yf, cf, yl, cl, rfl⟩ := (hfv nm c hmem).get
        have hg : ef[((i : Int)).toNat]? = some (.str nm :: valk.val ck cn cs yb cb yf cf yl cl) := by rw [Int.toNat_natCast, List.getElem?_eq_getElem hlt, hr]
        refine sm_0_0 (by omega) rfl rfl hih (by omega) hg hg hg hg ?_
        rw [up hlt lf]
        exact ihm (i + 1) (by omega)
    exact sm_in_4 rfl rfl rfl rfl rfl rfl hB hB (by simpa using kf ef.length 0 (by omega))

/-! ### the reference's By -/
theorem by41 (xa : Bool) {ea : Es} (xb : Bool) {eb : Es} (xd : Bool) {ed : Es} (ha : ∀ r ∈ ea, VS r) (hb : ∀ r ∈ eb, VS r) (hd : ∀ r ∈ ed, ∃ b, r = [D.bool b]) (la : ea.length ≤ maxLen) (lb : eb.length ≤ maxLen) :
    Ret P T 41 [.slice xa ea none, .slice xb eb none, .slice xd ed none] [] (.int .i64 (byE ea eb ed)) [] := by
  have key : ∀ (m i : Nat), i + m = max ea.length eb.length → br_at0 cmpV xa ea xb eb xd ed i (.int .i64 (byN ea eb ed m i)) [] := by
    intro m
    induction m with
    | zero =>
      intro i hi
      exact br_0_12 (by omega) (by omega)
    | succ m ihm =>
      intro i hi
      have hc := cmp33 (vs_at ha i) (vs_at hb i)
      have hw := wrap_neg (cmp_R (vs_at ha i) (vs_at hb i)).1
      have hnext : br_at0 cmpV xa ea xb eb xd ed (IntKind.i64.wrap ((i : Int) + 1)) (.int .i64 (byN ea eb ed m (i + 1))) [] := by
        rw [up (n := max ea.length eb.length) (by omega) (by omega)]
        exact ihm (i + 1) (by omega)
      show br_at0 cmpV xa ea xb eb xd ed i (.int .i64 (lx (byI ea eb ed i) (byN ea eb ed m (i + 1)))) []
      have gA : i < ea.length → ea[((i : Int)).toNat]? = some (valAt ea i) := fun h => by rw [Int.toNat_natCast, List.getElem?_eq_getElem h, val_lt h]
      have gB : i < eb.length → eb[((i : Int)).toNat]? = some (valAt eb i) := fun h => by rw [Int.toNat_natCast, List.getElem?_eq_getElem h, val_lt h]
      have zA : ¬ i < ea.length → valAt ea i = zeroV := fun h => val_ge (by omega)
      have zB : ¬ i < eb.length → valAt eb i = zeroV := fun h => val_ge (by omega)
      have gD : ∀ b, i < ed.length → ed[i]? = some [D.bool b] → ed[((i : Int)).toNat]? = some [D.bool b] := fun b _ h => by rw [Int.toNat_natCast]; exact h
      unfold byI
      obtain ⟨ak, an, as1, axb, aeb, axf, aef, axl, ael, eA⟩ := (vs_at ha i).get
      obtain ⟨bk, bn, bs, bxb, beb, bxf, bef, bxl, bel, eB⟩ := (vs_at hb i).get
      by_cases hz : cmpV (valAt ea i) (valAt eb i) = 0
      · rw [lx_zero (by split <;> omega)]
        by_cases hA : i < ea.length
        · have g1 := gA hA
          rw [eA] at hc hz g1
          by_cases hB : i < eb.length
          · have g2 := gB hB
            rw [eB] at hc hz g2
            exact br_0_3 (by omega) (by omega) hz hc (by omega) g2 g1 hnext
          · rw [zB hB] at hc hz
            exact br_0_7 (by omega) (by omega) hz hc (by omega) g1 hnext
        · have g2 := gB (by omega)
          rw [zA hA, eB] at hc hz
          rw [eB] at g2
          exact br_0_11 (by omega) (by omega) hz hc (by omega) g2 hnext
      · rw [lx_pos (by split <;> omega)]
        by_cases hdl : i < ed.length
        · obtain ⟨b, hbb⟩ := hd _ (List.getElem_mem hdl)
          have g3 : ed[((i : Int)).toNat]? = some [D.bool b] := by rw [Int.toNat_natCast, List.getElem?_eq_getElem hdl, hbb]
          have hdn : isDn ed i = b := by unfold isDn; rw [List.getElem?_eq_getElem hdl, hbb]
          rw [hdn]
          cases b with
          | true =>
            rw [if_pos rfl, ← hw]
            by_cases hA : i < ea.length
            · have g1 := gA hA
              rw [eA] at hc hz g1 ⊢
              by_cases hB : i < eb.length
              · have g2 := gB hB
                rw [eB] at hc hz g2 ⊢
                exact br_0_0 (by omega) (by omega) hz (by omega) rfl (by omega) g3 hc g2 g1
              · rw [zB hB] at hc hz ⊢
                exact br_0_4 (by omega) (by omega) hz (by omega) rfl (by omega) g3 hc g1
            · have g2 := gB (by omega)
              rw [eB] at g2
              rw [zA hA, eB] at hc hz ⊢
              exact br_0_8 (by omega) (by omega) hz (by omega) rfl (by omega) g3 hc g2
          | false =>
            rw [if_neg (by decide)]
            by_cases hA : i < ea.length
            · have g1 := gA hA
              rw [eA] at hc hz g1 ⊢
              by_cases hB : i < eb.length
              · have g2 := gB hB
                rw [eB] at hc hz g2 ⊢
                exact br_0_1 (by omega) (by omega) hz (by omega) rfl (by omega) g3 hc g2 g1
              · rw [zB hB] at hc hz ⊢
                exact br_0_5 (by omega) (by omega) hz (by omega) rfl (by omega) g3 hc g1
            · have g2 := gB (by omega)
              rw [eB] at g2
              rw [zA hA, eB] at hc hz ⊢
              exact br_0_9 (by omega) (by omega) hz (by omega) rfl (by omega) g3 hc g2
        · have hdn : isDn ed i = false := by unfold isDn; rw [List.getElem?_eq_none (by omega)]
          rw [hdn, if_neg (by decide)]
          by_cases hA : i < ea.length
          · have g1 := gA hA
            rw [eA] at hc hz g1 ⊢
            by_cases hB : i < eb.length
            · have g2 := gB hB
              rw [eB] at hc hz g2 ⊢
              exact br_0_2 (by omega) (by omega) hz (by omega) hc (by omega) g2 g1
            · rw [zB hB] at hc hz ⊢
              exact br_0_6 (by omega) (by omega) hz (by omega) hc (by omega) g1
          · have g2 := gB (by omega)
            rw [eB] at g2
            rw [zA hA, eB] at hc hz ⊢
            exact br_0_10 (by omega) (by omega) hz (by omega) hc (by omega) g2
  exact br_in_0 (by simpa [byE] using key (max ea.length eb.length) 0 (by omega))

end Go.Proofs.Ytbkacmcijimbfaa.ordk
