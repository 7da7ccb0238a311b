/- The law OrderRows. -/
import Derived.Test.YtbkacmcijimbfaaOrdE
namespace Go.Proofs.Ytbkacmcijimbfaa.ordk
open Go Ytbkacmcijimbfaa.GD valk
set_option linter.unusedVariables false
set_option linter.unusedSimpArgs false
set_option maxRecDepth 100000

theorem few31' (es : Es) (hl : es.length ≤ maxLen) (hv : ∀ c ∈ es, VS c) : ∃ b, ∀ xb, Ret P T 31 [.slice xb es none] [] (.bool b) [] := by
  have key : ∀ (m i : Nat) (t : Int), i + m = es.length → ∃ b, ∀ xb, few_at0 smallB W xb es t i (.bool b) [] := by
    intro m
    induction m with
    | zero =>
      intro i t hi
      by_cases h : (es.length : Int) ≤ 30
      · exact ⟨_, fun xb => few_0_2 (by omega) h⟩
      · exact ⟨_, fun xb => few_0_3 (by omega) h⟩
    | succ m ih =>
      intro i t hi
      have hlt : i < es.length := by omega
      have hvi := hv _ (List.getElem_mem hlt)
      obtain ⟨ck, cn, cs, yb, cb, yf, cf, yl, cl, hrow⟩ := hvi.get
      have hg : es[((i : Int)).toNat]? = some (valk.val ck cn cs yb cb yf cf yl cl) := by rw [Int.toNat_natCast, List.getElem?_eq_getElem hlt, hrow]
      rw [hrow] at hvi
      have h14 : Ret P T 14 [.agg (valk.val ck cn cs yb cb yf cf yl cl)] [] (.bool (smallB (valk.val ck cn cs yb cb yf cf yl cl))) [] := small hvi
      have h42 : Ret P T 42 [.agg (valk.val ck cn cs yb cb yf cf yl cl), .int .i64 3000] [] (.int .i64 (W (valk.val ck cn cs yb cb yf cf yl cl) 3000)) [] := W_ok (weight hvi 3000)
      cases hs : smallB (valk.val ck cn cs yb cb yf cf yl cl) with
      | false =>
        exact ⟨false, fun xb => few_0_1 (smB := smallB) (by omega) hs h14 (by omega) hg⟩
      | true =>
        obtain ⟨b, g⟩ := ih (i + 1) (IntKind.i64.wrap (t + W (valk.val ck cn cs yb cb yf cf yl cl) 3000)) (by omega)
        refine ⟨b, fun xb => few_0_0 (by omega) hs h42 (by omega) hg h14 hg ?_⟩
        rw [up hlt hl]
        exact g xb
  obtain ⟨b, g⟩ := key es.length 0 0 (by omega)
  exact ⟨b, fun xb => few_in_0 (g xb)⟩
open Classical in
noncomputable def fewE (es : Es) : Bool := if h : es.length ≤ maxLen ∧ ∀ c ∈ es, VS c then (few31' es h.1 h.2).choose else false
theorem few_E (xb : Bool) {es : Es} (hl : es.length ≤ maxLen) (hv : ∀ c ∈ es, VS c) : Ret P T 31 [.slice xb es none] [] (.bool (fewE es)) [] := by
  unfold fewE
  rw [dif_pos ⟨hl, hv⟩]
  exact (few31' es hl hv).choose_spec xb

theorem cells_of {v : Cs} (hv : VS v) : cellsT (ctOf v) = v := by
  obtain ⟨k, n, s, xb, eb, xf, ef, xl, el, rfl⟩ := hv.get
  rfl
def cutC (v : Cs) (dn : Bool) : CT := ctOf (cutV v dn)

theorem law12 (xa : Bool) {ea : Es} (xb : Bool) {eb : Es} (xd : Bool) {ed : Es} (ha : ∀ r ∈ ea, VS r) (hb : ∀ r ∈ eb, VS r) (hd : ∀ r ∈ ed, ∃ b, r = [D.bool b]) (la : ea.length ≤ maxLen) (lb : eb.length ≤ maxLen) :
    Ret P T 12 [.slice xa ea none, .slice xb eb none, .slice xd ed none] [] (.bool true) [] := by
  have hfa := few_E xa la ha
  have hfb := few_E xb lb hb
  cases hA : fewE ea with
  | false => exact lrw_in_3 (cV := cmpV) (byF := byE) (cutF := cutC) (cS := fun _ _ => true) hA hfa awake30
  | true =>
    cases hB : fewE eb with
    | false => exact lrw_in_2 (cV := cmpV) (byF := byE) (cutF := cutC) (cS := fun _ _ => true) hA hB hfb hfa awake30
    | true =>
      by_cases hd50 : ((ed.length : Int)) > 50
      · exact lrw_in_0 (cV := cmpV) (byF := byE) (cutF := cutC) (cS := fun _ _ => true) hA hB hd50 hfb hfa awake30
      · have key : ∀ (m i : Nat), i + m = ea.length → lrw_at0 cmpV fewE byE cutC (fun _ _ => true) xa ea xb eb xd ed i (.bool true) [] := by
          intro m
          induction m with
          | zero =>
            intro i hi
            have hneg := byE_neg ed ha hb
            have hR := byE_R ed ha hb
            have hw : byE ea eb ed = IntKind.i64.wrap (0 - byE eb ea ed) := by
              rw [hneg]
              rcases hR with h | h | h <;> (rw [h]; decide)
            have hself : (byE ea ea ed == 0) = true := by rw [byE_self ed ha]; rfl
            have e := lrw_0_1 (cV := cmpV) (few := fewE) (byF := byE) (cutF := cutC) (cS := fun _ _ => true) (n8 := i) (by omega) hw (by39 xa xa xd ha ha hd la la) (by39 xb xa xd hb ha hd lb la) (by41 xa xb xd ha hb hd la lb)
            rw [hself] at e
            exact e
          | succ m ihm =>
            intro i hi
            have hlt : i < ea.length := by omega
            have hvx := ha _ (List.getElem_mem hlt)
            have g1 := cut36 hvx true
            have g2 := cut40 hvx true
            have g3 := cut36 hvx false
            have g4 := cut40 hvx false
            have g5 := same17 (vs_cut hvx true)
            have g6 := same17 (vs_cut hvx false)
            rw [← cells_of (vs_cut hvx true)] at g1 g2 g5
            rw [← cells_of (vs_cut hvx false)] at g3 g4 g6
            obtain ⟨ck, cn, cs, yb, cb, yf, cf, yl, cl, hrow⟩ := hvx.get
            have hg : ea[((i : Int)).toNat]? = some (valk.val ck cn cs yb cb yf cf yl cl) := by rw [Int.toNat_natCast, List.getElem?_eq_getElem hlt, hrow]
            rw [hrow] at g1 g2 g3 g4 g5 g6
            have hn := ihm (i + 1) (by omega)
            rw [← up hlt la] at hn
            exact lrw_0_0 (by omega) rfl rfl g6 g4 (by omega) hg g3 hg g5 g2 hg g1 hg hn
        exact lrw_in_1 hA hB hd50 (by39 xa xb xd ha hb hd la lb) hfb hfa awake30 (by simpa using key ea.length 0 (by omega))

end Go.Proofs.Ytbkacmcijimbfaa.ordk
