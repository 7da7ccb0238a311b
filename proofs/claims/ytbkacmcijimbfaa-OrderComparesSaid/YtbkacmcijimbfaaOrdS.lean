/- Whether a list of values is few. -/
import Derived.Test.YtbkacmcijimbfaaOrdF
import Derived.Test.YtbkacmcijimbfaaOrdR
namespace Go.Proofs.Ytbkacmcijimbfaa.ordk
open Go Ytbkacmcijimbfaa.GD valk
set_option linter.unusedVariables false
set_option linter.unusedSimpArgs false
set_option maxRecDepth 100000

theorem few31' (es : Es) (hl : es.length ≤ maxLen) (hv : ∀ c ∈ es, VS c) : ∃ b, ∀ xb, Ret P T 31 [.slice xb es none] [] (.bool b) [] := by
  have key : ∀ (m i : Nat) (t : Int), i + m = es.length → ∃ b, ∀ xb, few_at0 smallB W xb es t i (.bool b) [] := by
    intro m
    induction m with
    | zero =>
      intro i t hi
      by_cases h : (es.length : Int) ≤ 30
      · exact ⟨_, fun xb => few_0_2 (by omega) h⟩
      · exact ⟨_, fun xb => few_0_3 (by omega) h⟩
    | succ m ih =>
      intro i t hi
      have hlt : i < es.length := by omega
      have hvi := hv _ (List.getElem_mem hlt)
      obtain ⟨ck, cn, cs, yb, cb, yf, cf, yl, cl, hrow⟩ := hvi.get
      have hg : es[((i : Int)).toNat]? = some (valk.val ck cn cs yb cb yf cf yl cl) := by rw [Int.toNat_natCast, List.getElem?_eq_getElem hlt, hrow]
      rw [hrow] at hvi
      have h14 : Ret P T 14 [.agg (valk.val ck cn cs yb cb yf cf yl cl)] [] (.bool (smallB (valk.val ck cn cs yb cb yf cf yl cl))) [] := small hvi
      have h42 : Ret P T 42 [.agg (valk.val ck cn cs yb cb yf cf yl cl), .int .i64 3000] [] (.int .i64 (W (valk.val ck cn cs yb cb yf cf yl cl) 3000)) [] := W_ok (weight hvi 3000)
      cases hs : smallB (valk.val ck cn cs yb cb yf cf yl cl) with
      | false =>
        exact ⟨false, fun xb => few_0_1 (smB := smallB) (by omega) hs h14 (by omega) hg⟩
      | true =>
        obtain ⟨b, g⟩ := ih (i + 1) (IntKind.i64.wrap (t + W (valk.val ck cn cs yb cb yf cf yl cl) 3000)) (by omega)
        refine ⟨b, fun xb => few_0_0 (by omega) hs h42 (by omega) hg h14 hg ?_⟩
        rw [up hlt hl]
        exact g xb
  obtain ⟨b, g⟩ := key es.length 0 0 (by omega)
  exact ⟨b, fun xb => few_in_0 (g xb)⟩
open Classical in
noncomputable def fewE (es : Es) : Bool := if h : es.length ≤ maxLen ∧ ∀ c ∈ es, VS c then (few31' es h.1 h.2).choose else false
theorem few_E (xb : Bool) {es : Es} (hl : es.length ≤ maxLen) (hv : ∀ c ∈ es, VS c) : Ret P T 31 [.slice xb es none] [] (.bool (fewE es)) [] := by
  unfold fewE
  rw [dif_pos ⟨hl, hv⟩]
  exact (few31' es hl hv).choose_spec xb

end Go.Proofs.Ytbkacmcijimbfaa.ordk
