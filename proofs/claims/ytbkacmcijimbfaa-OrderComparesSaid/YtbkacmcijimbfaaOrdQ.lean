/- The law OrderCompares. -/
import Derived.Test.YtbkacmcijimbfaaOrdP
namespace Go.Proofs.Ytbkacmcijimbfaa.ordk
open Go Ytbkacmcijimbfaa.GD valk
set_option linter.unusedVariables false
set_option linter.unusedSimpArgs false
set_option maxRecDepth 100000

def itV (es : Es) (i : Nat) : Cs := es.getD i []
theorem it_vs {es : Es} (h : ∀ r ∈ es, VS r) {i : Nat} (hi : i < es.length) : VS (itV es i) := by
  have : itV es i = es[i] := by simp [itV, List.getD_eq_getElem?_getD, hi]
  rw [this]; exact h _ (List.getElem_mem hi)
theorem it_get {es : Es} {i : Nat} (hi : i < es.length) : es[((i : Int)).toNat]? = some (itV es i) := by
  simp [itV, List.getD_eq_getElem?_getD, hi]
theorem w1 {i : Nat} (hi : i < 3) : IntKind.i64.wrap ((i : Int) + 1) = ((i + 1 : Nat) : Int) := by
  rw [wrap_i64 (by omega)]; omega

theorem law7 {a b c : Cs} (ha : VS a) (hb : VS b) (hc : VS c) (kind : Int) : Ret P T 7 [.agg (a ++ (b ++ c)), .int .i64 kind] [] (.bool true) [] := by
  have hts : ∀ r ∈ [a, b, c], VS r := fun r hr => by simp at hr; rcases hr with rfl | rfl | rfl <;> assumption
  obtain ⟨k, n, s, xb, eb, xf, ef, xl, el, rfl⟩ := ha.get
  obtain ⟨k', n', s', xb', eb', xf', ef', xl', el', rfl⟩ := hb.get
  obtain ⟨k2, n2, s2, xb2, eb2, xf2, ef2, xl2, el2, rfl⟩ := hc.get
  have hf := few_E true (es := [valk.val k n s xb eb xf ef xl el, valk.val k' n' s' xb' eb' xf' ef' xl' el', valk.val k2 n2 s2 xb2 eb2 xf2 ef2 xl2 el2]) (by show 3 ≤ maxLen; decide) hts
  have vI : ∀ i : Nat, i < 3 → VS (itV [valk.val k n s xb eb xf ef xl el, valk.val k' n' s' xb' eb' xf' ef' xl' el', valk.val k2 n2 s2 xb2 eb2 xf2 ef2 xl2 el2] i) := fun i hi => it_vs hts (by exact hi)
  have gI : ∀ i : Nat, i < 3 → ([valk.val k n s xb eb xf ef xl el, valk.val k' n' s' xb' eb' xf' ef' xl' el', valk.val k2 n2 s2 xb2 eb2 xf2 ef2 xl2 el2] : Es)[((i : Int)).toNat]? = some (itV [valk.val k n s xb eb xf ef xl el, valk.val k' n' s' xb' eb' xf' ef' xl' el', valk.val k2 n2 s2 xb2 eb2 xf2 ef2 xl2 el2] i) := fun i hi => it_get (by exact hi)
  generalize hX : itV [valk.val k n s xb eb xf ef xl el, valk.val k' n' s' xb' eb' xf' ef' xl' el', valk.val k2 n2 s2 xb2 eb2 xf2 ef2 xl2 el2] = X at vI gI
  have key2 : ∀ i j : Nat, i < 3 → j < 3 → lcp_at1 cmpV fewE classU k n s xb eb xf ef xl el k' n' s' xb' eb' xf' ef' xl' el' k2 n2 s2 xb2 eb2 xf2 ef2 xl2 el2 kind i (IntKind.i64.wrap ((j : Int) + 1)) (.bool true) [] →
      ∀ m l : Nat, l + m = 3 → lcp_at2 cmpV fewE classU k n s xb eb xf ef xl el k' n' s' xb' eb' xf' ef' xl' el' k2 n2 s2 xb2 eb2 xf2 ef2 xl2 el2 kind i j (cmpV (X i) (X j)) l (.bool true) [] := by
    intro i j hi hj hn m
    induction m with
    | zero => intro l hl; exact lcp_2_3 (by omega) hn
    | succ m ih =>
      intro l hl
      have hl3 : l < 3 := by omega
      have nx := ih (l + 1) (by omega)
      rw [← w1 hl3] at nx
      by_cases h1 : cmpV (X i) (X j) ≤ 0
      · have gi := gI i hi
        have gj := gI j hj
        have gl := gI l hl3
        have r1 := cmp32 (vI j hj) (vI l hl3)
        have r2 := cmp32 (vI i hi) (vI l hl3)
        have hQ := cmp_Q (vI i hi) (vI j hj) (vI l hl3)
        obtain ⟨i0, i1, i2, i3, i4, i5, i6, i7, i8, ei⟩ := (vI i hi).get
        obtain ⟨j0, j1, j2, j3, j4, j5, j6, j7, j8, ej⟩ := (vI j hj).get
        obtain ⟨l0, l1, l2, l3, l4, l5, l6, l7, l8, el⟩ := (vI l hl3).get
        by_cases h2 : cmpV (X j) (X l) ≤ 0
        · have h3 : ¬ cmpV (X i) (X l) > 0 := by have := (hQ.1 h1 h2).1; omega
          rw [ei] at gi; rw [ej] at gj; rw [el] at gl
          rw [ej, el] at r1 h2
          rw [ei, el] at r2 h3
          exact lcp_2_0 (cl := classU) (by omega) h1 h2 h3 r2 ⟨by omega, by omega⟩ gl ⟨by omega, by omega⟩ gi r1 gl ⟨by omega, by omega⟩ gj nx
        · rw [ej] at gj; rw [el] at gl
          rw [ej, el] at r1 h2
          exact lcp_2_1 (cl := classU) (by omega) h1 h2 r1 ⟨by omega, by omega⟩ gl ⟨by omega, by omega⟩ gj nx
      · exact lcp_2_2 (by omega) h1 nx
  have key1 : ∀ i : Nat, i < 3 → lcp_at0 cmpV fewE classU k n s xb eb xf ef xl el k' n' s' xb' eb' xf' ef' xl' el' k2 n2 s2 xb2 eb2 xf2 ef2 xl2 el2 kind (IntKind.i64.wrap ((i : Int) + 1)) (.bool true) [] →
      ∀ m j : Nat, j + m = 3 → lcp_at1 cmpV fewE classU k n s xb eb xf ef xl el k' n' s' xb' eb' xf' ef' xl' el' k2 n2 s2 xb2 eb2 xf2 ef2 xl2 el2 kind i j (.bool true) [] := by
    intro i hi hn m
    induction m with
    | zero => intro j hj; exact lcp_1_1 (by omega) hn
    | succ m ih =>
      intro j hj
      have hj3 : j < 3 := by omega
      have nx := ih (j + 1) (by omega)
      rw [← w1 hj3] at nx
      have nx2 := key2 i j hi hj3 nx 3 0 (by omega)
      have gi := gI i hi
      have gj := gI j hj3
      have r1 := cmp32 (vI i hi) (vI j hj3)
      have r2 := cmp33 (vI i hi) (vI j hj3)
      have r3 := cmp32 (vI j hj3) (vI i hi)
      have hR := cmp_R (vI i hi) (vI j hj3)
      have hw : cmpV (X i) (X j) = IntKind.i64.wrap ((0 : Int) - cmpV (X j) (X i)) := by
        have h1 := hR.2
        have h2 : R3 (cmpV (X i) (X j)) := hR.1
        unfold R3 at h2
        rw [wrap_i64 (by omega)]
        omega
      obtain ⟨i0, i1, i2, i3, i4, i5, i6, i7, i8, ei⟩ := (vI i hi).get
      obtain ⟨j0, j1, j2, j3, j4, j5, j6, j7, j8, ej⟩ := (vI j hj3).get
      rw [ei] at gi; rw [ej] at gj
      rw [ei, ej] at r1 r2 r3 hw nx2
      exact lcp_1_0 (cl := classU) (by omega) rfl hw r3 ⟨by omega, by omega⟩ gi ⟨by omega, by omega⟩ gj r2 gj gi r1 gj gi nx2
  have key0 : ∀ m i : Nat, i + m = 3 → lcp_at0 cmpV fewE classU k n s xb eb xf ef xl el k' n' s' xb' eb' xf' ef' xl' el' k2 n2 s2 xb2 eb2 xf2 ef2 xl2 el2 kind i (.bool true) [] := by
    intro m
    induction m with
    | zero =>
      intro i hi
      have := @lcp_0_1 cmpV fewE classU k n s xb eb xf ef xl el k' n' s' xb' eb' xf' ef' xl' el' k2 n2 s2 xb2 eb2 xf2 ef2 xl2 el2 kind (i : Int)
      simp only [beq_self_eq_true] at this
      exact this (by omega) (cls35 kind) (cls34 kind)
    | succ m ih =>
      intro i hi
      have hi3 : i < 3 := by omega
      have nx := ih (i + 1) (by omega)
      rw [← w1 hi3] at nx
      exact lcp_0_0 (by omega) (key1 i hi3 nx 3 0 (by omega))
  cases hw : fewE [valk.val k n s xb eb xf ef xl el, valk.val k' n' s' xb' eb' xf' ef' xl' el', valk.val k2 n2 s2 xb2 eb2 xf2 ef2 xl2 el2] with
  | false => exact lcp_in_1 (cV := cmpV) (cl := classU) hw hf awake30
  | true => exact lcp_in_0 (cV := cmpV) (cl := classU) hw hf awake30 (key0 3 0 (by omega))

end Go.Proofs.Ytbkacmcijimbfaa.ordk
