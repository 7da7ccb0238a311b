/- The document's own By. -/
import Derived.Test.YtlccdfilbiipmaaKvG
import Derived.Test.YtlccdfilbiipmaaKvR
namespace Go.Proofs.Ytlccdfilbiipmaa.ordk
open Go Ytlccdfilbiipmaa.GD valk
set_option linter.unusedVariables false
set_option linter.unusedSimpArgs false
set_option maxRecDepth 100000

theorem cmp_self {a : Cs} (ha : VS a) : cmpV a a = 0 := by
  have := (cmp_R ha ha).2
  omega
/-! ### a row's item -/
def ctOf : Cs → CT
  | [.int _ k, .int _ n, .str s, .slice xb eb _, .slice xf ef _, .slice xl el _] => (k, n, s, xb, eb, xf, ef, xl, el)
  | _ => (0, 0, ByteArray.mk #[], false, [], false, [], false, [])
def valAt (es : Es) (i : Nat) : Cs := match es[i]? with | some c => c | none => zeroV
theorem cells_val (k n : Int) (s : ByteArray) (xb : Bool) (eb : Es) (xf : Bool) (ef : Es) (xl : Bool) (el : Es) : cellsT (ctOf (valk.val k n s xb eb xf ef xl el)) = valk.val k n s xb eb xf ef xl el := rfl
theorem vs_at {es : Es} (h : ∀ r ∈ es, VS r) (i : Nat) : VS (valAt es i) := by
  unfold valAt
  by_cases hi : i < es.length
  · rw [List.getElem?_eq_getElem hi]; exact h _ (List.getElem_mem hi)
  · rw [List.getElem?_eq_none (by omega)]; exact vs_zero
theorem val_lt {es : Es} {i : Nat} (hi : i < es.length) : valAt es i = es[i] := by unfold valAt; rw [List.getElem?_eq_getElem hi]
theorem val_ge {es : Es} {i : Nat} (hi : es.length ≤ i) : valAt es i = zeroV := by unfold valAt; rw [List.getElem?_eq_none hi]
/-! ### By -/
def isDn (ed : Es) (i : Nat) : Bool := match ed[i]? with | some [.bool b] => b | _ => false
def byI (a b d : Es) (i : Nat) : Int := if isDn d i then -cmpV (valAt a i) (valAt b i) else cmpV (valAt a i) (valAt b i)
/-- So many places from one on. -/
def byN (a b d : Es) : Nat → Nat → Int
  | 0, _ => 0
  | m + 1, i => lx (byI a b d i) (byN a b d m (i + 1))
def byE (a b d : Es) : Int := byN a b d (max a.length b.length) 0
theorem wrap_neg {c : Int} (h : R3 c) : IntKind.i64.wrap (0 - c) = -c := by
  rcases h with h | h | h <;> (subst h; decide)
/-! ### the reference's By -/
theorem by41 (xa : Bool) {ea : Es} (xb : Bool) {eb : Es} (xd : Bool) {ed : Es} (ha : ∀ r ∈ ea, VS r) (hb : ∀ r ∈ eb, VS r) (hd : ∀ r ∈ ed, ∃ b, r = [D.bool b]) (la : ea.length ≤ maxLen) (lb : eb.length ≤ maxLen) :
    Ret P T 11 [.slice xa ea none, .slice xb eb none, .slice xd ed none] [] (.int .i64 (byE ea eb ed)) [] := by
  have key : ∀ (m i : Nat), i + m = max ea.length eb.length → br_at0 cmpV xa ea xb eb xd ed i (.int .i64 (byN ea eb ed m i)) [] := by
    intro m
    induction m with
    | zero =>
      intro i hi
      exact br_0_12 (by omega) (by omega)
    | succ m ihm =>
      intro i hi
      have hc := cmp33 (vs_at ha i) (vs_at hb i)
      have hw := wrap_neg (cmp_R (vs_at ha i) (vs_at hb i)).1
      have hnext : br_at0 cmpV xa ea xb eb xd ed (IntKind.i64.wrap ((i : Int) + 1)) (.int .i64 (byN ea eb ed m (i + 1))) [] := by
        rw [up (n := max ea.length eb.length) (by omega) (by omega)]
        exact ihm (i + 1) (by omega)
      show br_at0 cmpV xa ea xb eb xd ed i (.int .i64 (lx (byI ea eb ed i) (byN ea eb ed m (i + 1)))) []
      have gA : i < ea.length → ea[((i : Int)).toNat]? = some (valAt ea i) := fun h => by rw [Int.toNat_natCast, List.getElem?_eq_getElem h, val_lt h]
      have gB : i < eb.length → eb[((i : Int)).toNat]? = some (valAt eb i) := fun h => by rw [Int.toNat_natCast, List.getElem?_eq_getElem h, val_lt h]
      have zA : ¬ i < ea.length → valAt ea i = zeroV := fun h => val_ge (by omega)
      have zB : ¬ i < eb.length → valAt eb i = zeroV := fun h => val_ge (by omega)
      have gD : ∀ b, i < ed.length → ed[i]? = some [D.bool b] → ed[((i : Int)).toNat]? = some [D.bool b] := fun b _ h => by rw [Int.toNat_natCast]; exact h
      unfold byI
      obtain ⟨ak, an, as1, axb, aeb, axf, aef, axl, ael, eA⟩ := (vs_at ha i).get
      obtain ⟨bk, bn, bs, bxb, beb, bxf, bef, bxl, bel, eB⟩ := (vs_at hb i).get
      by_cases hz : cmpV (valAt ea i) (valAt eb i) = 0
      · rw [lx_zero (by split <;> omega)]
        by_cases hA : i < ea.length
        · have g1 := gA hA
          rw [eA] at hc hz g1
          by_cases hB : i < eb.length
          · have g2 := gB hB
            rw [eB] at hc hz g2
            exact br_0_3 (by omega) (by omega) hz hc (by omega) g2 g1 hnext
          · rw [zB hB] at hc hz
            exact br_0_7 (by omega) (by omega) hz hc (by omega) g1 hnext
        · have g2 := gB (by omega)
          rw [zA hA, eB] at hc hz
          rw [eB] at g2
          exact br_0_11 (by omega) (by omega) hz hc (by omega) g2 hnext
      · rw [lx_pos (by split <;> omega)]
        by_cases hdl : i < ed.length
        · obtain ⟨b, hbb⟩ := hd _ (List.getElem_mem hdl)
          have g3 : ed[((i : Int)).toNat]? = some [D.bool b] := by rw [Int.toNat_natCast, List.getElem?_eq_getElem hdl, hbb]
          have hdn : isDn ed i = b := by unfold isDn; rw [List.getElem?_eq_getElem hdl, hbb]
          rw [hdn]
          cases b with
          | true =>
            rw [if_pos rfl, ← hw]
            by_cases hA : i < ea.length
            · have g1 := gA hA
              rw [eA] at hc hz g1 ⊢
              by_cases hB : i < eb.length
              · have g2 := gB hB
                rw [eB] at hc hz g2 ⊢
                exact br_0_0 (by omega) (by omega) hz (by omega) rfl (by omega) g3 hc g2 g1
              · rw [zB hB] at hc hz ⊢
                exact br_0_4 (by omega) (by omega) hz (by omega) rfl (by omega) g3 hc g1
            · have g2 := gB (by omega)
              rw [eB] at g2
              rw [zA hA, eB] at hc hz ⊢
              exact br_0_8 (by omega) (by omega) hz (by omega) rfl (by omega) g3 hc g2
          | false =>
            rw [if_neg (by decide)]
            by_cases hA : i < ea.length
            · have g1 := gA hA
              rw [eA] at hc hz g1 ⊢
              by_cases hB : i < eb.length
              · have g2 := gB hB
                rw [eB] at hc hz g2 ⊢
                exact br_0_1 (by omega) (by omega) hz (by omega) rfl (by omega) g3 hc g2 g1
              · rw [zB hB] at hc hz ⊢
                exact br_0_5 (by omega) (by omega) hz (by omega) rfl (by omega) g3 hc g1
            · have g2 := gB (by omega)
              rw [eB] at g2
              rw [zA hA, eB] at hc hz ⊢
              exact br_0_9 (by omega) (by omega) hz (by omega) rfl (by omega) g3 hc g2
        · have hdn : isDn ed i = false := by unfold isDn; rw [List.getElem?_eq_none (by omega)]
          rw [hdn, if_neg (by decide)]
          by_cases hA : i < ea.length
          · have g1 := gA hA
            rw [eA] at hc hz g1 ⊢
            by_cases hB : i < eb.length
            · have g2 := gB hB
              rw [eB] at hc hz g2 ⊢
              exact br_0_2 (by omega) (by omega) hz (by omega) hc (by omega) g2 g1
            · rw [zB hB] at hc hz ⊢
              exact br_0_6 (by omega) (by omega) hz (by omega) hc (by omega) g1
          · have g2 := gB (by omega)
            rw [eB] at g2
            rw [zA hA, eB] at hc hz ⊢
            exact br_0_10 (by omega) (by omega) hz (by omega) hc (by omega) g2
  exact br_in_0 (by simpa [byE] using key (max ea.length eb.length) 0 (by omega))

end Go.Proofs.Ytlccdfilbiipmaa.ordk
