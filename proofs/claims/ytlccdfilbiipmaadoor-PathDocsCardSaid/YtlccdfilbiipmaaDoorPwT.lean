/- Paths: Get comes to a law. -/
import Derived.Test.YtlccdfilbiipmaaDoorPwQ
import Derived.Test.YtlccdfilbiipmaaDoorPwR
import Derived.Test.YtlccdfilbiipmaaDoorPwS
namespace Go.Proofs.YtlccdfilbiipmaaDoor.ordk
open Go YtlccdfilbiipmaaDoor.GD valk
set_option linter.unusedVariables false
set_option linter.unusedSimpArgs false
set_option maxRecDepth 100000

/-! ### a row's item -/
def ctOf : Cs → CT
  | [.int _ k, .int _ n, .str s, .slice xb eb _, .slice xf ef _, .slice xl el _] => (k, n, s, xb, eb, xf, ef, xl, el)
  | _ => (0, 0, ByteArray.mk #[], false, [], false, [], false, [])
theorem cells_val (k n : Int) (s : ByteArray) (xb : Bool) (eb : Es) (xf : Bool) (ef : Es) (xl : Bool) (el : Es) : cellsT (ctOf (valk.val k n s xb eb xf ef xl el)) = valk.val k n s xb eb xf ef xl el := rfl
theorem cells_of {v : Cs} (hv : VS v) : cellsT (ctOf v) = v := by
  obtain ⟨k, n, s, xb, eb, xf, ef, xl, el, rfl⟩ := hv.get
  rfl

/-! ### a field by its name -/
def getF (nm : ByteArray) : Es → Cs
  | [] => zeroV
  | (.str x :: c) :: t => if x.toList = nm.toList then c else getF nm t
  | _ :: t => getF nm t
def ixF (nm : ByteArray) : Nat → Es → Int
  | _, [] => -1
  | i, (.str x :: c) :: t => if x.toList = nm.toList then (i : Int) else ixF nm (i + 1) t
  | i, _ :: t => ixF nm (i + 1) t
def fldsOf : Cs → Es
  | [_, _, _, _, .slice _ ef _, _] => ef
  | _ => []
def itsOf : Cs → Es
  | [_, _, _, _, _, .slice _ el _] => el
  | _ => []
def getV (v : Cs) (nm : ByteArray) : Cs := if kindOf v = 6 then getF nm (fldsOf v) else zeroV

/-- Rows that are fields. -/
def Flds (ef : Es) : Prop := ∀ r ∈ ef, ∃ nm c, r = D.str nm :: c ∧ nm.size ≤ maxLen ∧ VS c
theorem getF_vs {ef : Es} (h : Flds ef) (nm : ByteArray) : VS (getF nm ef) := by
  induction ef with
  | nil => exact vs_zero
  | cons r t ih =>
    obtain ⟨x, c, rfl, _, hv⟩ := h r (by simp)
    rw [getF]
    split
    · exact hv
    · exact ih (fun r hr => h r (List.mem_cons_of_mem _ hr))
theorem flds_of {v : Cs} (h : VS v) : Flds (fldsOf v) ∧ (fldsOf v).length ≤ maxLen := by
  cases h with
  | mk k n s xb eb xf ef xl el bs hk hn hs hb hb' lb lf ll nb nf nl hf hfv hl =>
    refine ⟨fun r hr => ?_, lf⟩
    obtain ⟨nm, c, rfl, hnm⟩ := hf r hr
    exact ⟨nm, c, rfl, hnm, hfv nm c hr⟩
theorem getV_vs {v : Cs} (h : VS v) (nm : ByteArray) : VS (getV v nm) := by
  unfold getV
  split
  · exact getF_vs (flds_of h).1 nm
  · exact vs_zero
theorem fld_at {ef : Es} (h : Flds ef) {i : Nat} (hi : i < ef.length) : ∃ nm ck cn cs yb cb yf cf yl cl, ef[i] = D.str nm :: valk.val ck cn cs yb cb yf cf yl cl ∧ ef[((i : Int)).toNat]? = some (D.str nm :: valk.val ck cn cs yb cb yf cf yl cl) := by
  obtain ⟨nm, c, e, _, hv⟩ := h ef[i] (List.getElem_mem hi)
  obtain ⟨ck, cn, cs, yb, cb, yf, cf, yl, cl, rfl⟩ := hv.get
  exact ⟨nm, ck, cn, cs, yb, cb, yf, cf, yl, cl, e, by rw [Int.toNat_natCast, List.getElem?_eq_getElem hi, e]⟩

theorem ix46 (xf : Bool) {ef : Es} (h : Flds ef) (hl : ef.length ≤ maxLen) (nm : ByteArray) : Ret P T 46 [.slice xf ef none, .func (.func 47) [] [.sptr [.str nm]]] [] (.int .i64 (ixF nm 0 ef)) [] := by
  have key : ∀ (m i : Nat), i + m = ef.length → bix_at0 (fun _ _ => 0) xf ef nm i (.int .i64 (ixF nm i (ef.drop i))) [] := by
    intro m
    induction m with
    | zero =>
      intro i hi
      rw [List.drop_of_length_le (by omega), ixF]
      exact bix_0_2 (by omega)
    | succ m ih =>
      intro i hi
      have hlt : i < ef.length := by omega
      obtain ⟨x, ck, cn, cs, yb, cb, yf, cf, yl, cl, e, hg⟩ := fld_at h hlt
      rw [List.drop_eq_getElem_cons hlt, e, ixF]
      by_cases hx : x.toList = nm.toList
      · rw [if_pos hx]
        exact bix_0_0 (by omega) hx (by omega) hg
      · rw [if_neg hx]
        have g := ih (i + 1) (by omega)
        rw [← up hlt hl] at g
        exact bix_0_1 (by omega) hx (by omega) hg g
  have g := key ef.length 0 (by omega)
  rw [List.drop_zero] at g
  exact bix_in_0 g
theorem ixF_get {nm : ByteArray} : ∀ (ef : Es) (i : Nat), Flds ef → (ixF nm i ef < 0 ∧ ixF nm i ef = -1 ∧ getF nm ef = zeroV) ∨ (∃ j : Nat, ixF nm i ef = ((i + j : Nat) : Int) ∧ j < ef.length ∧ ∃ x, ef[j]? = some (D.str x :: getF nm ef))
  | [], i, _ => .inl ⟨by rw [ixF]; omega, by rw [ixF], rfl⟩
  | r :: t, i, h => by
    obtain ⟨x, c, rfl, _, hv⟩ := h r (by simp)
    rw [ixF, getF]
    by_cases hx : x.toList = nm.toList
    · rw [if_pos hx, if_pos hx]
      exact .inr ⟨0, by simp, by simp, x, rfl⟩
    · rw [if_neg hx, if_neg hx]
      rcases ixF_get t (i + 1) (fun r hr => h r (List.mem_cons_of_mem _ hr)) with h1 | ⟨j, h1, h2, x', h3⟩
      · exact .inl h1
      · exact .inr ⟨j + 1, by rw [h1]; omega, by simp; omega, x', by simpa using h3⟩
theorem at39 {v : Cs} (hv : VS v) (nm : ByteArray) : Ret P T 39 [.agg v, .str nm] [] (.int .i64 (if kindOf v = 6 then ixF nm 0 (fldsOf v) else -1)) [] := by
  have hf := flds_of hv
  obtain ⟨k, n, s, xb, eb, xf, ef, xl, el, rfl⟩ := hv.get
  show Ret P T 39 _ _ (.int .i64 (if k = 6 then ixF nm 0 ef else -1)) _
  by_cases hk : k = 6
  · rw [if_pos hk]
    exact bat_in_1 (ix := fun es nm => ixF nm 0 es) hk (ix46 xf hf.1 hf.2 nm)
  · rw [if_neg hk]
    exact bat_in_0 (ix := fun es nm => ixF nm 0 es) hk
theorem get30 {v : Cs} (hv : VS v) (nm : ByteArray) : Ret P T 30 [.agg v, .str nm] [] (.agg (getV v nm)) [] := by
  have h39 := at39 hv nm
  have hf := flds_of hv
  obtain ⟨k, n, s, xb, eb, xf, ef, xl, el, rfl⟩ := hv.get
  change Flds ef ∧ ef.length ≤ maxLen at hf
  have hgv : getV (valk.val k n s xb eb xf ef xl el) nm = if k = 6 then getF nm ef else zeroV := rfl
  change Ret P T 39 _ _ (.int .i64 (if k = 6 then ixF nm 0 ef else -1)) _ at h39
  rw [hgv]
  by_cases hk : k = 6
  · rw [if_pos hk]
    rcases ixF_get (nm := nm) ef 0 hf.1 with ⟨h1, _, h3⟩ | ⟨j, h1, h2, x, h3⟩
    · rw [h3]
      exact bget_in_0 (ix := fun es nm => ixF nm 0 es) (by rw [if_pos hk]; exact h1) h39
    · have hg := getF_vs hf.1 nm
      obtain ⟨ck, cn, cs, yb, cb, yf, cf, yl, cl, he⟩ := hg.get
      rw [he] at h3 ⊢
      have e := @bget_in_1 (fun es nm => ixF nm 0 es) k n s xb eb xf ef xl el nm
      simp only [hk, if_true, h1] at e h39
      rw [hk]
      apply e
      all_goals first | exact h39 | omega | (rw [Int.toNat_natCast, Nat.zero_add]; exact h3)
  · rw [if_neg hk]
    exact bget_in_0 (ix := fun es nm => ixF nm 0 es) (by rw [if_neg hk]; decide) h39
theorem field22 {v : Cs} (hv : VS v) (nm : ByteArray) : Ret P T 22 [.agg v, .str nm] [] (.agg (getV v nm)) [] := by
  have hf := flds_of hv
  obtain ⟨k, n, s, xb, eb, xf, ef, xl, el, rfl⟩ := hv.get
  change Flds ef ∧ ef.length ≤ maxLen at hf
  have hgv : getV (valk.val k n s xb eb xf ef xl el) nm = if k = 6 then getF nm ef else zeroV := rfl
  rw [hgv]
  refine rfi_in_0 (ix := fun _ _ => 0) ?_
  by_cases hk : k = 6
  · rw [if_pos hk]
    have key : ∀ (m i : Nat), i + m = ef.length → rfi_at0 (fun _ _ => 0) k n s xb eb xf ef xl el nm i (.agg (getF nm (ef.drop i))) [] := by
      intro m
      induction m with
      | zero =>
        intro i hi
        rw [List.drop_of_length_le (by omega), getF]
        exact rfi_0_3 (by have : ¬ ((i : Int) < (ef.length : Int)) := by omega
                          exact this)
      | succ m ih =>
        intro i hi
        have hlt : i < ef.length := by omega
        obtain ⟨x, ck, cn, cs, yb, cb, yf, cf, yl, cl, e, hg⟩ := fld_at hf.1 hlt
        rw [List.drop_eq_getElem_cons hlt, e, getF]
        have hlt' : (i : Int) < (ef.length : Int) := by omega
        by_cases hx : x.toList = nm.toList
        · rw [if_pos hx]
          exact rfi_0_0 hlt' hk hx (by omega) hg hg
        · rw [if_neg hx]
          have g := ih (i + 1) (by omega)
          rw [← up hlt hf.2] at g
          exact rfi_0_1 hlt' hk hx (by omega) hg g
    have g := key ef.length 0 (by omega)
    rw [List.drop_zero] at g
    exact g
  · rw [if_neg hk]
    by_cases h0 : (0 : Int) < (ef.length : Int)
    · exact rfi_0_2 h0 hk
    · exact rfi_0_3 h0

end Go.Proofs.YtlccdfilbiipmaaDoor.ordk
