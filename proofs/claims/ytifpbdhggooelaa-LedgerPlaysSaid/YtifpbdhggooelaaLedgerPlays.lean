/- PROVED: the law LedgerPlays hands back true, whatever the budget and the deeds. No conditions. -/
import Derived.Test.YtifpbdhggooelaaLedgerKit
import Derived.Test.YtifpbdhggooelaaGd30
namespace Go.Proofs.Ytifpbdhggooelaa.ledgerPlays
open Go Ytifpbdhggooelaa.GD Ytifpbdhggooelaa.ledger
set_option linter.unusedVariables false

noncomputable def cf (a n : Int) : Cf := { P := Try.prog, T := tyOf Try.prog, hint := fun f r o => match f, r, o with | 3, 11, 2 => .c [.int .i64 a, .int .i64 n] | 3, 12, 2 => .c [.int .i64 a, .int .i64 n] | _, _, _ => .sym, room := fun _ _ => 2, meth := fun _ _ => none, ct := ct, stop := true }
noncomputable def bodyOf (f : Nat) : Code := match Try.prog.funcs[f]? with | some fn => (match fn.body with | some c => c | none => .skip) | none => .skip
noncomputable def fnOf (f : Nat) : Func := match Try.prog.funcs[f]? with | some fn => fn | none => default
noncomputable def rows (l : List (Int × Int)) : List (List D) := l.map fun p => [.int .i64 p.1, .int .i64 p.2]
noncomputable def s0 : Option RR := runE (cf 0 0) (callE (cf 0 0) 100000 10) 3 100000 (.code (bodyOf 3)) [] (beginE (fnOf 3) [.int .i64 0, .slice false [] none] []) (.path [false, false, false]) []
noncomputable def loopC : Code := stC s0
noncomputable def loopK : List It := stK s0
noncomputable def inv (b : Int) (nn : Bool) (l : List (Int × Int)) (i B h mo : Int) : St := ⟨[.int .i64 b, .slice nn (rows l) none, .undef, .undef, .undef, .ptr 0 0 0, .ptr 1 0 0, .int .i64 i] ++ List.replicate 88 .undef, [some (.row 3 [[.int .i64 B, .int .i64 h, .int .i64 mo]]), some (.row 3 [[.int .i64 B, .int .i64 h, .int .i64 mo]])]⟩
noncomputable def run (b : Int) (nn : Bool) (l : List (Int × Int)) (i B h mo a n : Int) (or : GD.Or) := runE (cf a n) (callE (cf a n) 100000 10) 3 100000 (.code loopC) [] (inv b nn l i B h mo) or []
theorem p3b_0 (b : Int) (nn : Bool) (l : List (Int × Int)) (i B h mo a n : Int) : cutF [0, 1, 5, 6, 7] 2 (run b nn l i B h mo a n (.path [true, true, true, true, true, true, true, true, true, true, false, true, true, true, true, true, true, true, false, true, true, true, true, true, true, true, false, false])) = some (.normal, (inv b nn l (IntKind.i64.wrap (i + 1)) B (tH h n) (tM h mo n)).env, (inv b nn l (IntKind.i64.wrap (i + 1)) B (tH h n) (tM h mo n)).H,
    [(B != B) = false, (tM h mo n != tM h mo n) = false, ((tM h mo n != tM h mo n) == false) = true, ((tM h mo n != tM h mo n) == false) = true, ((tM h mo n != tM h mo n) == false) = true, ((tM h mo n != tM h mo n) == false) = true, ((tM h mo n != tM h mo n) == false) = true, ((tM h mo n != tM h mo n) == false) = true, ((tM h mo n != tM h mo n) == false) = true, (tH h n != tH h n) = false, ((tH h n != tH h n) == false) = true, ((tH h n != tH h n) == false) = true, ((tH h n != tH h n) == false) = true, ((tH h n != tH h n) == false) = true, ((tH h n != tH h n) == false) = true, ((tH h n != tH h n) == false) = true, ((tH h n != tH h n) == false) = true, (!tOk h n == tOk h n) = false, ((!tOk h n == tOk h n) == false) = true, ((!tOk h n == tOk h n) == false) = true, ((!tOk h n == tOk h n) == false) = true, ((!tOk h n == tOk h n) == false) = true, ((!tOk h n == tOk h n) == false) = true, ((!tOk h n == tOk h n) == false) = true, ((!tOk h n == tOk h n) == false) = true, ledger.Good B h mo n, ledger.Good B h mo n, (a == 0) = true, (a == 0) = true, 0 ≤ i, (rows l)[i.toNat]? = some [D.int IntKind.i64 a, D.int IntKind.i64 n], 0 ≤ i, (rows l)[i.toNat]? = some [D.int IntKind.i64 a, D.int IntKind.i64 n], decide (i < ↑(rows l).length) = true]) := by kernel_rfl

theorem p3b_1 (b : Int) (nn : Bool) (l : List (Int × Int)) (i B h mo a n : Int) : cutF [0, 1, 5, 6, 7] 2 (run b nn l i B h mo a n (.path [true, false, true, true, true, true, true, true, true, true, true, false, true, true, true, true, true, true, true, false, true, true, true, true, true, true, true, false, false])) = some (.normal, (inv b nn l (IntKind.i64.wrap (i + 1)) B (tH h n) (tM h mo n)).env, (inv b nn l (IntKind.i64.wrap (i + 1)) B (tH h n) (tM h mo n)).H,
    [(B != B) = false, (tM h mo n != tM h mo n) = false, ((tM h mo n != tM h mo n) == false) = true, ((tM h mo n != tM h mo n) == false) = true, ((tM h mo n != tM h mo n) == false) = true, ((tM h mo n != tM h mo n) == false) = true, ((tM h mo n != tM h mo n) == false) = true, ((tM h mo n != tM h mo n) == false) = true, ((tM h mo n != tM h mo n) == false) = true, (tH h n != tH h n) = false, ((tH h n != tH h n) == false) = true, ((tH h n != tH h n) == false) = true, ((tH h n != tH h n) == false) = true, ((tH h n != tH h n) == false) = true, ((tH h n != tH h n) == false) = true, ((tH h n != tH h n) == false) = true, ((tH h n != tH h n) == false) = true, (!tOk h n == tOk h n) = false, ((!tOk h n == tOk h n) == false) = true, ((!tOk h n == tOk h n) == false) = true, ((!tOk h n == tOk h n) == false) = true, ((!tOk h n == tOk h n) == false) = true, ((!tOk h n == tOk h n) == false) = true, ((!tOk h n == tOk h n) == false) = true, ((!tOk h n == tOk h n) == false) = true, ledger.Good B h mo n, ledger.Good B h mo n, (a == 1) = true, (a == 1) = true, (a == 0) = false, 0 ≤ i, (rows l)[i.toNat]? = some [D.int IntKind.i64 a, D.int IntKind.i64 n], 0 ≤ i, (rows l)[i.toNat]? = some [D.int IntKind.i64 a, D.int IntKind.i64 n], decide (i < ↑(rows l).length) = true]) := by kernel_rfl

theorem p3b_2 (b : Int) (nn : Bool) (l : List (Int × Int)) (i B h mo a n : Int) : cutF [0, 1, 5, 6, 7] 2 (run b nn l i B h mo a n (.path [true, false, false, true, true, true, true, true, true, true, true, false, true, true, true, true, true, true, true, false, true, true, true, true, true, true, true, false, false])) = some (.normal, (inv b nn l (IntKind.i64.wrap (i + 1)) B (tH h n) (tM h mo n)).env, (inv b nn l (IntKind.i64.wrap (i + 1)) B (tH h n) (tM h mo n)).H,
    [(B != B) = false, (tM h mo n != tM h mo n) = false, ((tM h mo n != tM h mo n) == false) = true, ((tM h mo n != tM h mo n) == false) = true, ((tM h mo n != tM h mo n) == false) = true, ((tM h mo n != tM h mo n) == false) = true, ((tM h mo n != tM h mo n) == false) = true, ((tM h mo n != tM h mo n) == false) = true, ((tM h mo n != tM h mo n) == false) = true, (tH h n != tH h n) = false, ((tH h n != tH h n) == false) = true, ((tH h n != tH h n) == false) = true, ((tH h n != tH h n) == false) = true, ((tH h n != tH h n) == false) = true, ((tH h n != tH h n) == false) = true, ((tH h n != tH h n) == false) = true, ((tH h n != tH h n) == false) = true, (!tOk h n == tOk h n) = false, ((!tOk h n == tOk h n) == false) = true, ((!tOk h n == tOk h n) == false) = true, ((!tOk h n == tOk h n) == false) = true, ((!tOk h n == tOk h n) == false) = true, ((!tOk h n == tOk h n) == false) = true, ((!tOk h n == tOk h n) == false) = true, ((!tOk h n == tOk h n) == false) = true, ledger.Good B h mo n, ledger.Good B h mo n, (a == 2) = true, (a == 1) = false, (a == 0) = false, 0 ≤ i, (rows l)[i.toNat]? = some [D.int IntKind.i64 a, D.int IntKind.i64 n], 0 ≤ i, (rows l)[i.toNat]? = some [D.int IntKind.i64 a, D.int IntKind.i64 n], decide (i < ↑(rows l).length) = true]) := by kernel_rfl

theorem p3b_3 (b : Int) (nn : Bool) (l : List (Int × Int)) (i B h mo a n : Int) : cutF [0, 1, 5, 6, 7] 2 (run b nn l i B h mo a n (.path [true, false, false, false, true, true, true, true, true, true, true, true, true, false, true, true, true, true, true, true, true, false, true, true, true, true, true, true, true, false, false])) = some (.normal, (inv b nn l (IntKind.i64.wrap (i + 1)) B (gH h n) mo).env, (inv b nn l (IntKind.i64.wrap (i + 1)) B (gH h n) mo).H,
    [(B != B) = false, (mo != mo) = false, ((mo != mo) == false) = true, ((mo != mo) == false) = true, ((mo != mo) == false) = true, ((mo != mo) == false) = true, ((mo != mo) == false) = true, ((mo != mo) == false) = true, ((mo != mo) == false) = true, (gH h n != gH h n) = false, ((gH h n != gH h n) == false) = true, ((gH h n != gH h n) == false) = true, ((gH h n != gH h n) == false) = true, ((gH h n != gH h n) == false) = true, ((gH h n != gH h n) == false) = true, ((gH h n != gH h n) == false) = true, ((gH h n != gH h n) == false) = true, (!gOk h n == gOk h n) = false, ((!gOk h n == gOk h n) == false) = true, ((!gOk h n == gOk h n) == false) = true, ((!gOk h n == gOk h n) == false) = true, ((!gOk h n == gOk h n) == false) = true, ((!gOk h n == gOk h n) == false) = true, ((!gOk h n == gOk h n) == false) = true, ((!gOk h n == gOk h n) == false) = true, ledger.Good B h mo n, ledger.Good B h mo n, (a == 3) = true, (a == 3) = true, (a == 2) = false, (a == 1) = false, (a == 0) = false, 0 ≤ i, (rows l)[i.toNat]? = some [D.int IntKind.i64 a, D.int IntKind.i64 n], 0 ≤ i, (rows l)[i.toNat]? = some [D.int IntKind.i64 a, D.int IntKind.i64 n], decide (i < ↑(rows l).length) = true]) := by kernel_rfl

theorem p3b_4 (b : Int) (nn : Bool) (l : List (Int × Int)) (i B h mo a n : Int) : cutF [0, 1, 5, 6, 7] 2 (run b nn l i B h mo a n (.path [true, false, false, false, false, true, true, true, true, true, true, true, true, false, true, true, true, true, true, true, true, false, true, true, true, true, true, true, true, false, false])) = some (.normal, (inv b nn l (IntKind.i64.wrap (i + 1)) B (gH h n) mo).env, (inv b nn l (IntKind.i64.wrap (i + 1)) B (gH h n) mo).H,
    [(B != B) = false, (mo != mo) = false, ((mo != mo) == false) = true, ((mo != mo) == false) = true, ((mo != mo) == false) = true, ((mo != mo) == false) = true, ((mo != mo) == false) = true, ((mo != mo) == false) = true, ((mo != mo) == false) = true, (gH h n != gH h n) = false, ((gH h n != gH h n) == false) = true, ((gH h n != gH h n) == false) = true, ((gH h n != gH h n) == false) = true, ((gH h n != gH h n) == false) = true, ((gH h n != gH h n) == false) = true, ((gH h n != gH h n) == false) = true, ((gH h n != gH h n) == false) = true, (!gOk h n == gOk h n) = false, ((!gOk h n == gOk h n) == false) = true, ((!gOk h n == gOk h n) == false) = true, ((!gOk h n == gOk h n) == false) = true, ((!gOk h n == gOk h n) == false) = true, ((!gOk h n == gOk h n) == false) = true, ((!gOk h n == gOk h n) == false) = true, ((!gOk h n == gOk h n) == false) = true, ledger.Good B h mo n, ledger.Good B h mo n, (a == 4) = true, (a == 3) = false, (a == 2) = false, (a == 1) = false, (a == 0) = false, 0 ≤ i, (rows l)[i.toNat]? = some [D.int IntKind.i64 a, D.int IntKind.i64 n], 0 ≤ i, (rows l)[i.toNat]? = some [D.int IntKind.i64 a, D.int IntKind.i64 n], decide (i < ↑(rows l).length) = true]) := by kernel_rfl

theorem p3b_5 (b : Int) (nn : Bool) (l : List (Int × Int)) (i B h mo a n : Int) : cutF [0, 1, 5, 6, 7] 2 (run b nn l i B h mo a n (.path [true, false, false, false, false, false, true, true, true, true, true, true, true, true, false, true, true, true, true, true, true, true, false, true, true, true, true, true, true, true, false, false])) = some (.normal, (inv b nn l (IntKind.i64.wrap (i + 1)) B h mo).env, (inv b nn l (IntKind.i64.wrap (i + 1)) B h mo).H,
    [(B != B) = false, (mo != mo) = false, ((mo != mo) == false) = true, ((mo != mo) == false) = true, ((mo != mo) == false) = true, ((mo != mo) == false) = true, ((mo != mo) == false) = true, ((mo != mo) == false) = true, ((mo != mo) == false) = true, (h != h) = false, ((h != h) == false) = true, ((h != h) == false) = true, ((h != h) == false) = true, ((h != h) == false) = true, ((h != h) == false) = true, ((h != h) == false) = true, ((h != h) == false) = true, (!fOk B h n == fOk B h n) = false, ((!fOk B h n == fOk B h n) == false) = true, ((!fOk B h n == fOk B h n) == false) = true, ((!fOk B h n == fOk B h n) == false) = true, ((!fOk B h n == fOk B h n) == false) = true, ((!fOk B h n == fOk B h n) == false) = true, ((!fOk B h n == fOk B h n) == false) = true, ((!fOk B h n == fOk B h n) == false) = true, ledger.Good B h mo n, ledger.Good B h mo n, (a == 5) = true, (a == 4) = false, (a == 3) = false, (a == 2) = false, (a == 1) = false, (a == 0) = false, 0 ≤ i, (rows l)[i.toNat]? = some [D.int IntKind.i64 a, D.int IntKind.i64 n], 0 ≤ i, (rows l)[i.toNat]? = some [D.int IntKind.i64 a, D.int IntKind.i64 n], decide (i < ↑(rows l).length) = true]) := by kernel_rfl

theorem p3b_6 (b : Int) (nn : Bool) (l : List (Int × Int)) (i B h mo a n : Int) : cutF [0, 1, 5, 6, 7] 2 (run b nn l i B h mo a n (.path [true, false, false, false, false, false, false, true, true, true, true, true, true, true, false, true, true, true, true, true, true, true, false, true, true, true, true, true, true, true, false, false])) = some (.normal, (inv b nn l (IntKind.i64.wrap (i + 1)) B h mo).env, (inv b nn l (IntKind.i64.wrap (i + 1)) B h mo).H,
    [(B != B) = false, (mo != mo) = false, ((mo != mo) == false) = true, ((mo != mo) == false) = true, ((mo != mo) == false) = true, ((mo != mo) == false) = true, ((mo != mo) == false) = true, ((mo != mo) == false) = true, ((mo != mo) == false) = true, (h != h) = false, ((h != h) == false) = true, ((h != h) == false) = true, ((h != h) == false) = true, ((h != h) == false) = true, ((h != h) == false) = true, ((h != h) == false) = true, ((h != h) == false) = true, (!true) = false, ((!true) == false) = true, ((!true) == false) = true, ((!true) == false) = true, ((!true) == false) = true, ((!true) == false) = true, ((!true) == false) = true, ((!true) == false) = true, (a == 5) = false, (a == 4) = false, (a == 3) = false, (a == 2) = false, (a == 1) = false, (a == 0) = false, 0 ≤ i, (rows l)[i.toNat]? = some [D.int IntKind.i64 a, D.int IntKind.i64 n], 0 ≤ i, (rows l)[i.toNat]? = some [D.int IntKind.i64 a, D.int IntKind.i64 n], decide (i < ↑(rows l).length) = true]) := by kernel_rfl

theorem p3b_7 (b : Int) (nn : Bool) (l : List (Int × Int)) (i B h mo a n : Int) : cutF [0, 1, 5, 6, 7] 2 (run b nn l i B h mo a n (.path [false])) = some (.exit 0, (inv b nn l i B h mo).env, (inv b nn l i B h mo).H,
    [decide (i < ↑(rows l).length) = false]) := by kernel_rfl

noncomputable def run0 (b : Int) (nn : Bool) (l : List (Int × Int)) (or : GD.Or) := runE (cf 0 0) (callE (cf 0 0) 100000 10) 3 100000 (.code (bodyOf 3)) [] (beginE (fnOf 3) [.int .i64 b, .slice nn (rows l) none] []) or []
noncomputable def run2 (b : Int) (nn : Bool) (l : List (Int × Int)) (i B h mo : Int) (or : GD.Or) := runE (cf 0 0) (callE (cf 0 0) 100000 10) 3 100000 (.done (.exit 0)) loopK (inv b nn l i B h mo) or []
def yes : List D := List.replicate 4 .undef ++ [.bool true] ++ List.replicate 91 .undef
def cl (b : Int) : Int := if 16777216 < if 0 > b then 0 else b then 16777216 else if 0 > b then 0 else b

theorem p3a_0 (b : Int) (nn : Bool) (l : List (Int × Int)) : cutF [4] 0 (run0 b nn l (.path [false, true])) = some (.ret, yes, [], [decide (((rows l).length : Int) > 200) = true, (!true) = false]) := by kernel_rfl
theorem p3a_1 (b : Int) (nn : Bool) (l : List (Int × Int)) : cutS [0, 1, 5, 6, 7] 2 (run0 b nn l (.path [false, false, false])) = some (loopC, loopK, (inv b nn l 0 (cl b) 0 0).env, (inv b nn l 0 (cl b) 0 0).H,
    [false = false, decide (((rows l).length : Int) > 200) = false, (!true) = false]) := by kernel_rfl
theorem p3e_0 (b : Int) (nn : Bool) (l : List (Int × Int)) (i B h mo : Int) : cutF [4] 0 (run2 b nn l i B h mo (.path [])) = some (.ret, yes, [], []) := by kernel_rfl

theorem cfOk (a n : Int) : CfOk (cf a n) where
  hT := fun _ _ h => h
  hm := by kernel_rfl
  meth := fun _ _ _ h => by simp only [cf] at h; cases h
  ct := ct_ok

theorem rows_get {l : List (Int × Int)} {i : Nat} (h : i < l.length) : (rows l)[i]? = some [.int .i64 (l[i]).1, .int .i64 (l[i]).2] := by
  simp [rows, List.getElem?_map, List.getElem?_eq_getElem h]

/-- One round. -/
theorem round (b : Int) (nn : Bool) (l : List (Int × Int)) (i : Nat) (B h mo : Int) (hi : i < l.length) (hl : l.length ≤ 200) (hg : ∀ n, -9223372036854775808 ≤ n → n ≤ 9223372036854775807 → ledger.Good B h mo n)
    (hn : ∀ p ∈ l, -9223372036854775808 ≤ p.2 ∧ p.2 ≤ 9223372036854775807) :
    ∃ h' mo', (∀ n, -9223372036854775808 ≤ n → n ≤ 9223372036854775807 → ledger.Good B h' mo' n) ∧
      RoadOk c0.P c0.T 0 (.code loopC) [] (inv b nn l i B h mo) .normal [0, 1, 5, 6, 7] 2 (inv b nn l (i + 1 : Nat) B h' mo').env (inv b nn l (i + 1 : Nat) B h' mo').H := by
  obtain ⟨h1, h2⟩ := hn l[i] (List.getElem_mem hi)
  have g := hg _ h1 h2
  have hrow := rows_get hi
  generalize (l[i]).1 = a at *
  generalize (l[i]).2 = n at *
  have hw : IntKind.i64.wrap ((i : Int) + 1) = ((i + 1 : Nat) : Int) := by rw [wrap_i64 (by omega)]; omega
  have hlen : ((i : Int) < ((rows l).length : Int)) := by simp [rows]; omega
  have key : ∀ {or : GD.Or} {h' mo' : Int} {cs : List Prop}, cutF [0, 1, 5, 6, 7] 2 (run b nn l i B h mo a n or) = some (.normal, (inv b nn l (IntKind.i64.wrap ((i : Int) + 1)) B h' mo').env, (inv b nn l (IntKind.i64.wrap ((i : Int) + 1)) B h' mo').H, cs) →
      (∀ c ∈ cs, c) → (∀ n, -9223372036854775808 ≤ n → n ≤ 9223372036854775807 → ledger.Good B h' mo' n) →
      ∃ h' mo', (∀ n, -9223372036854775808 ≤ n → n ≤ 9223372036854775807 → ledger.Good B h' mo' n) ∧
        RoadOk c0.P c0.T 0 (.code loopC) [] (inv b nn l i B h mo) .normal [0, 1, 5, 6, 7] 2 (inv b nn l (i + 1 : Nat) B h' mo').env (inv b nn l (i + 1 : Nat) B h' mo').H := by
    intro or h' mo' cs hr hc hgood
    have e := road_fin (n := 0) (cfOk a n) hr hc
    rw [hw] at e
    exact ⟨h', mo', hgood, e⟩
  have gt : ∀ m, -9223372036854775808 ≤ m → m ≤ 9223372036854775807 → ledger.Good B (tH h n) (tM h mo n) m := by
    intro m x y
    obtain ⟨b0, b1, a0, a1, m0, m1, n0, n1⟩ := g
    by_cases e : tOk h n = true
    · have e' := e
      simp only [tOk, decide_eq_true_eq] at e'
      rw [show tH h n = h + n by simp [tH, e], show tM h mo n = (if h + n > mo then h + n else mo) by simp [tM, e]]
      refine ⟨b0, b1, by omega, by omega, ?_, ?_, x, y⟩ <;> split <;> omega
    · have e' : tOk h n = false := by simpa using e
      rw [show tH h n = h by simp [tH, e'], show tM h mo n = mo by simp [tM, e']]
      exact ⟨b0, b1, a0, a1, m0, m1, x, y⟩
  have gg : ∀ m, -9223372036854775808 ≤ m → m ≤ 9223372036854775807 → ledger.Good B (gH h n) mo m := by
    intro m x y
    obtain ⟨b0, b1, a0, a1, m0, m1, n0, n1⟩ := g
    by_cases e : gOk h n = true
    · have e' := e
      simp only [gOk, decide_eq_true_eq] at e'
      rw [show gH h n = h - n by simp [gH, e]]
      exact ⟨b0, b1, by omega, by omega, m0, m1, x, y⟩
    · have e' : gOk h n = false := by simpa using e
      rw [show gH h n = h by simp [gH, e']]
      exact ⟨b0, b1, a0, a1, m0, m1, x, y⟩
  by_cases k0 : a = 0
  · have k' := k0
    subst k'
    exact key (p3b_0 b nn l i B h mo 0 n) (by simp only [all_cons, all_nil]; simp [g, hrow, hlen]) gt
  by_cases k1 : a = 1
  · have k' := k1
    subst k'
    exact key (p3b_1 b nn l i B h mo 1 n) (by simp only [all_cons, all_nil]; simp [g, hrow, hlen]) gt
  by_cases k2 : a = 2
  · have k' := k2
    subst k'
    exact key (p3b_2 b nn l i B h mo 2 n) (by simp only [all_cons, all_nil]; simp [g, hrow, hlen]) gt
  by_cases k3 : a = 3
  · have k' := k3
    subst k'
    exact key (p3b_3 b nn l i B h mo 3 n) (by simp only [all_cons, all_nil]; simp [g, hrow, hlen]) gg
  by_cases k4 : a = 4
  · have k' := k4
    subst k'
    exact key (p3b_4 b nn l i B h mo 4 n) (by simp only [all_cons, all_nil]; simp [g, hrow, hlen]) gg
  by_cases k5 : a = 5
  · have k' := k5
    subst k'
    exact key (p3b_5 b nn l i B h mo 5 n) (by simp only [all_cons, all_nil]; simp [g, hrow, hlen]) hg
  exact key (p3b_6 b nn l i B h mo a n) (by simp only [all_cons, all_nil]; simp [hrow, hlen, k0, k1, k2, k3, k4, k5]) hg

theorem ran : runsK (.exit 0) loopK = true := by kernel_rfl

theorem get_yes : yes.getD 4 .undef = .bool true := by kernel_rfl

/-- All rounds, and what is behind them. -/
theorem rounds (b : Int) (nn : Bool) (l : List (Int × Int)) (hl : l.length ≤ 200) (hn : ∀ p ∈ l, -9223372036854775808 ≤ p.2 ∧ p.2 ≤ 9223372036854775807) :
    ∀ (m i : Nat) (B h mo : Int), i + m = l.length → (∀ n, -9223372036854775808 ≤ n → n ≤ 9223372036854775807 → ledger.Good B h mo n) →
      ∃ s2, Ev c0.P c0.T (.code 0 (.loop loopC) (inv b nn l i B h mo) (.exit 0) s2) ∧ RestOk c0.P c0.T 0 (.exit 0) loopK s2 .ret [4] 0 yes []
  | 0, i, B, h, mo, hi, _ => by
    have hlen : ¬ ((i : Int) < ((rows l).length : Int)) := by simp [rows]; omega
    have e := road_fin (n := 0) (cfOk 0 0) (p3b_7 b nn l i B h mo 0 0) (by simp only [all_cons, all_nil]; simp [hlen])
    exact loop_left (cfOk 0 0) e (by simp) (Nat.zero_le _) ran (p3e_0 b nn l i B h mo) (by simp)
  | m + 1, i, B, h, mo, hi, hg => by
    obtain ⟨h', mo', g', e1⟩ := round b nn l i B h mo (by omega) hl hg hn
    obtain ⟨s2, f1, f2⟩ := rounds b nn l hl hn m (i + 1) B h' mo' (by omega) g'
    exact ⟨s2, loop_again e1 (Nat.zero_le _) f1, f2⟩

theorem body_ok : Try.prog.funcs[3]? = some (fnOf 3) := by kernel_rfl
theorem code_ok : (fnOf 3).body = some (bodyOf 3) := by kernel_rfl
theorem name_ok : ((fnOf 3).name == "runtime.NumGoroutine") = false := by kernel_rfl
theorem res_ok : (fnOf 3).results = #[.tmp 4] := by kernel_rfl

/-- The law, of any budget and deeds. -/
theorem law (b : Int) (nn : Bool) (l : List (Int × Int)) (hn : ∀ p ∈ l, -9223372036854775808 ≤ p.2 ∧ p.2 ≤ 9223372036854775807) :
    ∃ H1, Ev c0.P c0.T (.call 3 [.int .i64 b, .slice nn (rows l) none] [] (.bool true) H1) := by
  have fin : RoadOk c0.P c0.T 0 (.code (bodyOf 3)) [] (beginE (fnOf 3) [.int .i64 b, .slice nn (rows l) none] []) .ret [4] 0 yes [] →
      ∃ H1, Ev c0.P c0.T (.call 3 [.int .i64 b, .slice nn (rows l) none] [] (.bool true) H1) := by
    intro e1
    have := call_road (H0 := []) body_ok code_ok name_ok (.inr rfl) res_ok rfl e1
    rwa [get_yes] at this
  by_cases hl : l.length ≤ 200
  · have hlen : ¬ (((rows l).length : Int) > 200) := by simp [rows]; omega
    have hg : ∀ n, -9223372036854775808 ≤ n → n ≤ 9223372036854775807 → ledger.Good (cl b) 0 0 n := fun n x y => by
      refine ⟨?_, ?_, by omega, by omega, by omega, by omega, x, y⟩ <;> unfold cl <;> split <;> (try split) <;> omega
    obtain ⟨s2, f1, f2⟩ := rounds b nn l hl hn l.length 0 (cl b) 0 0 (by omega) hg
    refine fin (road_loop (n := 0) (cfOk 0 0) (p3a_1 b nn l) ?_ (Nat.zero_le _) f1 f2)
    simp only [all_cons, all_nil]
    simp [hlen]
  · have hlen : ((rows l).length : Int) > 200 := by simp [rows]; omega
    exact fin (road_fin (n := 0) (cfOk 0 0) (p3a_0 b nn l) (by simp only [all_cons, all_nil]; simp [hlen]))

end Go.Proofs.Ytifpbdhggooelaa.ledgerPlays
