/- Contracts of the ledger's functions and of the reference's: what each computes of a ledger whose counts are in their bounds. -/
import Derived.Test.YtifpbdhggooelaaRows
import Derived.Test.YtifpbdhggooelaaGd28
namespace Go.Proofs.Ytifpbdhggooelaa.ledger
open Go Ytifpbdhggooelaa.GD
set_option linter.unusedVariables false
set_option linter.unusedSimpArgs false

noncomputable def c0 : Cf := { P := Try.prog, T := tyOf Try.prog, hint := fun _ _ _ => .sym, room := fun _ _ => 2, meth := fun _ _ => none, ct := fun _ _ _ => none, stop := true }
theorem c0Ok : CfOk c0 where
  hT := fun _ _ h => h
  hm := by kernel_rfl
  meth := fun _ _ _ h => by simp only [c0] at h; cases h
  ct := fun _ _ _ _ _ _ h => by simp only [c0] at h; cases h

def obj (B h mo : Int) : Option HObj := some (.row 3 [[.int .i64 B, .int .i64 h, .int .i64 mo]])
noncomputable def q1 (f : Nat) (B h mo n : Int) (or : GD.Or) := callE c0 100000 10 f [.ptr 0 0 0, .int .i64 n] [obj B h mo] or
noncomputable def q0 (f : Nat) (B h mo : Int) (or : GD.Or) := callE c0 100000 10 f [.ptr 0 0 0] [obj B h mo] or
noncomputable def o18 (B h mo n : Int) (or : GD.Or) := outC 1 (q1 18 B h mo n or)
noncomputable def o19 (B h mo n : Int) (or : GD.Or) := outC 1 (q1 19 B h mo n or)
noncomputable def o20 (B h mo n : Int) (or : GD.Or) := outC 1 (q1 20 B h mo n or)
noncomputable def o21 (B h mo n : Int) (or : GD.Or) := outC 1 (q1 21 B h mo n or)
noncomputable def o22 (B h mo n : Int) (or : GD.Or) := outC 1 (q1 22 B h mo n or)
noncomputable def o23 (B h mo n : Int) (or : GD.Or) := outC 1 (q1 23 B h mo n or)
noncomputable def o24 (B h mo : Int) (or : GD.Or) := outC 1 (q0 24 B h mo or)
noncomputable def o25 (B h mo : Int) (or : GD.Or) := outC 1 (q0 25 B h mo or)
noncomputable def o26 (B h mo : Int) (or : GD.Or) := outC 1 (q0 26 B h mo or)

/-! ### the roads (printed by program) -/
theorem p18_0 (B : Int) (h : Int) (mo : Int) (n : Int) : o18 B h mo n (.path [true, true, false, false, false, true, false, false, false, false, false, false, false, true, true]) = some
  (D.bool false, [some (HObj.row 3 [[D.int IntKind.i64 B, D.int IntKind.i64 h, D.int IntKind.i64 mo]])],
    [true = true, true = true, (true == false) = false, (true == false) = false, (true == false) = false,
      (true == false) = false, (true == false) = false, (true == false) = false, (true == false) = false,
      decide (n < 0) = true, (decide (n < 0) == false) = false, (decide (n < 0) == false) = false, false = false,
      (false == false) = true, (false == false) = true]) := by kernel_rfl

theorem p18_1 (B : Int) (h : Int) (mo : Int) (n : Int) : o18 B h mo n (.path [true, true, false, true, true, false, false, false, false, false, false, false, false, true, true]) = some
  (D.bool false, [some (HObj.row 3 [[D.int IntKind.i64 B, D.int IntKind.i64 h, D.int IntKind.i64 mo]])],
    [true = true, decide (n > 16777216) = true, (decide (n > 16777216) == false) = false,
      (decide (n > 16777216) == false) = false, (decide (n > 16777216) == false) = false,
      (decide (n > 16777216) == false) = false, (decide (n > 16777216) == false) = false,
      (decide (n > 16777216) == false) = false, (decide (n > 16777216) == false) = false, decide (n < 0) = false,
      (decide (n < 0) == false) = true, (decide (n < 0) == false) = true, false = false, (false == false) = true,
      (false == false) = true]) := by kernel_rfl

theorem p18_2 (B : Int) (h : Int) (mo : Int) (n : Int) : o18 B h mo n (.path [true, true, false, true, true, false, true, true, true, true, true, true, true, false, true]) = some
  (D.bool false, [some (HObj.row 3 [[D.int IntKind.i64 B, D.int IntKind.i64 h, D.int IntKind.i64 mo]])],
    [decide (n > IntKind.i64.wrap (1099511627776 - h)) = true, decide (n > 16777216) = false,
      (decide (n > 16777216) == false) = true, (decide (n > 16777216) == false) = true,
      (decide (n > 16777216) == false) = true, (decide (n > 16777216) == false) = true,
      (decide (n > 16777216) == false) = true, (decide (n > 16777216) == false) = true,
      (decide (n > 16777216) == false) = true, decide (n < 0) = false, (decide (n < 0) == false) = true,
      (decide (n < 0) == false) = true, false = false, (false == false) = true, (false == false) = true]) := by kernel_rfl

theorem p18_3 (B : Int) (h : Int) (mo : Int) (n : Int) : o18 B h mo n (.path [true, true, false, true, true, false, true, true, true, true, true, true, true, false, false]) = some
  (D.bool true,
    [some
        (HObj.row 3
          [[D.int IntKind.i64 B, D.int IntKind.i64 (IntKind.i64.wrap (h + n)),
              D.int IntKind.i64 (if IntKind.i64.wrap (h + n) > mo then IntKind.i64.wrap (h + n) else mo)]])],
    [decide (n > IntKind.i64.wrap (1099511627776 - h)) = false, decide (n > 16777216) = false,
      (decide (n > 16777216) == false) = true, (decide (n > 16777216) == false) = true,
      (decide (n > 16777216) == false) = true, (decide (n > 16777216) == false) = true,
      (decide (n > 16777216) == false) = true, (decide (n > 16777216) == false) = true,
      (decide (n > 16777216) == false) = true, decide (n < 0) = false, (decide (n < 0) == false) = true,
      (decide (n < 0) == false) = true, false = false, (false == false) = true, (false == false) = true]) := by kernel_rfl

theorem p19_0 (B : Int) (h : Int) (mo : Int) (n : Int) : o19 B h mo n (.path [false, false, true, false, false, false, false, false, false, false, true, true]) = some
  (D.bool false, [some (HObj.row 3 [[D.int IntKind.i64 B, D.int IntKind.i64 h, D.int IntKind.i64 mo]])],
    [true = true, true = true, (true == false) = false, (true == false) = false, (true == false) = false,
      (true == false) = false, (true == false) = false, (true == false) = false, (true == false) = false,
      decide (n < 0) = true, (decide (n < 0) == false) = false, (decide (n < 0) == false) = false]) := by kernel_rfl

theorem p19_1 (B : Int) (h : Int) (mo : Int) (n : Int) : o19 B h mo n (.path [true, true, false, false, false, false, false, false, false, false, true, true]) = some
  (D.bool false, [some (HObj.row 3 [[D.int IntKind.i64 B, D.int IntKind.i64 h, D.int IntKind.i64 mo]])],
    [true = true, decide (n > 16777216) = true, (decide (n > 16777216) == false) = false,
      (decide (n > 16777216) == false) = false, (decide (n > 16777216) == false) = false,
      (decide (n > 16777216) == false) = false, (decide (n > 16777216) == false) = false,
      (decide (n > 16777216) == false) = false, (decide (n > 16777216) == false) = false, decide (n < 0) = false,
      (decide (n < 0) == false) = true, (decide (n < 0) == false) = true]) := by kernel_rfl

theorem p19_2 (B : Int) (h : Int) (mo : Int) (n : Int) : o19 B h mo n (.path [true, true, false, true, true, true, true, true, true, true, false, true]) = some
  (D.bool false, [some (HObj.row 3 [[D.int IntKind.i64 B, D.int IntKind.i64 h, D.int IntKind.i64 mo]])],
    [decide (h > IntKind.i64.wrap (1099511627776 - n)) = true, decide (n > 16777216) = false,
      (decide (n > 16777216) == false) = true, (decide (n > 16777216) == false) = true,
      (decide (n > 16777216) == false) = true, (decide (n > 16777216) == false) = true,
      (decide (n > 16777216) == false) = true, (decide (n > 16777216) == false) = true,
      (decide (n > 16777216) == false) = true, decide (n < 0) = false, (decide (n < 0) == false) = true,
      (decide (n < 0) == false) = true]) := by kernel_rfl

theorem p19_3 (B : Int) (h : Int) (mo : Int) (n : Int) : o19 B h mo n (.path [true, true, false, true, true, true, true, true, true, true, false, false]) = some
  (D.bool true,
    [some
        (HObj.row 3
          [[D.int IntKind.i64 B, D.int IntKind.i64 (IntKind.i64.wrap (h + n)),
              D.int IntKind.i64 (if IntKind.i64.wrap (h + n) > mo then IntKind.i64.wrap (h + n) else mo)]])],
    [decide (h > IntKind.i64.wrap (1099511627776 - n)) = false, decide (n > 16777216) = false,
      (decide (n > 16777216) == false) = true, (decide (n > 16777216) == false) = true,
      (decide (n > 16777216) == false) = true, (decide (n > 16777216) == false) = true,
      (decide (n > 16777216) == false) = true, (decide (n > 16777216) == false) = true,
      (decide (n > 16777216) == false) = true, decide (n < 0) = false, (decide (n < 0) == false) = true,
      (decide (n < 0) == false) = true]) := by kernel_rfl

theorem p20_0 (B : Int) (h : Int) (mo : Int) (n : Int) : o20 B h mo n (.path [true, true, false, false, false, false, false, false, false, true, true]) = some
  (D.bool false, [some (HObj.row 3 [[D.int IntKind.i64 B, D.int IntKind.i64 h, D.int IntKind.i64 mo]])],
    [true = true, decide (n < 0) = true, (decide (n < 0) == false) = false, (decide (n < 0) == false) = false,
      (decide (n < 0) == false) = false, (decide (n < 0) == false) = false, (decide (n < 0) == false) = false,
      (decide (n < 0) == false) = false, false = false, (false == false) = true, (false == false) = true]) := by kernel_rfl

theorem p20_1 (B : Int) (h : Int) (mo : Int) (n : Int) : o20 B h mo n (.path [true, true, false, true, true, true, true, true, true, false, true]) = some
  (D.bool false, [some (HObj.row 3 [[D.int IntKind.i64 B, D.int IntKind.i64 h, D.int IntKind.i64 mo]])],
    [decide (n > h) = true, decide (n < 0) = false, (decide (n < 0) == false) = true, (decide (n < 0) == false) = true,
      (decide (n < 0) == false) = true, (decide (n < 0) == false) = true, (decide (n < 0) == false) = true,
      (decide (n < 0) == false) = true, false = false, (false == false) = true, (false == false) = true]) := by kernel_rfl

theorem p20_2 (B : Int) (h : Int) (mo : Int) (n : Int) : o20 B h mo n (.path [true, true, false, true, true, true, true, true, true, false, false]) = some
  (D.bool true,
    [some (HObj.row 3 [[D.int IntKind.i64 B, D.int IntKind.i64 (IntKind.i64.wrap (h - n)), D.int IntKind.i64 mo]])],
    [decide (n > h) = false, decide (n < 0) = false, (decide (n < 0) == false) = true, (decide (n < 0) == false) = true,
      (decide (n < 0) == false) = true, (decide (n < 0) == false) = true, (decide (n < 0) == false) = true,
      (decide (n < 0) == false) = true, false = false, (false == false) = true, (false == false) = true]) := by kernel_rfl

theorem p21_0 (B : Int) (h : Int) (mo : Int) (n : Int) : o21 B h mo n (.path [false, false, false, false, false, false, true, true]) = some
  (D.bool false, [some (HObj.row 3 [[D.int IntKind.i64 B, D.int IntKind.i64 h, D.int IntKind.i64 mo]])],
    [true = true, decide (n < 0) = true, (decide (n < 0) == false) = false, (decide (n < 0) == false) = false,
      (decide (n < 0) == false) = false, (decide (n < 0) == false) = false, (decide (n < 0) == false) = false,
      (decide (n < 0) == false) = false]) := by kernel_rfl

theorem p21_1 (B : Int) (h : Int) (mo : Int) (n : Int) : o21 B h mo n (.path [true, true, true, true, true, true, false, true]) = some
  (D.bool false, [some (HObj.row 3 [[D.int IntKind.i64 B, D.int IntKind.i64 h, D.int IntKind.i64 mo]])],
    [decide (n > h) = true, decide (n < 0) = false, (decide (n < 0) == false) = true, (decide (n < 0) == false) = true,
      (decide (n < 0) == false) = true, (decide (n < 0) == false) = true, (decide (n < 0) == false) = true,
      (decide (n < 0) == false) = true]) := by kernel_rfl

theorem p21_2 (B : Int) (h : Int) (mo : Int) (n : Int) : o21 B h mo n (.path [true, true, true, true, true, true, false, false]) = some
  (D.bool true,
    [some (HObj.row 3 [[D.int IntKind.i64 B, D.int IntKind.i64 (IntKind.i64.wrap (h - n)), D.int IntKind.i64 mo]])],
    [decide (n > h) = false, decide (n < 0) = false, (decide (n < 0) == false) = true, (decide (n < 0) == false) = true,
      (decide (n < 0) == false) = true, (decide (n < 0) == false) = true, (decide (n < 0) == false) = true,
      (decide (n < 0) == false) = true]) := by kernel_rfl

theorem p22_0 (B : Int) (h : Int) (mo : Int) (n : Int) : o22 B h mo n (.path [true, true, true, true, true, true, true, true, true, true, true, true, true, true, true]) = some
  (D.bool (decide (n ≤ IntKind.i64.wrap (B - h))),
    [some (HObj.row 3 [[D.int IntKind.i64 B, D.int IntKind.i64 h, D.int IntKind.i64 mo]])],
    [decide (n ≥ 0) = true, (decide (n ≥ 0) == true) = true, (decide (n ≥ 0) == true) = true,
      (decide (n ≥ 0) == true) = true, (decide (n ≥ 0) == true) = true, (decide (n ≥ 0) == true) = true,
      (decide (n ≥ 0) == true) = true, (decide (n ≥ 0) == true) = true, (decide (n ≥ 0) == true) = true,
      (decide (n ≥ 0) == true) = true, (decide (n ≥ 0) == true) = true, (decide (n ≥ 0) == true) = true,
      (!false) = true, ((!false) == true) = true, ((!false) == true) = true]) := by kernel_rfl

theorem p22_1 (B : Int) (h : Int) (mo : Int) (n : Int) : o22 B h mo n (.path [true, true, true, false, false, false, false, false, false, false, false, false, false, false, false]) = some
  (D.bool false, [some (HObj.row 3 [[D.int IntKind.i64 B, D.int IntKind.i64 h, D.int IntKind.i64 mo]])],
    [decide (n ≥ 0) = false, (decide (n ≥ 0) == true) = false, (decide (n ≥ 0) == true) = false,
      (decide (n ≥ 0) == true) = false, (decide (n ≥ 0) == true) = false, (decide (n ≥ 0) == true) = false,
      (decide (n ≥ 0) == true) = false, (decide (n ≥ 0) == true) = false, (decide (n ≥ 0) == true) = false,
      (decide (n ≥ 0) == true) = false, (decide (n ≥ 0) == true) = false, (decide (n ≥ 0) == true) = false,
      (!false) = true, ((!false) == true) = true, ((!false) == true) = true]) := by kernel_rfl

theorem p23_0 (B : Int) (h : Int) (mo : Int) (n : Int) : o23 B h mo n (.path [true, true, true, true, true, true, true, true, true, true, true, true, true, true, true, true, true, true, true]) = some
  (D.bool (decide (h ≤ IntKind.i64.wrap (B - n))),
    [some (HObj.row 3 [[D.int IntKind.i64 B, D.int IntKind.i64 h, D.int IntKind.i64 mo]])],
    [decide (n ≤ B) = true, (decide (n ≤ B) == true) = true, (decide (n ≤ B) == true) = true,
      (decide (n ≤ B) == true) = true, (decide (n ≤ B) == true) = true, (decide (n ≤ B) == true) = true,
      (decide (n ≤ B) == true) = true, (decide (n ≤ B) == true) = true, (decide (n ≤ B) == true) = true,
      (decide (n ≤ B) == true) = true, (decide (n ≤ B) == true) = true, (decide (n ≤ B) == true) = true,
      decide (n ≥ 0) = true, (decide (n ≥ 0) == true) = true, (decide (n ≥ 0) == true) = true,
      (decide (n ≥ 0) == true) = true, (decide (n ≥ 0) == true) = true, (decide (n ≥ 0) == true) = true,
      (decide (n ≥ 0) == true) = true]) := by kernel_rfl

theorem p23_1 (B : Int) (h : Int) (mo : Int) (n : Int) : o23 B h mo n (.path [true, true, true, true, true, true, true, false, false, false, false, false, false, false, false, false, false, false, false]) = some
  (D.bool false, [some (HObj.row 3 [[D.int IntKind.i64 B, D.int IntKind.i64 h, D.int IntKind.i64 mo]])],
    [decide (n ≤ B) = false, (decide (n ≤ B) == true) = false, (decide (n ≤ B) == true) = false,
      (decide (n ≤ B) == true) = false, (decide (n ≤ B) == true) = false, (decide (n ≤ B) == true) = false,
      (decide (n ≤ B) == true) = false, (decide (n ≤ B) == true) = false, (decide (n ≤ B) == true) = false,
      (decide (n ≤ B) == true) = false, (decide (n ≤ B) == true) = false, (decide (n ≤ B) == true) = false,
      decide (n ≥ 0) = true, (decide (n ≥ 0) == true) = true, (decide (n ≥ 0) == true) = true,
      (decide (n ≥ 0) == true) = true, (decide (n ≥ 0) == true) = true, (decide (n ≥ 0) == true) = true,
      (decide (n ≥ 0) == true) = true]) := by kernel_rfl

theorem p23_2 (B : Int) (h : Int) (mo : Int) (n : Int) : o23 B h mo n (.path [false, false, false, false, false, false, false, false, false, false, false, false, false, false, false, false, false, false, false]) = some
  (D.bool false, [some (HObj.row 3 [[D.int IntKind.i64 B, D.int IntKind.i64 h, D.int IntKind.i64 mo]])],
    [false = false, (false == true) = false, (false == true) = false, (false == true) = false, (false == true) = false,
      (false == true) = false, (false == true) = false, (false == true) = false, (false == true) = false,
      (false == true) = false, (false == true) = false, (false == true) = false, decide (n ≥ 0) = false,
      (decide (n ≥ 0) == true) = false, (decide (n ≥ 0) == true) = false, (decide (n ≥ 0) == true) = false,
      (decide (n ≥ 0) == true) = false, (decide (n ≥ 0) == true) = false, (decide (n ≥ 0) == true) = false]) := by kernel_rfl

theorem p24_0 (B : Int) (h : Int) (mo : Int) : o24 B h mo (.path [false]) = some
  (D.int IntKind.i64 h, [some (HObj.row 3 [[D.int IntKind.i64 B, D.int IntKind.i64 h, D.int IntKind.i64 mo]])],
    [false = false]) := by kernel_rfl

theorem p25_0 (B : Int) (h : Int) (mo : Int) : o25 B h mo (.path [false]) = some
  (D.int IntKind.i64 mo, [some (HObj.row 3 [[D.int IntKind.i64 B, D.int IntKind.i64 h, D.int IntKind.i64 mo]])],
    [false = false]) := by kernel_rfl

theorem p26_0 (B : Int) (h : Int) (mo : Int) : o26 B h mo (.path [false]) = some
  (D.int IntKind.i64 B, [some (HObj.row 3 [[D.int IntKind.i64 B, D.int IntKind.i64 h, D.int IntKind.i64 mo]])],
    [false = false]) := by kernel_rfl


/-! ### the contracts -/
structure Good (B h mo n : Int) : Prop where
  b0 : 0 ≤ B
  b1 : B ≤ 16777216
  h0 : 0 ≤ h
  h1 : h ≤ 1099511627776
  m0 : 0 ≤ mo
  m1 : mo ≤ 1099511627776
  n0 : -9223372036854775808 ≤ n
  n1 : n ≤ 9223372036854775807

def tOk (h n : Int) : Bool := decide (0 ≤ n ∧ n ≤ 16777216 ∧ n ≤ 1099511627776 - h)
def tH (h n : Int) : Int := if tOk h n then h + n else h
def tM (h mo n : Int) : Int := if tOk h n then (if h + n > mo then h + n else mo) else mo
def gOk (h n : Int) : Bool := decide (0 ≤ n ∧ n ≤ h)
def gH (h n : Int) : Int := if gOk h n then h - n else h
def fOk (B h n : Int) : Bool := decide (0 ≤ n ∧ n ≤ B - h)

section
variable {B h mo n : Int}

theorem take18 (g : Good B h mo n) : ∃ X, Ev c0.P c0.T (.call 18 [.ptr 0 0 0, .int .i64 n] [obj B h mo] (.bool (tOk h n)) ([obj B (tH h n) (tM h mo n)] ++ X)) := by
  obtain ⟨b0, b1, h0, h1, m0, m1, n0, n1⟩ := g
  have w2 : -9223372036854775808 ≤ 1099511627776 - h ∧ 1099511627776 - h ≤ 9223372036854775807 := by omega
  by_cases a : n < 0
  · have e : tOk h n = false := by simp only [tOk, decide_eq_false_iff_not]; omega
    have := outC_ok c0Ok (p18_0 B h mo n) (by simp only [all_cons, all_nil]; simp [a])
    rw [e, show tH h n = h by simp [tH, e], show tM h mo n = mo by simp [tM, e]]
    exact this
  · by_cases b : n > 16777216
    · have e : tOk h n = false := by simp only [tOk, decide_eq_false_iff_not]; omega
      have := outC_ok c0Ok (p18_1 B h mo n) (by simp only [all_cons, all_nil]; simp [a, b])
      rw [e, show tH h n = h by simp [tH, e], show tM h mo n = mo by simp [tM, e]]
      exact this
    · have w1 : IntKind.i64.wrap (1099511627776 - h) = 1099511627776 - h := wrap_i64 (by omega)
      by_cases d : n > 1099511627776 - h
      · have e : tOk h n = false := by simp only [tOk, decide_eq_false_iff_not]; omega
        have := outC_ok c0Ok (p18_2 B h mo n) (by simp only [all_cons, all_nil]; simp [a, b, d, w1])
        rw [e, show tH h n = h by simp [tH, e], show tM h mo n = mo by simp [tM, e]]
        exact this
      · have e : tOk h n = true := by simp only [tOk, decide_eq_true_eq]; omega
        have w3 : IntKind.i64.wrap (h + n) = h + n := wrap_i64 (by omega)
        have := outC_ok c0Ok (p18_3 B h mo n) (by simp only [all_cons, all_nil]; simp [a, b, d, w1])
        simp only [w3] at this
        rw [e, show tH h n = h + n by simp [tH, e], show tM h mo n = (if h + n > mo then h + n else mo) by simp [tM, e]]
        exact this

theorem take19 (g : Good B h mo n) : ∃ X, Ev c0.P c0.T (.call 19 [.ptr 0 0 0, .int .i64 n] [obj B h mo] (.bool (tOk h n)) ([obj B (tH h n) (tM h mo n)] ++ X)) := by
  obtain ⟨b0, b1, h0, h1, m0, m1, n0, n1⟩ := g
  have w2 : -9223372036854775808 ≤ 1099511627776 - h ∧ 1099511627776 - h ≤ 9223372036854775807 := by omega
  by_cases a : n < 0
  · have e : tOk h n = false := by simp only [tOk, decide_eq_false_iff_not]; omega
    have := outC_ok c0Ok (p19_0 B h mo n) (by simp only [all_cons, all_nil]; simp [a])
    rw [e, show tH h n = h by simp [tH, e], show tM h mo n = mo by simp [tM, e]]
    exact this
  · by_cases b : n > 16777216
    · have e : tOk h n = false := by simp only [tOk, decide_eq_false_iff_not]; omega
      have := outC_ok c0Ok (p19_1 B h mo n) (by simp only [all_cons, all_nil]; simp [a, b])
      rw [e, show tH h n = h by simp [tH, e], show tM h mo n = mo by simp [tM, e]]
      exact this
    · have w1 : IntKind.i64.wrap (1099511627776 - n) = 1099511627776 - n := wrap_i64 (by omega)
      by_cases d : h > 1099511627776 - n
      · have e : tOk h n = false := by simp only [tOk, decide_eq_false_iff_not]; omega
        have := outC_ok c0Ok (p19_2 B h mo n) (by simp only [all_cons, all_nil]; simp [a, b, d, w1])
        rw [e, show tH h n = h by simp [tH, e], show tM h mo n = mo by simp [tM, e]]
        exact this
      · have e : tOk h n = true := by simp only [tOk, decide_eq_true_eq]; omega
        have w3 : IntKind.i64.wrap (h + n) = h + n := wrap_i64 (by omega)
        have := outC_ok c0Ok (p19_3 B h mo n) (by simp only [all_cons, all_nil]; simp [a, b, d, w1])
        simp only [w3] at this
        rw [e, show tH h n = h + n by simp [tH, e], show tM h mo n = (if h + n > mo then h + n else mo) by simp [tM, e]]
        exact this

theorem give20 (g : Good B h mo n) : ∃ X, Ev c0.P c0.T (.call 20 [.ptr 0 0 0, .int .i64 n] [obj B h mo] (.bool (gOk h n)) ([obj B (gH h n) mo] ++ X)) := by
  obtain ⟨b0, b1, h0, h1, m0, m1, n0, n1⟩ := g
  by_cases a : n < 0
  · have e : gOk h n = false := by simp only [gOk, decide_eq_false_iff_not]; omega
    have := outC_ok c0Ok (p20_0 B h mo n) (by simp only [all_cons, all_nil]; simp [a])
    rw [e, show gH h n = h by simp [gH, e]]
    exact this
  · by_cases b : n > h
    · have e : gOk h n = false := by simp only [gOk, decide_eq_false_iff_not]; omega
      have := outC_ok c0Ok (p20_1 B h mo n) (by simp only [all_cons, all_nil]; simp [a, b])
      rw [e, show gH h n = h by simp [gH, e]]
      exact this
    · have e : gOk h n = true := by simp only [gOk, decide_eq_true_eq]; omega
      have w3 : IntKind.i64.wrap (h - n) = h - n := wrap_i64 (by omega)
      have := outC_ok c0Ok (p20_2 B h mo n) (by simp only [all_cons, all_nil]; simp [a, b])
      simp only [w3] at this
      rw [e, show gH h n = h - n by simp [gH, e]]
      exact this

theorem give21 (g : Good B h mo n) : ∃ X, Ev c0.P c0.T (.call 21 [.ptr 0 0 0, .int .i64 n] [obj B h mo] (.bool (gOk h n)) ([obj B (gH h n) mo] ++ X)) := by
  obtain ⟨b0, b1, h0, h1, m0, m1, n0, n1⟩ := g
  by_cases a : n < 0
  · have e : gOk h n = false := by simp only [gOk, decide_eq_false_iff_not]; omega
    have := outC_ok c0Ok (p21_0 B h mo n) (by simp only [all_cons, all_nil]; simp [a])
    rw [e, show gH h n = h by simp [gH, e]]
    exact this
  · by_cases b : n > h
    · have e : gOk h n = false := by simp only [gOk, decide_eq_false_iff_not]; omega
      have := outC_ok c0Ok (p21_1 B h mo n) (by simp only [all_cons, all_nil]; simp [a, b])
      rw [e, show gH h n = h by simp [gH, e]]
      exact this
    · have e : gOk h n = true := by simp only [gOk, decide_eq_true_eq]; omega
      have w3 : IntKind.i64.wrap (h - n) = h - n := wrap_i64 (by omega)
      have := outC_ok c0Ok (p21_2 B h mo n) (by simp only [all_cons, all_nil]; simp [a, b])
      simp only [w3] at this
      rw [e, show gH h n = h - n by simp [gH, e]]
      exact this

theorem fits22 (g : Good B h mo n) : ∃ X, Ev c0.P c0.T (.call 22 [.ptr 0 0 0, .int .i64 n] [obj B h mo] (.bool (fOk B h n)) ([obj B h mo] ++ X)) := by
  obtain ⟨b0, b1, h0, h1, m0, m1, n0, n1⟩ := g
  by_cases a : n ≥ 0
  · have w1 : IntKind.i64.wrap (B - h) = B - h := wrap_i64 (by omega)
    have e : fOk B h n = decide (n ≤ B - h) := by simp only [fOk, decide_eq_decide]; omega
    have := outC_ok c0Ok (p22_0 B h mo n) (by simp only [all_cons, all_nil]; simp [a])
    simp only [w1] at this
    rw [e]
    exact this
  · have e : fOk B h n = false := by simp only [fOk, decide_eq_false_iff_not]; omega
    have := outC_ok c0Ok (p22_1 B h mo n) (by simp only [all_cons, all_nil]; simp [a])
    rw [e]
    exact this

theorem fits23 (g : Good B h mo n) : ∃ X, Ev c0.P c0.T (.call 23 [.ptr 0 0 0, .int .i64 n] [obj B h mo] (.bool (fOk B h n)) ([obj B h mo] ++ X)) := by
  obtain ⟨b0, b1, h0, h1, m0, m1, n0, n1⟩ := g
  by_cases a : n ≥ 0
  · by_cases b : n ≤ B
    · have w1 : IntKind.i64.wrap (B - n) = B - n := wrap_i64 (by omega)
      have e : fOk B h n = decide (h ≤ B - n) := by simp only [fOk, decide_eq_decide]; omega
      have := outC_ok c0Ok (p23_0 B h mo n) (by simp only [all_cons, all_nil]; simp [a, b])
      simp only [w1] at this
      rw [e]
      exact this
    · have e : fOk B h n = false := by simp only [fOk, decide_eq_false_iff_not]; omega
      have := outC_ok c0Ok (p23_1 B h mo n) (by simp only [all_cons, all_nil]; simp [a, b])
      rw [e]
      exact this
  · have e : fOk B h n = false := by simp only [fOk, decide_eq_false_iff_not]; omega
    have := outC_ok c0Ok (p23_2 B h mo n) (by simp only [all_cons, all_nil]; simp [a])
    rw [e]
    exact this

theorem look24 : ∃ X, Ev c0.P c0.T (.call 24 [.ptr 0 0 0] [obj B h mo] (.int .i64 h) ([obj B h mo] ++ X)) :=
  outC_ok c0Ok (p24_0 B h mo) (by simp only [all_cons, all_nil]; simp [])

theorem look25 : ∃ X, Ev c0.P c0.T (.call 25 [.ptr 0 0 0] [obj B h mo] (.int .i64 mo) ([obj B h mo] ++ X)) :=
  outC_ok c0Ok (p25_0 B h mo) (by simp only [all_cons, all_nil]; simp [])

theorem look26 : ∃ X, Ev c0.P c0.T (.call 26 [.ptr 0 0 0] [obj B h mo] (.int .i64 B) ([obj B h mo] ++ X)) :=
  outC_ok c0Ok (p26_0 B h mo) (by simp only [all_cons, all_nil]; simp [])

noncomputable def cA : Cf := { P := Try.prog, T := tyOf Try.prog, hint := fun _ _ _ => .auto, room := fun _ _ => 2, meth := fun _ _ => none, ct := fun _ _ _ => none, stop := false }
theorem cAOk : CfOk cA where
  hT := fun _ _ h => h
  hm := by kernel_rfl
  meth := fun _ _ _ h => by simp only [cA] at h; cases h
  ct := fun _ _ _ _ _ _ h => by simp only [cA] at h; cases h
theorem toldAwake : tellsTrue (callE cA 100000 100 15 [] [] .auto) = true := by kernel_rfl
theorem cAP : cA.P = c0.P := rfl
theorem cAT : cA.T = c0.T := rfl
theorem awake15 : ∃ X, Ev c0.P c0.T (.call 15 [] [] (.bool true) ([] ++ X)) := by
  obtain ⟨R, h1, h2, h3⟩ := tellsTrue_ok toldAwake
  obtain ⟨X, hev⟩ := callE_ok cAOk _ _ _ _ _ h1 (fun c hc => by rw [h3] at hc; simp at hc)
  rw [h2, cAP, cAT] at hev
  exact ⟨R.H ++ X, hev⟩

/-- What the laws are told of these functions. -/
def ct : FuncId → List D → Heap → Option (D × Heap × List Prop)
  | 15, [], [] => some (.bool true, [], [])
  | 18, [.ptr 0 0 0, .int .i64 n], [some (.row 3 [[.int .i64 B, .int .i64 h, .int .i64 mo]])] => some (.bool (tOk h n), [obj B (tH h n) (tM h mo n)], [Good B h mo n])
  | 19, [.ptr 0 0 0, .int .i64 n], [some (.row 3 [[.int .i64 B, .int .i64 h, .int .i64 mo]])] => some (.bool (tOk h n), [obj B (tH h n) (tM h mo n)], [Good B h mo n])
  | 20, [.ptr 0 0 0, .int .i64 n], [some (.row 3 [[.int .i64 B, .int .i64 h, .int .i64 mo]])] => some (.bool (gOk h n), [obj B (gH h n) mo], [Good B h mo n])
  | 21, [.ptr 0 0 0, .int .i64 n], [some (.row 3 [[.int .i64 B, .int .i64 h, .int .i64 mo]])] => some (.bool (gOk h n), [obj B (gH h n) mo], [Good B h mo n])
  | 22, [.ptr 0 0 0, .int .i64 n], [some (.row 3 [[.int .i64 B, .int .i64 h, .int .i64 mo]])] => some (.bool (fOk B h n), [obj B h mo], [Good B h mo n])
  | 23, [.ptr 0 0 0, .int .i64 n], [some (.row 3 [[.int .i64 B, .int .i64 h, .int .i64 mo]])] => some (.bool (fOk B h n), [obj B h mo], [Good B h mo n])
  | 24, [.ptr 0 0 0], [some (.row 3 [[.int .i64 B, .int .i64 h, .int .i64 mo]])] => some (.int .i64 h, [obj B h mo], [])
  | 25, [.ptr 0 0 0], [some (.row 3 [[.int .i64 B, .int .i64 h, .int .i64 mo]])] => some (.int .i64 mo, [obj B h mo], [])
  | 26, [.ptr 0 0 0], [some (.row 3 [[.int .i64 B, .int .i64 h, .int .i64 mo]])] => some (.int .i64 B, [obj B h mo], [])
  | _, _, _ => none

theorem ct_ok (k : FuncId) (args : List D) (H : Heap) (r : D) (H1 : Heap) (cs : List Prop) (he : ct k args H = some (r, H1, cs)) (hc : ∀ c ∈ cs, c) : ∃ X, Ev c0.P c0.T (.call k args H r (H1 ++ X)) := by
  unfold ct at he
  split at he <;> (try (simp only [Option.some.injEq, Prod.mk.injEq] at he; obtain ⟨rfl, rfl, rfl⟩ := he))
  · exact awake15
  · exact take18 (hc _ (by simp))
  · exact take19 (hc _ (by simp))
  · exact give20 (hc _ (by simp))
  · exact give21 (hc _ (by simp))
  · exact fits22 (hc _ (by simp))
  · exact fits23 (hc _ (by simp))
  · exact look24
  · exact look25
  · exact look26
  · cases he

end
end Go.Proofs.Ytifpbdhggooelaa.ledger
