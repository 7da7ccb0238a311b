/- Roads of the law NumBack. -/
import Derived.Test.YtbkacmcijimbfaaNumBackKit
namespace Go.Proofs.Ytbkacmcijimbfaa.numBack
open Go Ytbkacmcijimbfaa.GD Ytbkacmcijimbfaa.numk
set_option linter.unusedVariables false
set_option linter.unusedSimpArgs false

theorem l4_58 (a : Int) (b : Int) (w0 : Bool) (w1 : Bool)
    (h0 : w0 = false)
    (h1 : w1 = true)
    (h2 : (arE (45 : Nat) (of32 a) a (4 : Int) b == (0 : Int)) = true)
    (h3 : (arE (47 : Nat) (arK (45 : Nat) (of32 a) a (4 : Int) b) (arN (45 : Nat) (of32 a) a (4 : Int) b) (4 : Int) b !=
    (0 : Int)) =
  false)
    (h4 : (arN (47 : Nat) (arK (45 : Nat) (of32 a) a (4 : Int) b) (arN (45 : Nat) (of32 a) a (4 : Int) b) (4 : Int) b != a) =
  false)
    (h5 : (arK (47 : Nat) (arK (45 : Nat) (of32 a) a (4 : Int) b) (arN (45 : Nat) (of32 a) a (4 : Int) b) (4 : Int) b !=
    (4 : Int)) =
  true)
    (h6 : (b == (0 : Int)) = true)
    (h7 : (arE (48 : Nat) (of32 a) a (4 : Int) b == (11 : Int)) = true)
    (h8 : R a)
    (h9 : R b)
    (h10 : (0 : Int) ≤ (0 : Int) ∧ (0 : Int) < ↑(2 : Nat))
    (h11 : R (arN (45 : Nat) (of32 a) a (4 : Int) b))
    (h12 : (0 : Int) ≤ (1 : Int) ∧ (1 : Int) < ↑(2 : Nat)) :
    ∃ X, Ev c0.P c0.T (.call 4 [.int .i64 a, .int .i64 b, .agg [.bool w0, .bool w1]] [] (D.bool (arE (49 : Nat) (of32 a) a (4 : Int) b == (11 : Int))) ([] ++ X)) :=
  outC_ok cNOk (show outC 0 (q a b w0 w1 (.path [false, false, true, true, true, true, true, true, false, true, true, true, true, true, true, true, true, false, false, true, true, true, true])) = some (D.bool (arE (49 : Nat) (of32 a) a (4 : Int) b == (11 : Int)), [],
    [(arE (48 : Nat) (of32 a) a (4 : Int) b == (11 : Int)) = true,
      ((arE (48 : Nat) (of32 a) a (4 : Int) b == (11 : Int)) == true) = true,
      ((arE (48 : Nat) (of32 a) a (4 : Int) b == (11 : Int)) == true) = true,
      (b == (0 : Int)) = true,
      R a,
      R b,
      R a,
      R b,
      w0 = false,
      (arN (47 : Nat) (arK (45 : Nat) (of32 a) a (4 : Int) b) (arN (45 : Nat) (of32 a) a (4 : Int) b) (4 : Int) b != a) =
  false,
      (arK (47 : Nat) (arK (45 : Nat) (of32 a) a (4 : Int) b) (arN (45 : Nat) (of32 a) a (4 : Int) b) (4 : Int) b !=
    (4 : Int)) =
  true,
      ((arN (47 : Nat) (arK (45 : Nat) (of32 a) a (4 : Int) b) (arN (45 : Nat) (of32 a) a (4 : Int) b) (4 : Int) b != a) ==
    false) =
  true,
      ((arK (47 : Nat) (arK (45 : Nat) (of32 a) a (4 : Int) b) (arN (45 : Nat) (of32 a) a (4 : Int) b) (4 : Int) b !=
      (4 : Int)) ==
    true) =
  true,
      (0 : Int) ≤ (0 : Int) ∧ (0 : Int) < ↑(2 : Nat),
      ((arK (47 : Nat) (arK (45 : Nat) (of32 a) a (4 : Int) b) (arN (45 : Nat) (of32 a) a (4 : Int) b) (4 : Int) b !=
      (4 : Int)) ==
    true) =
  true,
      ((arN (47 : Nat) (arK (45 : Nat) (of32 a) a (4 : Int) b) (arN (45 : Nat) (of32 a) a (4 : Int) b) (4 : Int) b != a) ==
    false) =
  true,
      ((arN (47 : Nat) (arK (45 : Nat) (of32 a) a (4 : Int) b) (arN (45 : Nat) (of32 a) a (4 : Int) b) (4 : Int) b != a) ==
    false) =
  true,
      ((arN (47 : Nat) (arK (45 : Nat) (of32 a) a (4 : Int) b) (arN (45 : Nat) (of32 a) a (4 : Int) b) (4 : Int) b != a) ==
    false) =
  true,
      ((arN (47 : Nat) (arK (45 : Nat) (of32 a) a (4 : Int) b) (arN (45 : Nat) (of32 a) a (4 : Int) b) (4 : Int) b != a) ==
    false) =
  true,
      (arE (47 : Nat) (arK (45 : Nat) (of32 a) a (4 : Int) b) (arN (45 : Nat) (of32 a) a (4 : Int) b) (4 : Int) b !=
    (0 : Int)) =
  false,
      ((arE (47 : Nat) (arK (45 : Nat) (of32 a) a (4 : Int) b) (arN (45 : Nat) (of32 a) a (4 : Int) b) (4 : Int) b !=
      (0 : Int)) ==
    false) =
  true,
      ((arE (47 : Nat) (arK (45 : Nat) (of32 a) a (4 : Int) b) (arN (45 : Nat) (of32 a) a (4 : Int) b) (4 : Int) b !=
      (0 : Int)) ==
    false) =
  true,
      ((arE (47 : Nat) (arK (45 : Nat) (of32 a) a (4 : Int) b) (arN (45 : Nat) (of32 a) a (4 : Int) b) (4 : Int) b !=
      (0 : Int)) ==
    false) =
  true,
      ((arE (47 : Nat) (arK (45 : Nat) (of32 a) a (4 : Int) b) (arN (45 : Nat) (of32 a) a (4 : Int) b) (4 : Int) b !=
      (0 : Int)) ==
    false) =
  true,
      R (arN (45 : Nat) (of32 a) a (4 : Int) b),
      R b,
      (arE (45 : Nat) (of32 a) a (4 : Int) b == (0 : Int)) = true,
      R a,
      R b,
      w1 = true,
      (0 : Int) ≤ (1 : Int) ∧ (1 : Int) < ↑(2 : Nat),
      w0 = false,
      (0 : Int) ≤ (0 : Int) ∧ (0 : Int) < ↑(2 : Nat),
      R b,
      R a,
      (!true) = false]) by kernel_rfl) (by simp only [all_cons, all_nil]; simp [*])

theorem l4_60 (a : Int) (b : Int) (w0 : Bool) (w1 : Bool)
    (h0 : w0 = false)
    (h1 : w1 = true)
    (h2 : (arE (45 : Nat) (of32 a) a (4 : Int) b == (0 : Int)) = true)
    (h3 : (arE (47 : Nat) (arK (45 : Nat) (of32 a) a (4 : Int) b) (arN (45 : Nat) (of32 a) a (4 : Int) b) (4 : Int) b !=
    (0 : Int)) =
  false)
    (h4 : (arN (47 : Nat) (arK (45 : Nat) (of32 a) a (4 : Int) b) (arN (45 : Nat) (of32 a) a (4 : Int) b) (4 : Int) b != a) =
  false)
    (h5 : (arK (47 : Nat) (arK (45 : Nat) (of32 a) a (4 : Int) b) (arN (45 : Nat) (of32 a) a (4 : Int) b) (4 : Int) b !=
    (4 : Int)) =
  true)
    (h6 : (b == (0 : Int)) = false)
    (h7 : (arE (48 : Nat) (of32 a) a (4 : Int) b != (0 : Int)) = true)
    (h8 : (a == (-9223372036854775808 : Int)) = true)
    (h9 : (b == (-1 : Int)) = true)
    (h10 : (arE (49 : Nat) (of32 a) a (4 : Int) b == (0 : Int)) = true)
    (h11 : R a)
    (h12 : R b)
    (h13 : (0 : Int) ≤ (0 : Int) ∧ (0 : Int) < ↑(2 : Nat))
    (h14 : R (arN (45 : Nat) (of32 a) a (4 : Int) b))
    (h15 : (0 : Int) ≤ (1 : Int) ∧ (1 : Int) < ↑(2 : Nat)) :
    ∃ X, Ev c0.P c0.T (.call 4 [.int .i64 a, .int .i64 b, .agg [.bool w0, .bool w1]] [] (D.bool (arN (49 : Nat) (of32 a) a (4 : Int) b == (0 : Int))) ([] ++ X)) :=
  outC_ok cNOk (show outC 0 (q a b w0 w1 (.path [false, false, true, true, true, true, true, true, false, true, true, true, true, true, true, true, true, false, false, false, true, true, true, true, true, true, true, true, true, true, true])) = some (D.bool (arN (49 : Nat) (of32 a) a (4 : Int) b == (0 : Int)), [],
    [(arE (49 : Nat) (of32 a) a (4 : Int) b == (0 : Int)) = true,
      ((arE (49 : Nat) (of32 a) a (4 : Int) b == (0 : Int)) == true) = true,
      ((arE (49 : Nat) (of32 a) a (4 : Int) b == (0 : Int)) == true) = true,
      ((arE (49 : Nat) (of32 a) a (4 : Int) b == (0 : Int)) == true) = true,
      (b == (-1 : Int)) = true,
      ((b == (-1 : Int)) == true) = true,
      ((b == (-1 : Int)) == true) = true,
      (a == (-9223372036854775808 : Int)) = true,
      ((a == (-9223372036854775808 : Int)) == true) = true,
      ((a == (-9223372036854775808 : Int)) == true) = true,
      (arE (48 : Nat) (of32 a) a (4 : Int) b != (0 : Int)) = true,
      (b == (0 : Int)) = false,
      R a,
      R b,
      R a,
      R b,
      w0 = false,
      (arN (47 : Nat) (arK (45 : Nat) (of32 a) a (4 : Int) b) (arN (45 : Nat) (of32 a) a (4 : Int) b) (4 : Int) b != a) =
  false,
      (arK (47 : Nat) (arK (45 : Nat) (of32 a) a (4 : Int) b) (arN (45 : Nat) (of32 a) a (4 : Int) b) (4 : Int) b !=
    (4 : Int)) =
  true,
      ((arN (47 : Nat) (arK (45 : Nat) (of32 a) a (4 : Int) b) (arN (45 : Nat) (of32 a) a (4 : Int) b) (4 : Int) b != a) ==
    false) =
  true,
      ((arK (47 : Nat) (arK (45 : Nat) (of32 a) a (4 : Int) b) (arN (45 : Nat) (of32 a) a (4 : Int) b) (4 : Int) b !=
      (4 : Int)) ==
    true) =
  true,
      (0 : Int) ≤ (0 : Int) ∧ (0 : Int) < ↑(2 : Nat),
      ((arK (47 : Nat) (arK (45 : Nat) (of32 a) a (4 : Int) b) (arN (45 : Nat) (of32 a) a (4 : Int) b) (4 : Int) b !=
      (4 : Int)) ==
    true) =
  true,
      ((arN (47 : Nat) (arK (45 : Nat) (of32 a) a (4 : Int) b) (arN (45 : Nat) (of32 a) a (4 : Int) b) (4 : Int) b != a) ==
    false) =
  true,
      ((arN (47 : Nat) (arK (45 : Nat) (of32 a) a (4 : Int) b) (arN (45 : Nat) (of32 a) a (4 : Int) b) (4 : Int) b != a) ==
    false) =
  true,
      ((arN (47 : Nat) (arK (45 : Nat) (of32 a) a (4 : Int) b) (arN (45 : Nat) (of32 a) a (4 : Int) b) (4 : Int) b != a) ==
    false) =
  true,
      ((arN (47 : Nat) (arK (45 : Nat) (of32 a) a (4 : Int) b) (arN (45 : Nat) (of32 a) a (4 : Int) b) (4 : Int) b != a) ==
    false) =
  true,
      (arE (47 : Nat) (arK (45 : Nat) (of32 a) a (4 : Int) b) (arN (45 : Nat) (of32 a) a (4 : Int) b) (4 : Int) b !=
    (0 : Int)) =
  false,
      ((arE (47 : Nat) (arK (45 : Nat) (of32 a) a (4 : Int) b) (arN (45 : Nat) (of32 a) a (4 : Int) b) (4 : Int) b !=
      (0 : Int)) ==
    false) =
  true,
      ((arE (47 : Nat) (arK (45 : Nat) (of32 a) a (4 : Int) b) (arN (45 : Nat) (of32 a) a (4 : Int) b) (4 : Int) b !=
      (0 : Int)) ==
    false) =
  true,
      ((arE (47 : Nat) (arK (45 : Nat) (of32 a) a (4 : Int) b) (arN (45 : Nat) (of32 a) a (4 : Int) b) (4 : Int) b !=
      (0 : Int)) ==
    false) =
  true,
      ((arE (47 : Nat) (arK (45 : Nat) (of32 a) a (4 : Int) b) (arN (45 : Nat) (of32 a) a (4 : Int) b) (4 : Int) b !=
      (0 : Int)) ==
    false) =
  true,
      R (arN (45 : Nat) (of32 a) a (4 : Int) b),
      R b,
      (arE (45 : Nat) (of32 a) a (4 : Int) b == (0 : Int)) = true,
      R a,
      R b,
      w1 = true,
      (0 : Int) ≤ (1 : Int) ∧ (1 : Int) < ↑(2 : Nat),
      w0 = false,
      (0 : Int) ≤ (0 : Int) ∧ (0 : Int) < ↑(2 : Nat),
      R b,
      R a,
      (!true) = false]) by kernel_rfl) (by simp only [all_cons, all_nil]; simp [*])

theorem l4_64 (a : Int) (b : Int) (w0 : Bool) (w1 : Bool)
    (h0 : w0 = false)
    (h1 : w1 = true)
    (h2 : (arE (45 : Nat) (of32 a) a (4 : Int) b == (0 : Int)) = true)
    (h3 : (arE (47 : Nat) (arK (45 : Nat) (of32 a) a (4 : Int) b) (arN (45 : Nat) (of32 a) a (4 : Int) b) (4 : Int) b !=
    (0 : Int)) =
  false)
    (h4 : (arN (47 : Nat) (arK (45 : Nat) (of32 a) a (4 : Int) b) (arN (45 : Nat) (of32 a) a (4 : Int) b) (4 : Int) b != a) =
  false)
    (h5 : (arK (47 : Nat) (arK (45 : Nat) (of32 a) a (4 : Int) b) (arN (45 : Nat) (of32 a) a (4 : Int) b) (4 : Int) b !=
    (4 : Int)) =
  true)
    (h6 : (b == (0 : Int)) = false)
    (h7 : (arE (48 : Nat) (of32 a) a (4 : Int) b != (0 : Int)) = false)
    (h8 : (arE (49 : Nat) (of32 a) a (4 : Int) b == (0 : Int)) = true)
    (h9 : (arE (46 : Nat) (arK (48 : Nat) (of32 a) a (4 : Int) b) (arN (48 : Nat) (of32 a) a (4 : Int) b) (4 : Int) b ==
    (0 : Int)) =
  true)
    (h10 : (arE (45 : Nat)
      (arK (46 : Nat) (arK (48 : Nat) (of32 a) a (4 : Int) b) (arN (48 : Nat) (of32 a) a (4 : Int) b) (4 : Int) b)
      (arN (46 : Nat) (arK (48 : Nat) (of32 a) a (4 : Int) b) (arN (48 : Nat) (of32 a) a (4 : Int) b) (4 : Int) b)
      (arK (49 : Nat) (of32 a) a (4 : Int) b) (arN (49 : Nat) (of32 a) a (4 : Int) b) ==
    (0 : Int)) =
  true)
    (h11 : (arN (45 : Nat)
      (arK (46 : Nat) (arK (48 : Nat) (of32 a) a (4 : Int) b) (arN (48 : Nat) (of32 a) a (4 : Int) b) (4 : Int) b)
      (arN (46 : Nat) (arK (48 : Nat) (of32 a) a (4 : Int) b) (arN (48 : Nat) (of32 a) a (4 : Int) b) (4 : Int) b)
      (arK (49 : Nat) (of32 a) a (4 : Int) b) (arN (49 : Nat) (of32 a) a (4 : Int) b) ==
    a) =
  true)
    (h12 : (arN (49 : Nat) (of32 a) a (4 : Int) b == (0 : Int)) = true)
    (h13 : R (arN (46 : Nat) (arK (48 : Nat) (of32 a) a (4 : Int) b) (arN (48 : Nat) (of32 a) a (4 : Int) b) (4 : Int) b))
    (h14 : R (arN (49 : Nat) (of32 a) a (4 : Int) b))
    (h15 : R (arN (48 : Nat) (of32 a) a (4 : Int) b))
    (h16 : R b)
    (h17 : R a)
    (h18 : (0 : Int) ≤ (0 : Int) ∧ (0 : Int) < ↑(2 : Nat))
    (h19 : R (arN (45 : Nat) (of32 a) a (4 : Int) b))
    (h20 : (0 : Int) ≤ (1 : Int) ∧ (1 : Int) < ↑(2 : Nat)) :
    ∃ X, Ev c0.P c0.T (.call 4 [.int .i64 a, .int .i64 b, .agg [.bool w0, .bool w1]] [] (D.bool true) ([] ++ X)) :=
  outC_ok cNOk (show outC 0 (q a b w0 w1 (.path [false, false, true, true, true, true, true, true, false, true, true, true, true, true, true, true, true, false, false, false, false, true, true, true, true, true, true, true, true, true, true, true, true, true, true, true, false, false, false, false, false, false, true, true, true])) = some (D.bool true, [],
    [(arN (45 : Nat)
      (arK (46 : Nat) (arK (48 : Nat) (of32 a) a (4 : Int) b) (arN (48 : Nat) (of32 a) a (4 : Int) b) (4 : Int) b)
      (arN (46 : Nat) (arK (48 : Nat) (of32 a) a (4 : Int) b) (arN (48 : Nat) (of32 a) a (4 : Int) b) (4 : Int) b)
      (arK (49 : Nat) (of32 a) a (4 : Int) b) (arN (49 : Nat) (of32 a) a (4 : Int) b) ==
    a) =
  true,
      (arN (49 : Nat) (of32 a) a (4 : Int) b == (0 : Int)) = true,
      ((arN (45 : Nat)
        (arK (46 : Nat) (arK (48 : Nat) (of32 a) a (4 : Int) b) (arN (48 : Nat) (of32 a) a (4 : Int) b) (4 : Int) b)
        (arN (46 : Nat) (arK (48 : Nat) (of32 a) a (4 : Int) b) (arN (48 : Nat) (of32 a) a (4 : Int) b) (4 : Int) b)
        (arK (49 : Nat) (of32 a) a (4 : Int) b) (arN (49 : Nat) (of32 a) a (4 : Int) b) ==
      a) ==
    true) =
  true,
      ((arN (49 : Nat) (of32 a) a (4 : Int) b == (0 : Int)) == false) = false,
      ((arN (49 : Nat) (of32 a) a (4 : Int) b == (0 : Int)) == false) = false,
      ((arN (49 : Nat) (of32 a) a (4 : Int) b == (0 : Int)) == false) = false,
      ((arN (49 : Nat) (of32 a) a (4 : Int) b == (0 : Int)) == false) = false,
      ((arN (49 : Nat) (of32 a) a (4 : Int) b == (0 : Int)) == false) = false,
      ((arN (49 : Nat) (of32 a) a (4 : Int) b == (0 : Int)) == false) = false,
      ((arN (45 : Nat)
        (arK (46 : Nat) (arK (48 : Nat) (of32 a) a (4 : Int) b) (arN (48 : Nat) (of32 a) a (4 : Int) b) (4 : Int) b)
        (arN (46 : Nat) (arK (48 : Nat) (of32 a) a (4 : Int) b) (arN (48 : Nat) (of32 a) a (4 : Int) b) (4 : Int) b)
        (arK (49 : Nat) (of32 a) a (4 : Int) b) (arN (49 : Nat) (of32 a) a (4 : Int) b) ==
      a) ==
    true) =
  true,
      ((arN (45 : Nat)
        (arK (46 : Nat) (arK (48 : Nat) (of32 a) a (4 : Int) b) (arN (48 : Nat) (of32 a) a (4 : Int) b) (4 : Int) b)
        (arN (46 : Nat) (arK (48 : Nat) (of32 a) a (4 : Int) b) (arN (48 : Nat) (of32 a) a (4 : Int) b) (4 : Int) b)
        (arK (49 : Nat) (of32 a) a (4 : Int) b) (arN (49 : Nat) (of32 a) a (4 : Int) b) ==
      a) ==
    true) =
  true,
      ((arN (45 : Nat)
        (arK (46 : Nat) (arK (48 : Nat) (of32 a) a (4 : Int) b) (arN (48 : Nat) (of32 a) a (4 : Int) b) (4 : Int) b)
        (arN (46 : Nat) (arK (48 : Nat) (of32 a) a (4 : Int) b) (arN (48 : Nat) (of32 a) a (4 : Int) b) (4 : Int) b)
        (arK (49 : Nat) (of32 a) a (4 : Int) b) (arN (49 : Nat) (of32 a) a (4 : Int) b) ==
      a) ==
    true) =
  true,
      ((arN (45 : Nat)
        (arK (46 : Nat) (arK (48 : Nat) (of32 a) a (4 : Int) b) (arN (48 : Nat) (of32 a) a (4 : Int) b) (4 : Int) b)
        (arN (46 : Nat) (arK (48 : Nat) (of32 a) a (4 : Int) b) (arN (48 : Nat) (of32 a) a (4 : Int) b) (4 : Int) b)
        (arK (49 : Nat) (of32 a) a (4 : Int) b) (arN (49 : Nat) (of32 a) a (4 : Int) b) ==
      a) ==
    true) =
  true,
      (arE (45 : Nat)
      (arK (46 : Nat) (arK (48 : Nat) (of32 a) a (4 : Int) b) (arN (48 : Nat) (of32 a) a (4 : Int) b) (4 : Int) b)
      (arN (46 : Nat) (arK (48 : Nat) (of32 a) a (4 : Int) b) (arN (48 : Nat) (of32 a) a (4 : Int) b) (4 : Int) b)
      (arK (49 : Nat) (of32 a) a (4 : Int) b) (arN (49 : Nat) (of32 a) a (4 : Int) b) ==
    (0 : Int)) =
  true,
      ((arE (45 : Nat)
        (arK (46 : Nat) (arK (48 : Nat) (of32 a) a (4 : Int) b) (arN (48 : Nat) (of32 a) a (4 : Int) b) (4 : Int) b)
        (arN (46 : Nat) (arK (48 : Nat) (of32 a) a (4 : Int) b) (arN (48 : Nat) (of32 a) a (4 : Int) b) (4 : Int) b)
        (arK (49 : Nat) (of32 a) a (4 : Int) b) (arN (49 : Nat) (of32 a) a (4 : Int) b) ==
      (0 : Int)) ==
    true) =
  true,
      ((arE (45 : Nat)
        (arK (46 : Nat) (arK (48 : Nat) (of32 a) a (4 : Int) b) (arN (48 : Nat) (of32 a) a (4 : Int) b) (4 : Int) b)
        (arN (46 : Nat) (arK (48 : Nat) (of32 a) a (4 : Int) b) (arN (48 : Nat) (of32 a) a (4 : Int) b) (4 : Int) b)
        (arK (49 : Nat) (of32 a) a (4 : Int) b) (arN (49 : Nat) (of32 a) a (4 : Int) b) ==
      (0 : Int)) ==
    true) =
  true,
      ((arE (45 : Nat)
        (arK (46 : Nat) (arK (48 : Nat) (of32 a) a (4 : Int) b) (arN (48 : Nat) (of32 a) a (4 : Int) b) (4 : Int) b)
        (arN (46 : Nat) (arK (48 : Nat) (of32 a) a (4 : Int) b) (arN (48 : Nat) (of32 a) a (4 : Int) b) (4 : Int) b)
        (arK (49 : Nat) (of32 a) a (4 : Int) b) (arN (49 : Nat) (of32 a) a (4 : Int) b) ==
      (0 : Int)) ==
    true) =
  true,
      ((arE (45 : Nat)
        (arK (46 : Nat) (arK (48 : Nat) (of32 a) a (4 : Int) b) (arN (48 : Nat) (of32 a) a (4 : Int) b) (4 : Int) b)
        (arN (46 : Nat) (arK (48 : Nat) (of32 a) a (4 : Int) b) (arN (48 : Nat) (of32 a) a (4 : Int) b) (4 : Int) b)
        (arK (49 : Nat) (of32 a) a (4 : Int) b) (arN (49 : Nat) (of32 a) a (4 : Int) b) ==
      (0 : Int)) ==
    true) =
  true,
      (arE (46 : Nat) (arK (48 : Nat) (of32 a) a (4 : Int) b) (arN (48 : Nat) (of32 a) a (4 : Int) b) (4 : Int) b ==
    (0 : Int)) =
  true,
      ((arE (46 : Nat) (arK (48 : Nat) (of32 a) a (4 : Int) b) (arN (48 : Nat) (of32 a) a (4 : Int) b) (4 : Int) b ==
      (0 : Int)) ==
    true) =
  true,
      ((arE (46 : Nat) (arK (48 : Nat) (of32 a) a (4 : Int) b) (arN (48 : Nat) (of32 a) a (4 : Int) b) (4 : Int) b ==
      (0 : Int)) ==
    true) =
  true,
      (arE (49 : Nat) (of32 a) a (4 : Int) b == (0 : Int)) = true,
      ((arE (49 : Nat) (of32 a) a (4 : Int) b == (0 : Int)) == true) = true,
      ((arE (49 : Nat) (of32 a) a (4 : Int) b == (0 : Int)) == true) = true,
      R (arN (46 : Nat) (arK (48 : Nat) (of32 a) a (4 : Int) b) (arN (48 : Nat) (of32 a) a (4 : Int) b) (4 : Int) b),
      R (arN (49 : Nat) (of32 a) a (4 : Int) b),
      R (arN (48 : Nat) (of32 a) a (4 : Int) b),
      R b,
      (arE (48 : Nat) (of32 a) a (4 : Int) b != (0 : Int)) = false,
      (b == (0 : Int)) = false,
      R a,
      R b,
      R a,
      R b,
      w0 = false,
      (arN (47 : Nat) (arK (45 : Nat) (of32 a) a (4 : Int) b) (arN (45 : Nat) (of32 a) a (4 : Int) b) (4 : Int) b != a) =
  false,
      (arK (47 : Nat) (arK (45 : Nat) (of32 a) a (4 : Int) b) (arN (45 : Nat) (of32 a) a (4 : Int) b) (4 : Int) b !=
    (4 : Int)) =
  true,
      ((arN (47 : Nat) (arK (45 : Nat) (of32 a) a (4 : Int) b) (arN (45 : Nat) (of32 a) a (4 : Int) b) (4 : Int) b != a) ==
    false) =
  true,
      ((arK (47 : Nat) (arK (45 : Nat) (of32 a) a (4 : Int) b) (arN (45 : Nat) (of32 a) a (4 : Int) b) (4 : Int) b !=
      (4 : Int)) ==
    true) =
  true,
      (0 : Int) ≤ (0 : Int) ∧ (0 : Int) < ↑(2 : Nat),
      ((arK (47 : Nat) (arK (45 : Nat) (of32 a) a (4 : Int) b) (arN (45 : Nat) (of32 a) a (4 : Int) b) (4 : Int) b !=
      (4 : Int)) ==
    true) =
  true,
      ((arN (47 : Nat) (arK (45 : Nat) (of32 a) a (4 : Int) b) (arN (45 : Nat) (of32 a) a (4 : Int) b) (4 : Int) b != a) ==
    false) =
  true,
      ((arN (47 : Nat) (arK (45 : Nat) (of32 a) a (4 : Int) b) (arN (45 : Nat) (of32 a) a (4 : Int) b) (4 : Int) b != a) ==
    false) =
  true,
      ((arN (47 : Nat) (arK (45 : Nat) (of32 a) a (4 : Int) b) (arN (45 : Nat) (of32 a) a (4 : Int) b) (4 : Int) b != a) ==
    false) =
  true,
      ((arN (47 : Nat) (arK (45 : Nat) (of32 a) a (4 : Int) b) (arN (45 : Nat) (of32 a) a (4 : Int) b) (4 : Int) b != a) ==
    false) =
  true,
      (arE (47 : Nat) (arK (45 : Nat) (of32 a) a (4 : Int) b) (arN (45 : Nat) (of32 a) a (4 : Int) b) (4 : Int) b !=
    (0 : Int)) =
  false,
      ((arE (47 : Nat) (arK (45 : Nat) (of32 a) a (4 : Int) b) (arN (45 : Nat) (of32 a) a (4 : Int) b) (4 : Int) b !=
      (0 : Int)) ==
    false) =
  true,
      ((arE (47 : Nat) (arK (45 : Nat) (of32 a) a (4 : Int) b) (arN (45 : Nat) (of32 a) a (4 : Int) b) (4 : Int) b !=
      (0 : Int)) ==
    false) =
  true,
      ((arE (47 : Nat) (arK (45 : Nat) (of32 a) a (4 : Int) b) (arN (45 : Nat) (of32 a) a (4 : Int) b) (4 : Int) b !=
      (0 : Int)) ==
    false) =
  true,
      ((arE (47 : Nat) (arK (45 : Nat) (of32 a) a (4 : Int) b) (arN (45 : Nat) (of32 a) a (4 : Int) b) (4 : Int) b !=
      (0 : Int)) ==
    false) =
  true,
      R (arN (45 : Nat) (of32 a) a (4 : Int) b),
      R b,
      (arE (45 : Nat) (of32 a) a (4 : Int) b == (0 : Int)) = true,
      R a,
      R b,
      w1 = true,
      (0 : Int) ≤ (1 : Int) ∧ (1 : Int) < ↑(2 : Nat),
      w0 = false,
      (0 : Int) ≤ (0 : Int) ∧ (0 : Int) < ↑(2 : Nat),
      R b,
      R a,
      (!true) = false]) by kernel_rfl) (by simp only [all_cons, all_nil]; simp [*])

theorem l4_65 (a : Int) (b : Int) (w0 : Bool) (w1 : Bool)
    (h0 : w0 = false)
    (h1 : w1 = true)
    (h2 : (arE (45 : Nat) (of32 a) a (4 : Int) b == (0 : Int)) = true)
    (h3 : (arE (47 : Nat) (arK (45 : Nat) (of32 a) a (4 : Int) b) (arN (45 : Nat) (of32 a) a (4 : Int) b) (4 : Int) b !=
    (0 : Int)) =
  false)
    (h4 : (arN (47 : Nat) (arK (45 : Nat) (of32 a) a (4 : Int) b) (arN (45 : Nat) (of32 a) a (4 : Int) b) (4 : Int) b != a) =
  false)
    (h5 : (arK (47 : Nat) (arK (45 : Nat) (of32 a) a (4 : Int) b) (arN (45 : Nat) (of32 a) a (4 : Int) b) (4 : Int) b !=
    (4 : Int)) =
  true)
    (h6 : (b == (0 : Int)) = false)
    (h7 : (arE (48 : Nat) (of32 a) a (4 : Int) b != (0 : Int)) = false)
    (h8 : (arE (49 : Nat) (of32 a) a (4 : Int) b == (0 : Int)) = true)
    (h9 : (arE (46 : Nat) (arK (48 : Nat) (of32 a) a (4 : Int) b) (arN (48 : Nat) (of32 a) a (4 : Int) b) (4 : Int) b ==
    (0 : Int)) =
  true)
    (h10 : (arE (45 : Nat)
      (arK (46 : Nat) (arK (48 : Nat) (of32 a) a (4 : Int) b) (arN (48 : Nat) (of32 a) a (4 : Int) b) (4 : Int) b)
      (arN (46 : Nat) (arK (48 : Nat) (of32 a) a (4 : Int) b) (arN (48 : Nat) (of32 a) a (4 : Int) b) (4 : Int) b)
      (arK (49 : Nat) (of32 a) a (4 : Int) b) (arN (49 : Nat) (of32 a) a (4 : Int) b) ==
    (0 : Int)) =
  true)
    (h11 : (arN (45 : Nat)
      (arK (46 : Nat) (arK (48 : Nat) (of32 a) a (4 : Int) b) (arN (48 : Nat) (of32 a) a (4 : Int) b) (4 : Int) b)
      (arN (46 : Nat) (arK (48 : Nat) (of32 a) a (4 : Int) b) (arN (48 : Nat) (of32 a) a (4 : Int) b) (4 : Int) b)
      (arK (49 : Nat) (of32 a) a (4 : Int) b) (arN (49 : Nat) (of32 a) a (4 : Int) b) ==
    a) =
  true)
    (h12 : (arN (49 : Nat) (of32 a) a (4 : Int) b == (0 : Int)) = false)
    (h13 : R (arN (46 : Nat) (arK (48 : Nat) (of32 a) a (4 : Int) b) (arN (48 : Nat) (of32 a) a (4 : Int) b) (4 : Int) b))
    (h14 : R (arN (49 : Nat) (of32 a) a (4 : Int) b))
    (h15 : R (arN (48 : Nat) (of32 a) a (4 : Int) b))
    (h16 : R b)
    (h17 : R a)
    (h18 : (0 : Int) ≤ (0 : Int) ∧ (0 : Int) < ↑(2 : Nat))
    (h19 : R (arN (45 : Nat) (of32 a) a (4 : Int) b))
    (h20 : (0 : Int) ≤ (1 : Int) ∧ (1 : Int) < ↑(2 : Nat)) :
    ∃ X, Ev c0.P c0.T (.call 4 [.int .i64 a, .int .i64 b, .agg [.bool w0, .bool w1]] [] (D.bool (decide (arN (49 : Nat) (of32 a) a (4 : Int) b < (0 : Int)) == decide (a < (0 : Int)))) ([] ++ X)) :=
  outC_ok cNOk (show outC 0 (q a b w0 w1 (.path [false, false, true, true, true, true, true, true, false, true, true, true, true, true, true, true, true, false, false, false, false, true, true, true, true, true, true, true, true, true, true, true, true, true, true, true, true, true, true, true, true, true, true, false, true])) = some (D.bool (decide (arN (49 : Nat) (of32 a) a (4 : Int) b < (0 : Int)) == decide (a < (0 : Int))), [],
    [(arN (45 : Nat)
      (arK (46 : Nat) (arK (48 : Nat) (of32 a) a (4 : Int) b) (arN (48 : Nat) (of32 a) a (4 : Int) b) (4 : Int) b)
      (arN (46 : Nat) (arK (48 : Nat) (of32 a) a (4 : Int) b) (arN (48 : Nat) (of32 a) a (4 : Int) b) (4 : Int) b)
      (arK (49 : Nat) (of32 a) a (4 : Int) b) (arN (49 : Nat) (of32 a) a (4 : Int) b) ==
    a) =
  true,
      (arN (49 : Nat) (of32 a) a (4 : Int) b == (0 : Int)) = false,
      ((arN (45 : Nat)
        (arK (46 : Nat) (arK (48 : Nat) (of32 a) a (4 : Int) b) (arN (48 : Nat) (of32 a) a (4 : Int) b) (4 : Int) b)
        (arN (46 : Nat) (arK (48 : Nat) (of32 a) a (4 : Int) b) (arN (48 : Nat) (of32 a) a (4 : Int) b) (4 : Int) b)
        (arK (49 : Nat) (of32 a) a (4 : Int) b) (arN (49 : Nat) (of32 a) a (4 : Int) b) ==
      a) ==
    true) =
  true,
      ((arN (49 : Nat) (of32 a) a (4 : Int) b == (0 : Int)) == false) = true,
      ((arN (49 : Nat) (of32 a) a (4 : Int) b == (0 : Int)) == false) = true,
      ((arN (49 : Nat) (of32 a) a (4 : Int) b == (0 : Int)) == false) = true,
      ((arN (49 : Nat) (of32 a) a (4 : Int) b == (0 : Int)) == false) = true,
      ((arN (49 : Nat) (of32 a) a (4 : Int) b == (0 : Int)) == false) = true,
      ((arN (49 : Nat) (of32 a) a (4 : Int) b == (0 : Int)) == false) = true,
      ((arN (45 : Nat)
        (arK (46 : Nat) (arK (48 : Nat) (of32 a) a (4 : Int) b) (arN (48 : Nat) (of32 a) a (4 : Int) b) (4 : Int) b)
        (arN (46 : Nat) (arK (48 : Nat) (of32 a) a (4 : Int) b) (arN (48 : Nat) (of32 a) a (4 : Int) b) (4 : Int) b)
        (arK (49 : Nat) (of32 a) a (4 : Int) b) (arN (49 : Nat) (of32 a) a (4 : Int) b) ==
      a) ==
    true) =
  true,
      ((arN (45 : Nat)
        (arK (46 : Nat) (arK (48 : Nat) (of32 a) a (4 : Int) b) (arN (48 : Nat) (of32 a) a (4 : Int) b) (4 : Int) b)
        (arN (46 : Nat) (arK (48 : Nat) (of32 a) a (4 : Int) b) (arN (48 : Nat) (of32 a) a (4 : Int) b) (4 : Int) b)
        (arK (49 : Nat) (of32 a) a (4 : Int) b) (arN (49 : Nat) (of32 a) a (4 : Int) b) ==
      a) ==
    true) =
  true,
      ((arN (45 : Nat)
        (arK (46 : Nat) (arK (48 : Nat) (of32 a) a (4 : Int) b) (arN (48 : Nat) (of32 a) a (4 : Int) b) (4 : Int) b)
        (arN (46 : Nat) (arK (48 : Nat) (of32 a) a (4 : Int) b) (arN (48 : Nat) (of32 a) a (4 : Int) b) (4 : Int) b)
        (arK (49 : Nat) (of32 a) a (4 : Int) b) (arN (49 : Nat) (of32 a) a (4 : Int) b) ==
      a) ==
    true) =
  true,
      ((arN (45 : Nat)
        (arK (46 : Nat) (arK (48 : Nat) (of32 a) a (4 : Int) b) (arN (48 : Nat) (of32 a) a (4 : Int) b) (4 : Int) b)
        (arN (46 : Nat) (arK (48 : Nat) (of32 a) a (4 : Int) b) (arN (48 : Nat) (of32 a) a (4 : Int) b) (4 : Int) b)
        (arK (49 : Nat) (of32 a) a (4 : Int) b) (arN (49 : Nat) (of32 a) a (4 : Int) b) ==
      a) ==
    true) =
  true,
      (arE (45 : Nat)
      (arK (46 : Nat) (arK (48 : Nat) (of32 a) a (4 : Int) b) (arN (48 : Nat) (of32 a) a (4 : Int) b) (4 : Int) b)
      (arN (46 : Nat) (arK (48 : Nat) (of32 a) a (4 : Int) b) (arN (48 : Nat) (of32 a) a (4 : Int) b) (4 : Int) b)
      (arK (49 : Nat) (of32 a) a (4 : Int) b) (arN (49 : Nat) (of32 a) a (4 : Int) b) ==
    (0 : Int)) =
  true,
      ((arE (45 : Nat)
        (arK (46 : Nat) (arK (48 : Nat) (of32 a) a (4 : Int) b) (arN (48 : Nat) (of32 a) a (4 : Int) b) (4 : Int) b)
        (arN (46 : Nat) (arK (48 : Nat) (of32 a) a (4 : Int) b) (arN (48 : Nat) (of32 a) a (4 : Int) b) (4 : Int) b)
        (arK (49 : Nat) (of32 a) a (4 : Int) b) (arN (49 : Nat) (of32 a) a (4 : Int) b) ==
      (0 : Int)) ==
    true) =
  true,
      ((arE (45 : Nat)
        (arK (46 : Nat) (arK (48 : Nat) (of32 a) a (4 : Int) b) (arN (48 : Nat) (of32 a) a (4 : Int) b) (4 : Int) b)
        (arN (46 : Nat) (arK (48 : Nat) (of32 a) a (4 : Int) b) (arN (48 : Nat) (of32 a) a (4 : Int) b) (4 : Int) b)
        (arK (49 : Nat) (of32 a) a (4 : Int) b) (arN (49 : Nat) (of32 a) a (4 : Int) b) ==
      (0 : Int)) ==
    true) =
  true,
      ((arE (45 : Nat)
        (arK (46 : Nat) (arK (48 : Nat) (of32 a) a (4 : Int) b) (arN (48 : Nat) (of32 a) a (4 : Int) b) (4 : Int) b)
        (arN (46 : Nat) (arK (48 : Nat) (of32 a) a (4 : Int) b) (arN (48 : Nat) (of32 a) a (4 : Int) b) (4 : Int) b)
        (arK (49 : Nat) (of32 a) a (4 : Int) b) (arN (49 : Nat) (of32 a) a (4 : Int) b) ==
      (0 : Int)) ==
    true) =
  true,
      ((arE (45 : Nat)
        (arK (46 : Nat) (arK (48 : Nat) (of32 a) a (4 : Int) b) (arN (48 : Nat) (of32 a) a (4 : Int) b) (4 : Int) b)
        (arN (46 : Nat) (arK (48 : Nat) (of32 a) a (4 : Int) b) (arN (48 : Nat) (of32 a) a (4 : Int) b) (4 : Int) b)
        (arK (49 : Nat) (of32 a) a (4 : Int) b) (arN (49 : Nat) (of32 a) a (4 : Int) b) ==
      (0 : Int)) ==
    true) =
  true,
      (arE (46 : Nat) (arK (48 : Nat) (of32 a) a (4 : Int) b) (arN (48 : Nat) (of32 a) a (4 : Int) b) (4 : Int) b ==
    (0 : Int)) =
  true,
      ((arE (46 : Nat) (arK (48 : Nat) (of32 a) a (4 : Int) b) (arN (48 : Nat) (of32 a) a (4 : Int) b) (4 : Int) b ==
      (0 : Int)) ==
    true) =
  true,
      ((arE (46 : Nat) (arK (48 : Nat) (of32 a) a (4 : Int) b) (arN (48 : Nat) (of32 a) a (4 : Int) b) (4 : Int) b ==
      (0 : Int)) ==
    true) =
  true,
      (arE (49 : Nat) (of32 a) a (4 : Int) b == (0 : Int)) = true,
      ((arE (49 : Nat) (of32 a) a (4 : Int) b == (0 : Int)) == true) = true,
      ((arE (49 : Nat) (of32 a) a (4 : Int) b == (0 : Int)) == true) = true,
      R (arN (46 : Nat) (arK (48 : Nat) (of32 a) a (4 : Int) b) (arN (48 : Nat) (of32 a) a (4 : Int) b) (4 : Int) b),
      R (arN (49 : Nat) (of32 a) a (4 : Int) b),
      R (arN (48 : Nat) (of32 a) a (4 : Int) b),
      R b,
      (arE (48 : Nat) (of32 a) a (4 : Int) b != (0 : Int)) = false,
      (b == (0 : Int)) = false,
      R a,
      R b,
      R a,
      R b,
      w0 = false,
      (arN (47 : Nat) (arK (45 : Nat) (of32 a) a (4 : Int) b) (arN (45 : Nat) (of32 a) a (4 : Int) b) (4 : Int) b != a) =
  false,
      (arK (47 : Nat) (arK (45 : Nat) (of32 a) a (4 : Int) b) (arN (45 : Nat) (of32 a) a (4 : Int) b) (4 : Int) b !=
    (4 : Int)) =
  true,
      ((arN (47 : Nat) (arK (45 : Nat) (of32 a) a (4 : Int) b) (arN (45 : Nat) (of32 a) a (4 : Int) b) (4 : Int) b != a) ==
    false) =
  true,
      ((arK (47 : Nat) (arK (45 : Nat) (of32 a) a (4 : Int) b) (arN (45 : Nat) (of32 a) a (4 : Int) b) (4 : Int) b !=
      (4 : Int)) ==
    true) =
  true,
      (0 : Int) ≤ (0 : Int) ∧ (0 : Int) < ↑(2 : Nat),
      ((arK (47 : Nat) (arK (45 : Nat) (of32 a) a (4 : Int) b) (arN (45 : Nat) (of32 a) a (4 : Int) b) (4 : Int) b !=
      (4 : Int)) ==
    true) =
  true,
      ((arN (47 : Nat) (arK (45 : Nat) (of32 a) a (4 : Int) b) (arN (45 : Nat) (of32 a) a (4 : Int) b) (4 : Int) b != a) ==
    false) =
  true,
      ((arN (47 : Nat) (arK (45 : Nat) (of32 a) a (4 : Int) b) (arN (45 : Nat) (of32 a) a (4 : Int) b) (4 : Int) b != a) ==
    false) =
  true,
      ((arN (47 : Nat) (arK (45 : Nat) (of32 a) a (4 : Int) b) (arN (45 : Nat) (of32 a) a (4 : Int) b) (4 : Int) b != a) ==
    false) =
  true,
      ((arN (47 : Nat) (arK (45 : Nat) (of32 a) a (4 : Int) b) (arN (45 : Nat) (of32 a) a (4 : Int) b) (4 : Int) b != a) ==
    false) =
  true,
      (arE (47 : Nat) (arK (45 : Nat) (of32 a) a (4 : Int) b) (arN (45 : Nat) (of32 a) a (4 : Int) b) (4 : Int) b !=
    (0 : Int)) =
  false,
      ((arE (47 : Nat) (arK (45 : Nat) (of32 a) a (4 : Int) b) (arN (45 : Nat) (of32 a) a (4 : Int) b) (4 : Int) b !=
      (0 : Int)) ==
    false) =
  true,
      ((arE (47 : Nat) (arK (45 : Nat) (of32 a) a (4 : Int) b) (arN (45 : Nat) (of32 a) a (4 : Int) b) (4 : Int) b !=
      (0 : Int)) ==
    false) =
  true,
      ((arE (47 : Nat) (arK (45 : Nat) (of32 a) a (4 : Int) b) (arN (45 : Nat) (of32 a) a (4 : Int) b) (4 : Int) b !=
      (0 : Int)) ==
    false) =
  true,
      ((arE (47 : Nat) (arK (45 : Nat) (of32 a) a (4 : Int) b) (arN (45 : Nat) (of32 a) a (4 : Int) b) (4 : Int) b !=
      (0 : Int)) ==
    false) =
  true,
      R (arN (45 : Nat) (of32 a) a (4 : Int) b),
      R b,
      (arE (45 : Nat) (of32 a) a (4 : Int) b == (0 : Int)) = true,
      R a,
      R b,
      w1 = true,
      (0 : Int) ≤ (1 : Int) ∧ (1 : Int) < ↑(2 : Nat),
      w0 = false,
      (0 : Int) ≤ (0 : Int) ∧ (0 : Int) < ↑(2 : Nat),
      R b,
      R a,
      (!true) = false]) by kernel_rfl) (by simp only [all_cons, all_nil]; simp [*])

theorem l4_70 (a : Int) (b : Int) (w0 : Bool) (w1 : Bool)
    (h0 : w0 = false)
    (h1 : w1 = true)
    (h2 : (arE (45 : Nat) (of32 a) a (4 : Int) b == (0 : Int)) = true)
    (h3 : (arE (47 : Nat) (arK (45 : Nat) (of32 a) a (4 : Int) b) (arN (45 : Nat) (of32 a) a (4 : Int) b) (4 : Int) b !=
    (0 : Int)) =
  false)
    (h4 : (arN (47 : Nat) (arK (45 : Nat) (of32 a) a (4 : Int) b) (arN (45 : Nat) (of32 a) a (4 : Int) b) (4 : Int) b != a) =
  false)
    (h5 : (arK (47 : Nat) (arK (45 : Nat) (of32 a) a (4 : Int) b) (arN (45 : Nat) (of32 a) a (4 : Int) b) (4 : Int) b !=
    (4 : Int)) =
  false)
    (h6 : (b == (0 : Int)) = true)
    (h7 : (arE (48 : Nat) (of32 a) a (4 : Int) b == (11 : Int)) = true)
    (h8 : R a)
    (h9 : R b)
    (h10 : R (arN (45 : Nat) (of32 a) a (4 : Int) b))
    (h11 : (0 : Int) ≤ (1 : Int) ∧ (1 : Int) < ↑(2 : Nat))
    (h12 : (0 : Int) ≤ (0 : Int) ∧ (0 : Int) < ↑(2 : Nat)) :
    ∃ X, Ev c0.P c0.T (.call 4 [.int .i64 a, .int .i64 b, .agg [.bool w0, .bool w1]] [] (D.bool (arE (49 : Nat) (of32 a) a (4 : Int) b == (11 : Int))) ([] ++ X)) :=
  outC_ok cNOk (show outC 0 (q a b w0 w1 (.path [false, false, true, true, true, true, true, true, false, true, true, true, true, false, false, true, false, false, false, true, true, true, true])) = some (D.bool (arE (49 : Nat) (of32 a) a (4 : Int) b == (11 : Int)), [],
    [(arE (48 : Nat) (of32 a) a (4 : Int) b == (11 : Int)) = true,
      ((arE (48 : Nat) (of32 a) a (4 : Int) b == (11 : Int)) == true) = true,
      ((arE (48 : Nat) (of32 a) a (4 : Int) b == (11 : Int)) == true) = true,
      (b == (0 : Int)) = true,
      R a,
      R b,
      R a,
      R b,
      false = false,
      (arN (47 : Nat) (arK (45 : Nat) (of32 a) a (4 : Int) b) (arN (45 : Nat) (of32 a) a (4 : Int) b) (4 : Int) b != a) =
  false,
      (arK (47 : Nat) (arK (45 : Nat) (of32 a) a (4 : Int) b) (arN (45 : Nat) (of32 a) a (4 : Int) b) (4 : Int) b !=
    (4 : Int)) =
  false,
      ((arN (47 : Nat) (arK (45 : Nat) (of32 a) a (4 : Int) b) (arN (45 : Nat) (of32 a) a (4 : Int) b) (4 : Int) b != a) ==
    false) =
  true,
      ((arK (47 : Nat) (arK (45 : Nat) (of32 a) a (4 : Int) b) (arN (45 : Nat) (of32 a) a (4 : Int) b) (4 : Int) b !=
      (4 : Int)) ==
    true) =
  false,
      ((arK (47 : Nat) (arK (45 : Nat) (of32 a) a (4 : Int) b) (arN (45 : Nat) (of32 a) a (4 : Int) b) (4 : Int) b !=
      (4 : Int)) ==
    true) =
  false,
      ((arN (47 : Nat) (arK (45 : Nat) (of32 a) a (4 : Int) b) (arN (45 : Nat) (of32 a) a (4 : Int) b) (4 : Int) b != a) ==
    false) =
  true,
      ((arN (47 : Nat) (arK (45 : Nat) (of32 a) a (4 : Int) b) (arN (45 : Nat) (of32 a) a (4 : Int) b) (4 : Int) b != a) ==
    false) =
  true,
      ((arN (47 : Nat) (arK (45 : Nat) (of32 a) a (4 : Int) b) (arN (45 : Nat) (of32 a) a (4 : Int) b) (4 : Int) b != a) ==
    false) =
  true,
      ((arN (47 : Nat) (arK (45 : Nat) (of32 a) a (4 : Int) b) (arN (45 : Nat) (of32 a) a (4 : Int) b) (4 : Int) b != a) ==
    false) =
  true,
      (arE (47 : Nat) (arK (45 : Nat) (of32 a) a (4 : Int) b) (arN (45 : Nat) (of32 a) a (4 : Int) b) (4 : Int) b !=
    (0 : Int)) =
  false,
      ((arE (47 : Nat) (arK (45 : Nat) (of32 a) a (4 : Int) b) (arN (45 : Nat) (of32 a) a (4 : Int) b) (4 : Int) b !=
      (0 : Int)) ==
    false) =
  true,
      ((arE (47 : Nat) (arK (45 : Nat) (of32 a) a (4 : Int) b) (arN (45 : Nat) (of32 a) a (4 : Int) b) (4 : Int) b !=
      (0 : Int)) ==
    false) =
  true,
      ((arE (47 : Nat) (arK (45 : Nat) (of32 a) a (4 : Int) b) (arN (45 : Nat) (of32 a) a (4 : Int) b) (4 : Int) b !=
      (0 : Int)) ==
    false) =
  true,
      ((arE (47 : Nat) (arK (45 : Nat) (of32 a) a (4 : Int) b) (arN (45 : Nat) (of32 a) a (4 : Int) b) (4 : Int) b !=
      (0 : Int)) ==
    false) =
  true,
      R (arN (45 : Nat) (of32 a) a (4 : Int) b),
      R b,
      (arE (45 : Nat) (of32 a) a (4 : Int) b == (0 : Int)) = true,
      R a,
      R b,
      w1 = true,
      (0 : Int) ≤ (1 : Int) ∧ (1 : Int) < ↑(2 : Nat),
      w0 = false,
      (0 : Int) ≤ (0 : Int) ∧ (0 : Int) < ↑(2 : Nat),
      R b,
      R a,
      (!true) = false]) by kernel_rfl) (by simp only [all_cons, all_nil]; simp [*])

theorem l4_72 (a : Int) (b : Int) (w0 : Bool) (w1 : Bool)
    (h0 : w0 = false)
    (h1 : w1 = true)
    (h2 : (arE (45 : Nat) (of32 a) a (4 : Int) b == (0 : Int)) = true)
    (h3 : (arE (47 : Nat) (arK (45 : Nat) (of32 a) a (4 : Int) b) (arN (45 : Nat) (of32 a) a (4 : Int) b) (4 : Int) b !=
    (0 : Int)) =
  false)
    (h4 : (arN (47 : Nat) (arK (45 : Nat) (of32 a) a (4 : Int) b) (arN (45 : Nat) (of32 a) a (4 : Int) b) (4 : Int) b != a) =
  false)
    (h5 : (arK (47 : Nat) (arK (45 : Nat) (of32 a) a (4 : Int) b) (arN (45 : Nat) (of32 a) a (4 : Int) b) (4 : Int) b !=
    (4 : Int)) =
  false)
    (h6 : (b == (0 : Int)) = false)
    (h7 : (arE (48 : Nat) (of32 a) a (4 : Int) b != (0 : Int)) = true)
    (h8 : (a == (-9223372036854775808 : Int)) = true)
    (h9 : (b == (-1 : Int)) = true)
    (h10 : (arE (49 : Nat) (of32 a) a (4 : Int) b == (0 : Int)) = true)
    (h11 : R a)
    (h12 : R b)
    (h13 : R (arN (45 : Nat) (of32 a) a (4 : Int) b))
    (h14 : (0 : Int) ≤ (1 : Int) ∧ (1 : Int) < ↑(2 : Nat))
    (h15 : (0 : Int) ≤ (0 : Int) ∧ (0 : Int) < ↑(2 : Nat)) :
    ∃ X, Ev c0.P c0.T (.call 4 [.int .i64 a, .int .i64 b, .agg [.bool w0, .bool w1]] [] (D.bool (arN (49 : Nat) (of32 a) a (4 : Int) b == (0 : Int))) ([] ++ X)) :=
  outC_ok cNOk (show outC 0 (q a b w0 w1 (.path [false, false, true, true, true, true, true, true, false, true, true, true, true, false, false, true, false, false, false, false, true, true, true, true, true, true, true, true, true, true, true])) = some (D.bool (arN (49 : Nat) (of32 a) a (4 : Int) b == (0 : Int)), [],
    [(arE (49 : Nat) (of32 a) a (4 : Int) b == (0 : Int)) = true,
      ((arE (49 : Nat) (of32 a) a (4 : Int) b == (0 : Int)) == true) = true,
      ((arE (49 : Nat) (of32 a) a (4 : Int) b == (0 : Int)) == true) = true,
      ((arE (49 : Nat) (of32 a) a (4 : Int) b == (0 : Int)) == true) = true,
      (b == (-1 : Int)) = true,
      ((b == (-1 : Int)) == true) = true,
      ((b == (-1 : Int)) == true) = true,
      (a == (-9223372036854775808 : Int)) = true,
      ((a == (-9223372036854775808 : Int)) == true) = true,
      ((a == (-9223372036854775808 : Int)) == true) = true,
      (arE (48 : Nat) (of32 a) a (4 : Int) b != (0 : Int)) = true,
      (b == (0 : Int)) = false,
      R a,
      R b,
      R a,
      R b,
      false = false,
      (arN (47 : Nat) (arK (45 : Nat) (of32 a) a (4 : Int) b) (arN (45 : Nat) (of32 a) a (4 : Int) b) (4 : Int) b != a) =
  false,
      (arK (47 : Nat) (arK (45 : Nat) (of32 a) a (4 : Int) b) (arN (45 : Nat) (of32 a) a (4 : Int) b) (4 : Int) b !=
    (4 : Int)) =
  false,
      ((arN (47 : Nat) (arK (45 : Nat) (of32 a) a (4 : Int) b) (arN (45 : Nat) (of32 a) a (4 : Int) b) (4 : Int) b != a) ==
    false) =
  true,
      ((arK (47 : Nat) (arK (45 : Nat) (of32 a) a (4 : Int) b) (arN (45 : Nat) (of32 a) a (4 : Int) b) (4 : Int) b !=
      (4 : Int)) ==
    true) =
  false,
      ((arK (47 : Nat) (arK (45 : Nat) (of32 a) a (4 : Int) b) (arN (45 : Nat) (of32 a) a (4 : Int) b) (4 : Int) b !=
      (4 : Int)) ==
    true) =
  false,
      ((arN (47 : Nat) (arK (45 : Nat) (of32 a) a (4 : Int) b) (arN (45 : Nat) (of32 a) a (4 : Int) b) (4 : Int) b != a) ==
    false) =
  true,
      ((arN (47 : Nat) (arK (45 : Nat) (of32 a) a (4 : Int) b) (arN (45 : Nat) (of32 a) a (4 : Int) b) (4 : Int) b != a) ==
    false) =
  true,
      ((arN (47 : Nat) (arK (45 : Nat) (of32 a) a (4 : Int) b) (arN (45 : Nat) (of32 a) a (4 : Int) b) (4 : Int) b != a) ==
    false) =
  true,
      ((arN (47 : Nat) (arK (45 : Nat) (of32 a) a (4 : Int) b) (arN (45 : Nat) (of32 a) a (4 : Int) b) (4 : Int) b != a) ==
    false) =
  true,
      (arE (47 : Nat) (arK (45 : Nat) (of32 a) a (4 : Int) b) (arN (45 : Nat) (of32 a) a (4 : Int) b) (4 : Int) b !=
    (0 : Int)) =
  false,
      ((arE (47 : Nat) (arK (45 : Nat) (of32 a) a (4 : Int) b) (arN (45 : Nat) (of32 a) a (4 : Int) b) (4 : Int) b !=
      (0 : Int)) ==
    false) =
  true,
      ((arE (47 : Nat) (arK (45 : Nat) (of32 a) a (4 : Int) b) (arN (45 : Nat) (of32 a) a (4 : Int) b) (4 : Int) b !=
      (0 : Int)) ==
    false) =
  true,
      ((arE (47 : Nat) (arK (45 : Nat) (of32 a) a (4 : Int) b) (arN (45 : Nat) (of32 a) a (4 : Int) b) (4 : Int) b !=
      (0 : Int)) ==
    false) =
  true,
      ((arE (47 : Nat) (arK (45 : Nat) (of32 a) a (4 : Int) b) (arN (45 : Nat) (of32 a) a (4 : Int) b) (4 : Int) b !=
      (0 : Int)) ==
    false) =
  true,
      R (arN (45 : Nat) (of32 a) a (4 : Int) b),
      R b,
      (arE (45 : Nat) (of32 a) a (4 : Int) b == (0 : Int)) = true,
      R a,
      R b,
      w1 = true,
      (0 : Int) ≤ (1 : Int) ∧ (1 : Int) < ↑(2 : Nat),
      w0 = false,
      (0 : Int) ≤ (0 : Int) ∧ (0 : Int) < ↑(2 : Nat),
      R b,
      R a,
      (!true) = false]) by kernel_rfl) (by simp only [all_cons, all_nil]; simp [*])

theorem l4_76 (a : Int) (b : Int) (w0 : Bool) (w1 : Bool)
    (h0 : w0 = false)
    (h1 : w1 = true)
    (h2 : (arE (45 : Nat) (of32 a) a (4 : Int) b == (0 : Int)) = true)
    (h3 : (arE (47 : Nat) (arK (45 : Nat) (of32 a) a (4 : Int) b) (arN (45 : Nat) (of32 a) a (4 : Int) b) (4 : Int) b !=
    (0 : Int)) =
  false)
    (h4 : (arN (47 : Nat) (arK (45 : Nat) (of32 a) a (4 : Int) b) (arN (45 : Nat) (of32 a) a (4 : Int) b) (4 : Int) b != a) =
  false)
    (h5 : (arK (47 : Nat) (arK (45 : Nat) (of32 a) a (4 : Int) b) (arN (45 : Nat) (of32 a) a (4 : Int) b) (4 : Int) b !=
    (4 : Int)) =
  false)
    (h6 : (b == (0 : Int)) = false)
    (h7 : (arE (48 : Nat) (of32 a) a (4 : Int) b != (0 : Int)) = false)
    (h8 : (arE (49 : Nat) (of32 a) a (4 : Int) b == (0 : Int)) = true)
    (h9 : (arE (46 : Nat) (arK (48 : Nat) (of32 a) a (4 : Int) b) (arN (48 : Nat) (of32 a) a (4 : Int) b) (4 : Int) b ==
    (0 : Int)) =
  true)
    (h10 : (arE (45 : Nat)
      (arK (46 : Nat) (arK (48 : Nat) (of32 a) a (4 : Int) b) (arN (48 : Nat) (of32 a) a (4 : Int) b) (4 : Int) b)
      (arN (46 : Nat) (arK (48 : Nat) (of32 a) a (4 : Int) b) (arN (48 : Nat) (of32 a) a (4 : Int) b) (4 : Int) b)
      (arK (49 : Nat) (of32 a) a (4 : Int) b) (arN (49 : Nat) (of32 a) a (4 : Int) b) ==
    (0 : Int)) =
  true)
    (h11 : (arN (45 : Nat)
      (arK (46 : Nat) (arK (48 : Nat) (of32 a) a (4 : Int) b) (arN (48 : Nat) (of32 a) a (4 : Int) b) (4 : Int) b)
      (arN (46 : Nat) (arK (48 : Nat) (of32 a) a (4 : Int) b) (arN (48 : Nat) (of32 a) a (4 : Int) b) (4 : Int) b)
      (arK (49 : Nat) (of32 a) a (4 : Int) b) (arN (49 : Nat) (of32 a) a (4 : Int) b) ==
    a) =
  true)
    (h12 : (arN (49 : Nat) (of32 a) a (4 : Int) b == (0 : Int)) = true)
    (h13 : R (arN (46 : Nat) (arK (48 : Nat) (of32 a) a (4 : Int) b) (arN (48 : Nat) (of32 a) a (4 : Int) b) (4 : Int) b))
    (h14 : R (arN (49 : Nat) (of32 a) a (4 : Int) b))
    (h15 : R (arN (48 : Nat) (of32 a) a (4 : Int) b))
    (h16 : R b)
    (h17 : R a)
    (h18 : R (arN (45 : Nat) (of32 a) a (4 : Int) b))
    (h19 : (0 : Int) ≤ (1 : Int) ∧ (1 : Int) < ↑(2 : Nat))
    (h20 : (0 : Int) ≤ (0 : Int) ∧ (0 : Int) < ↑(2 : Nat)) :
    ∃ X, Ev c0.P c0.T (.call 4 [.int .i64 a, .int .i64 b, .agg [.bool w0, .bool w1]] [] (D.bool true) ([] ++ X)) :=
  outC_ok cNOk (show outC 0 (q a b w0 w1 (.path [false, false, true, true, true, true, true, true, false, true, true, true, true, false, false, true, false, false, false, false, false, true, true, true, true, true, true, true, true, true, true, true, true, true, true, true, false, false, false, false, false, false, true, true, true])) = some (D.bool true, [],
    [(arN (45 : Nat)
      (arK (46 : Nat) (arK (48 : Nat) (of32 a) a (4 : Int) b) (arN (48 : Nat) (of32 a) a (4 : Int) b) (4 : Int) b)
      (arN (46 : Nat) (arK (48 : Nat) (of32 a) a (4 : Int) b) (arN (48 : Nat) (of32 a) a (4 : Int) b) (4 : Int) b)
      (arK (49 : Nat) (of32 a) a (4 : Int) b) (arN (49 : Nat) (of32 a) a (4 : Int) b) ==
    a) =
  true,
      (arN (49 : Nat) (of32 a) a (4 : Int) b == (0 : Int)) = true,
      ((arN (45 : Nat)
        (arK (46 : Nat) (arK (48 : Nat) (of32 a) a (4 : Int) b) (arN (48 : Nat) (of32 a) a (4 : Int) b) (4 : Int) b)
        (arN (46 : Nat) (arK (48 : Nat) (of32 a) a (4 : Int) b) (arN (48 : Nat) (of32 a) a (4 : Int) b) (4 : Int) b)
        (arK (49 : Nat) (of32 a) a (4 : Int) b) (arN (49 : Nat) (of32 a) a (4 : Int) b) ==
      a) ==
    true) =
  true,
      ((arN (49 : Nat) (of32 a) a (4 : Int) b == (0 : Int)) == false) = false,
      ((arN (49 : Nat) (of32 a) a (4 : Int) b == (0 : Int)) == false) = false,
      ((arN (49 : Nat) (of32 a) a (4 : Int) b == (0 : Int)) == false) = false,
      ((arN (49 : Nat) (of32 a) a (4 : Int) b == (0 : Int)) == false) = false,
      ((arN (49 : Nat) (of32 a) a (4 : Int) b == (0 : Int)) == false) = false,
      ((arN (49 : Nat) (of32 a) a (4 : Int) b == (0 : Int)) == false) = false,
      ((arN (45 : Nat)
        (arK (46 : Nat) (arK (48 : Nat) (of32 a) a (4 : Int) b) (arN (48 : Nat) (of32 a) a (4 : Int) b) (4 : Int) b)
        (arN (46 : Nat) (arK (48 : Nat) (of32 a) a (4 : Int) b) (arN (48 : Nat) (of32 a) a (4 : Int) b) (4 : Int) b)
        (arK (49 : Nat) (of32 a) a (4 : Int) b) (arN (49 : Nat) (of32 a) a (4 : Int) b) ==
      a) ==
    true) =
  true,
      ((arN (45 : Nat)
        (arK (46 : Nat) (arK (48 : Nat) (of32 a) a (4 : Int) b) (arN (48 : Nat) (of32 a) a (4 : Int) b) (4 : Int) b)
        (arN (46 : Nat) (arK (48 : Nat) (of32 a) a (4 : Int) b) (arN (48 : Nat) (of32 a) a (4 : Int) b) (4 : Int) b)
        (arK (49 : Nat) (of32 a) a (4 : Int) b) (arN (49 : Nat) (of32 a) a (4 : Int) b) ==
      a) ==
    true) =
  true,
      ((arN (45 : Nat)
        (arK (46 : Nat) (arK (48 : Nat) (of32 a) a (4 : Int) b) (arN (48 : Nat) (of32 a) a (4 : Int) b) (4 : Int) b)
        (arN (46 : Nat) (arK (48 : Nat) (of32 a) a (4 : Int) b) (arN (48 : Nat) (of32 a) a (4 : Int) b) (4 : Int) b)
        (arK (49 : Nat) (of32 a) a (4 : Int) b) (arN (49 : Nat) (of32 a) a (4 : Int) b) ==
      a) ==
    true) =
  true,
      ((arN (45 : Nat)
        (arK (46 : Nat) (arK (48 : Nat) (of32 a) a (4 : Int) b) (arN (48 : Nat) (of32 a) a (4 : Int) b) (4 : Int) b)
        (arN (46 : Nat) (arK (48 : Nat) (of32 a) a (4 : Int) b) (arN (48 : Nat) (of32 a) a (4 : Int) b) (4 : Int) b)
        (arK (49 : Nat) (of32 a) a (4 : Int) b) (arN (49 : Nat) (of32 a) a (4 : Int) b) ==
      a) ==
    true) =
  true,
      (arE (45 : Nat)
      (arK (46 : Nat) (arK (48 : Nat) (of32 a) a (4 : Int) b) (arN (48 : Nat) (of32 a) a (4 : Int) b) (4 : Int) b)
      (arN (46 : Nat) (arK (48 : Nat) (of32 a) a (4 : Int) b) (arN (48 : Nat) (of32 a) a (4 : Int) b) (4 : Int) b)
      (arK (49 : Nat) (of32 a) a (4 : Int) b) (arN (49 : Nat) (of32 a) a (4 : Int) b) ==
    (0 : Int)) =
  true,
      ((arE (45 : Nat)
        (arK (46 : Nat) (arK (48 : Nat) (of32 a) a (4 : Int) b) (arN (48 : Nat) (of32 a) a (4 : Int) b) (4 : Int) b)
        (arN (46 : Nat) (arK (48 : Nat) (of32 a) a (4 : Int) b) (arN (48 : Nat) (of32 a) a (4 : Int) b) (4 : Int) b)
        (arK (49 : Nat) (of32 a) a (4 : Int) b) (arN (49 : Nat) (of32 a) a (4 : Int) b) ==
      (0 : Int)) ==
    true) =
  true,
      ((arE (45 : Nat)
        (arK (46 : Nat) (arK (48 : Nat) (of32 a) a (4 : Int) b) (arN (48 : Nat) (of32 a) a (4 : Int) b) (4 : Int) b)
        (arN (46 : Nat) (arK (48 : Nat) (of32 a) a (4 : Int) b) (arN (48 : Nat) (of32 a) a (4 : Int) b) (4 : Int) b)
        (arK (49 : Nat) (of32 a) a (4 : Int) b) (arN (49 : Nat) (of32 a) a (4 : Int) b) ==
      (0 : Int)) ==
    true) =
  true,
      ((arE (45 : Nat)
        (arK (46 : Nat) (arK (48 : Nat) (of32 a) a (4 : Int) b) (arN (48 : Nat) (of32 a) a (4 : Int) b) (4 : Int) b)
        (arN (46 : Nat) (arK (48 : Nat) (of32 a) a (4 : Int) b) (arN (48 : Nat) (of32 a) a (4 : Int) b) (4 : Int) b)
        (arK (49 : Nat) (of32 a) a (4 : Int) b) (arN (49 : Nat) (of32 a) a (4 : Int) b) ==
      (0 : Int)) ==
    true) =
  true,
      ((arE (45 : Nat)
        (arK (46 : Nat) (arK (48 : Nat) (of32 a) a (4 : Int) b) (arN (48 : Nat) (of32 a) a (4 : Int) b) (4 : Int) b)
        (arN (46 : Nat) (arK (48 : Nat) (of32 a) a (4 : Int) b) (arN (48 : Nat) (of32 a) a (4 : Int) b) (4 : Int) b)
        (arK (49 : Nat) (of32 a) a (4 : Int) b) (arN (49 : Nat) (of32 a) a (4 : Int) b) ==
      (0 : Int)) ==
    true) =
  true,
      (arE (46 : Nat) (arK (48 : Nat) (of32 a) a (4 : Int) b) (arN (48 : Nat) (of32 a) a (4 : Int) b) (4 : Int) b ==
    (0 : Int)) =
  true,
      ((arE (46 : Nat) (arK (48 : Nat) (of32 a) a (4 : Int) b) (arN (48 : Nat) (of32 a) a (4 : Int) b) (4 : Int) b ==
      (0 : Int)) ==
    true) =
  true,
      ((arE (46 : Nat) (arK (48 : Nat) (of32 a) a (4 : Int) b) (arN (48 : Nat) (of32 a) a (4 : Int) b) (4 : Int) b ==
      (0 : Int)) ==
    true) =
  true,
      (arE (49 : Nat) (of32 a) a (4 : Int) b == (0 : Int)) = true,
      ((arE (49 : Nat) (of32 a) a (4 : Int) b == (0 : Int)) == true) = true,
      ((arE (49 : Nat) (of32 a) a (4 : Int) b == (0 : Int)) == true) = true,
      R (arN (46 : Nat) (arK (48 : Nat) (of32 a) a (4 : Int) b) (arN (48 : Nat) (of32 a) a (4 : Int) b) (4 : Int) b),
      R (arN (49 : Nat) (of32 a) a (4 : Int) b),
      R (arN (48 : Nat) (of32 a) a (4 : Int) b),
      R b,
      (arE (48 : Nat) (of32 a) a (4 : Int) b != (0 : Int)) = false,
      (b == (0 : Int)) = false,
      R a,
      R b,
      R a,
      R b,
      false = false,
      (arN (47 : Nat) (arK (45 : Nat) (of32 a) a (4 : Int) b) (arN (45 : Nat) (of32 a) a (4 : Int) b) (4 : Int) b != a) =
  false,
      (arK (47 : Nat) (arK (45 : Nat) (of32 a) a (4 : Int) b) (arN (45 : Nat) (of32 a) a (4 : Int) b) (4 : Int) b !=
    (4 : Int)) =
  false,
      ((arN (47 : Nat) (arK (45 : Nat) (of32 a) a (4 : Int) b) (arN (45 : Nat) (of32 a) a (4 : Int) b) (4 : Int) b != a) ==
    false) =
  true,
      ((arK (47 : Nat) (arK (45 : Nat) (of32 a) a (4 : Int) b) (arN (45 : Nat) (of32 a) a (4 : Int) b) (4 : Int) b !=
      (4 : Int)) ==
    true) =
  false,
      ((arK (47 : Nat) (arK (45 : Nat) (of32 a) a (4 : Int) b) (arN (45 : Nat) (of32 a) a (4 : Int) b) (4 : Int) b !=
      (4 : Int)) ==
    true) =
  false,
      ((arN (47 : Nat) (arK (45 : Nat) (of32 a) a (4 : Int) b) (arN (45 : Nat) (of32 a) a (4 : Int) b) (4 : Int) b != a) ==
    false) =
  true,
      ((arN (47 : Nat) (arK (45 : Nat) (of32 a) a (4 : Int) b) (arN (45 : Nat) (of32 a) a (4 : Int) b) (4 : Int) b != a) ==
    false) =
  true,
      ((arN (47 : Nat) (arK (45 : Nat) (of32 a) a (4 : Int) b) (arN (45 : Nat) (of32 a) a (4 : Int) b) (4 : Int) b != a) ==
    false) =
  true,
      ((arN (47 : Nat) (arK (45 : Nat) (of32 a) a (4 : Int) b) (arN (45 : Nat) (of32 a) a (4 : Int) b) (4 : Int) b != a) ==
    false) =
  true,
      (arE (47 : Nat) (arK (45 : Nat) (of32 a) a (4 : Int) b) (arN (45 : Nat) (of32 a) a (4 : Int) b) (4 : Int) b !=
    (0 : Int)) =
  false,
      ((arE (47 : Nat) (arK (45 : Nat) (of32 a) a (4 : Int) b) (arN (45 : Nat) (of32 a) a (4 : Int) b) (4 : Int) b !=
      (0 : Int)) ==
    false) =
  true,
      ((arE (47 : Nat) (arK (45 : Nat) (of32 a) a (4 : Int) b) (arN (45 : Nat) (of32 a) a (4 : Int) b) (4 : Int) b !=
      (0 : Int)) ==
    false) =
  true,
      ((arE (47 : Nat) (arK (45 : Nat) (of32 a) a (4 : Int) b) (arN (45 : Nat) (of32 a) a (4 : Int) b) (4 : Int) b !=
      (0 : Int)) ==
    false) =
  true,
      ((arE (47 : Nat) (arK (45 : Nat) (of32 a) a (4 : Int) b) (arN (45 : Nat) (of32 a) a (4 : Int) b) (4 : Int) b !=
      (0 : Int)) ==
    false) =
  true,
      R (arN (45 : Nat) (of32 a) a (4 : Int) b),
      R b,
      (arE (45 : Nat) (of32 a) a (4 : Int) b == (0 : Int)) = true,
      R a,
      R b,
      w1 = true,
      (0 : Int) ≤ (1 : Int) ∧ (1 : Int) < ↑(2 : Nat),
      w0 = false,
      (0 : Int) ≤ (0 : Int) ∧ (0 : Int) < ↑(2 : Nat),
      R b,
      R a,
      (!true) = false]) by kernel_rfl) (by simp only [all_cons, all_nil]; simp [*])

theorem l4_77 (a : Int) (b : Int) (w0 : Bool) (w1 : Bool)
    (h0 : w0 = false)
    (h1 : w1 = true)
    (h2 : (arE (45 : Nat) (of32 a) a (4 : Int) b == (0 : Int)) = true)
    (h3 : (arE (47 : Nat) (arK (45 : Nat) (of32 a) a (4 : Int) b) (arN (45 : Nat) (of32 a) a (4 : Int) b) (4 : Int) b !=
    (0 : Int)) =
  false)
    (h4 : (arN (47 : Nat) (arK (45 : Nat) (of32 a) a (4 : Int) b) (arN (45 : Nat) (of32 a) a (4 : Int) b) (4 : Int) b != a) =
  false)
    (h5 : (arK (47 : Nat) (arK (45 : Nat) (of32 a) a (4 : Int) b) (arN (45 : Nat) (of32 a) a (4 : Int) b) (4 : Int) b !=
    (4 : Int)) =
  false)
    (h6 : (b == (0 : Int)) = false)
    (h7 : (arE (48 : Nat) (of32 a) a (4 : Int) b != (0 : Int)) = false)
    (h8 : (arE (49 : Nat) (of32 a) a (4 : Int) b == (0 : Int)) = true)
    (h9 : (arE (46 : Nat) (arK (48 : Nat) (of32 a) a (4 : Int) b) (arN (48 : Nat) (of32 a) a (4 : Int) b) (4 : Int) b ==
    (0 : Int)) =
  true)
    (h10 : (arE (45 : Nat)
      (arK (46 : Nat) (arK (48 : Nat) (of32 a) a (4 : Int) b) (arN (48 : Nat) (of32 a) a (4 : Int) b) (4 : Int) b)
      (arN (46 : Nat) (arK (48 : Nat) (of32 a) a (4 : Int) b) (arN (48 : Nat) (of32 a) a (4 : Int) b) (4 : Int) b)
      (arK (49 : Nat) (of32 a) a (4 : Int) b) (arN (49 : Nat) (of32 a) a (4 : Int) b) ==
    (0 : Int)) =
  true)
    (h11 : (arN (45 : Nat)
      (arK (46 : Nat) (arK (48 : Nat) (of32 a) a (4 : Int) b) (arN (48 : Nat) (of32 a) a (4 : Int) b) (4 : Int) b)
      (arN (46 : Nat) (arK (48 : Nat) (of32 a) a (4 : Int) b) (arN (48 : Nat) (of32 a) a (4 : Int) b) (4 : Int) b)
      (arK (49 : Nat) (of32 a) a (4 : Int) b) (arN (49 : Nat) (of32 a) a (4 : Int) b) ==
    a) =
  true)
    (h12 : (arN (49 : Nat) (of32 a) a (4 : Int) b == (0 : Int)) = false)
    (h13 : R (arN (46 : Nat) (arK (48 : Nat) (of32 a) a (4 : Int) b) (arN (48 : Nat) (of32 a) a (4 : Int) b) (4 : Int) b))
    (h14 : R (arN (49 : Nat) (of32 a) a (4 : Int) b))
    (h15 : R (arN (48 : Nat) (of32 a) a (4 : Int) b))
    (h16 : R b)
    (h17 : R a)
    (h18 : R (arN (45 : Nat) (of32 a) a (4 : Int) b))
    (h19 : (0 : Int) ≤ (1 : Int) ∧ (1 : Int) < ↑(2 : Nat))
    (h20 : (0 : Int) ≤ (0 : Int) ∧ (0 : Int) < ↑(2 : Nat)) :
    ∃ X, Ev c0.P c0.T (.call 4 [.int .i64 a, .int .i64 b, .agg [.bool w0, .bool w1]] [] (D.bool (decide (arN (49 : Nat) (of32 a) a (4 : Int) b < (0 : Int)) == decide (a < (0 : Int)))) ([] ++ X)) :=
  outC_ok cNOk (show outC 0 (q a b w0 w1 (.path [false, false, true, true, true, true, true, true, false, true, true, true, true, false, false, true, false, false, false, false, false, true, true, true, true, true, true, true, true, true, true, true, true, true, true, true, true, true, true, true, true, true, true, false, true])) = some (D.bool (decide (arN (49 : Nat) (of32 a) a (4 : Int) b < (0 : Int)) == decide (a < (0 : Int))), [],
    [(arN (45 : Nat)
      (arK (46 : Nat) (arK (48 : Nat) (of32 a) a (4 : Int) b) (arN (48 : Nat) (of32 a) a (4 : Int) b) (4 : Int) b)
      (arN (46 : Nat) (arK (48 : Nat) (of32 a) a (4 : Int) b) (arN (48 : Nat) (of32 a) a (4 : Int) b) (4 : Int) b)
      (arK (49 : Nat) (of32 a) a (4 : Int) b) (arN (49 : Nat) (of32 a) a (4 : Int) b) ==
    a) =
  true,
      (arN (49 : Nat) (of32 a) a (4 : Int) b == (0 : Int)) = false,
      ((arN (45 : Nat)
        (arK (46 : Nat) (arK (48 : Nat) (of32 a) a (4 : Int) b) (arN (48 : Nat) (of32 a) a (4 : Int) b) (4 : Int) b)
        (arN (46 : Nat) (arK (48 : Nat) (of32 a) a (4 : Int) b) (arN (48 : Nat) (of32 a) a (4 : Int) b) (4 : Int) b)
        (arK (49 : Nat) (of32 a) a (4 : Int) b) (arN (49 : Nat) (of32 a) a (4 : Int) b) ==
      a) ==
    true) =
  true,
      ((arN (49 : Nat) (of32 a) a (4 : Int) b == (0 : Int)) == false) = true,
      ((arN (49 : Nat) (of32 a) a (4 : Int) b == (0 : Int)) == false) = true,
      ((arN (49 : Nat) (of32 a) a (4 : Int) b == (0 : Int)) == false) = true,
      ((arN (49 : Nat) (of32 a) a (4 : Int) b == (0 : Int)) == false) = true,
      ((arN (49 : Nat) (of32 a) a (4 : Int) b == (0 : Int)) == false) = true,
      ((arN (49 : Nat) (of32 a) a (4 : Int) b == (0 : Int)) == false) = true,
      ((arN (45 : Nat)
        (arK (46 : Nat) (arK (48 : Nat) (of32 a) a (4 : Int) b) (arN (48 : Nat) (of32 a) a (4 : Int) b) (4 : Int) b)
        (arN (46 : Nat) (arK (48 : Nat) (of32 a) a (4 : Int) b) (arN (48 : Nat) (of32 a) a (4 : Int) b) (4 : Int) b)
        (arK (49 : Nat) (of32 a) a (4 : Int) b) (arN (49 : Nat) (of32 a) a (4 : Int) b) ==
      a) ==
    true) =
  true,
      ((arN (45 : Nat)
        (arK (46 : Nat) (arK (48 : Nat) (of32 a) a (4 : Int) b) (arN (48 : Nat) (of32 a) a (4 : Int) b) (4 : Int) b)
        (arN (46 : Nat) (arK (48 : Nat) (of32 a) a (4 : Int) b) (arN (48 : Nat) (of32 a) a (4 : Int) b) (4 : Int) b)
        (arK (49 : Nat) (of32 a) a (4 : Int) b) (arN (49 : Nat) (of32 a) a (4 : Int) b) ==
      a) ==
    true) =
  true,
      ((arN (45 : Nat)
        (arK (46 : Nat) (arK (48 : Nat) (of32 a) a (4 : Int) b) (arN (48 : Nat) (of32 a) a (4 : Int) b) (4 : Int) b)
        (arN (46 : Nat) (arK (48 : Nat) (of32 a) a (4 : Int) b) (arN (48 : Nat) (of32 a) a (4 : Int) b) (4 : Int) b)
        (arK (49 : Nat) (of32 a) a (4 : Int) b) (arN (49 : Nat) (of32 a) a (4 : Int) b) ==
      a) ==
    true) =
  true,
      ((arN (45 : Nat)
        (arK (46 : Nat) (arK (48 : Nat) (of32 a) a (4 : Int) b) (arN (48 : Nat) (of32 a) a (4 : Int) b) (4 : Int) b)
        (arN (46 : Nat) (arK (48 : Nat) (of32 a) a (4 : Int) b) (arN (48 : Nat) (of32 a) a (4 : Int) b) (4 : Int) b)
        (arK (49 : Nat) (of32 a) a (4 : Int) b) (arN (49 : Nat) (of32 a) a (4 : Int) b) ==
      a) ==
    true) =
  true,
      (arE (45 : Nat)
      (arK (46 : Nat) (arK (48 : Nat) (of32 a) a (4 : Int) b) (arN (48 : Nat) (of32 a) a (4 : Int) b) (4 : Int) b)
      (arN (46 : Nat) (arK (48 : Nat) (of32 a) a (4 : Int) b) (arN (48 : Nat) (of32 a) a (4 : Int) b) (4 : Int) b)
      (arK (49 : Nat) (of32 a) a (4 : Int) b) (arN (49 : Nat) (of32 a) a (4 : Int) b) ==
    (0 : Int)) =
  true,
      ((arE (45 : Nat)
        (arK (46 : Nat) (arK (48 : Nat) (of32 a) a (4 : Int) b) (arN (48 : Nat) (of32 a) a (4 : Int) b) (4 : Int) b)
        (arN (46 : Nat) (arK (48 : Nat) (of32 a) a (4 : Int) b) (arN (48 : Nat) (of32 a) a (4 : Int) b) (4 : Int) b)
        (arK (49 : Nat) (of32 a) a (4 : Int) b) (arN (49 : Nat) (of32 a) a (4 : Int) b) ==
      (0 : Int)) ==
    true) =
  true,
      ((arE (45 : Nat)
        (arK (46 : Nat) (arK (48 : Nat) (of32 a) a (4 : Int) b) (arN (48 : Nat) (of32 a) a (4 : Int) b) (4 : Int) b)
        (arN (46 : Nat) (arK (48 : Nat) (of32 a) a (4 : Int) b) (arN (48 : Nat) (of32 a) a (4 : Int) b) (4 : Int) b)
        (arK (49 : Nat) (of32 a) a (4 : Int) b) (arN (49 : Nat) (of32 a) a (4 : Int) b) ==
      (0 : Int)) ==
    true) =
  true,
      ((arE (45 : Nat)
        (arK (46 : Nat) (arK (48 : Nat) (of32 a) a (4 : Int) b) (arN (48 : Nat) (of32 a) a (4 : Int) b) (4 : Int) b)
        (arN (46 : Nat) (arK (48 : Nat) (of32 a) a (4 : Int) b) (arN (48 : Nat) (of32 a) a (4 : Int) b) (4 : Int) b)
        (arK (49 : Nat) (of32 a) a (4 : Int) b) (arN (49 : Nat) (of32 a) a (4 : Int) b) ==
      (0 : Int)) ==
    true) =
  true,
      ((arE (45 : Nat)
        (arK (46 : Nat) (arK (48 : Nat) (of32 a) a (4 : Int) b) (arN (48 : Nat) (of32 a) a (4 : Int) b) (4 : Int) b)
        (arN (46 : Nat) (arK (48 : Nat) (of32 a) a (4 : Int) b) (arN (48 : Nat) (of32 a) a (4 : Int) b) (4 : Int) b)
        (arK (49 : Nat) (of32 a) a (4 : Int) b) (arN (49 : Nat) (of32 a) a (4 : Int) b) ==
      (0 : Int)) ==
    true) =
  true,
      (arE (46 : Nat) (arK (48 : Nat) (of32 a) a (4 : Int) b) (arN (48 : Nat) (of32 a) a (4 : Int) b) (4 : Int) b ==
    (0 : Int)) =
  true,
      ((arE (46 : Nat) (arK (48 : Nat) (of32 a) a (4 : Int) b) (arN (48 : Nat) (of32 a) a (4 : Int) b) (4 : Int) b ==
      (0 : Int)) ==
    true) =
  true,
      ((arE (46 : Nat) (arK (48 : Nat) (of32 a) a (4 : Int) b) (arN (48 : Nat) (of32 a) a (4 : Int) b) (4 : Int) b ==
      (0 : Int)) ==
    true) =
  true,
      (arE (49 : Nat) (of32 a) a (4 : Int) b == (0 : Int)) = true,
      ((arE (49 : Nat) (of32 a) a (4 : Int) b == (0 : Int)) == true) = true,
      ((arE (49 : Nat) (of32 a) a (4 : Int) b == (0 : Int)) == true) = true,
      R (arN (46 : Nat) (arK (48 : Nat) (of32 a) a (4 : Int) b) (arN (48 : Nat) (of32 a) a (4 : Int) b) (4 : Int) b),
      R (arN (49 : Nat) (of32 a) a (4 : Int) b),
      R (arN (48 : Nat) (of32 a) a (4 : Int) b),
      R b,
      (arE (48 : Nat) (of32 a) a (4 : Int) b != (0 : Int)) = false,
      (b == (0 : Int)) = false,
      R a,
      R b,
      R a,
      R b,
      false = false,
      (arN (47 : Nat) (arK (45 : Nat) (of32 a) a (4 : Int) b) (arN (45 : Nat) (of32 a) a (4 : Int) b) (4 : Int) b != a) =
  false,
      (arK (47 : Nat) (arK (45 : Nat) (of32 a) a (4 : Int) b) (arN (45 : Nat) (of32 a) a (4 : Int) b) (4 : Int) b !=
    (4 : Int)) =
  false,
      ((arN (47 : Nat) (arK (45 : Nat) (of32 a) a (4 : Int) b) (arN (45 : Nat) (of32 a) a (4 : Int) b) (4 : Int) b != a) ==
    false) =
  true,
      ((arK (47 : Nat) (arK (45 : Nat) (of32 a) a (4 : Int) b) (arN (45 : Nat) (of32 a) a (4 : Int) b) (4 : Int) b !=
      (4 : Int)) ==
    true) =
  false,
      ((arK (47 : Nat) (arK (45 : Nat) (of32 a) a (4 : Int) b) (arN (45 : Nat) (of32 a) a (4 : Int) b) (4 : Int) b !=
      (4 : Int)) ==
    true) =
  false,
      ((arN (47 : Nat) (arK (45 : Nat) (of32 a) a (4 : Int) b) (arN (45 : Nat) (of32 a) a (4 : Int) b) (4 : Int) b != a) ==
    false) =
  true,
      ((arN (47 : Nat) (arK (45 : Nat) (of32 a) a (4 : Int) b) (arN (45 : Nat) (of32 a) a (4 : Int) b) (4 : Int) b != a) ==
    false) =
  true,
      ((arN (47 : Nat) (arK (45 : Nat) (of32 a) a (4 : Int) b) (arN (45 : Nat) (of32 a) a (4 : Int) b) (4 : Int) b != a) ==
    false) =
  true,
      ((arN (47 : Nat) (arK (45 : Nat) (of32 a) a (4 : Int) b) (arN (45 : Nat) (of32 a) a (4 : Int) b) (4 : Int) b != a) ==
    false) =
  true,
      (arE (47 : Nat) (arK (45 : Nat) (of32 a) a (4 : Int) b) (arN (45 : Nat) (of32 a) a (4 : Int) b) (4 : Int) b !=
    (0 : Int)) =
  false,
      ((arE (47 : Nat) (arK (45 : Nat) (of32 a) a (4 : Int) b) (arN (45 : Nat) (of32 a) a (4 : Int) b) (4 : Int) b !=
      (0 : Int)) ==
    false) =
  true,
      ((arE (47 : Nat) (arK (45 : Nat) (of32 a) a (4 : Int) b) (arN (45 : Nat) (of32 a) a (4 : Int) b) (4 : Int) b !=
      (0 : Int)) ==
    false) =
  true,
      ((arE (47 : Nat) (arK (45 : Nat) (of32 a) a (4 : Int) b) (arN (45 : Nat) (of32 a) a (4 : Int) b) (4 : Int) b !=
      (0 : Int)) ==
    false) =
  true,
      ((arE (47 : Nat) (arK (45 : Nat) (of32 a) a (4 : Int) b) (arN (45 : Nat) (of32 a) a (4 : Int) b) (4 : Int) b !=
      (0 : Int)) ==
    false) =
  true,
      R (arN (45 : Nat) (of32 a) a (4 : Int) b),
      R b,
      (arE (45 : Nat) (of32 a) a (4 : Int) b == (0 : Int)) = true,
      R a,
      R b,
      w1 = true,
      (0 : Int) ≤ (1 : Int) ∧ (1 : Int) < ↑(2 : Nat),
      w0 = false,
      (0 : Int) ≤ (0 : Int) ∧ (0 : Int) < ↑(2 : Nat),
      R b,
      R a,
      (!true) = false]) by kernel_rfl) (by simp only [all_cons, all_nil]; simp [*])

theorem l4_83 (a : Int) (b : Int) (w0 : Bool) (w1 : Bool)
    (h0 : w0 = false)
    (h1 : w1 = true)
    (h2 : (arE (45 : Nat) (of32 a) a (4 : Int) b == (0 : Int)) = false)
    (h3 : (arE (45 : Nat) (of32 a) a (4 : Int) b != (10 : Int)) = false)
    (h4 : (b == (0 : Int)) = true)
    (h5 : (arE (48 : Nat) (of32 a) a (4 : Int) b == (11 : Int)) = true)
    (h6 : R a)
    (h7 : R b)
    (h8 : (0 : Int) ≤ (1 : Int) ∧ (1 : Int) < ↑(2 : Nat))
    (h9 : (0 : Int) ≤ (0 : Int) ∧ (0 : Int) < ↑(2 : Nat)) :
    ∃ X, Ev c0.P c0.T (.call 4 [.int .i64 a, .int .i64 b, .agg [.bool w0, .bool w1]] [] (D.bool (arE (49 : Nat) (of32 a) a (4 : Int) b == (11 : Int))) ([] ++ X)) :=
  outC_ok cNOk (show outC 0 (q a b w0 w1 (.path [false, false, true, false, false, true, true, true, true])) = some (D.bool (arE (49 : Nat) (of32 a) a (4 : Int) b == (11 : Int)), [],
    [(arE (48 : Nat) (of32 a) a (4 : Int) b == (11 : Int)) = true,
      ((arE (48 : Nat) (of32 a) a (4 : Int) b == (11 : Int)) == true) = true,
      ((arE (48 : Nat) (of32 a) a (4 : Int) b == (11 : Int)) == true) = true,
      (b == (0 : Int)) = true,
      R a,
      R b,
      R a,
      R b,
      (arE (45 : Nat) (of32 a) a (4 : Int) b != (10 : Int)) = false,
      (arE (45 : Nat) (of32 a) a (4 : Int) b == (0 : Int)) = false,
      R a,
      R b,
      w1 = true,
      (0 : Int) ≤ (1 : Int) ∧ (1 : Int) < ↑(2 : Nat),
      w0 = false,
      (0 : Int) ≤ (0 : Int) ∧ (0 : Int) < ↑(2 : Nat),
      R b,
      R a,
      (!true) = false]) by kernel_rfl) (by simp only [all_cons, all_nil]; simp [*])

theorem l4_85 (a : Int) (b : Int) (w0 : Bool) (w1 : Bool)
    (h0 : w0 = false)
    (h1 : w1 = true)
    (h2 : (arE (45 : Nat) (of32 a) a (4 : Int) b == (0 : Int)) = false)
    (h3 : (arE (45 : Nat) (of32 a) a (4 : Int) b != (10 : Int)) = false)
    (h4 : (b == (0 : Int)) = false)
    (h5 : (arE (48 : Nat) (of32 a) a (4 : Int) b != (0 : Int)) = true)
    (h6 : (a == (-9223372036854775808 : Int)) = true)
    (h7 : (b == (-1 : Int)) = true)
    (h8 : (arE (49 : Nat) (of32 a) a (4 : Int) b == (0 : Int)) = true)
    (h9 : R a)
    (h10 : R b)
    (h11 : (0 : Int) ≤ (1 : Int) ∧ (1 : Int) < ↑(2 : Nat))
    (h12 : (0 : Int) ≤ (0 : Int) ∧ (0 : Int) < ↑(2 : Nat)) :
    ∃ X, Ev c0.P c0.T (.call 4 [.int .i64 a, .int .i64 b, .agg [.bool w0, .bool w1]] [] (D.bool (arN (49 : Nat) (of32 a) a (4 : Int) b == (0 : Int))) ([] ++ X)) :=
  outC_ok cNOk (show outC 0 (q a b w0 w1 (.path [false, false, true, false, false, false, true, true, true, true, true, true, true, true, true, true, true])) = some (D.bool (arN (49 : Nat) (of32 a) a (4 : Int) b == (0 : Int)), [],
    [(arE (49 : Nat) (of32 a) a (4 : Int) b == (0 : Int)) = true,
      ((arE (49 : Nat) (of32 a) a (4 : Int) b == (0 : Int)) == true) = true,
      ((arE (49 : Nat) (of32 a) a (4 : Int) b == (0 : Int)) == true) = true,
      ((arE (49 : Nat) (of32 a) a (4 : Int) b == (0 : Int)) == true) = true,
      (b == (-1 : Int)) = true,
      ((b == (-1 : Int)) == true) = true,
      ((b == (-1 : Int)) == true) = true,
      (a == (-9223372036854775808 : Int)) = true,
      ((a == (-9223372036854775808 : Int)) == true) = true,
      ((a == (-9223372036854775808 : Int)) == true) = true,
      (arE (48 : Nat) (of32 a) a (4 : Int) b != (0 : Int)) = true,
      (b == (0 : Int)) = false,
      R a,
      R b,
      R a,
      R b,
      (arE (45 : Nat) (of32 a) a (4 : Int) b != (10 : Int)) = false,
      (arE (45 : Nat) (of32 a) a (4 : Int) b == (0 : Int)) = false,
      R a,
      R b,
      w1 = true,
      (0 : Int) ≤ (1 : Int) ∧ (1 : Int) < ↑(2 : Nat),
      w0 = false,
      (0 : Int) ≤ (0 : Int) ∧ (0 : Int) < ↑(2 : Nat),
      R b,
      R a,
      (!true) = false]) by kernel_rfl) (by simp only [all_cons, all_nil]; simp [*])

theorem l4_89 (a : Int) (b : Int) (w0 : Bool) (w1 : Bool)
    (h0 : w0 = false)
    (h1 : w1 = true)
    (h2 : (arE (45 : Nat) (of32 a) a (4 : Int) b == (0 : Int)) = false)
    (h3 : (arE (45 : Nat) (of32 a) a (4 : Int) b != (10 : Int)) = false)
    (h4 : (b == (0 : Int)) = false)
    (h5 : (arE (48 : Nat) (of32 a) a (4 : Int) b != (0 : Int)) = false)
    (h6 : (arE (49 : Nat) (of32 a) a (4 : Int) b == (0 : Int)) = true)
    (h7 : (arE (46 : Nat) (arK (48 : Nat) (of32 a) a (4 : Int) b) (arN (48 : Nat) (of32 a) a (4 : Int) b) (4 : Int) b ==
    (0 : Int)) =
  true)
    (h8 : (arE (45 : Nat)
      (arK (46 : Nat) (arK (48 : Nat) (of32 a) a (4 : Int) b) (arN (48 : Nat) (of32 a) a (4 : Int) b) (4 : Int) b)
      (arN (46 : Nat) (arK (48 : Nat) (of32 a) a (4 : Int) b) (arN (48 : Nat) (of32 a) a (4 : Int) b) (4 : Int) b)
      (arK (49 : Nat) (of32 a) a (4 : Int) b) (arN (49 : Nat) (of32 a) a (4 : Int) b) ==
    (0 : Int)) =
  true)
    (h9 : (arN (45 : Nat)
      (arK (46 : Nat) (arK (48 : Nat) (of32 a) a (4 : Int) b) (arN (48 : Nat) (of32 a) a (4 : Int) b) (4 : Int) b)
      (arN (46 : Nat) (arK (48 : Nat) (of32 a) a (4 : Int) b) (arN (48 : Nat) (of32 a) a (4 : Int) b) (4 : Int) b)
      (arK (49 : Nat) (of32 a) a (4 : Int) b) (arN (49 : Nat) (of32 a) a (4 : Int) b) ==
    a) =
  true)
    (h10 : (arN (49 : Nat) (of32 a) a (4 : Int) b == (0 : Int)) = true)
    (h11 : R (arN (46 : Nat) (arK (48 : Nat) (of32 a) a (4 : Int) b) (arN (48 : Nat) (of32 a) a (4 : Int) b) (4 : Int) b))
    (h12 : R (arN (49 : Nat) (of32 a) a (4 : Int) b))
    (h13 : R (arN (48 : Nat) (of32 a) a (4 : Int) b))
    (h14 : R b)
    (h15 : R a)
    (h16 : (0 : Int) ≤ (1 : Int) ∧ (1 : Int) < ↑(2 : Nat))
    (h17 : (0 : Int) ≤ (0 : Int) ∧ (0 : Int) < ↑(2 : Nat)) :
    ∃ X, Ev c0.P c0.T (.call 4 [.int .i64 a, .int .i64 b, .agg [.bool w0, .bool w1]] [] (D.bool true) ([] ++ X)) :=
  outC_ok cNOk (show outC 0 (q a b w0 w1 (.path [false, false, true, false, false, false, false, true, true, true, true, true, true, true, true, true, true, true, true, true, true, true, false, false, false, false, false, false, true, true, true])) = some (D.bool true, [],
    [(arN (45 : Nat)
      (arK (46 : Nat) (arK (48 : Nat) (of32 a) a (4 : Int) b) (arN (48 : Nat) (of32 a) a (4 : Int) b) (4 : Int) b)
      (arN (46 : Nat) (arK (48 : Nat) (of32 a) a (4 : Int) b) (arN (48 : Nat) (of32 a) a (4 : Int) b) (4 : Int) b)
      (arK (49 : Nat) (of32 a) a (4 : Int) b) (arN (49 : Nat) (of32 a) a (4 : Int) b) ==
    a) =
  true,
      (arN (49 : Nat) (of32 a) a (4 : Int) b == (0 : Int)) = true,
      ((arN (45 : Nat)
        (arK (46 : Nat) (arK (48 : Nat) (of32 a) a (4 : Int) b) (arN (48 : Nat) (of32 a) a (4 : Int) b) (4 : Int) b)
        (arN (46 : Nat) (arK (48 : Nat) (of32 a) a (4 : Int) b) (arN (48 : Nat) (of32 a) a (4 : Int) b) (4 : Int) b)
        (arK (49 : Nat) (of32 a) a (4 : Int) b) (arN (49 : Nat) (of32 a) a (4 : Int) b) ==
      a) ==
    true) =
  true,
      ((arN (49 : Nat) (of32 a) a (4 : Int) b == (0 : Int)) == false) = false,
      ((arN (49 : Nat) (of32 a) a (4 : Int) b == (0 : Int)) == false) = false,
      ((arN (49 : Nat) (of32 a) a (4 : Int) b == (0 : Int)) == false) = false,
      ((arN (49 : Nat) (of32 a) a (4 : Int) b == (0 : Int)) == false) = false,
      ((arN (49 : Nat) (of32 a) a (4 : Int) b == (0 : Int)) == false) = false,
      ((arN (49 : Nat) (of32 a) a (4 : Int) b == (0 : Int)) == false) = false,
      ((arN (45 : Nat)
        (arK (46 : Nat) (arK (48 : Nat) (of32 a) a (4 : Int) b) (arN (48 : Nat) (of32 a) a (4 : Int) b) (4 : Int) b)
        (arN (46 : Nat) (arK (48 : Nat) (of32 a) a (4 : Int) b) (arN (48 : Nat) (of32 a) a (4 : Int) b) (4 : Int) b)
        (arK (49 : Nat) (of32 a) a (4 : Int) b) (arN (49 : Nat) (of32 a) a (4 : Int) b) ==
      a) ==
    true) =
  true,
      ((arN (45 : Nat)
        (arK (46 : Nat) (arK (48 : Nat) (of32 a) a (4 : Int) b) (arN (48 : Nat) (of32 a) a (4 : Int) b) (4 : Int) b)
        (arN (46 : Nat) (arK (48 : Nat) (of32 a) a (4 : Int) b) (arN (48 : Nat) (of32 a) a (4 : Int) b) (4 : Int) b)
        (arK (49 : Nat) (of32 a) a (4 : Int) b) (arN (49 : Nat) (of32 a) a (4 : Int) b) ==
      a) ==
    true) =
  true,
      ((arN (45 : Nat)
        (arK (46 : Nat) (arK (48 : Nat) (of32 a) a (4 : Int) b) (arN (48 : Nat) (of32 a) a (4 : Int) b) (4 : Int) b)
        (arN (46 : Nat) (arK (48 : Nat) (of32 a) a (4 : Int) b) (arN (48 : Nat) (of32 a) a (4 : Int) b) (4 : Int) b)
        (arK (49 : Nat) (of32 a) a (4 : Int) b) (arN (49 : Nat) (of32 a) a (4 : Int) b) ==
      a) ==
    true) =
  true,
      ((arN (45 : Nat)
        (arK (46 : Nat) (arK (48 : Nat) (of32 a) a (4 : Int) b) (arN (48 : Nat) (of32 a) a (4 : Int) b) (4 : Int) b)
        (arN (46 : Nat) (arK (48 : Nat) (of32 a) a (4 : Int) b) (arN (48 : Nat) (of32 a) a (4 : Int) b) (4 : Int) b)
        (arK (49 : Nat) (of32 a) a (4 : Int) b) (arN (49 : Nat) (of32 a) a (4 : Int) b) ==
      a) ==
    true) =
  true,
      (arE (45 : Nat)
      (arK (46 : Nat) (arK (48 : Nat) (of32 a) a (4 : Int) b) (arN (48 : Nat) (of32 a) a (4 : Int) b) (4 : Int) b)
      (arN (46 : Nat) (arK (48 : Nat) (of32 a) a (4 : Int) b) (arN (48 : Nat) (of32 a) a (4 : Int) b) (4 : Int) b)
      (arK (49 : Nat) (of32 a) a (4 : Int) b) (arN (49 : Nat) (of32 a) a (4 : Int) b) ==
    (0 : Int)) =
  true,
      ((arE (45 : Nat)
        (arK (46 : Nat) (arK (48 : Nat) (of32 a) a (4 : Int) b) (arN (48 : Nat) (of32 a) a (4 : Int) b) (4 : Int) b)
        (arN (46 : Nat) (arK (48 : Nat) (of32 a) a (4 : Int) b) (arN (48 : Nat) (of32 a) a (4 : Int) b) (4 : Int) b)
        (arK (49 : Nat) (of32 a) a (4 : Int) b) (arN (49 : Nat) (of32 a) a (4 : Int) b) ==
      (0 : Int)) ==
    true) =
  true,
      ((arE (45 : Nat)
        (arK (46 : Nat) (arK (48 : Nat) (of32 a) a (4 : Int) b) (arN (48 : Nat) (of32 a) a (4 : Int) b) (4 : Int) b)
        (arN (46 : Nat) (arK (48 : Nat) (of32 a) a (4 : Int) b) (arN (48 : Nat) (of32 a) a (4 : Int) b) (4 : Int) b)
        (arK (49 : Nat) (of32 a) a (4 : Int) b) (arN (49 : Nat) (of32 a) a (4 : Int) b) ==
      (0 : Int)) ==
    true) =
  true,
      ((arE (45 : Nat)
        (arK (46 : Nat) (arK (48 : Nat) (of32 a) a (4 : Int) b) (arN (48 : Nat) (of32 a) a (4 : Int) b) (4 : Int) b)
        (arN (46 : Nat) (arK (48 : Nat) (of32 a) a (4 : Int) b) (arN (48 : Nat) (of32 a) a (4 : Int) b) (4 : Int) b)
        (arK (49 : Nat) (of32 a) a (4 : Int) b) (arN (49 : Nat) (of32 a) a (4 : Int) b) ==
      (0 : Int)) ==
    true) =
  true,
      ((arE (45 : Nat)
        (arK (46 : Nat) (arK (48 : Nat) (of32 a) a (4 : Int) b) (arN (48 : Nat) (of32 a) a (4 : Int) b) (4 : Int) b)
        (arN (46 : Nat) (arK (48 : Nat) (of32 a) a (4 : Int) b) (arN (48 : Nat) (of32 a) a (4 : Int) b) (4 : Int) b)
        (arK (49 : Nat) (of32 a) a (4 : Int) b) (arN (49 : Nat) (of32 a) a (4 : Int) b) ==
      (0 : Int)) ==
    true) =
  true,
      (arE (46 : Nat) (arK (48 : Nat) (of32 a) a (4 : Int) b) (arN (48 : Nat) (of32 a) a (4 : Int) b) (4 : Int) b ==
    (0 : Int)) =
  true,
      ((arE (46 : Nat) (arK (48 : Nat) (of32 a) a (4 : Int) b) (arN (48 : Nat) (of32 a) a (4 : Int) b) (4 : Int) b ==
      (0 : Int)) ==
    true) =
  true,
      ((arE (46 : Nat) (arK (48 : Nat) (of32 a) a (4 : Int) b) (arN (48 : Nat) (of32 a) a (4 : Int) b) (4 : Int) b ==
      (0 : Int)) ==
    true) =
  true,
      (arE (49 : Nat) (of32 a) a (4 : Int) b == (0 : Int)) = true,
      ((arE (49 : Nat) (of32 a) a (4 : Int) b == (0 : Int)) == true) = true,
      ((arE (49 : Nat) (of32 a) a (4 : Int) b == (0 : Int)) == true) = true,
      R (arN (46 : Nat) (arK (48 : Nat) (of32 a) a (4 : Int) b) (arN (48 : Nat) (of32 a) a (4 : Int) b) (4 : Int) b),
      R (arN (49 : Nat) (of32 a) a (4 : Int) b),
      R (arN (48 : Nat) (of32 a) a (4 : Int) b),
      R b,
      (arE (48 : Nat) (of32 a) a (4 : Int) b != (0 : Int)) = false,
      (b == (0 : Int)) = false,
      R a,
      R b,
      R a,
      R b,
      (arE (45 : Nat) (of32 a) a (4 : Int) b != (10 : Int)) = false,
      (arE (45 : Nat) (of32 a) a (4 : Int) b == (0 : Int)) = false,
      R a,
      R b,
      w1 = true,
      (0 : Int) ≤ (1 : Int) ∧ (1 : Int) < ↑(2 : Nat),
      w0 = false,
      (0 : Int) ≤ (0 : Int) ∧ (0 : Int) < ↑(2 : Nat),
      R b,
      R a,
      (!true) = false]) by kernel_rfl) (by simp only [all_cons, all_nil]; simp [*])

theorem l4_90 (a : Int) (b : Int) (w0 : Bool) (w1 : Bool)
    (h0 : w0 = false)
    (h1 : w1 = true)
    (h2 : (arE (45 : Nat) (of32 a) a (4 : Int) b == (0 : Int)) = false)
    (h3 : (arE (45 : Nat) (of32 a) a (4 : Int) b != (10 : Int)) = false)
    (h4 : (b == (0 : Int)) = false)
    (h5 : (arE (48 : Nat) (of32 a) a (4 : Int) b != (0 : Int)) = false)
    (h6 : (arE (49 : Nat) (of32 a) a (4 : Int) b == (0 : Int)) = true)
    (h7 : (arE (46 : Nat) (arK (48 : Nat) (of32 a) a (4 : Int) b) (arN (48 : Nat) (of32 a) a (4 : Int) b) (4 : Int) b ==
    (0 : Int)) =
  true)
    (h8 : (arE (45 : Nat)
      (arK (46 : Nat) (arK (48 : Nat) (of32 a) a (4 : Int) b) (arN (48 : Nat) (of32 a) a (4 : Int) b) (4 : Int) b)
      (arN (46 : Nat) (arK (48 : Nat) (of32 a) a (4 : Int) b) (arN (48 : Nat) (of32 a) a (4 : Int) b) (4 : Int) b)
      (arK (49 : Nat) (of32 a) a (4 : Int) b) (arN (49 : Nat) (of32 a) a (4 : Int) b) ==
    (0 : Int)) =
  true)
    (h9 : (arN (45 : Nat)
      (arK (46 : Nat) (arK (48 : Nat) (of32 a) a (4 : Int) b) (arN (48 : Nat) (of32 a) a (4 : Int) b) (4 : Int) b)
      (arN (46 : Nat) (arK (48 : Nat) (of32 a) a (4 : Int) b) (arN (48 : Nat) (of32 a) a (4 : Int) b) (4 : Int) b)
      (arK (49 : Nat) (of32 a) a (4 : Int) b) (arN (49 : Nat) (of32 a) a (4 : Int) b) ==
    a) =
  true)
    (h10 : (arN (49 : Nat) (of32 a) a (4 : Int) b == (0 : Int)) = false)
    (h11 : R (arN (46 : Nat) (arK (48 : Nat) (of32 a) a (4 : Int) b) (arN (48 : Nat) (of32 a) a (4 : Int) b) (4 : Int) b))
    (h12 : R (arN (49 : Nat) (of32 a) a (4 : Int) b))
    (h13 : R (arN (48 : Nat) (of32 a) a (4 : Int) b))
    (h14 : R b)
    (h15 : R a)
    (h16 : (0 : Int) ≤ (1 : Int) ∧ (1 : Int) < ↑(2 : Nat))
    (h17 : (0 : Int) ≤ (0 : Int) ∧ (0 : Int) < ↑(2 : Nat)) :
    ∃ X, Ev c0.P c0.T (.call 4 [.int .i64 a, .int .i64 b, .agg [.bool w0, .bool w1]] [] (D.bool (decide (arN (49 : Nat) (of32 a) a (4 : Int) b < (0 : Int)) == decide (a < (0 : Int)))) ([] ++ X)) :=
  outC_ok cNOk (show outC 0 (q a b w0 w1 (.path [false, false, true, false, false, false, false, true, true, true, true, true, true, true, true, true, true, true, true, true, true, true, true, true, true, true, true, true, true, false, true])) = some (D.bool (decide (arN (49 : Nat) (of32 a) a (4 : Int) b < (0 : Int)) == decide (a < (0 : Int))), [],
    [(arN (45 : Nat)
      (arK (46 : Nat) (arK (48 : Nat) (of32 a) a (4 : Int) b) (arN (48 : Nat) (of32 a) a (4 : Int) b) (4 : Int) b)
      (arN (46 : Nat) (arK (48 : Nat) (of32 a) a (4 : Int) b) (arN (48 : Nat) (of32 a) a (4 : Int) b) (4 : Int) b)
      (arK (49 : Nat) (of32 a) a (4 : Int) b) (arN (49 : Nat) (of32 a) a (4 : Int) b) ==
    a) =
  true,
      (arN (49 : Nat) (of32 a) a (4 : Int) b == (0 : Int)) = false,
      ((arN (45 : Nat)
        (arK (46 : Nat) (arK (48 : Nat) (of32 a) a (4 : Int) b) (arN (48 : Nat) (of32 a) a (4 : Int) b) (4 : Int) b)
        (arN (46 : Nat) (arK (48 : Nat) (of32 a) a (4 : Int) b) (arN (48 : Nat) (of32 a) a (4 : Int) b) (4 : Int) b)
        (arK (49 : Nat) (of32 a) a (4 : Int) b) (arN (49 : Nat) (of32 a) a (4 : Int) b) ==
      a) ==
    true) =
  true,
      ((arN (49 : Nat) (of32 a) a (4 : Int) b == (0 : Int)) == false) = true,
      ((arN (49 : Nat) (of32 a) a (4 : Int) b == (0 : Int)) == false) = true,
      ((arN (49 : Nat) (of32 a) a (4 : Int) b == (0 : Int)) == false) = true,
      ((arN (49 : Nat) (of32 a) a (4 : Int) b == (0 : Int)) == false) = true,
      ((arN (49 : Nat) (of32 a) a (4 : Int) b == (0 : Int)) == false) = true,
      ((arN (49 : Nat) (of32 a) a (4 : Int) b == (0 : Int)) == false) = true,
      ((arN (45 : Nat)
        (arK (46 : Nat) (arK (48 : Nat) (of32 a) a (4 : Int) b) (arN (48 : Nat) (of32 a) a (4 : Int) b) (4 : Int) b)
        (arN (46 : Nat) (arK (48 : Nat) (of32 a) a (4 : Int) b) (arN (48 : Nat) (of32 a) a (4 : Int) b) (4 : Int) b)
        (arK (49 : Nat) (of32 a) a (4 : Int) b) (arN (49 : Nat) (of32 a) a (4 : Int) b) ==
      a) ==
    true) =
  true,
      ((arN (45 : Nat)
        (arK (46 : Nat) (arK (48 : Nat) (of32 a) a (4 : Int) b) (arN (48 : Nat) (of32 a) a (4 : Int) b) (4 : Int) b)
        (arN (46 : Nat) (arK (48 : Nat) (of32 a) a (4 : Int) b) (arN (48 : Nat) (of32 a) a (4 : Int) b) (4 : Int) b)
        (arK (49 : Nat) (of32 a) a (4 : Int) b) (arN (49 : Nat) (of32 a) a (4 : Int) b) ==
      a) ==
    true) =
  true,
      ((arN (45 : Nat)
        (arK (46 : Nat) (arK (48 : Nat) (of32 a) a (4 : Int) b) (arN (48 : Nat) (of32 a) a (4 : Int) b) (4 : Int) b)
        (arN (46 : Nat) (arK (48 : Nat) (of32 a) a (4 : Int) b) (arN (48 : Nat) (of32 a) a (4 : Int) b) (4 : Int) b)
        (arK (49 : Nat) (of32 a) a (4 : Int) b) (arN (49 : Nat) (of32 a) a (4 : Int) b) ==
      a) ==
    true) =
  true,
      ((arN (45 : Nat)
        (arK (46 : Nat) (arK (48 : Nat) (of32 a) a (4 : Int) b) (arN (48 : Nat) (of32 a) a (4 : Int) b) (4 : Int) b)
        (arN (46 : Nat) (arK (48 : Nat) (of32 a) a (4 : Int) b) (arN (48 : Nat) (of32 a) a (4 : Int) b) (4 : Int) b)
        (arK (49 : Nat) (of32 a) a (4 : Int) b) (arN (49 : Nat) (of32 a) a (4 : Int) b) ==
      a) ==
    true) =
  true,
      (arE (45 : Nat)
      (arK (46 : Nat) (arK (48 : Nat) (of32 a) a (4 : Int) b) (arN (48 : Nat) (of32 a) a (4 : Int) b) (4 : Int) b)
      (arN (46 : Nat) (arK (48 : Nat) (of32 a) a (4 : Int) b) (arN (48 : Nat) (of32 a) a (4 : Int) b) (4 : Int) b)
      (arK (49 : Nat) (of32 a) a (4 : Int) b) (arN (49 : Nat) (of32 a) a (4 : Int) b) ==
    (0 : Int)) =
  true,
      ((arE (45 : Nat)
        (arK (46 : Nat) (arK (48 : Nat) (of32 a) a (4 : Int) b) (arN (48 : Nat) (of32 a) a (4 : Int) b) (4 : Int) b)
        (arN (46 : Nat) (arK (48 : Nat) (of32 a) a (4 : Int) b) (arN (48 : Nat) (of32 a) a (4 : Int) b) (4 : Int) b)
        (arK (49 : Nat) (of32 a) a (4 : Int) b) (arN (49 : Nat) (of32 a) a (4 : Int) b) ==
      (0 : Int)) ==
    true) =
  true,
      ((arE (45 : Nat)
        (arK (46 : Nat) (arK (48 : Nat) (of32 a) a (4 : Int) b) (arN (48 : Nat) (of32 a) a (4 : Int) b) (4 : Int) b)
        (arN (46 : Nat) (arK (48 : Nat) (of32 a) a (4 : Int) b) (arN (48 : Nat) (of32 a) a (4 : Int) b) (4 : Int) b)
        (arK (49 : Nat) (of32 a) a (4 : Int) b) (arN (49 : Nat) (of32 a) a (4 : Int) b) ==
      (0 : Int)) ==
    true) =
  true,
      ((arE (45 : Nat)
        (arK (46 : Nat) (arK (48 : Nat) (of32 a) a (4 : Int) b) (arN (48 : Nat) (of32 a) a (4 : Int) b) (4 : Int) b)
        (arN (46 : Nat) (arK (48 : Nat) (of32 a) a (4 : Int) b) (arN (48 : Nat) (of32 a) a (4 : Int) b) (4 : Int) b)
        (arK (49 : Nat) (of32 a) a (4 : Int) b) (arN (49 : Nat) (of32 a) a (4 : Int) b) ==
      (0 : Int)) ==
    true) =
  true,
      ((arE (45 : Nat)
        (arK (46 : Nat) (arK (48 : Nat) (of32 a) a (4 : Int) b) (arN (48 : Nat) (of32 a) a (4 : Int) b) (4 : Int) b)
        (arN (46 : Nat) (arK (48 : Nat) (of32 a) a (4 : Int) b) (arN (48 : Nat) (of32 a) a (4 : Int) b) (4 : Int) b)
        (arK (49 : Nat) (of32 a) a (4 : Int) b) (arN (49 : Nat) (of32 a) a (4 : Int) b) ==
      (0 : Int)) ==
    true) =
  true,
      (arE (46 : Nat) (arK (48 : Nat) (of32 a) a (4 : Int) b) (arN (48 : Nat) (of32 a) a (4 : Int) b) (4 : Int) b ==
    (0 : Int)) =
  true,
      ((arE (46 : Nat) (arK (48 : Nat) (of32 a) a (4 : Int) b) (arN (48 : Nat) (of32 a) a (4 : Int) b) (4 : Int) b ==
      (0 : Int)) ==
    true) =
  true,
      ((arE (46 : Nat) (arK (48 : Nat) (of32 a) a (4 : Int) b) (arN (48 : Nat) (of32 a) a (4 : Int) b) (4 : Int) b ==
      (0 : Int)) ==
    true) =
  true,
      (arE (49 : Nat) (of32 a) a (4 : Int) b == (0 : Int)) = true,
      ((arE (49 : Nat) (of32 a) a (4 : Int) b == (0 : Int)) == true) = true,
      ((arE (49 : Nat) (of32 a) a (4 : Int) b == (0 : Int)) == true) = true,
      R (arN (46 : Nat) (arK (48 : Nat) (of32 a) a (4 : Int) b) (arN (48 : Nat) (of32 a) a (4 : Int) b) (4 : Int) b),
      R (arN (49 : Nat) (of32 a) a (4 : Int) b),
      R (arN (48 : Nat) (of32 a) a (4 : Int) b),
      R b,
      (arE (48 : Nat) (of32 a) a (4 : Int) b != (0 : Int)) = false,
      (b == (0 : Int)) = false,
      R a,
      R b,
      R a,
      R b,
      (arE (45 : Nat) (of32 a) a (4 : Int) b != (10 : Int)) = false,
      (arE (45 : Nat) (of32 a) a (4 : Int) b == (0 : Int)) = false,
      R a,
      R b,
      w1 = true,
      (0 : Int) ≤ (1 : Int) ∧ (1 : Int) < ↑(2 : Nat),
      w0 = false,
      (0 : Int) ≤ (0 : Int) ∧ (0 : Int) < ↑(2 : Nat),
      R b,
      R a,
      (!true) = false]) by kernel_rfl) (by simp only [all_cons, all_nil]; simp [*])

theorem l4_97 (a : Int) (b : Int) (w0 : Bool) (w1 : Bool)
    (h0 : w0 = false)
    (h1 : w1 = false)
    (h2 : (arE (45 : Nat) (of32 a) a (of32 b) b == (0 : Int)) = true)
    (h3 : (arE (47 : Nat) (arK (45 : Nat) (of32 a) a (of32 b) b) (arN (45 : Nat) (of32 a) a (of32 b) b) (of32 b) b != (0 : Int)) =
  false)
    (h4 : (arN (47 : Nat) (arK (45 : Nat) (of32 a) a (of32 b) b) (arN (45 : Nat) (of32 a) a (of32 b) b) (of32 b) b != a) = false)
    (h5 : (arK (47 : Nat) (arK (45 : Nat) (of32 a) a (of32 b) b) (arN (45 : Nat) (of32 a) a (of32 b) b) (of32 b) b != (4 : Int)) =
  true)
    (h6 : (b == (0 : Int)) = true)
    (h7 : (arE (48 : Nat) (of32 a) a (of32 b) b == (11 : Int)) = true)
    (h8 : R a)
    (h9 : R b)
    (h10 : (0 : Int) ≤ (0 : Int) ∧ (0 : Int) < ↑(2 : Nat))
    (h11 : R (arN (45 : Nat) (of32 a) a (of32 b) b))
    (h12 : (0 : Int) ≤ (1 : Int) ∧ (1 : Int) < ↑(2 : Nat)) :
    ∃ X, Ev c0.P c0.T (.call 4 [.int .i64 a, .int .i64 b, .agg [.bool w0, .bool w1]] [] (D.bool (arE (49 : Nat) (of32 a) a (of32 b) b == (11 : Int))) ([] ++ X)) :=
  outC_ok cNOk (show outC 0 (q a b w0 w1 (.path [false, false, false, true, true, true, true, true, false, true, true, true, true, true, true, true, true, false, false, true, true, true, true])) = some (D.bool (arE (49 : Nat) (of32 a) a (of32 b) b == (11 : Int)), [],
    [(arE (48 : Nat) (of32 a) a (of32 b) b == (11 : Int)) = true,
      ((arE (48 : Nat) (of32 a) a (of32 b) b == (11 : Int)) == true) = true,
      ((arE (48 : Nat) (of32 a) a (of32 b) b == (11 : Int)) == true) = true,
      (b == (0 : Int)) = true,
      R a,
      R b,
      R a,
      R b,
      w0 = false,
      (arN (47 : Nat) (arK (45 : Nat) (of32 a) a (of32 b) b) (arN (45 : Nat) (of32 a) a (of32 b) b) (of32 b) b != a) = false,
      (arK (47 : Nat) (arK (45 : Nat) (of32 a) a (of32 b) b) (arN (45 : Nat) (of32 a) a (of32 b) b) (of32 b) b != (4 : Int)) =
  true,
      ((arN (47 : Nat) (arK (45 : Nat) (of32 a) a (of32 b) b) (arN (45 : Nat) (of32 a) a (of32 b) b) (of32 b) b != a) ==
    false) =
  true,
      ((arK (47 : Nat) (arK (45 : Nat) (of32 a) a (of32 b) b) (arN (45 : Nat) (of32 a) a (of32 b) b) (of32 b) b !=
      (4 : Int)) ==
    true) =
  true,
      (0 : Int) ≤ (0 : Int) ∧ (0 : Int) < ↑(2 : Nat),
      ((arK (47 : Nat) (arK (45 : Nat) (of32 a) a (of32 b) b) (arN (45 : Nat) (of32 a) a (of32 b) b) (of32 b) b !=
      (4 : Int)) ==
    true) =
  true,
      ((arN (47 : Nat) (arK (45 : Nat) (of32 a) a (of32 b) b) (arN (45 : Nat) (of32 a) a (of32 b) b) (of32 b) b != a) ==
    false) =
  true,
      ((arN (47 : Nat) (arK (45 : Nat) (of32 a) a (of32 b) b) (arN (45 : Nat) (of32 a) a (of32 b) b) (of32 b) b != a) ==
    false) =
  true,
      ((arN (47 : Nat) (arK (45 : Nat) (of32 a) a (of32 b) b) (arN (45 : Nat) (of32 a) a (of32 b) b) (of32 b) b != a) ==
    false) =
  true,
      ((arN (47 : Nat) (arK (45 : Nat) (of32 a) a (of32 b) b) (arN (45 : Nat) (of32 a) a (of32 b) b) (of32 b) b != a) ==
    false) =
  true,
      (arE (47 : Nat) (arK (45 : Nat) (of32 a) a (of32 b) b) (arN (45 : Nat) (of32 a) a (of32 b) b) (of32 b) b != (0 : Int)) =
  false,
      ((arE (47 : Nat) (arK (45 : Nat) (of32 a) a (of32 b) b) (arN (45 : Nat) (of32 a) a (of32 b) b) (of32 b) b !=
      (0 : Int)) ==
    false) =
  true,
      ((arE (47 : Nat) (arK (45 : Nat) (of32 a) a (of32 b) b) (arN (45 : Nat) (of32 a) a (of32 b) b) (of32 b) b !=
      (0 : Int)) ==
    false) =
  true,
      ((arE (47 : Nat) (arK (45 : Nat) (of32 a) a (of32 b) b) (arN (45 : Nat) (of32 a) a (of32 b) b) (of32 b) b !=
      (0 : Int)) ==
    false) =
  true,
      ((arE (47 : Nat) (arK (45 : Nat) (of32 a) a (of32 b) b) (arN (45 : Nat) (of32 a) a (of32 b) b) (of32 b) b !=
      (0 : Int)) ==
    false) =
  true,
      R (arN (45 : Nat) (of32 a) a (of32 b) b),
      R b,
      (arE (45 : Nat) (of32 a) a (of32 b) b == (0 : Int)) = true,
      R a,
      R b,
      w1 = false,
      (0 : Int) ≤ (1 : Int) ∧ (1 : Int) < ↑(2 : Nat),
      w0 = false,
      (0 : Int) ≤ (0 : Int) ∧ (0 : Int) < ↑(2 : Nat),
      R b,
      R a,
      (!true) = false]) by kernel_rfl) (by simp only [all_cons, all_nil]; simp [*])

theorem l4_99 (a : Int) (b : Int) (w0 : Bool) (w1 : Bool)
    (h0 : w0 = false)
    (h1 : w1 = false)
    (h2 : (arE (45 : Nat) (of32 a) a (of32 b) b == (0 : Int)) = true)
    (h3 : (arE (47 : Nat) (arK (45 : Nat) (of32 a) a (of32 b) b) (arN (45 : Nat) (of32 a) a (of32 b) b) (of32 b) b != (0 : Int)) =
  false)
    (h4 : (arN (47 : Nat) (arK (45 : Nat) (of32 a) a (of32 b) b) (arN (45 : Nat) (of32 a) a (of32 b) b) (of32 b) b != a) = false)
    (h5 : (arK (47 : Nat) (arK (45 : Nat) (of32 a) a (of32 b) b) (arN (45 : Nat) (of32 a) a (of32 b) b) (of32 b) b != (4 : Int)) =
  true)
    (h6 : (b == (0 : Int)) = false)
    (h7 : (arE (48 : Nat) (of32 a) a (of32 b) b != (0 : Int)) = true)
    (h8 : (a == (-9223372036854775808 : Int)) = true)
    (h9 : (b == (-1 : Int)) = true)
    (h10 : (arE (49 : Nat) (of32 a) a (of32 b) b == (0 : Int)) = true)
    (h11 : R a)
    (h12 : R b)
    (h13 : (0 : Int) ≤ (0 : Int) ∧ (0 : Int) < ↑(2 : Nat))
    (h14 : R (arN (45 : Nat) (of32 a) a (of32 b) b))
    (h15 : (0 : Int) ≤ (1 : Int) ∧ (1 : Int) < ↑(2 : Nat)) :
    ∃ X, Ev c0.P c0.T (.call 4 [.int .i64 a, .int .i64 b, .agg [.bool w0, .bool w1]] [] (D.bool (arN (49 : Nat) (of32 a) a (of32 b) b == (0 : Int))) ([] ++ X)) :=
  outC_ok cNOk (show outC 0 (q a b w0 w1 (.path [false, false, false, true, true, true, true, true, false, true, true, true, true, true, true, true, true, false, false, false, true, true, true, true, true, true, true, true, true, true, true])) = some (D.bool (arN (49 : Nat) (of32 a) a (of32 b) b == (0 : Int)), [],
    [(arE (49 : Nat) (of32 a) a (of32 b) b == (0 : Int)) = true,
      ((arE (49 : Nat) (of32 a) a (of32 b) b == (0 : Int)) == true) = true,
      ((arE (49 : Nat) (of32 a) a (of32 b) b == (0 : Int)) == true) = true,
      ((arE (49 : Nat) (of32 a) a (of32 b) b == (0 : Int)) == true) = true,
      (b == (-1 : Int)) = true,
      ((b == (-1 : Int)) == true) = true,
      ((b == (-1 : Int)) == true) = true,
      (a == (-9223372036854775808 : Int)) = true,
      ((a == (-9223372036854775808 : Int)) == true) = true,
      ((a == (-9223372036854775808 : Int)) == true) = true,
      (arE (48 : Nat) (of32 a) a (of32 b) b != (0 : Int)) = true,
      (b == (0 : Int)) = false,
      R a,
      R b,
      R a,
      R b,
      w0 = false,
      (arN (47 : Nat) (arK (45 : Nat) (of32 a) a (of32 b) b) (arN (45 : Nat) (of32 a) a (of32 b) b) (of32 b) b != a) = false,
      (arK (47 : Nat) (arK (45 : Nat) (of32 a) a (of32 b) b) (arN (45 : Nat) (of32 a) a (of32 b) b) (of32 b) b != (4 : Int)) =
  true,
      ((arN (47 : Nat) (arK (45 : Nat) (of32 a) a (of32 b) b) (arN (45 : Nat) (of32 a) a (of32 b) b) (of32 b) b != a) ==
    false) =
  true,
      ((arK (47 : Nat) (arK (45 : Nat) (of32 a) a (of32 b) b) (arN (45 : Nat) (of32 a) a (of32 b) b) (of32 b) b !=
      (4 : Int)) ==
    true) =
  true,
      (0 : Int) ≤ (0 : Int) ∧ (0 : Int) < ↑(2 : Nat),
      ((arK (47 : Nat) (arK (45 : Nat) (of32 a) a (of32 b) b) (arN (45 : Nat) (of32 a) a (of32 b) b) (of32 b) b !=
      (4 : Int)) ==
    true) =
  true,
      ((arN (47 : Nat) (arK (45 : Nat) (of32 a) a (of32 b) b) (arN (45 : Nat) (of32 a) a (of32 b) b) (of32 b) b != a) ==
    false) =
  true,
      ((arN (47 : Nat) (arK (45 : Nat) (of32 a) a (of32 b) b) (arN (45 : Nat) (of32 a) a (of32 b) b) (of32 b) b != a) ==
    false) =
  true,
      ((arN (47 : Nat) (arK (45 : Nat) (of32 a) a (of32 b) b) (arN (45 : Nat) (of32 a) a (of32 b) b) (of32 b) b != a) ==
    false) =
  true,
      ((arN (47 : Nat) (arK (45 : Nat) (of32 a) a (of32 b) b) (arN (45 : Nat) (of32 a) a (of32 b) b) (of32 b) b != a) ==
    false) =
  true,
      (arE (47 : Nat) (arK (45 : Nat) (of32 a) a (of32 b) b) (arN (45 : Nat) (of32 a) a (of32 b) b) (of32 b) b != (0 : Int)) =
  false,
      ((arE (47 : Nat) (arK (45 : Nat) (of32 a) a (of32 b) b) (arN (45 : Nat) (of32 a) a (of32 b) b) (of32 b) b !=
      (0 : Int)) ==
    false) =
  true,
      ((arE (47 : Nat) (arK (45 : Nat) (of32 a) a (of32 b) b) (arN (45 : Nat) (of32 a) a (of32 b) b) (of32 b) b !=
      (0 : Int)) ==
    false) =
  true,
      ((arE (47 : Nat) (arK (45 : Nat) (of32 a) a (of32 b) b) (arN (45 : Nat) (of32 a) a (of32 b) b) (of32 b) b !=
      (0 : Int)) ==
    false) =
  true,
      ((arE (47 : Nat) (arK (45 : Nat) (of32 a) a (of32 b) b) (arN (45 : Nat) (of32 a) a (of32 b) b) (of32 b) b !=
      (0 : Int)) ==
    false) =
  true,
      R (arN (45 : Nat) (of32 a) a (of32 b) b),
      R b,
      (arE (45 : Nat) (of32 a) a (of32 b) b == (0 : Int)) = true,
      R a,
      R b,
      w1 = false,
      (0 : Int) ≤ (1 : Int) ∧ (1 : Int) < ↑(2 : Nat),
      w0 = false,
      (0 : Int) ≤ (0 : Int) ∧ (0 : Int) < ↑(2 : Nat),
      R b,
      R a,
      (!true) = false]) by kernel_rfl) (by simp only [all_cons, all_nil]; simp [*])

theorem l4_103 (a : Int) (b : Int) (w0 : Bool) (w1 : Bool)
    (h0 : w0 = false)
    (h1 : w1 = false)
    (h2 : (arE (45 : Nat) (of32 a) a (of32 b) b == (0 : Int)) = true)
    (h3 : (arE (47 : Nat) (arK (45 : Nat) (of32 a) a (of32 b) b) (arN (45 : Nat) (of32 a) a (of32 b) b) (of32 b) b != (0 : Int)) =
  false)
    (h4 : (arN (47 : Nat) (arK (45 : Nat) (of32 a) a (of32 b) b) (arN (45 : Nat) (of32 a) a (of32 b) b) (of32 b) b != a) = false)
    (h5 : (arK (47 : Nat) (arK (45 : Nat) (of32 a) a (of32 b) b) (arN (45 : Nat) (of32 a) a (of32 b) b) (of32 b) b != (4 : Int)) =
  true)
    (h6 : (b == (0 : Int)) = false)
    (h7 : (arE (48 : Nat) (of32 a) a (of32 b) b != (0 : Int)) = false)
    (h8 : (arE (49 : Nat) (of32 a) a (of32 b) b == (0 : Int)) = true)
    (h9 : (arE (46 : Nat) (arK (48 : Nat) (of32 a) a (of32 b) b) (arN (48 : Nat) (of32 a) a (of32 b) b) (of32 b) b == (0 : Int)) =
  true)
    (h10 : (arE (45 : Nat)
      (arK (46 : Nat) (arK (48 : Nat) (of32 a) a (of32 b) b) (arN (48 : Nat) (of32 a) a (of32 b) b) (of32 b) b)
      (arN (46 : Nat) (arK (48 : Nat) (of32 a) a (of32 b) b) (arN (48 : Nat) (of32 a) a (of32 b) b) (of32 b) b)
      (arK (49 : Nat) (of32 a) a (of32 b) b) (arN (49 : Nat) (of32 a) a (of32 b) b) ==
    (0 : Int)) =
  true)
    (h11 : (arN (45 : Nat)
      (arK (46 : Nat) (arK (48 : Nat) (of32 a) a (of32 b) b) (arN (48 : Nat) (of32 a) a (of32 b) b) (of32 b) b)
      (arN (46 : Nat) (arK (48 : Nat) (of32 a) a (of32 b) b) (arN (48 : Nat) (of32 a) a (of32 b) b) (of32 b) b)
      (arK (49 : Nat) (of32 a) a (of32 b) b) (arN (49 : Nat) (of32 a) a (of32 b) b) ==
    a) =
  true)
    (h12 : (arN (49 : Nat) (of32 a) a (of32 b) b == (0 : Int)) = true)
    (h13 : R (arN (46 : Nat) (arK (48 : Nat) (of32 a) a (of32 b) b) (arN (48 : Nat) (of32 a) a (of32 b) b) (of32 b) b))
    (h14 : R (arN (49 : Nat) (of32 a) a (of32 b) b))
    (h15 : R (arN (48 : Nat) (of32 a) a (of32 b) b))
    (h16 : R b)
    (h17 : R a)
    (h18 : (0 : Int) ≤ (0 : Int) ∧ (0 : Int) < ↑(2 : Nat))
    (h19 : R (arN (45 : Nat) (of32 a) a (of32 b) b))
    (h20 : (0 : Int) ≤ (1 : Int) ∧ (1 : Int) < ↑(2 : Nat)) :
    ∃ X, Ev c0.P c0.T (.call 4 [.int .i64 a, .int .i64 b, .agg [.bool w0, .bool w1]] [] (D.bool true) ([] ++ X)) :=
  outC_ok cNOk (show outC 0 (q a b w0 w1 (.path [false, false, false, true, true, true, true, true, false, true, true, true, true, true, true, true, true, false, false, false, false, true, true, true, true, true, true, true, true, true, true, true, true, true, true, true, false, false, false, false, false, false, true, true, true])) = some (D.bool true, [],
    [(arN (45 : Nat)
      (arK (46 : Nat) (arK (48 : Nat) (of32 a) a (of32 b) b) (arN (48 : Nat) (of32 a) a (of32 b) b) (of32 b) b)
      (arN (46 : Nat) (arK (48 : Nat) (of32 a) a (of32 b) b) (arN (48 : Nat) (of32 a) a (of32 b) b) (of32 b) b)
      (arK (49 : Nat) (of32 a) a (of32 b) b) (arN (49 : Nat) (of32 a) a (of32 b) b) ==
    a) =
  true,
      (arN (49 : Nat) (of32 a) a (of32 b) b == (0 : Int)) = true,
      ((arN (45 : Nat)
        (arK (46 : Nat) (arK (48 : Nat) (of32 a) a (of32 b) b) (arN (48 : Nat) (of32 a) a (of32 b) b) (of32 b) b)
        (arN (46 : Nat) (arK (48 : Nat) (of32 a) a (of32 b) b) (arN (48 : Nat) (of32 a) a (of32 b) b) (of32 b) b)
        (arK (49 : Nat) (of32 a) a (of32 b) b) (arN (49 : Nat) (of32 a) a (of32 b) b) ==
      a) ==
    true) =
  true,
      ((arN (49 : Nat) (of32 a) a (of32 b) b == (0 : Int)) == false) = false,
      ((arN (49 : Nat) (of32 a) a (of32 b) b == (0 : Int)) == false) = false,
      ((arN (49 : Nat) (of32 a) a (of32 b) b == (0 : Int)) == false) = false,
      ((arN (49 : Nat) (of32 a) a (of32 b) b == (0 : Int)) == false) = false,
      ((arN (49 : Nat) (of32 a) a (of32 b) b == (0 : Int)) == false) = false,
      ((arN (49 : Nat) (of32 a) a (of32 b) b == (0 : Int)) == false) = false,
      ((arN (45 : Nat)
        (arK (46 : Nat) (arK (48 : Nat) (of32 a) a (of32 b) b) (arN (48 : Nat) (of32 a) a (of32 b) b) (of32 b) b)
        (arN (46 : Nat) (arK (48 : Nat) (of32 a) a (of32 b) b) (arN (48 : Nat) (of32 a) a (of32 b) b) (of32 b) b)
        (arK (49 : Nat) (of32 a) a (of32 b) b) (arN (49 : Nat) (of32 a) a (of32 b) b) ==
      a) ==
    true) =
  true,
      ((arN (45 : Nat)
        (arK (46 : Nat) (arK (48 : Nat) (of32 a) a (of32 b) b) (arN (48 : Nat) (of32 a) a (of32 b) b) (of32 b) b)
        (arN (46 : Nat) (arK (48 : Nat) (of32 a) a (of32 b) b) (arN (48 : Nat) (of32 a) a (of32 b) b) (of32 b) b)
        (arK (49 : Nat) (of32 a) a (of32 b) b) (arN (49 : Nat) (of32 a) a (of32 b) b) ==
      a) ==
    true) =
  true,
      ((arN (45 : Nat)
        (arK (46 : Nat) (arK (48 : Nat) (of32 a) a (of32 b) b) (arN (48 : Nat) (of32 a) a (of32 b) b) (of32 b) b)
        (arN (46 : Nat) (arK (48 : Nat) (of32 a) a (of32 b) b) (arN (48 : Nat) (of32 a) a (of32 b) b) (of32 b) b)
        (arK (49 : Nat) (of32 a) a (of32 b) b) (arN (49 : Nat) (of32 a) a (of32 b) b) ==
      a) ==
    true) =
  true,
      ((arN (45 : Nat)
        (arK (46 : Nat) (arK (48 : Nat) (of32 a) a (of32 b) b) (arN (48 : Nat) (of32 a) a (of32 b) b) (of32 b) b)
        (arN (46 : Nat) (arK (48 : Nat) (of32 a) a (of32 b) b) (arN (48 : Nat) (of32 a) a (of32 b) b) (of32 b) b)
        (arK (49 : Nat) (of32 a) a (of32 b) b) (arN (49 : Nat) (of32 a) a (of32 b) b) ==
      a) ==
    true) =
  true,
      (arE (45 : Nat)
      (arK (46 : Nat) (arK (48 : Nat) (of32 a) a (of32 b) b) (arN (48 : Nat) (of32 a) a (of32 b) b) (of32 b) b)
      (arN (46 : Nat) (arK (48 : Nat) (of32 a) a (of32 b) b) (arN (48 : Nat) (of32 a) a (of32 b) b) (of32 b) b)
      (arK (49 : Nat) (of32 a) a (of32 b) b) (arN (49 : Nat) (of32 a) a (of32 b) b) ==
    (0 : Int)) =
  true,
      ((arE (45 : Nat)
        (arK (46 : Nat) (arK (48 : Nat) (of32 a) a (of32 b) b) (arN (48 : Nat) (of32 a) a (of32 b) b) (of32 b) b)
        (arN (46 : Nat) (arK (48 : Nat) (of32 a) a (of32 b) b) (arN (48 : Nat) (of32 a) a (of32 b) b) (of32 b) b)
        (arK (49 : Nat) (of32 a) a (of32 b) b) (arN (49 : Nat) (of32 a) a (of32 b) b) ==
      (0 : Int)) ==
    true) =
  true,
      ((arE (45 : Nat)
        (arK (46 : Nat) (arK (48 : Nat) (of32 a) a (of32 b) b) (arN (48 : Nat) (of32 a) a (of32 b) b) (of32 b) b)
        (arN (46 : Nat) (arK (48 : Nat) (of32 a) a (of32 b) b) (arN (48 : Nat) (of32 a) a (of32 b) b) (of32 b) b)
        (arK (49 : Nat) (of32 a) a (of32 b) b) (arN (49 : Nat) (of32 a) a (of32 b) b) ==
      (0 : Int)) ==
    true) =
  true,
      ((arE (45 : Nat)
        (arK (46 : Nat) (arK (48 : Nat) (of32 a) a (of32 b) b) (arN (48 : Nat) (of32 a) a (of32 b) b) (of32 b) b)
        (arN (46 : Nat) (arK (48 : Nat) (of32 a) a (of32 b) b) (arN (48 : Nat) (of32 a) a (of32 b) b) (of32 b) b)
        (arK (49 : Nat) (of32 a) a (of32 b) b) (arN (49 : Nat) (of32 a) a (of32 b) b) ==
      (0 : Int)) ==
    true) =
  true,
      ((arE (45 : Nat)
        (arK (46 : Nat) (arK (48 : Nat) (of32 a) a (of32 b) b) (arN (48 : Nat) (of32 a) a (of32 b) b) (of32 b) b)
        (arN (46 : Nat) (arK (48 : Nat) (of32 a) a (of32 b) b) (arN (48 : Nat) (of32 a) a (of32 b) b) (of32 b) b)
        (arK (49 : Nat) (of32 a) a (of32 b) b) (arN (49 : Nat) (of32 a) a (of32 b) b) ==
      (0 : Int)) ==
    true) =
  true,
      (arE (46 : Nat) (arK (48 : Nat) (of32 a) a (of32 b) b) (arN (48 : Nat) (of32 a) a (of32 b) b) (of32 b) b == (0 : Int)) =
  true,
      ((arE (46 : Nat) (arK (48 : Nat) (of32 a) a (of32 b) b) (arN (48 : Nat) (of32 a) a (of32 b) b) (of32 b) b ==
      (0 : Int)) ==
    true) =
  true,
      ((arE (46 : Nat) (arK (48 : Nat) (of32 a) a (of32 b) b) (arN (48 : Nat) (of32 a) a (of32 b) b) (of32 b) b ==
      (0 : Int)) ==
    true) =
  true,
      (arE (49 : Nat) (of32 a) a (of32 b) b == (0 : Int)) = true,
      ((arE (49 : Nat) (of32 a) a (of32 b) b == (0 : Int)) == true) = true,
      ((arE (49 : Nat) (of32 a) a (of32 b) b == (0 : Int)) == true) = true,
      R (arN (46 : Nat) (arK (48 : Nat) (of32 a) a (of32 b) b) (arN (48 : Nat) (of32 a) a (of32 b) b) (of32 b) b),
      R (arN (49 : Nat) (of32 a) a (of32 b) b),
      R (arN (48 : Nat) (of32 a) a (of32 b) b),
      R b,
      (arE (48 : Nat) (of32 a) a (of32 b) b != (0 : Int)) = false,
      (b == (0 : Int)) = false,
      R a,
      R b,
      R a,
      R b,
      w0 = false,
      (arN (47 : Nat) (arK (45 : Nat) (of32 a) a (of32 b) b) (arN (45 : Nat) (of32 a) a (of32 b) b) (of32 b) b != a) = false,
      (arK (47 : Nat) (arK (45 : Nat) (of32 a) a (of32 b) b) (arN (45 : Nat) (of32 a) a (of32 b) b) (of32 b) b != (4 : Int)) =
  true,
      ((arN (47 : Nat) (arK (45 : Nat) (of32 a) a (of32 b) b) (arN (45 : Nat) (of32 a) a (of32 b) b) (of32 b) b != a) ==
    false) =
  true,
      ((arK (47 : Nat) (arK (45 : Nat) (of32 a) a (of32 b) b) (arN (45 : Nat) (of32 a) a (of32 b) b) (of32 b) b !=
      (4 : Int)) ==
    true) =
  true,
      (0 : Int) ≤ (0 : Int) ∧ (0 : Int) < ↑(2 : Nat),
      ((arK (47 : Nat) (arK (45 : Nat) (of32 a) a (of32 b) b) (arN (45 : Nat) (of32 a) a (of32 b) b) (of32 b) b !=
      (4 : Int)) ==
    true) =
  true,
      ((arN (47 : Nat) (arK (45 : Nat) (of32 a) a (of32 b) b) (arN (45 : Nat) (of32 a) a (of32 b) b) (of32 b) b != a) ==
    false) =
  true,
      ((arN (47 : Nat) (arK (45 : Nat) (of32 a) a (of32 b) b) (arN (45 : Nat) (of32 a) a (of32 b) b) (of32 b) b != a) ==
    false) =
  true,
      ((arN (47 : Nat) (arK (45 : Nat) (of32 a) a (of32 b) b) (arN (45 : Nat) (of32 a) a (of32 b) b) (of32 b) b != a) ==
    false) =
  true,
      ((arN (47 : Nat) (arK (45 : Nat) (of32 a) a (of32 b) b) (arN (45 : Nat) (of32 a) a (of32 b) b) (of32 b) b != a) ==
    false) =
  true,
      (arE (47 : Nat) (arK (45 : Nat) (of32 a) a (of32 b) b) (arN (45 : Nat) (of32 a) a (of32 b) b) (of32 b) b != (0 : Int)) =
  false,
      ((arE (47 : Nat) (arK (45 : Nat) (of32 a) a (of32 b) b) (arN (45 : Nat) (of32 a) a (of32 b) b) (of32 b) b !=
      (0 : Int)) ==
    false) =
  true,
      ((arE (47 : Nat) (arK (45 : Nat) (of32 a) a (of32 b) b) (arN (45 : Nat) (of32 a) a (of32 b) b) (of32 b) b !=
      (0 : Int)) ==
    false) =
  true,
      ((arE (47 : Nat) (arK (45 : Nat) (of32 a) a (of32 b) b) (arN (45 : Nat) (of32 a) a (of32 b) b) (of32 b) b !=
      (0 : Int)) ==
    false) =
  true,
      ((arE (47 : Nat) (arK (45 : Nat) (of32 a) a (of32 b) b) (arN (45 : Nat) (of32 a) a (of32 b) b) (of32 b) b !=
      (0 : Int)) ==
    false) =
  true,
      R (arN (45 : Nat) (of32 a) a (of32 b) b),
      R b,
      (arE (45 : Nat) (of32 a) a (of32 b) b == (0 : Int)) = true,
      R a,
      R b,
      w1 = false,
      (0 : Int) ≤ (1 : Int) ∧ (1 : Int) < ↑(2 : Nat),
      w0 = false,
      (0 : Int) ≤ (0 : Int) ∧ (0 : Int) < ↑(2 : Nat),
      R b,
      R a,
      (!true) = false]) by kernel_rfl) (by simp only [all_cons, all_nil]; simp [*])

theorem l4_104 (a : Int) (b : Int) (w0 : Bool) (w1 : Bool)
    (h0 : w0 = false)
    (h1 : w1 = false)
    (h2 : (arE (45 : Nat) (of32 a) a (of32 b) b == (0 : Int)) = true)
    (h3 : (arE (47 : Nat) (arK (45 : Nat) (of32 a) a (of32 b) b) (arN (45 : Nat) (of32 a) a (of32 b) b) (of32 b) b != (0 : Int)) =
  false)
    (h4 : (arN (47 : Nat) (arK (45 : Nat) (of32 a) a (of32 b) b) (arN (45 : Nat) (of32 a) a (of32 b) b) (of32 b) b != a) = false)
    (h5 : (arK (47 : Nat) (arK (45 : Nat) (of32 a) a (of32 b) b) (arN (45 : Nat) (of32 a) a (of32 b) b) (of32 b) b != (4 : Int)) =
  true)
    (h6 : (b == (0 : Int)) = false)
    (h7 : (arE (48 : Nat) (of32 a) a (of32 b) b != (0 : Int)) = false)
    (h8 : (arE (49 : Nat) (of32 a) a (of32 b) b == (0 : Int)) = true)
    (h9 : (arE (46 : Nat) (arK (48 : Nat) (of32 a) a (of32 b) b) (arN (48 : Nat) (of32 a) a (of32 b) b) (of32 b) b == (0 : Int)) =
  true)
    (h10 : (arE (45 : Nat)
      (arK (46 : Nat) (arK (48 : Nat) (of32 a) a (of32 b) b) (arN (48 : Nat) (of32 a) a (of32 b) b) (of32 b) b)
      (arN (46 : Nat) (arK (48 : Nat) (of32 a) a (of32 b) b) (arN (48 : Nat) (of32 a) a (of32 b) b) (of32 b) b)
      (arK (49 : Nat) (of32 a) a (of32 b) b) (arN (49 : Nat) (of32 a) a (of32 b) b) ==
    (0 : Int)) =
  true)
    (h11 : (arN (45 : Nat)
      (arK (46 : Nat) (arK (48 : Nat) (of32 a) a (of32 b) b) (arN (48 : Nat) (of32 a) a (of32 b) b) (of32 b) b)
      (arN (46 : Nat) (arK (48 : Nat) (of32 a) a (of32 b) b) (arN (48 : Nat) (of32 a) a (of32 b) b) (of32 b) b)
      (arK (49 : Nat) (of32 a) a (of32 b) b) (arN (49 : Nat) (of32 a) a (of32 b) b) ==
    a) =
  true)
    (h12 : (arN (49 : Nat) (of32 a) a (of32 b) b == (0 : Int)) = false)
    (h13 : R (arN (46 : Nat) (arK (48 : Nat) (of32 a) a (of32 b) b) (arN (48 : Nat) (of32 a) a (of32 b) b) (of32 b) b))
    (h14 : R (arN (49 : Nat) (of32 a) a (of32 b) b))
    (h15 : R (arN (48 : Nat) (of32 a) a (of32 b) b))
    (h16 : R b)
    (h17 : R a)
    (h18 : (0 : Int) ≤ (0 : Int) ∧ (0 : Int) < ↑(2 : Nat))
    (h19 : R (arN (45 : Nat) (of32 a) a (of32 b) b))
    (h20 : (0 : Int) ≤ (1 : Int) ∧ (1 : Int) < ↑(2 : Nat)) :
    ∃ X, Ev c0.P c0.T (.call 4 [.int .i64 a, .int .i64 b, .agg [.bool w0, .bool w1]] [] (D.bool (decide (arN (49 : Nat) (of32 a) a (of32 b) b < (0 : Int)) == decide (a < (0 : Int)))) ([] ++ X)) :=
  outC_ok cNOk (show outC 0 (q a b w0 w1 (.path [false, false, false, true, true, true, true, true, false, true, true, true, true, true, true, true, true, false, false, false, false, true, true, true, true, true, true, true, true, true, true, true, true, true, true, true, true, true, true, true, true, true, true, false, true])) = some (D.bool (decide (arN (49 : Nat) (of32 a) a (of32 b) b < (0 : Int)) == decide (a < (0 : Int))), [],
    [(arN (45 : Nat)
      (arK (46 : Nat) (arK (48 : Nat) (of32 a) a (of32 b) b) (arN (48 : Nat) (of32 a) a (of32 b) b) (of32 b) b)
      (arN (46 : Nat) (arK (48 : Nat) (of32 a) a (of32 b) b) (arN (48 : Nat) (of32 a) a (of32 b) b) (of32 b) b)
      (arK (49 : Nat) (of32 a) a (of32 b) b) (arN (49 : Nat) (of32 a) a (of32 b) b) ==
    a) =
  true,
      (arN (49 : Nat) (of32 a) a (of32 b) b == (0 : Int)) = false,
      ((arN (45 : Nat)
        (arK (46 : Nat) (arK (48 : Nat) (of32 a) a (of32 b) b) (arN (48 : Nat) (of32 a) a (of32 b) b) (of32 b) b)
        (arN (46 : Nat) (arK (48 : Nat) (of32 a) a (of32 b) b) (arN (48 : Nat) (of32 a) a (of32 b) b) (of32 b) b)
        (arK (49 : Nat) (of32 a) a (of32 b) b) (arN (49 : Nat) (of32 a) a (of32 b) b) ==
      a) ==
    true) =
  true,
      ((arN (49 : Nat) (of32 a) a (of32 b) b == (0 : Int)) == false) = true,
      ((arN (49 : Nat) (of32 a) a (of32 b) b == (0 : Int)) == false) = true,
      ((arN (49 : Nat) (of32 a) a (of32 b) b == (0 : Int)) == false) = true,
      ((arN (49 : Nat) (of32 a) a (of32 b) b == (0 : Int)) == false) = true,
      ((arN (49 : Nat) (of32 a) a (of32 b) b == (0 : Int)) == false) = true,
      ((arN (49 : Nat) (of32 a) a (of32 b) b == (0 : Int)) == false) = true,
      ((arN (45 : Nat)
        (arK (46 : Nat) (arK (48 : Nat) (of32 a) a (of32 b) b) (arN (48 : Nat) (of32 a) a (of32 b) b) (of32 b) b)
        (arN (46 : Nat) (arK (48 : Nat) (of32 a) a (of32 b) b) (arN (48 : Nat) (of32 a) a (of32 b) b) (of32 b) b)
        (arK (49 : Nat) (of32 a) a (of32 b) b) (arN (49 : Nat) (of32 a) a (of32 b) b) ==
      a) ==
    true) =
  true,
      ((arN (45 : Nat)
        (arK (46 : Nat) (arK (48 : Nat) (of32 a) a (of32 b) b) (arN (48 : Nat) (of32 a) a (of32 b) b) (of32 b) b)
        (arN (46 : Nat) (arK (48 : Nat) (of32 a) a (of32 b) b) (arN (48 : Nat) (of32 a) a (of32 b) b) (of32 b) b)
        (arK (49 : Nat) (of32 a) a (of32 b) b) (arN (49 : Nat) (of32 a) a (of32 b) b) ==
      a) ==
    true) =
  true,
      ((arN (45 : Nat)
        (arK (46 : Nat) (arK (48 : Nat) (of32 a) a (of32 b) b) (arN (48 : Nat) (of32 a) a (of32 b) b) (of32 b) b)
        (arN (46 : Nat) (arK (48 : Nat) (of32 a) a (of32 b) b) (arN (48 : Nat) (of32 a) a (of32 b) b) (of32 b) b)
        (arK (49 : Nat) (of32 a) a (of32 b) b) (arN (49 : Nat) (of32 a) a (of32 b) b) ==
      a) ==
    true) =
  true,
      ((arN (45 : Nat)
        (arK (46 : Nat) (arK (48 : Nat) (of32 a) a (of32 b) b) (arN (48 : Nat) (of32 a) a (of32 b) b) (of32 b) b)
        (arN (46 : Nat) (arK (48 : Nat) (of32 a) a (of32 b) b) (arN (48 : Nat) (of32 a) a (of32 b) b) (of32 b) b)
        (arK (49 : Nat) (of32 a) a (of32 b) b) (arN (49 : Nat) (of32 a) a (of32 b) b) ==
      a) ==
    true) =
  true,
      (arE (45 : Nat)
      (arK (46 : Nat) (arK (48 : Nat) (of32 a) a (of32 b) b) (arN (48 : Nat) (of32 a) a (of32 b) b) (of32 b) b)
      (arN (46 : Nat) (arK (48 : Nat) (of32 a) a (of32 b) b) (arN (48 : Nat) (of32 a) a (of32 b) b) (of32 b) b)
      (arK (49 : Nat) (of32 a) a (of32 b) b) (arN (49 : Nat) (of32 a) a (of32 b) b) ==
    (0 : Int)) =
  true,
      ((arE (45 : Nat)
        (arK (46 : Nat) (arK (48 : Nat) (of32 a) a (of32 b) b) (arN (48 : Nat) (of32 a) a (of32 b) b) (of32 b) b)
        (arN (46 : Nat) (arK (48 : Nat) (of32 a) a (of32 b) b) (arN (48 : Nat) (of32 a) a (of32 b) b) (of32 b) b)
        (arK (49 : Nat) (of32 a) a (of32 b) b) (arN (49 : Nat) (of32 a) a (of32 b) b) ==
      (0 : Int)) ==
    true) =
  true,
      ((arE (45 : Nat)
        (arK (46 : Nat) (arK (48 : Nat) (of32 a) a (of32 b) b) (arN (48 : Nat) (of32 a) a (of32 b) b) (of32 b) b)
        (arN (46 : Nat) (arK (48 : Nat) (of32 a) a (of32 b) b) (arN (48 : Nat) (of32 a) a (of32 b) b) (of32 b) b)
        (arK (49 : Nat) (of32 a) a (of32 b) b) (arN (49 : Nat) (of32 a) a (of32 b) b) ==
      (0 : Int)) ==
    true) =
  true,
      ((arE (45 : Nat)
        (arK (46 : Nat) (arK (48 : Nat) (of32 a) a (of32 b) b) (arN (48 : Nat) (of32 a) a (of32 b) b) (of32 b) b)
        (arN (46 : Nat) (arK (48 : Nat) (of32 a) a (of32 b) b) (arN (48 : Nat) (of32 a) a (of32 b) b) (of32 b) b)
        (arK (49 : Nat) (of32 a) a (of32 b) b) (arN (49 : Nat) (of32 a) a (of32 b) b) ==
      (0 : Int)) ==
    true) =
  true,
      ((arE (45 : Nat)
        (arK (46 : Nat) (arK (48 : Nat) (of32 a) a (of32 b) b) (arN (48 : Nat) (of32 a) a (of32 b) b) (of32 b) b)
        (arN (46 : Nat) (arK (48 : Nat) (of32 a) a (of32 b) b) (arN (48 : Nat) (of32 a) a (of32 b) b) (of32 b) b)
        (arK (49 : Nat) (of32 a) a (of32 b) b) (arN (49 : Nat) (of32 a) a (of32 b) b) ==
      (0 : Int)) ==
    true) =
  true,
      (arE (46 : Nat) (arK (48 : Nat) (of32 a) a (of32 b) b) (arN (48 : Nat) (of32 a) a (of32 b) b) (of32 b) b == (0 : Int)) =
  true,
      ((arE (46 : Nat) (arK (48 : Nat) (of32 a) a (of32 b) b) (arN (48 : Nat) (of32 a) a (of32 b) b) (of32 b) b ==
      (0 : Int)) ==
    true) =
  true,
      ((arE (46 : Nat) (arK (48 : Nat) (of32 a) a (of32 b) b) (arN (48 : Nat) (of32 a) a (of32 b) b) (of32 b) b ==
      (0 : Int)) ==
    true) =
  true,
      (arE (49 : Nat) (of32 a) a (of32 b) b == (0 : Int)) = true,
      ((arE (49 : Nat) (of32 a) a (of32 b) b == (0 : Int)) == true) = true,
      ((arE (49 : Nat) (of32 a) a (of32 b) b == (0 : Int)) == true) = true,
      R (arN (46 : Nat) (arK (48 : Nat) (of32 a) a (of32 b) b) (arN (48 : Nat) (of32 a) a (of32 b) b) (of32 b) b),
      R (arN (49 : Nat) (of32 a) a (of32 b) b),
      R (arN (48 : Nat) (of32 a) a (of32 b) b),
      R b,
      (arE (48 : Nat) (of32 a) a (of32 b) b != (0 : Int)) = false,
      (b == (0 : Int)) = false,
      R a,
      R b,
      R a,
      R b,
      w0 = false,
      (arN (47 : Nat) (arK (45 : Nat) (of32 a) a (of32 b) b) (arN (45 : Nat) (of32 a) a (of32 b) b) (of32 b) b != a) = false,
      (arK (47 : Nat) (arK (45 : Nat) (of32 a) a (of32 b) b) (arN (45 : Nat) (of32 a) a (of32 b) b) (of32 b) b != (4 : Int)) =
  true,
      ((arN (47 : Nat) (arK (45 : Nat) (of32 a) a (of32 b) b) (arN (45 : Nat) (of32 a) a (of32 b) b) (of32 b) b != a) ==
    false) =
  true,
      ((arK (47 : Nat) (arK (45 : Nat) (of32 a) a (of32 b) b) (arN (45 : Nat) (of32 a) a (of32 b) b) (of32 b) b !=
      (4 : Int)) ==
    true) =
  true,
      (0 : Int) ≤ (0 : Int) ∧ (0 : Int) < ↑(2 : Nat),
      ((arK (47 : Nat) (arK (45 : Nat) (of32 a) a (of32 b) b) (arN (45 : Nat) (of32 a) a (of32 b) b) (of32 b) b !=
      (4 : Int)) ==
    true) =
  true,
      ((arN (47 : Nat) (arK (45 : Nat) (of32 a) a (of32 b) b) (arN (45 : Nat) (of32 a) a (of32 b) b) (of32 b) b != a) ==
    false) =
  true,
      ((arN (47 : Nat) (arK (45 : Nat) (of32 a) a (of32 b) b) (arN (45 : Nat) (of32 a) a (of32 b) b) (of32 b) b != a) ==
    false) =
  true,
      ((arN (47 : Nat) (arK (45 : Nat) (of32 a) a (of32 b) b) (arN (45 : Nat) (of32 a) a (of32 b) b) (of32 b) b != a) ==
    false) =
  true,
      ((arN (47 : Nat) (arK (45 : Nat) (of32 a) a (of32 b) b) (arN (45 : Nat) (of32 a) a (of32 b) b) (of32 b) b != a) ==
    false) =
  true,
      (arE (47 : Nat) (arK (45 : Nat) (of32 a) a (of32 b) b) (arN (45 : Nat) (of32 a) a (of32 b) b) (of32 b) b != (0 : Int)) =
  false,
      ((arE (47 : Nat) (arK (45 : Nat) (of32 a) a (of32 b) b) (arN (45 : Nat) (of32 a) a (of32 b) b) (of32 b) b !=
      (0 : Int)) ==
    false) =
  true,
      ((arE (47 : Nat) (arK (45 : Nat) (of32 a) a (of32 b) b) (arN (45 : Nat) (of32 a) a (of32 b) b) (of32 b) b !=
      (0 : Int)) ==
    false) =
  true,
      ((arE (47 : Nat) (arK (45 : Nat) (of32 a) a (of32 b) b) (arN (45 : Nat) (of32 a) a (of32 b) b) (of32 b) b !=
      (0 : Int)) ==
    false) =
  true,
      ((arE (47 : Nat) (arK (45 : Nat) (of32 a) a (of32 b) b) (arN (45 : Nat) (of32 a) a (of32 b) b) (of32 b) b !=
      (0 : Int)) ==
    false) =
  true,
      R (arN (45 : Nat) (of32 a) a (of32 b) b),
      R b,
      (arE (45 : Nat) (of32 a) a (of32 b) b == (0 : Int)) = true,
      R a,
      R b,
      w1 = false,
      (0 : Int) ≤ (1 : Int) ∧ (1 : Int) < ↑(2 : Nat),
      w0 = false,
      (0 : Int) ≤ (0 : Int) ∧ (0 : Int) < ↑(2 : Nat),
      R b,
      R a,
      (!true) = false]) by kernel_rfl) (by simp only [all_cons, all_nil]; simp [*])

theorem l4_109 (a : Int) (b : Int) (w0 : Bool) (w1 : Bool)
    (h0 : w0 = false)
    (h1 : w1 = false)
    (h2 : (arE (45 : Nat) (of32 a) a (of32 b) b == (0 : Int)) = true)
    (h3 : (arE (47 : Nat) (arK (45 : Nat) (of32 a) a (of32 b) b) (arN (45 : Nat) (of32 a) a (of32 b) b) (of32 b) b != (0 : Int)) =
  false)
    (h4 : (arN (47 : Nat) (arK (45 : Nat) (of32 a) a (of32 b) b) (arN (45 : Nat) (of32 a) a (of32 b) b) (of32 b) b != a) = false)
    (h5 : (arK (47 : Nat) (arK (45 : Nat) (of32 a) a (of32 b) b) (arN (45 : Nat) (of32 a) a (of32 b) b) (of32 b) b != (4 : Int)) =
  false)
    (h6 : (b == (0 : Int)) = true)
    (h7 : (arE (48 : Nat) (of32 a) a (of32 b) b == (11 : Int)) = true)
    (h8 : R a)
    (h9 : R b)
    (h10 : R (arN (45 : Nat) (of32 a) a (of32 b) b))
    (h11 : (0 : Int) ≤ (1 : Int) ∧ (1 : Int) < ↑(2 : Nat))
    (h12 : (0 : Int) ≤ (0 : Int) ∧ (0 : Int) < ↑(2 : Nat)) :
    ∃ X, Ev c0.P c0.T (.call 4 [.int .i64 a, .int .i64 b, .agg [.bool w0, .bool w1]] [] (D.bool (arE (49 : Nat) (of32 a) a (of32 b) b == (11 : Int))) ([] ++ X)) :=
  outC_ok cNOk (show outC 0 (q a b w0 w1 (.path [false, false, false, true, true, true, true, true, false, true, true, true, true, false, false, true, false, false, false, true, true, true, true])) = some (D.bool (arE (49 : Nat) (of32 a) a (of32 b) b == (11 : Int)), [],
    [(arE (48 : Nat) (of32 a) a (of32 b) b == (11 : Int)) = true,
      ((arE (48 : Nat) (of32 a) a (of32 b) b == (11 : Int)) == true) = true,
      ((arE (48 : Nat) (of32 a) a (of32 b) b == (11 : Int)) == true) = true,
      (b == (0 : Int)) = true,
      R a,
      R b,
      R a,
      R b,
      false = false,
      (arN (47 : Nat) (arK (45 : Nat) (of32 a) a (of32 b) b) (arN (45 : Nat) (of32 a) a (of32 b) b) (of32 b) b != a) = false,
      (arK (47 : Nat) (arK (45 : Nat) (of32 a) a (of32 b) b) (arN (45 : Nat) (of32 a) a (of32 b) b) (of32 b) b != (4 : Int)) =
  false,
      ((arN (47 : Nat) (arK (45 : Nat) (of32 a) a (of32 b) b) (arN (45 : Nat) (of32 a) a (of32 b) b) (of32 b) b != a) ==
    false) =
  true,
      ((arK (47 : Nat) (arK (45 : Nat) (of32 a) a (of32 b) b) (arN (45 : Nat) (of32 a) a (of32 b) b) (of32 b) b !=
      (4 : Int)) ==
    true) =
  false,
      ((arK (47 : Nat) (arK (45 : Nat) (of32 a) a (of32 b) b) (arN (45 : Nat) (of32 a) a (of32 b) b) (of32 b) b !=
      (4 : Int)) ==
    true) =
  false,
      ((arN (47 : Nat) (arK (45 : Nat) (of32 a) a (of32 b) b) (arN (45 : Nat) (of32 a) a (of32 b) b) (of32 b) b != a) ==
    false) =
  true,
      ((arN (47 : Nat) (arK (45 : Nat) (of32 a) a (of32 b) b) (arN (45 : Nat) (of32 a) a (of32 b) b) (of32 b) b != a) ==
    false) =
  true,
      ((arN (47 : Nat) (arK (45 : Nat) (of32 a) a (of32 b) b) (arN (45 : Nat) (of32 a) a (of32 b) b) (of32 b) b != a) ==
    false) =
  true,
      ((arN (47 : Nat) (arK (45 : Nat) (of32 a) a (of32 b) b) (arN (45 : Nat) (of32 a) a (of32 b) b) (of32 b) b != a) ==
    false) =
  true,
      (arE (47 : Nat) (arK (45 : Nat) (of32 a) a (of32 b) b) (arN (45 : Nat) (of32 a) a (of32 b) b) (of32 b) b != (0 : Int)) =
  false,
      ((arE (47 : Nat) (arK (45 : Nat) (of32 a) a (of32 b) b) (arN (45 : Nat) (of32 a) a (of32 b) b) (of32 b) b !=
      (0 : Int)) ==
    false) =
  true,
      ((arE (47 : Nat) (arK (45 : Nat) (of32 a) a (of32 b) b) (arN (45 : Nat) (of32 a) a (of32 b) b) (of32 b) b !=
      (0 : Int)) ==
    false) =
  true,
      ((arE (47 : Nat) (arK (45 : Nat) (of32 a) a (of32 b) b) (arN (45 : Nat) (of32 a) a (of32 b) b) (of32 b) b !=
      (0 : Int)) ==
    false) =
  true,
      ((arE (47 : Nat) (arK (45 : Nat) (of32 a) a (of32 b) b) (arN (45 : Nat) (of32 a) a (of32 b) b) (of32 b) b !=
      (0 : Int)) ==
    false) =
  true,
      R (arN (45 : Nat) (of32 a) a (of32 b) b),
      R b,
      (arE (45 : Nat) (of32 a) a (of32 b) b == (0 : Int)) = true,
      R a,
      R b,
      w1 = false,
      (0 : Int) ≤ (1 : Int) ∧ (1 : Int) < ↑(2 : Nat),
      w0 = false,
      (0 : Int) ≤ (0 : Int) ∧ (0 : Int) < ↑(2 : Nat),
      R b,
      R a,
      (!true) = false]) by kernel_rfl) (by simp only [all_cons, all_nil]; simp [*])

theorem l4_111 (a : Int) (b : Int) (w0 : Bool) (w1 : Bool)
    (h0 : w0 = false)
    (h1 : w1 = false)
    (h2 : (arE (45 : Nat) (of32 a) a (of32 b) b == (0 : Int)) = true)
    (h3 : (arE (47 : Nat) (arK (45 : Nat) (of32 a) a (of32 b) b) (arN (45 : Nat) (of32 a) a (of32 b) b) (of32 b) b != (0 : Int)) =
  false)
    (h4 : (arN (47 : Nat) (arK (45 : Nat) (of32 a) a (of32 b) b) (arN (45 : Nat) (of32 a) a (of32 b) b) (of32 b) b != a) = false)
    (h5 : (arK (47 : Nat) (arK (45 : Nat) (of32 a) a (of32 b) b) (arN (45 : Nat) (of32 a) a (of32 b) b) (of32 b) b != (4 : Int)) =
  false)
    (h6 : (b == (0 : Int)) = false)
    (h7 : (arE (48 : Nat) (of32 a) a (of32 b) b != (0 : Int)) = true)
    (h8 : (a == (-9223372036854775808 : Int)) = true)
    (h9 : (b == (-1 : Int)) = true)
    (h10 : (arE (49 : Nat) (of32 a) a (of32 b) b == (0 : Int)) = true)
    (h11 : R a)
    (h12 : R b)
    (h13 : R (arN (45 : Nat) (of32 a) a (of32 b) b))
    (h14 : (0 : Int) ≤ (1 : Int) ∧ (1 : Int) < ↑(2 : Nat))
    (h15 : (0 : Int) ≤ (0 : Int) ∧ (0 : Int) < ↑(2 : Nat)) :
    ∃ X, Ev c0.P c0.T (.call 4 [.int .i64 a, .int .i64 b, .agg [.bool w0, .bool w1]] [] (D.bool (arN (49 : Nat) (of32 a) a (of32 b) b == (0 : Int))) ([] ++ X)) :=
  outC_ok cNOk (show outC 0 (q a b w0 w1 (.path [false, false, false, true, true, true, true, true, false, true, true, true, true, false, false, true, false, false, false, false, true, true, true, true, true, true, true, true, true, true, true])) = some (D.bool (arN (49 : Nat) (of32 a) a (of32 b) b == (0 : Int)), [],
    [(arE (49 : Nat) (of32 a) a (of32 b) b == (0 : Int)) = true,
      ((arE (49 : Nat) (of32 a) a (of32 b) b == (0 : Int)) == true) = true,
      ((arE (49 : Nat) (of32 a) a (of32 b) b == (0 : Int)) == true) = true,
      ((arE (49 : Nat) (of32 a) a (of32 b) b == (0 : Int)) == true) = true,
      (b == (-1 : Int)) = true,
      ((b == (-1 : Int)) == true) = true,
      ((b == (-1 : Int)) == true) = true,
      (a == (-9223372036854775808 : Int)) = true,
      ((a == (-9223372036854775808 : Int)) == true) = true,
      ((a == (-9223372036854775808 : Int)) == true) = true,
      (arE (48 : Nat) (of32 a) a (of32 b) b != (0 : Int)) = true,
      (b == (0 : Int)) = false,
      R a,
      R b,
      R a,
      R b,
      false = false,
      (arN (47 : Nat) (arK (45 : Nat) (of32 a) a (of32 b) b) (arN (45 : Nat) (of32 a) a (of32 b) b) (of32 b) b != a) = false,
      (arK (47 : Nat) (arK (45 : Nat) (of32 a) a (of32 b) b) (arN (45 : Nat) (of32 a) a (of32 b) b) (of32 b) b != (4 : Int)) =
  false,
      ((arN (47 : Nat) (arK (45 : Nat) (of32 a) a (of32 b) b) (arN (45 : Nat) (of32 a) a (of32 b) b) (of32 b) b != a) ==
    false) =
  true,
      ((arK (47 : Nat) (arK (45 : Nat) (of32 a) a (of32 b) b) (arN (45 : Nat) (of32 a) a (of32 b) b) (of32 b) b !=
      (4 : Int)) ==
    true) =
  false,
      ((arK (47 : Nat) (arK (45 : Nat) (of32 a) a (of32 b) b) (arN (45 : Nat) (of32 a) a (of32 b) b) (of32 b) b !=
      (4 : Int)) ==
    true) =
  false,
      ((arN (47 : Nat) (arK (45 : Nat) (of32 a) a (of32 b) b) (arN (45 : Nat) (of32 a) a (of32 b) b) (of32 b) b != a) ==
    false) =
  true,
      ((arN (47 : Nat) (arK (45 : Nat) (of32 a) a (of32 b) b) (arN (45 : Nat) (of32 a) a (of32 b) b) (of32 b) b != a) ==
    false) =
  true,
      ((arN (47 : Nat) (arK (45 : Nat) (of32 a) a (of32 b) b) (arN (45 : Nat) (of32 a) a (of32 b) b) (of32 b) b != a) ==
    false) =
  true,
      ((arN (47 : Nat) (arK (45 : Nat) (of32 a) a (of32 b) b) (arN (45 : Nat) (of32 a) a (of32 b) b) (of32 b) b != a) ==
    false) =
  true,
      (arE (47 : Nat) (arK (45 : Nat) (of32 a) a (of32 b) b) (arN (45 : Nat) (of32 a) a (of32 b) b) (of32 b) b != (0 : Int)) =
  false,
      ((arE (47 : Nat) (arK (45 : Nat) (of32 a) a (of32 b) b) (arN (45 : Nat) (of32 a) a (of32 b) b) (of32 b) b !=
      (0 : Int)) ==
    false) =
  true,
      ((arE (47 : Nat) (arK (45 : Nat) (of32 a) a (of32 b) b) (arN (45 : Nat) (of32 a) a (of32 b) b) (of32 b) b !=
      (0 : Int)) ==
    false) =
  true,
      ((arE (47 : Nat) (arK (45 : Nat) (of32 a) a (of32 b) b) (arN (45 : Nat) (of32 a) a (of32 b) b) (of32 b) b !=
      (0 : Int)) ==
    false) =
  true,
      ((arE (47 : Nat) (arK (45 : Nat) (of32 a) a (of32 b) b) (arN (45 : Nat) (of32 a) a (of32 b) b) (of32 b) b !=
      (0 : Int)) ==
    false) =
  true,
      R (arN (45 : Nat) (of32 a) a (of32 b) b),
      R b,
      (arE (45 : Nat) (of32 a) a (of32 b) b == (0 : Int)) = true,
      R a,
      R b,
      w1 = false,
      (0 : Int) ≤ (1 : Int) ∧ (1 : Int) < ↑(2 : Nat),
      w0 = false,
      (0 : Int) ≤ (0 : Int) ∧ (0 : Int) < ↑(2 : Nat),
      R b,
      R a,
      (!true) = false]) by kernel_rfl) (by simp only [all_cons, all_nil]; simp [*])

theorem l4_115 (a : Int) (b : Int) (w0 : Bool) (w1 : Bool)
    (h0 : w0 = false)
    (h1 : w1 = false)
    (h2 : (arE (45 : Nat) (of32 a) a (of32 b) b == (0 : Int)) = true)
    (h3 : (arE (47 : Nat) (arK (45 : Nat) (of32 a) a (of32 b) b) (arN (45 : Nat) (of32 a) a (of32 b) b) (of32 b) b != (0 : Int)) =
  false)
    (h4 : (arN (47 : Nat) (arK (45 : Nat) (of32 a) a (of32 b) b) (arN (45 : Nat) (of32 a) a (of32 b) b) (of32 b) b != a) = false)
    (h5 : (arK (47 : Nat) (arK (45 : Nat) (of32 a) a (of32 b) b) (arN (45 : Nat) (of32 a) a (of32 b) b) (of32 b) b != (4 : Int)) =
  false)
    (h6 : (b == (0 : Int)) = false)
    (h7 : (arE (48 : Nat) (of32 a) a (of32 b) b != (0 : Int)) = false)
    (h8 : (arE (49 : Nat) (of32 a) a (of32 b) b == (0 : Int)) = true)
    (h9 : (arE (46 : Nat) (arK (48 : Nat) (of32 a) a (of32 b) b) (arN (48 : Nat) (of32 a) a (of32 b) b) (of32 b) b == (0 : Int)) =
  true)
    (h10 : (arE (45 : Nat)
      (arK (46 : Nat) (arK (48 : Nat) (of32 a) a (of32 b) b) (arN (48 : Nat) (of32 a) a (of32 b) b) (of32 b) b)
      (arN (46 : Nat) (arK (48 : Nat) (of32 a) a (of32 b) b) (arN (48 : Nat) (of32 a) a (of32 b) b) (of32 b) b)
      (arK (49 : Nat) (of32 a) a (of32 b) b) (arN (49 : Nat) (of32 a) a (of32 b) b) ==
    (0 : Int)) =
  true)
    (h11 : (arN (45 : Nat)
      (arK (46 : Nat) (arK (48 : Nat) (of32 a) a (of32 b) b) (arN (48 : Nat) (of32 a) a (of32 b) b) (of32 b) b)
      (arN (46 : Nat) (arK (48 : Nat) (of32 a) a (of32 b) b) (arN (48 : Nat) (of32 a) a (of32 b) b) (of32 b) b)
      (arK (49 : Nat) (of32 a) a (of32 b) b) (arN (49 : Nat) (of32 a) a (of32 b) b) ==
    a) =
  true)
    (h12 : (arN (49 : Nat) (of32 a) a (of32 b) b == (0 : Int)) = true)
    (h13 : R (arN (46 : Nat) (arK (48 : Nat) (of32 a) a (of32 b) b) (arN (48 : Nat) (of32 a) a (of32 b) b) (of32 b) b))
    (h14 : R (arN (49 : Nat) (of32 a) a (of32 b) b))
    (h15 : R (arN (48 : Nat) (of32 a) a (of32 b) b))
    (h16 : R b)
    (h17 : R a)
    (h18 : R (arN (45 : Nat) (of32 a) a (of32 b) b))
    (h19 : (0 : Int) ≤ (1 : Int) ∧ (1 : Int) < ↑(2 : Nat))
    (h20 : (0 : Int) ≤ (0 : Int) ∧ (0 : Int) < ↑(2 : Nat)) :
    ∃ X, Ev c0.P c0.T (.call 4 [.int .i64 a, .int .i64 b, .agg [.bool w0, .bool w1]] [] (D.bool true) ([] ++ X)) :=
  outC_ok cNOk (show outC 0 (q a b w0 w1 (.path [false, false, false, true, true, true, true, true, false, true, true, true, true, false, false, true, false, false, false, false, false, true, true, true, true, true, true, true, true, true, true, true, true, true, true, true, false, false, false, false, false, false, true, true, true])) = some (D.bool true, [],
    [(arN (45 : Nat)
      (arK (46 : Nat) (arK (48 : Nat) (of32 a) a (of32 b) b) (arN (48 : Nat) (of32 a) a (of32 b) b) (of32 b) b)
      (arN (46 : Nat) (arK (48 : Nat) (of32 a) a (of32 b) b) (arN (48 : Nat) (of32 a) a (of32 b) b) (of32 b) b)
      (arK (49 : Nat) (of32 a) a (of32 b) b) (arN (49 : Nat) (of32 a) a (of32 b) b) ==
    a) =
  true,
      (arN (49 : Nat) (of32 a) a (of32 b) b == (0 : Int)) = true,
      ((arN (45 : Nat)
        (arK (46 : Nat) (arK (48 : Nat) (of32 a) a (of32 b) b) (arN (48 : Nat) (of32 a) a (of32 b) b) (of32 b) b)
        (arN (46 : Nat) (arK (48 : Nat) (of32 a) a (of32 b) b) (arN (48 : Nat) (of32 a) a (of32 b) b) (of32 b) b)
        (arK (49 : Nat) (of32 a) a (of32 b) b) (arN (49 : Nat) (of32 a) a (of32 b) b) ==
      a) ==
    true) =
  true,
      ((arN (49 : Nat) (of32 a) a (of32 b) b == (0 : Int)) == false) = false,
      ((arN (49 : Nat) (of32 a) a (of32 b) b == (0 : Int)) == false) = false,
      ((arN (49 : Nat) (of32 a) a (of32 b) b == (0 : Int)) == false) = false,
      ((arN (49 : Nat) (of32 a) a (of32 b) b == (0 : Int)) == false) = false,
      ((arN (49 : Nat) (of32 a) a (of32 b) b == (0 : Int)) == false) = false,
      ((arN (49 : Nat) (of32 a) a (of32 b) b == (0 : Int)) == false) = false,
      ((arN (45 : Nat)
        (arK (46 : Nat) (arK (48 : Nat) (of32 a) a (of32 b) b) (arN (48 : Nat) (of32 a) a (of32 b) b) (of32 b) b)
        (arN (46 : Nat) (arK (48 : Nat) (of32 a) a (of32 b) b) (arN (48 : Nat) (of32 a) a (of32 b) b) (of32 b) b)
        (arK (49 : Nat) (of32 a) a (of32 b) b) (arN (49 : Nat) (of32 a) a (of32 b) b) ==
      a) ==
    true) =
  true,
      ((arN (45 : Nat)
        (arK (46 : Nat) (arK (48 : Nat) (of32 a) a (of32 b) b) (arN (48 : Nat) (of32 a) a (of32 b) b) (of32 b) b)
        (arN (46 : Nat) (arK (48 : Nat) (of32 a) a (of32 b) b) (arN (48 : Nat) (of32 a) a (of32 b) b) (of32 b) b)
        (arK (49 : Nat) (of32 a) a (of32 b) b) (arN (49 : Nat) (of32 a) a (of32 b) b) ==
      a) ==
    true) =
  true,
      ((arN (45 : Nat)
        (arK (46 : Nat) (arK (48 : Nat) (of32 a) a (of32 b) b) (arN (48 : Nat) (of32 a) a (of32 b) b) (of32 b) b)
        (arN (46 : Nat) (arK (48 : Nat) (of32 a) a (of32 b) b) (arN (48 : Nat) (of32 a) a (of32 b) b) (of32 b) b)
        (arK (49 : Nat) (of32 a) a (of32 b) b) (arN (49 : Nat) (of32 a) a (of32 b) b) ==
      a) ==
    true) =
  true,
      ((arN (45 : Nat)
        (arK (46 : Nat) (arK (48 : Nat) (of32 a) a (of32 b) b) (arN (48 : Nat) (of32 a) a (of32 b) b) (of32 b) b)
        (arN (46 : Nat) (arK (48 : Nat) (of32 a) a (of32 b) b) (arN (48 : Nat) (of32 a) a (of32 b) b) (of32 b) b)
        (arK (49 : Nat) (of32 a) a (of32 b) b) (arN (49 : Nat) (of32 a) a (of32 b) b) ==
      a) ==
    true) =
  true,
      (arE (45 : Nat)
      (arK (46 : Nat) (arK (48 : Nat) (of32 a) a (of32 b) b) (arN (48 : Nat) (of32 a) a (of32 b) b) (of32 b) b)
      (arN (46 : Nat) (arK (48 : Nat) (of32 a) a (of32 b) b) (arN (48 : Nat) (of32 a) a (of32 b) b) (of32 b) b)
      (arK (49 : Nat) (of32 a) a (of32 b) b) (arN (49 : Nat) (of32 a) a (of32 b) b) ==
    (0 : Int)) =
  true,
      ((arE (45 : Nat)
        (arK (46 : Nat) (arK (48 : Nat) (of32 a) a (of32 b) b) (arN (48 : Nat) (of32 a) a (of32 b) b) (of32 b) b)
        (arN (46 : Nat) (arK (48 : Nat) (of32 a) a (of32 b) b) (arN (48 : Nat) (of32 a) a (of32 b) b) (of32 b) b)
        (arK (49 : Nat) (of32 a) a (of32 b) b) (arN (49 : Nat) (of32 a) a (of32 b) b) ==
      (0 : Int)) ==
    true) =
  true,
      ((arE (45 : Nat)
        (arK (46 : Nat) (arK (48 : Nat) (of32 a) a (of32 b) b) (arN (48 : Nat) (of32 a) a (of32 b) b) (of32 b) b)
        (arN (46 : Nat) (arK (48 : Nat) (of32 a) a (of32 b) b) (arN (48 : Nat) (of32 a) a (of32 b) b) (of32 b) b)
        (arK (49 : Nat) (of32 a) a (of32 b) b) (arN (49 : Nat) (of32 a) a (of32 b) b) ==
      (0 : Int)) ==
    true) =
  true,
      ((arE (45 : Nat)
        (arK (46 : Nat) (arK (48 : Nat) (of32 a) a (of32 b) b) (arN (48 : Nat) (of32 a) a (of32 b) b) (of32 b) b)
        (arN (46 : Nat) (arK (48 : Nat) (of32 a) a (of32 b) b) (arN (48 : Nat) (of32 a) a (of32 b) b) (of32 b) b)
        (arK (49 : Nat) (of32 a) a (of32 b) b) (arN (49 : Nat) (of32 a) a (of32 b) b) ==
      (0 : Int)) ==
    true) =
  true,
      ((arE (45 : Nat)
        (arK (46 : Nat) (arK (48 : Nat) (of32 a) a (of32 b) b) (arN (48 : Nat) (of32 a) a (of32 b) b) (of32 b) b)
        (arN (46 : Nat) (arK (48 : Nat) (of32 a) a (of32 b) b) (arN (48 : Nat) (of32 a) a (of32 b) b) (of32 b) b)
        (arK (49 : Nat) (of32 a) a (of32 b) b) (arN (49 : Nat) (of32 a) a (of32 b) b) ==
      (0 : Int)) ==
    true) =
  true,
      (arE (46 : Nat) (arK (48 : Nat) (of32 a) a (of32 b) b) (arN (48 : Nat) (of32 a) a (of32 b) b) (of32 b) b == (0 : Int)) =
  true,
      ((arE (46 : Nat) (arK (48 : Nat) (of32 a) a (of32 b) b) (arN (48 : Nat) (of32 a) a (of32 b) b) (of32 b) b ==
      (0 : Int)) ==
    true) =
  true,
      ((arE (46 : Nat) (arK (48 : Nat) (of32 a) a (of32 b) b) (arN (48 : Nat) (of32 a) a (of32 b) b) (of32 b) b ==
      (0 : Int)) ==
    true) =
  true,
      (arE (49 : Nat) (of32 a) a (of32 b) b == (0 : Int)) = true,
      ((arE (49 : Nat) (of32 a) a (of32 b) b == (0 : Int)) == true) = true,
      ((arE (49 : Nat) (of32 a) a (of32 b) b == (0 : Int)) == true) = true,
      R (arN (46 : Nat) (arK (48 : Nat) (of32 a) a (of32 b) b) (arN (48 : Nat) (of32 a) a (of32 b) b) (of32 b) b),
      R (arN (49 : Nat) (of32 a) a (of32 b) b),
      R (arN (48 : Nat) (of32 a) a (of32 b) b),
      R b,
      (arE (48 : Nat) (of32 a) a (of32 b) b != (0 : Int)) = false,
      (b == (0 : Int)) = false,
      R a,
      R b,
      R a,
      R b,
      false = false,
      (arN (47 : Nat) (arK (45 : Nat) (of32 a) a (of32 b) b) (arN (45 : Nat) (of32 a) a (of32 b) b) (of32 b) b != a) = false,
      (arK (47 : Nat) (arK (45 : Nat) (of32 a) a (of32 b) b) (arN (45 : Nat) (of32 a) a (of32 b) b) (of32 b) b != (4 : Int)) =
  false,
      ((arN (47 : Nat) (arK (45 : Nat) (of32 a) a (of32 b) b) (arN (45 : Nat) (of32 a) a (of32 b) b) (of32 b) b != a) ==
    false) =
  true,
      ((arK (47 : Nat) (arK (45 : Nat) (of32 a) a (of32 b) b) (arN (45 : Nat) (of32 a) a (of32 b) b) (of32 b) b !=
      (4 : Int)) ==
    true) =
  false,
      ((arK (47 : Nat) (arK (45 : Nat) (of32 a) a (of32 b) b) (arN (45 : Nat) (of32 a) a (of32 b) b) (of32 b) b !=
      (4 : Int)) ==
    true) =
  false,
      ((arN (47 : Nat) (arK (45 : Nat) (of32 a) a (of32 b) b) (arN (45 : Nat) (of32 a) a (of32 b) b) (of32 b) b != a) ==
    false) =
  true,
      ((arN (47 : Nat) (arK (45 : Nat) (of32 a) a (of32 b) b) (arN (45 : Nat) (of32 a) a (of32 b) b) (of32 b) b != a) ==
    false) =
  true,
      ((arN (47 : Nat) (arK (45 : Nat) (of32 a) a (of32 b) b) (arN (45 : Nat) (of32 a) a (of32 b) b) (of32 b) b != a) ==
    false) =
  true,
      ((arN (47 : Nat) (arK (45 : Nat) (of32 a) a (of32 b) b) (arN (45 : Nat) (of32 a) a (of32 b) b) (of32 b) b != a) ==
    false) =
  true,
      (arE (47 : Nat) (arK (45 : Nat) (of32 a) a (of32 b) b) (arN (45 : Nat) (of32 a) a (of32 b) b) (of32 b) b != (0 : Int)) =
  false,
      ((arE (47 : Nat) (arK (45 : Nat) (of32 a) a (of32 b) b) (arN (45 : Nat) (of32 a) a (of32 b) b) (of32 b) b !=
      (0 : Int)) ==
    false) =
  true,
      ((arE (47 : Nat) (arK (45 : Nat) (of32 a) a (of32 b) b) (arN (45 : Nat) (of32 a) a (of32 b) b) (of32 b) b !=
      (0 : Int)) ==
    false) =
  true,
      ((arE (47 : Nat) (arK (45 : Nat) (of32 a) a (of32 b) b) (arN (45 : Nat) (of32 a) a (of32 b) b) (of32 b) b !=
      (0 : Int)) ==
    false) =
  true,
      ((arE (47 : Nat) (arK (45 : Nat) (of32 a) a (of32 b) b) (arN (45 : Nat) (of32 a) a (of32 b) b) (of32 b) b !=
      (0 : Int)) ==
    false) =
  true,
      R (arN (45 : Nat) (of32 a) a (of32 b) b),
      R b,
      (arE (45 : Nat) (of32 a) a (of32 b) b == (0 : Int)) = true,
      R a,
      R b,
      w1 = false,
      (0 : Int) ≤ (1 : Int) ∧ (1 : Int) < ↑(2 : Nat),
      w0 = false,
      (0 : Int) ≤ (0 : Int) ∧ (0 : Int) < ↑(2 : Nat),
      R b,
      R a,
      (!true) = false]) by kernel_rfl) (by simp only [all_cons, all_nil]; simp [*])

theorem l4_116 (a : Int) (b : Int) (w0 : Bool) (w1 : Bool)
    (h0 : w0 = false)
    (h1 : w1 = false)
    (h2 : (arE (45 : Nat) (of32 a) a (of32 b) b == (0 : Int)) = true)
    (h3 : (arE (47 : Nat) (arK (45 : Nat) (of32 a) a (of32 b) b) (arN (45 : Nat) (of32 a) a (of32 b) b) (of32 b) b != (0 : Int)) =
  false)
    (h4 : (arN (47 : Nat) (arK (45 : Nat) (of32 a) a (of32 b) b) (arN (45 : Nat) (of32 a) a (of32 b) b) (of32 b) b != a) = false)
    (h5 : (arK (47 : Nat) (arK (45 : Nat) (of32 a) a (of32 b) b) (arN (45 : Nat) (of32 a) a (of32 b) b) (of32 b) b != (4 : Int)) =
  false)
    (h6 : (b == (0 : Int)) = false)
    (h7 : (arE (48 : Nat) (of32 a) a (of32 b) b != (0 : Int)) = false)
    (h8 : (arE (49 : Nat) (of32 a) a (of32 b) b == (0 : Int)) = true)
    (h9 : (arE (46 : Nat) (arK (48 : Nat) (of32 a) a (of32 b) b) (arN (48 : Nat) (of32 a) a (of32 b) b) (of32 b) b == (0 : Int)) =
  true)
    (h10 : (arE (45 : Nat)
      (arK (46 : Nat) (arK (48 : Nat) (of32 a) a (of32 b) b) (arN (48 : Nat) (of32 a) a (of32 b) b) (of32 b) b)
      (arN (46 : Nat) (arK (48 : Nat) (of32 a) a (of32 b) b) (arN (48 : Nat) (of32 a) a (of32 b) b) (of32 b) b)
      (arK (49 : Nat) (of32 a) a (of32 b) b) (arN (49 : Nat) (of32 a) a (of32 b) b) ==
    (0 : Int)) =
  true)
    (h11 : (arN (45 : Nat)
      (arK (46 : Nat) (arK (48 : Nat) (of32 a) a (of32 b) b) (arN (48 : Nat) (of32 a) a (of32 b) b) (of32 b) b)
      (arN (46 : Nat) (arK (48 : Nat) (of32 a) a (of32 b) b) (arN (48 : Nat) (of32 a) a (of32 b) b) (of32 b) b)
      (arK (49 : Nat) (of32 a) a (of32 b) b) (arN (49 : Nat) (of32 a) a (of32 b) b) ==
    a) =
  true)
    (h12 : (arN (49 : Nat) (of32 a) a (of32 b) b == (0 : Int)) = false)
    (h13 : R (arN (46 : Nat) (arK (48 : Nat) (of32 a) a (of32 b) b) (arN (48 : Nat) (of32 a) a (of32 b) b) (of32 b) b))
    (h14 : R (arN (49 : Nat) (of32 a) a (of32 b) b))
    (h15 : R (arN (48 : Nat) (of32 a) a (of32 b) b))
    (h16 : R b)
    (h17 : R a)
    (h18 : R (arN (45 : Nat) (of32 a) a (of32 b) b))
    (h19 : (0 : Int) ≤ (1 : Int) ∧ (1 : Int) < ↑(2 : Nat))
    (h20 : (0 : Int) ≤ (0 : Int) ∧ (0 : Int) < ↑(2 : Nat)) :
    ∃ X, Ev c0.P c0.T (.call 4 [.int .i64 a, .int .i64 b, .agg [.bool w0, .bool w1]] [] (D.bool (decide (arN (49 : Nat) (of32 a) a (of32 b) b < (0 : Int)) == decide (a < (0 : Int)))) ([] ++ X)) :=
  outC_ok cNOk (show outC 0 (q a b w0 w1 (.path [false, false, false, true, true, true, true, true, false, true, true, true, true, false, false, true, false, false, false, false, false, true, true, true, true, true, true, true, true, true, true, true, true, true, true, true, true, true, true, true, true, true, true, false, true])) = some (D.bool (decide (arN (49 : Nat) (of32 a) a (of32 b) b < (0 : Int)) == decide (a < (0 : Int))), [],
    [(arN (45 : Nat)
      (arK (46 : Nat) (arK (48 : Nat) (of32 a) a (of32 b) b) (arN (48 : Nat) (of32 a) a (of32 b) b) (of32 b) b)
      (arN (46 : Nat) (arK (48 : Nat) (of32 a) a (of32 b) b) (arN (48 : Nat) (of32 a) a (of32 b) b) (of32 b) b)
      (arK (49 : Nat) (of32 a) a (of32 b) b) (arN (49 : Nat) (of32 a) a (of32 b) b) ==
    a) =
  true,
      (arN (49 : Nat) (of32 a) a (of32 b) b == (0 : Int)) = false,
      ((arN (45 : Nat)
        (arK (46 : Nat) (arK (48 : Nat) (of32 a) a (of32 b) b) (arN (48 : Nat) (of32 a) a (of32 b) b) (of32 b) b)
        (arN (46 : Nat) (arK (48 : Nat) (of32 a) a (of32 b) b) (arN (48 : Nat) (of32 a) a (of32 b) b) (of32 b) b)
        (arK (49 : Nat) (of32 a) a (of32 b) b) (arN (49 : Nat) (of32 a) a (of32 b) b) ==
      a) ==
    true) =
  true,
      ((arN (49 : Nat) (of32 a) a (of32 b) b == (0 : Int)) == false) = true,
      ((arN (49 : Nat) (of32 a) a (of32 b) b == (0 : Int)) == false) = true,
      ((arN (49 : Nat) (of32 a) a (of32 b) b == (0 : Int)) == false) = true,
      ((arN (49 : Nat) (of32 a) a (of32 b) b == (0 : Int)) == false) = true,
      ((arN (49 : Nat) (of32 a) a (of32 b) b == (0 : Int)) == false) = true,
      ((arN (49 : Nat) (of32 a) a (of32 b) b == (0 : Int)) == false) = true,
      ((arN (45 : Nat)
        (arK (46 : Nat) (arK (48 : Nat) (of32 a) a (of32 b) b) (arN (48 : Nat) (of32 a) a (of32 b) b) (of32 b) b)
        (arN (46 : Nat) (arK (48 : Nat) (of32 a) a (of32 b) b) (arN (48 : Nat) (of32 a) a (of32 b) b) (of32 b) b)
        (arK (49 : Nat) (of32 a) a (of32 b) b) (arN (49 : Nat) (of32 a) a (of32 b) b) ==
      a) ==
    true) =
  true,
      ((arN (45 : Nat)
        (arK (46 : Nat) (arK (48 : Nat) (of32 a) a (of32 b) b) (arN (48 : Nat) (of32 a) a (of32 b) b) (of32 b) b)
        (arN (46 : Nat) (arK (48 : Nat) (of32 a) a (of32 b) b) (arN (48 : Nat) (of32 a) a (of32 b) b) (of32 b) b)
        (arK (49 : Nat) (of32 a) a (of32 b) b) (arN (49 : Nat) (of32 a) a (of32 b) b) ==
      a) ==
    true) =
  true,
      ((arN (45 : Nat)
        (arK (46 : Nat) (arK (48 : Nat) (of32 a) a (of32 b) b) (arN (48 : Nat) (of32 a) a (of32 b) b) (of32 b) b)
        (arN (46 : Nat) (arK (48 : Nat) (of32 a) a (of32 b) b) (arN (48 : Nat) (of32 a) a (of32 b) b) (of32 b) b)
        (arK (49 : Nat) (of32 a) a (of32 b) b) (arN (49 : Nat) (of32 a) a (of32 b) b) ==
      a) ==
    true) =
  true,
      ((arN (45 : Nat)
        (arK (46 : Nat) (arK (48 : Nat) (of32 a) a (of32 b) b) (arN (48 : Nat) (of32 a) a (of32 b) b) (of32 b) b)
        (arN (46 : Nat) (arK (48 : Nat) (of32 a) a (of32 b) b) (arN (48 : Nat) (of32 a) a (of32 b) b) (of32 b) b)
        (arK (49 : Nat) (of32 a) a (of32 b) b) (arN (49 : Nat) (of32 a) a (of32 b) b) ==
      a) ==
    true) =
  true,
      (arE (45 : Nat)
      (arK (46 : Nat) (arK (48 : Nat) (of32 a) a (of32 b) b) (arN (48 : Nat) (of32 a) a (of32 b) b) (of32 b) b)
      (arN (46 : Nat) (arK (48 : Nat) (of32 a) a (of32 b) b) (arN (48 : Nat) (of32 a) a (of32 b) b) (of32 b) b)
      (arK (49 : Nat) (of32 a) a (of32 b) b) (arN (49 : Nat) (of32 a) a (of32 b) b) ==
    (0 : Int)) =
  true,
      ((arE (45 : Nat)
        (arK (46 : Nat) (arK (48 : Nat) (of32 a) a (of32 b) b) (arN (48 : Nat) (of32 a) a (of32 b) b) (of32 b) b)
        (arN (46 : Nat) (arK (48 : Nat) (of32 a) a (of32 b) b) (arN (48 : Nat) (of32 a) a (of32 b) b) (of32 b) b)
        (arK (49 : Nat) (of32 a) a (of32 b) b) (arN (49 : Nat) (of32 a) a (of32 b) b) ==
      (0 : Int)) ==
    true) =
  true,
      ((arE (45 : Nat)
        (arK (46 : Nat) (arK (48 : Nat) (of32 a) a (of32 b) b) (arN (48 : Nat) (of32 a) a (of32 b) b) (of32 b) b)
        (arN (46 : Nat) (arK (48 : Nat) (of32 a) a (of32 b) b) (arN (48 : Nat) (of32 a) a (of32 b) b) (of32 b) b)
        (arK (49 : Nat) (of32 a) a (of32 b) b) (arN (49 : Nat) (of32 a) a (of32 b) b) ==
      (0 : Int)) ==
    true) =
  true,
      ((arE (45 : Nat)
        (arK (46 : Nat) (arK (48 : Nat) (of32 a) a (of32 b) b) (arN (48 : Nat) (of32 a) a (of32 b) b) (of32 b) b)
        (arN (46 : Nat) (arK (48 : Nat) (of32 a) a (of32 b) b) (arN (48 : Nat) (of32 a) a (of32 b) b) (of32 b) b)
        (arK (49 : Nat) (of32 a) a (of32 b) b) (arN (49 : Nat) (of32 a) a (of32 b) b) ==
      (0 : Int)) ==
    true) =
  true,
      ((arE (45 : Nat)
        (arK (46 : Nat) (arK (48 : Nat) (of32 a) a (of32 b) b) (arN (48 : Nat) (of32 a) a (of32 b) b) (of32 b) b)
        (arN (46 : Nat) (arK (48 : Nat) (of32 a) a (of32 b) b) (arN (48 : Nat) (of32 a) a (of32 b) b) (of32 b) b)
        (arK (49 : Nat) (of32 a) a (of32 b) b) (arN (49 : Nat) (of32 a) a (of32 b) b) ==
      (0 : Int)) ==
    true) =
  true,
      (arE (46 : Nat) (arK (48 : Nat) (of32 a) a (of32 b) b) (arN (48 : Nat) (of32 a) a (of32 b) b) (of32 b) b == (0 : Int)) =
  true,
      ((arE (46 : Nat) (arK (48 : Nat) (of32 a) a (of32 b) b) (arN (48 : Nat) (of32 a) a (of32 b) b) (of32 b) b ==
      (0 : Int)) ==
    true) =
  true,
      ((arE (46 : Nat) (arK (48 : Nat) (of32 a) a (of32 b) b) (arN (48 : Nat) (of32 a) a (of32 b) b) (of32 b) b ==
      (0 : Int)) ==
    true) =
  true,
      (arE (49 : Nat) (of32 a) a (of32 b) b == (0 : Int)) = true,
      ((arE (49 : Nat) (of32 a) a (of32 b) b == (0 : Int)) == true) = true,
      ((arE (49 : Nat) (of32 a) a (of32 b) b == (0 : Int)) == true) = true,
      R (arN (46 : Nat) (arK (48 : Nat) (of32 a) a (of32 b) b) (arN (48 : Nat) (of32 a) a (of32 b) b) (of32 b) b),
      R (arN (49 : Nat) (of32 a) a (of32 b) b),
      R (arN (48 : Nat) (of32 a) a (of32 b) b),
      R b,
      (arE (48 : Nat) (of32 a) a (of32 b) b != (0 : Int)) = false,
      (b == (0 : Int)) = false,
      R a,
      R b,
      R a,
      R b,
      false = false,
      (arN (47 : Nat) (arK (45 : Nat) (of32 a) a (of32 b) b) (arN (45 : Nat) (of32 a) a (of32 b) b) (of32 b) b != a) = false,
      (arK (47 : Nat) (arK (45 : Nat) (of32 a) a (of32 b) b) (arN (45 : Nat) (of32 a) a (of32 b) b) (of32 b) b != (4 : Int)) =
  false,
      ((arN (47 : Nat) (arK (45 : Nat) (of32 a) a (of32 b) b) (arN (45 : Nat) (of32 a) a (of32 b) b) (of32 b) b != a) ==
    false) =
  true,
      ((arK (47 : Nat) (arK (45 : Nat) (of32 a) a (of32 b) b) (arN (45 : Nat) (of32 a) a (of32 b) b) (of32 b) b !=
      (4 : Int)) ==
    true) =
  false,
      ((arK (47 : Nat) (arK (45 : Nat) (of32 a) a (of32 b) b) (arN (45 : Nat) (of32 a) a (of32 b) b) (of32 b) b !=
      (4 : Int)) ==
    true) =
  false,
      ((arN (47 : Nat) (arK (45 : Nat) (of32 a) a (of32 b) b) (arN (45 : Nat) (of32 a) a (of32 b) b) (of32 b) b != a) ==
    false) =
  true,
      ((arN (47 : Nat) (arK (45 : Nat) (of32 a) a (of32 b) b) (arN (45 : Nat) (of32 a) a (of32 b) b) (of32 b) b != a) ==
    false) =
  true,
      ((arN (47 : Nat) (arK (45 : Nat) (of32 a) a (of32 b) b) (arN (45 : Nat) (of32 a) a (of32 b) b) (of32 b) b != a) ==
    false) =
  true,
      ((arN (47 : Nat) (arK (45 : Nat) (of32 a) a (of32 b) b) (arN (45 : Nat) (of32 a) a (of32 b) b) (of32 b) b != a) ==
    false) =
  true,
      (arE (47 : Nat) (arK (45 : Nat) (of32 a) a (of32 b) b) (arN (45 : Nat) (of32 a) a (of32 b) b) (of32 b) b != (0 : Int)) =
  false,
      ((arE (47 : Nat) (arK (45 : Nat) (of32 a) a (of32 b) b) (arN (45 : Nat) (of32 a) a (of32 b) b) (of32 b) b !=
      (0 : Int)) ==
    false) =
  true,
      ((arE (47 : Nat) (arK (45 : Nat) (of32 a) a (of32 b) b) (arN (45 : Nat) (of32 a) a (of32 b) b) (of32 b) b !=
      (0 : Int)) ==
    false) =
  true,
      ((arE (47 : Nat) (arK (45 : Nat) (of32 a) a (of32 b) b) (arN (45 : Nat) (of32 a) a (of32 b) b) (of32 b) b !=
      (0 : Int)) ==
    false) =
  true,
      ((arE (47 : Nat) (arK (45 : Nat) (of32 a) a (of32 b) b) (arN (45 : Nat) (of32 a) a (of32 b) b) (of32 b) b !=
      (0 : Int)) ==
    false) =
  true,
      R (arN (45 : Nat) (of32 a) a (of32 b) b),
      R b,
      (arE (45 : Nat) (of32 a) a (of32 b) b == (0 : Int)) = true,
      R a,
      R b,
      w1 = false,
      (0 : Int) ≤ (1 : Int) ∧ (1 : Int) < ↑(2 : Nat),
      w0 = false,
      (0 : Int) ≤ (0 : Int) ∧ (0 : Int) < ↑(2 : Nat),
      R b,
      R a,
      (!true) = false]) by kernel_rfl) (by simp only [all_cons, all_nil]; simp [*])

theorem l4_122 (a : Int) (b : Int) (w0 : Bool) (w1 : Bool)
    (h0 : w0 = false)
    (h1 : w1 = false)
    (h2 : (arE (45 : Nat) (of32 a) a (of32 b) b == (0 : Int)) = false)
    (h3 : (arE (45 : Nat) (of32 a) a (of32 b) b != (10 : Int)) = false)
    (h4 : (b == (0 : Int)) = true)
    (h5 : (arE (48 : Nat) (of32 a) a (of32 b) b == (11 : Int)) = true)
    (h6 : R a)
    (h7 : R b)
    (h8 : (0 : Int) ≤ (1 : Int) ∧ (1 : Int) < ↑(2 : Nat))
    (h9 : (0 : Int) ≤ (0 : Int) ∧ (0 : Int) < ↑(2 : Nat)) :
    ∃ X, Ev c0.P c0.T (.call 4 [.int .i64 a, .int .i64 b, .agg [.bool w0, .bool w1]] [] (D.bool (arE (49 : Nat) (of32 a) a (of32 b) b == (11 : Int))) ([] ++ X)) :=
  outC_ok cNOk (show outC 0 (q a b w0 w1 (.path [false, false, false, false, false, true, true, true, true])) = some (D.bool (arE (49 : Nat) (of32 a) a (of32 b) b == (11 : Int)), [],
    [(arE (48 : Nat) (of32 a) a (of32 b) b == (11 : Int)) = true,
      ((arE (48 : Nat) (of32 a) a (of32 b) b == (11 : Int)) == true) = true,
      ((arE (48 : Nat) (of32 a) a (of32 b) b == (11 : Int)) == true) = true,
      (b == (0 : Int)) = true,
      R a,
      R b,
      R a,
      R b,
      (arE (45 : Nat) (of32 a) a (of32 b) b != (10 : Int)) = false,
      (arE (45 : Nat) (of32 a) a (of32 b) b == (0 : Int)) = false,
      R a,
      R b,
      w1 = false,
      (0 : Int) ≤ (1 : Int) ∧ (1 : Int) < ↑(2 : Nat),
      w0 = false,
      (0 : Int) ≤ (0 : Int) ∧ (0 : Int) < ↑(2 : Nat),
      R b,
      R a,
      (!true) = false]) by kernel_rfl) (by simp only [all_cons, all_nil]; simp [*])

theorem l4_124 (a : Int) (b : Int) (w0 : Bool) (w1 : Bool)
    (h0 : w0 = false)
    (h1 : w1 = false)
    (h2 : (arE (45 : Nat) (of32 a) a (of32 b) b == (0 : Int)) = false)
    (h3 : (arE (45 : Nat) (of32 a) a (of32 b) b != (10 : Int)) = false)
    (h4 : (b == (0 : Int)) = false)
    (h5 : (arE (48 : Nat) (of32 a) a (of32 b) b != (0 : Int)) = true)
    (h6 : (a == (-9223372036854775808 : Int)) = true)
    (h7 : (b == (-1 : Int)) = true)
    (h8 : (arE (49 : Nat) (of32 a) a (of32 b) b == (0 : Int)) = true)
    (h9 : R a)
    (h10 : R b)
    (h11 : (0 : Int) ≤ (1 : Int) ∧ (1 : Int) < ↑(2 : Nat))
    (h12 : (0 : Int) ≤ (0 : Int) ∧ (0 : Int) < ↑(2 : Nat)) :
    ∃ X, Ev c0.P c0.T (.call 4 [.int .i64 a, .int .i64 b, .agg [.bool w0, .bool w1]] [] (D.bool (arN (49 : Nat) (of32 a) a (of32 b) b == (0 : Int))) ([] ++ X)) :=
  outC_ok cNOk (show outC 0 (q a b w0 w1 (.path [false, false, false, false, false, false, true, true, true, true, true, true, true, true, true, true, true])) = some (D.bool (arN (49 : Nat) (of32 a) a (of32 b) b == (0 : Int)), [],
    [(arE (49 : Nat) (of32 a) a (of32 b) b == (0 : Int)) = true,
      ((arE (49 : Nat) (of32 a) a (of32 b) b == (0 : Int)) == true) = true,
      ((arE (49 : Nat) (of32 a) a (of32 b) b == (0 : Int)) == true) = true,
      ((arE (49 : Nat) (of32 a) a (of32 b) b == (0 : Int)) == true) = true,
      (b == (-1 : Int)) = true,
      ((b == (-1 : Int)) == true) = true,
      ((b == (-1 : Int)) == true) = true,
      (a == (-9223372036854775808 : Int)) = true,
      ((a == (-9223372036854775808 : Int)) == true) = true,
      ((a == (-9223372036854775808 : Int)) == true) = true,
      (arE (48 : Nat) (of32 a) a (of32 b) b != (0 : Int)) = true,
      (b == (0 : Int)) = false,
      R a,
      R b,
      R a,
      R b,
      (arE (45 : Nat) (of32 a) a (of32 b) b != (10 : Int)) = false,
      (arE (45 : Nat) (of32 a) a (of32 b) b == (0 : Int)) = false,
      R a,
      R b,
      w1 = false,
      (0 : Int) ≤ (1 : Int) ∧ (1 : Int) < ↑(2 : Nat),
      w0 = false,
      (0 : Int) ≤ (0 : Int) ∧ (0 : Int) < ↑(2 : Nat),
      R b,
      R a,
      (!true) = false]) by kernel_rfl) (by simp only [all_cons, all_nil]; simp [*])

theorem l4_128 (a : Int) (b : Int) (w0 : Bool) (w1 : Bool)
    (h0 : w0 = false)
    (h1 : w1 = false)
    (h2 : (arE (45 : Nat) (of32 a) a (of32 b) b == (0 : Int)) = false)
    (h3 : (arE (45 : Nat) (of32 a) a (of32 b) b != (10 : Int)) = false)
    (h4 : (b == (0 : Int)) = false)
    (h5 : (arE (48 : Nat) (of32 a) a (of32 b) b != (0 : Int)) = false)
    (h6 : (arE (49 : Nat) (of32 a) a (of32 b) b == (0 : Int)) = true)
    (h7 : (arE (46 : Nat) (arK (48 : Nat) (of32 a) a (of32 b) b) (arN (48 : Nat) (of32 a) a (of32 b) b) (of32 b) b == (0 : Int)) =
  true)
    (h8 : (arE (45 : Nat)
      (arK (46 : Nat) (arK (48 : Nat) (of32 a) a (of32 b) b) (arN (48 : Nat) (of32 a) a (of32 b) b) (of32 b) b)
      (arN (46 : Nat) (arK (48 : Nat) (of32 a) a (of32 b) b) (arN (48 : Nat) (of32 a) a (of32 b) b) (of32 b) b)
      (arK (49 : Nat) (of32 a) a (of32 b) b) (arN (49 : Nat) (of32 a) a (of32 b) b) ==
    (0 : Int)) =
  true)
    (h9 : (arN (45 : Nat)
      (arK (46 : Nat) (arK (48 : Nat) (of32 a) a (of32 b) b) (arN (48 : Nat) (of32 a) a (of32 b) b) (of32 b) b)
      (arN (46 : Nat) (arK (48 : Nat) (of32 a) a (of32 b) b) (arN (48 : Nat) (of32 a) a (of32 b) b) (of32 b) b)
      (arK (49 : Nat) (of32 a) a (of32 b) b) (arN (49 : Nat) (of32 a) a (of32 b) b) ==
    a) =
  true)
    (h10 : (arN (49 : Nat) (of32 a) a (of32 b) b == (0 : Int)) = true)
    (h11 : R (arN (46 : Nat) (arK (48 : Nat) (of32 a) a (of32 b) b) (arN (48 : Nat) (of32 a) a (of32 b) b) (of32 b) b))
    (h12 : R (arN (49 : Nat) (of32 a) a (of32 b) b))
    (h13 : R (arN (48 : Nat) (of32 a) a (of32 b) b))
    (h14 : R b)
    (h15 : R a)
    (h16 : (0 : Int) ≤ (1 : Int) ∧ (1 : Int) < ↑(2 : Nat))
    (h17 : (0 : Int) ≤ (0 : Int) ∧ (0 : Int) < ↑(2 : Nat)) :
    ∃ X, Ev c0.P c0.T (.call 4 [.int .i64 a, .int .i64 b, .agg [.bool w0, .bool w1]] [] (D.bool true) ([] ++ X)) :=
  outC_ok cNOk (show outC 0 (q a b w0 w1 (.path [false, false, false, false, false, false, false, true, true, true, true, true, true, true, true, true, true, true, true, true, true, true, false, false, false, false, false, false, true, true, true])) = some (D.bool true, [],
    [(arN (45 : Nat)
      (arK (46 : Nat) (arK (48 : Nat) (of32 a) a (of32 b) b) (arN (48 : Nat) (of32 a) a (of32 b) b) (of32 b) b)
      (arN (46 : Nat) (arK (48 : Nat) (of32 a) a (of32 b) b) (arN (48 : Nat) (of32 a) a (of32 b) b) (of32 b) b)
      (arK (49 : Nat) (of32 a) a (of32 b) b) (arN (49 : Nat) (of32 a) a (of32 b) b) ==
    a) =
  true,
      (arN (49 : Nat) (of32 a) a (of32 b) b == (0 : Int)) = true,
      ((arN (45 : Nat)
        (arK (46 : Nat) (arK (48 : Nat) (of32 a) a (of32 b) b) (arN (48 : Nat) (of32 a) a (of32 b) b) (of32 b) b)
        (arN (46 : Nat) (arK (48 : Nat) (of32 a) a (of32 b) b) (arN (48 : Nat) (of32 a) a (of32 b) b) (of32 b) b)
        (arK (49 : Nat) (of32 a) a (of32 b) b) (arN (49 : Nat) (of32 a) a (of32 b) b) ==
      a) ==
    true) =
  true,
      ((arN (49 : Nat) (of32 a) a (of32 b) b == (0 : Int)) == false) = false,
      ((arN (49 : Nat) (of32 a) a (of32 b) b == (0 : Int)) == false) = false,
      ((arN (49 : Nat) (of32 a) a (of32 b) b == (0 : Int)) == false) = false,
      ((arN (49 : Nat) (of32 a) a (of32 b) b == (0 : Int)) == false) = false,
      ((arN (49 : Nat) (of32 a) a (of32 b) b == (0 : Int)) == false) = false,
      ((arN (49 : Nat) (of32 a) a (of32 b) b == (0 : Int)) == false) = false,
      ((arN (45 : Nat)
        (arK (46 : Nat) (arK (48 : Nat) (of32 a) a (of32 b) b) (arN (48 : Nat) (of32 a) a (of32 b) b) (of32 b) b)
        (arN (46 : Nat) (arK (48 : Nat) (of32 a) a (of32 b) b) (arN (48 : Nat) (of32 a) a (of32 b) b) (of32 b) b)
        (arK (49 : Nat) (of32 a) a (of32 b) b) (arN (49 : Nat) (of32 a) a (of32 b) b) ==
      a) ==
    true) =
  true,
      ((arN (45 : Nat)
        (arK (46 : Nat) (arK (48 : Nat) (of32 a) a (of32 b) b) (arN (48 : Nat) (of32 a) a (of32 b) b) (of32 b) b)
        (arN (46 : Nat) (arK (48 : Nat) (of32 a) a (of32 b) b) (arN (48 : Nat) (of32 a) a (of32 b) b) (of32 b) b)
        (arK (49 : Nat) (of32 a) a (of32 b) b) (arN (49 : Nat) (of32 a) a (of32 b) b) ==
      a) ==
    true) =
  true,
      ((arN (45 : Nat)
        (arK (46 : Nat) (arK (48 : Nat) (of32 a) a (of32 b) b) (arN (48 : Nat) (of32 a) a (of32 b) b) (of32 b) b)
        (arN (46 : Nat) (arK (48 : Nat) (of32 a) a (of32 b) b) (arN (48 : Nat) (of32 a) a (of32 b) b) (of32 b) b)
        (arK (49 : Nat) (of32 a) a (of32 b) b) (arN (49 : Nat) (of32 a) a (of32 b) b) ==
      a) ==
    true) =
  true,
      ((arN (45 : Nat)
        (arK (46 : Nat) (arK (48 : Nat) (of32 a) a (of32 b) b) (arN (48 : Nat) (of32 a) a (of32 b) b) (of32 b) b)
        (arN (46 : Nat) (arK (48 : Nat) (of32 a) a (of32 b) b) (arN (48 : Nat) (of32 a) a (of32 b) b) (of32 b) b)
        (arK (49 : Nat) (of32 a) a (of32 b) b) (arN (49 : Nat) (of32 a) a (of32 b) b) ==
      a) ==
    true) =
  true,
      (arE (45 : Nat)
      (arK (46 : Nat) (arK (48 : Nat) (of32 a) a (of32 b) b) (arN (48 : Nat) (of32 a) a (of32 b) b) (of32 b) b)
      (arN (46 : Nat) (arK (48 : Nat) (of32 a) a (of32 b) b) (arN (48 : Nat) (of32 a) a (of32 b) b) (of32 b) b)
      (arK (49 : Nat) (of32 a) a (of32 b) b) (arN (49 : Nat) (of32 a) a (of32 b) b) ==
    (0 : Int)) =
  true,
      ((arE (45 : Nat)
        (arK (46 : Nat) (arK (48 : Nat) (of32 a) a (of32 b) b) (arN (48 : Nat) (of32 a) a (of32 b) b) (of32 b) b)
        (arN (46 : Nat) (arK (48 : Nat) (of32 a) a (of32 b) b) (arN (48 : Nat) (of32 a) a (of32 b) b) (of32 b) b)
        (arK (49 : Nat) (of32 a) a (of32 b) b) (arN (49 : Nat) (of32 a) a (of32 b) b) ==
      (0 : Int)) ==
    true) =
  true,
      ((arE (45 : Nat)
        (arK (46 : Nat) (arK (48 : Nat) (of32 a) a (of32 b) b) (arN (48 : Nat) (of32 a) a (of32 b) b) (of32 b) b)
        (arN (46 : Nat) (arK (48 : Nat) (of32 a) a (of32 b) b) (arN (48 : Nat) (of32 a) a (of32 b) b) (of32 b) b)
        (arK (49 : Nat) (of32 a) a (of32 b) b) (arN (49 : Nat) (of32 a) a (of32 b) b) ==
      (0 : Int)) ==
    true) =
  true,
      ((arE (45 : Nat)
        (arK (46 : Nat) (arK (48 : Nat) (of32 a) a (of32 b) b) (arN (48 : Nat) (of32 a) a (of32 b) b) (of32 b) b)
        (arN (46 : Nat) (arK (48 : Nat) (of32 a) a (of32 b) b) (arN (48 : Nat) (of32 a) a (of32 b) b) (of32 b) b)
        (arK (49 : Nat) (of32 a) a (of32 b) b) (arN (49 : Nat) (of32 a) a (of32 b) b) ==
      (0 : Int)) ==
    true) =
  true,
      ((arE (45 : Nat)
        (arK (46 : Nat) (arK (48 : Nat) (of32 a) a (of32 b) b) (arN (48 : Nat) (of32 a) a (of32 b) b) (of32 b) b)
        (arN (46 : Nat) (arK (48 : Nat) (of32 a) a (of32 b) b) (arN (48 : Nat) (of32 a) a (of32 b) b) (of32 b) b)
        (arK (49 : Nat) (of32 a) a (of32 b) b) (arN (49 : Nat) (of32 a) a (of32 b) b) ==
      (0 : Int)) ==
    true) =
  true,
      (arE (46 : Nat) (arK (48 : Nat) (of32 a) a (of32 b) b) (arN (48 : Nat) (of32 a) a (of32 b) b) (of32 b) b == (0 : Int)) =
  true,
      ((arE (46 : Nat) (arK (48 : Nat) (of32 a) a (of32 b) b) (arN (48 : Nat) (of32 a) a (of32 b) b) (of32 b) b ==
      (0 : Int)) ==
    true) =
  true,
      ((arE (46 : Nat) (arK (48 : Nat) (of32 a) a (of32 b) b) (arN (48 : Nat) (of32 a) a (of32 b) b) (of32 b) b ==
      (0 : Int)) ==
    true) =
  true,
      (arE (49 : Nat) (of32 a) a (of32 b) b == (0 : Int)) = true,
      ((arE (49 : Nat) (of32 a) a (of32 b) b == (0 : Int)) == true) = true,
      ((arE (49 : Nat) (of32 a) a (of32 b) b == (0 : Int)) == true) = true,
      R (arN (46 : Nat) (arK (48 : Nat) (of32 a) a (of32 b) b) (arN (48 : Nat) (of32 a) a (of32 b) b) (of32 b) b),
      R (arN (49 : Nat) (of32 a) a (of32 b) b),
      R (arN (48 : Nat) (of32 a) a (of32 b) b),
      R b,
      (arE (48 : Nat) (of32 a) a (of32 b) b != (0 : Int)) = false,
      (b == (0 : Int)) = false,
      R a,
      R b,
      R a,
      R b,
      (arE (45 : Nat) (of32 a) a (of32 b) b != (10 : Int)) = false,
      (arE (45 : Nat) (of32 a) a (of32 b) b == (0 : Int)) = false,
      R a,
      R b,
      w1 = false,
      (0 : Int) ≤ (1 : Int) ∧ (1 : Int) < ↑(2 : Nat),
      w0 = false,
      (0 : Int) ≤ (0 : Int) ∧ (0 : Int) < ↑(2 : Nat),
      R b,
      R a,
      (!true) = false]) by kernel_rfl) (by simp only [all_cons, all_nil]; simp [*])

theorem l4_129 (a : Int) (b : Int) (w0 : Bool) (w1 : Bool)
    (h0 : w0 = false)
    (h1 : w1 = false)
    (h2 : (arE (45 : Nat) (of32 a) a (of32 b) b == (0 : Int)) = false)
    (h3 : (arE (45 : Nat) (of32 a) a (of32 b) b != (10 : Int)) = false)
    (h4 : (b == (0 : Int)) = false)
    (h5 : (arE (48 : Nat) (of32 a) a (of32 b) b != (0 : Int)) = false)
    (h6 : (arE (49 : Nat) (of32 a) a (of32 b) b == (0 : Int)) = true)
    (h7 : (arE (46 : Nat) (arK (48 : Nat) (of32 a) a (of32 b) b) (arN (48 : Nat) (of32 a) a (of32 b) b) (of32 b) b == (0 : Int)) =
  true)
    (h8 : (arE (45 : Nat)
      (arK (46 : Nat) (arK (48 : Nat) (of32 a) a (of32 b) b) (arN (48 : Nat) (of32 a) a (of32 b) b) (of32 b) b)
      (arN (46 : Nat) (arK (48 : Nat) (of32 a) a (of32 b) b) (arN (48 : Nat) (of32 a) a (of32 b) b) (of32 b) b)
      (arK (49 : Nat) (of32 a) a (of32 b) b) (arN (49 : Nat) (of32 a) a (of32 b) b) ==
    (0 : Int)) =
  true)
    (h9 : (arN (45 : Nat)
      (arK (46 : Nat) (arK (48 : Nat) (of32 a) a (of32 b) b) (arN (48 : Nat) (of32 a) a (of32 b) b) (of32 b) b)
      (arN (46 : Nat) (arK (48 : Nat) (of32 a) a (of32 b) b) (arN (48 : Nat) (of32 a) a (of32 b) b) (of32 b) b)
      (arK (49 : Nat) (of32 a) a (of32 b) b) (arN (49 : Nat) (of32 a) a (of32 b) b) ==
    a) =
  true)
    (h10 : (arN (49 : Nat) (of32 a) a (of32 b) b == (0 : Int)) = false)
    (h11 : R (arN (46 : Nat) (arK (48 : Nat) (of32 a) a (of32 b) b) (arN (48 : Nat) (of32 a) a (of32 b) b) (of32 b) b))
    (h12 : R (arN (49 : Nat) (of32 a) a (of32 b) b))
    (h13 : R (arN (48 : Nat) (of32 a) a (of32 b) b))
    (h14 : R b)
    (h15 : R a)
    (h16 : (0 : Int) ≤ (1 : Int) ∧ (1 : Int) < ↑(2 : Nat))
    (h17 : (0 : Int) ≤ (0 : Int) ∧ (0 : Int) < ↑(2 : Nat)) :
    ∃ X, Ev c0.P c0.T (.call 4 [.int .i64 a, .int .i64 b, .agg [.bool w0, .bool w1]] [] (D.bool (decide (arN (49 : Nat) (of32 a) a (of32 b) b < (0 : Int)) == decide (a < (0 : Int)))) ([] ++ X)) :=
  outC_ok cNOk (show outC 0 (q a b w0 w1 (.path [false, false, false, false, false, false, false, true, true, true, true, true, true, true, true, true, true, true, true, true, true, true, true, true, true, true, true, true, true, false, true])) = some (D.bool (decide (arN (49 : Nat) (of32 a) a (of32 b) b < (0 : Int)) == decide (a < (0 : Int))), [],
    [(arN (45 : Nat)
      (arK (46 : Nat) (arK (48 : Nat) (of32 a) a (of32 b) b) (arN (48 : Nat) (of32 a) a (of32 b) b) (of32 b) b)
      (arN (46 : Nat) (arK (48 : Nat) (of32 a) a (of32 b) b) (arN (48 : Nat) (of32 a) a (of32 b) b) (of32 b) b)
      (arK (49 : Nat) (of32 a) a (of32 b) b) (arN (49 : Nat) (of32 a) a (of32 b) b) ==
    a) =
  true,
      (arN (49 : Nat) (of32 a) a (of32 b) b == (0 : Int)) = false,
      ((arN (45 : Nat)
        (arK (46 : Nat) (arK (48 : Nat) (of32 a) a (of32 b) b) (arN (48 : Nat) (of32 a) a (of32 b) b) (of32 b) b)
        (arN (46 : Nat) (arK (48 : Nat) (of32 a) a (of32 b) b) (arN (48 : Nat) (of32 a) a (of32 b) b) (of32 b) b)
        (arK (49 : Nat) (of32 a) a (of32 b) b) (arN (49 : Nat) (of32 a) a (of32 b) b) ==
      a) ==
    true) =
  true,
      ((arN (49 : Nat) (of32 a) a (of32 b) b == (0 : Int)) == false) = true,
      ((arN (49 : Nat) (of32 a) a (of32 b) b == (0 : Int)) == false) = true,
      ((arN (49 : Nat) (of32 a) a (of32 b) b == (0 : Int)) == false) = true,
      ((arN (49 : Nat) (of32 a) a (of32 b) b == (0 : Int)) == false) = true,
      ((arN (49 : Nat) (of32 a) a (of32 b) b == (0 : Int)) == false) = true,
      ((arN (49 : Nat) (of32 a) a (of32 b) b == (0 : Int)) == false) = true,
      ((arN (45 : Nat)
        (arK (46 : Nat) (arK (48 : Nat) (of32 a) a (of32 b) b) (arN (48 : Nat) (of32 a) a (of32 b) b) (of32 b) b)
        (arN (46 : Nat) (arK (48 : Nat) (of32 a) a (of32 b) b) (arN (48 : Nat) (of32 a) a (of32 b) b) (of32 b) b)
        (arK (49 : Nat) (of32 a) a (of32 b) b) (arN (49 : Nat) (of32 a) a (of32 b) b) ==
      a) ==
    true) =
  true,
      ((arN (45 : Nat)
        (arK (46 : Nat) (arK (48 : Nat) (of32 a) a (of32 b) b) (arN (48 : Nat) (of32 a) a (of32 b) b) (of32 b) b)
        (arN (46 : Nat) (arK (48 : Nat) (of32 a) a (of32 b) b) (arN (48 : Nat) (of32 a) a (of32 b) b) (of32 b) b)
        (arK (49 : Nat) (of32 a) a (of32 b) b) (arN (49 : Nat) (of32 a) a (of32 b) b) ==
      a) ==
    true) =
  true,
      ((arN (45 : Nat)
        (arK (46 : Nat) (arK (48 : Nat) (of32 a) a (of32 b) b) (arN (48 : Nat) (of32 a) a (of32 b) b) (of32 b) b)
        (arN (46 : Nat) (arK (48 : Nat) (of32 a) a (of32 b) b) (arN (48 : Nat) (of32 a) a (of32 b) b) (of32 b) b)
        (arK (49 : Nat) (of32 a) a (of32 b) b) (arN (49 : Nat) (of32 a) a (of32 b) b) ==
      a) ==
    true) =
  true,
      ((arN (45 : Nat)
        (arK (46 : Nat) (arK (48 : Nat) (of32 a) a (of32 b) b) (arN (48 : Nat) (of32 a) a (of32 b) b) (of32 b) b)
        (arN (46 : Nat) (arK (48 : Nat) (of32 a) a (of32 b) b) (arN (48 : Nat) (of32 a) a (of32 b) b) (of32 b) b)
        (arK (49 : Nat) (of32 a) a (of32 b) b) (arN (49 : Nat) (of32 a) a (of32 b) b) ==
      a) ==
    true) =
  true,
      (arE (45 : Nat)
      (arK (46 : Nat) (arK (48 : Nat) (of32 a) a (of32 b) b) (arN (48 : Nat) (of32 a) a (of32 b) b) (of32 b) b)
      (arN (46 : Nat) (arK (48 : Nat) (of32 a) a (of32 b) b) (arN (48 : Nat) (of32 a) a (of32 b) b) (of32 b) b)
      (arK (49 : Nat) (of32 a) a (of32 b) b) (arN (49 : Nat) (of32 a) a (of32 b) b) ==
    (0 : Int)) =
  true,
      ((arE (45 : Nat)
        (arK (46 : Nat) (arK (48 : Nat) (of32 a) a (of32 b) b) (arN (48 : Nat) (of32 a) a (of32 b) b) (of32 b) b)
        (arN (46 : Nat) (arK (48 : Nat) (of32 a) a (of32 b) b) (arN (48 : Nat) (of32 a) a (of32 b) b) (of32 b) b)
        (arK (49 : Nat) (of32 a) a (of32 b) b) (arN (49 : Nat) (of32 a) a (of32 b) b) ==
      (0 : Int)) ==
    true) =
  true,
      ((arE (45 : Nat)
        (arK (46 : Nat) (arK (48 : Nat) (of32 a) a (of32 b) b) (arN (48 : Nat) (of32 a) a (of32 b) b) (of32 b) b)
        (arN (46 : Nat) (arK (48 : Nat) (of32 a) a (of32 b) b) (arN (48 : Nat) (of32 a) a (of32 b) b) (of32 b) b)
        (arK (49 : Nat) (of32 a) a (of32 b) b) (arN (49 : Nat) (of32 a) a (of32 b) b) ==
      (0 : Int)) ==
    true) =
  true,
      ((arE (45 : Nat)
        (arK (46 : Nat) (arK (48 : Nat) (of32 a) a (of32 b) b) (arN (48 : Nat) (of32 a) a (of32 b) b) (of32 b) b)
        (arN (46 : Nat) (arK (48 : Nat) (of32 a) a (of32 b) b) (arN (48 : Nat) (of32 a) a (of32 b) b) (of32 b) b)
        (arK (49 : Nat) (of32 a) a (of32 b) b) (arN (49 : Nat) (of32 a) a (of32 b) b) ==
      (0 : Int)) ==
    true) =
  true,
      ((arE (45 : Nat)
        (arK (46 : Nat) (arK (48 : Nat) (of32 a) a (of32 b) b) (arN (48 : Nat) (of32 a) a (of32 b) b) (of32 b) b)
        (arN (46 : Nat) (arK (48 : Nat) (of32 a) a (of32 b) b) (arN (48 : Nat) (of32 a) a (of32 b) b) (of32 b) b)
        (arK (49 : Nat) (of32 a) a (of32 b) b) (arN (49 : Nat) (of32 a) a (of32 b) b) ==
      (0 : Int)) ==
    true) =
  true,
      (arE (46 : Nat) (arK (48 : Nat) (of32 a) a (of32 b) b) (arN (48 : Nat) (of32 a) a (of32 b) b) (of32 b) b == (0 : Int)) =
  true,
      ((arE (46 : Nat) (arK (48 : Nat) (of32 a) a (of32 b) b) (arN (48 : Nat) (of32 a) a (of32 b) b) (of32 b) b ==
      (0 : Int)) ==
    true) =
  true,
      ((arE (46 : Nat) (arK (48 : Nat) (of32 a) a (of32 b) b) (arN (48 : Nat) (of32 a) a (of32 b) b) (of32 b) b ==
      (0 : Int)) ==
    true) =
  true,
      (arE (49 : Nat) (of32 a) a (of32 b) b == (0 : Int)) = true,
      ((arE (49 : Nat) (of32 a) a (of32 b) b == (0 : Int)) == true) = true,
      ((arE (49 : Nat) (of32 a) a (of32 b) b == (0 : Int)) == true) = true,
      R (arN (46 : Nat) (arK (48 : Nat) (of32 a) a (of32 b) b) (arN (48 : Nat) (of32 a) a (of32 b) b) (of32 b) b),
      R (arN (49 : Nat) (of32 a) a (of32 b) b),
      R (arN (48 : Nat) (of32 a) a (of32 b) b),
      R b,
      (arE (48 : Nat) (of32 a) a (of32 b) b != (0 : Int)) = false,
      (b == (0 : Int)) = false,
      R a,
      R b,
      R a,
      R b,
      (arE (45 : Nat) (of32 a) a (of32 b) b != (10 : Int)) = false,
      (arE (45 : Nat) (of32 a) a (of32 b) b == (0 : Int)) = false,
      R a,
      R b,
      w1 = false,
      (0 : Int) ≤ (1 : Int) ∧ (1 : Int) < ↑(2 : Nat),
      w0 = false,
      (0 : Int) ≤ (0 : Int) ∧ (0 : Int) < ↑(2 : Nat),
      R b,
      R a,
      (!true) = false]) by kernel_rfl) (by simp only [all_cons, all_nil]; simp [*])


end Go.Proofs.Ytbkacmcijimbfaa.numBack
