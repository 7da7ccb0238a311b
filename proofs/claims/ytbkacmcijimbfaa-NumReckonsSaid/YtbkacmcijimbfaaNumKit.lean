/- The five operations on numbers (num.add .. num.mod): what they hand back. -/
import Derived.Test.YtbkacmcijimbfaaRows
import Derived.Test.YtbkacmcijimbfaaGd30
namespace Go.Proofs.Ytbkacmcijimbfaa.numk
open Go Ytbkacmcijimbfaa.GD
set_option linter.unusedVariables false
set_option linter.unusedSimpArgs false

noncomputable def c0 : Cf := { P := Try.prog, T := tyOf Try.prog, hint := fun _ _ _ => .sym, room := fun _ _ => 2, meth := fun _ _ => none, ct := fun _ _ _ => none, stop := true }
theorem c0Ok : CfOk c0 where
  hT := fun _ _ h => h
  hm := by kernel_rfl
  meth := fun _ _ _ h => by simp only [c0] at h; cases h
  ct := fun _ _ _ _ _ _ h => by simp only [c0] at h; cases h
noncomputable def qi (f : Nat) (x y : Int) (or : GD.Or) := callE c0 100000 10 f [.int .i64 x, .int .i64 y] [] or

theorem i45_0 (x : Int) (y : Int)
    (h0 : (decide (IntKind.i64.wrap (x + y) > x) == decide (y > (0 : Int))) = true) :
    ∃ X, Ev c0.P c0.T (.call 45 [.int .i64 x, .int .i64 y] [] (D.tuple [D.int IntKind.i64 (IntKind.i64.wrap (x + y)), D.int IntKind.i64 (0 : Int)]) ([] ++ X)) :=
  outC_ok c0Ok (show outC 0 (qi 45 x y (.path [false])) = some (D.tuple [D.int IntKind.i64 (IntKind.i64.wrap (x + y)), D.int IntKind.i64 (0 : Int)], [],
    [(!decide (IntKind.i64.wrap (x + y) > x) == decide (y > (0 : Int))) = false]) by kernel_rfl) (by simp only [all_cons, all_nil]; simp [*])

theorem i45_1 (x : Int) (y : Int)
    (h0 : (decide (IntKind.i64.wrap (x + y) > x) == decide (y > (0 : Int))) = false) :
    ∃ X, Ev c0.P c0.T (.call 45 [.int .i64 x, .int .i64 y] [] (D.tuple [D.int IntKind.i64 (0 : Int), D.int IntKind.i64 (10 : Int)]) ([] ++ X)) :=
  outC_ok c0Ok (show outC 0 (qi 45 x y (.path [true])) = some (D.tuple [D.int IntKind.i64 (0 : Int), D.int IntKind.i64 (10 : Int)], [],
    [(!decide (IntKind.i64.wrap (x + y) > x) == decide (y > (0 : Int))) = true]) by kernel_rfl) (by simp only [all_cons, all_nil]; simp [*])

def i45_T (x : Int) (y : Int) : Int × Int :=
  (cond (decide (IntKind.i64.wrap (x + y) > x) == decide (y > (0 : Int)))
  (IntKind.i64.wrap (x + y), (0 : Int))
  ((0 : Int), (10 : Int)))

theorem i45_ct (x : Int) (y : Int) : ∃ X, Ev c0.P c0.T (.call 45 [.int .i64 x, .int .i64 y] [] (.tuple [.int .i64 (i45_T x y).1, .int .i64 (i45_T x y).2]) ([] ++ X)) := by
  cases g1 : (decide (IntKind.i64.wrap (x + y) > x) == decide (y > (0 : Int))) with
  | true =>
    simp only [i45_T, g1, cond_true, cond_false]; exact i45_0 x y g1
  | false =>
    simp only [i45_T, g1, cond_true, cond_false]; exact i45_1 x y g1

theorem i46_0 (x : Int) (y : Int)
    (h0 : (x == (0 : Int)) = true) :
    ∃ X, Ev c0.P c0.T (.call 46 [.int .i64 x, .int .i64 y] [] (D.tuple [D.int IntKind.i64 (0 : Int), D.int IntKind.i64 (0 : Int)]) ([] ++ X)) :=
  outC_ok c0Ok (show outC 0 (qi 46 x y (.path [false, false, true, true])) = some (D.tuple [D.int IntKind.i64 (0 : Int), D.int IntKind.i64 (0 : Int)], [],
    [true = true,
      (x == (0 : Int)) = true,
      ((x == (0 : Int)) == false) = false,
      ((x == (0 : Int)) == false) = false]) by kernel_rfl) (by simp only [all_cons, all_nil]; simp [*])

theorem i46_1 (x : Int) (y : Int)
    (h0 : (x == (0 : Int)) = false)
    (h1 : (y == (0 : Int)) = true) :
    ∃ X, Ev c0.P c0.T (.call 46 [.int .i64 x, .int .i64 y] [] (D.tuple [D.int IntKind.i64 (0 : Int), D.int IntKind.i64 (0 : Int)]) ([] ++ X)) :=
  outC_ok c0Ok (show outC 0 (qi 46 x y (.path [true, true, false, true])) = some (D.tuple [D.int IntKind.i64 (0 : Int), D.int IntKind.i64 (0 : Int)], [],
    [(y == (0 : Int)) = true,
      (x == (0 : Int)) = false,
      ((x == (0 : Int)) == false) = true,
      ((x == (0 : Int)) == false) = true]) by kernel_rfl) (by simp only [all_cons, all_nil]; simp [*])

theorem i46_2 (x : Int) (y : Int)
    (h0 : (x == (0 : Int)) = false)
    (h1 : (y == (0 : Int)) = false)
    (h2 : (x == (-1 : Int)) = true)
    (h3 : (y == (-9223372036854775808 : Int)) = true) :
    ∃ X, Ev c0.P c0.T (.call 46 [.int .i64 x, .int .i64 y] [] (D.tuple [D.int IntKind.i64 (0 : Int), D.int IntKind.i64 (10 : Int)]) ([] ++ X)) :=
  outC_ok c0Ok (show outC 0 (qi 46 x y (.path [true, true, false, false, true, true, true, false, false, false, false, true, true])) = some (D.tuple [D.int IntKind.i64 (0 : Int), D.int IntKind.i64 (10 : Int)], [],
    [true = true,
      (y == (-9223372036854775808 : Int)) = true,
      ((y == (-9223372036854775808 : Int)) == false) = false,
      ((y == (-9223372036854775808 : Int)) == false) = false,
      ((y == (-9223372036854775808 : Int)) == false) = false,
      ((y == (-9223372036854775808 : Int)) == false) = false,
      (x == (-1 : Int)) = true,
      ((x == (-1 : Int)) == true) = true,
      ((x == (-1 : Int)) == true) = true,
      (y == (0 : Int)) = false,
      (x == (0 : Int)) = false,
      ((x == (0 : Int)) == false) = true,
      ((x == (0 : Int)) == false) = true]) by kernel_rfl) (by simp only [all_cons, all_nil]; simp [*])

theorem i46_3 (x : Int) (y : Int)
    (h0 : (x == (0 : Int)) = false)
    (h1 : (y == (0 : Int)) = false)
    (h2 : (x == (-1 : Int)) = true)
    (h3 : (y == (-9223372036854775808 : Int)) = false)
    (h4 : (y == (-1 : Int)) = true)
    (h5 : (x == (-9223372036854775808 : Int)) = true) :
    ∃ X, Ev c0.P c0.T (.call 46 [.int .i64 x, .int .i64 y] [] (D.tuple [D.int IntKind.i64 (0 : Int), D.int IntKind.i64 (10 : Int)]) ([] ++ X)) :=
  outC_ok c0Ok (show outC 0 (qi 46 x y (.path [true, true, false, false, true, true, true, true, true, true, true, true, true, true, false, true])) = some (D.tuple [D.int IntKind.i64 (0 : Int), D.int IntKind.i64 (10 : Int)], [],
    [(x == (-9223372036854775808 : Int)) = true,
      (y == (-9223372036854775808 : Int)) = false,
      (y == (-1 : Int)) = true,
      ((y == (-9223372036854775808 : Int)) == false) = true,
      ((y == (-1 : Int)) == true) = true,
      ((y == (-1 : Int)) == true) = true,
      ((y == (-9223372036854775808 : Int)) == false) = true,
      ((y == (-9223372036854775808 : Int)) == false) = true,
      ((y == (-9223372036854775808 : Int)) == false) = true,
      (x == (-1 : Int)) = true,
      ((x == (-1 : Int)) == true) = true,
      ((x == (-1 : Int)) == true) = true,
      (y == (0 : Int)) = false,
      (x == (0 : Int)) = false,
      ((x == (0 : Int)) == false) = true,
      ((x == (0 : Int)) == false) = true]) by kernel_rfl) (by simp only [all_cons, all_nil]; simp [*])

theorem i46_4 (x : Int) (y : Int)
    (h0 : (x == (0 : Int)) = false)
    (h1 : (y == (0 : Int)) = false)
    (h2 : (x == (-1 : Int)) = true)
    (h3 : (y == (-9223372036854775808 : Int)) = false)
    (h4 : (y == (-1 : Int)) = true)
    (h5 : (x == (-9223372036854775808 : Int)) = false)
    (h6 : (IntKind.i64.wrap ((IntKind.i64.wrap (x * y)).tdiv y) == x) = true)
    (h7 : y ≠ (0 : Int)) :
    ∃ X, Ev c0.P c0.T (.call 46 [.int .i64 x, .int .i64 y] [] (D.tuple [D.int IntKind.i64 (IntKind.i64.wrap (x * y)), D.int IntKind.i64 (0 : Int)]) ([] ++ X)) :=
  outC_ok c0Ok (show outC 0 (qi 46 x y (.path [true, true, false, false, true, true, true, true, true, true, true, true, true, true, false, false, false])) = some (D.tuple [D.int IntKind.i64 (IntKind.i64.wrap (x * y)), D.int IntKind.i64 (0 : Int)], [],
    [(!IntKind.i64.wrap ((IntKind.i64.wrap (x * y)).tdiv y) == x) = false,
      y ≠ (0 : Int),
      (x == (-9223372036854775808 : Int)) = false,
      (y == (-9223372036854775808 : Int)) = false,
      (y == (-1 : Int)) = true,
      ((y == (-9223372036854775808 : Int)) == false) = true,
      ((y == (-1 : Int)) == true) = true,
      ((y == (-1 : Int)) == true) = true,
      ((y == (-9223372036854775808 : Int)) == false) = true,
      ((y == (-9223372036854775808 : Int)) == false) = true,
      ((y == (-9223372036854775808 : Int)) == false) = true,
      (x == (-1 : Int)) = true,
      ((x == (-1 : Int)) == true) = true,
      ((x == (-1 : Int)) == true) = true,
      (y == (0 : Int)) = false,
      (x == (0 : Int)) = false,
      ((x == (0 : Int)) == false) = true,
      ((x == (0 : Int)) == false) = true]) by kernel_rfl) (by simp only [all_cons, all_nil]; simp [*])

theorem i46_5 (x : Int) (y : Int)
    (h0 : (x == (0 : Int)) = false)
    (h1 : (y == (0 : Int)) = false)
    (h2 : (x == (-1 : Int)) = true)
    (h3 : (y == (-9223372036854775808 : Int)) = false)
    (h4 : (y == (-1 : Int)) = true)
    (h5 : (x == (-9223372036854775808 : Int)) = false)
    (h6 : (IntKind.i64.wrap ((IntKind.i64.wrap (x * y)).tdiv y) == x) = false)
    (h7 : y ≠ (0 : Int)) :
    ∃ X, Ev c0.P c0.T (.call 46 [.int .i64 x, .int .i64 y] [] (D.tuple [D.int IntKind.i64 (0 : Int), D.int IntKind.i64 (10 : Int)]) ([] ++ X)) :=
  outC_ok c0Ok (show outC 0 (qi 46 x y (.path [true, true, false, false, true, true, true, true, true, true, true, true, true, true, false, false, true])) = some (D.tuple [D.int IntKind.i64 (0 : Int), D.int IntKind.i64 (10 : Int)], [],
    [(!IntKind.i64.wrap ((IntKind.i64.wrap (x * y)).tdiv y) == x) = true,
      y ≠ (0 : Int),
      (x == (-9223372036854775808 : Int)) = false,
      (y == (-9223372036854775808 : Int)) = false,
      (y == (-1 : Int)) = true,
      ((y == (-9223372036854775808 : Int)) == false) = true,
      ((y == (-1 : Int)) == true) = true,
      ((y == (-1 : Int)) == true) = true,
      ((y == (-9223372036854775808 : Int)) == false) = true,
      ((y == (-9223372036854775808 : Int)) == false) = true,
      ((y == (-9223372036854775808 : Int)) == false) = true,
      (x == (-1 : Int)) = true,
      ((x == (-1 : Int)) == true) = true,
      ((x == (-1 : Int)) == true) = true,
      (y == (0 : Int)) = false,
      (x == (0 : Int)) = false,
      ((x == (0 : Int)) == false) = true,
      ((x == (0 : Int)) == false) = true]) by kernel_rfl) (by simp only [all_cons, all_nil]; simp [*])

theorem i46_6 (x : Int) (y : Int)
    (h0 : (x == (0 : Int)) = false)
    (h1 : (y == (0 : Int)) = false)
    (h2 : (x == (-1 : Int)) = true)
    (h3 : (y == (-9223372036854775808 : Int)) = false)
    (h4 : (y == (-1 : Int)) = false)
    (h5 : (IntKind.i64.wrap ((IntKind.i64.wrap (x * y)).tdiv y) == x) = true)
    (h6 : y ≠ (0 : Int)) :
    ∃ X, Ev c0.P c0.T (.call 46 [.int .i64 x, .int .i64 y] [] (D.tuple [D.int IntKind.i64 (IntKind.i64.wrap (x * y)), D.int IntKind.i64 (0 : Int)]) ([] ++ X)) :=
  outC_ok c0Ok (show outC 0 (qi 46 x y (.path [true, true, false, false, true, true, true, true, true, true, false, false, true, false, false, false, false])) = some (D.tuple [D.int IntKind.i64 (IntKind.i64.wrap (x * y)), D.int IntKind.i64 (0 : Int)], [],
    [(!IntKind.i64.wrap ((IntKind.i64.wrap (x * y)).tdiv y) == x) = false,
      y ≠ (0 : Int),
      false = false,
      (y == (-9223372036854775808 : Int)) = false,
      (y == (-1 : Int)) = false,
      ((y == (-9223372036854775808 : Int)) == false) = true,
      ((y == (-1 : Int)) == true) = false,
      ((y == (-1 : Int)) == true) = false,
      ((y == (-9223372036854775808 : Int)) == false) = true,
      ((y == (-9223372036854775808 : Int)) == false) = true,
      ((y == (-9223372036854775808 : Int)) == false) = true,
      (x == (-1 : Int)) = true,
      ((x == (-1 : Int)) == true) = true,
      ((x == (-1 : Int)) == true) = true,
      (y == (0 : Int)) = false,
      (x == (0 : Int)) = false,
      ((x == (0 : Int)) == false) = true,
      ((x == (0 : Int)) == false) = true]) by kernel_rfl) (by simp only [all_cons, all_nil]; simp [*])

theorem i46_7 (x : Int) (y : Int)
    (h0 : (x == (0 : Int)) = false)
    (h1 : (y == (0 : Int)) = false)
    (h2 : (x == (-1 : Int)) = true)
    (h3 : (y == (-9223372036854775808 : Int)) = false)
    (h4 : (y == (-1 : Int)) = false)
    (h5 : (IntKind.i64.wrap ((IntKind.i64.wrap (x * y)).tdiv y) == x) = false)
    (h6 : y ≠ (0 : Int)) :
    ∃ X, Ev c0.P c0.T (.call 46 [.int .i64 x, .int .i64 y] [] (D.tuple [D.int IntKind.i64 (0 : Int), D.int IntKind.i64 (10 : Int)]) ([] ++ X)) :=
  outC_ok c0Ok (show outC 0 (qi 46 x y (.path [true, true, false, false, true, true, true, true, true, true, false, false, true, false, false, false, true])) = some (D.tuple [D.int IntKind.i64 (0 : Int), D.int IntKind.i64 (10 : Int)], [],
    [(!IntKind.i64.wrap ((IntKind.i64.wrap (x * y)).tdiv y) == x) = true,
      y ≠ (0 : Int),
      false = false,
      (y == (-9223372036854775808 : Int)) = false,
      (y == (-1 : Int)) = false,
      ((y == (-9223372036854775808 : Int)) == false) = true,
      ((y == (-1 : Int)) == true) = false,
      ((y == (-1 : Int)) == true) = false,
      ((y == (-9223372036854775808 : Int)) == false) = true,
      ((y == (-9223372036854775808 : Int)) == false) = true,
      ((y == (-9223372036854775808 : Int)) == false) = true,
      (x == (-1 : Int)) = true,
      ((x == (-1 : Int)) == true) = true,
      ((x == (-1 : Int)) == true) = true,
      (y == (0 : Int)) = false,
      (x == (0 : Int)) = false,
      ((x == (0 : Int)) == false) = true,
      ((x == (0 : Int)) == false) = true]) by kernel_rfl) (by simp only [all_cons, all_nil]; simp [*])

theorem i46_8 (x : Int) (y : Int)
    (h0 : (x == (0 : Int)) = false)
    (h1 : (y == (0 : Int)) = false)
    (h2 : (x == (-1 : Int)) = false)
    (h3 : (y == (-1 : Int)) = true)
    (h4 : (x == (-9223372036854775808 : Int)) = true) :
    ∃ X, Ev c0.P c0.T (.call 46 [.int .i64 x, .int .i64 y] [] (D.tuple [D.int IntKind.i64 (0 : Int), D.int IntKind.i64 (10 : Int)]) ([] ++ X)) :=
  outC_ok c0Ok (show outC 0 (qi 46 x y (.path [true, true, false, false, false, false, false, true, true, true, true, true, true, true, false, true])) = some (D.tuple [D.int IntKind.i64 (0 : Int), D.int IntKind.i64 (10 : Int)], [],
    [(x == (-9223372036854775808 : Int)) = true,
      false = false,
      (y == (-1 : Int)) = true,
      (false == false) = true,
      ((y == (-1 : Int)) == true) = true,
      ((y == (-1 : Int)) == true) = true,
      (false == false) = true,
      (false == false) = true,
      (false == false) = true,
      (x == (-1 : Int)) = false,
      ((x == (-1 : Int)) == true) = false,
      ((x == (-1 : Int)) == true) = false,
      (y == (0 : Int)) = false,
      (x == (0 : Int)) = false,
      ((x == (0 : Int)) == false) = true,
      ((x == (0 : Int)) == false) = true]) by kernel_rfl) (by simp only [all_cons, all_nil]; simp [*])

theorem i46_9 (x : Int) (y : Int)
    (h0 : (x == (0 : Int)) = false)
    (h1 : (y == (0 : Int)) = false)
    (h2 : (x == (-1 : Int)) = false)
    (h3 : (y == (-1 : Int)) = true)
    (h4 : (x == (-9223372036854775808 : Int)) = false)
    (h5 : (IntKind.i64.wrap ((IntKind.i64.wrap (x * y)).tdiv y) == x) = true)
    (h6 : y ≠ (0 : Int)) :
    ∃ X, Ev c0.P c0.T (.call 46 [.int .i64 x, .int .i64 y] [] (D.tuple [D.int IntKind.i64 (IntKind.i64.wrap (x * y)), D.int IntKind.i64 (0 : Int)]) ([] ++ X)) :=
  outC_ok c0Ok (show outC 0 (qi 46 x y (.path [true, true, false, false, false, false, false, true, true, true, true, true, true, true, false, false, false])) = some (D.tuple [D.int IntKind.i64 (IntKind.i64.wrap (x * y)), D.int IntKind.i64 (0 : Int)], [],
    [(!IntKind.i64.wrap ((IntKind.i64.wrap (x * y)).tdiv y) == x) = false,
      y ≠ (0 : Int),
      (x == (-9223372036854775808 : Int)) = false,
      false = false,
      (y == (-1 : Int)) = true,
      (false == false) = true,
      ((y == (-1 : Int)) == true) = true,
      ((y == (-1 : Int)) == true) = true,
      (false == false) = true,
      (false == false) = true,
      (false == false) = true,
      (x == (-1 : Int)) = false,
      ((x == (-1 : Int)) == true) = false,
      ((x == (-1 : Int)) == true) = false,
      (y == (0 : Int)) = false,
      (x == (0 : Int)) = false,
      ((x == (0 : Int)) == false) = true,
      ((x == (0 : Int)) == false) = true]) by kernel_rfl) (by simp only [all_cons, all_nil]; simp [*])

theorem i46_10 (x : Int) (y : Int)
    (h0 : (x == (0 : Int)) = false)
    (h1 : (y == (0 : Int)) = false)
    (h2 : (x == (-1 : Int)) = false)
    (h3 : (y == (-1 : Int)) = true)
    (h4 : (x == (-9223372036854775808 : Int)) = false)
    (h5 : (IntKind.i64.wrap ((IntKind.i64.wrap (x * y)).tdiv y) == x) = false)
    (h6 : y ≠ (0 : Int)) :
    ∃ X, Ev c0.P c0.T (.call 46 [.int .i64 x, .int .i64 y] [] (D.tuple [D.int IntKind.i64 (0 : Int), D.int IntKind.i64 (10 : Int)]) ([] ++ X)) :=
  outC_ok c0Ok (show outC 0 (qi 46 x y (.path [true, true, false, false, false, false, false, true, true, true, true, true, true, true, false, false, true])) = some (D.tuple [D.int IntKind.i64 (0 : Int), D.int IntKind.i64 (10 : Int)], [],
    [(!IntKind.i64.wrap ((IntKind.i64.wrap (x * y)).tdiv y) == x) = true,
      y ≠ (0 : Int),
      (x == (-9223372036854775808 : Int)) = false,
      false = false,
      (y == (-1 : Int)) = true,
      (false == false) = true,
      ((y == (-1 : Int)) == true) = true,
      ((y == (-1 : Int)) == true) = true,
      (false == false) = true,
      (false == false) = true,
      (false == false) = true,
      (x == (-1 : Int)) = false,
      ((x == (-1 : Int)) == true) = false,
      ((x == (-1 : Int)) == true) = false,
      (y == (0 : Int)) = false,
      (x == (0 : Int)) = false,
      ((x == (0 : Int)) == false) = true,
      ((x == (0 : Int)) == false) = true]) by kernel_rfl) (by simp only [all_cons, all_nil]; simp [*])

theorem i46_11 (x : Int) (y : Int)
    (h0 : (x == (0 : Int)) = false)
    (h1 : (y == (0 : Int)) = false)
    (h2 : (x == (-1 : Int)) = false)
    (h3 : (y == (-1 : Int)) = false)
    (h4 : (IntKind.i64.wrap ((IntKind.i64.wrap (x * y)).tdiv y) == x) = true)
    (h5 : y ≠ (0 : Int)) :
    ∃ X, Ev c0.P c0.T (.call 46 [.int .i64 x, .int .i64 y] [] (D.tuple [D.int IntKind.i64 (IntKind.i64.wrap (x * y)), D.int IntKind.i64 (0 : Int)]) ([] ++ X)) :=
  outC_ok c0Ok (show outC 0 (qi 46 x y (.path [true, true, false, false, false, false, false, true, true, true, false, false, true, false, false, false, false])) = some (D.tuple [D.int IntKind.i64 (IntKind.i64.wrap (x * y)), D.int IntKind.i64 (0 : Int)], [],
    [(!IntKind.i64.wrap ((IntKind.i64.wrap (x * y)).tdiv y) == x) = false,
      y ≠ (0 : Int),
      false = false,
      false = false,
      (y == (-1 : Int)) = false,
      (false == false) = true,
      ((y == (-1 : Int)) == true) = false,
      ((y == (-1 : Int)) == true) = false,
      (false == false) = true,
      (false == false) = true,
      (false == false) = true,
      (x == (-1 : Int)) = false,
      ((x == (-1 : Int)) == true) = false,
      ((x == (-1 : Int)) == true) = false,
      (y == (0 : Int)) = false,
      (x == (0 : Int)) = false,
      ((x == (0 : Int)) == false) = true,
      ((x == (0 : Int)) == false) = true]) by kernel_rfl) (by simp only [all_cons, all_nil]; simp [*])

theorem i46_12 (x : Int) (y : Int)
    (h0 : (x == (0 : Int)) = false)
    (h1 : (y == (0 : Int)) = false)
    (h2 : (x == (-1 : Int)) = false)
    (h3 : (y == (-1 : Int)) = false)
    (h4 : (IntKind.i64.wrap ((IntKind.i64.wrap (x * y)).tdiv y) == x) = false)
    (h5 : y ≠ (0 : Int)) :
    ∃ X, Ev c0.P c0.T (.call 46 [.int .i64 x, .int .i64 y] [] (D.tuple [D.int IntKind.i64 (0 : Int), D.int IntKind.i64 (10 : Int)]) ([] ++ X)) :=
  outC_ok c0Ok (show outC 0 (qi 46 x y (.path [true, true, false, false, false, false, false, true, true, true, false, false, true, false, false, false, true])) = some (D.tuple [D.int IntKind.i64 (0 : Int), D.int IntKind.i64 (10 : Int)], [],
    [(!IntKind.i64.wrap ((IntKind.i64.wrap (x * y)).tdiv y) == x) = true,
      y ≠ (0 : Int),
      false = false,
      false = false,
      (y == (-1 : Int)) = false,
      (false == false) = true,
      ((y == (-1 : Int)) == true) = false,
      ((y == (-1 : Int)) == true) = false,
      (false == false) = true,
      (false == false) = true,
      (false == false) = true,
      (x == (-1 : Int)) = false,
      ((x == (-1 : Int)) == true) = false,
      ((x == (-1 : Int)) == true) = false,
      (y == (0 : Int)) = false,
      (x == (0 : Int)) = false,
      ((x == (0 : Int)) == false) = true,
      ((x == (0 : Int)) == false) = true]) by kernel_rfl) (by simp only [all_cons, all_nil]; simp [*])

def i46_T (x : Int) (y : Int) : Int × Int :=
  (cond (x == (0 : Int))
  ((0 : Int), (0 : Int))
  (cond (y == (0 : Int))
    ((0 : Int), (0 : Int))
    (cond (x == (-1 : Int))
      (cond (y == (-9223372036854775808 : Int))
        ((0 : Int), (10 : Int))
        (cond (y == (-1 : Int))
          (cond (x == (-9223372036854775808 : Int))
            ((0 : Int), (10 : Int))
            (cond (IntKind.i64.wrap ((IntKind.i64.wrap (x * y)).tdiv y) == x)
              (IntKind.i64.wrap (x * y), (0 : Int))
              ((0 : Int), (10 : Int))))
          (cond (IntKind.i64.wrap ((IntKind.i64.wrap (x * y)).tdiv y) == x)
            (IntKind.i64.wrap (x * y), (0 : Int))
            ((0 : Int), (10 : Int)))))
      (cond (y == (-1 : Int))
        (cond (x == (-9223372036854775808 : Int))
          ((0 : Int), (10 : Int))
          (cond (IntKind.i64.wrap ((IntKind.i64.wrap (x * y)).tdiv y) == x)
            (IntKind.i64.wrap (x * y), (0 : Int))
            ((0 : Int), (10 : Int))))
        (cond (IntKind.i64.wrap ((IntKind.i64.wrap (x * y)).tdiv y) == x)
          (IntKind.i64.wrap (x * y), (0 : Int))
          ((0 : Int), (10 : Int)))))))

theorem i46_ct (x : Int) (y : Int) : ∃ X, Ev c0.P c0.T (.call 46 [.int .i64 x, .int .i64 y] [] (.tuple [.int .i64 (i46_T x y).1, .int .i64 (i46_T x y).2]) ([] ++ X)) := by
  cases g1 : (x == (0 : Int)) with
  | true =>
    simp only [i46_T, g1, cond_true, cond_false]; exact i46_0 x y g1
  | false =>
    cases g2 : (y == (0 : Int)) with
    | true =>
      simp only [i46_T, g1, g2, cond_true, cond_false]; exact i46_1 x y g1 g2
    | false =>
      cases g3 : (x == (-1 : Int)) with
      | true =>
        cases g4 : (y == (-9223372036854775808 : Int)) with
        | true =>
          simp only [i46_T, g1, g2, g3, g4, cond_true, cond_false]; exact i46_2 x y g1 g2 g3 g4
        | false =>
          cases g5 : (y == (-1 : Int)) with
          | true =>
            cases g6 : (x == (-9223372036854775808 : Int)) with
            | true =>
              simp only [i46_T, g1, g2, g3, g4, g5, g6, cond_true, cond_false]; exact i46_3 x y g1 g2 g3 g4 g5 g6
            | false =>
              cases g7 : (IntKind.i64.wrap ((IntKind.i64.wrap (x * y)).tdiv y) == x) with
              | true =>
                simp only [i46_T, g1, g2, g3, g4, g5, g6, g7, cond_true, cond_false]; exact i46_4 x y g1 g2 g3 g4 g5 g6 g7 (by simp_all)
              | false =>
                simp only [i46_T, g1, g2, g3, g4, g5, g6, g7, cond_true, cond_false]; exact i46_5 x y g1 g2 g3 g4 g5 g6 g7 (by simp_all)
          | false =>
            cases g6 : (IntKind.i64.wrap ((IntKind.i64.wrap (x * y)).tdiv y) == x) with
            | true =>
              simp only [i46_T, g1, g2, g3, g4, g5, g6, cond_true, cond_false]; exact i46_6 x y g1 g2 g3 g4 g5 g6 (by simp_all)
            | false =>
              simp only [i46_T, g1, g2, g3, g4, g5, g6, cond_true, cond_false]; exact i46_7 x y g1 g2 g3 g4 g5 g6 (by simp_all)
      | false =>
        cases g4 : (y == (-1 : Int)) with
        | true =>
          cases g5 : (x == (-9223372036854775808 : Int)) with
          | true =>
            simp only [i46_T, g1, g2, g3, g4, g5, cond_true, cond_false]; exact i46_8 x y g1 g2 g3 g4 g5
          | false =>
            cases g6 : (IntKind.i64.wrap ((IntKind.i64.wrap (x * y)).tdiv y) == x) with
            | true =>
              simp only [i46_T, g1, g2, g3, g4, g5, g6, cond_true, cond_false]; exact i46_9 x y g1 g2 g3 g4 g5 g6 (by simp_all)
            | false =>
              simp only [i46_T, g1, g2, g3, g4, g5, g6, cond_true, cond_false]; exact i46_10 x y g1 g2 g3 g4 g5 g6 (by simp_all)
        | false =>
          cases g5 : (IntKind.i64.wrap ((IntKind.i64.wrap (x * y)).tdiv y) == x) with
          | true =>
            simp only [i46_T, g1, g2, g3, g4, g5, cond_true, cond_false]; exact i46_11 x y g1 g2 g3 g4 g5 (by simp_all)
          | false =>
            simp only [i46_T, g1, g2, g3, g4, g5, cond_true, cond_false]; exact i46_12 x y g1 g2 g3 g4 g5 (by simp_all)

theorem i47_0 (x : Int) (y : Int)
    (h0 : (decide (IntKind.i64.wrap (x - y) < x) == decide (y > (0 : Int))) = true) :
    ∃ X, Ev c0.P c0.T (.call 47 [.int .i64 x, .int .i64 y] [] (D.tuple [D.int IntKind.i64 (IntKind.i64.wrap (x - y)), D.int IntKind.i64 (0 : Int)]) ([] ++ X)) :=
  outC_ok c0Ok (show outC 0 (qi 47 x y (.path [false])) = some (D.tuple [D.int IntKind.i64 (IntKind.i64.wrap (x - y)), D.int IntKind.i64 (0 : Int)], [],
    [(!decide (IntKind.i64.wrap (x - y) < x) == decide (y > (0 : Int))) = false]) by kernel_rfl) (by simp only [all_cons, all_nil]; simp [*])

theorem i47_1 (x : Int) (y : Int)
    (h0 : (decide (IntKind.i64.wrap (x - y) < x) == decide (y > (0 : Int))) = false) :
    ∃ X, Ev c0.P c0.T (.call 47 [.int .i64 x, .int .i64 y] [] (D.tuple [D.int IntKind.i64 (0 : Int), D.int IntKind.i64 (10 : Int)]) ([] ++ X)) :=
  outC_ok c0Ok (show outC 0 (qi 47 x y (.path [true])) = some (D.tuple [D.int IntKind.i64 (0 : Int), D.int IntKind.i64 (10 : Int)], [],
    [(!decide (IntKind.i64.wrap (x - y) < x) == decide (y > (0 : Int))) = true]) by kernel_rfl) (by simp only [all_cons, all_nil]; simp [*])

def i47_T (x : Int) (y : Int) : Int × Int :=
  (cond (decide (IntKind.i64.wrap (x - y) < x) == decide (y > (0 : Int)))
  (IntKind.i64.wrap (x - y), (0 : Int))
  ((0 : Int), (10 : Int)))

theorem i47_ct (x : Int) (y : Int) : ∃ X, Ev c0.P c0.T (.call 47 [.int .i64 x, .int .i64 y] [] (.tuple [.int .i64 (i47_T x y).1, .int .i64 (i47_T x y).2]) ([] ++ X)) := by
  cases g1 : (decide (IntKind.i64.wrap (x - y) < x) == decide (y > (0 : Int))) with
  | true =>
    simp only [i47_T, g1, cond_true, cond_false]; exact i47_0 x y g1
  | false =>
    simp only [i47_T, g1, cond_true, cond_false]; exact i47_1 x y g1

theorem i48_0 (x : Int) (y : Int)
    (h0 : (y == (0 : Int)) = true) :
    ∃ X, Ev c0.P c0.T (.call 48 [.int .i64 x, .int .i64 y] [] (D.tuple [D.int IntKind.i64 (0 : Int), D.int IntKind.i64 (11 : Int)]) ([] ++ X)) :=
  outC_ok c0Ok (show outC 0 (qi 48 x y (.path [true])) = some (D.tuple [D.int IntKind.i64 (0 : Int), D.int IntKind.i64 (11 : Int)], [],
    [(y == (0 : Int)) = true]) by kernel_rfl) (by simp only [all_cons, all_nil]; simp [*])

theorem i48_1 (x : Int) (y : Int)
    (h0 : (y == (0 : Int)) = false)
    (h1 : (x == (-9223372036854775808 : Int)) = true)
    (h2 : (y == (-1 : Int)) = true) :
    ∃ X, Ev c0.P c0.T (.call 48 [.int .i64 x, .int .i64 y] [] (D.tuple [D.int IntKind.i64 (0 : Int), D.int IntKind.i64 (10 : Int)]) ([] ++ X)) :=
  outC_ok c0Ok (show outC 0 (qi 48 x y (.path [false, true, true, true, true])) = some (D.tuple [D.int IntKind.i64 (0 : Int), D.int IntKind.i64 (10 : Int)], [],
    [(y == (-1 : Int)) = true,
      (x == (-9223372036854775808 : Int)) = true,
      ((x == (-9223372036854775808 : Int)) == true) = true,
      ((x == (-9223372036854775808 : Int)) == true) = true,
      (y == (0 : Int)) = false]) by kernel_rfl) (by simp only [all_cons, all_nil]; simp [*])

theorem i48_2 (x : Int) (y : Int)
    (h0 : (y == (0 : Int)) = false)
    (h1 : (x == (-9223372036854775808 : Int)) = true)
    (h2 : (y == (-1 : Int)) = false)
    (h3 : y ≠ (0 : Int)) :
    ∃ X, Ev c0.P c0.T (.call 48 [.int .i64 x, .int .i64 y] [] (D.tuple [D.int IntKind.i64 (IntKind.i64.wrap (x.tdiv y)), D.int IntKind.i64 (0 : Int)]) ([] ++ X)) :=
  outC_ok c0Ok (show outC 0 (qi 48 x y (.path [false, true, true, true, false])) = some (D.tuple [D.int IntKind.i64 (IntKind.i64.wrap (x.tdiv y)), D.int IntKind.i64 (0 : Int)], [],
    [y ≠ (0 : Int),
      (y == (-1 : Int)) = false,
      (x == (-9223372036854775808 : Int)) = true,
      ((x == (-9223372036854775808 : Int)) == true) = true,
      ((x == (-9223372036854775808 : Int)) == true) = true,
      (y == (0 : Int)) = false]) by kernel_rfl) (by simp only [all_cons, all_nil]; simp [*])

theorem i48_3 (x : Int) (y : Int)
    (h0 : (y == (0 : Int)) = false)
    (h1 : (x == (-9223372036854775808 : Int)) = false)
    (h2 : y ≠ (0 : Int)) :
    ∃ X, Ev c0.P c0.T (.call 48 [.int .i64 x, .int .i64 y] [] (D.tuple [D.int IntKind.i64 (IntKind.i64.wrap (x.tdiv y)), D.int IntKind.i64 (0 : Int)]) ([] ++ X)) :=
  outC_ok c0Ok (show outC 0 (qi 48 x y (.path [false, false, false, false, false])) = some (D.tuple [D.int IntKind.i64 (IntKind.i64.wrap (x.tdiv y)), D.int IntKind.i64 (0 : Int)], [],
    [y ≠ (0 : Int),
      false = false,
      (x == (-9223372036854775808 : Int)) = false,
      ((x == (-9223372036854775808 : Int)) == true) = false,
      ((x == (-9223372036854775808 : Int)) == true) = false,
      (y == (0 : Int)) = false]) by kernel_rfl) (by simp only [all_cons, all_nil]; simp [*])

def i48_T (x : Int) (y : Int) : Int × Int :=
  (cond (y == (0 : Int))
  ((0 : Int), (11 : Int))
  (cond (x == (-9223372036854775808 : Int))
    (cond (y == (-1 : Int))
      ((0 : Int), (10 : Int))
      (IntKind.i64.wrap (x.tdiv y), (0 : Int)))
    (IntKind.i64.wrap (x.tdiv y), (0 : Int))))

theorem i48_ct (x : Int) (y : Int) : ∃ X, Ev c0.P c0.T (.call 48 [.int .i64 x, .int .i64 y] [] (.tuple [.int .i64 (i48_T x y).1, .int .i64 (i48_T x y).2]) ([] ++ X)) := by
  cases g1 : (y == (0 : Int)) with
  | true =>
    simp only [i48_T, g1, cond_true, cond_false]; exact i48_0 x y g1
  | false =>
    cases g2 : (x == (-9223372036854775808 : Int)) with
    | true =>
      cases g3 : (y == (-1 : Int)) with
      | true =>
        simp only [i48_T, g1, g2, g3, cond_true, cond_false]; exact i48_1 x y g1 g2 g3
      | false =>
        simp only [i48_T, g1, g2, g3, cond_true, cond_false]; exact i48_2 x y g1 g2 g3 (by simp_all)
    | false =>
      simp only [i48_T, g1, g2, cond_true, cond_false]; exact i48_3 x y g1 g2 (by simp_all)

theorem i49_0 (x : Int) (y : Int)
    (h0 : (y == (0 : Int)) = true) :
    ∃ X, Ev c0.P c0.T (.call 49 [.int .i64 x, .int .i64 y] [] (D.tuple [D.int IntKind.i64 (0 : Int), D.int IntKind.i64 (11 : Int)]) ([] ++ X)) :=
  outC_ok c0Ok (show outC 0 (qi 49 x y (.path [true])) = some (D.tuple [D.int IntKind.i64 (0 : Int), D.int IntKind.i64 (11 : Int)], [],
    [(y == (0 : Int)) = true]) by kernel_rfl) (by simp only [all_cons, all_nil]; simp [*])

theorem i49_1 (x : Int) (y : Int)
    (h0 : (y == (0 : Int)) = false)
    (h1 : (y == (-1 : Int)) = true) :
    ∃ X, Ev c0.P c0.T (.call 49 [.int .i64 x, .int .i64 y] [] (D.tuple [D.int IntKind.i64 (0 : Int), D.int IntKind.i64 (0 : Int)]) ([] ++ X)) :=
  outC_ok c0Ok (show outC 0 (qi 49 x y (.path [false, true])) = some (D.tuple [D.int IntKind.i64 (0 : Int), D.int IntKind.i64 (0 : Int)], [],
    [(y == (-1 : Int)) = true,
      (y == (0 : Int)) = false]) by kernel_rfl) (by simp only [all_cons, all_nil]; simp [*])

theorem i49_2 (x : Int) (y : Int)
    (h0 : (y == (0 : Int)) = false)
    (h1 : (y == (-1 : Int)) = false)
    (h2 : y ≠ (0 : Int)) :
    ∃ X, Ev c0.P c0.T (.call 49 [.int .i64 x, .int .i64 y] [] (D.tuple [D.int IntKind.i64 (x.tmod y), D.int IntKind.i64 (0 : Int)]) ([] ++ X)) :=
  outC_ok c0Ok (show outC 0 (qi 49 x y (.path [false, false])) = some (D.tuple [D.int IntKind.i64 (x.tmod y), D.int IntKind.i64 (0 : Int)], [],
    [y ≠ (0 : Int),
      (y == (-1 : Int)) = false,
      (y == (0 : Int)) = false]) by kernel_rfl) (by simp only [all_cons, all_nil]; simp [*])

def i49_T (x : Int) (y : Int) : Int × Int :=
  (cond (y == (0 : Int))
  ((0 : Int), (11 : Int))
  (cond (y == (-1 : Int))
    ((0 : Int), (0 : Int))
    (x.tmod y, (0 : Int))))

theorem i49_ct (x : Int) (y : Int) : ∃ X, Ev c0.P c0.T (.call 49 [.int .i64 x, .int .i64 y] [] (.tuple [.int .i64 (i49_T x y).1, .int .i64 (i49_T x y).2]) ([] ++ X)) := by
  cases g1 : (y == (0 : Int)) with
  | true =>
    simp only [i49_T, g1, cond_true, cond_false]; exact i49_0 x y g1
  | false =>
    cases g2 : (y == (-1 : Int)) with
    | true =>
      simp only [i49_T, g1, g2, cond_true, cond_false]; exact i49_1 x y g1 g2
    | false =>
      simp only [i49_T, g1, g2, cond_true, cond_false]; exact i49_2 x y g1 g2 (by simp_all)


/-! ### what they reckon -/
def R (n : Int) : Prop := -9223372036854775808 ≤ n ∧ n ≤ 9223372036854775807
instance (n : Int) : Decidable (R n) := by unfold R; exact inferInstance
def opV : Nat → Int → Int → Int
  | 45, x, y => x + y
  | 46, x, y => x * y
  | 47, x, y => x - y
  | 48, x, y => x.tdiv y
  | 50, x, y => if x < 0 then -x else x
  | _, x, y => x.tmod y
def opE : Nat → Int → Int → Int
  | 45, x, y => if R (x + y) then 0 else 10
  | 46, x, y => if R (x * y) then 0 else 10
  | 47, x, y => if R (x - y) then 0 else 10
  | 48, x, y => if y = 0 then 11 else if R (x.tdiv y) then 0 else 10
  | 50, x, y => if R (-x) then 0 else 10
  | _, x, y => if y = 0 then 11 else 0
def opN (f : Nat) (x y : Int) : Int := if opE f x y = 0 then opV f x y else 0

theorem wrap_eq (n : Int) : IntKind.i64.wrap n = n - 18446744073709551616 * ((n + 9223372036854775808) / 18446744073709551616) := by
  have hs : IntKind.i64.signed = true := rfl
  have hb : (2 ^ IntKind.i64.bits : Int) = 18446744073709551616 := by decide
  have hb' : (2 ^ (IntKind.i64.bits - 1) : Int) = 9223372036854775808 := by decide
  unfold IntKind.wrap
  simp only [hs, hb, hb', Bool.true_and, decide_eq_true_eq]
  split <;> omega
theorem wrap_R {n : Int} (h : R n) : IntKind.i64.wrap n = n := wrap_i64 h
theorem R_wrap (n : Int) : R (IntKind.i64.wrap n) := by
  rw [wrap_eq]
  unfold R
  omega

theorem i45_eq {x y : Int} (hx : R x) (hy : R y) : i45_T x y = (opN 45 x y, opE 45 x y) := by
  unfold R at hx hy
  by_cases h : R (x + y)
  · have : (decide (IntKind.i64.wrap (x + y) > x) == decide (y > 0)) = true := by
      rw [wrap_R h, beq_iff_eq, decide_eq_decide]
      omega
    unfold i45_T
    rw [this, cond_true, wrap_R h]
    simp [opN, opE, opV, h]
  · have : (decide (IntKind.i64.wrap (x + y) > x) == decide (y > 0)) = false := by
      rw [beq_eq_false_iff_ne, ne_eq, decide_eq_decide, wrap_eq]
      unfold R at h
      omega
    unfold i45_T
    rw [this, cond_false]
    simp [opN, opE, h]

theorem i47_eq {x y : Int} (hx : R x) (hy : R y) : i47_T x y = (opN 47 x y, opE 47 x y) := by
  unfold R at hx hy
  by_cases h : R (x - y)
  · have : (decide (IntKind.i64.wrap (x - y) < x) == decide (y > 0)) = true := by
      rw [wrap_R h, beq_iff_eq, decide_eq_decide]
      omega
    unfold i47_T
    rw [this, cond_true, wrap_R h]
    simp [opN, opE, opV, h]
  · have : (decide (IntKind.i64.wrap (x - y) < x) == decide (y > 0)) = false := by
      rw [beq_eq_false_iff_ne, ne_eq, decide_eq_decide, wrap_eq]
      unfold R at h
      omega
    unfold i47_T
    rw [this, cond_false]
    simp [opN, opE, h]

theorem tdiv_R {x y : Int} (hx : R x) (h0 : y ≠ 0) (h : ¬ (x = -9223372036854775808 ∧ y = -1)) : R (x.tdiv y) := by
  unfold R at *
  have h1 : (x.tdiv y).natAbs = x.natAbs / y.natAbs := Int.natAbs_tdiv x y
  by_cases hy1 : y = -1
  · subst hy1
    have : x.tdiv (-1) = -x := by rw [Int.tdiv_neg, Int.tdiv_one]
    omega
  · by_cases hy2 : y = 1
    · subst hy2
      rw [Int.tdiv_one]
      omega
    · have h2 : 2 ≤ y.natAbs := by omega
      have h3 : x.natAbs / y.natAbs ≤ x.natAbs / 2 := Nat.div_le_div_left h2 (by omega)
      omega

/-- A product that does not fit is told by the division back. -/
theorem mul_told {x y : Int} (hx : R x) (hy : R y) (x0 : x ≠ 0) (y0 : y ≠ 0) (h1 : ¬ (x = -1 ∧ y = -9223372036854775808)) (h2 : ¬ (y = -1 ∧ x = -9223372036854775808)) :
    IntKind.i64.wrap ((IntKind.i64.wrap (x * y)).tdiv y) = x ↔ R (x * y) := by
  constructor
  · intro h
    have hw := R_wrap (x * y)
    have hq : R ((IntKind.i64.wrap (x * y)).tdiv y) := by
      by_cases hm : IntKind.i64.wrap (x * y) = -9223372036854775808 ∧ y = -1
      · exfalso
        obtain ⟨hm, rfl⟩ := hm
        rw [hm] at h
        have : IntKind.i64.wrap ((-9223372036854775808 : Int).tdiv (-1)) = -9223372036854775808 := by decide
        exact h2 ⟨rfl, by rw [← h, this]⟩
      · exact tdiv_R hw y0 hm
    rw [wrap_R hq] at h
    have e := Int.mul_tdiv_add_tmod (IntKind.i64.wrap (x * y)) y
    rw [h] at e
    have ha : ((IntKind.i64.wrap (x * y)).tmod y).natAbs < y.natAbs := by
      rw [Int.natAbs_tmod]
      exact Nat.mod_lt _ (by omega)
    have ew := wrap_eq (x * y)
    have hc : y * x = x * y := Int.mul_comm y x
    rw [hc] at e
    generalize (IntKind.i64.wrap (x * y)).tmod y = t at *
    generalize IntKind.i64.wrap (x * y) = w at *
    generalize x * y = p at *
    unfold R at *
    omega
  · intro h
    rw [wrap_R h, Int.mul_tdiv_cancel x y0, wrap_R hx]

theorem i46_eq {x y : Int} (hx : R x) (hy : R y) : i46_T x y = (opN 46 x y, opE 46 x y) := by
  have z0 : R 0 := by decide
  by_cases x0 : x = 0
  · subst x0
    simp [i46_T, opN, opE, opV, z0]
  by_cases y0 : y = 0
  · subst y0
    simp [i46_T, opN, opE, opV, z0]
  by_cases h1 : x = -1 ∧ y = -9223372036854775808
  · obtain ⟨rfl, rfl⟩ := h1
    decide
  by_cases h2 : y = -1 ∧ x = -9223372036854775808
  · obtain ⟨rfl, rfl⟩ := h2
    decide
  have k := mul_told hx hy x0 y0 h1 h2
  have b0 : (x == 0) = false := by simpa using x0
  have b1 : (y == 0) = false := by simpa using y0
  have b2 : (x == -1 && y == -9223372036854775808) = false := by
    rw [Bool.and_eq_false_iff]
    by_cases e : x = -1
    · exact .inr (by simpa using fun e' => h1 ⟨e, e'⟩)
    · exact .inl (by simpa using e)
  have b3 : (y == -1 && x == -9223372036854775808) = false := by
    rw [Bool.and_eq_false_iff]
    by_cases e : y = -1
    · exact .inr (by simpa using fun e' => h2 ⟨e, e'⟩)
    · exact .inl (by simpa using e)
  by_cases h : R (x * y)
  · have b4 : (IntKind.i64.wrap ((IntKind.i64.wrap (x * y)).tdiv y) == x) = true := by simpa using k.2 h
    unfold i46_T
    cases e1 : (x == -1) <;> cases e2 : (y == -9223372036854775808) <;> cases e3 : (y == -1) <;> cases e4 : (x == -9223372036854775808) <;>
      first
        | (rw [e1, e2] at b2; cases b2; done)
        | (rw [e3, e4] at b3; cases b3; done)
        | (simp only [b0, b1, b4, cond_true, cond_false]; rw [wrap_R h]; simp [opN, opE, opV, h])
  · have b4 : (IntKind.i64.wrap ((IntKind.i64.wrap (x * y)).tdiv y) == x) = false := by simpa using fun e => h (k.1 e)
    unfold i46_T
    cases e1 : (x == -1) <;> cases e2 : (y == -9223372036854775808) <;> cases e3 : (y == -1) <;> cases e4 : (x == -9223372036854775808) <;>
      first
        | (rw [e1, e2] at b2; cases b2; done)
        | (rw [e3, e4] at b3; cases b3; done)
        | (simp only [b0, b1, b4, cond_true, cond_false]; simp [opN, opE, opV, h])

theorem i48_eq {x y : Int} (hx : R x) (hy : R y) : i48_T x y = (opN 48 x y, opE 48 x y) := by
  by_cases y0 : y = 0
  · subst y0
    simp [i48_T, opN, opE, opV]
  by_cases h : x = -9223372036854775808 ∧ y = -1
  · obtain ⟨rfl, rfl⟩ := h
    decide
  have hq := tdiv_R hx y0 h
  have hb : (y == 0) = false := by simpa using y0
  unfold i48_T
  cases e1 : (x == -9223372036854775808) <;> cases e2 : (y == -1) <;>
    first
      | exact absurd ⟨by simpa using e1, by simpa using e2⟩ h
      | (simp only [hb, cond_true, cond_false]; rw [wrap_R hq]; simp [opN, opE, opV, y0, hq])

theorem i49_eq {x y : Int} (hx : R x) (hy : R y) : i49_T x y = (opN 49 x y, opE 49 x y) := by
  by_cases y0 : y = 0
  · subst y0
    simp [i49_T, opN, opE, opV]
  by_cases y1 : y = -1
  · subst y1
    have : x.tmod (-1) = 0 := by rw [Int.tmod_neg, Int.tmod_one]
    simp [i49_T, opN, opE, opV, this]
  · have hb : (y == 0) = false := by simpa using y0
    have hb1 : (y == -1) = false := by simpa using y1
    unfold i49_T
    simp only [hb, hb1, cond_false]
    simp [opN, opE, opV, y0]

def ct : FuncId → List D → GD.Heap → Option (D × GD.Heap × List Prop)
  | 45, [.int .i64 x, .int .i64 y], [] => some (.tuple [.int .i64 (opN 45 x y), .int .i64 (opE 45 x y)], [], [R x, R y])
  | 46, [.int .i64 x, .int .i64 y], [] => some (.tuple [.int .i64 (opN 46 x y), .int .i64 (opE 46 x y)], [], [R x, R y])
  | 47, [.int .i64 x, .int .i64 y], [] => some (.tuple [.int .i64 (opN 47 x y), .int .i64 (opE 47 x y)], [], [R x, R y])
  | 48, [.int .i64 x, .int .i64 y], [] => some (.tuple [.int .i64 (opN 48 x y), .int .i64 (opE 48 x y)], [], [R x, R y])
  | 49, [.int .i64 x, .int .i64 y], [] => some (.tuple [.int .i64 (opN 49 x y), .int .i64 (opE 49 x y)], [], [R x, R y])
  | _, _, _ => none

theorem ct_ok (k : FuncId) (args : List D) (H : GD.Heap) (r : D) (H1 : GD.Heap) (cs : List Prop) (he : ct k args H = some (r, H1, cs)) (hc : ∀ c ∈ cs, c) : ∃ X, Ev c0.P c0.T (.call k args H r (H1 ++ X)) := by
  unfold ct at he
  split at he <;> (try (simp only [Option.some.injEq, Prod.mk.injEq] at he; obtain ⟨rfl, rfl, rfl⟩ := he; have hx := hc _ (List.mem_cons_self ..); have hy := hc _ (List.mem_cons_of_mem _ (List.mem_cons_self ..))))
  · rename_i x y; have := i45_ct x y; rw [i45_eq hx hy] at this; exact this
  · rename_i x y; have := i46_ct x y; rw [i46_eq hx hy] at this; exact this
  · rename_i x y; have := i47_ct x y; rw [i47_eq hx hy] at this; exact this
  · rename_i x y; have := i48_ct x y; rw [i48_eq hx hy] at this; exact this
  · rename_i x y; have := i49_ct x y; rw [i49_eq hx hy] at this; exact this
  · cases he

noncomputable def c1 : Cf := { P := Try.prog, T := tyOf Try.prog, hint := fun _ _ _ => .sym, room := fun _ _ => 2, meth := fun _ _ => none, ct := ct, stop := true }
theorem cOk : CfOk c1 where
  hT := fun _ _ h => h
  hm := by kernel_rfl
  meth := fun _ _ _ h => by simp only [c1] at h; cases h
  ct := ct_ok

abbrev Es := List (List D)
noncomputable def val (k n : Int) (s : ByteArray) (xb : Bool) (eb : Es) (xf : Bool) (ef : Es) (xl : Bool) (el : Es) : D := .agg [.int .i64 k, .int .i64 n, .str s, .slice xb eb none, .slice xf ef none, .slice xl el none]
noncomputable def two (ka na : Int) (sa : ByteArray) (xba : Bool) (eba : Es) (xfa : Bool) (efa : Es) (xla : Bool) (ela : Es) (kb nb : Int) (sb : ByteArray) (xbb : Bool) (ebb : Es) (xfb : Bool) (efb : Es) (xlb : Bool) (elb : Es) : List D :=
  [val ka na sa xba eba xfa efa xla ela, val kb nb sb xbb ebb xfb efb xlb elb]
noncomputable def q (f : Nat) (ka na : Int) (sa : ByteArray) (xba : Bool) (eba : Es) (xfa : Bool) (efa : Es) (xla : Bool) (ela : Es) (kb nb : Int) (sb : ByteArray) (xbb : Bool) (ebb : Es) (xfb : Bool) (efb : Es) (xlb : Bool) (elb : Es) (or : GD.Or) :=
  callE c1 100000 10 f [val ka na sa xba eba xfa efa xla ela, val kb nb sb xbb ebb xfb efb xlb elb] [] or
def flatV (k n : Int) : D := .agg [.int .i64 k, .int .i64 n, .str ⟨#[]⟩, .slice false [] none, .slice false [] none, .slice false [] none]
def res (k n e : Int) : D := .tuple [flatV k n, .int .i64 e]

def numK (k : Int) : Prop := k = 3 ∨ k = 4
def noneK (k : Int) : Prop := k = 0 ∨ k = 2
instance (k : Int) : Decidable (numK k) := by unfold numK; exact inferInstance
instance (k : Int) : Decidable (noneK k) := by unfold noneK; exact inferInstance
/-- A number's kind by its size. -/
def of32 (n : Int) : Int := if -2147483648 ≤ n ∧ n ≤ 2147483647 then 3 else 4
def arith (f : Nat) (ka na kb nb : Int) : Int × Int × Int :=
  if noneK ka ∨ noneK kb then (2, 0, 0)
  else if ¬ (numK ka ∧ numK kb) then (0, 0, 12)
  else if opE f na nb ≠ 0 then (0, 0, opE f na nb)
  else (if ka = 4 ∨ kb = 4 then 4 else of32 (opN f na nb), opN f na nb, 0)

theorem beqd (a b : Int) : (a == b) = decide (a = b) := by
  by_cases h : a = b <;> simp [h]

theorem i32_eq (n : Int) : IntKind.i32.wrap n = n - 4294967296 * ((n + 2147483648) / 4294967296) := by
  have hs : IntKind.i32.signed = true := rfl
  have hb : (2 ^ IntKind.i32.bits : Int) = 4294967296 := by decide
  have hb' : (2 ^ (IntKind.i32.bits - 1) : Int) = 2147483648 := by decide
  unfold IntKind.wrap
  simp only [hs, hb, hb', Bool.true_and, decide_eq_true_eq]
  split <;> omega
theorem of32_true {n : Int} (h : (n == IntKind.i64.wrap (IntKind.i32.wrap n)) = true) : of32 n = 3 := by
  rw [beq_iff_eq] at h
  have hr : R (IntKind.i32.wrap n) := by rw [i32_eq]; unfold R; omega
  rw [wrap_R hr, i32_eq] at h
  unfold of32
  rw [if_pos (by omega)]
theorem of32_false {n : Int} (h : (n == IntKind.i64.wrap (IntKind.i32.wrap n)) = false) : of32 n = 4 := by
  rw [beq_eq_false_iff_ne] at h
  have hr : R (IntKind.i32.wrap n) := by rw [i32_eq]; unfold R; omega
  rw [wrap_R hr, i32_eq] at h
  unfold of32
  rw [if_neg (by omega)]

end Go.Proofs.Ytbkacmcijimbfaa.numk
