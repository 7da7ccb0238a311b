/- num.Of: a number's value. -/
import Derived.Test.YtbkacmcijimbfaaNumSame
namespace Go.Proofs.Ytbkacmcijimbfaa.numk
open Go Ytbkacmcijimbfaa.GD
set_option linter.unusedVariables false
set_option linter.unusedSimpArgs false

noncomputable def q20 (n : Int) (or : GD.Or) := callE c2 100000 10 20 [.int .i64 n] [] or

theorem s20_0 (n : Int)
    (h0 : (n == IntKind.i64.wrap (IntKind.i32.wrap n)) = true) :
    ∃ X, Ev c0.P c0.T (.call 20 [.int .i64 n] [] (D.agg
  [D.int IntKind.i64 (3 : Int), D.int IntKind.i64 n, D.str (ByteArray.mk #[]), D.slice false [] none,
    D.slice false [] none, D.slice false [] none]) ([] ++ X)) :=
  outC_ok c2Ok (show outC 0 (q20 n (.path [true])) = some (D.agg
  [D.int IntKind.i64 (3 : Int), D.int IntKind.i64 n, D.str (ByteArray.mk #[]), D.slice false [] none,
    D.slice false [] none, D.slice false [] none], [],
    [(n == IntKind.i64.wrap (IntKind.i32.wrap n)) = true]) by kernel_rfl) (by simp only [all_cons, all_nil]; simp [*])

theorem s20_1 (n : Int)
    (h0 : (n == IntKind.i64.wrap (IntKind.i32.wrap n)) = false) :
    ∃ X, Ev c0.P c0.T (.call 20 [.int .i64 n] [] (D.agg
  [D.int IntKind.i64 (4 : Int), D.int IntKind.i64 n, D.str (ByteArray.mk #[]), D.slice false [] none,
    D.slice false [] none, D.slice false [] none]) ([] ++ X)) :=
  outC_ok c2Ok (show outC 0 (q20 n (.path [false])) = some (D.agg
  [D.int IntKind.i64 (4 : Int), D.int IntKind.i64 n, D.str (ByteArray.mk #[]), D.slice false [] none,
    D.slice false [] none, D.slice false [] none], [],
    [(n == IntKind.i64.wrap (IntKind.i32.wrap n)) = false]) by kernel_rfl) (by simp only [all_cons, all_nil]; simp [*])

def s20_T (n : Int) : Int :=
  (cond (n == IntKind.i64.wrap (IntKind.i32.wrap n))
  ((3 : Int))
  ((4 : Int)))

theorem s20_ct (n : Int) : ∃ X, Ev c0.P c0.T (.call 20 [.int .i64 n] [] (flatV (s20_T n) n) ([] ++ X)) := by
  cases g1 : (n == IntKind.i64.wrap (IntKind.i32.wrap n)) with
  | true =>
    simp only [s20_T, g1, cond_true, cond_false]; exact s20_0 n g1
  | false =>
    simp only [s20_T, g1, cond_true, cond_false]; exact s20_1 n g1
theorem c20 (n : Int) : ∃ X, Ev c0.P c0.T (.call 20 [.int .i64 n] [] (flatV (of32 n) n) ([] ++ X)) := by
  have e : s20_T n = of32 n := by
    unfold s20_T
    cases h : (n == IntKind.i64.wrap (IntKind.i32.wrap n)) with
    | true => rw [of32_true h]; rfl
    | false => rw [of32_false h]; rfl
  rw [← e]
  exact s20_ct n

end Go.Proofs.Ytbkacmcijimbfaa.numk
