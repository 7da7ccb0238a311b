/- The reference's reckoning of two values (Two): what it hands back. -/
import Derived.Test.YtbkacmcijimbfaaNumOf
namespace Go.Proofs.Ytbkacmcijimbfaa.numk
open Go Ytbkacmcijimbfaa.GD
set_option linter.unusedVariables false
set_option linter.unusedSimpArgs false

noncomputable def q27 (n : Int) (or : GD.Or) := callE c2 100000 10 27 [.int .i64 n] [] or

theorem s52_0 (k : Int) (n : Int) (s : ByteArray) (xb : Bool) (eb : Es) (xf : Bool) (ef : Es) (xl : Bool) (el : Es)
    (h0 : (k == (2 : Int)) = true) :
    ∃ X, Ev c0.P c0.T (.call 52 [val k n s xb eb xf ef xl el] [] (D.bool true) ([] ++ X)) :=
  outC_ok c2Ok (show outC 0 (q1 52 k n s xb eb xf ef xl el (.path [false, false, false, true])) = some (D.bool true, [],
    [(k == (2 : Int)) = true,
      ((k == (2 : Int)) == false) = false,
      ((k == (2 : Int)) == false) = false,
      ((k == (2 : Int)) == false) = false]) by kernel_rfl) (by simp only [all_cons, all_nil]; simp [*])

theorem s52_1 (k : Int) (n : Int) (s : ByteArray) (xb : Bool) (eb : Es) (xf : Bool) (ef : Es) (xl : Bool) (el : Es)
    (h0 : (k == (2 : Int)) = false) :
    ∃ X, Ev c0.P c0.T (.call 52 [val k n s xb eb xf ef xl el] [] (D.bool (k == (0 : Int))) ([] ++ X)) :=
  outC_ok c2Ok (show outC 0 (q1 52 k n s xb eb xf ef xl el (.path [true, true, true, false])) = some (D.bool (k == (0 : Int)), [],
    [(k == (2 : Int)) = false,
      ((k == (2 : Int)) == false) = true,
      ((k == (2 : Int)) == false) = true,
      ((k == (2 : Int)) == false) = true]) by kernel_rfl) (by simp only [all_cons, all_nil]; simp [*])

def s52_T (k : Int) (n : Int) (s : ByteArray) (xb : Bool) (eb : Es) (xf : Bool) (ef : Es) (xl : Bool) (el : Es) : Bool :=
  (cond (k == (2 : Int))
  (true)
  (k == (0 : Int)))

theorem s52_ct (k : Int) (n : Int) (s : ByteArray) (xb : Bool) (eb : Es) (xf : Bool) (ef : Es) (xl : Bool) (el : Es) : ∃ X, Ev c0.P c0.T (.call 52 [val k n s xb eb xf ef xl el] [] (.bool (s52_T k n s xb eb xf ef xl el)) ([] ++ X)) := by
  cases g1 : (k == (2 : Int)) with
  | true =>
    simp only [s52_T, g1, cond_true, cond_false]; exact s52_0 k n s xb eb xf ef xl el g1
  | false =>
    simp only [s52_T, g1, cond_true, cond_false]; exact s52_1 k n s xb eb xf ef xl el g1

theorem s53_0 (k : Int) (n : Int) (s : ByteArray) (xb : Bool) (eb : Es) (xf : Bool) (ef : Es) (xl : Bool) (el : Es)
    (h0 : (k == (3 : Int)) = true) :
    ∃ X, Ev c0.P c0.T (.call 53 [val k n s xb eb xf ef xl el] [] (D.bool true) ([] ++ X)) :=
  outC_ok c2Ok (show outC 0 (q1 53 k n s xb eb xf ef xl el (.path [false, false, false, true])) = some (D.bool true, [],
    [(k == (3 : Int)) = true,
      ((k == (3 : Int)) == false) = false,
      ((k == (3 : Int)) == false) = false,
      ((k == (3 : Int)) == false) = false]) by kernel_rfl) (by simp only [all_cons, all_nil]; simp [*])

theorem s53_1 (k : Int) (n : Int) (s : ByteArray) (xb : Bool) (eb : Es) (xf : Bool) (ef : Es) (xl : Bool) (el : Es)
    (h0 : (k == (3 : Int)) = false) :
    ∃ X, Ev c0.P c0.T (.call 53 [val k n s xb eb xf ef xl el] [] (D.bool (k == (4 : Int))) ([] ++ X)) :=
  outC_ok c2Ok (show outC 0 (q1 53 k n s xb eb xf ef xl el (.path [true, true, true, false])) = some (D.bool (k == (4 : Int)), [],
    [(k == (3 : Int)) = false,
      ((k == (3 : Int)) == false) = true,
      ((k == (3 : Int)) == false) = true,
      ((k == (3 : Int)) == false) = true]) by kernel_rfl) (by simp only [all_cons, all_nil]; simp [*])

def s53_T (k : Int) (n : Int) (s : ByteArray) (xb : Bool) (eb : Es) (xf : Bool) (ef : Es) (xl : Bool) (el : Es) : Bool :=
  (cond (k == (3 : Int))
  (true)
  (k == (4 : Int)))

theorem s53_ct (k : Int) (n : Int) (s : ByteArray) (xb : Bool) (eb : Es) (xf : Bool) (ef : Es) (xl : Bool) (el : Es) : ∃ X, Ev c0.P c0.T (.call 53 [val k n s xb eb xf ef xl el] [] (.bool (s53_T k n s xb eb xf ef xl el)) ([] ++ X)) := by
  cases g1 : (k == (3 : Int)) with
  | true =>
    simp only [s53_T, g1, cond_true, cond_false]; exact s53_0 k n s xb eb xf ef xl el g1
  | false =>
    simp only [s53_T, g1, cond_true, cond_false]; exact s53_1 k n s xb eb xf ef xl el g1

theorem s27_0 (n : Int)
    (h0 : decide (n ≥ (-2147483648 : Int)) = true)
    (h1 : decide (n < (2147483648 : Int)) = true) :
    ∃ X, Ev c0.P c0.T (.call 27 [.int .i64 n] [] (D.agg
  [D.int IntKind.i64 (3 : Int), D.int IntKind.i64 n, D.str (ByteArray.mk #[]), D.slice false [] none,
    D.slice false [] none, D.slice false [] none]) ([] ++ X)) :=
  outC_ok c2Ok (show outC 0 (q27 n (.path [true, true, true, true])) = some (D.agg
  [D.int IntKind.i64 (3 : Int), D.int IntKind.i64 n, D.str (ByteArray.mk #[]), D.slice false [] none,
    D.slice false [] none, D.slice false [] none], [],
    [decide (n < (2147483648 : Int)) = true,
      decide (n ≥ (-2147483648 : Int)) = true,
      (decide (n ≥ (-2147483648 : Int)) == true) = true,
      (decide (n ≥ (-2147483648 : Int)) == true) = true]) by kernel_rfl) (by simp only [all_cons, all_nil]; simp [*])

theorem s27_1 (n : Int)
    (h0 : decide (n ≥ (-2147483648 : Int)) = true)
    (h1 : decide (n < (2147483648 : Int)) = false) :
    ∃ X, Ev c0.P c0.T (.call 27 [.int .i64 n] [] (D.agg
  [D.int IntKind.i64 (4 : Int), D.int IntKind.i64 n, D.str (ByteArray.mk #[]), D.slice false [] none,
    D.slice false [] none, D.slice false [] none]) ([] ++ X)) :=
  outC_ok c2Ok (show outC 0 (q27 n (.path [true, true, true, false])) = some (D.agg
  [D.int IntKind.i64 (4 : Int), D.int IntKind.i64 n, D.str (ByteArray.mk #[]), D.slice false [] none,
    D.slice false [] none, D.slice false [] none], [],
    [decide (n < (2147483648 : Int)) = false,
      decide (n ≥ (-2147483648 : Int)) = true,
      (decide (n ≥ (-2147483648 : Int)) == true) = true,
      (decide (n ≥ (-2147483648 : Int)) == true) = true]) by kernel_rfl) (by simp only [all_cons, all_nil]; simp [*])

theorem s27_2 (n : Int)
    (h0 : decide (n ≥ (-2147483648 : Int)) = false) :
    ∃ X, Ev c0.P c0.T (.call 27 [.int .i64 n] [] (D.agg
  [D.int IntKind.i64 (4 : Int), D.int IntKind.i64 n, D.str (ByteArray.mk #[]), D.slice false [] none,
    D.slice false [] none, D.slice false [] none]) ([] ++ X)) :=
  outC_ok c2Ok (show outC 0 (q27 n (.path [false, false, false, false])) = some (D.agg
  [D.int IntKind.i64 (4 : Int), D.int IntKind.i64 n, D.str (ByteArray.mk #[]), D.slice false [] none,
    D.slice false [] none, D.slice false [] none], [],
    [false = false,
      decide (n ≥ (-2147483648 : Int)) = false,
      (decide (n ≥ (-2147483648 : Int)) == true) = false,
      (decide (n ≥ (-2147483648 : Int)) == true) = false]) by kernel_rfl) (by simp only [all_cons, all_nil]; simp [*])

def s27_T (n : Int) : Int :=
  (cond (decide (n ≥ (-2147483648 : Int)))
  (cond (decide (n < (2147483648 : Int)))
    ((3 : Int))
    ((4 : Int)))
  ((4 : Int)))

theorem s27_ct (n : Int) : ∃ X, Ev c0.P c0.T (.call 27 [.int .i64 n] [] (flatV (s27_T n) n) ([] ++ X)) := by
  cases g1 : (decide (n ≥ (-2147483648 : Int))) with
  | true =>
    cases g2 : (decide (n < (2147483648 : Int))) with
    | true =>
      simp only [s27_T, g1, g2, cond_true, cond_false]; exact s27_0 n g1 g2
    | false =>
      simp only [s27_T, g1, g2, cond_true, cond_false]; exact s27_1 n g1 g2
  | false =>
    simp only [s27_T, g1, cond_true, cond_false]; exact s27_2 n g1


abbrev noneB (k : Int) : Bool := decide (noneK k)
abbrev numB (k : Int) : Bool := decide (numK k)
theorem c52 (k n : Int) (s : ByteArray) (xb : Bool) (eb : Es) (xf : Bool) (ef : Es) (xl : Bool) (el : Es) : ∃ X, Ev c0.P c0.T (.call 52 [val k n s xb eb xf ef xl el] [] (.bool (noneB k)) ([] ++ X)) := by
  have e : s52_T k n s xb eb xf ef xl el = noneB k := by
    unfold s52_T noneB noneK
    by_cases a : k = 2
    · subst a; decide
    · by_cases b : k = 0 <;> simp [beqd, Bool.cond_decide, a, b]
  rw [← e]
  exact s52_ct k n s xb eb xf ef xl el
theorem c53 (k n : Int) (s : ByteArray) (xb : Bool) (eb : Es) (xf : Bool) (ef : Es) (xl : Bool) (el : Es) : ∃ X, Ev c0.P c0.T (.call 53 [val k n s xb eb xf ef xl el] [] (.bool (numB k)) ([] ++ X)) := by
  have e : s53_T k n s xb eb xf ef xl el = numB k := by
    unfold s53_T numB numK
    by_cases a : k = 3
    · subst a; decide
    · by_cases b : k = 4 <;> simp [beqd, Bool.cond_decide, a, b]
  rw [← e]
  exact s53_ct k n s xb eb xf ef xl el
theorem c27 (n : Int) : ∃ X, Ev c0.P c0.T (.call 27 [.int .i64 n] [] (flatV (of32 n) n) ([] ++ X)) := by
  have e : s27_T n = of32 n := by
    unfold s27_T of32
    rw [Bool.cond_decide, Bool.cond_decide]
    by_cases a : n ≥ -2147483648 <;> by_cases b : n < 2147483648
    · rw [if_pos a, if_pos b, if_pos (by omega)]
    · rw [if_pos a, if_neg b, if_neg (by omega)]
    · rw [if_neg a, if_neg (by omega)]
    · rw [if_neg a, if_neg (by omega)]
  rw [← e]
  exact s27_ct n

def ofT : List D → GD.Heap → Option (D × GD.Heap × List Prop)
  | [.int .i64 n], [] => some (flatV (of32 n) n, [], [])
  | _, _ => none
def askT (f : Int → Bool) : List D → GD.Heap → Option (D × GD.Heap × List Prop)
  | [.agg [.int .i64 k, .int .i64 _, .str _, .slice _ _ none, .slice _ _ none, .slice _ _ none]], [] => some (.bool (f k), [], [])
  | _, _ => none
def ctT (k : FuncId) (args : List D) (H : GD.Heap) : Option (D × GD.Heap × List Prop) :=
  match k with
  | 27 => ofT args H
  | 52 => askT noneB args H
  | 53 => askT numB args H
  | _ => none
theorem askT_ok {g : FuncId} {f : Int → Bool} {args : List D} {H : GD.Heap} {r : D} {H1 : GD.Heap} {cs : List Prop}
    (h : ∀ (k n : Int) (s : ByteArray) (xb : Bool) (eb : Es) (xf : Bool) (ef : Es) (xl : Bool) (el : Es), ∃ X, Ev c0.P c0.T (.call g [val k n s xb eb xf ef xl el] [] (.bool (f k)) ([] ++ X))) (he : askT f args H = some (r, H1, cs)) : ∃ X, Ev c0.P c0.T (.call g args H r (H1 ++ X)) := by
  unfold askT at he
  split at he
  · simp only [Option.some.injEq, Prod.mk.injEq] at he
    obtain ⟨rfl, rfl, rfl⟩ := he
    exact h _ _ _ _ _ _ _ _ _
  · cases he
theorem ctT_ok (k : FuncId) (args : List D) (H : GD.Heap) (r : D) (H1 : GD.Heap) (cs : List Prop) (he : ctT k args H = some (r, H1, cs)) (hc : ∀ c ∈ cs, c) : ∃ X, Ev c0.P c0.T (.call k args H r (H1 ++ X)) := by
  unfold ctT at he
  split at he
  · unfold ofT at he
    split at he
    · simp only [Option.some.injEq, Prod.mk.injEq] at he
      obtain ⟨rfl, rfl, rfl⟩ := he
      exact c27 _
    · cases he
  · exact askT_ok c52 he
  · exact askT_ok c53 he
  · cases he
noncomputable def cT : Cf := { P := Try.prog, T := tyOf Try.prog, hint := fun _ _ _ => .sym, room := fun _ _ => 2, meth := fun _ _ => none, ct := ctT, stop := true }
theorem cTOk : CfOk cT where
  hT := fun _ _ h => h
  hm := by kernel_rfl
  meth := fun _ _ _ h => by simp only [cT] at h; cases h
  ct := ctT_ok
noncomputable def qT (p : Int) (ka na : Int) (sa : ByteArray) (xba : Bool) (eba : Es) (xfa : Bool) (efa : Es) (xla : Bool) (ela : Es) (kb nb : Int) (sb : ByteArray) (xbb : Bool) (ebb : Es) (xfb : Bool) (efb : Es) (xlb : Bool) (elb : Es) (or : GD.Or) := callE cT 100000 10 25 [.int .u8 p, val ka na sa xba eba xfa efa xla ela, val kb nb sb xbb ebb xfb efb xlb elb] [] or
noncomputable def three (p : Int) (ka na : Int) (sa : ByteArray) (xba : Bool) (eba : Es) (xfa : Bool) (efa : Es) (xla : Bool) (ela : Es) (kb nb : Int) (sb : ByteArray) (xbb : Bool) (ebb : Es) (xfb : Bool) (efb : Es) (xlb : Bool) (elb : Es) : List D := [.int .u8 p, val ka na sa xba eba xfa efa xla ela, val kb nb sb xbb ebb xfb efb xlb elb]

end Go.Proofs.Ytbkacmcijimbfaa.numk
