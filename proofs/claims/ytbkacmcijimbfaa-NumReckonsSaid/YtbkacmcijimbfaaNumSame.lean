/- Same on flat values; the laws' own two questions of a kind. -/
import Derived.Test.YtbkacmcijimbfaaNumKit
namespace Go.Proofs.Ytbkacmcijimbfaa.numk
open Go Ytbkacmcijimbfaa.GD
set_option linter.unusedVariables false
set_option linter.unusedSimpArgs false

noncomputable def c2 : Cf := { P := Try.prog, T := tyOf Try.prog, hint := fun _ _ _ => .sym, room := fun _ _ => 2, meth := fun _ _ => none, ct := fun _ _ _ => none, stop := false }
theorem c2Ok : CfOk c2 where
  hT := fun _ _ h => h
  hm := by kernel_rfl
  meth := fun _ _ _ h => by simp only [c2] at h; cases h
  ct := fun _ _ _ _ _ _ h => by simp only [c2] at h; cases h
noncomputable def q17 (k n k' n' : Int) (or : GD.Or) := callE c2 100000 10 17 [flatV k n, flatV k' n'] [] or
noncomputable def q1 (f : Nat) (k n : Int) (s : ByteArray) (xb : Bool) (eb : Es) (xf : Bool) (ef : Es) (xl : Bool) (el : Es) (or : GD.Or) := callE c2 100000 10 f [val k n s xb eb xf ef xl el] [] or

theorem s17_0 (k : Int) (n : Int) (k' : Int) (n' : Int)
    (h0 : (k != k') = true) :
    ∃ X, Ev c0.P c0.T (.call 17 [flatV k n, flatV k' n'] [] (D.bool false) ([] ++ X)) :=
  outC_ok c2Ok (show outC 0 (q17 k n k' n' (.path [false, false, false, false, false, true, false, false, false, false, false, true, false, false, false, false, false, false, false, true, false, false, false, false, false, false, false, true, false, false, false, false, false, false, false, true, true])) = some (D.bool false, [],
    [true = true,
      true = true,
      (true == false) = false,
      (true == false) = false,
      (true == false) = false,
      (true == false) = false,
      (true == false) = false,
      (true == false) = false,
      (true == false) = false,
      true = true,
      (true == false) = false,
      (true == false) = false,
      (true == false) = false,
      (true == false) = false,
      (true == false) = false,
      (true == false) = false,
      (true == false) = false,
      true = true,
      (true == false) = false,
      (true == false) = false,
      (true == false) = false,
      (true == false) = false,
      (true == false) = false,
      (true == false) = false,
      (true == false) = false,
      true = true,
      (true == false) = false,
      (true == false) = false,
      (true == false) = false,
      (true == false) = false,
      (true == false) = false,
      (k != k') = true,
      ((k != k') == false) = false,
      ((k != k') == false) = false,
      ((k != k') == false) = false,
      ((k != k') == false) = false,
      ((k != k') == false) = false]) by kernel_rfl) (by simp only [all_cons, all_nil]; simp [*])

theorem s17_1 (k : Int) (n : Int) (k' : Int) (n' : Int)
    (h0 : (k != k') = false)
    (h1 : (n != n') = true) :
    ∃ X, Ev c0.P c0.T (.call 17 [flatV k n, flatV k' n'] [] (D.bool false) ([] ++ X)) :=
  outC_ok c2Ok (show outC 0 (q17 k n k' n' (.path [true, true, true, true, true, false, false, false, false, false, false, true, false, false, false, false, false, false, false, true, false, false, false, false, false, false, false, true, false, false, false, false, false, false, false, true, true])) = some (D.bool false, [],
    [true = true,
      true = true,
      (true == false) = false,
      (true == false) = false,
      (true == false) = false,
      (true == false) = false,
      (true == false) = false,
      (true == false) = false,
      (true == false) = false,
      true = true,
      (true == false) = false,
      (true == false) = false,
      (true == false) = false,
      (true == false) = false,
      (true == false) = false,
      (true == false) = false,
      (true == false) = false,
      true = true,
      (true == false) = false,
      (true == false) = false,
      (true == false) = false,
      (true == false) = false,
      (true == false) = false,
      (true == false) = false,
      (true == false) = false,
      (n != n') = true,
      ((n != n') == false) = false,
      ((n != n') == false) = false,
      ((n != n') == false) = false,
      ((n != n') == false) = false,
      ((n != n') == false) = false,
      (k != k') = false,
      ((k != k') == false) = true,
      ((k != k') == false) = true,
      ((k != k') == false) = true,
      ((k != k') == false) = true,
      ((k != k') == false) = true]) by kernel_rfl) (by simp only [all_cons, all_nil]; simp [*])

theorem s17_2 (k : Int) (n : Int) (k' : Int) (n' : Int)
    (h0 : (k != k') = false)
    (h1 : (n != n') = false) :
    ∃ X, Ev c0.P c0.T (.call 17 [flatV k n, flatV k' n'] [] (D.bool true) ([] ++ X)) :=
  outC_ok c2Ok (show outC 0 (q17 k n k' n' (.path [true, true, true, true, true, false, true, true, true, true, true, false, true, true, true, true, true, true, true, false, true, true, true, true, true, true, true, false, true, true, true, true, true, true, true, false, false, false, false])) = some (D.bool true, [],
    [decide ((0 : Int) < ↑([] : List (List D)).length) = false,
      decide ((0 : Int) < ↑([] : List (List D)).length) = false,
      (↑([] : List (List D)).length != ↑([] : List (List D)).length) = false,
      (↑([] : List (List D)).length != ↑([] : List (List D)).length) = false,
      ((↑([] : List (List D)).length != ↑([] : List (List D)).length) == false) = true,
      ((↑([] : List (List D)).length != ↑([] : List (List D)).length) == false) = true,
      ((↑([] : List (List D)).length != ↑([] : List (List D)).length) == false) = true,
      ((↑([] : List (List D)).length != ↑([] : List (List D)).length) == false) = true,
      ((↑([] : List (List D)).length != ↑([] : List (List D)).length) == false) = true,
      ((↑([] : List (List D)).length != ↑([] : List (List D)).length) == false) = true,
      ((↑([] : List (List D)).length != ↑([] : List (List D)).length) == false) = true,
      (!(bytesOf []).toList == (bytesOf []).toList) = false,
      ((!(bytesOf []).toList == (bytesOf []).toList) == false) = true,
      ((!(bytesOf []).toList == (bytesOf []).toList) == false) = true,
      ((!(bytesOf []).toList == (bytesOf []).toList) == false) = true,
      ((!(bytesOf []).toList == (bytesOf []).toList) == false) = true,
      ((!(bytesOf []).toList == (bytesOf []).toList) == false) = true,
      ((!(bytesOf []).toList == (bytesOf []).toList) == false) = true,
      ((!(bytesOf []).toList == (bytesOf []).toList) == false) = true,
      (!(ByteArray.mk #[]).toList == (ByteArray.mk #[]).toList) = false,
      ((!(ByteArray.mk #[]).toList == (ByteArray.mk #[]).toList) == false) = true,
      [].all isByteC = true,
      ((!(ByteArray.mk #[]).toList == (ByteArray.mk #[]).toList) == false) = true,
      ((!(ByteArray.mk #[]).toList == (ByteArray.mk #[]).toList) == false) = true,
      ((!(ByteArray.mk #[]).toList == (ByteArray.mk #[]).toList) == false) = true,
      [].all isByteC = true,
      ((!(ByteArray.mk #[]).toList == (ByteArray.mk #[]).toList) == false) = true,
      ((!(ByteArray.mk #[]).toList == (ByteArray.mk #[]).toList) == false) = true,
      ((!(ByteArray.mk #[]).toList == (ByteArray.mk #[]).toList) == false) = true,
      (n != n') = false,
      ((n != n') == false) = true,
      ((n != n') == false) = true,
      ((n != n') == false) = true,
      ((n != n') == false) = true,
      ((n != n') == false) = true,
      (k != k') = false,
      ((k != k') == false) = true,
      ((k != k') == false) = true,
      ((k != k') == false) = true,
      ((k != k') == false) = true,
      ((k != k') == false) = true]) by kernel_rfl) (by simp only [all_cons, all_nil]; simp [*])

def s17_T (k : Int) (n : Int) (k' : Int) (n' : Int) : Bool :=
  (cond (k != k')
  (false)
  (cond (n != n')
    (false)
    (true)))

theorem s17_ct (k : Int) (n : Int) (k' : Int) (n' : Int) : ∃ X, Ev c0.P c0.T (.call 17 [flatV k n, flatV k' n'] [] (.bool (s17_T k n k' n')) ([] ++ X)) := by
  cases g1 : (k != k') with
  | true =>
    simp only [s17_T, g1, cond_true, cond_false]; exact s17_0 k n k' n' g1
  | false =>
    cases g2 : (n != n') with
    | true =>
      simp only [s17_T, g1, g2, cond_true, cond_false]; exact s17_1 k n k' n' g1 g2
    | false =>
      simp only [s17_T, g1, g2, cond_true, cond_false]; exact s17_2 k n k' n' g1 g2

theorem s18_0 (k : Int) (n : Int) (s : ByteArray) (xb : Bool) (eb : Es) (xf : Bool) (ef : Es) (xl : Bool) (el : Es)
    (h0 : (k == (2 : Int)) = true) :
    ∃ X, Ev c0.P c0.T (.call 18 [val k n s xb eb xf ef xl el] [] (D.bool true) ([] ++ X)) :=
  outC_ok c2Ok (show outC 0 (q1 18 k n s xb eb xf ef xl el (.path [false, false, false, true])) = some (D.bool true, [],
    [(k == (2 : Int)) = true,
      ((k == (2 : Int)) == false) = false,
      ((k == (2 : Int)) == false) = false,
      ((k == (2 : Int)) == false) = false]) by kernel_rfl) (by simp only [all_cons, all_nil]; simp [*])

theorem s18_1 (k : Int) (n : Int) (s : ByteArray) (xb : Bool) (eb : Es) (xf : Bool) (ef : Es) (xl : Bool) (el : Es)
    (h0 : (k == (2 : Int)) = false) :
    ∃ X, Ev c0.P c0.T (.call 18 [val k n s xb eb xf ef xl el] [] (D.bool (k == (0 : Int))) ([] ++ X)) :=
  outC_ok c2Ok (show outC 0 (q1 18 k n s xb eb xf ef xl el (.path [true, true, true, false])) = some (D.bool (k == (0 : Int)), [],
    [(k == (2 : Int)) = false,
      ((k == (2 : Int)) == false) = true,
      ((k == (2 : Int)) == false) = true,
      ((k == (2 : Int)) == false) = true]) by kernel_rfl) (by simp only [all_cons, all_nil]; simp [*])

def s18_T (k : Int) (n : Int) (s : ByteArray) (xb : Bool) (eb : Es) (xf : Bool) (ef : Es) (xl : Bool) (el : Es) : Bool :=
  (cond (k == (2 : Int))
  (true)
  (k == (0 : Int)))

theorem s18_ct (k : Int) (n : Int) (s : ByteArray) (xb : Bool) (eb : Es) (xf : Bool) (ef : Es) (xl : Bool) (el : Es) : ∃ X, Ev c0.P c0.T (.call 18 [val k n s xb eb xf ef xl el] [] (.bool (s18_T k n s xb eb xf ef xl el)) ([] ++ X)) := by
  cases g1 : (k == (2 : Int)) with
  | true =>
    simp only [s18_T, g1, cond_true, cond_false]; exact s18_0 k n s xb eb xf ef xl el g1
  | false =>
    simp only [s18_T, g1, cond_true, cond_false]; exact s18_1 k n s xb eb xf ef xl el g1

theorem s19_0 (k : Int) (n : Int) (s : ByteArray) (xb : Bool) (eb : Es) (xf : Bool) (ef : Es) (xl : Bool) (el : Es)
    (h0 : (k == (3 : Int)) = true) :
    ∃ X, Ev c0.P c0.T (.call 19 [val k n s xb eb xf ef xl el] [] (D.bool true) ([] ++ X)) :=
  outC_ok c2Ok (show outC 0 (q1 19 k n s xb eb xf ef xl el (.path [false, false, false, true])) = some (D.bool true, [],
    [(k == (3 : Int)) = true,
      ((k == (3 : Int)) == false) = false,
      ((k == (3 : Int)) == false) = false,
      ((k == (3 : Int)) == false) = false]) by kernel_rfl) (by simp only [all_cons, all_nil]; simp [*])

theorem s19_1 (k : Int) (n : Int) (s : ByteArray) (xb : Bool) (eb : Es) (xf : Bool) (ef : Es) (xl : Bool) (el : Es)
    (h0 : (k == (3 : Int)) = false) :
    ∃ X, Ev c0.P c0.T (.call 19 [val k n s xb eb xf ef xl el] [] (D.bool (k == (4 : Int))) ([] ++ X)) :=
  outC_ok c2Ok (show outC 0 (q1 19 k n s xb eb xf ef xl el (.path [true, true, true, false])) = some (D.bool (k == (4 : Int)), [],
    [(k == (3 : Int)) = false,
      ((k == (3 : Int)) == false) = true,
      ((k == (3 : Int)) == false) = true,
      ((k == (3 : Int)) == false) = true]) by kernel_rfl) (by simp only [all_cons, all_nil]; simp [*])

def s19_T (k : Int) (n : Int) (s : ByteArray) (xb : Bool) (eb : Es) (xf : Bool) (ef : Es) (xl : Bool) (el : Es) : Bool :=
  (cond (k == (3 : Int))
  (true)
  (k == (4 : Int)))

theorem s19_ct (k : Int) (n : Int) (s : ByteArray) (xb : Bool) (eb : Es) (xf : Bool) (ef : Es) (xl : Bool) (el : Es) : ∃ X, Ev c0.P c0.T (.call 19 [val k n s xb eb xf ef xl el] [] (.bool (s19_T k n s xb eb xf ef xl el)) ([] ++ X)) := by
  cases g1 : (k == (3 : Int)) with
  | true =>
    simp only [s19_T, g1, cond_true, cond_false]; exact s19_0 k n s xb eb xf ef xl el g1
  | false =>
    simp only [s19_T, g1, cond_true, cond_false]; exact s19_1 k n s xb eb xf ef xl el g1


theorem c17 (k n k' n' : Int) : ∃ X, Ev c0.P c0.T (.call 17 [flatV k n, flatV k' n'] [] (.bool (decide (k = k' ∧ n = n'))) ([] ++ X)) := by
  have e : s17_T k n k' n' = decide (k = k' ∧ n = n') := by
    unfold s17_T
    by_cases a : k = k' <;> by_cases b : n = n' <;> simp [a, b]
  rw [← e]
  exact s17_ct k n k' n'
theorem c18 (k n : Int) (s : ByteArray) (xb : Bool) (eb : Es) (xf : Bool) (ef : Es) (xl : Bool) (el : Es) : ∃ X, Ev c0.P c0.T (.call 18 [val k n s xb eb xf ef xl el] [] (.bool (decide (noneK k))) ([] ++ X)) := by
  have e : s18_T k n s xb eb xf ef xl el = decide (noneK k) := by
    unfold s18_T noneK
    by_cases a : k = 2
    · subst a; decide
    · by_cases b : k = 0 <;> simp [beqd, Bool.cond_decide, a, b]
  rw [← e]
  exact s18_ct k n s xb eb xf ef xl el
theorem c19 (k n : Int) (s : ByteArray) (xb : Bool) (eb : Es) (xf : Bool) (ef : Es) (xl : Bool) (el : Es) : ∃ X, Ev c0.P c0.T (.call 19 [val k n s xb eb xf ef xl el] [] (.bool (decide (numK k))) ([] ++ X)) := by
  have e : s19_T k n s xb eb xf ef xl el = decide (numK k) := by
    unfold s19_T numK
    by_cases a : k = 3
    · subst a; decide
    · by_cases b : k = 4 <;> simp [beqd, Bool.cond_decide, a, b]
  rw [← e]
  exact s19_ct k n s xb eb xf ef xl el

noncomputable def cA : Cf := { P := Try.prog, T := tyOf Try.prog, hint := fun _ _ _ => .auto, room := fun _ _ => 2, meth := fun _ _ => none, ct := fun _ _ _ => none, stop := false }
theorem cAOk : CfOk cA where
  hT := fun _ _ h => h
  hm := by kernel_rfl
  meth := fun _ _ _ h => by simp only [cA] at h; cases h
  ct := fun _ _ _ _ _ _ h => by simp only [cA] at h; cases h
theorem toldAwake : tellsTrue (callE cA 100000 100 13 [] [] .auto) = true := by kernel_rfl
theorem cAP : cA.P = c0.P := rfl
theorem cAT : cA.T = c0.T := rfl
theorem awake13 : ∃ X, Ev c0.P c0.T (.call 13 [] [] (.bool true) ([] ++ X)) := by
  obtain ⟨R, h1, h2, h3⟩ := tellsTrue_ok toldAwake
  obtain ⟨X, hev⟩ := callE_ok cAOk _ _ _ _ _ h1 (fun c hc => by rw [h3] at hc; simp at hc)
  rw [h2, cAP, cAT] at hev
  exact ⟨R.H ++ X, hev⟩

end Go.Proofs.Ytbkacmcijimbfaa.numk
