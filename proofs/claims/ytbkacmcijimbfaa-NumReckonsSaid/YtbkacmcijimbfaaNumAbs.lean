/- The absolute value, the program's and the reference's: what they hand back. -/
import Derived.Test.YtbkacmcijimbfaaNumTwoEq
namespace Go.Proofs.Ytbkacmcijimbfaa.numk
open Go Ytbkacmcijimbfaa.GD
set_option linter.unusedVariables false
set_option linter.unusedSimpArgs false

def arK (f : Nat) (ka na kb nb : Int) : Int := (arith f ka na kb nb).1
def arN (f : Nat) (ka na kb nb : Int) : Int := (arith f ka na kb nb).2.1
def arE (f : Nat) (ka na kb nb : Int) : Int := (arith f ka na kb nb).2.2
def opOf (p : Int) : Nat := if p = 43 then 45 else if p = 45 then 47 else if p = 42 then 46 else if p = 47 then 48 else 49

theorem c25 (p : Int) (hp : p = 43 ∨ p = 45 ∨ p = 42 ∨ p = 47 ∨ p = 37) (ka na : Int) (sa : ByteArray) (xba : Bool) (eba : Es) (xfa : Bool) (efa : Es) (xla : Bool) (ela : Es) (kb nb : Int) (sb : ByteArray) (xbb : Bool) (ebb : Es) (xfb : Bool) (efb : Es) (xlb : Bool) (elb : Es) (ra : R na) (rb : R nb) :
    ∃ X, Ev c0.P c0.T (.call 25 (three p ka na sa xba eba xfa efa xla ela kb nb sb xbb ebb xfb efb xlb elb) [] (res (arith (opOf p) ka na kb nb).1 (arith (opOf p) ka na kb nb).2.1 (arith (opOf p) ka na kb nb).2.2) ([] ++ X)) := by
  have h := tw_ct p ka na sa xba eba xfa efa xla ela kb nb sb xbb ebb xfb efb xlb elb hp
  have e : tw_T p ka na sa xba eba xfa efa xla ela kb nb sb xbb ebb xfb efb xlb elb = arith (opOf p) ka na kb nb := by
    rcases hp with rfl | rfl | rfl | rfl | rfl
    · exact tw43_eq ka na sa xba eba xfa efa xla ela kb nb sb xbb ebb xfb efb xlb elb ra rb
    · exact tw45_eq ka na sa xba eba xfa efa xla ela kb nb sb xbb ebb xfb efb xlb elb ra rb
    · exact tw42_eq ka na sa xba eba xfa efa xla ela kb nb sb xbb ebb xfb efb xlb elb ra rb
    · exact tw47_eq ka na sa xba eba xfa efa xla ela kb nb sb xbb ebb xfb efb xlb elb ra rb
    · exact tw37_eq ka na sa xba eba xfa efa xla ela kb nb sb xbb ebb xfb efb xlb elb ra rb
  rw [e] at h
  exact h

theorem i50_0 (x : Int) (y : Int)
    (h0 : (x != (-9223372036854775808 : Int)) = true) :
    ∃ X, Ev c0.P c0.T (.call 50 [.int .i64 x, .int .i64 y] [] (D.tuple
  [D.int IntKind.i64 (if IntKind.i64.wrap ((0 : Int) - x) > x then IntKind.i64.wrap ((0 : Int) - x) else x),
    D.int IntKind.i64 (0 : Int)]) ([] ++ X)) :=
  outC_ok c0Ok (show outC 0 (qi 50 x y (.path [false])) = some (D.tuple
  [D.int IntKind.i64 (if IntKind.i64.wrap ((0 : Int) - x) > x then IntKind.i64.wrap ((0 : Int) - x) else x),
    D.int IntKind.i64 (0 : Int)], [],
    [(!x != (-9223372036854775808 : Int)) = false]) by kernel_rfl) (by simp only [all_cons, all_nil]; simp [*])

theorem i50_1 (x : Int) (y : Int)
    (h0 : (x != (-9223372036854775808 : Int)) = false) :
    ∃ X, Ev c0.P c0.T (.call 50 [.int .i64 x, .int .i64 y] [] (D.tuple [D.int IntKind.i64 (0 : Int), D.int IntKind.i64 (10 : Int)]) ([] ++ X)) :=
  outC_ok c0Ok (show outC 0 (qi 50 x y (.path [true])) = some (D.tuple [D.int IntKind.i64 (0 : Int), D.int IntKind.i64 (10 : Int)], [],
    [(!x != (-9223372036854775808 : Int)) = true]) by kernel_rfl) (by simp only [all_cons, all_nil]; simp [*])

def i50_T (x : Int) (y : Int) : Int × Int :=
  (cond (x != (-9223372036854775808 : Int))
  (if IntKind.i64.wrap ((0 : Int) - x) > x then IntKind.i64.wrap ((0 : Int) - x) else x, (0 : Int))
  ((0 : Int), (10 : Int)))

theorem i50_ct (x : Int) (y : Int) : ∃ X, Ev c0.P c0.T (.call 50 [.int .i64 x, .int .i64 y] [] (.tuple [.int .i64 (i50_T x y).1, .int .i64 (i50_T x y).2]) ([] ++ X)) := by
  cases g1 : (x != (-9223372036854775808 : Int)) with
  | true =>
    simp only [i50_T, g1, cond_true, cond_false]; exact i50_0 x y g1
  | false =>
    simp only [i50_T, g1, cond_true, cond_false]; exact i50_1 x y g1


theorem i50_eq {x y : Int} (hx : R x) : i50_T x y = (opN 50 x y, opE 50 x y) := by
  unfold i50_T
  by_cases h : x = -9223372036854775808
  · subst h
    have o : opE 50 (-9223372036854775808) y = 10 := by simp only [opE]; decide
    have o2 : opN 50 (-9223372036854775808) y = 0 := by simp [opN, o]
    rw [o, o2]
    rfl
  · have hr : R (-x) := by unfold R at *; omega
    have hb : (x != -9223372036854775808) = true := by simpa using h
    have o : opE 50 x y = 0 := by simp [opE, hr]
    have o2 : opN 50 x y = if x < 0 then -x else x := by simp [opN, opV, o]
    rw [hb, cond_true, o, o2]
    have w : IntKind.i64.wrap (0 - x) = -x := by rw [show (0 : Int) - x = -x by omega]; exact wrap_R hr
    rw [w]
    congr 1
    by_cases c : x < 0
    · rw [if_pos c, if_pos (by omega)]
    · rw [if_neg c]
      split
      · omega
      · rfl

def absC : List D → GD.Heap → Option (D × GD.Heap × List Prop)
  | [.int .i64 x, .int .i64 y], [] => some (.tuple [.int .i64 (opN 50 x y), .int .i64 (opE 50 x y)], [], [R x, R y])
  | _, _ => none
def twoC : List D → GD.Heap → Option (D × GD.Heap × List Prop)
  | [.int .u8 p, .agg [.int .i64 ka, .int .i64 na, .str _, .slice _ _ none, .slice _ _ none, .slice _ _ none], .agg [.int .i64 kb, .int .i64 nb, .str _, .slice _ _ none, .slice _ _ none, .slice _ _ none]], [] => if p = 43 ∨ p = 45 ∨ p = 42 ∨ p = 47 ∨ p = 37 then some (res (arK (opOf p) ka na kb nb) (arN (opOf p) ka na kb nb) (arE (opOf p) ka na kb nb), [], [R na, R nb]) else none
  | _, _ => none
theorem twoC_ok {args : List D} {H : GD.Heap} {r : D} {H1 : GD.Heap} {cs : List Prop} (he : twoC args H = some (r, H1, cs)) (hc : ∀ c ∈ cs, c) : ∃ X, Ev c0.P c0.T (.call 25 args H r (H1 ++ X)) := by
  unfold twoC at he
  split at he
  · split at he
    · rename_i hp
      simp only [Option.some.injEq, Prod.mk.injEq] at he
      obtain ⟨rfl, rfl, rfl⟩ := he
      exact c25 _ hp _ _ _ _ _ _ _ _ _ _ _ _ _ _ _ _ _ _ (hc _ (List.mem_cons_self ..)) (hc _ (List.mem_cons_of_mem _ (List.mem_cons_self ..)))
    · cases he
  · cases he
def ctA (k : FuncId) (args : List D) (H : GD.Heap) : Option (D × GD.Heap × List Prop) :=
  match k with
  | 50 => absC args H
  | 25 => twoC args H
  | _ => none
theorem ctA_ok (k : FuncId) (args : List D) (H : GD.Heap) (r : D) (H1 : GD.Heap) (cs : List Prop) (he : ctA k args H = some (r, H1, cs)) (hc : ∀ c ∈ cs, c) : ∃ X, Ev c0.P c0.T (.call k args H r (H1 ++ X)) := by
  unfold ctA at he
  split at he
  · unfold absC at he
    split at he
    · rename_i x y
      simp only [Option.some.injEq, Prod.mk.injEq] at he
      obtain ⟨rfl, rfl, rfl⟩ := he
      have h := i50_ct x y
      rw [i50_eq (hc _ (List.mem_cons_self ..))] at h
      exact h
    · cases he
  · exact twoC_ok he hc
  · cases he
noncomputable def cAbs : Cf := { P := Try.prog, T := tyOf Try.prog, hint := fun _ _ _ => .sym, room := fun _ _ => 2, meth := fun _ _ => none, ct := ctA, stop := true }
theorem cAbsOk : CfOk cAbs where
  hT := fun _ _ h => h
  hm := by kernel_rfl
  meth := fun _ _ _ h => by simp only [cAbs] at h; cases h
  ct := ctA_ok
noncomputable def qA (f : Nat) (k n : Int) (s : ByteArray) (xb : Bool) (eb : Es) (xf : Bool) (ef : Es) (xl : Bool) (el : Es) (or : GD.Or) := callE cAbs 100000 10 f [val k n s xb eb xf ef xl el] [] or

theorem a24_0 (k : Int) (n : Int) (s : ByteArray) (xb : Bool) (eb : Es) (xf : Bool) (ef : Es) (xl : Bool) (el : Es) (hx : R n)
    (h0 : (k == (0 : Int)) = true) :
    ∃ X, Ev c0.P c0.T (.call 24 [val k n s xb eb xf ef xl el] [] (D.tuple
  [D.agg
      [D.int IntKind.i64 (2 : Int), D.int IntKind.i64 (0 : Int), D.str (ByteArray.mk #[]), D.slice false [] none,
        D.slice false [] none, D.slice false [] none],
    D.int IntKind.i64 (0 : Int)]) ([] ++ X)) :=
  outC_ok cAbsOk (show outC 0 (qA 24 k n s xb eb xf ef xl el (.path [false, false, false, true, false, false, true, true])) = some (D.tuple
  [D.agg
      [D.int IntKind.i64 (2 : Int), D.int IntKind.i64 (0 : Int), D.str (ByteArray.mk #[]), D.slice false [] none,
        D.slice false [] none, D.slice false [] none],
    D.int IntKind.i64 (0 : Int)], [],
    [true = true,
      true = true,
      (true == false) = false,
      (true == false) = false,
      (k == (0 : Int)) = true,
      ((k == (0 : Int)) == false) = false,
      ((k == (0 : Int)) == false) = false,
      ((k == (0 : Int)) == false) = false]) by kernel_rfl) (by simp only [all_cons, all_nil]; simp [*])

theorem a24_1 (k : Int) (n : Int) (s : ByteArray) (xb : Bool) (eb : Es) (xf : Bool) (ef : Es) (xl : Bool) (el : Es) (hx : R n)
    (h0 : (k == (0 : Int)) = false)
    (h1 : (k == (2 : Int)) = true) :
    ∃ X, Ev c0.P c0.T (.call 24 [val k n s xb eb xf ef xl el] [] (D.tuple
  [D.agg
      [D.int IntKind.i64 (2 : Int), D.int IntKind.i64 (0 : Int), D.str (ByteArray.mk #[]), D.slice false [] none,
        D.slice false [] none, D.slice false [] none],
    D.int IntKind.i64 (0 : Int)]) ([] ++ X)) :=
  outC_ok cAbsOk (show outC 0 (qA 24 k n s xb eb xf ef xl el (.path [true, true, true, false, false, false, true, true])) = some (D.tuple
  [D.agg
      [D.int IntKind.i64 (2 : Int), D.int IntKind.i64 (0 : Int), D.str (ByteArray.mk #[]), D.slice false [] none,
        D.slice false [] none, D.slice false [] none],
    D.int IntKind.i64 (0 : Int)], [],
    [true = true,
      (k == (2 : Int)) = true,
      ((k == (2 : Int)) == false) = false,
      ((k == (2 : Int)) == false) = false,
      (k == (0 : Int)) = false,
      ((k == (0 : Int)) == false) = true,
      ((k == (0 : Int)) == false) = true,
      ((k == (0 : Int)) == false) = true]) by kernel_rfl) (by simp only [all_cons, all_nil]; simp [*])

theorem a24_2 (k : Int) (n : Int) (s : ByteArray) (xb : Bool) (eb : Es) (xf : Bool) (ef : Es) (xl : Bool) (el : Es) (hx : R n)
    (h0 : (k == (0 : Int)) = false)
    (h1 : (k == (2 : Int)) = false)
    (h2 : (k == (3 : Int)) = true)
    (h3 : (opE (50 : Nat) n n != (0 : Int)) = true)
    (h4 : R n) :
    ∃ X, Ev c0.P c0.T (.call 24 [val k n s xb eb xf ef xl el] [] (D.tuple
  [D.agg
      [D.int IntKind.i64 (0 : Int), D.int IntKind.i64 (0 : Int), D.str (ByteArray.mk #[]), D.slice false [] none,
        D.slice false [] none, D.slice false [] none],
    D.int IntKind.i64 (opE (50 : Nat) n n)]) ([] ++ X)) :=
  outC_ok cAbsOk (show outC 0 (qA 24 k n s xb eb xf ef xl el (.path [true, true, true, false, true, true, true, true, true, false, false, false, false, false, false, true, true, true, false, false, false, true, true, false, false, true])) = some (D.tuple
  [D.agg
      [D.int IntKind.i64 (0 : Int), D.int IntKind.i64 (0 : Int), D.str (ByteArray.mk #[]), D.slice false [] none,
        D.slice false [] none, D.slice false [] none],
    D.int IntKind.i64 (opE (50 : Nat) n n)], [],
    [(opE (50 : Nat) n n != (0 : Int)) = true,
      R n,
      R n,
      (!true) = false,
      (!true) = false,
      ((!true) == false) = true,
      (k == (3 : Int)) = true,
      ((k == (3 : Int)) == false) = false,
      ((k == (3 : Int)) == false) = false,
      ((k == (3 : Int)) == false) = false,
      ((!true) == false) = true,
      ((!true) == false) = true,
      (k == (3 : Int)) = true,
      ((k == (3 : Int)) == false) = false,
      ((k == (3 : Int)) == false) = false,
      ((k == (3 : Int)) == false) = false,
      (k == (2 : Int)) = false,
      (k == (2 : Int)) = false,
      (k == (0 : Int)) = false,
      ((k == (0 : Int)) == false) = true,
      ((k == (0 : Int)) == false) = true,
      ((k == (0 : Int)) == false) = true,
      ((k == (2 : Int)) == false) = true,
      ((k == (2 : Int)) == false) = true,
      (k == (0 : Int)) = false,
      ((k == (0 : Int)) == false) = true,
      ((k == (0 : Int)) == false) = true,
      ((k == (0 : Int)) == false) = true]) by kernel_rfl) (by simp only [all_cons, all_nil]; simp [*])

theorem a24_3 (k : Int) (n : Int) (s : ByteArray) (xb : Bool) (eb : Es) (xf : Bool) (ef : Es) (xl : Bool) (el : Es) (hx : R n)
    (h0 : (k == (0 : Int)) = false)
    (h1 : (k == (2 : Int)) = false)
    (h2 : (k == (3 : Int)) = true)
    (h3 : (opE (50 : Nat) n n != (0 : Int)) = false)
    (h4 : (opN (50 : Nat) n n == IntKind.i64.wrap (IntKind.i32.wrap (opN (50 : Nat) n n))) = true)
    (h5 : (k == (4 : Int)) = false)
    (h6 : R n) :
    ∃ X, Ev c0.P c0.T (.call 24 [val k n s xb eb xf ef xl el] [] (D.tuple
  [D.agg
      [D.int IntKind.i64 (3 : Int), D.int IntKind.i64 (opN (50 : Nat) n n), D.str (ByteArray.mk #[]),
        D.slice false [] none, D.slice false [] none, D.slice false [] none],
    D.int IntKind.i64 (0 : Int)]) ([] ++ X)) :=
  outC_ok cAbsOk (show outC 0 (qA 24 k n s xb eb xf ef xl el (.path [true, true, true, false, true, true, true, true, true, false, false, false, false, false, false, true, true, true, false, false, false, true, true, false, false, false, true, true, true, true, false, false])) = some (D.tuple
  [D.agg
      [D.int IntKind.i64 (3 : Int), D.int IntKind.i64 (opN (50 : Nat) n n), D.str (ByteArray.mk #[]),
        D.slice false [] none, D.slice false [] none, D.slice false [] none],
    D.int IntKind.i64 (0 : Int)], [],
    [(k == (4 : Int)) = false,
      (k == (4 : Int)) = false,
      ((k == (4 : Int)) == false) = true,
      ((k == (4 : Int)) == false) = true,
      ((k == (4 : Int)) == false) = true,
      (opN (50 : Nat) n n == IntKind.i64.wrap (IntKind.i32.wrap (opN (50 : Nat) n n))) = true,
      (opE (50 : Nat) n n != (0 : Int)) = false,
      R n,
      R n,
      (!true) = false,
      (!true) = false,
      ((!true) == false) = true,
      (k == (3 : Int)) = true,
      ((k == (3 : Int)) == false) = false,
      ((k == (3 : Int)) == false) = false,
      ((k == (3 : Int)) == false) = false,
      ((!true) == false) = true,
      ((!true) == false) = true,
      (k == (3 : Int)) = true,
      ((k == (3 : Int)) == false) = false,
      ((k == (3 : Int)) == false) = false,
      ((k == (3 : Int)) == false) = false,
      (k == (2 : Int)) = false,
      (k == (2 : Int)) = false,
      (k == (0 : Int)) = false,
      ((k == (0 : Int)) == false) = true,
      ((k == (0 : Int)) == false) = true,
      ((k == (0 : Int)) == false) = true,
      ((k == (2 : Int)) == false) = true,
      ((k == (2 : Int)) == false) = true,
      (k == (0 : Int)) = false,
      ((k == (0 : Int)) == false) = true,
      ((k == (0 : Int)) == false) = true,
      ((k == (0 : Int)) == false) = true]) by kernel_rfl) (by simp only [all_cons, all_nil]; simp [*])

theorem a24_4 (k : Int) (n : Int) (s : ByteArray) (xb : Bool) (eb : Es) (xf : Bool) (ef : Es) (xl : Bool) (el : Es) (hx : R n)
    (h0 : (k == (0 : Int)) = false)
    (h1 : (k == (2 : Int)) = false)
    (h2 : (k == (3 : Int)) = true)
    (h3 : (opE (50 : Nat) n n != (0 : Int)) = false)
    (h4 : (opN (50 : Nat) n n == IntKind.i64.wrap (IntKind.i32.wrap (opN (50 : Nat) n n))) = false)
    (h5 : (k == (4 : Int)) = false)
    (h6 : R n) :
    ∃ X, Ev c0.P c0.T (.call 24 [val k n s xb eb xf ef xl el] [] (D.tuple
  [D.agg
      [D.int IntKind.i64 (4 : Int), D.int IntKind.i64 (opN (50 : Nat) n n), D.str (ByteArray.mk #[]),
        D.slice false [] none, D.slice false [] none, D.slice false [] none],
    D.int IntKind.i64 (0 : Int)]) ([] ++ X)) :=
  outC_ok cAbsOk (show outC 0 (qA 24 k n s xb eb xf ef xl el (.path [true, true, true, false, true, true, true, true, true, false, false, false, false, false, false, true, true, true, false, false, false, true, true, false, false, false, false, true, true, true, false, false])) = some (D.tuple
  [D.agg
      [D.int IntKind.i64 (4 : Int), D.int IntKind.i64 (opN (50 : Nat) n n), D.str (ByteArray.mk #[]),
        D.slice false [] none, D.slice false [] none, D.slice false [] none],
    D.int IntKind.i64 (0 : Int)], [],
    [(k == (4 : Int)) = false,
      (k == (4 : Int)) = false,
      ((k == (4 : Int)) == false) = true,
      ((k == (4 : Int)) == false) = true,
      ((k == (4 : Int)) == false) = true,
      (opN (50 : Nat) n n == IntKind.i64.wrap (IntKind.i32.wrap (opN (50 : Nat) n n))) = false,
      (opE (50 : Nat) n n != (0 : Int)) = false,
      R n,
      R n,
      (!true) = false,
      (!true) = false,
      ((!true) == false) = true,
      (k == (3 : Int)) = true,
      ((k == (3 : Int)) == false) = false,
      ((k == (3 : Int)) == false) = false,
      ((k == (3 : Int)) == false) = false,
      ((!true) == false) = true,
      ((!true) == false) = true,
      (k == (3 : Int)) = true,
      ((k == (3 : Int)) == false) = false,
      ((k == (3 : Int)) == false) = false,
      ((k == (3 : Int)) == false) = false,
      (k == (2 : Int)) = false,
      (k == (2 : Int)) = false,
      (k == (0 : Int)) = false,
      ((k == (0 : Int)) == false) = true,
      ((k == (0 : Int)) == false) = true,
      ((k == (0 : Int)) == false) = true,
      ((k == (2 : Int)) == false) = true,
      ((k == (2 : Int)) == false) = true,
      (k == (0 : Int)) = false,
      ((k == (0 : Int)) == false) = true,
      ((k == (0 : Int)) == false) = true,
      ((k == (0 : Int)) == false) = true]) by kernel_rfl) (by simp only [all_cons, all_nil]; simp [*])

theorem a24_5 (k : Int) (n : Int) (s : ByteArray) (xb : Bool) (eb : Es) (xf : Bool) (ef : Es) (xl : Bool) (el : Es) (hx : R n)
    (h0 : (k == (0 : Int)) = false)
    (h1 : (k == (2 : Int)) = false)
    (h2 : (k == (3 : Int)) = false)
    (h3 : (k == (4 : Int)) = true)
    (h4 : (opE (50 : Nat) n n != (0 : Int)) = true)
    (h5 : R n) :
    ∃ X, Ev c0.P c0.T (.call 24 [val k n s xb eb xf ef xl el] [] (D.tuple
  [D.agg
      [D.int IntKind.i64 (0 : Int), D.int IntKind.i64 (0 : Int), D.str (ByteArray.mk #[]), D.slice false [] none,
        D.slice false [] none, D.slice false [] none],
    D.int IntKind.i64 (opE (50 : Nat) n n)]) ([] ++ X)) :=
  outC_ok cAbsOk (show outC 0 (qA 24 k n s xb eb xf ef xl el (.path [true, true, true, false, true, true, true, true, true, false, false, false, true, true, true, false, true, true, true, true, true, false, true, false, false, true])) = some (D.tuple
  [D.agg
      [D.int IntKind.i64 (0 : Int), D.int IntKind.i64 (0 : Int), D.str (ByteArray.mk #[]), D.slice false [] none,
        D.slice false [] none, D.slice false [] none],
    D.int IntKind.i64 (opE (50 : Nat) n n)], [],
    [(opE (50 : Nat) n n != (0 : Int)) = true,
      R n,
      R n,
      (!k == (4 : Int)) = false,
      (!k == (4 : Int)) = false,
      ((!k == (4 : Int)) == false) = true,
      (k == (3 : Int)) = false,
      ((k == (3 : Int)) == false) = true,
      ((k == (3 : Int)) == false) = true,
      ((k == (3 : Int)) == false) = true,
      ((!k == (4 : Int)) == false) = true,
      ((!k == (4 : Int)) == false) = true,
      (k == (3 : Int)) = false,
      ((k == (3 : Int)) == false) = true,
      ((k == (3 : Int)) == false) = true,
      ((k == (3 : Int)) == false) = true,
      (k == (2 : Int)) = false,
      (k == (2 : Int)) = false,
      (k == (0 : Int)) = false,
      ((k == (0 : Int)) == false) = true,
      ((k == (0 : Int)) == false) = true,
      ((k == (0 : Int)) == false) = true,
      ((k == (2 : Int)) == false) = true,
      ((k == (2 : Int)) == false) = true,
      (k == (0 : Int)) = false,
      ((k == (0 : Int)) == false) = true,
      ((k == (0 : Int)) == false) = true,
      ((k == (0 : Int)) == false) = true]) by kernel_rfl) (by simp only [all_cons, all_nil]; simp [*])

theorem a24_6 (k : Int) (n : Int) (s : ByteArray) (xb : Bool) (eb : Es) (xf : Bool) (ef : Es) (xl : Bool) (el : Es) (hx : R n)
    (h0 : (k == (0 : Int)) = false)
    (h1 : (k == (2 : Int)) = false)
    (h2 : (k == (3 : Int)) = false)
    (h3 : (k == (4 : Int)) = true)
    (h4 : (opE (50 : Nat) n n != (0 : Int)) = false)
    (h5 : (opN (50 : Nat) n n == IntKind.i64.wrap (IntKind.i32.wrap (opN (50 : Nat) n n))) = true)
    (h6 : R n) :
    ∃ X, Ev c0.P c0.T (.call 24 [val k n s xb eb xf ef xl el] [] (D.tuple
  [D.agg
      [D.int IntKind.i64 (4 : Int), D.int IntKind.i64 (opN (50 : Nat) n n), D.str (ByteArray.mk #[]),
        D.slice false [] none, D.slice false [] none, D.slice false [] none],
    D.int IntKind.i64 (0 : Int)]) ([] ++ X)) :=
  outC_ok cAbsOk (show outC 0 (qA 24 k n s xb eb xf ef xl el (.path [true, true, true, false, true, true, true, true, true, false, false, false, true, true, true, false, true, true, true, true, true, false, true, false, false, false, true, false, false, false, true, true])) = some (D.tuple
  [D.agg
      [D.int IntKind.i64 (4 : Int), D.int IntKind.i64 (opN (50 : Nat) n n), D.str (ByteArray.mk #[]),
        D.slice false [] none, D.slice false [] none, D.slice false [] none],
    D.int IntKind.i64 (0 : Int)], [],
    [true = true,
      (k == (4 : Int)) = true,
      ((k == (4 : Int)) == false) = false,
      ((k == (4 : Int)) == false) = false,
      ((k == (4 : Int)) == false) = false,
      (opN (50 : Nat) n n == IntKind.i64.wrap (IntKind.i32.wrap (opN (50 : Nat) n n))) = true,
      (opE (50 : Nat) n n != (0 : Int)) = false,
      R n,
      R n,
      (!k == (4 : Int)) = false,
      (!k == (4 : Int)) = false,
      ((!k == (4 : Int)) == false) = true,
      (k == (3 : Int)) = false,
      ((k == (3 : Int)) == false) = true,
      ((k == (3 : Int)) == false) = true,
      ((k == (3 : Int)) == false) = true,
      ((!k == (4 : Int)) == false) = true,
      ((!k == (4 : Int)) == false) = true,
      (k == (3 : Int)) = false,
      ((k == (3 : Int)) == false) = true,
      ((k == (3 : Int)) == false) = true,
      ((k == (3 : Int)) == false) = true,
      (k == (2 : Int)) = false,
      (k == (2 : Int)) = false,
      (k == (0 : Int)) = false,
      ((k == (0 : Int)) == false) = true,
      ((k == (0 : Int)) == false) = true,
      ((k == (0 : Int)) == false) = true,
      ((k == (2 : Int)) == false) = true,
      ((k == (2 : Int)) == false) = true,
      (k == (0 : Int)) = false,
      ((k == (0 : Int)) == false) = true,
      ((k == (0 : Int)) == false) = true,
      ((k == (0 : Int)) == false) = true]) by kernel_rfl) (by simp only [all_cons, all_nil]; simp [*])

theorem a24_7 (k : Int) (n : Int) (s : ByteArray) (xb : Bool) (eb : Es) (xf : Bool) (ef : Es) (xl : Bool) (el : Es) (hx : R n)
    (h0 : (k == (0 : Int)) = false)
    (h1 : (k == (2 : Int)) = false)
    (h2 : (k == (3 : Int)) = false)
    (h3 : (k == (4 : Int)) = true)
    (h4 : (opE (50 : Nat) n n != (0 : Int)) = false)
    (h5 : (opN (50 : Nat) n n == IntKind.i64.wrap (IntKind.i32.wrap (opN (50 : Nat) n n))) = false)
    (h6 : R n) :
    ∃ X, Ev c0.P c0.T (.call 24 [val k n s xb eb xf ef xl el] [] (D.tuple
  [D.agg
      [D.int IntKind.i64 (4 : Int), D.int IntKind.i64 (opN (50 : Nat) n n), D.str (ByteArray.mk #[]),
        D.slice false [] none, D.slice false [] none, D.slice false [] none],
    D.int IntKind.i64 (0 : Int)]) ([] ++ X)) :=
  outC_ok cAbsOk (show outC 0 (qA 24 k n s xb eb xf ef xl el (.path [true, true, true, false, true, true, true, true, true, false, false, false, true, true, true, false, true, true, true, true, true, false, true, false, false, false, false, false, false, false, true, true])) = some (D.tuple
  [D.agg
      [D.int IntKind.i64 (4 : Int), D.int IntKind.i64 (opN (50 : Nat) n n), D.str (ByteArray.mk #[]),
        D.slice false [] none, D.slice false [] none, D.slice false [] none],
    D.int IntKind.i64 (0 : Int)], [],
    [true = true,
      (k == (4 : Int)) = true,
      ((k == (4 : Int)) == false) = false,
      ((k == (4 : Int)) == false) = false,
      ((k == (4 : Int)) == false) = false,
      (opN (50 : Nat) n n == IntKind.i64.wrap (IntKind.i32.wrap (opN (50 : Nat) n n))) = false,
      (opE (50 : Nat) n n != (0 : Int)) = false,
      R n,
      R n,
      (!k == (4 : Int)) = false,
      (!k == (4 : Int)) = false,
      ((!k == (4 : Int)) == false) = true,
      (k == (3 : Int)) = false,
      ((k == (3 : Int)) == false) = true,
      ((k == (3 : Int)) == false) = true,
      ((k == (3 : Int)) == false) = true,
      ((!k == (4 : Int)) == false) = true,
      ((!k == (4 : Int)) == false) = true,
      (k == (3 : Int)) = false,
      ((k == (3 : Int)) == false) = true,
      ((k == (3 : Int)) == false) = true,
      ((k == (3 : Int)) == false) = true,
      (k == (2 : Int)) = false,
      (k == (2 : Int)) = false,
      (k == (0 : Int)) = false,
      ((k == (0 : Int)) == false) = true,
      ((k == (0 : Int)) == false) = true,
      ((k == (0 : Int)) == false) = true,
      ((k == (2 : Int)) == false) = true,
      ((k == (2 : Int)) == false) = true,
      (k == (0 : Int)) = false,
      ((k == (0 : Int)) == false) = true,
      ((k == (0 : Int)) == false) = true,
      ((k == (0 : Int)) == false) = true]) by kernel_rfl) (by simp only [all_cons, all_nil]; simp [*])

theorem a24_8 (k : Int) (n : Int) (s : ByteArray) (xb : Bool) (eb : Es) (xf : Bool) (ef : Es) (xl : Bool) (el : Es) (hx : R n)
    (h0 : (k == (0 : Int)) = false)
    (h1 : (k == (2 : Int)) = false)
    (h2 : (k == (3 : Int)) = false)
    (h3 : (k == (4 : Int)) = false) :
    ∃ X, Ev c0.P c0.T (.call 24 [val k n s xb eb xf ef xl el] [] (D.tuple
  [D.agg
      [D.int IntKind.i64 (0 : Int), D.int IntKind.i64 (0 : Int), D.str (ByteArray.mk #[]), D.slice false [] none,
        D.slice false [] none, D.slice false [] none],
    D.int IntKind.i64 (12 : Int)]) ([] ++ X)) :=
  outC_ok cAbsOk (show outC 0 (qA 24 k n s xb eb xf ef xl el (.path [true, true, true, false, true, true, true, true, true, false, false, false, true, true, true, false, false, false, false, true, true])) = some (D.tuple
  [D.agg
      [D.int IntKind.i64 (0 : Int), D.int IntKind.i64 (0 : Int), D.str (ByteArray.mk #[]), D.slice false [] none,
        D.slice false [] none, D.slice false [] none],
    D.int IntKind.i64 (12 : Int)], [],
    [true = true,
      (!k == (4 : Int)) = true,
      ((!k == (4 : Int)) == false) = false,
      ((!k == (4 : Int)) == false) = false,
      ((!k == (4 : Int)) == false) = false,
      (k == (3 : Int)) = false,
      ((k == (3 : Int)) == false) = true,
      ((k == (3 : Int)) == false) = true,
      ((k == (3 : Int)) == false) = true,
      (k == (2 : Int)) = false,
      (k == (2 : Int)) = false,
      (k == (0 : Int)) = false,
      ((k == (0 : Int)) == false) = true,
      ((k == (0 : Int)) == false) = true,
      ((k == (0 : Int)) == false) = true,
      ((k == (2 : Int)) == false) = true,
      ((k == (2 : Int)) == false) = true,
      (k == (0 : Int)) = false,
      ((k == (0 : Int)) == false) = true,
      ((k == (0 : Int)) == false) = true,
      ((k == (0 : Int)) == false) = true]) by kernel_rfl) (by simp only [all_cons, all_nil]; simp [*])

def a24_T (k : Int) (n : Int) (s : ByteArray) (xb : Bool) (eb : Es) (xf : Bool) (ef : Es) (xl : Bool) (el : Es) : Int × Int × Int :=
  (cond (k == (0 : Int))
  ((2 : Int), (0 : Int), (0 : Int))
  (cond (k == (2 : Int))
    ((2 : Int), (0 : Int), (0 : Int))
    (cond (k == (3 : Int))
      (cond (opE (50 : Nat) n n != (0 : Int))
        ((0 : Int), (0 : Int), opE (50 : Nat) n n)
        (cond (opN (50 : Nat) n n == IntKind.i64.wrap (IntKind.i32.wrap (opN (50 : Nat) n n)))
          (cond (k == (4 : Int))
            default
            ((3 : Int), opN (50 : Nat) n n, (0 : Int)))
          (cond (k == (4 : Int))
            default
            ((4 : Int), opN (50 : Nat) n n, (0 : Int)))))
      (cond (k == (4 : Int))
        (cond (opE (50 : Nat) n n != (0 : Int))
          ((0 : Int), (0 : Int), opE (50 : Nat) n n)
          (cond (opN (50 : Nat) n n == IntKind.i64.wrap (IntKind.i32.wrap (opN (50 : Nat) n n)))
            ((4 : Int), opN (50 : Nat) n n, (0 : Int))
            ((4 : Int), opN (50 : Nat) n n, (0 : Int))))
        ((0 : Int), (0 : Int), (12 : Int))))))

theorem a24_ct (k : Int) (n : Int) (s : ByteArray) (xb : Bool) (eb : Es) (xf : Bool) (ef : Es) (xl : Bool) (el : Es) (hx : R n) : ∃ X, Ev c0.P c0.T (.call 24 [val k n s xb eb xf ef xl el] [] (res (a24_T k n s xb eb xf ef xl el).1 (a24_T k n s xb eb xf ef xl el).2.1 (a24_T k n s xb eb xf ef xl el).2.2) ([] ++ X)) := by
  cases g1 : (k == (0 : Int)) with
  | true =>
    simp only [a24_T, g1, cond_true, cond_false]; exact a24_0 k n s xb eb xf ef xl el hx g1
  | false =>
    cases g2 : (k == (2 : Int)) with
    | true =>
      simp only [a24_T, g1, g2, cond_true, cond_false]; exact a24_1 k n s xb eb xf ef xl el hx g1 g2
    | false =>
      cases g3 : (k == (3 : Int)) with
      | true =>
        cases g4 : (opE (50 : Nat) n n != (0 : Int)) with
        | true =>
          simp only [a24_T, g1, g2, g3, g4, cond_true, cond_false]; exact a24_2 k n s xb eb xf ef xl el hx g1 g2 g3 g4 (by simp_all)
        | false =>
          cases g5 : (opN (50 : Nat) n n == IntKind.i64.wrap (IntKind.i32.wrap (opN (50 : Nat) n n))) with
          | true =>
            cases g6 : (k == (4 : Int)) with
            | true =>
              exfalso; simp only [decide_eq_true_eq, decide_eq_false_iff_not, Bool.not_eq_true', Bool.not_eq_false', beq_iff_eq, bne_iff_ne, beq_eq_false_iff_ne] at *; omega
            | false =>
              simp only [a24_T, g1, g2, g3, g4, g5, g6, cond_true, cond_false]; exact a24_3 k n s xb eb xf ef xl el hx g1 g2 g3 g4 g5 g6 (by simp_all)
          | false =>
            cases g6 : (k == (4 : Int)) with
            | true =>
              exfalso; simp only [decide_eq_true_eq, decide_eq_false_iff_not, Bool.not_eq_true', Bool.not_eq_false', beq_iff_eq, bne_iff_ne, beq_eq_false_iff_ne] at *; omega
            | false =>
              simp only [a24_T, g1, g2, g3, g4, g5, g6, cond_true, cond_false]; exact a24_4 k n s xb eb xf ef xl el hx g1 g2 g3 g4 g5 g6 (by simp_all)
      | false =>
        cases g4 : (k == (4 : Int)) with
        | true =>
          cases g5 : (opE (50 : Nat) n n != (0 : Int)) with
          | true =>
            simp only [a24_T, g1, g2, g3, g4, g5, cond_true, cond_false]; exact a24_5 k n s xb eb xf ef xl el hx g1 g2 g3 g4 g5 (by simp_all)
          | false =>
            cases g6 : (opN (50 : Nat) n n == IntKind.i64.wrap (IntKind.i32.wrap (opN (50 : Nat) n n))) with
            | true =>
              simp only [a24_T, g1, g2, g3, g4, g5, g6, cond_true, cond_false]; exact a24_6 k n s xb eb xf ef xl el hx g1 g2 g3 g4 g5 g6 (by simp_all)
            | false =>
              simp only [a24_T, g1, g2, g3, g4, g5, g6, cond_true, cond_false]; exact a24_7 k n s xb eb xf ef xl el hx g1 g2 g3 g4 g5 g6 (by simp_all)
        | false =>
          simp only [a24_T, g1, g2, g3, g4, cond_true, cond_false]; exact a24_8 k n s xb eb xf ef xl el hx g1 g2 g3 g4

theorem a26_0 (k : Int) (n : Int) (s : ByteArray) (xb : Bool) (eb : Es) (xf : Bool) (ef : Es) (xl : Bool) (el : Es) (hx : R n) (h0 : R 0)
    (h0 : decide (n < (0 : Int)) = true)
    (h1 : R (0 : Int))
    (h2 : R n) :
    ∃ X, Ev c0.P c0.T (.call 26 [val k n s xb eb xf ef xl el] [] (D.tuple
  [D.agg
      [D.int IntKind.i64 (arK (47 : Nat) (3 : Int) (0 : Int) k n),
        D.int IntKind.i64 (arN (47 : Nat) (3 : Int) (0 : Int) k n), D.str (ByteArray.mk #[]), D.slice false [] none,
        D.slice false [] none, D.slice false [] none],
    D.int IntKind.i64 (arE (47 : Nat) (3 : Int) (0 : Int) k n)]) ([] ++ X)) :=
  outC_ok cAbsOk (show outC 0 (qA 26 k n s xb eb xf ef xl el (.path [true])) = some (D.tuple
  [D.agg
      [D.int IntKind.i64 (arK (47 : Nat) (3 : Int) (0 : Int) k n),
        D.int IntKind.i64 (arN (47 : Nat) (3 : Int) (0 : Int) k n), D.str (ByteArray.mk #[]), D.slice false [] none,
        D.slice false [] none, D.slice false [] none],
    D.int IntKind.i64 (arE (47 : Nat) (3 : Int) (0 : Int) k n)], [],
    [R (0 : Int),
      R n,
      decide (n < (0 : Int)) = true]) by kernel_rfl) (by simp only [all_cons, all_nil]; simp [*])

theorem a26_1 (k : Int) (n : Int) (s : ByteArray) (xb : Bool) (eb : Es) (xf : Bool) (ef : Es) (xl : Bool) (el : Es) (hx : R n) (h0 : R 0)
    (h0 : decide (n < (0 : Int)) = false)
    (h1 : R n)
    (h2 : R (0 : Int)) :
    ∃ X, Ev c0.P c0.T (.call 26 [val k n s xb eb xf ef xl el] [] (D.tuple
  [D.agg
      [D.int IntKind.i64 (arK (45 : Nat) k n (3 : Int) (0 : Int)),
        D.int IntKind.i64 (arN (45 : Nat) k n (3 : Int) (0 : Int)), D.str (ByteArray.mk #[]), D.slice false [] none,
        D.slice false [] none, D.slice false [] none],
    D.int IntKind.i64 (arE (45 : Nat) k n (3 : Int) (0 : Int))]) ([] ++ X)) :=
  outC_ok cAbsOk (show outC 0 (qA 26 k n s xb eb xf ef xl el (.path [false])) = some (D.tuple
  [D.agg
      [D.int IntKind.i64 (arK (45 : Nat) k n (3 : Int) (0 : Int)),
        D.int IntKind.i64 (arN (45 : Nat) k n (3 : Int) (0 : Int)), D.str (ByteArray.mk #[]), D.slice false [] none,
        D.slice false [] none, D.slice false [] none],
    D.int IntKind.i64 (arE (45 : Nat) k n (3 : Int) (0 : Int))], [],
    [R n,
      R (0 : Int),
      decide (n < (0 : Int)) = false]) by kernel_rfl) (by simp only [all_cons, all_nil]; simp [*])

def a26_T (k : Int) (n : Int) (s : ByteArray) (xb : Bool) (eb : Es) (xf : Bool) (ef : Es) (xl : Bool) (el : Es) : Int × Int × Int :=
  (cond (decide (n < (0 : Int)))
  (arK (47 : Nat) (3 : Int) (0 : Int) k n, arN (47 : Nat) (3 : Int) (0 : Int) k n, arE (47 : Nat) (3 : Int) (0 : Int) k n)
  (arK (45 : Nat) k n (3 : Int) (0 : Int), arN (45 : Nat) k n (3 : Int) (0 : Int), arE (45 : Nat) k n (3 : Int) (0 : Int)))

theorem a26_ct (k : Int) (n : Int) (s : ByteArray) (xb : Bool) (eb : Es) (xf : Bool) (ef : Es) (xl : Bool) (el : Es) (hx : R n) (h0 : R 0) : ∃ X, Ev c0.P c0.T (.call 26 [val k n s xb eb xf ef xl el] [] (res (a26_T k n s xb eb xf ef xl el).1 (a26_T k n s xb eb xf ef xl el).2.1 (a26_T k n s xb eb xf ef xl el).2.2) ([] ++ X)) := by
  cases g1 : (decide (n < (0 : Int))) with
  | true =>
    simp only [a26_T, g1, cond_true, cond_false]; exact a26_0 k n s xb eb xf ef xl el hx h0 g1 (by simp_all) (by simp_all)
  | false =>
    simp only [a26_T, g1, cond_true, cond_false]; exact a26_1 k n s xb eb xf ef xl el hx h0 g1 (by simp_all) (by simp_all)


theorem c24 (k n : Int) (s : ByteArray) (xb : Bool) (eb : Es) (xf : Bool) (ef : Es) (xl : Bool) (el : Es) (hx : R n) : ∃ X, Ev c0.P c0.T (.call 24 [val k n s xb eb xf ef xl el] [] (res (arK 50 k n k n) (arN 50 k n k n) (arE 50 k n k n)) ([] ++ X)) := by
  have e : a24_T k n s xb eb xf ef xl el = arith 50 k n k n := by
    unfold a24_T arith noneK numK
    by_cases a0 : k = 0
    · subst a0; simp
    by_cases a2 : k = 2
    · subst a2; simp
    cases e : (opE 50 n n != 0) with
    | true =>
      have e' : opE 50 n n ≠ 0 := by simpa using e
      simp only [e, cond_true]
      by_cases a3 : k = 3 <;> by_cases a4 : k = 4 <;> first | omega | simp [beqd, Bool.cond_decide, a0, a2, a3, a4, e']
    | false =>
      have e' : opE 50 n n = 0 := by simpa using e
      cases o : (opN 50 n n == IntKind.i64.wrap (IntKind.i32.wrap (opN 50 n n))) with
      | true =>
        have o' := of32_true o
        simp only [e, o, cond_true, cond_false]
        by_cases a3 : k = 3 <;> by_cases a4 : k = 4 <;> first | omega | simp [beqd, Bool.cond_decide, a0, a2, a3, a4, e', o']
      | false =>
        have o' := of32_false o
        simp only [e, o, cond_true, cond_false]
        by_cases a3 : k = 3 <;> by_cases a4 : k = 4 <;> first | omega | simp [beqd, Bool.cond_decide, a0, a2, a3, a4, e', o']
  have h := a24_ct k n s xb eb xf ef xl el hx
  rw [e] at h
  exact h

theorem c26 (k n : Int) (s : ByteArray) (xb : Bool) (eb : Es) (xf : Bool) (ef : Es) (xl : Bool) (el : Es) (hx : R n) : ∃ X, Ev c0.P c0.T (.call 26 [val k n s xb eb xf ef xl el] [] (res (arK 50 k n k n) (arN 50 k n k n) (arE 50 k n k n)) ([] ++ X)) := by
  have n3 : ¬ noneK 3 := by decide
  have m3 : numK 3 := .inl rfl
  have e : a26_T k n s xb eb xf ef xl el = arith 50 k n k n := by
    unfold a26_T arK arN arE
    by_cases c : n < 0
    · have hd : decide (n < 0) = true := by simpa using c
      have e1 : opE 47 0 n = opE 50 n n := by simp only [opE]; rw [show (0 : Int) - n = -n by omega]
      have e2 : opN 47 0 n = opN 50 n n := by simp only [opN, opV, e1]; rw [if_pos c, show (0 : Int) - n = -n by omega]
      have : arith 47 3 0 k n = arith 50 k n k n := by
        unfold arith
        rw [e1, e2]
        by_cases a : noneK k <;> by_cases b : numK k <;> simp [n3, m3, a, b]
      rw [hd, cond_true, this]
    · have hd : decide (n < 0) = false := by simpa using c
      have r1 : R (-n) := by unfold R at *; omega
      have e1 : opE 45 n 0 = opE 50 n n := by simp only [opE]; rw [Int.add_zero, if_pos hx, if_pos r1]
      have e2 : opN 45 n 0 = opN 50 n n := by simp only [opN, opV, e1]; rw [if_neg c, Int.add_zero]
      have : arith 45 k n 3 0 = arith 50 k n k n := by
        unfold arith
        rw [e1, e2]
        by_cases a : noneK k <;> by_cases b : numK k <;> simp [n3, m3, a, b]
      rw [hd, cond_false, this]
  have h := a26_ct k n s xb eb xf ef xl el hx (by decide)
  rw [e] at h
  exact h

end Go.Proofs.Ytbkacmcijimbfaa.numk
