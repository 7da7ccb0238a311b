/- What function 22 of the program (an operation on two values) hands back. -/
import Derived.Test.YtbkacmcijimbfaaNumKit
namespace Go.Proofs.Ytbkacmcijimbfaa.numk
open Go Ytbkacmcijimbfaa.GD
set_option linter.unusedVariables false
set_option linter.unusedSimpArgs false

theorem a22_0 (ka : Int) (na : Int) (sa : ByteArray) (xba : Bool) (eba : Es) (xfa : Bool) (efa : Es) (xla : Bool) (ela : Es) (kb : Int) (nb : Int) (sb : ByteArray) (xbb : Bool) (ebb : Es) (xfb : Bool) (efb : Es) (xlb : Bool) (elb : Es) (hx : R na) (hy : R nb)
    (h0 : (ka == (0 : Int)) = true) :
    ∃ X, Ev c0.P c0.T (.call 22 (two ka na sa xba eba xfa efa xla ela kb nb sb xbb ebb xfb efb xlb elb) [] (D.tuple
  [D.agg
      [D.int IntKind.i64 (2 : Int), D.int IntKind.i64 (0 : Int), D.str { data := #[] }, D.slice false [] none,
        D.slice false [] none, D.slice false [] none],
    D.int IntKind.i64 (0 : Int)]) ([] ++ X)) :=
  outC_ok cOk (show outC 0 (q 22 ka na sa xba eba xfa efa xla ela kb nb sb xbb ebb xfb efb xlb elb (.path [false, false, false, true, false, false, true, true])) = some (D.tuple
  [D.agg
      [D.int IntKind.i64 (2 : Int), D.int IntKind.i64 (0 : Int), D.str { data := #[] }, D.slice false [] none,
        D.slice false [] none, D.slice false [] none],
    D.int IntKind.i64 (0 : Int)], [],
    [true = true,
      true = true,
      (true == false) = false,
      (true == false) = false,
      (ka == (0 : Int)) = true,
      ((ka == (0 : Int)) == false) = false,
      ((ka == (0 : Int)) == false) = false,
      ((ka == (0 : Int)) == false) = false]) by kernel_rfl) (by simp only [all_cons, all_nil]; simp [*])

theorem a22_1 (ka : Int) (na : Int) (sa : ByteArray) (xba : Bool) (eba : Es) (xfa : Bool) (efa : Es) (xla : Bool) (ela : Es) (kb : Int) (nb : Int) (sb : ByteArray) (xbb : Bool) (ebb : Es) (xfb : Bool) (efb : Es) (xlb : Bool) (elb : Es) (hx : R na) (hy : R nb)
    (h0 : (ka == (0 : Int)) = false)
    (h1 : (ka == (2 : Int)) = true) :
    ∃ X, Ev c0.P c0.T (.call 22 (two ka na sa xba eba xfa efa xla ela kb nb sb xbb ebb xfb efb xlb elb) [] (D.tuple
  [D.agg
      [D.int IntKind.i64 (2 : Int), D.int IntKind.i64 (0 : Int), D.str { data := #[] }, D.slice false [] none,
        D.slice false [] none, D.slice false [] none],
    D.int IntKind.i64 (0 : Int)]) ([] ++ X)) :=
  outC_ok cOk (show outC 0 (q 22 ka na sa xba eba xfa efa xla ela kb nb sb xbb ebb xfb efb xlb elb (.path [true, true, true, false, false, false, true, true])) = some (D.tuple
  [D.agg
      [D.int IntKind.i64 (2 : Int), D.int IntKind.i64 (0 : Int), D.str { data := #[] }, D.slice false [] none,
        D.slice false [] none, D.slice false [] none],
    D.int IntKind.i64 (0 : Int)], [],
    [true = true,
      (ka == (2 : Int)) = true,
      ((ka == (2 : Int)) == false) = false,
      ((ka == (2 : Int)) == false) = false,
      (ka == (0 : Int)) = false,
      ((ka == (0 : Int)) == false) = true,
      ((ka == (0 : Int)) == false) = true,
      ((ka == (0 : Int)) == false) = true]) by kernel_rfl) (by simp only [all_cons, all_nil]; simp [*])

theorem a22_2 (ka : Int) (na : Int) (sa : ByteArray) (xba : Bool) (eba : Es) (xfa : Bool) (efa : Es) (xla : Bool) (ela : Es) (kb : Int) (nb : Int) (sb : ByteArray) (xbb : Bool) (ebb : Es) (xfb : Bool) (efb : Es) (xlb : Bool) (elb : Es) (hx : R na) (hy : R nb)
    (h0 : (ka == (0 : Int)) = false)
    (h1 : (ka == (2 : Int)) = false)
    (h2 : (kb == (0 : Int)) = true) :
    ∃ X, Ev c0.P c0.T (.call 22 (two ka na sa xba eba xfa efa xla ela kb nb sb xbb ebb xfb efb xlb elb) [] (D.tuple
  [D.agg
      [D.int IntKind.i64 (2 : Int), D.int IntKind.i64 (0 : Int), D.str { data := #[] }, D.slice false [] none,
        D.slice false [] none, D.slice false [] none],
    D.int IntKind.i64 (0 : Int)]) ([] ++ X)) :=
  outC_ok cOk (show outC 0 (q 22 ka na sa xba eba xfa efa xla ela kb nb sb xbb ebb xfb efb xlb elb (.path [true, true, true, false, true, true, false, false, false, true, false, true])) = some (D.tuple
  [D.agg
      [D.int IntKind.i64 (2 : Int), D.int IntKind.i64 (0 : Int), D.str { data := #[] }, D.slice false [] none,
        D.slice false [] none, D.slice false [] none],
    D.int IntKind.i64 (0 : Int)], [],
    [true = true,
      (ka == (2 : Int)) = false,
      (kb == (0 : Int)) = true,
      ((kb == (0 : Int)) == false) = false,
      ((kb == (0 : Int)) == false) = false,
      ((kb == (0 : Int)) == false) = false,
      ((ka == (2 : Int)) == false) = true,
      ((ka == (2 : Int)) == false) = true,
      (ka == (0 : Int)) = false,
      ((ka == (0 : Int)) == false) = true,
      ((ka == (0 : Int)) == false) = true,
      ((ka == (0 : Int)) == false) = true]) by kernel_rfl) (by simp only [all_cons, all_nil]; simp [*])

theorem a22_3 (ka : Int) (na : Int) (sa : ByteArray) (xba : Bool) (eba : Es) (xfa : Bool) (efa : Es) (xla : Bool) (ela : Es) (kb : Int) (nb : Int) (sb : ByteArray) (xbb : Bool) (ebb : Es) (xfb : Bool) (efb : Es) (xlb : Bool) (elb : Es) (hx : R na) (hy : R nb)
    (h0 : (ka == (0 : Int)) = false)
    (h1 : (ka == (2 : Int)) = false)
    (h2 : (kb == (0 : Int)) = false)
    (h3 : (kb == (2 : Int)) = true) :
    ∃ X, Ev c0.P c0.T (.call 22 (two ka na sa xba eba xfa efa xla ela kb nb sb xbb ebb xfb efb xlb elb) [] (D.tuple
  [D.agg
      [D.int IntKind.i64 (2 : Int), D.int IntKind.i64 (0 : Int), D.str { data := #[] }, D.slice false [] none,
        D.slice false [] none, D.slice false [] none],
    D.int IntKind.i64 (0 : Int)]) ([] ++ X)) :=
  outC_ok cOk (show outC 0 (q 22 ka na sa xba eba xfa efa xla ela kb nb sb xbb ebb xfb efb xlb elb (.path [true, true, true, false, true, true, true, true, true, false, false, true])) = some (D.tuple
  [D.agg
      [D.int IntKind.i64 (2 : Int), D.int IntKind.i64 (0 : Int), D.str { data := #[] }, D.slice false [] none,
        D.slice false [] none, D.slice false [] none],
    D.int IntKind.i64 (0 : Int)], [],
    [(kb == (2 : Int)) = true,
      (ka == (2 : Int)) = false,
      (kb == (0 : Int)) = false,
      ((kb == (0 : Int)) == false) = true,
      ((kb == (0 : Int)) == false) = true,
      ((kb == (0 : Int)) == false) = true,
      ((ka == (2 : Int)) == false) = true,
      ((ka == (2 : Int)) == false) = true,
      (ka == (0 : Int)) = false,
      ((ka == (0 : Int)) == false) = true,
      ((ka == (0 : Int)) == false) = true,
      ((ka == (0 : Int)) == false) = true]) by kernel_rfl) (by simp only [all_cons, all_nil]; simp [*])

theorem a22_4 (ka : Int) (na : Int) (sa : ByteArray) (xba : Bool) (eba : Es) (xfa : Bool) (efa : Es) (xla : Bool) (ela : Es) (kb : Int) (nb : Int) (sb : ByteArray) (xbb : Bool) (ebb : Es) (xfb : Bool) (efb : Es) (xlb : Bool) (elb : Es) (hx : R na) (hy : R nb)
    (h0 : (ka == (0 : Int)) = false)
    (h1 : (ka == (2 : Int)) = false)
    (h2 : (kb == (0 : Int)) = false)
    (h3 : (kb == (2 : Int)) = false)
    (h4 : (ka == (3 : Int)) = true)
    (h5 : (kb == (3 : Int)) = true)
    (h6 : (opE 48 na nb != (0 : Int)) = true)
    (h7 : R na)
    (h8 : R nb) :
    ∃ X, Ev c0.P c0.T (.call 22 (two ka na sa xba eba xfa efa xla ela kb nb sb xbb ebb xfb efb xlb elb) [] (D.tuple
  [D.agg
      [D.int IntKind.i64 (0 : Int), D.int IntKind.i64 (0 : Int), D.str { data := #[] }, D.slice false [] none,
        D.slice false [] none, D.slice false [] none],
    D.int IntKind.i64 (opE 48 na nb)]) ([] ++ X)) :=
  outC_ok cOk (show outC 0 (q 22 ka na sa xba eba xfa efa xla ela kb nb sb xbb ebb xfb efb xlb elb (.path [true, true, true, false, true, true, true, true, true, false, false, false, false, false, false, true, true, true, false, false, false, true, true, false, false, true])) = some (D.tuple
  [D.agg
      [D.int IntKind.i64 (0 : Int), D.int IntKind.i64 (0 : Int), D.str { data := #[] }, D.slice false [] none,
        D.slice false [] none, D.slice false [] none],
    D.int IntKind.i64 (opE 48 na nb)], [],
    [(opE 48 na nb != (0 : Int)) = true,
      R na,
      R nb,
      (!true) = false,
      (!true) = false,
      ((!true) == false) = true,
      (kb == (3 : Int)) = true,
      ((kb == (3 : Int)) == false) = false,
      ((kb == (3 : Int)) == false) = false,
      ((kb == (3 : Int)) == false) = false,
      ((!true) == false) = true,
      ((!true) == false) = true,
      (ka == (3 : Int)) = true,
      ((ka == (3 : Int)) == false) = false,
      ((ka == (3 : Int)) == false) = false,
      ((ka == (3 : Int)) == false) = false,
      (kb == (2 : Int)) = false,
      (ka == (2 : Int)) = false,
      (kb == (0 : Int)) = false,
      ((kb == (0 : Int)) == false) = true,
      ((kb == (0 : Int)) == false) = true,
      ((kb == (0 : Int)) == false) = true,
      ((ka == (2 : Int)) == false) = true,
      ((ka == (2 : Int)) == false) = true,
      (ka == (0 : Int)) = false,
      ((ka == (0 : Int)) == false) = true,
      ((ka == (0 : Int)) == false) = true,
      ((ka == (0 : Int)) == false) = true]) by kernel_rfl) (by simp only [all_cons, all_nil]; simp [*])

theorem a22_5 (ka : Int) (na : Int) (sa : ByteArray) (xba : Bool) (eba : Es) (xfa : Bool) (efa : Es) (xla : Bool) (ela : Es) (kb : Int) (nb : Int) (sb : ByteArray) (xbb : Bool) (ebb : Es) (xfb : Bool) (efb : Es) (xlb : Bool) (elb : Es) (hx : R na) (hy : R nb)
    (h0 : (ka == (0 : Int)) = false)
    (h1 : (ka == (2 : Int)) = false)
    (h2 : (kb == (0 : Int)) = false)
    (h3 : (kb == (2 : Int)) = false)
    (h4 : (ka == (3 : Int)) = true)
    (h5 : (kb == (3 : Int)) = true)
    (h6 : (opE 48 na nb != (0 : Int)) = false)
    (h7 : (opN 48 na nb == IntKind.i64.wrap (IntKind.i32.wrap (opN 48 na nb))) = true)
    (h8 : (ka == (4 : Int)) = false)
    (h9 : (kb == (4 : Int)) = false)
    (h10 : R na)
    (h11 : R nb) :
    ∃ X, Ev c0.P c0.T (.call 22 (two ka na sa xba eba xfa efa xla ela kb nb sb xbb ebb xfb efb xlb elb) [] (D.tuple
  [D.agg
      [D.int IntKind.i64 (3 : Int), D.int IntKind.i64 (opN 48 na nb), D.str { data := #[] },
        D.slice false [] none, D.slice false [] none, D.slice false [] none],
    D.int IntKind.i64 (0 : Int)]) ([] ++ X)) :=
  outC_ok cOk (show outC 0 (q 22 ka na sa xba eba xfa efa xla ela kb nb sb xbb ebb xfb efb xlb elb (.path [true, true, true, false, true, true, true, true, true, false, false, false, false, false, false, true, true, true, false, false, false, true, true, false, false, false, true, true, true, true, false, false])) = some (D.tuple
  [D.agg
      [D.int IntKind.i64 (3 : Int), D.int IntKind.i64 (opN 48 na nb), D.str { data := #[] },
        D.slice false [] none, D.slice false [] none, D.slice false [] none],
    D.int IntKind.i64 (0 : Int)], [],
    [(kb == (4 : Int)) = false,
      (ka == (4 : Int)) = false,
      ((ka == (4 : Int)) == false) = true,
      ((ka == (4 : Int)) == false) = true,
      ((ka == (4 : Int)) == false) = true,
      (opN 48 na nb == IntKind.i64.wrap (IntKind.i32.wrap (opN 48 na nb))) = true,
      (opE 48 na nb != (0 : Int)) = false,
      R na,
      R nb,
      (!true) = false,
      (!true) = false,
      ((!true) == false) = true,
      (kb == (3 : Int)) = true,
      ((kb == (3 : Int)) == false) = false,
      ((kb == (3 : Int)) == false) = false,
      ((kb == (3 : Int)) == false) = false,
      ((!true) == false) = true,
      ((!true) == false) = true,
      (ka == (3 : Int)) = true,
      ((ka == (3 : Int)) == false) = false,
      ((ka == (3 : Int)) == false) = false,
      ((ka == (3 : Int)) == false) = false,
      (kb == (2 : Int)) = false,
      (ka == (2 : Int)) = false,
      (kb == (0 : Int)) = false,
      ((kb == (0 : Int)) == false) = true,
      ((kb == (0 : Int)) == false) = true,
      ((kb == (0 : Int)) == false) = true,
      ((ka == (2 : Int)) == false) = true,
      ((ka == (2 : Int)) == false) = true,
      (ka == (0 : Int)) = false,
      ((ka == (0 : Int)) == false) = true,
      ((ka == (0 : Int)) == false) = true,
      ((ka == (0 : Int)) == false) = true]) by kernel_rfl) (by simp only [all_cons, all_nil]; simp [*])

theorem a22_6 (ka : Int) (na : Int) (sa : ByteArray) (xba : Bool) (eba : Es) (xfa : Bool) (efa : Es) (xla : Bool) (ela : Es) (kb : Int) (nb : Int) (sb : ByteArray) (xbb : Bool) (ebb : Es) (xfb : Bool) (efb : Es) (xlb : Bool) (elb : Es) (hx : R na) (hy : R nb)
    (h0 : (ka == (0 : Int)) = false)
    (h1 : (ka == (2 : Int)) = false)
    (h2 : (kb == (0 : Int)) = false)
    (h3 : (kb == (2 : Int)) = false)
    (h4 : (ka == (3 : Int)) = true)
    (h5 : (kb == (3 : Int)) = true)
    (h6 : (opE 48 na nb != (0 : Int)) = false)
    (h7 : (opN 48 na nb == IntKind.i64.wrap (IntKind.i32.wrap (opN 48 na nb))) = false)
    (h8 : (ka == (4 : Int)) = false)
    (h9 : (kb == (4 : Int)) = false)
    (h10 : R na)
    (h11 : R nb) :
    ∃ X, Ev c0.P c0.T (.call 22 (two ka na sa xba eba xfa efa xla ela kb nb sb xbb ebb xfb efb xlb elb) [] (D.tuple
  [D.agg
      [D.int IntKind.i64 (4 : Int), D.int IntKind.i64 (opN 48 na nb), D.str { data := #[] },
        D.slice false [] none, D.slice false [] none, D.slice false [] none],
    D.int IntKind.i64 (0 : Int)]) ([] ++ X)) :=
  outC_ok cOk (show outC 0 (q 22 ka na sa xba eba xfa efa xla ela kb nb sb xbb ebb xfb efb xlb elb (.path [true, true, true, false, true, true, true, true, true, false, false, false, false, false, false, true, true, true, false, false, false, true, true, false, false, false, false, true, true, true, false, false])) = some (D.tuple
  [D.agg
      [D.int IntKind.i64 (4 : Int), D.int IntKind.i64 (opN 48 na nb), D.str { data := #[] },
        D.slice false [] none, D.slice false [] none, D.slice false [] none],
    D.int IntKind.i64 (0 : Int)], [],
    [(kb == (4 : Int)) = false,
      (ka == (4 : Int)) = false,
      ((ka == (4 : Int)) == false) = true,
      ((ka == (4 : Int)) == false) = true,
      ((ka == (4 : Int)) == false) = true,
      (opN 48 na nb == IntKind.i64.wrap (IntKind.i32.wrap (opN 48 na nb))) = false,
      (opE 48 na nb != (0 : Int)) = false,
      R na,
      R nb,
      (!true) = false,
      (!true) = false,
      ((!true) == false) = true,
      (kb == (3 : Int)) = true,
      ((kb == (3 : Int)) == false) = false,
      ((kb == (3 : Int)) == false) = false,
      ((kb == (3 : Int)) == false) = false,
      ((!true) == false) = true,
      ((!true) == false) = true,
      (ka == (3 : Int)) = true,
      ((ka == (3 : Int)) == false) = false,
      ((ka == (3 : Int)) == false) = false,
      ((ka == (3 : Int)) == false) = false,
      (kb == (2 : Int)) = false,
      (ka == (2 : Int)) = false,
      (kb == (0 : Int)) = false,
      ((kb == (0 : Int)) == false) = true,
      ((kb == (0 : Int)) == false) = true,
      ((kb == (0 : Int)) == false) = true,
      ((ka == (2 : Int)) == false) = true,
      ((ka == (2 : Int)) == false) = true,
      (ka == (0 : Int)) = false,
      ((ka == (0 : Int)) == false) = true,
      ((ka == (0 : Int)) == false) = true,
      ((ka == (0 : Int)) == false) = true]) by kernel_rfl) (by simp only [all_cons, all_nil]; simp [*])

theorem a22_7 (ka : Int) (na : Int) (sa : ByteArray) (xba : Bool) (eba : Es) (xfa : Bool) (efa : Es) (xla : Bool) (ela : Es) (kb : Int) (nb : Int) (sb : ByteArray) (xbb : Bool) (ebb : Es) (xfb : Bool) (efb : Es) (xlb : Bool) (elb : Es) (hx : R na) (hy : R nb)
    (h0 : (ka == (0 : Int)) = false)
    (h1 : (ka == (2 : Int)) = false)
    (h2 : (kb == (0 : Int)) = false)
    (h3 : (kb == (2 : Int)) = false)
    (h4 : (ka == (3 : Int)) = true)
    (h5 : (kb == (3 : Int)) = false)
    (h6 : (kb == (4 : Int)) = true)
    (h7 : (opE 48 na nb != (0 : Int)) = true)
    (h8 : R na)
    (h9 : R nb) :
    ∃ X, Ev c0.P c0.T (.call 22 (two ka na sa xba eba xfa efa xla ela kb nb sb xbb ebb xfb efb xlb elb) [] (D.tuple
  [D.agg
      [D.int IntKind.i64 (0 : Int), D.int IntKind.i64 (0 : Int), D.str { data := #[] }, D.slice false [] none,
        D.slice false [] none, D.slice false [] none],
    D.int IntKind.i64 (opE 48 na nb)]) ([] ++ X)) :=
  outC_ok cOk (show outC 0 (q 22 ka na sa xba eba xfa efa xla ela kb nb sb xbb ebb xfb efb xlb elb (.path [true, true, true, false, true, true, true, true, true, false, false, false, false, false, false, true, true, true, true, true, true, false, true, false, false, true])) = some (D.tuple
  [D.agg
      [D.int IntKind.i64 (0 : Int), D.int IntKind.i64 (0 : Int), D.str { data := #[] }, D.slice false [] none,
        D.slice false [] none, D.slice false [] none],
    D.int IntKind.i64 (opE 48 na nb)], [],
    [(opE 48 na nb != (0 : Int)) = true,
      R na,
      R nb,
      (!kb == (4 : Int)) = false,
      (!true) = false,
      ((!true) == false) = true,
      (kb == (3 : Int)) = false,
      ((kb == (3 : Int)) == false) = true,
      ((kb == (3 : Int)) == false) = true,
      ((kb == (3 : Int)) == false) = true,
      ((!true) == false) = true,
      ((!true) == false) = true,
      (ka == (3 : Int)) = true,
      ((ka == (3 : Int)) == false) = false,
      ((ka == (3 : Int)) == false) = false,
      ((ka == (3 : Int)) == false) = false,
      (kb == (2 : Int)) = false,
      (ka == (2 : Int)) = false,
      (kb == (0 : Int)) = false,
      ((kb == (0 : Int)) == false) = true,
      ((kb == (0 : Int)) == false) = true,
      ((kb == (0 : Int)) == false) = true,
      ((ka == (2 : Int)) == false) = true,
      ((ka == (2 : Int)) == false) = true,
      (ka == (0 : Int)) = false,
      ((ka == (0 : Int)) == false) = true,
      ((ka == (0 : Int)) == false) = true,
      ((ka == (0 : Int)) == false) = true]) by kernel_rfl) (by simp only [all_cons, all_nil]; simp [*])

theorem a22_8 (ka : Int) (na : Int) (sa : ByteArray) (xba : Bool) (eba : Es) (xfa : Bool) (efa : Es) (xla : Bool) (ela : Es) (kb : Int) (nb : Int) (sb : ByteArray) (xbb : Bool) (ebb : Es) (xfb : Bool) (efb : Es) (xlb : Bool) (elb : Es) (hx : R na) (hy : R nb)
    (h0 : (ka == (0 : Int)) = false)
    (h1 : (ka == (2 : Int)) = false)
    (h2 : (kb == (0 : Int)) = false)
    (h3 : (kb == (2 : Int)) = false)
    (h4 : (ka == (3 : Int)) = true)
    (h5 : (kb == (3 : Int)) = false)
    (h6 : (kb == (4 : Int)) = true)
    (h7 : (opE 48 na nb != (0 : Int)) = false)
    (h8 : (opN 48 na nb == IntKind.i64.wrap (IntKind.i32.wrap (opN 48 na nb))) = true)
    (h9 : (ka == (4 : Int)) = false)
    (h10 : R na)
    (h11 : R nb) :
    ∃ X, Ev c0.P c0.T (.call 22 (two ka na sa xba eba xfa efa xla ela kb nb sb xbb ebb xfb efb xlb elb) [] (D.tuple
  [D.agg
      [D.int IntKind.i64 (4 : Int), D.int IntKind.i64 (opN 48 na nb), D.str { data := #[] },
        D.slice false [] none, D.slice false [] none, D.slice false [] none],
    D.int IntKind.i64 (0 : Int)]) ([] ++ X)) :=
  outC_ok cOk (show outC 0 (q 22 ka na sa xba eba xfa efa xla ela kb nb sb xbb ebb xfb efb xlb elb (.path [true, true, true, false, true, true, true, true, true, false, false, false, false, false, false, true, true, true, true, true, true, false, true, false, false, false, true, true, true, true, false, true])) = some (D.tuple
  [D.agg
      [D.int IntKind.i64 (4 : Int), D.int IntKind.i64 (opN 48 na nb), D.str { data := #[] },
        D.slice false [] none, D.slice false [] none, D.slice false [] none],
    D.int IntKind.i64 (0 : Int)], [],
    [(kb == (4 : Int)) = true,
      (ka == (4 : Int)) = false,
      ((ka == (4 : Int)) == false) = true,
      ((ka == (4 : Int)) == false) = true,
      ((ka == (4 : Int)) == false) = true,
      (opN 48 na nb == IntKind.i64.wrap (IntKind.i32.wrap (opN 48 na nb))) = true,
      (opE 48 na nb != (0 : Int)) = false,
      R na,
      R nb,
      (!kb == (4 : Int)) = false,
      (!true) = false,
      ((!true) == false) = true,
      (kb == (3 : Int)) = false,
      ((kb == (3 : Int)) == false) = true,
      ((kb == (3 : Int)) == false) = true,
      ((kb == (3 : Int)) == false) = true,
      ((!true) == false) = true,
      ((!true) == false) = true,
      (ka == (3 : Int)) = true,
      ((ka == (3 : Int)) == false) = false,
      ((ka == (3 : Int)) == false) = false,
      ((ka == (3 : Int)) == false) = false,
      (kb == (2 : Int)) = false,
      (ka == (2 : Int)) = false,
      (kb == (0 : Int)) = false,
      ((kb == (0 : Int)) == false) = true,
      ((kb == (0 : Int)) == false) = true,
      ((kb == (0 : Int)) == false) = true,
      ((ka == (2 : Int)) == false) = true,
      ((ka == (2 : Int)) == false) = true,
      (ka == (0 : Int)) = false,
      ((ka == (0 : Int)) == false) = true,
      ((ka == (0 : Int)) == false) = true,
      ((ka == (0 : Int)) == false) = true]) by kernel_rfl) (by simp only [all_cons, all_nil]; simp [*])

theorem a22_9 (ka : Int) (na : Int) (sa : ByteArray) (xba : Bool) (eba : Es) (xfa : Bool) (efa : Es) (xla : Bool) (ela : Es) (kb : Int) (nb : Int) (sb : ByteArray) (xbb : Bool) (ebb : Es) (xfb : Bool) (efb : Es) (xlb : Bool) (elb : Es) (hx : R na) (hy : R nb)
    (h0 : (ka == (0 : Int)) = false)
    (h1 : (ka == (2 : Int)) = false)
    (h2 : (kb == (0 : Int)) = false)
    (h3 : (kb == (2 : Int)) = false)
    (h4 : (ka == (3 : Int)) = true)
    (h5 : (kb == (3 : Int)) = false)
    (h6 : (kb == (4 : Int)) = true)
    (h7 : (opE 48 na nb != (0 : Int)) = false)
    (h8 : (opN 48 na nb == IntKind.i64.wrap (IntKind.i32.wrap (opN 48 na nb))) = false)
    (h9 : (ka == (4 : Int)) = false)
    (h10 : R na)
    (h11 : R nb) :
    ∃ X, Ev c0.P c0.T (.call 22 (two ka na sa xba eba xfa efa xla ela kb nb sb xbb ebb xfb efb xlb elb) [] (D.tuple
  [D.agg
      [D.int IntKind.i64 (4 : Int), D.int IntKind.i64 (opN 48 na nb), D.str { data := #[] },
        D.slice false [] none, D.slice false [] none, D.slice false [] none],
    D.int IntKind.i64 (0 : Int)]) ([] ++ X)) :=
  outC_ok cOk (show outC 0 (q 22 ka na sa xba eba xfa efa xla ela kb nb sb xbb ebb xfb efb xlb elb (.path [true, true, true, false, true, true, true, true, true, false, false, false, false, false, false, true, true, true, true, true, true, false, true, false, false, false, false, true, true, true, false, true])) = some (D.tuple
  [D.agg
      [D.int IntKind.i64 (4 : Int), D.int IntKind.i64 (opN 48 na nb), D.str { data := #[] },
        D.slice false [] none, D.slice false [] none, D.slice false [] none],
    D.int IntKind.i64 (0 : Int)], [],
    [(kb == (4 : Int)) = true,
      (ka == (4 : Int)) = false,
      ((ka == (4 : Int)) == false) = true,
      ((ka == (4 : Int)) == false) = true,
      ((ka == (4 : Int)) == false) = true,
      (opN 48 na nb == IntKind.i64.wrap (IntKind.i32.wrap (opN 48 na nb))) = false,
      (opE 48 na nb != (0 : Int)) = false,
      R na,
      R nb,
      (!kb == (4 : Int)) = false,
      (!true) = false,
      ((!true) == false) = true,
      (kb == (3 : Int)) = false,
      ((kb == (3 : Int)) == false) = true,
      ((kb == (3 : Int)) == false) = true,
      ((kb == (3 : Int)) == false) = true,
      ((!true) == false) = true,
      ((!true) == false) = true,
      (ka == (3 : Int)) = true,
      ((ka == (3 : Int)) == false) = false,
      ((ka == (3 : Int)) == false) = false,
      ((ka == (3 : Int)) == false) = false,
      (kb == (2 : Int)) = false,
      (ka == (2 : Int)) = false,
      (kb == (0 : Int)) = false,
      ((kb == (0 : Int)) == false) = true,
      ((kb == (0 : Int)) == false) = true,
      ((kb == (0 : Int)) == false) = true,
      ((ka == (2 : Int)) == false) = true,
      ((ka == (2 : Int)) == false) = true,
      (ka == (0 : Int)) = false,
      ((ka == (0 : Int)) == false) = true,
      ((ka == (0 : Int)) == false) = true,
      ((ka == (0 : Int)) == false) = true]) by kernel_rfl) (by simp only [all_cons, all_nil]; simp [*])

theorem a22_10 (ka : Int) (na : Int) (sa : ByteArray) (xba : Bool) (eba : Es) (xfa : Bool) (efa : Es) (xla : Bool) (ela : Es) (kb : Int) (nb : Int) (sb : ByteArray) (xbb : Bool) (ebb : Es) (xfb : Bool) (efb : Es) (xlb : Bool) (elb : Es) (hx : R na) (hy : R nb)
    (h0 : (ka == (0 : Int)) = false)
    (h1 : (ka == (2 : Int)) = false)
    (h2 : (kb == (0 : Int)) = false)
    (h3 : (kb == (2 : Int)) = false)
    (h4 : (ka == (3 : Int)) = true)
    (h5 : (kb == (3 : Int)) = false)
    (h6 : (kb == (4 : Int)) = false) :
    ∃ X, Ev c0.P c0.T (.call 22 (two ka na sa xba eba xfa efa xla ela kb nb sb xbb ebb xfb efb xlb elb) [] (D.tuple
  [D.agg
      [D.int IntKind.i64 (0 : Int), D.int IntKind.i64 (0 : Int), D.str { data := #[] }, D.slice false [] none,
        D.slice false [] none, D.slice false [] none],
    D.int IntKind.i64 (12 : Int)]) ([] ++ X)) :=
  outC_ok cOk (show outC 0 (q 22 ka na sa xba eba xfa efa xla ela kb nb sb xbb ebb xfb efb xlb elb (.path [true, true, true, false, true, true, true, true, true, false, false, false, false, false, false, true, true, true, true, true, true, false, true, false, true])) = some (D.tuple
  [D.agg
      [D.int IntKind.i64 (0 : Int), D.int IntKind.i64 (0 : Int), D.str { data := #[] }, D.slice false [] none,
        D.slice false [] none, D.slice false [] none],
    D.int IntKind.i64 (12 : Int)], [],
    [(!kb == (4 : Int)) = true,
      (!true) = false,
      ((!true) == false) = true,
      (kb == (3 : Int)) = false,
      ((kb == (3 : Int)) == false) = true,
      ((kb == (3 : Int)) == false) = true,
      ((kb == (3 : Int)) == false) = true,
      ((!true) == false) = true,
      ((!true) == false) = true,
      (ka == (3 : Int)) = true,
      ((ka == (3 : Int)) == false) = false,
      ((ka == (3 : Int)) == false) = false,
      ((ka == (3 : Int)) == false) = false,
      (kb == (2 : Int)) = false,
      (ka == (2 : Int)) = false,
      (kb == (0 : Int)) = false,
      ((kb == (0 : Int)) == false) = true,
      ((kb == (0 : Int)) == false) = true,
      ((kb == (0 : Int)) == false) = true,
      ((ka == (2 : Int)) == false) = true,
      ((ka == (2 : Int)) == false) = true,
      (ka == (0 : Int)) = false,
      ((ka == (0 : Int)) == false) = true,
      ((ka == (0 : Int)) == false) = true,
      ((ka == (0 : Int)) == false) = true]) by kernel_rfl) (by simp only [all_cons, all_nil]; simp [*])

theorem a22_11 (ka : Int) (na : Int) (sa : ByteArray) (xba : Bool) (eba : Es) (xfa : Bool) (efa : Es) (xla : Bool) (ela : Es) (kb : Int) (nb : Int) (sb : ByteArray) (xbb : Bool) (ebb : Es) (xfb : Bool) (efb : Es) (xlb : Bool) (elb : Es) (hx : R na) (hy : R nb)
    (h0 : (ka == (0 : Int)) = false)
    (h1 : (ka == (2 : Int)) = false)
    (h2 : (kb == (0 : Int)) = false)
    (h3 : (kb == (2 : Int)) = false)
    (h4 : (ka == (3 : Int)) = false)
    (h5 : (ka == (4 : Int)) = true)
    (h6 : (kb == (3 : Int)) = true)
    (h7 : (opE 48 na nb != (0 : Int)) = true)
    (h8 : R na)
    (h9 : R nb) :
    ∃ X, Ev c0.P c0.T (.call 22 (two ka na sa xba eba xfa efa xla ela kb nb sb xbb ebb xfb efb xlb elb) [] (D.tuple
  [D.agg
      [D.int IntKind.i64 (0 : Int), D.int IntKind.i64 (0 : Int), D.str { data := #[] }, D.slice false [] none,
        D.slice false [] none, D.slice false [] none],
    D.int IntKind.i64 (opE 48 na nb)]) ([] ++ X)) :=
  outC_ok cOk (show outC 0 (q 22 ka na sa xba eba xfa efa xla ela kb nb sb xbb ebb xfb efb xlb elb (.path [true, true, true, false, true, true, true, true, true, false, false, false, true, true, true, false, true, true, false, false, false, true, true, false, false, true])) = some (D.tuple
  [D.agg
      [D.int IntKind.i64 (0 : Int), D.int IntKind.i64 (0 : Int), D.str { data := #[] }, D.slice false [] none,
        D.slice false [] none, D.slice false [] none],
    D.int IntKind.i64 (opE 48 na nb)], [],
    [(opE 48 na nb != (0 : Int)) = true,
      R na,
      R nb,
      (!true) = false,
      (!ka == (4 : Int)) = false,
      ((!ka == (4 : Int)) == false) = true,
      (kb == (3 : Int)) = true,
      ((kb == (3 : Int)) == false) = false,
      ((kb == (3 : Int)) == false) = false,
      ((kb == (3 : Int)) == false) = false,
      ((!ka == (4 : Int)) == false) = true,
      ((!ka == (4 : Int)) == false) = true,
      (ka == (3 : Int)) = false,
      ((ka == (3 : Int)) == false) = true,
      ((ka == (3 : Int)) == false) = true,
      ((ka == (3 : Int)) == false) = true,
      (kb == (2 : Int)) = false,
      (ka == (2 : Int)) = false,
      (kb == (0 : Int)) = false,
      ((kb == (0 : Int)) == false) = true,
      ((kb == (0 : Int)) == false) = true,
      ((kb == (0 : Int)) == false) = true,
      ((ka == (2 : Int)) == false) = true,
      ((ka == (2 : Int)) == false) = true,
      (ka == (0 : Int)) = false,
      ((ka == (0 : Int)) == false) = true,
      ((ka == (0 : Int)) == false) = true,
      ((ka == (0 : Int)) == false) = true]) by kernel_rfl) (by simp only [all_cons, all_nil]; simp [*])

theorem a22_12 (ka : Int) (na : Int) (sa : ByteArray) (xba : Bool) (eba : Es) (xfa : Bool) (efa : Es) (xla : Bool) (ela : Es) (kb : Int) (nb : Int) (sb : ByteArray) (xbb : Bool) (ebb : Es) (xfb : Bool) (efb : Es) (xlb : Bool) (elb : Es) (hx : R na) (hy : R nb)
    (h0 : (ka == (0 : Int)) = false)
    (h1 : (ka == (2 : Int)) = false)
    (h2 : (kb == (0 : Int)) = false)
    (h3 : (kb == (2 : Int)) = false)
    (h4 : (ka == (3 : Int)) = false)
    (h5 : (ka == (4 : Int)) = true)
    (h6 : (kb == (3 : Int)) = true)
    (h7 : (opE 48 na nb != (0 : Int)) = false)
    (h8 : (opN 48 na nb == IntKind.i64.wrap (IntKind.i32.wrap (opN 48 na nb))) = true)
    (h9 : R na)
    (h10 : R nb) :
    ∃ X, Ev c0.P c0.T (.call 22 (two ka na sa xba eba xfa efa xla ela kb nb sb xbb ebb xfb efb xlb elb) [] (D.tuple
  [D.agg
      [D.int IntKind.i64 (4 : Int), D.int IntKind.i64 (opN 48 na nb), D.str { data := #[] },
        D.slice false [] none, D.slice false [] none, D.slice false [] none],
    D.int IntKind.i64 (0 : Int)]) ([] ++ X)) :=
  outC_ok cOk (show outC 0 (q 22 ka na sa xba eba xfa efa xla ela kb nb sb xbb ebb xfb efb xlb elb (.path [true, true, true, false, true, true, true, true, true, false, false, false, true, true, true, false, true, true, false, false, false, true, true, false, false, false, true, false, false, false, true, true])) = some (D.tuple
  [D.agg
      [D.int IntKind.i64 (4 : Int), D.int IntKind.i64 (opN 48 na nb), D.str { data := #[] },
        D.slice false [] none, D.slice false [] none, D.slice false [] none],
    D.int IntKind.i64 (0 : Int)], [],
    [true = true,
      (ka == (4 : Int)) = true,
      ((ka == (4 : Int)) == false) = false,
      ((ka == (4 : Int)) == false) = false,
      ((ka == (4 : Int)) == false) = false,
      (opN 48 na nb == IntKind.i64.wrap (IntKind.i32.wrap (opN 48 na nb))) = true,
      (opE 48 na nb != (0 : Int)) = false,
      R na,
      R nb,
      (!true) = false,
      (!ka == (4 : Int)) = false,
      ((!ka == (4 : Int)) == false) = true,
      (kb == (3 : Int)) = true,
      ((kb == (3 : Int)) == false) = false,
      ((kb == (3 : Int)) == false) = false,
      ((kb == (3 : Int)) == false) = false,
      ((!ka == (4 : Int)) == false) = true,
      ((!ka == (4 : Int)) == false) = true,
      (ka == (3 : Int)) = false,
      ((ka == (3 : Int)) == false) = true,
      ((ka == (3 : Int)) == false) = true,
      ((ka == (3 : Int)) == false) = true,
      (kb == (2 : Int)) = false,
      (ka == (2 : Int)) = false,
      (kb == (0 : Int)) = false,
      ((kb == (0 : Int)) == false) = true,
      ((kb == (0 : Int)) == false) = true,
      ((kb == (0 : Int)) == false) = true,
      ((ka == (2 : Int)) == false) = true,
      ((ka == (2 : Int)) == false) = true,
      (ka == (0 : Int)) = false,
      ((ka == (0 : Int)) == false) = true,
      ((ka == (0 : Int)) == false) = true,
      ((ka == (0 : Int)) == false) = true]) by kernel_rfl) (by simp only [all_cons, all_nil]; simp [*])

theorem a22_13 (ka : Int) (na : Int) (sa : ByteArray) (xba : Bool) (eba : Es) (xfa : Bool) (efa : Es) (xla : Bool) (ela : Es) (kb : Int) (nb : Int) (sb : ByteArray) (xbb : Bool) (ebb : Es) (xfb : Bool) (efb : Es) (xlb : Bool) (elb : Es) (hx : R na) (hy : R nb)
    (h0 : (ka == (0 : Int)) = false)
    (h1 : (ka == (2 : Int)) = false)
    (h2 : (kb == (0 : Int)) = false)
    (h3 : (kb == (2 : Int)) = false)
    (h4 : (ka == (3 : Int)) = false)
    (h5 : (ka == (4 : Int)) = true)
    (h6 : (kb == (3 : Int)) = true)
    (h7 : (opE 48 na nb != (0 : Int)) = false)
    (h8 : (opN 48 na nb == IntKind.i64.wrap (IntKind.i32.wrap (opN 48 na nb))) = false)
    (h9 : R na)
    (h10 : R nb) :
    ∃ X, Ev c0.P c0.T (.call 22 (two ka na sa xba eba xfa efa xla ela kb nb sb xbb ebb xfb efb xlb elb) [] (D.tuple
  [D.agg
      [D.int IntKind.i64 (4 : Int), D.int IntKind.i64 (opN 48 na nb), D.str { data := #[] },
        D.slice false [] none, D.slice false [] none, D.slice false [] none],
    D.int IntKind.i64 (0 : Int)]) ([] ++ X)) :=
  outC_ok cOk (show outC 0 (q 22 ka na sa xba eba xfa efa xla ela kb nb sb xbb ebb xfb efb xlb elb (.path [true, true, true, false, true, true, true, true, true, false, false, false, true, true, true, false, true, true, false, false, false, true, true, false, false, false, false, false, false, false, true, true])) = some (D.tuple
  [D.agg
      [D.int IntKind.i64 (4 : Int), D.int IntKind.i64 (opN 48 na nb), D.str { data := #[] },
        D.slice false [] none, D.slice false [] none, D.slice false [] none],
    D.int IntKind.i64 (0 : Int)], [],
    [true = true,
      (ka == (4 : Int)) = true,
      ((ka == (4 : Int)) == false) = false,
      ((ka == (4 : Int)) == false) = false,
      ((ka == (4 : Int)) == false) = false,
      (opN 48 na nb == IntKind.i64.wrap (IntKind.i32.wrap (opN 48 na nb))) = false,
      (opE 48 na nb != (0 : Int)) = false,
      R na,
      R nb,
      (!true) = false,
      (!ka == (4 : Int)) = false,
      ((!ka == (4 : Int)) == false) = true,
      (kb == (3 : Int)) = true,
      ((kb == (3 : Int)) == false) = false,
      ((kb == (3 : Int)) == false) = false,
      ((kb == (3 : Int)) == false) = false,
      ((!ka == (4 : Int)) == false) = true,
      ((!ka == (4 : Int)) == false) = true,
      (ka == (3 : Int)) = false,
      ((ka == (3 : Int)) == false) = true,
      ((ka == (3 : Int)) == false) = true,
      ((ka == (3 : Int)) == false) = true,
      (kb == (2 : Int)) = false,
      (ka == (2 : Int)) = false,
      (kb == (0 : Int)) = false,
      ((kb == (0 : Int)) == false) = true,
      ((kb == (0 : Int)) == false) = true,
      ((kb == (0 : Int)) == false) = true,
      ((ka == (2 : Int)) == false) = true,
      ((ka == (2 : Int)) == false) = true,
      (ka == (0 : Int)) = false,
      ((ka == (0 : Int)) == false) = true,
      ((ka == (0 : Int)) == false) = true,
      ((ka == (0 : Int)) == false) = true]) by kernel_rfl) (by simp only [all_cons, all_nil]; simp [*])

theorem a22_14 (ka : Int) (na : Int) (sa : ByteArray) (xba : Bool) (eba : Es) (xfa : Bool) (efa : Es) (xla : Bool) (ela : Es) (kb : Int) (nb : Int) (sb : ByteArray) (xbb : Bool) (ebb : Es) (xfb : Bool) (efb : Es) (xlb : Bool) (elb : Es) (hx : R na) (hy : R nb)
    (h0 : (ka == (0 : Int)) = false)
    (h1 : (ka == (2 : Int)) = false)
    (h2 : (kb == (0 : Int)) = false)
    (h3 : (kb == (2 : Int)) = false)
    (h4 : (ka == (3 : Int)) = false)
    (h5 : (ka == (4 : Int)) = true)
    (h6 : (kb == (3 : Int)) = false)
    (h7 : (kb == (4 : Int)) = true)
    (h8 : (opE 48 na nb != (0 : Int)) = true)
    (h9 : R na)
    (h10 : R nb) :
    ∃ X, Ev c0.P c0.T (.call 22 (two ka na sa xba eba xfa efa xla ela kb nb sb xbb ebb xfb efb xlb elb) [] (D.tuple
  [D.agg
      [D.int IntKind.i64 (0 : Int), D.int IntKind.i64 (0 : Int), D.str { data := #[] }, D.slice false [] none,
        D.slice false [] none, D.slice false [] none],
    D.int IntKind.i64 (opE 48 na nb)]) ([] ++ X)) :=
  outC_ok cOk (show outC 0 (q 22 ka na sa xba eba xfa efa xla ela kb nb sb xbb ebb xfb efb xlb elb (.path [true, true, true, false, true, true, true, true, true, false, false, false, true, true, true, false, true, true, true, true, true, false, true, false, false, true])) = some (D.tuple
  [D.agg
      [D.int IntKind.i64 (0 : Int), D.int IntKind.i64 (0 : Int), D.str { data := #[] }, D.slice false [] none,
        D.slice false [] none, D.slice false [] none],
    D.int IntKind.i64 (opE 48 na nb)], [],
    [(opE 48 na nb != (0 : Int)) = true,
      R na,
      R nb,
      (!kb == (4 : Int)) = false,
      (!ka == (4 : Int)) = false,
      ((!ka == (4 : Int)) == false) = true,
      (kb == (3 : Int)) = false,
      ((kb == (3 : Int)) == false) = true,
      ((kb == (3 : Int)) == false) = true,
      ((kb == (3 : Int)) == false) = true,
      ((!ka == (4 : Int)) == false) = true,
      ((!ka == (4 : Int)) == false) = true,
      (ka == (3 : Int)) = false,
      ((ka == (3 : Int)) == false) = true,
      ((ka == (3 : Int)) == false) = true,
      ((ka == (3 : Int)) == false) = true,
      (kb == (2 : Int)) = false,
      (ka == (2 : Int)) = false,
      (kb == (0 : Int)) = false,
      ((kb == (0 : Int)) == false) = true,
      ((kb == (0 : Int)) == false) = true,
      ((kb == (0 : Int)) == false) = true,
      ((ka == (2 : Int)) == false) = true,
      ((ka == (2 : Int)) == false) = true,
      (ka == (0 : Int)) = false,
      ((ka == (0 : Int)) == false) = true,
      ((ka == (0 : Int)) == false) = true,
      ((ka == (0 : Int)) == false) = true]) by kernel_rfl) (by simp only [all_cons, all_nil]; simp [*])

theorem a22_15 (ka : Int) (na : Int) (sa : ByteArray) (xba : Bool) (eba : Es) (xfa : Bool) (efa : Es) (xla : Bool) (ela : Es) (kb : Int) (nb : Int) (sb : ByteArray) (xbb : Bool) (ebb : Es) (xfb : Bool) (efb : Es) (xlb : Bool) (elb : Es) (hx : R na) (hy : R nb)
    (h0 : (ka == (0 : Int)) = false)
    (h1 : (ka == (2 : Int)) = false)
    (h2 : (kb == (0 : Int)) = false)
    (h3 : (kb == (2 : Int)) = false)
    (h4 : (ka == (3 : Int)) = false)
    (h5 : (ka == (4 : Int)) = true)
    (h6 : (kb == (3 : Int)) = false)
    (h7 : (kb == (4 : Int)) = true)
    (h8 : (opE 48 na nb != (0 : Int)) = false)
    (h9 : (opN 48 na nb == IntKind.i64.wrap (IntKind.i32.wrap (opN 48 na nb))) = true)
    (h10 : R na)
    (h11 : R nb) :
    ∃ X, Ev c0.P c0.T (.call 22 (two ka na sa xba eba xfa efa xla ela kb nb sb xbb ebb xfb efb xlb elb) [] (D.tuple
  [D.agg
      [D.int IntKind.i64 (4 : Int), D.int IntKind.i64 (opN 48 na nb), D.str { data := #[] },
        D.slice false [] none, D.slice false [] none, D.slice false [] none],
    D.int IntKind.i64 (0 : Int)]) ([] ++ X)) :=
  outC_ok cOk (show outC 0 (q 22 ka na sa xba eba xfa efa xla ela kb nb sb xbb ebb xfb efb xlb elb (.path [true, true, true, false, true, true, true, true, true, false, false, false, true, true, true, false, true, true, true, true, true, false, true, false, false, false, true, false, false, false, true, true])) = some (D.tuple
  [D.agg
      [D.int IntKind.i64 (4 : Int), D.int IntKind.i64 (opN 48 na nb), D.str { data := #[] },
        D.slice false [] none, D.slice false [] none, D.slice false [] none],
    D.int IntKind.i64 (0 : Int)], [],
    [true = true,
      (ka == (4 : Int)) = true,
      ((ka == (4 : Int)) == false) = false,
      ((ka == (4 : Int)) == false) = false,
      ((ka == (4 : Int)) == false) = false,
      (opN 48 na nb == IntKind.i64.wrap (IntKind.i32.wrap (opN 48 na nb))) = true,
      (opE 48 na nb != (0 : Int)) = false,
      R na,
      R nb,
      (!kb == (4 : Int)) = false,
      (!ka == (4 : Int)) = false,
      ((!ka == (4 : Int)) == false) = true,
      (kb == (3 : Int)) = false,
      ((kb == (3 : Int)) == false) = true,
      ((kb == (3 : Int)) == false) = true,
      ((kb == (3 : Int)) == false) = true,
      ((!ka == (4 : Int)) == false) = true,
      ((!ka == (4 : Int)) == false) = true,
      (ka == (3 : Int)) = false,
      ((ka == (3 : Int)) == false) = true,
      ((ka == (3 : Int)) == false) = true,
      ((ka == (3 : Int)) == false) = true,
      (kb == (2 : Int)) = false,
      (ka == (2 : Int)) = false,
      (kb == (0 : Int)) = false,
      ((kb == (0 : Int)) == false) = true,
      ((kb == (0 : Int)) == false) = true,
      ((kb == (0 : Int)) == false) = true,
      ((ka == (2 : Int)) == false) = true,
      ((ka == (2 : Int)) == false) = true,
      (ka == (0 : Int)) = false,
      ((ka == (0 : Int)) == false) = true,
      ((ka == (0 : Int)) == false) = true,
      ((ka == (0 : Int)) == false) = true]) by kernel_rfl) (by simp only [all_cons, all_nil]; simp [*])

theorem a22_16 (ka : Int) (na : Int) (sa : ByteArray) (xba : Bool) (eba : Es) (xfa : Bool) (efa : Es) (xla : Bool) (ela : Es) (kb : Int) (nb : Int) (sb : ByteArray) (xbb : Bool) (ebb : Es) (xfb : Bool) (efb : Es) (xlb : Bool) (elb : Es) (hx : R na) (hy : R nb)
    (h0 : (ka == (0 : Int)) = false)
    (h1 : (ka == (2 : Int)) = false)
    (h2 : (kb == (0 : Int)) = false)
    (h3 : (kb == (2 : Int)) = false)
    (h4 : (ka == (3 : Int)) = false)
    (h5 : (ka == (4 : Int)) = true)
    (h6 : (kb == (3 : Int)) = false)
    (h7 : (kb == (4 : Int)) = true)
    (h8 : (opE 48 na nb != (0 : Int)) = false)
    (h9 : (opN 48 na nb == IntKind.i64.wrap (IntKind.i32.wrap (opN 48 na nb))) = false)
    (h10 : R na)
    (h11 : R nb) :
    ∃ X, Ev c0.P c0.T (.call 22 (two ka na sa xba eba xfa efa xla ela kb nb sb xbb ebb xfb efb xlb elb) [] (D.tuple
  [D.agg
      [D.int IntKind.i64 (4 : Int), D.int IntKind.i64 (opN 48 na nb), D.str { data := #[] },
        D.slice false [] none, D.slice false [] none, D.slice false [] none],
    D.int IntKind.i64 (0 : Int)]) ([] ++ X)) :=
  outC_ok cOk (show outC 0 (q 22 ka na sa xba eba xfa efa xla ela kb nb sb xbb ebb xfb efb xlb elb (.path [true, true, true, false, true, true, true, true, true, false, false, false, true, true, true, false, true, true, true, true, true, false, true, false, false, false, false, false, false, false, true, true])) = some (D.tuple
  [D.agg
      [D.int IntKind.i64 (4 : Int), D.int IntKind.i64 (opN 48 na nb), D.str { data := #[] },
        D.slice false [] none, D.slice false [] none, D.slice false [] none],
    D.int IntKind.i64 (0 : Int)], [],
    [true = true,
      (ka == (4 : Int)) = true,
      ((ka == (4 : Int)) == false) = false,
      ((ka == (4 : Int)) == false) = false,
      ((ka == (4 : Int)) == false) = false,
      (opN 48 na nb == IntKind.i64.wrap (IntKind.i32.wrap (opN 48 na nb))) = false,
      (opE 48 na nb != (0 : Int)) = false,
      R na,
      R nb,
      (!kb == (4 : Int)) = false,
      (!ka == (4 : Int)) = false,
      ((!ka == (4 : Int)) == false) = true,
      (kb == (3 : Int)) = false,
      ((kb == (3 : Int)) == false) = true,
      ((kb == (3 : Int)) == false) = true,
      ((kb == (3 : Int)) == false) = true,
      ((!ka == (4 : Int)) == false) = true,
      ((!ka == (4 : Int)) == false) = true,
      (ka == (3 : Int)) = false,
      ((ka == (3 : Int)) == false) = true,
      ((ka == (3 : Int)) == false) = true,
      ((ka == (3 : Int)) == false) = true,
      (kb == (2 : Int)) = false,
      (ka == (2 : Int)) = false,
      (kb == (0 : Int)) = false,
      ((kb == (0 : Int)) == false) = true,
      ((kb == (0 : Int)) == false) = true,
      ((kb == (0 : Int)) == false) = true,
      ((ka == (2 : Int)) == false) = true,
      ((ka == (2 : Int)) == false) = true,
      (ka == (0 : Int)) = false,
      ((ka == (0 : Int)) == false) = true,
      ((ka == (0 : Int)) == false) = true,
      ((ka == (0 : Int)) == false) = true]) by kernel_rfl) (by simp only [all_cons, all_nil]; simp [*])

theorem a22_17 (ka : Int) (na : Int) (sa : ByteArray) (xba : Bool) (eba : Es) (xfa : Bool) (efa : Es) (xla : Bool) (ela : Es) (kb : Int) (nb : Int) (sb : ByteArray) (xbb : Bool) (ebb : Es) (xfb : Bool) (efb : Es) (xlb : Bool) (elb : Es) (hx : R na) (hy : R nb)
    (h0 : (ka == (0 : Int)) = false)
    (h1 : (ka == (2 : Int)) = false)
    (h2 : (kb == (0 : Int)) = false)
    (h3 : (kb == (2 : Int)) = false)
    (h4 : (ka == (3 : Int)) = false)
    (h5 : (ka == (4 : Int)) = true)
    (h6 : (kb == (3 : Int)) = false)
    (h7 : (kb == (4 : Int)) = false) :
    ∃ X, Ev c0.P c0.T (.call 22 (two ka na sa xba eba xfa efa xla ela kb nb sb xbb ebb xfb efb xlb elb) [] (D.tuple
  [D.agg
      [D.int IntKind.i64 (0 : Int), D.int IntKind.i64 (0 : Int), D.str { data := #[] }, D.slice false [] none,
        D.slice false [] none, D.slice false [] none],
    D.int IntKind.i64 (12 : Int)]) ([] ++ X)) :=
  outC_ok cOk (show outC 0 (q 22 ka na sa xba eba xfa efa xla ela kb nb sb xbb ebb xfb efb xlb elb (.path [true, true, true, false, true, true, true, true, true, false, false, false, true, true, true, false, true, true, true, true, true, false, true, false, true])) = some (D.tuple
  [D.agg
      [D.int IntKind.i64 (0 : Int), D.int IntKind.i64 (0 : Int), D.str { data := #[] }, D.slice false [] none,
        D.slice false [] none, D.slice false [] none],
    D.int IntKind.i64 (12 : Int)], [],
    [(!kb == (4 : Int)) = true,
      (!ka == (4 : Int)) = false,
      ((!ka == (4 : Int)) == false) = true,
      (kb == (3 : Int)) = false,
      ((kb == (3 : Int)) == false) = true,
      ((kb == (3 : Int)) == false) = true,
      ((kb == (3 : Int)) == false) = true,
      ((!ka == (4 : Int)) == false) = true,
      ((!ka == (4 : Int)) == false) = true,
      (ka == (3 : Int)) = false,
      ((ka == (3 : Int)) == false) = true,
      ((ka == (3 : Int)) == false) = true,
      ((ka == (3 : Int)) == false) = true,
      (kb == (2 : Int)) = false,
      (ka == (2 : Int)) = false,
      (kb == (0 : Int)) = false,
      ((kb == (0 : Int)) == false) = true,
      ((kb == (0 : Int)) == false) = true,
      ((kb == (0 : Int)) == false) = true,
      ((ka == (2 : Int)) == false) = true,
      ((ka == (2 : Int)) == false) = true,
      (ka == (0 : Int)) = false,
      ((ka == (0 : Int)) == false) = true,
      ((ka == (0 : Int)) == false) = true,
      ((ka == (0 : Int)) == false) = true]) by kernel_rfl) (by simp only [all_cons, all_nil]; simp [*])

theorem a22_18 (ka : Int) (na : Int) (sa : ByteArray) (xba : Bool) (eba : Es) (xfa : Bool) (efa : Es) (xla : Bool) (ela : Es) (kb : Int) (nb : Int) (sb : ByteArray) (xbb : Bool) (ebb : Es) (xfb : Bool) (efb : Es) (xlb : Bool) (elb : Es) (hx : R na) (hy : R nb)
    (h0 : (ka == (0 : Int)) = false)
    (h1 : (ka == (2 : Int)) = false)
    (h2 : (kb == (0 : Int)) = false)
    (h3 : (kb == (2 : Int)) = false)
    (h4 : (ka == (3 : Int)) = false)
    (h5 : (ka == (4 : Int)) = false) :
    ∃ X, Ev c0.P c0.T (.call 22 (two ka na sa xba eba xfa efa xla ela kb nb sb xbb ebb xfb efb xlb elb) [] (D.tuple
  [D.agg
      [D.int IntKind.i64 (0 : Int), D.int IntKind.i64 (0 : Int), D.str { data := #[] }, D.slice false [] none,
        D.slice false [] none, D.slice false [] none],
    D.int IntKind.i64 (12 : Int)]) ([] ++ X)) :=
  outC_ok cOk (show outC 0 (q 22 ka na sa xba eba xfa efa xla ela kb nb sb xbb ebb xfb efb xlb elb (.path [true, true, true, false, true, true, true, true, true, false, false, false, true, true, true, false, false, false, false, true, true])) = some (D.tuple
  [D.agg
      [D.int IntKind.i64 (0 : Int), D.int IntKind.i64 (0 : Int), D.str { data := #[] }, D.slice false [] none,
        D.slice false [] none, D.slice false [] none],
    D.int IntKind.i64 (12 : Int)], [],
    [true = true,
      (!ka == (4 : Int)) = true,
      ((!ka == (4 : Int)) == false) = false,
      ((!ka == (4 : Int)) == false) = false,
      ((!ka == (4 : Int)) == false) = false,
      (ka == (3 : Int)) = false,
      ((ka == (3 : Int)) == false) = true,
      ((ka == (3 : Int)) == false) = true,
      ((ka == (3 : Int)) == false) = true,
      (kb == (2 : Int)) = false,
      (ka == (2 : Int)) = false,
      (kb == (0 : Int)) = false,
      ((kb == (0 : Int)) == false) = true,
      ((kb == (0 : Int)) == false) = true,
      ((kb == (0 : Int)) == false) = true,
      ((ka == (2 : Int)) == false) = true,
      ((ka == (2 : Int)) == false) = true,
      (ka == (0 : Int)) = false,
      ((ka == (0 : Int)) == false) = true,
      ((ka == (0 : Int)) == false) = true,
      ((ka == (0 : Int)) == false) = true]) by kernel_rfl) (by simp only [all_cons, all_nil]; simp [*])

def a22_T (ka : Int) (na : Int) (sa : ByteArray) (xba : Bool) (eba : Es) (xfa : Bool) (efa : Es) (xla : Bool) (ela : Es) (kb : Int) (nb : Int) (sb : ByteArray) (xbb : Bool) (ebb : Es) (xfb : Bool) (efb : Es) (xlb : Bool) (elb : Es) : Int × Int × Int :=
  (cond (ka == (0 : Int))
  ((2 : Int), (0 : Int), (0 : Int))
  (cond (ka == (2 : Int))
    ((2 : Int), (0 : Int), (0 : Int))
    (cond (kb == (0 : Int))
      ((2 : Int), (0 : Int), (0 : Int))
      (cond (kb == (2 : Int))
        ((2 : Int), (0 : Int), (0 : Int))
        (cond (ka == (3 : Int))
          (cond (kb == (3 : Int))
            (cond (opE 48 na nb != (0 : Int))
              ((0 : Int), (0 : Int), opE 48 na nb)
              (cond (opN 48 na nb == IntKind.i64.wrap (IntKind.i32.wrap (opN 48 na nb)))
                (cond (ka == (4 : Int))
                  default
                  (cond (kb == (4 : Int))
                    default
                    ((3 : Int), opN 48 na nb, (0 : Int))))
                (cond (ka == (4 : Int))
                  default
                  (cond (kb == (4 : Int))
                    default
                    ((4 : Int), opN 48 na nb, (0 : Int))))))
            (cond (kb == (4 : Int))
              (cond (opE 48 na nb != (0 : Int))
                ((0 : Int), (0 : Int), opE 48 na nb)
                (cond (opN 48 na nb == IntKind.i64.wrap (IntKind.i32.wrap (opN 48 na nb)))
                  (cond (ka == (4 : Int))
                    default
                    ((4 : Int), opN 48 na nb, (0 : Int)))
                  (cond (ka == (4 : Int))
                    default
                    ((4 : Int), opN 48 na nb, (0 : Int)))))
              ((0 : Int), (0 : Int), (12 : Int))))
          (cond (ka == (4 : Int))
            (cond (kb == (3 : Int))
              (cond (opE 48 na nb != (0 : Int))
                ((0 : Int), (0 : Int), opE 48 na nb)
                (cond (opN 48 na nb == IntKind.i64.wrap (IntKind.i32.wrap (opN 48 na nb)))
                  ((4 : Int), opN 48 na nb, (0 : Int))
                  ((4 : Int), opN 48 na nb, (0 : Int))))
              (cond (kb == (4 : Int))
                (cond (opE 48 na nb != (0 : Int))
                  ((0 : Int), (0 : Int), opE 48 na nb)
                  (cond (opN 48 na nb == IntKind.i64.wrap (IntKind.i32.wrap (opN 48 na nb)))
                    ((4 : Int), opN 48 na nb, (0 : Int))
                    ((4 : Int), opN 48 na nb, (0 : Int))))
                ((0 : Int), (0 : Int), (12 : Int))))
            ((0 : Int), (0 : Int), (12 : Int))))))))

theorem a22_ct (ka : Int) (na : Int) (sa : ByteArray) (xba : Bool) (eba : Es) (xfa : Bool) (efa : Es) (xla : Bool) (ela : Es) (kb : Int) (nb : Int) (sb : ByteArray) (xbb : Bool) (ebb : Es) (xfb : Bool) (efb : Es) (xlb : Bool) (elb : Es) (hx : R na) (hy : R nb) : ∃ X, Ev c0.P c0.T (.call 22 (two ka na sa xba eba xfa efa xla ela kb nb sb xbb ebb xfb efb xlb elb) [] (res (a22_T ka na sa xba eba xfa efa xla ela kb nb sb xbb ebb xfb efb xlb elb).1 (a22_T ka na sa xba eba xfa efa xla ela kb nb sb xbb ebb xfb efb xlb elb).2.1 (a22_T ka na sa xba eba xfa efa xla ela kb nb sb xbb ebb xfb efb xlb elb).2.2) ([] ++ X)) := by
  cases g1 : (ka == (0 : Int)) with
  | true =>
    simp only [a22_T, g1, cond_true, cond_false]; exact a22_0 ka na sa xba eba xfa efa xla ela kb nb sb xbb ebb xfb efb xlb elb hx hy g1
  | false =>
    cases g2 : (ka == (2 : Int)) with
    | true =>
      simp only [a22_T, g1, g2, cond_true, cond_false]; exact a22_1 ka na sa xba eba xfa efa xla ela kb nb sb xbb ebb xfb efb xlb elb hx hy g1 g2
    | false =>
      cases g3 : (kb == (0 : Int)) with
      | true =>
        simp only [a22_T, g1, g2, g3, cond_true, cond_false]; exact a22_2 ka na sa xba eba xfa efa xla ela kb nb sb xbb ebb xfb efb xlb elb hx hy g1 g2 g3
      | false =>
        cases g4 : (kb == (2 : Int)) with
        | true =>
          simp only [a22_T, g1, g2, g3, g4, cond_true, cond_false]; exact a22_3 ka na sa xba eba xfa efa xla ela kb nb sb xbb ebb xfb efb xlb elb hx hy g1 g2 g3 g4
        | false =>
          cases g5 : (ka == (3 : Int)) with
          | true =>
            cases g6 : (kb == (3 : Int)) with
            | true =>
              cases g7 : (opE 48 na nb != (0 : Int)) with
              | true =>
                simp only [a22_T, g1, g2, g3, g4, g5, g6, g7, cond_true, cond_false]; exact a22_4 ka na sa xba eba xfa efa xla ela kb nb sb xbb ebb xfb efb xlb elb hx hy g1 g2 g3 g4 g5 g6 g7 (by simp_all) (by simp_all)
              | false =>
                cases g8 : (opN 48 na nb == IntKind.i64.wrap (IntKind.i32.wrap (opN 48 na nb))) with
                | true =>
                  cases g9 : (ka == (4 : Int)) with
                  | true =>
                    exfalso; simp only [decide_eq_true_eq, decide_eq_false_iff_not, Bool.not_eq_true', Bool.not_eq_false', beq_iff_eq, bne_iff_ne, beq_eq_false_iff_ne] at *; omega
                  | false =>
                    cases g10 : (kb == (4 : Int)) with
                    | true =>
                      exfalso; simp only [decide_eq_true_eq, decide_eq_false_iff_not, Bool.not_eq_true', Bool.not_eq_false', beq_iff_eq, bne_iff_ne, beq_eq_false_iff_ne] at *; omega
                    | false =>
                      simp only [a22_T, g1, g2, g3, g4, g5, g6, g7, g8, g9, g10, cond_true, cond_false]; exact a22_5 ka na sa xba eba xfa efa xla ela kb nb sb xbb ebb xfb efb xlb elb hx hy g1 g2 g3 g4 g5 g6 g7 g8 g9 g10 (by simp_all) (by simp_all)
                | false =>
                  cases g9 : (ka == (4 : Int)) with
                  | true =>
                    exfalso; simp only [decide_eq_true_eq, decide_eq_false_iff_not, Bool.not_eq_true', Bool.not_eq_false', beq_iff_eq, bne_iff_ne, beq_eq_false_iff_ne] at *; omega
                  | false =>
                    cases g10 : (kb == (4 : Int)) with
                    | true =>
                      exfalso; simp only [decide_eq_true_eq, decide_eq_false_iff_not, Bool.not_eq_true', Bool.not_eq_false', beq_iff_eq, bne_iff_ne, beq_eq_false_iff_ne] at *; omega
                    | false =>
                      simp only [a22_T, g1, g2, g3, g4, g5, g6, g7, g8, g9, g10, cond_true, cond_false]; exact a22_6 ka na sa xba eba xfa efa xla ela kb nb sb xbb ebb xfb efb xlb elb hx hy g1 g2 g3 g4 g5 g6 g7 g8 g9 g10 (by simp_all) (by simp_all)
            | false =>
              cases g7 : (kb == (4 : Int)) with
              | true =>
                cases g8 : (opE 48 na nb != (0 : Int)) with
                | true =>
                  simp only [a22_T, g1, g2, g3, g4, g5, g6, g7, g8, cond_true, cond_false]; exact a22_7 ka na sa xba eba xfa efa xla ela kb nb sb xbb ebb xfb efb xlb elb hx hy g1 g2 g3 g4 g5 g6 g7 g8 (by simp_all) (by simp_all)
                | false =>
                  cases g9 : (opN 48 na nb == IntKind.i64.wrap (IntKind.i32.wrap (opN 48 na nb))) with
                  | true =>
                    cases g10 : (ka == (4 : Int)) with
                    | true =>
                      exfalso; simp only [decide_eq_true_eq, decide_eq_false_iff_not, Bool.not_eq_true', Bool.not_eq_false', beq_iff_eq, bne_iff_ne, beq_eq_false_iff_ne] at *; omega
                    | false =>
                      simp only [a22_T, g1, g2, g3, g4, g5, g6, g7, g8, g9, g10, cond_true, cond_false]; exact a22_8 ka na sa xba eba xfa efa xla ela kb nb sb xbb ebb xfb efb xlb elb hx hy g1 g2 g3 g4 g5 g6 g7 g8 g9 g10 (by simp_all) (by simp_all)
                  | false =>
                    cases g10 : (ka == (4 : Int)) with
                    | true =>
                      exfalso; simp only [decide_eq_true_eq, decide_eq_false_iff_not, Bool.not_eq_true', Bool.not_eq_false', beq_iff_eq, bne_iff_ne, beq_eq_false_iff_ne] at *; omega
                    | false =>
                      simp only [a22_T, g1, g2, g3, g4, g5, g6, g7, g8, g9, g10, cond_true, cond_false]; exact a22_9 ka na sa xba eba xfa efa xla ela kb nb sb xbb ebb xfb efb xlb elb hx hy g1 g2 g3 g4 g5 g6 g7 g8 g9 g10 (by simp_all) (by simp_all)
              | false =>
                simp only [a22_T, g1, g2, g3, g4, g5, g6, g7, cond_true, cond_false]; exact a22_10 ka na sa xba eba xfa efa xla ela kb nb sb xbb ebb xfb efb xlb elb hx hy g1 g2 g3 g4 g5 g6 g7
          | false =>
            cases g6 : (ka == (4 : Int)) with
            | true =>
              cases g7 : (kb == (3 : Int)) with
              | true =>
                cases g8 : (opE 48 na nb != (0 : Int)) with
                | true =>
                  simp only [a22_T, g1, g2, g3, g4, g5, g6, g7, g8, cond_true, cond_false]; exact a22_11 ka na sa xba eba xfa efa xla ela kb nb sb xbb ebb xfb efb xlb elb hx hy g1 g2 g3 g4 g5 g6 g7 g8 (by simp_all) (by simp_all)
                | false =>
                  cases g9 : (opN 48 na nb == IntKind.i64.wrap (IntKind.i32.wrap (opN 48 na nb))) with
                  | true =>
                    simp only [a22_T, g1, g2, g3, g4, g5, g6, g7, g8, g9, cond_true, cond_false]; exact a22_12 ka na sa xba eba xfa efa xla ela kb nb sb xbb ebb xfb efb xlb elb hx hy g1 g2 g3 g4 g5 g6 g7 g8 g9 (by simp_all) (by simp_all)
                  | false =>
                    simp only [a22_T, g1, g2, g3, g4, g5, g6, g7, g8, g9, cond_true, cond_false]; exact a22_13 ka na sa xba eba xfa efa xla ela kb nb sb xbb ebb xfb efb xlb elb hx hy g1 g2 g3 g4 g5 g6 g7 g8 g9 (by simp_all) (by simp_all)
              | false =>
                cases g8 : (kb == (4 : Int)) with
                | true =>
                  cases g9 : (opE 48 na nb != (0 : Int)) with
                  | true =>
                    simp only [a22_T, g1, g2, g3, g4, g5, g6, g7, g8, g9, cond_true, cond_false]; exact a22_14 ka na sa xba eba xfa efa xla ela kb nb sb xbb ebb xfb efb xlb elb hx hy g1 g2 g3 g4 g5 g6 g7 g8 g9 (by simp_all) (by simp_all)
                  | false =>
                    cases g10 : (opN 48 na nb == IntKind.i64.wrap (IntKind.i32.wrap (opN 48 na nb))) with
                    | true =>
                      simp only [a22_T, g1, g2, g3, g4, g5, g6, g7, g8, g9, g10, cond_true, cond_false]; exact a22_15 ka na sa xba eba xfa efa xla ela kb nb sb xbb ebb xfb efb xlb elb hx hy g1 g2 g3 g4 g5 g6 g7 g8 g9 g10 (by simp_all) (by simp_all)
                    | false =>
                      simp only [a22_T, g1, g2, g3, g4, g5, g6, g7, g8, g9, g10, cond_true, cond_false]; exact a22_16 ka na sa xba eba xfa efa xla ela kb nb sb xbb ebb xfb efb xlb elb hx hy g1 g2 g3 g4 g5 g6 g7 g8 g9 g10 (by simp_all) (by simp_all)
                | false =>
                  simp only [a22_T, g1, g2, g3, g4, g5, g6, g7, g8, cond_true, cond_false]; exact a22_17 ka na sa xba eba xfa efa xla ela kb nb sb xbb ebb xfb efb xlb elb hx hy g1 g2 g3 g4 g5 g6 g7 g8
            | false =>
              simp only [a22_T, g1, g2, g3, g4, g5, g6, cond_true, cond_false]; exact a22_18 ka na sa xba eba xfa efa xla ela kb nb sb xbb ebb xfb efb xlb elb hx hy g1 g2 g3 g4 g5 g6


theorem a22_eq (ka na : Int) (sa : ByteArray) (xba : Bool) (eba : Es) (xfa : Bool) (efa : Es) (xla : Bool) (ela : Es) (kb nb : Int) (sb : ByteArray) (xbb : Bool) (ebb : Es) (xfb : Bool) (efb : Es) (xlb : Bool) (elb : Es) :
    a22_T ka na sa xba eba xfa efa xla ela kb nb sb xbb ebb xfb efb xlb elb = arith 48 ka na kb nb := by
  unfold a22_T arith noneK numK
  by_cases a0 : ka = 0
  · subst a0; simp
  by_cases a2 : ka = 2
  · subst a2; simp
  by_cases b0 : kb = 0
  · subst b0; simp
  by_cases b2 : kb = 2
  · subst b2; simp
  cases e : (opE 48 na nb != 0) with
  | true =>
    have e' : opE 48 na nb ≠ 0 := by simpa using e
    simp only [e, cond_true]
    by_cases a3 : ka = 3 <;> by_cases a4 : ka = 4 <;> by_cases b3 : kb = 3 <;> by_cases b4 : kb = 4 <;> first | omega | simp [beqd, Bool.cond_decide, a0, a2, b0, b2, a3, a4, b3, b4, e']
  | false =>
    have e' : opE 48 na nb = 0 := by simpa using e
    cases o : (opN 48 na nb == IntKind.i64.wrap (IntKind.i32.wrap (opN 48 na nb))) with
    | true =>
      have o' := of32_true o
      simp only [e, o, cond_true, cond_false]
      by_cases a3 : ka = 3 <;> by_cases a4 : ka = 4 <;> by_cases b3 : kb = 3 <;> by_cases b4 : kb = 4 <;> first | omega | simp [beqd, Bool.cond_decide, a0, a2, b0, b2, a3, a4, b3, b4, e', o']
    | false =>
      have o' := of32_false o
      simp only [e, o, cond_true, cond_false]
      by_cases a3 : ka = 3 <;> by_cases a4 : ka = 4 <;> by_cases b3 : kb = 3 <;> by_cases b4 : kb = 4 <;> first | omega | simp [beqd, Bool.cond_decide, a0, a2, b0, b2, a3, a4, b3, b4, e', o']

theorem c22 (ka na : Int) (sa : ByteArray) (xba : Bool) (eba : Es) (xfa : Bool) (efa : Es) (xla : Bool) (ela : Es) (kb nb : Int) (sb : ByteArray) (xbb : Bool) (ebb : Es) (xfb : Bool) (efb : Es) (xlb : Bool) (elb : Es) (hx : R na) (hy : R nb) :
    ∃ X, Ev c0.P c0.T (.call 22 (two ka na sa xba eba xfa efa xla ela kb nb sb xbb ebb xfb efb xlb elb) [] (res (arith 48 ka na kb nb).1 (arith 48 ka na kb nb).2.1 (arith 48 ka na kb nb).2.2) ([] ++ X)) := by
  have := a22_ct ka na sa xba eba xfa efa xla ela kb nb sb xbb ebb xfb efb xlb elb hx hy
  rw [a22_eq] at this
  exact this

end Go.Proofs.Ytbkacmcijimbfaa.numk
