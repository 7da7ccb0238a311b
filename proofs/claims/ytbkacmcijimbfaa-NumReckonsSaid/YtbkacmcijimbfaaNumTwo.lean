/- The reference's reckoning of two values (Two): its roads. -/
import Derived.Test.YtbkacmcijimbfaaNumRef
namespace Go.Proofs.Ytbkacmcijimbfaa.numk
open Go Ytbkacmcijimbfaa.GD
set_option linter.unusedVariables false
set_option linter.unusedSimpArgs false

theorem tw_0 (p : Int) (ka : Int) (na : Int) (sa : ByteArray) (xba : Bool) (eba : Es) (xfa : Bool) (efa : Es) (xla : Bool) (ela : Es) (kb : Int) (nb : Int) (sb : ByteArray) (xbb : Bool) (ebb : Es) (xfb : Bool) (efb : Es) (xlb : Bool) (elb : Es)
    (h0 : noneB ka = true) :
    ∃ X, Ev c0.P c0.T (.call 25 (three p ka na sa xba eba xfa efa xla ela kb nb sb xbb ebb xfb efb xlb elb) [] (D.tuple
  [D.agg
      [D.int IntKind.i64 (2 : Int), D.int IntKind.i64 (0 : Int), D.str (ByteArray.mk #[]), D.slice false [] none,
        D.slice false [] none, D.slice false [] none],
    D.int IntKind.i64 (0 : Int)]) ([] ++ X)) :=
  outC_ok cTOk (show outC 0 (qT p ka na sa xba eba xfa efa xla ela kb nb sb xbb ebb xfb efb xlb elb (.path [false, false, true, true])) = some (D.tuple
  [D.agg
      [D.int IntKind.i64 (2 : Int), D.int IntKind.i64 (0 : Int), D.str (ByteArray.mk #[]), D.slice false [] none,
        D.slice false [] none, D.slice false [] none],
    D.int IntKind.i64 (0 : Int)], [],
    rep 1 (true = true) <|
      rep 1 (noneB ka = true) <|
      rep 2 ((noneB ka == false) = false) <|
      []) by kernel_rfl) (by simp only [all_rep, all_nil]; simp [*])

theorem tw_1 (p : Int) (ka : Int) (na : Int) (sa : ByteArray) (xba : Bool) (eba : Es) (xfa : Bool) (efa : Es) (xla : Bool) (ela : Es) (kb : Int) (nb : Int) (sb : ByteArray) (xbb : Bool) (ebb : Es) (xfb : Bool) (efb : Es) (xlb : Bool) (elb : Es)
    (h0 : noneB ka = false)
    (h1 : noneB kb = true) :
    ∃ X, Ev c0.P c0.T (.call 25 (three p ka na sa xba eba xfa efa xla ela kb nb sb xbb ebb xfb efb xlb elb) [] (D.tuple
  [D.agg
      [D.int IntKind.i64 (2 : Int), D.int IntKind.i64 (0 : Int), D.str (ByteArray.mk #[]), D.slice false [] none,
        D.slice false [] none, D.slice false [] none],
    D.int IntKind.i64 (0 : Int)]) ([] ++ X)) :=
  outC_ok cTOk (show outC 0 (qT p ka na sa xba eba xfa efa xla ela kb nb sb xbb ebb xfb efb xlb elb (.path [true, true, false, true])) = some (D.tuple
  [D.agg
      [D.int IntKind.i64 (2 : Int), D.int IntKind.i64 (0 : Int), D.str (ByteArray.mk #[]), D.slice false [] none,
        D.slice false [] none, D.slice false [] none],
    D.int IntKind.i64 (0 : Int)], [],
    rep 1 (noneB kb = true) <|
      rep 1 (noneB ka = false) <|
      rep 2 ((noneB ka == false) = true) <|
      []) by kernel_rfl) (by simp only [all_rep, all_nil]; simp [*])

theorem tw_2 (p : Int) (ka : Int) (na : Int) (sa : ByteArray) (xba : Bool) (eba : Es) (xfa : Bool) (efa : Es) (xla : Bool) (ela : Es) (kb : Int) (nb : Int) (sb : ByteArray) (xbb : Bool) (ebb : Es) (xfb : Bool) (efb : Es) (xlb : Bool) (elb : Es)
    (h0 : noneB ka = false)
    (h1 : noneB kb = false)
    (h2 : numB ka = true)
    (h3 : numB kb = true)
    (h4 : (p == (47 : Int)) = true)
    (h5 : (nb == (0 : Int)) = true) :
    ∃ X, Ev c0.P c0.T (.call 25 (three p ka na sa xba eba xfa efa xla ela kb nb sb xbb ebb xfb efb xlb elb) [] (D.tuple
  [D.agg
      [D.int IntKind.i64 (0 : Int), D.int IntKind.i64 (0 : Int), D.str (ByteArray.mk #[]), D.slice false [] none,
        D.slice false [] none, D.slice false [] none],
    D.int IntKind.i64 (11 : Int)]) ([] ++ X)) :=
  outC_ok cTOk (show outC 0 (qT p ka na sa xba eba xfa efa xla ela kb nb sb xbb ebb xfb efb xlb elb (.path [true, true, false, false, true, true, true, false, false, false, false, true, true, true, true, true, true])) = some (D.tuple
  [D.agg
      [D.int IntKind.i64 (0 : Int), D.int IntKind.i64 (0 : Int), D.str (ByteArray.mk #[]), D.slice false [] none,
        D.slice false [] none, D.slice false [] none],
    D.int IntKind.i64 (11 : Int)], [],
    rep 1 ((nb == (0 : Int)) = true) <|
      rep 1 (true = true) <|
      rep 3 ((true == true) = true) <|
      rep 1 ((p == (47 : Int)) = true) <|
      rep 2 (((p == (47 : Int)) == false) = false) <|
      rep 1 ((!numB kb) = false) <|
      rep 1 ((!numB ka) = false) <|
      rep 3 (((!numB ka) == false) = true) <|
      rep 1 (noneB kb = false) <|
      rep 1 (noneB ka = false) <|
      rep 2 ((noneB ka == false) = true) <|
      []) by kernel_rfl) (by simp only [all_rep, all_nil]; simp [*])

theorem tw_3 (p : Int) (ka : Int) (na : Int) (sa : ByteArray) (xba : Bool) (eba : Es) (xfa : Bool) (efa : Es) (xla : Bool) (ela : Es) (kb : Int) (nb : Int) (sb : ByteArray) (xbb : Bool) (ebb : Es) (xfb : Bool) (efb : Es) (xlb : Bool) (elb : Es)
    (h0 : noneB ka = false)
    (h1 : noneB kb = false)
    (h2 : numB ka = true)
    (h3 : numB kb = true)
    (h4 : (p == (47 : Int)) = true)
    (h5 : (nb == (0 : Int)) = false)
    (h6 : (p == (43 : Int)) = false)
    (h7 : (p == (45 : Int)) = false)
    (h8 : (p == (42 : Int)) = false)
    (h9 : (na == (-9223372036854775808 : Int)) = true)
    (h10 : (nb == (-1 : Int)) = true) :
    ∃ X, Ev c0.P c0.T (.call 25 (three p ka na sa xba eba xfa efa xla ela kb nb sb xbb ebb xfb efb xlb elb) [] (D.tuple
  [D.agg
      [D.int IntKind.i64 (0 : Int), D.int IntKind.i64 (0 : Int), D.str (ByteArray.mk #[]), D.slice false [] none,
        D.slice false [] none, D.slice false [] none],
    D.int IntKind.i64 (10 : Int)]) ([] ++ X)) :=
  outC_ok cTOk (show outC 0 (qT p ka na sa xba eba xfa efa xla ela kb nb sb xbb ebb xfb efb xlb elb (.path [true, true, false, false, true, true, true, false, false, false, false, true, true, true, true, true, false, false, false, false, true, true, true, true, true, false, true])) = some (D.tuple
  [D.agg
      [D.int IntKind.i64 (0 : Int), D.int IntKind.i64 (0 : Int), D.str (ByteArray.mk #[]), D.slice false [] none,
        D.slice false [] none, D.slice false [] none],
    D.int IntKind.i64 (10 : Int)], [],
    rep 1 ((!!nb == (-1 : Int)) = true) <|
      rep 1 ((!nb == (-1 : Int)) = false) <|
      rep 1 ((na == (-9223372036854775808 : Int)) = true) <|
      rep 3 (((na == (-9223372036854775808 : Int)) == true) = true) <|
      rep 1 ((p == (47 : Int)) = true) <|
      rep 1 ((p == (42 : Int)) = false) <|
      rep 1 ((p == (45 : Int)) = false) <|
      rep 1 ((p == (43 : Int)) = false) <|
      rep 1 ((nb == (0 : Int)) = false) <|
      rep 1 (true = true) <|
      rep 3 ((true == true) = true) <|
      rep 1 ((p == (47 : Int)) = true) <|
      rep 2 (((p == (47 : Int)) == false) = false) <|
      rep 1 ((!numB kb) = false) <|
      rep 1 ((!numB ka) = false) <|
      rep 3 (((!numB ka) == false) = true) <|
      rep 1 (noneB kb = false) <|
      rep 1 (noneB ka = false) <|
      rep 2 ((noneB ka == false) = true) <|
      []) by kernel_rfl) (by simp only [all_rep, all_nil]; simp [*])

theorem tw_4 (p : Int) (ka : Int) (na : Int) (sa : ByteArray) (xba : Bool) (eba : Es) (xfa : Bool) (efa : Es) (xla : Bool) (ela : Es) (kb : Int) (nb : Int) (sb : ByteArray) (xbb : Bool) (ebb : Es) (xfb : Bool) (efb : Es) (xlb : Bool) (elb : Es)
    (h0 : noneB ka = false)
    (h1 : noneB kb = false)
    (h2 : numB ka = true)
    (h3 : numB kb = true)
    (h4 : (p == (47 : Int)) = true)
    (h5 : (nb == (0 : Int)) = false)
    (h6 : (p == (43 : Int)) = false)
    (h7 : (p == (45 : Int)) = false)
    (h8 : (p == (42 : Int)) = false)
    (h9 : (na == (-9223372036854775808 : Int)) = true)
    (h10 : (nb == (-1 : Int)) = false)
    (h11 : (ka == (4 : Int)) = true)
    (h12 : nb ≠ (0 : Int)) :
    ∃ X, Ev c0.P c0.T (.call 25 (three p ka na sa xba eba xfa efa xla ela kb nb sb xbb ebb xfb efb xlb elb) [] (D.tuple
  [D.agg
      [D.int IntKind.i64 (4 : Int), D.int IntKind.i64 (IntKind.i64.wrap (na.tdiv nb)), D.str (ByteArray.mk #[]),
        D.slice false [] none, D.slice false [] none, D.slice false [] none],
    D.int IntKind.i64 (0 : Int)]) ([] ++ X)) :=
  outC_ok cTOk (show outC 0 (qT p ka na sa xba eba xfa efa xla ela kb nb sb xbb ebb xfb efb xlb elb (.path [true, true, false, false, true, true, true, false, false, false, false, true, true, true, true, true, false, false, false, false, true, true, true, true, true, true, false, false, false, false, true, true])) = some (D.tuple
  [D.agg
      [D.int IntKind.i64 (4 : Int), D.int IntKind.i64 (IntKind.i64.wrap (na.tdiv nb)), D.str (ByteArray.mk #[]),
        D.slice false [] none, D.slice false [] none, D.slice false [] none],
    D.int IntKind.i64 (0 : Int)], [],
    rep 1 (true = true) <|
      rep 1 ((ka == (4 : Int)) = true) <|
      rep 3 (((ka == (4 : Int)) == false) = false) <|
      rep 1 ((!!nb == (-1 : Int)) = false) <|
      rep 1 (nb ≠ (0 : Int)) <|
      rep 1 ((!nb == (-1 : Int)) = true) <|
      rep 1 ((na == (-9223372036854775808 : Int)) = true) <|
      rep 3 (((na == (-9223372036854775808 : Int)) == true) = true) <|
      rep 1 ((p == (47 : Int)) = true) <|
      rep 1 ((p == (42 : Int)) = false) <|
      rep 1 ((p == (45 : Int)) = false) <|
      rep 1 ((p == (43 : Int)) = false) <|
      rep 1 ((nb == (0 : Int)) = false) <|
      rep 1 (true = true) <|
      rep 3 ((true == true) = true) <|
      rep 1 ((p == (47 : Int)) = true) <|
      rep 2 (((p == (47 : Int)) == false) = false) <|
      rep 1 ((!numB kb) = false) <|
      rep 1 ((!numB ka) = false) <|
      rep 3 (((!numB ka) == false) = true) <|
      rep 1 (noneB kb = false) <|
      rep 1 (noneB ka = false) <|
      rep 2 ((noneB ka == false) = true) <|
      []) by kernel_rfl) (by simp only [all_rep, all_nil]; simp [*])

theorem tw_5 (p : Int) (ka : Int) (na : Int) (sa : ByteArray) (xba : Bool) (eba : Es) (xfa : Bool) (efa : Es) (xla : Bool) (ela : Es) (kb : Int) (nb : Int) (sb : ByteArray) (xbb : Bool) (ebb : Es) (xfb : Bool) (efb : Es) (xlb : Bool) (elb : Es)
    (h0 : noneB ka = false)
    (h1 : noneB kb = false)
    (h2 : numB ka = true)
    (h3 : numB kb = true)
    (h4 : (p == (47 : Int)) = true)
    (h5 : (nb == (0 : Int)) = false)
    (h6 : (p == (43 : Int)) = false)
    (h7 : (p == (45 : Int)) = false)
    (h8 : (p == (42 : Int)) = false)
    (h9 : (na == (-9223372036854775808 : Int)) = true)
    (h10 : (nb == (-1 : Int)) = false)
    (h11 : (ka == (4 : Int)) = false)
    (h12 : (kb == (4 : Int)) = true)
    (h13 : nb ≠ (0 : Int)) :
    ∃ X, Ev c0.P c0.T (.call 25 (three p ka na sa xba eba xfa efa xla ela kb nb sb xbb ebb xfb efb xlb elb) [] (D.tuple
  [D.agg
      [D.int IntKind.i64 (4 : Int), D.int IntKind.i64 (IntKind.i64.wrap (na.tdiv nb)), D.str (ByteArray.mk #[]),
        D.slice false [] none, D.slice false [] none, D.slice false [] none],
    D.int IntKind.i64 (0 : Int)]) ([] ++ X)) :=
  outC_ok cTOk (show outC 0 (qT p ka na sa xba eba xfa efa xla ela kb nb sb xbb ebb xfb efb xlb elb (.path [true, true, false, false, true, true, true, false, false, false, false, true, true, true, true, true, false, false, false, false, true, true, true, true, true, true, false, true, true, true, false, true])) = some (D.tuple
  [D.agg
      [D.int IntKind.i64 (4 : Int), D.int IntKind.i64 (IntKind.i64.wrap (na.tdiv nb)), D.str (ByteArray.mk #[]),
        D.slice false [] none, D.slice false [] none, D.slice false [] none],
    D.int IntKind.i64 (0 : Int)], [],
    rep 1 ((kb == (4 : Int)) = true) <|
      rep 1 ((ka == (4 : Int)) = false) <|
      rep 3 (((ka == (4 : Int)) == false) = true) <|
      rep 1 ((!!nb == (-1 : Int)) = false) <|
      rep 1 (nb ≠ (0 : Int)) <|
      rep 1 ((!nb == (-1 : Int)) = true) <|
      rep 1 ((na == (-9223372036854775808 : Int)) = true) <|
      rep 3 (((na == (-9223372036854775808 : Int)) == true) = true) <|
      rep 1 ((p == (47 : Int)) = true) <|
      rep 1 ((p == (42 : Int)) = false) <|
      rep 1 ((p == (45 : Int)) = false) <|
      rep 1 ((p == (43 : Int)) = false) <|
      rep 1 ((nb == (0 : Int)) = false) <|
      rep 1 (true = true) <|
      rep 3 ((true == true) = true) <|
      rep 1 ((p == (47 : Int)) = true) <|
      rep 2 (((p == (47 : Int)) == false) = false) <|
      rep 1 ((!numB kb) = false) <|
      rep 1 ((!numB ka) = false) <|
      rep 3 (((!numB ka) == false) = true) <|
      rep 1 (noneB kb = false) <|
      rep 1 (noneB ka = false) <|
      rep 2 ((noneB ka == false) = true) <|
      []) by kernel_rfl) (by simp only [all_rep, all_nil]; simp [*])

theorem tw_6 (p : Int) (ka : Int) (na : Int) (sa : ByteArray) (xba : Bool) (eba : Es) (xfa : Bool) (efa : Es) (xla : Bool) (ela : Es) (kb : Int) (nb : Int) (sb : ByteArray) (xbb : Bool) (ebb : Es) (xfb : Bool) (efb : Es) (xlb : Bool) (elb : Es)
    (h0 : noneB ka = false)
    (h1 : noneB kb = false)
    (h2 : numB ka = true)
    (h3 : numB kb = true)
    (h4 : (p == (47 : Int)) = true)
    (h5 : (nb == (0 : Int)) = false)
    (h6 : (p == (43 : Int)) = false)
    (h7 : (p == (45 : Int)) = false)
    (h8 : (p == (42 : Int)) = false)
    (h9 : (na == (-9223372036854775808 : Int)) = true)
    (h10 : (nb == (-1 : Int)) = false)
    (h11 : (ka == (4 : Int)) = false)
    (h12 : (kb == (4 : Int)) = false)
    (h13 : nb ≠ (0 : Int)) :
    ∃ X, Ev c0.P c0.T (.call 25 (three p ka na sa xba eba xfa efa xla ela kb nb sb xbb ebb xfb efb xlb elb) [] (D.tuple
  [D.agg
      [D.int IntKind.i64 (of32 (IntKind.i64.wrap (na.tdiv nb))), D.int IntKind.i64 (IntKind.i64.wrap (na.tdiv nb)),
        D.str (ByteArray.mk #[]), D.slice false [] none, D.slice false [] none, D.slice false [] none],
    D.int IntKind.i64 (0 : Int)]) ([] ++ X)) :=
  outC_ok cTOk (show outC 0 (qT p ka na sa xba eba xfa efa xla ela kb nb sb xbb ebb xfb efb xlb elb (.path [true, true, false, false, true, true, true, false, false, false, false, true, true, true, true, true, false, false, false, false, true, true, true, true, true, true, false, true, true, true, false, false])) = some (D.tuple
  [D.agg
      [D.int IntKind.i64 (of32 (IntKind.i64.wrap (na.tdiv nb))), D.int IntKind.i64 (IntKind.i64.wrap (na.tdiv nb)),
        D.str (ByteArray.mk #[]), D.slice false [] none, D.slice false [] none, D.slice false [] none],
    D.int IntKind.i64 (0 : Int)], [],
    rep 1 ((kb == (4 : Int)) = false) <|
      rep 1 ((ka == (4 : Int)) = false) <|
      rep 3 (((ka == (4 : Int)) == false) = true) <|
      rep 1 ((!!nb == (-1 : Int)) = false) <|
      rep 1 (nb ≠ (0 : Int)) <|
      rep 1 ((!nb == (-1 : Int)) = true) <|
      rep 1 ((na == (-9223372036854775808 : Int)) = true) <|
      rep 3 (((na == (-9223372036854775808 : Int)) == true) = true) <|
      rep 1 ((p == (47 : Int)) = true) <|
      rep 1 ((p == (42 : Int)) = false) <|
      rep 1 ((p == (45 : Int)) = false) <|
      rep 1 ((p == (43 : Int)) = false) <|
      rep 1 ((nb == (0 : Int)) = false) <|
      rep 1 (true = true) <|
      rep 3 ((true == true) = true) <|
      rep 1 ((p == (47 : Int)) = true) <|
      rep 2 (((p == (47 : Int)) == false) = false) <|
      rep 1 ((!numB kb) = false) <|
      rep 1 ((!numB ka) = false) <|
      rep 3 (((!numB ka) == false) = true) <|
      rep 1 (noneB kb = false) <|
      rep 1 (noneB ka = false) <|
      rep 2 ((noneB ka == false) = true) <|
      []) by kernel_rfl) (by simp only [all_rep, all_nil]; simp [*])

theorem tw_7 (p : Int) (ka : Int) (na : Int) (sa : ByteArray) (xba : Bool) (eba : Es) (xfa : Bool) (efa : Es) (xla : Bool) (ela : Es) (kb : Int) (nb : Int) (sb : ByteArray) (xbb : Bool) (ebb : Es) (xfb : Bool) (efb : Es) (xlb : Bool) (elb : Es)
    (h0 : noneB ka = false)
    (h1 : noneB kb = false)
    (h2 : numB ka = true)
    (h3 : numB kb = true)
    (h4 : (p == (47 : Int)) = true)
    (h5 : (nb == (0 : Int)) = false)
    (h6 : (p == (43 : Int)) = false)
    (h7 : (p == (45 : Int)) = false)
    (h8 : (p == (42 : Int)) = false)
    (h9 : (na == (-9223372036854775808 : Int)) = false)
    (h10 : (ka == (4 : Int)) = true)
    (h11 : nb ≠ (0 : Int)) :
    ∃ X, Ev c0.P c0.T (.call 25 (three p ka na sa xba eba xfa efa xla ela kb nb sb xbb ebb xfb efb xlb elb) [] (D.tuple
  [D.agg
      [D.int IntKind.i64 (4 : Int), D.int IntKind.i64 (IntKind.i64.wrap (na.tdiv nb)), D.str (ByteArray.mk #[]),
        D.slice false [] none, D.slice false [] none, D.slice false [] none],
    D.int IntKind.i64 (0 : Int)]) ([] ++ X)) :=
  outC_ok cTOk (show outC 0 (qT p ka na sa xba eba xfa efa xla ela kb nb sb xbb ebb xfb efb xlb elb (.path [true, true, false, false, true, true, true, false, false, false, false, true, true, true, true, true, false, false, false, false, true, false, false, false, false, true, false, false, false, false, true, true])) = some (D.tuple
  [D.agg
      [D.int IntKind.i64 (4 : Int), D.int IntKind.i64 (IntKind.i64.wrap (na.tdiv nb)), D.str (ByteArray.mk #[]),
        D.slice false [] none, D.slice false [] none, D.slice false [] none],
    D.int IntKind.i64 (0 : Int)], [],
    rep 1 (true = true) <|
      rep 1 ((ka == (4 : Int)) = true) <|
      rep 3 (((ka == (4 : Int)) == false) = false) <|
      rep 1 ((!!false) = false) <|
      rep 1 (nb ≠ (0 : Int)) <|
      rep 1 ((!false) = true) <|
      rep 1 ((na == (-9223372036854775808 : Int)) = false) <|
      rep 3 (((na == (-9223372036854775808 : Int)) == true) = false) <|
      rep 1 ((p == (47 : Int)) = true) <|
      rep 1 ((p == (42 : Int)) = false) <|
      rep 1 ((p == (45 : Int)) = false) <|
      rep 1 ((p == (43 : Int)) = false) <|
      rep 1 ((nb == (0 : Int)) = false) <|
      rep 1 (true = true) <|
      rep 3 ((true == true) = true) <|
      rep 1 ((p == (47 : Int)) = true) <|
      rep 2 (((p == (47 : Int)) == false) = false) <|
      rep 1 ((!numB kb) = false) <|
      rep 1 ((!numB ka) = false) <|
      rep 3 (((!numB ka) == false) = true) <|
      rep 1 (noneB kb = false) <|
      rep 1 (noneB ka = false) <|
      rep 2 ((noneB ka == false) = true) <|
      []) by kernel_rfl) (by simp only [all_rep, all_nil]; simp [*])

theorem tw_8 (p : Int) (ka : Int) (na : Int) (sa : ByteArray) (xba : Bool) (eba : Es) (xfa : Bool) (efa : Es) (xla : Bool) (ela : Es) (kb : Int) (nb : Int) (sb : ByteArray) (xbb : Bool) (ebb : Es) (xfb : Bool) (efb : Es) (xlb : Bool) (elb : Es)
    (h0 : noneB ka = false)
    (h1 : noneB kb = false)
    (h2 : numB ka = true)
    (h3 : numB kb = true)
    (h4 : (p == (47 : Int)) = true)
    (h5 : (nb == (0 : Int)) = false)
    (h6 : (p == (43 : Int)) = false)
    (h7 : (p == (45 : Int)) = false)
    (h8 : (p == (42 : Int)) = false)
    (h9 : (na == (-9223372036854775808 : Int)) = false)
    (h10 : (ka == (4 : Int)) = false)
    (h11 : (kb == (4 : Int)) = true)
    (h12 : nb ≠ (0 : Int)) :
    ∃ X, Ev c0.P c0.T (.call 25 (three p ka na sa xba eba xfa efa xla ela kb nb sb xbb ebb xfb efb xlb elb) [] (D.tuple
  [D.agg
      [D.int IntKind.i64 (4 : Int), D.int IntKind.i64 (IntKind.i64.wrap (na.tdiv nb)), D.str (ByteArray.mk #[]),
        D.slice false [] none, D.slice false [] none, D.slice false [] none],
    D.int IntKind.i64 (0 : Int)]) ([] ++ X)) :=
  outC_ok cTOk (show outC 0 (qT p ka na sa xba eba xfa efa xla ela kb nb sb xbb ebb xfb efb xlb elb (.path [true, true, false, false, true, true, true, false, false, false, false, true, true, true, true, true, false, false, false, false, true, false, false, false, false, true, false, true, true, true, false, true])) = some (D.tuple
  [D.agg
      [D.int IntKind.i64 (4 : Int), D.int IntKind.i64 (IntKind.i64.wrap (na.tdiv nb)), D.str (ByteArray.mk #[]),
        D.slice false [] none, D.slice false [] none, D.slice false [] none],
    D.int IntKind.i64 (0 : Int)], [],
    rep 1 ((kb == (4 : Int)) = true) <|
      rep 1 ((ka == (4 : Int)) = false) <|
      rep 3 (((ka == (4 : Int)) == false) = true) <|
      rep 1 ((!!false) = false) <|
      rep 1 (nb ≠ (0 : Int)) <|
      rep 1 ((!false) = true) <|
      rep 1 ((na == (-9223372036854775808 : Int)) = false) <|
      rep 3 (((na == (-9223372036854775808 : Int)) == true) = false) <|
      rep 1 ((p == (47 : Int)) = true) <|
      rep 1 ((p == (42 : Int)) = false) <|
      rep 1 ((p == (45 : Int)) = false) <|
      rep 1 ((p == (43 : Int)) = false) <|
      rep 1 ((nb == (0 : Int)) = false) <|
      rep 1 (true = true) <|
      rep 3 ((true == true) = true) <|
      rep 1 ((p == (47 : Int)) = true) <|
      rep 2 (((p == (47 : Int)) == false) = false) <|
      rep 1 ((!numB kb) = false) <|
      rep 1 ((!numB ka) = false) <|
      rep 3 (((!numB ka) == false) = true) <|
      rep 1 (noneB kb = false) <|
      rep 1 (noneB ka = false) <|
      rep 2 ((noneB ka == false) = true) <|
      []) by kernel_rfl) (by simp only [all_rep, all_nil]; simp [*])

theorem tw_9 (p : Int) (ka : Int) (na : Int) (sa : ByteArray) (xba : Bool) (eba : Es) (xfa : Bool) (efa : Es) (xla : Bool) (ela : Es) (kb : Int) (nb : Int) (sb : ByteArray) (xbb : Bool) (ebb : Es) (xfb : Bool) (efb : Es) (xlb : Bool) (elb : Es)
    (h0 : noneB ka = false)
    (h1 : noneB kb = false)
    (h2 : numB ka = true)
    (h3 : numB kb = true)
    (h4 : (p == (47 : Int)) = true)
    (h5 : (nb == (0 : Int)) = false)
    (h6 : (p == (43 : Int)) = false)
    (h7 : (p == (45 : Int)) = false)
    (h8 : (p == (42 : Int)) = false)
    (h9 : (na == (-9223372036854775808 : Int)) = false)
    (h10 : (ka == (4 : Int)) = false)
    (h11 : (kb == (4 : Int)) = false)
    (h12 : nb ≠ (0 : Int)) :
    ∃ X, Ev c0.P c0.T (.call 25 (three p ka na sa xba eba xfa efa xla ela kb nb sb xbb ebb xfb efb xlb elb) [] (D.tuple
  [D.agg
      [D.int IntKind.i64 (of32 (IntKind.i64.wrap (na.tdiv nb))), D.int IntKind.i64 (IntKind.i64.wrap (na.tdiv nb)),
        D.str (ByteArray.mk #[]), D.slice false [] none, D.slice false [] none, D.slice false [] none],
    D.int IntKind.i64 (0 : Int)]) ([] ++ X)) :=
  outC_ok cTOk (show outC 0 (qT p ka na sa xba eba xfa efa xla ela kb nb sb xbb ebb xfb efb xlb elb (.path [true, true, false, false, true, true, true, false, false, false, false, true, true, true, true, true, false, false, false, false, true, false, false, false, false, true, false, true, true, true, false, false])) = some (D.tuple
  [D.agg
      [D.int IntKind.i64 (of32 (IntKind.i64.wrap (na.tdiv nb))), D.int IntKind.i64 (IntKind.i64.wrap (na.tdiv nb)),
        D.str (ByteArray.mk #[]), D.slice false [] none, D.slice false [] none, D.slice false [] none],
    D.int IntKind.i64 (0 : Int)], [],
    rep 1 ((kb == (4 : Int)) = false) <|
      rep 1 ((ka == (4 : Int)) = false) <|
      rep 3 (((ka == (4 : Int)) == false) = true) <|
      rep 1 ((!!false) = false) <|
      rep 1 (nb ≠ (0 : Int)) <|
      rep 1 ((!false) = true) <|
      rep 1 ((na == (-9223372036854775808 : Int)) = false) <|
      rep 3 (((na == (-9223372036854775808 : Int)) == true) = false) <|
      rep 1 ((p == (47 : Int)) = true) <|
      rep 1 ((p == (42 : Int)) = false) <|
      rep 1 ((p == (45 : Int)) = false) <|
      rep 1 ((p == (43 : Int)) = false) <|
      rep 1 ((nb == (0 : Int)) = false) <|
      rep 1 (true = true) <|
      rep 3 ((true == true) = true) <|
      rep 1 ((p == (47 : Int)) = true) <|
      rep 2 (((p == (47 : Int)) == false) = false) <|
      rep 1 ((!numB kb) = false) <|
      rep 1 ((!numB ka) = false) <|
      rep 3 (((!numB ka) == false) = true) <|
      rep 1 (noneB kb = false) <|
      rep 1 (noneB ka = false) <|
      rep 2 ((noneB ka == false) = true) <|
      []) by kernel_rfl) (by simp only [all_rep, all_nil]; simp [*])

theorem tw_10 (p : Int) (ka : Int) (na : Int) (sa : ByteArray) (xba : Bool) (eba : Es) (xfa : Bool) (efa : Es) (xla : Bool) (ela : Es) (kb : Int) (nb : Int) (sb : ByteArray) (xbb : Bool) (ebb : Es) (xfb : Bool) (efb : Es) (xlb : Bool) (elb : Es)
    (h0 : noneB ka = false)
    (h1 : noneB kb = false)
    (h2 : numB ka = true)
    (h3 : numB kb = true)
    (h4 : (p == (47 : Int)) = false)
    (h5 : (p == (37 : Int)) = true)
    (h6 : (nb == (0 : Int)) = true) :
    ∃ X, Ev c0.P c0.T (.call 25 (three p ka na sa xba eba xfa efa xla ela kb nb sb xbb ebb xfb efb xlb elb) [] (D.tuple
  [D.agg
      [D.int IntKind.i64 (0 : Int), D.int IntKind.i64 (0 : Int), D.str (ByteArray.mk #[]), D.slice false [] none,
        D.slice false [] none, D.slice false [] none],
    D.int IntKind.i64 (11 : Int)]) ([] ++ X)) :=
  outC_ok cTOk (show outC 0 (qT p ka na sa xba eba xfa efa xla ela kb nb sb xbb ebb xfb efb xlb elb (.path [true, true, false, false, true, true, true, false, false, true, true, false, true, true, true, true, true])) = some (D.tuple
  [D.agg
      [D.int IntKind.i64 (0 : Int), D.int IntKind.i64 (0 : Int), D.str (ByteArray.mk #[]), D.slice false [] none,
        D.slice false [] none, D.slice false [] none],
    D.int IntKind.i64 (11 : Int)], [],
    rep 1 ((nb == (0 : Int)) = true) <|
      rep 1 ((p == (37 : Int)) = true) <|
      rep 3 (((p == (37 : Int)) == true) = true) <|
      rep 1 ((p == (47 : Int)) = false) <|
      rep 2 (((p == (47 : Int)) == false) = true) <|
      rep 1 ((!numB kb) = false) <|
      rep 1 ((!numB ka) = false) <|
      rep 3 (((!numB ka) == false) = true) <|
      rep 1 (noneB kb = false) <|
      rep 1 (noneB ka = false) <|
      rep 2 ((noneB ka == false) = true) <|
      []) by kernel_rfl) (by simp only [all_rep, all_nil]; simp [*])

theorem tw_11 (p : Int) (ka : Int) (na : Int) (sa : ByteArray) (xba : Bool) (eba : Es) (xfa : Bool) (efa : Es) (xla : Bool) (ela : Es) (kb : Int) (nb : Int) (sb : ByteArray) (xbb : Bool) (ebb : Es) (xfb : Bool) (efb : Es) (xlb : Bool) (elb : Es)
    (h0 : noneB ka = false)
    (h1 : noneB kb = false)
    (h2 : numB ka = true)
    (h3 : numB kb = true)
    (h4 : (p == (47 : Int)) = false)
    (h5 : (p == (37 : Int)) = true)
    (h6 : (nb == (0 : Int)) = false)
    (h7 : (p == (43 : Int)) = false)
    (h8 : (p == (45 : Int)) = false)
    (h9 : (p == (42 : Int)) = false)
    (h10 : (nb != (-1 : Int)) = true)
    (h11 : (ka == (4 : Int)) = true)
    (h12 : nb ≠ (0 : Int)) :
    ∃ X, Ev c0.P c0.T (.call 25 (three p ka na sa xba eba xfa efa xla ela kb nb sb xbb ebb xfb efb xlb elb) [] (D.tuple
  [D.agg
      [D.int IntKind.i64 (4 : Int), D.int IntKind.i64 (na.tmod nb), D.str (ByteArray.mk #[]), D.slice false [] none,
        D.slice false [] none, D.slice false [] none],
    D.int IntKind.i64 (0 : Int)]) ([] ++ X)) :=
  outC_ok cTOk (show outC 0 (qT p ka na sa xba eba xfa efa xla ela kb nb sb xbb ebb xfb efb xlb elb (.path [true, true, false, false, true, true, true, false, false, true, true, false, true, true, true, true, false, false, false, false, false, true, false, false, false, false, true, true])) = some (D.tuple
  [D.agg
      [D.int IntKind.i64 (4 : Int), D.int IntKind.i64 (na.tmod nb), D.str (ByteArray.mk #[]), D.slice false [] none,
        D.slice false [] none, D.slice false [] none],
    D.int IntKind.i64 (0 : Int)], [],
    rep 1 (true = true) <|
      rep 1 ((ka == (4 : Int)) = true) <|
      rep 3 (((ka == (4 : Int)) == false) = false) <|
      rep 1 ((!true) = false) <|
      rep 1 (nb ≠ (0 : Int)) <|
      rep 1 ((nb != (-1 : Int)) = true) <|
      rep 1 ((p == (47 : Int)) = false) <|
      rep 1 ((p == (42 : Int)) = false) <|
      rep 1 ((p == (45 : Int)) = false) <|
      rep 1 ((p == (43 : Int)) = false) <|
      rep 1 ((nb == (0 : Int)) = false) <|
      rep 1 ((p == (37 : Int)) = true) <|
      rep 3 (((p == (37 : Int)) == true) = true) <|
      rep 1 ((p == (47 : Int)) = false) <|
      rep 2 (((p == (47 : Int)) == false) = true) <|
      rep 1 ((!numB kb) = false) <|
      rep 1 ((!numB ka) = false) <|
      rep 3 (((!numB ka) == false) = true) <|
      rep 1 (noneB kb = false) <|
      rep 1 (noneB ka = false) <|
      rep 2 ((noneB ka == false) = true) <|
      []) by kernel_rfl) (by simp only [all_rep, all_nil]; simp [*])

theorem tw_12 (p : Int) (ka : Int) (na : Int) (sa : ByteArray) (xba : Bool) (eba : Es) (xfa : Bool) (efa : Es) (xla : Bool) (ela : Es) (kb : Int) (nb : Int) (sb : ByteArray) (xbb : Bool) (ebb : Es) (xfb : Bool) (efb : Es) (xlb : Bool) (elb : Es)
    (h0 : noneB ka = false)
    (h1 : noneB kb = false)
    (h2 : numB ka = true)
    (h3 : numB kb = true)
    (h4 : (p == (47 : Int)) = false)
    (h5 : (p == (37 : Int)) = true)
    (h6 : (nb == (0 : Int)) = false)
    (h7 : (p == (43 : Int)) = false)
    (h8 : (p == (45 : Int)) = false)
    (h9 : (p == (42 : Int)) = false)
    (h10 : (nb != (-1 : Int)) = true)
    (h11 : (ka == (4 : Int)) = false)
    (h12 : (kb == (4 : Int)) = true)
    (h13 : nb ≠ (0 : Int)) :
    ∃ X, Ev c0.P c0.T (.call 25 (three p ka na sa xba eba xfa efa xla ela kb nb sb xbb ebb xfb efb xlb elb) [] (D.tuple
  [D.agg
      [D.int IntKind.i64 (4 : Int), D.int IntKind.i64 (na.tmod nb), D.str (ByteArray.mk #[]), D.slice false [] none,
        D.slice false [] none, D.slice false [] none],
    D.int IntKind.i64 (0 : Int)]) ([] ++ X)) :=
  outC_ok cTOk (show outC 0 (qT p ka na sa xba eba xfa efa xla ela kb nb sb xbb ebb xfb efb xlb elb (.path [true, true, false, false, true, true, true, false, false, true, true, false, true, true, true, true, false, false, false, false, false, true, false, true, true, true, false, true])) = some (D.tuple
  [D.agg
      [D.int IntKind.i64 (4 : Int), D.int IntKind.i64 (na.tmod nb), D.str (ByteArray.mk #[]), D.slice false [] none,
        D.slice false [] none, D.slice false [] none],
    D.int IntKind.i64 (0 : Int)], [],
    rep 1 ((kb == (4 : Int)) = true) <|
      rep 1 ((ka == (4 : Int)) = false) <|
      rep 3 (((ka == (4 : Int)) == false) = true) <|
      rep 1 ((!true) = false) <|
      rep 1 (nb ≠ (0 : Int)) <|
      rep 1 ((nb != (-1 : Int)) = true) <|
      rep 1 ((p == (47 : Int)) = false) <|
      rep 1 ((p == (42 : Int)) = false) <|
      rep 1 ((p == (45 : Int)) = false) <|
      rep 1 ((p == (43 : Int)) = false) <|
      rep 1 ((nb == (0 : Int)) = false) <|
      rep 1 ((p == (37 : Int)) = true) <|
      rep 3 (((p == (37 : Int)) == true) = true) <|
      rep 1 ((p == (47 : Int)) = false) <|
      rep 2 (((p == (47 : Int)) == false) = true) <|
      rep 1 ((!numB kb) = false) <|
      rep 1 ((!numB ka) = false) <|
      rep 3 (((!numB ka) == false) = true) <|
      rep 1 (noneB kb = false) <|
      rep 1 (noneB ka = false) <|
      rep 2 ((noneB ka == false) = true) <|
      []) by kernel_rfl) (by simp only [all_rep, all_nil]; simp [*])

theorem tw_13 (p : Int) (ka : Int) (na : Int) (sa : ByteArray) (xba : Bool) (eba : Es) (xfa : Bool) (efa : Es) (xla : Bool) (ela : Es) (kb : Int) (nb : Int) (sb : ByteArray) (xbb : Bool) (ebb : Es) (xfb : Bool) (efb : Es) (xlb : Bool) (elb : Es)
    (h0 : noneB ka = false)
    (h1 : noneB kb = false)
    (h2 : numB ka = true)
    (h3 : numB kb = true)
    (h4 : (p == (47 : Int)) = false)
    (h5 : (p == (37 : Int)) = true)
    (h6 : (nb == (0 : Int)) = false)
    (h7 : (p == (43 : Int)) = false)
    (h8 : (p == (45 : Int)) = false)
    (h9 : (p == (42 : Int)) = false)
    (h10 : (nb != (-1 : Int)) = true)
    (h11 : (ka == (4 : Int)) = false)
    (h12 : (kb == (4 : Int)) = false)
    (h13 : nb ≠ (0 : Int)) :
    ∃ X, Ev c0.P c0.T (.call 25 (three p ka na sa xba eba xfa efa xla ela kb nb sb xbb ebb xfb efb xlb elb) [] (D.tuple
  [D.agg
      [D.int IntKind.i64 (of32 (na.tmod nb)), D.int IntKind.i64 (na.tmod nb), D.str (ByteArray.mk #[]),
        D.slice false [] none, D.slice false [] none, D.slice false [] none],
    D.int IntKind.i64 (0 : Int)]) ([] ++ X)) :=
  outC_ok cTOk (show outC 0 (qT p ka na sa xba eba xfa efa xla ela kb nb sb xbb ebb xfb efb xlb elb (.path [true, true, false, false, true, true, true, false, false, true, true, false, true, true, true, true, false, false, false, false, false, true, false, true, true, true, false, false])) = some (D.tuple
  [D.agg
      [D.int IntKind.i64 (of32 (na.tmod nb)), D.int IntKind.i64 (na.tmod nb), D.str (ByteArray.mk #[]),
        D.slice false [] none, D.slice false [] none, D.slice false [] none],
    D.int IntKind.i64 (0 : Int)], [],
    rep 1 ((kb == (4 : Int)) = false) <|
      rep 1 ((ka == (4 : Int)) = false) <|
      rep 3 (((ka == (4 : Int)) == false) = true) <|
      rep 1 ((!true) = false) <|
      rep 1 (nb ≠ (0 : Int)) <|
      rep 1 ((nb != (-1 : Int)) = true) <|
      rep 1 ((p == (47 : Int)) = false) <|
      rep 1 ((p == (42 : Int)) = false) <|
      rep 1 ((p == (45 : Int)) = false) <|
      rep 1 ((p == (43 : Int)) = false) <|
      rep 1 ((nb == (0 : Int)) = false) <|
      rep 1 ((p == (37 : Int)) = true) <|
      rep 3 (((p == (37 : Int)) == true) = true) <|
      rep 1 ((p == (47 : Int)) = false) <|
      rep 2 (((p == (47 : Int)) == false) = true) <|
      rep 1 ((!numB kb) = false) <|
      rep 1 ((!numB ka) = false) <|
      rep 3 (((!numB ka) == false) = true) <|
      rep 1 (noneB kb = false) <|
      rep 1 (noneB ka = false) <|
      rep 2 ((noneB ka == false) = true) <|
      []) by kernel_rfl) (by simp only [all_rep, all_nil]; simp [*])

theorem tw_14 (p : Int) (ka : Int) (na : Int) (sa : ByteArray) (xba : Bool) (eba : Es) (xfa : Bool) (efa : Es) (xla : Bool) (ela : Es) (kb : Int) (nb : Int) (sb : ByteArray) (xbb : Bool) (ebb : Es) (xfb : Bool) (efb : Es) (xlb : Bool) (elb : Es)
    (h0 : noneB ka = false)
    (h1 : noneB kb = false)
    (h2 : numB ka = true)
    (h3 : numB kb = true)
    (h4 : (p == (47 : Int)) = false)
    (h5 : (p == (37 : Int)) = true)
    (h6 : (nb == (0 : Int)) = false)
    (h7 : (p == (43 : Int)) = false)
    (h8 : (p == (45 : Int)) = false)
    (h9 : (p == (42 : Int)) = false)
    (h10 : (nb != (-1 : Int)) = false)
    (h11 : (ka == (4 : Int)) = true) :
    ∃ X, Ev c0.P c0.T (.call 25 (three p ka na sa xba eba xfa efa xla ela kb nb sb xbb ebb xfb efb xlb elb) [] (D.tuple
  [D.agg
      [D.int IntKind.i64 (4 : Int), D.int IntKind.i64 (0 : Int), D.str (ByteArray.mk #[]), D.slice false [] none,
        D.slice false [] none, D.slice false [] none],
    D.int IntKind.i64 (0 : Int)]) ([] ++ X)) :=
  outC_ok cTOk (show outC 0 (qT p ka na sa xba eba xfa efa xla ela kb nb sb xbb ebb xfb efb xlb elb (.path [true, true, false, false, true, true, true, false, false, true, true, false, true, true, true, true, false, false, false, false, false, false, false, false, false, false, true, true])) = some (D.tuple
  [D.agg
      [D.int IntKind.i64 (4 : Int), D.int IntKind.i64 (0 : Int), D.str (ByteArray.mk #[]), D.slice false [] none,
        D.slice false [] none, D.slice false [] none],
    D.int IntKind.i64 (0 : Int)], [],
    rep 1 (true = true) <|
      rep 1 ((ka == (4 : Int)) = true) <|
      rep 3 (((ka == (4 : Int)) == false) = false) <|
      rep 1 ((!true) = false) <|
      rep 1 ((nb != (-1 : Int)) = false) <|
      rep 1 ((p == (47 : Int)) = false) <|
      rep 1 ((p == (42 : Int)) = false) <|
      rep 1 ((p == (45 : Int)) = false) <|
      rep 1 ((p == (43 : Int)) = false) <|
      rep 1 ((nb == (0 : Int)) = false) <|
      rep 1 ((p == (37 : Int)) = true) <|
      rep 3 (((p == (37 : Int)) == true) = true) <|
      rep 1 ((p == (47 : Int)) = false) <|
      rep 2 (((p == (47 : Int)) == false) = true) <|
      rep 1 ((!numB kb) = false) <|
      rep 1 ((!numB ka) = false) <|
      rep 3 (((!numB ka) == false) = true) <|
      rep 1 (noneB kb = false) <|
      rep 1 (noneB ka = false) <|
      rep 2 ((noneB ka == false) = true) <|
      []) by kernel_rfl) (by simp only [all_rep, all_nil]; simp [*])

theorem tw_15 (p : Int) (ka : Int) (na : Int) (sa : ByteArray) (xba : Bool) (eba : Es) (xfa : Bool) (efa : Es) (xla : Bool) (ela : Es) (kb : Int) (nb : Int) (sb : ByteArray) (xbb : Bool) (ebb : Es) (xfb : Bool) (efb : Es) (xlb : Bool) (elb : Es)
    (h0 : noneB ka = false)
    (h1 : noneB kb = false)
    (h2 : numB ka = true)
    (h3 : numB kb = true)
    (h4 : (p == (47 : Int)) = false)
    (h5 : (p == (37 : Int)) = true)
    (h6 : (nb == (0 : Int)) = false)
    (h7 : (p == (43 : Int)) = false)
    (h8 : (p == (45 : Int)) = false)
    (h9 : (p == (42 : Int)) = false)
    (h10 : (nb != (-1 : Int)) = false)
    (h11 : (ka == (4 : Int)) = false)
    (h12 : (kb == (4 : Int)) = true) :
    ∃ X, Ev c0.P c0.T (.call 25 (three p ka na sa xba eba xfa efa xla ela kb nb sb xbb ebb xfb efb xlb elb) [] (D.tuple
  [D.agg
      [D.int IntKind.i64 (4 : Int), D.int IntKind.i64 (0 : Int), D.str (ByteArray.mk #[]), D.slice false [] none,
        D.slice false [] none, D.slice false [] none],
    D.int IntKind.i64 (0 : Int)]) ([] ++ X)) :=
  outC_ok cTOk (show outC 0 (qT p ka na sa xba eba xfa efa xla ela kb nb sb xbb ebb xfb efb xlb elb (.path [true, true, false, false, true, true, true, false, false, true, true, false, true, true, true, true, false, false, false, false, false, false, false, true, true, true, false, true])) = some (D.tuple
  [D.agg
      [D.int IntKind.i64 (4 : Int), D.int IntKind.i64 (0 : Int), D.str (ByteArray.mk #[]), D.slice false [] none,
        D.slice false [] none, D.slice false [] none],
    D.int IntKind.i64 (0 : Int)], [],
    rep 1 ((kb == (4 : Int)) = true) <|
      rep 1 ((ka == (4 : Int)) = false) <|
      rep 3 (((ka == (4 : Int)) == false) = true) <|
      rep 1 ((!true) = false) <|
      rep 1 ((nb != (-1 : Int)) = false) <|
      rep 1 ((p == (47 : Int)) = false) <|
      rep 1 ((p == (42 : Int)) = false) <|
      rep 1 ((p == (45 : Int)) = false) <|
      rep 1 ((p == (43 : Int)) = false) <|
      rep 1 ((nb == (0 : Int)) = false) <|
      rep 1 ((p == (37 : Int)) = true) <|
      rep 3 (((p == (37 : Int)) == true) = true) <|
      rep 1 ((p == (47 : Int)) = false) <|
      rep 2 (((p == (47 : Int)) == false) = true) <|
      rep 1 ((!numB kb) = false) <|
      rep 1 ((!numB ka) = false) <|
      rep 3 (((!numB ka) == false) = true) <|
      rep 1 (noneB kb = false) <|
      rep 1 (noneB ka = false) <|
      rep 2 ((noneB ka == false) = true) <|
      []) by kernel_rfl) (by simp only [all_rep, all_nil]; simp [*])

theorem tw_16 (p : Int) (ka : Int) (na : Int) (sa : ByteArray) (xba : Bool) (eba : Es) (xfa : Bool) (efa : Es) (xla : Bool) (ela : Es) (kb : Int) (nb : Int) (sb : ByteArray) (xbb : Bool) (ebb : Es) (xfb : Bool) (efb : Es) (xlb : Bool) (elb : Es)
    (h0 : noneB ka = false)
    (h1 : noneB kb = false)
    (h2 : numB ka = true)
    (h3 : numB kb = true)
    (h4 : (p == (47 : Int)) = false)
    (h5 : (p == (37 : Int)) = true)
    (h6 : (nb == (0 : Int)) = false)
    (h7 : (p == (43 : Int)) = false)
    (h8 : (p == (45 : Int)) = false)
    (h9 : (p == (42 : Int)) = false)
    (h10 : (nb != (-1 : Int)) = false)
    (h11 : (ka == (4 : Int)) = false)
    (h12 : (kb == (4 : Int)) = false) :
    ∃ X, Ev c0.P c0.T (.call 25 (three p ka na sa xba eba xfa efa xla ela kb nb sb xbb ebb xfb efb xlb elb) [] (D.tuple
  [D.agg
      [D.int IntKind.i64 (of32 (0 : Int)), D.int IntKind.i64 (0 : Int), D.str (ByteArray.mk #[]), D.slice false [] none,
        D.slice false [] none, D.slice false [] none],
    D.int IntKind.i64 (0 : Int)]) ([] ++ X)) :=
  outC_ok cTOk (show outC 0 (qT p ka na sa xba eba xfa efa xla ela kb nb sb xbb ebb xfb efb xlb elb (.path [true, true, false, false, true, true, true, false, false, true, true, false, true, true, true, true, false, false, false, false, false, false, false, true, true, true, false, false])) = some (D.tuple
  [D.agg
      [D.int IntKind.i64 (of32 (0 : Int)), D.int IntKind.i64 (0 : Int), D.str (ByteArray.mk #[]), D.slice false [] none,
        D.slice false [] none, D.slice false [] none],
    D.int IntKind.i64 (0 : Int)], [],
    rep 1 ((kb == (4 : Int)) = false) <|
      rep 1 ((ka == (4 : Int)) = false) <|
      rep 3 (((ka == (4 : Int)) == false) = true) <|
      rep 1 ((!true) = false) <|
      rep 1 ((nb != (-1 : Int)) = false) <|
      rep 1 ((p == (47 : Int)) = false) <|
      rep 1 ((p == (42 : Int)) = false) <|
      rep 1 ((p == (45 : Int)) = false) <|
      rep 1 ((p == (43 : Int)) = false) <|
      rep 1 ((nb == (0 : Int)) = false) <|
      rep 1 ((p == (37 : Int)) = true) <|
      rep 3 (((p == (37 : Int)) == true) = true) <|
      rep 1 ((p == (47 : Int)) = false) <|
      rep 2 (((p == (47 : Int)) == false) = true) <|
      rep 1 ((!numB kb) = false) <|
      rep 1 ((!numB ka) = false) <|
      rep 3 (((!numB ka) == false) = true) <|
      rep 1 (noneB kb = false) <|
      rep 1 (noneB ka = false) <|
      rep 2 ((noneB ka == false) = true) <|
      []) by kernel_rfl) (by simp only [all_rep, all_nil]; simp [*])

theorem tw_17 (p : Int) (ka : Int) (na : Int) (sa : ByteArray) (xba : Bool) (eba : Es) (xfa : Bool) (efa : Es) (xla : Bool) (ela : Es) (kb : Int) (nb : Int) (sb : ByteArray) (xbb : Bool) (ebb : Es) (xfb : Bool) (efb : Es) (xlb : Bool) (elb : Es)
    (h0 : noneB ka = false)
    (h1 : noneB kb = false)
    (h2 : numB ka = true)
    (h3 : numB kb = true)
    (h4 : (p == (47 : Int)) = false)
    (h5 : (p == (37 : Int)) = false)
    (h6 : (p == (43 : Int)) = true)
    (h7 : (decide (nb ≥ (0 : Int)) == decide (IntKind.i64.wrap (na + nb) ≥ na)) = true)
    (h8 : (ka == (4 : Int)) = true) :
    ∃ X, Ev c0.P c0.T (.call 25 (three p ka na sa xba eba xfa efa xla ela kb nb sb xbb ebb xfb efb xlb elb) [] (D.tuple
  [D.agg
      [D.int IntKind.i64 (4 : Int), D.int IntKind.i64 (IntKind.i64.wrap (na + nb)), D.str (ByteArray.mk #[]),
        D.slice false [] none, D.slice false [] none, D.slice false [] none],
    D.int IntKind.i64 (0 : Int)]) ([] ++ X)) :=
  outC_ok cTOk (show outC 0 (qT p ka na sa xba eba xfa efa xla ela kb nb sb xbb ebb xfb efb xlb elb (.path [true, true, false, false, true, true, true, false, false, true, true, false, false, false, false, false, false, true, false, false, false, false, true, true])) = some (D.tuple
  [D.agg
      [D.int IntKind.i64 (4 : Int), D.int IntKind.i64 (IntKind.i64.wrap (na + nb)), D.str (ByteArray.mk #[]),
        D.slice false [] none, D.slice false [] none, D.slice false [] none],
    D.int IntKind.i64 (0 : Int)], [],
    rep 1 (true = true) <|
      rep 1 ((ka == (4 : Int)) = true) <|
      rep 3 (((ka == (4 : Int)) == false) = false) <|
      rep 1 ((!decide (nb ≥ (0 : Int)) == decide (IntKind.i64.wrap (na + nb) ≥ na)) = false) <|
      rep 1 ((p == (43 : Int)) = true) <|
      rep 1 (false = false) <|
      rep 1 ((p == (37 : Int)) = false) <|
      rep 3 (((p == (37 : Int)) == true) = false) <|
      rep 1 ((p == (47 : Int)) = false) <|
      rep 2 (((p == (47 : Int)) == false) = true) <|
      rep 1 ((!numB kb) = false) <|
      rep 1 ((!numB ka) = false) <|
      rep 3 (((!numB ka) == false) = true) <|
      rep 1 (noneB kb = false) <|
      rep 1 (noneB ka = false) <|
      rep 2 ((noneB ka == false) = true) <|
      []) by kernel_rfl) (by simp only [all_rep, all_nil]; simp [*])

theorem tw_18 (p : Int) (ka : Int) (na : Int) (sa : ByteArray) (xba : Bool) (eba : Es) (xfa : Bool) (efa : Es) (xla : Bool) (ela : Es) (kb : Int) (nb : Int) (sb : ByteArray) (xbb : Bool) (ebb : Es) (xfb : Bool) (efb : Es) (xlb : Bool) (elb : Es)
    (h0 : noneB ka = false)
    (h1 : noneB kb = false)
    (h2 : numB ka = true)
    (h3 : numB kb = true)
    (h4 : (p == (47 : Int)) = false)
    (h5 : (p == (37 : Int)) = false)
    (h6 : (p == (43 : Int)) = true)
    (h7 : (decide (nb ≥ (0 : Int)) == decide (IntKind.i64.wrap (na + nb) ≥ na)) = true)
    (h8 : (ka == (4 : Int)) = false)
    (h9 : (kb == (4 : Int)) = true) :
    ∃ X, Ev c0.P c0.T (.call 25 (three p ka na sa xba eba xfa efa xla ela kb nb sb xbb ebb xfb efb xlb elb) [] (D.tuple
  [D.agg
      [D.int IntKind.i64 (4 : Int), D.int IntKind.i64 (IntKind.i64.wrap (na + nb)), D.str (ByteArray.mk #[]),
        D.slice false [] none, D.slice false [] none, D.slice false [] none],
    D.int IntKind.i64 (0 : Int)]) ([] ++ X)) :=
  outC_ok cTOk (show outC 0 (qT p ka na sa xba eba xfa efa xla ela kb nb sb xbb ebb xfb efb xlb elb (.path [true, true, false, false, true, true, true, false, false, true, true, false, false, false, false, false, false, true, false, true, true, true, false, true])) = some (D.tuple
  [D.agg
      [D.int IntKind.i64 (4 : Int), D.int IntKind.i64 (IntKind.i64.wrap (na + nb)), D.str (ByteArray.mk #[]),
        D.slice false [] none, D.slice false [] none, D.slice false [] none],
    D.int IntKind.i64 (0 : Int)], [],
    rep 1 ((kb == (4 : Int)) = true) <|
      rep 1 ((ka == (4 : Int)) = false) <|
      rep 3 (((ka == (4 : Int)) == false) = true) <|
      rep 1 ((!decide (nb ≥ (0 : Int)) == decide (IntKind.i64.wrap (na + nb) ≥ na)) = false) <|
      rep 1 ((p == (43 : Int)) = true) <|
      rep 1 (false = false) <|
      rep 1 ((p == (37 : Int)) = false) <|
      rep 3 (((p == (37 : Int)) == true) = false) <|
      rep 1 ((p == (47 : Int)) = false) <|
      rep 2 (((p == (47 : Int)) == false) = true) <|
      rep 1 ((!numB kb) = false) <|
      rep 1 ((!numB ka) = false) <|
      rep 3 (((!numB ka) == false) = true) <|
      rep 1 (noneB kb = false) <|
      rep 1 (noneB ka = false) <|
      rep 2 ((noneB ka == false) = true) <|
      []) by kernel_rfl) (by simp only [all_rep, all_nil]; simp [*])

theorem tw_19 (p : Int) (ka : Int) (na : Int) (sa : ByteArray) (xba : Bool) (eba : Es) (xfa : Bool) (efa : Es) (xla : Bool) (ela : Es) (kb : Int) (nb : Int) (sb : ByteArray) (xbb : Bool) (ebb : Es) (xfb : Bool) (efb : Es) (xlb : Bool) (elb : Es)
    (h0 : noneB ka = false)
    (h1 : noneB kb = false)
    (h2 : numB ka = true)
    (h3 : numB kb = true)
    (h4 : (p == (47 : Int)) = false)
    (h5 : (p == (37 : Int)) = false)
    (h6 : (p == (43 : Int)) = true)
    (h7 : (decide (nb ≥ (0 : Int)) == decide (IntKind.i64.wrap (na + nb) ≥ na)) = true)
    (h8 : (ka == (4 : Int)) = false)
    (h9 : (kb == (4 : Int)) = false) :
    ∃ X, Ev c0.P c0.T (.call 25 (three p ka na sa xba eba xfa efa xla ela kb nb sb xbb ebb xfb efb xlb elb) [] (D.tuple
  [D.agg
      [D.int IntKind.i64 (of32 (IntKind.i64.wrap (na + nb))), D.int IntKind.i64 (IntKind.i64.wrap (na + nb)),
        D.str (ByteArray.mk #[]), D.slice false [] none, D.slice false [] none, D.slice false [] none],
    D.int IntKind.i64 (0 : Int)]) ([] ++ X)) :=
  outC_ok cTOk (show outC 0 (qT p ka na sa xba eba xfa efa xla ela kb nb sb xbb ebb xfb efb xlb elb (.path [true, true, false, false, true, true, true, false, false, true, true, false, false, false, false, false, false, true, false, true, true, true, false, false])) = some (D.tuple
  [D.agg
      [D.int IntKind.i64 (of32 (IntKind.i64.wrap (na + nb))), D.int IntKind.i64 (IntKind.i64.wrap (na + nb)),
        D.str (ByteArray.mk #[]), D.slice false [] none, D.slice false [] none, D.slice false [] none],
    D.int IntKind.i64 (0 : Int)], [],
    rep 1 ((kb == (4 : Int)) = false) <|
      rep 1 ((ka == (4 : Int)) = false) <|
      rep 3 (((ka == (4 : Int)) == false) = true) <|
      rep 1 ((!decide (nb ≥ (0 : Int)) == decide (IntKind.i64.wrap (na + nb) ≥ na)) = false) <|
      rep 1 ((p == (43 : Int)) = true) <|
      rep 1 (false = false) <|
      rep 1 ((p == (37 : Int)) = false) <|
      rep 3 (((p == (37 : Int)) == true) = false) <|
      rep 1 ((p == (47 : Int)) = false) <|
      rep 2 (((p == (47 : Int)) == false) = true) <|
      rep 1 ((!numB kb) = false) <|
      rep 1 ((!numB ka) = false) <|
      rep 3 (((!numB ka) == false) = true) <|
      rep 1 (noneB kb = false) <|
      rep 1 (noneB ka = false) <|
      rep 2 ((noneB ka == false) = true) <|
      []) by kernel_rfl) (by simp only [all_rep, all_nil]; simp [*])

theorem tw_20 (p : Int) (ka : Int) (na : Int) (sa : ByteArray) (xba : Bool) (eba : Es) (xfa : Bool) (efa : Es) (xla : Bool) (ela : Es) (kb : Int) (nb : Int) (sb : ByteArray) (xbb : Bool) (ebb : Es) (xfb : Bool) (efb : Es) (xlb : Bool) (elb : Es)
    (h0 : noneB ka = false)
    (h1 : noneB kb = false)
    (h2 : numB ka = true)
    (h3 : numB kb = true)
    (h4 : (p == (47 : Int)) = false)
    (h5 : (p == (37 : Int)) = false)
    (h6 : (p == (43 : Int)) = true)
    (h7 : (decide (nb ≥ (0 : Int)) == decide (IntKind.i64.wrap (na + nb) ≥ na)) = false) :
    ∃ X, Ev c0.P c0.T (.call 25 (three p ka na sa xba eba xfa efa xla ela kb nb sb xbb ebb xfb efb xlb elb) [] (D.tuple
  [D.agg
      [D.int IntKind.i64 (0 : Int), D.int IntKind.i64 (0 : Int), D.str (ByteArray.mk #[]), D.slice false [] none,
        D.slice false [] none, D.slice false [] none],
    D.int IntKind.i64 (10 : Int)]) ([] ++ X)) :=
  outC_ok cTOk (show outC 0 (qT p ka na sa xba eba xfa efa xla ela kb nb sb xbb ebb xfb efb xlb elb (.path [true, true, false, false, true, true, true, false, false, true, true, false, false, false, false, false, false, true, true])) = some (D.tuple
  [D.agg
      [D.int IntKind.i64 (0 : Int), D.int IntKind.i64 (0 : Int), D.str (ByteArray.mk #[]), D.slice false [] none,
        D.slice false [] none, D.slice false [] none],
    D.int IntKind.i64 (10 : Int)], [],
    rep 1 ((!decide (nb ≥ (0 : Int)) == decide (IntKind.i64.wrap (na + nb) ≥ na)) = true) <|
      rep 1 ((p == (43 : Int)) = true) <|
      rep 1 (false = false) <|
      rep 1 ((p == (37 : Int)) = false) <|
      rep 3 (((p == (37 : Int)) == true) = false) <|
      rep 1 ((p == (47 : Int)) = false) <|
      rep 2 (((p == (47 : Int)) == false) = true) <|
      rep 1 ((!numB kb) = false) <|
      rep 1 ((!numB ka) = false) <|
      rep 3 (((!numB ka) == false) = true) <|
      rep 1 (noneB kb = false) <|
      rep 1 (noneB ka = false) <|
      rep 2 ((noneB ka == false) = true) <|
      []) by kernel_rfl) (by simp only [all_rep, all_nil]; simp [*])

theorem tw_21 (p : Int) (ka : Int) (na : Int) (sa : ByteArray) (xba : Bool) (eba : Es) (xfa : Bool) (efa : Es) (xla : Bool) (ela : Es) (kb : Int) (nb : Int) (sb : ByteArray) (xbb : Bool) (ebb : Es) (xfb : Bool) (efb : Es) (xlb : Bool) (elb : Es)
    (h0 : noneB ka = false)
    (h1 : noneB kb = false)
    (h2 : numB ka = true)
    (h3 : numB kb = true)
    (h4 : (p == (47 : Int)) = false)
    (h5 : (p == (37 : Int)) = false)
    (h6 : (p == (43 : Int)) = false)
    (h7 : (p == (45 : Int)) = true)
    (h8 : (decide (nb ≤ (0 : Int)) == decide (IntKind.i64.wrap (na - nb) ≥ na)) = true)
    (h9 : (ka == (4 : Int)) = true) :
    ∃ X, Ev c0.P c0.T (.call 25 (three p ka na sa xba eba xfa efa xla ela kb nb sb xbb ebb xfb efb xlb elb) [] (D.tuple
  [D.agg
      [D.int IntKind.i64 (4 : Int), D.int IntKind.i64 (IntKind.i64.wrap (na - nb)), D.str (ByteArray.mk #[]),
        D.slice false [] none, D.slice false [] none, D.slice false [] none],
    D.int IntKind.i64 (0 : Int)]) ([] ++ X)) :=
  outC_ok cTOk (show outC 0 (qT p ka na sa xba eba xfa efa xla ela kb nb sb xbb ebb xfb efb xlb elb (.path [true, true, false, false, true, true, true, false, false, true, true, false, false, false, false, false, false, false, true, false, false, false, false, true, true])) = some (D.tuple
  [D.agg
      [D.int IntKind.i64 (4 : Int), D.int IntKind.i64 (IntKind.i64.wrap (na - nb)), D.str (ByteArray.mk #[]),
        D.slice false [] none, D.slice false [] none, D.slice false [] none],
    D.int IntKind.i64 (0 : Int)], [],
    rep 1 (true = true) <|
      rep 1 ((ka == (4 : Int)) = true) <|
      rep 3 (((ka == (4 : Int)) == false) = false) <|
      rep 1 ((!decide (nb ≤ (0 : Int)) == decide (IntKind.i64.wrap (na - nb) ≥ na)) = false) <|
      rep 1 ((p == (45 : Int)) = true) <|
      rep 1 ((p == (43 : Int)) = false) <|
      rep 1 (false = false) <|
      rep 1 ((p == (37 : Int)) = false) <|
      rep 3 (((p == (37 : Int)) == true) = false) <|
      rep 1 ((p == (47 : Int)) = false) <|
      rep 2 (((p == (47 : Int)) == false) = true) <|
      rep 1 ((!numB kb) = false) <|
      rep 1 ((!numB ka) = false) <|
      rep 3 (((!numB ka) == false) = true) <|
      rep 1 (noneB kb = false) <|
      rep 1 (noneB ka = false) <|
      rep 2 ((noneB ka == false) = true) <|
      []) by kernel_rfl) (by simp only [all_rep, all_nil]; simp [*])

theorem tw_22 (p : Int) (ka : Int) (na : Int) (sa : ByteArray) (xba : Bool) (eba : Es) (xfa : Bool) (efa : Es) (xla : Bool) (ela : Es) (kb : Int) (nb : Int) (sb : ByteArray) (xbb : Bool) (ebb : Es) (xfb : Bool) (efb : Es) (xlb : Bool) (elb : Es)
    (h0 : noneB ka = false)
    (h1 : noneB kb = false)
    (h2 : numB ka = true)
    (h3 : numB kb = true)
    (h4 : (p == (47 : Int)) = false)
    (h5 : (p == (37 : Int)) = false)
    (h6 : (p == (43 : Int)) = false)
    (h7 : (p == (45 : Int)) = true)
    (h8 : (decide (nb ≤ (0 : Int)) == decide (IntKind.i64.wrap (na - nb) ≥ na)) = true)
    (h9 : (ka == (4 : Int)) = false)
    (h10 : (kb == (4 : Int)) = true) :
    ∃ X, Ev c0.P c0.T (.call 25 (three p ka na sa xba eba xfa efa xla ela kb nb sb xbb ebb xfb efb xlb elb) [] (D.tuple
  [D.agg
      [D.int IntKind.i64 (4 : Int), D.int IntKind.i64 (IntKind.i64.wrap (na - nb)), D.str (ByteArray.mk #[]),
        D.slice false [] none, D.slice false [] none, D.slice false [] none],
    D.int IntKind.i64 (0 : Int)]) ([] ++ X)) :=
  outC_ok cTOk (show outC 0 (qT p ka na sa xba eba xfa efa xla ela kb nb sb xbb ebb xfb efb xlb elb (.path [true, true, false, false, true, true, true, false, false, true, true, false, false, false, false, false, false, false, true, false, true, true, true, false, true])) = some (D.tuple
  [D.agg
      [D.int IntKind.i64 (4 : Int), D.int IntKind.i64 (IntKind.i64.wrap (na - nb)), D.str (ByteArray.mk #[]),
        D.slice false [] none, D.slice false [] none, D.slice false [] none],
    D.int IntKind.i64 (0 : Int)], [],
    rep 1 ((kb == (4 : Int)) = true) <|
      rep 1 ((ka == (4 : Int)) = false) <|
      rep 3 (((ka == (4 : Int)) == false) = true) <|
      rep 1 ((!decide (nb ≤ (0 : Int)) == decide (IntKind.i64.wrap (na - nb) ≥ na)) = false) <|
      rep 1 ((p == (45 : Int)) = true) <|
      rep 1 ((p == (43 : Int)) = false) <|
      rep 1 (false = false) <|
      rep 1 ((p == (37 : Int)) = false) <|
      rep 3 (((p == (37 : Int)) == true) = false) <|
      rep 1 ((p == (47 : Int)) = false) <|
      rep 2 (((p == (47 : Int)) == false) = true) <|
      rep 1 ((!numB kb) = false) <|
      rep 1 ((!numB ka) = false) <|
      rep 3 (((!numB ka) == false) = true) <|
      rep 1 (noneB kb = false) <|
      rep 1 (noneB ka = false) <|
      rep 2 ((noneB ka == false) = true) <|
      []) by kernel_rfl) (by simp only [all_rep, all_nil]; simp [*])

theorem tw_23 (p : Int) (ka : Int) (na : Int) (sa : ByteArray) (xba : Bool) (eba : Es) (xfa : Bool) (efa : Es) (xla : Bool) (ela : Es) (kb : Int) (nb : Int) (sb : ByteArray) (xbb : Bool) (ebb : Es) (xfb : Bool) (efb : Es) (xlb : Bool) (elb : Es)
    (h0 : noneB ka = false)
    (h1 : noneB kb = false)
    (h2 : numB ka = true)
    (h3 : numB kb = true)
    (h4 : (p == (47 : Int)) = false)
    (h5 : (p == (37 : Int)) = false)
    (h6 : (p == (43 : Int)) = false)
    (h7 : (p == (45 : Int)) = true)
    (h8 : (decide (nb ≤ (0 : Int)) == decide (IntKind.i64.wrap (na - nb) ≥ na)) = true)
    (h9 : (ka == (4 : Int)) = false)
    (h10 : (kb == (4 : Int)) = false) :
    ∃ X, Ev c0.P c0.T (.call 25 (three p ka na sa xba eba xfa efa xla ela kb nb sb xbb ebb xfb efb xlb elb) [] (D.tuple
  [D.agg
      [D.int IntKind.i64 (of32 (IntKind.i64.wrap (na - nb))), D.int IntKind.i64 (IntKind.i64.wrap (na - nb)),
        D.str (ByteArray.mk #[]), D.slice false [] none, D.slice false [] none, D.slice false [] none],
    D.int IntKind.i64 (0 : Int)]) ([] ++ X)) :=
  outC_ok cTOk (show outC 0 (qT p ka na sa xba eba xfa efa xla ela kb nb sb xbb ebb xfb efb xlb elb (.path [true, true, false, false, true, true, true, false, false, true, true, false, false, false, false, false, false, false, true, false, true, true, true, false, false])) = some (D.tuple
  [D.agg
      [D.int IntKind.i64 (of32 (IntKind.i64.wrap (na - nb))), D.int IntKind.i64 (IntKind.i64.wrap (na - nb)),
        D.str (ByteArray.mk #[]), D.slice false [] none, D.slice false [] none, D.slice false [] none],
    D.int IntKind.i64 (0 : Int)], [],
    rep 1 ((kb == (4 : Int)) = false) <|
      rep 1 ((ka == (4 : Int)) = false) <|
      rep 3 (((ka == (4 : Int)) == false) = true) <|
      rep 1 ((!decide (nb ≤ (0 : Int)) == decide (IntKind.i64.wrap (na - nb) ≥ na)) = false) <|
      rep 1 ((p == (45 : Int)) = true) <|
      rep 1 ((p == (43 : Int)) = false) <|
      rep 1 (false = false) <|
      rep 1 ((p == (37 : Int)) = false) <|
      rep 3 (((p == (37 : Int)) == true) = false) <|
      rep 1 ((p == (47 : Int)) = false) <|
      rep 2 (((p == (47 : Int)) == false) = true) <|
      rep 1 ((!numB kb) = false) <|
      rep 1 ((!numB ka) = false) <|
      rep 3 (((!numB ka) == false) = true) <|
      rep 1 (noneB kb = false) <|
      rep 1 (noneB ka = false) <|
      rep 2 ((noneB ka == false) = true) <|
      []) by kernel_rfl) (by simp only [all_rep, all_nil]; simp [*])

theorem tw_24 (p : Int) (ka : Int) (na : Int) (sa : ByteArray) (xba : Bool) (eba : Es) (xfa : Bool) (efa : Es) (xla : Bool) (ela : Es) (kb : Int) (nb : Int) (sb : ByteArray) (xbb : Bool) (ebb : Es) (xfb : Bool) (efb : Es) (xlb : Bool) (elb : Es)
    (h0 : noneB ka = false)
    (h1 : noneB kb = false)
    (h2 : numB ka = true)
    (h3 : numB kb = true)
    (h4 : (p == (47 : Int)) = false)
    (h5 : (p == (37 : Int)) = false)
    (h6 : (p == (43 : Int)) = false)
    (h7 : (p == (45 : Int)) = true)
    (h8 : (decide (nb ≤ (0 : Int)) == decide (IntKind.i64.wrap (na - nb) ≥ na)) = false) :
    ∃ X, Ev c0.P c0.T (.call 25 (three p ka na sa xba eba xfa efa xla ela kb nb sb xbb ebb xfb efb xlb elb) [] (D.tuple
  [D.agg
      [D.int IntKind.i64 (0 : Int), D.int IntKind.i64 (0 : Int), D.str (ByteArray.mk #[]), D.slice false [] none,
        D.slice false [] none, D.slice false [] none],
    D.int IntKind.i64 (10 : Int)]) ([] ++ X)) :=
  outC_ok cTOk (show outC 0 (qT p ka na sa xba eba xfa efa xla ela kb nb sb xbb ebb xfb efb xlb elb (.path [true, true, false, false, true, true, true, false, false, true, true, false, false, false, false, false, false, false, true, true])) = some (D.tuple
  [D.agg
      [D.int IntKind.i64 (0 : Int), D.int IntKind.i64 (0 : Int), D.str (ByteArray.mk #[]), D.slice false [] none,
        D.slice false [] none, D.slice false [] none],
    D.int IntKind.i64 (10 : Int)], [],
    rep 1 ((!decide (nb ≤ (0 : Int)) == decide (IntKind.i64.wrap (na - nb) ≥ na)) = true) <|
      rep 1 ((p == (45 : Int)) = true) <|
      rep 1 ((p == (43 : Int)) = false) <|
      rep 1 (false = false) <|
      rep 1 ((p == (37 : Int)) = false) <|
      rep 3 (((p == (37 : Int)) == true) = false) <|
      rep 1 ((p == (47 : Int)) = false) <|
      rep 2 (((p == (47 : Int)) == false) = true) <|
      rep 1 ((!numB kb) = false) <|
      rep 1 ((!numB ka) = false) <|
      rep 3 (((!numB ka) == false) = true) <|
      rep 1 (noneB kb = false) <|
      rep 1 (noneB ka = false) <|
      rep 2 ((noneB ka == false) = true) <|
      []) by kernel_rfl) (by simp only [all_rep, all_nil]; simp [*])

theorem tw_25 (p : Int) (ka : Int) (na : Int) (sa : ByteArray) (xba : Bool) (eba : Es) (xfa : Bool) (efa : Es) (xla : Bool) (ela : Es) (kb : Int) (nb : Int) (sb : ByteArray) (xbb : Bool) (ebb : Es) (xfb : Bool) (efb : Es) (xlb : Bool) (elb : Es)
    (h0 : noneB ka = false)
    (h1 : noneB kb = false)
    (h2 : numB ka = true)
    (h3 : numB kb = true)
    (h4 : (p == (47 : Int)) = false)
    (h5 : (p == (37 : Int)) = false)
    (h6 : (p == (43 : Int)) = false)
    (h7 : (p == (45 : Int)) = false)
    (h8 : (p == (42 : Int)) = true)
    (h9 : (na == (0 : Int)) = true)
    (h10 : (ka == (4 : Int)) = true) :
    ∃ X, Ev c0.P c0.T (.call 25 (three p ka na sa xba eba xfa efa xla ela kb nb sb xbb ebb xfb efb xlb elb) [] (D.tuple
  [D.agg
      [D.int IntKind.i64 (4 : Int), D.int IntKind.i64 (IntKind.i64.wrap (na * nb)), D.str (ByteArray.mk #[]),
        D.slice false [] none, D.slice false [] none, D.slice false [] none],
    D.int IntKind.i64 (0 : Int)]) ([] ++ X)) :=
  outC_ok cTOk (show outC 0 (qT p ka na sa xba eba xfa efa xla ela kb nb sb xbb ebb xfb efb xlb elb (.path [true, true, false, false, true, true, true, false, false, true, true, false, false, false, false, false, false, false, false, true, false, false, false, false, false, false, false, false, false, true, false, false, false, false, true, true])) = some (D.tuple
  [D.agg
      [D.int IntKind.i64 (4 : Int), D.int IntKind.i64 (IntKind.i64.wrap (na * nb)), D.str (ByteArray.mk #[]),
        D.slice false [] none, D.slice false [] none, D.slice false [] none],
    D.int IntKind.i64 (0 : Int)], [],
    rep 1 (true = true) <|
      rep 1 ((ka == (4 : Int)) = true) <|
      rep 3 (((ka == (4 : Int)) == false) = false) <|
      rep 1 ((!true) = false) <|
      rep 1 ((na == (0 : Int)) = true) <|
      rep 9 (((na == (0 : Int)) == false) = false) <|
      rep 1 ((p == (42 : Int)) = true) <|
      rep 1 ((p == (45 : Int)) = false) <|
      rep 1 ((p == (43 : Int)) = false) <|
      rep 1 (false = false) <|
      rep 1 ((p == (37 : Int)) = false) <|
      rep 3 (((p == (37 : Int)) == true) = false) <|
      rep 1 ((p == (47 : Int)) = false) <|
      rep 2 (((p == (47 : Int)) == false) = true) <|
      rep 1 ((!numB kb) = false) <|
      rep 1 ((!numB ka) = false) <|
      rep 3 (((!numB ka) == false) = true) <|
      rep 1 (noneB kb = false) <|
      rep 1 (noneB ka = false) <|
      rep 2 ((noneB ka == false) = true) <|
      []) by kernel_rfl) (by simp only [all_rep, all_nil]; simp [*])

theorem tw_26 (p : Int) (ka : Int) (na : Int) (sa : ByteArray) (xba : Bool) (eba : Es) (xfa : Bool) (efa : Es) (xla : Bool) (ela : Es) (kb : Int) (nb : Int) (sb : ByteArray) (xbb : Bool) (ebb : Es) (xfb : Bool) (efb : Es) (xlb : Bool) (elb : Es)
    (h0 : noneB ka = false)
    (h1 : noneB kb = false)
    (h2 : numB ka = true)
    (h3 : numB kb = true)
    (h4 : (p == (47 : Int)) = false)
    (h5 : (p == (37 : Int)) = false)
    (h6 : (p == (43 : Int)) = false)
    (h7 : (p == (45 : Int)) = false)
    (h8 : (p == (42 : Int)) = true)
    (h9 : (na == (0 : Int)) = true)
    (h10 : (ka == (4 : Int)) = false)
    (h11 : (kb == (4 : Int)) = true) :
    ∃ X, Ev c0.P c0.T (.call 25 (three p ka na sa xba eba xfa efa xla ela kb nb sb xbb ebb xfb efb xlb elb) [] (D.tuple
  [D.agg
      [D.int IntKind.i64 (4 : Int), D.int IntKind.i64 (IntKind.i64.wrap (na * nb)), D.str (ByteArray.mk #[]),
        D.slice false [] none, D.slice false [] none, D.slice false [] none],
    D.int IntKind.i64 (0 : Int)]) ([] ++ X)) :=
  outC_ok cTOk (show outC 0 (qT p ka na sa xba eba xfa efa xla ela kb nb sb xbb ebb xfb efb xlb elb (.path [true, true, false, false, true, true, true, false, false, true, true, false, false, false, false, false, false, false, false, true, false, false, false, false, false, false, false, false, false, true, false, true, true, true, false, true])) = some (D.tuple
  [D.agg
      [D.int IntKind.i64 (4 : Int), D.int IntKind.i64 (IntKind.i64.wrap (na * nb)), D.str (ByteArray.mk #[]),
        D.slice false [] none, D.slice false [] none, D.slice false [] none],
    D.int IntKind.i64 (0 : Int)], [],
    rep 1 ((kb == (4 : Int)) = true) <|
      rep 1 ((ka == (4 : Int)) = false) <|
      rep 3 (((ka == (4 : Int)) == false) = true) <|
      rep 1 ((!true) = false) <|
      rep 1 ((na == (0 : Int)) = true) <|
      rep 9 (((na == (0 : Int)) == false) = false) <|
      rep 1 ((p == (42 : Int)) = true) <|
      rep 1 ((p == (45 : Int)) = false) <|
      rep 1 ((p == (43 : Int)) = false) <|
      rep 1 (false = false) <|
      rep 1 ((p == (37 : Int)) = false) <|
      rep 3 (((p == (37 : Int)) == true) = false) <|
      rep 1 ((p == (47 : Int)) = false) <|
      rep 2 (((p == (47 : Int)) == false) = true) <|
      rep 1 ((!numB kb) = false) <|
      rep 1 ((!numB ka) = false) <|
      rep 3 (((!numB ka) == false) = true) <|
      rep 1 (noneB kb = false) <|
      rep 1 (noneB ka = false) <|
      rep 2 ((noneB ka == false) = true) <|
      []) by kernel_rfl) (by simp only [all_rep, all_nil]; simp [*])

theorem tw_27 (p : Int) (ka : Int) (na : Int) (sa : ByteArray) (xba : Bool) (eba : Es) (xfa : Bool) (efa : Es) (xla : Bool) (ela : Es) (kb : Int) (nb : Int) (sb : ByteArray) (xbb : Bool) (ebb : Es) (xfb : Bool) (efb : Es) (xlb : Bool) (elb : Es)
    (h0 : noneB ka = false)
    (h1 : noneB kb = false)
    (h2 : numB ka = true)
    (h3 : numB kb = true)
    (h4 : (p == (47 : Int)) = false)
    (h5 : (p == (37 : Int)) = false)
    (h6 : (p == (43 : Int)) = false)
    (h7 : (p == (45 : Int)) = false)
    (h8 : (p == (42 : Int)) = true)
    (h9 : (na == (0 : Int)) = true)
    (h10 : (ka == (4 : Int)) = false)
    (h11 : (kb == (4 : Int)) = false) :
    ∃ X, Ev c0.P c0.T (.call 25 (three p ka na sa xba eba xfa efa xla ela kb nb sb xbb ebb xfb efb xlb elb) [] (D.tuple
  [D.agg
      [D.int IntKind.i64 (of32 (IntKind.i64.wrap (na * nb))), D.int IntKind.i64 (IntKind.i64.wrap (na * nb)),
        D.str (ByteArray.mk #[]), D.slice false [] none, D.slice false [] none, D.slice false [] none],
    D.int IntKind.i64 (0 : Int)]) ([] ++ X)) :=
  outC_ok cTOk (show outC 0 (qT p ka na sa xba eba xfa efa xla ela kb nb sb xbb ebb xfb efb xlb elb (.path [true, true, false, false, true, true, true, false, false, true, true, false, false, false, false, false, false, false, false, true, false, false, false, false, false, false, false, false, false, true, false, true, true, true, false, false])) = some (D.tuple
  [D.agg
      [D.int IntKind.i64 (of32 (IntKind.i64.wrap (na * nb))), D.int IntKind.i64 (IntKind.i64.wrap (na * nb)),
        D.str (ByteArray.mk #[]), D.slice false [] none, D.slice false [] none, D.slice false [] none],
    D.int IntKind.i64 (0 : Int)], [],
    rep 1 ((kb == (4 : Int)) = false) <|
      rep 1 ((ka == (4 : Int)) = false) <|
      rep 3 (((ka == (4 : Int)) == false) = true) <|
      rep 1 ((!true) = false) <|
      rep 1 ((na == (0 : Int)) = true) <|
      rep 9 (((na == (0 : Int)) == false) = false) <|
      rep 1 ((p == (42 : Int)) = true) <|
      rep 1 ((p == (45 : Int)) = false) <|
      rep 1 ((p == (43 : Int)) = false) <|
      rep 1 (false = false) <|
      rep 1 ((p == (37 : Int)) = false) <|
      rep 3 (((p == (37 : Int)) == true) = false) <|
      rep 1 ((p == (47 : Int)) = false) <|
      rep 2 (((p == (47 : Int)) == false) = true) <|
      rep 1 ((!numB kb) = false) <|
      rep 1 ((!numB ka) = false) <|
      rep 3 (((!numB ka) == false) = true) <|
      rep 1 (noneB kb = false) <|
      rep 1 (noneB ka = false) <|
      rep 2 ((noneB ka == false) = true) <|
      []) by kernel_rfl) (by simp only [all_rep, all_nil]; simp [*])

theorem tw_28 (p : Int) (ka : Int) (na : Int) (sa : ByteArray) (xba : Bool) (eba : Es) (xfa : Bool) (efa : Es) (xla : Bool) (ela : Es) (kb : Int) (nb : Int) (sb : ByteArray) (xbb : Bool) (ebb : Es) (xfb : Bool) (efb : Es) (xlb : Bool) (elb : Es)
    (h0 : noneB ka = false)
    (h1 : noneB kb = false)
    (h2 : numB ka = true)
    (h3 : numB kb = true)
    (h4 : (p == (47 : Int)) = false)
    (h5 : (p == (37 : Int)) = false)
    (h6 : (p == (43 : Int)) = false)
    (h7 : (p == (45 : Int)) = false)
    (h8 : (p == (42 : Int)) = true)
    (h9 : (na == (0 : Int)) = false)
    (h10 : (IntKind.i64.wrap ((IntKind.i64.wrap (na * nb)).tdiv na) == nb) = true)
    (h11 : (na == (-1 : Int)) = true)
    (h12 : (nb == (-9223372036854775808 : Int)) = true)
    (h13 : na ≠ (0 : Int)) :
    ∃ X, Ev c0.P c0.T (.call 25 (three p ka na sa xba eba xfa efa xla ela kb nb sb xbb ebb xfb efb xlb elb) [] (D.tuple
  [D.agg
      [D.int IntKind.i64 (0 : Int), D.int IntKind.i64 (0 : Int), D.str (ByteArray.mk #[]), D.slice false [] none,
        D.slice false [] none, D.slice false [] none],
    D.int IntKind.i64 (10 : Int)]) ([] ++ X)) :=
  outC_ok cTOk (show outC 0 (qT p ka na sa xba eba xfa efa xla ela kb nb sb xbb ebb xfb efb xlb elb (.path [true, true, false, false, true, true, true, false, false, true, true, false, false, false, false, false, false, false, false, true, true, true, true, true, true, true, true, true, true, true, true, true, true, true, true, true, true, true, true, true, true, false, true])) = some (D.tuple
  [D.agg
      [D.int IntKind.i64 (0 : Int), D.int IntKind.i64 (0 : Int), D.str (ByteArray.mk #[]), D.slice false [] none,
        D.slice false [] none, D.slice false [] none],
    D.int IntKind.i64 (10 : Int)], [],
    rep 1 ((!!nb == (-9223372036854775808 : Int)) = true) <|
      rep 1 ((na == (0 : Int)) = false) <|
      rep 1 ((IntKind.i64.wrap ((IntKind.i64.wrap (na * nb)).tdiv na) == nb) = true) <|
      rep 1 (((na == (0 : Int)) == false) = true) <|
      rep 1 (((IntKind.i64.wrap ((IntKind.i64.wrap (na * nb)).tdiv na) == nb) == true) = true) <|
      rep 1 ((na == (-1 : Int)) = true) <|
      rep 1 (((IntKind.i64.wrap ((IntKind.i64.wrap (na * nb)).tdiv na) == nb) == true) = true) <|
      rep 4 (((na == (-1 : Int)) == true) = true) <|
      rep 4 (((IntKind.i64.wrap ((IntKind.i64.wrap (na * nb)).tdiv na) == nb) == true) = true) <|
      rep 4 (((na == (0 : Int)) == false) = true) <|
      rep 1 (na ≠ (0 : Int)) <|
      rep 4 (((na == (0 : Int)) == false) = true) <|
      rep 1 ((p == (42 : Int)) = true) <|
      rep 1 ((p == (45 : Int)) = false) <|
      rep 1 ((p == (43 : Int)) = false) <|
      rep 1 (false = false) <|
      rep 1 ((p == (37 : Int)) = false) <|
      rep 3 (((p == (37 : Int)) == true) = false) <|
      rep 1 ((p == (47 : Int)) = false) <|
      rep 2 (((p == (47 : Int)) == false) = true) <|
      rep 1 ((!numB kb) = false) <|
      rep 1 ((!numB ka) = false) <|
      rep 3 (((!numB ka) == false) = true) <|
      rep 1 (noneB kb = false) <|
      rep 1 (noneB ka = false) <|
      rep 2 ((noneB ka == false) = true) <|
      []) by kernel_rfl) (by simp only [all_rep, all_nil]; simp [*])

theorem tw_29 (p : Int) (ka : Int) (na : Int) (sa : ByteArray) (xba : Bool) (eba : Es) (xfa : Bool) (efa : Es) (xla : Bool) (ela : Es) (kb : Int) (nb : Int) (sb : ByteArray) (xbb : Bool) (ebb : Es) (xfb : Bool) (efb : Es) (xlb : Bool) (elb : Es)
    (h0 : noneB ka = false)
    (h1 : noneB kb = false)
    (h2 : numB ka = true)
    (h3 : numB kb = true)
    (h4 : (p == (47 : Int)) = false)
    (h5 : (p == (37 : Int)) = false)
    (h6 : (p == (43 : Int)) = false)
    (h7 : (p == (45 : Int)) = false)
    (h8 : (p == (42 : Int)) = true)
    (h9 : (na == (0 : Int)) = false)
    (h10 : (IntKind.i64.wrap ((IntKind.i64.wrap (na * nb)).tdiv na) == nb) = true)
    (h11 : (na == (-1 : Int)) = true)
    (h12 : (nb == (-9223372036854775808 : Int)) = false)
    (h13 : (ka == (4 : Int)) = true)
    (h14 : na ≠ (0 : Int)) :
    ∃ X, Ev c0.P c0.T (.call 25 (three p ka na sa xba eba xfa efa xla ela kb nb sb xbb ebb xfb efb xlb elb) [] (D.tuple
  [D.agg
      [D.int IntKind.i64 (4 : Int), D.int IntKind.i64 (IntKind.i64.wrap (na * nb)), D.str (ByteArray.mk #[]),
        D.slice false [] none, D.slice false [] none, D.slice false [] none],
    D.int IntKind.i64 (0 : Int)]) ([] ++ X)) :=
  outC_ok cTOk (show outC 0 (qT p ka na sa xba eba xfa efa xla ela kb nb sb xbb ebb xfb efb xlb elb (.path [true, true, false, false, true, true, true, false, false, true, true, false, false, false, false, false, false, false, false, true, true, true, true, true, true, true, true, true, true, true, true, true, true, true, true, true, true, true, true, true, true, false, false, false, false, false, true, true])) = some (D.tuple
  [D.agg
      [D.int IntKind.i64 (4 : Int), D.int IntKind.i64 (IntKind.i64.wrap (na * nb)), D.str (ByteArray.mk #[]),
        D.slice false [] none, D.slice false [] none, D.slice false [] none],
    D.int IntKind.i64 (0 : Int)], [],
    rep 1 (true = true) <|
      rep 1 ((ka == (4 : Int)) = true) <|
      rep 3 (((ka == (4 : Int)) == false) = false) <|
      rep 1 ((!!nb == (-9223372036854775808 : Int)) = false) <|
      rep 1 ((na == (0 : Int)) = false) <|
      rep 1 ((IntKind.i64.wrap ((IntKind.i64.wrap (na * nb)).tdiv na) == nb) = true) <|
      rep 1 (((na == (0 : Int)) == false) = true) <|
      rep 1 (((IntKind.i64.wrap ((IntKind.i64.wrap (na * nb)).tdiv na) == nb) == true) = true) <|
      rep 1 ((na == (-1 : Int)) = true) <|
      rep 1 (((IntKind.i64.wrap ((IntKind.i64.wrap (na * nb)).tdiv na) == nb) == true) = true) <|
      rep 4 (((na == (-1 : Int)) == true) = true) <|
      rep 4 (((IntKind.i64.wrap ((IntKind.i64.wrap (na * nb)).tdiv na) == nb) == true) = true) <|
      rep 4 (((na == (0 : Int)) == false) = true) <|
      rep 1 (na ≠ (0 : Int)) <|
      rep 4 (((na == (0 : Int)) == false) = true) <|
      rep 1 ((p == (42 : Int)) = true) <|
      rep 1 ((p == (45 : Int)) = false) <|
      rep 1 ((p == (43 : Int)) = false) <|
      rep 1 (false = false) <|
      rep 1 ((p == (37 : Int)) = false) <|
      rep 3 (((p == (37 : Int)) == true) = false) <|
      rep 1 ((p == (47 : Int)) = false) <|
      rep 2 (((p == (47 : Int)) == false) = true) <|
      rep 1 ((!numB kb) = false) <|
      rep 1 ((!numB ka) = false) <|
      rep 3 (((!numB ka) == false) = true) <|
      rep 1 (noneB kb = false) <|
      rep 1 (noneB ka = false) <|
      rep 2 ((noneB ka == false) = true) <|
      []) by kernel_rfl) (by simp only [all_rep, all_nil]; simp [*])

theorem tw_30 (p : Int) (ka : Int) (na : Int) (sa : ByteArray) (xba : Bool) (eba : Es) (xfa : Bool) (efa : Es) (xla : Bool) (ela : Es) (kb : Int) (nb : Int) (sb : ByteArray) (xbb : Bool) (ebb : Es) (xfb : Bool) (efb : Es) (xlb : Bool) (elb : Es)
    (h0 : noneB ka = false)
    (h1 : noneB kb = false)
    (h2 : numB ka = true)
    (h3 : numB kb = true)
    (h4 : (p == (47 : Int)) = false)
    (h5 : (p == (37 : Int)) = false)
    (h6 : (p == (43 : Int)) = false)
    (h7 : (p == (45 : Int)) = false)
    (h8 : (p == (42 : Int)) = true)
    (h9 : (na == (0 : Int)) = false)
    (h10 : (IntKind.i64.wrap ((IntKind.i64.wrap (na * nb)).tdiv na) == nb) = true)
    (h11 : (na == (-1 : Int)) = true)
    (h12 : (nb == (-9223372036854775808 : Int)) = false)
    (h13 : (ka == (4 : Int)) = false)
    (h14 : (kb == (4 : Int)) = true)
    (h15 : na ≠ (0 : Int)) :
    ∃ X, Ev c0.P c0.T (.call 25 (three p ka na sa xba eba xfa efa xla ela kb nb sb xbb ebb xfb efb xlb elb) [] (D.tuple
  [D.agg
      [D.int IntKind.i64 (4 : Int), D.int IntKind.i64 (IntKind.i64.wrap (na * nb)), D.str (ByteArray.mk #[]),
        D.slice false [] none, D.slice false [] none, D.slice false [] none],
    D.int IntKind.i64 (0 : Int)]) ([] ++ X)) :=
  outC_ok cTOk (show outC 0 (qT p ka na sa xba eba xfa efa xla ela kb nb sb xbb ebb xfb efb xlb elb (.path [true, true, false, false, true, true, true, false, false, true, true, false, false, false, false, false, false, false, false, true, true, true, true, true, true, true, true, true, true, true, true, true, true, true, true, true, true, true, true, true, true, false, false, true, true, true, false, true])) = some (D.tuple
  [D.agg
      [D.int IntKind.i64 (4 : Int), D.int IntKind.i64 (IntKind.i64.wrap (na * nb)), D.str (ByteArray.mk #[]),
        D.slice false [] none, D.slice false [] none, D.slice false [] none],
    D.int IntKind.i64 (0 : Int)], [],
    rep 1 ((kb == (4 : Int)) = true) <|
      rep 1 ((ka == (4 : Int)) = false) <|
      rep 3 (((ka == (4 : Int)) == false) = true) <|
      rep 1 ((!!nb == (-9223372036854775808 : Int)) = false) <|
      rep 1 ((na == (0 : Int)) = false) <|
      rep 1 ((IntKind.i64.wrap ((IntKind.i64.wrap (na * nb)).tdiv na) == nb) = true) <|
      rep 1 (((na == (0 : Int)) == false) = true) <|
      rep 1 (((IntKind.i64.wrap ((IntKind.i64.wrap (na * nb)).tdiv na) == nb) == true) = true) <|
      rep 1 ((na == (-1 : Int)) = true) <|
      rep 1 (((IntKind.i64.wrap ((IntKind.i64.wrap (na * nb)).tdiv na) == nb) == true) = true) <|
      rep 4 (((na == (-1 : Int)) == true) = true) <|
      rep 4 (((IntKind.i64.wrap ((IntKind.i64.wrap (na * nb)).tdiv na) == nb) == true) = true) <|
      rep 4 (((na == (0 : Int)) == false) = true) <|
      rep 1 (na ≠ (0 : Int)) <|
      rep 4 (((na == (0 : Int)) == false) = true) <|
      rep 1 ((p == (42 : Int)) = true) <|
      rep 1 ((p == (45 : Int)) = false) <|
      rep 1 ((p == (43 : Int)) = false) <|
      rep 1 (false = false) <|
      rep 1 ((p == (37 : Int)) = false) <|
      rep 3 (((p == (37 : Int)) == true) = false) <|
      rep 1 ((p == (47 : Int)) = false) <|
      rep 2 (((p == (47 : Int)) == false) = true) <|
      rep 1 ((!numB kb) = false) <|
      rep 1 ((!numB ka) = false) <|
      rep 3 (((!numB ka) == false) = true) <|
      rep 1 (noneB kb = false) <|
      rep 1 (noneB ka = false) <|
      rep 2 ((noneB ka == false) = true) <|
      []) by kernel_rfl) (by simp only [all_rep, all_nil]; simp [*])

theorem tw_31 (p : Int) (ka : Int) (na : Int) (sa : ByteArray) (xba : Bool) (eba : Es) (xfa : Bool) (efa : Es) (xla : Bool) (ela : Es) (kb : Int) (nb : Int) (sb : ByteArray) (xbb : Bool) (ebb : Es) (xfb : Bool) (efb : Es) (xlb : Bool) (elb : Es)
    (h0 : noneB ka = false)
    (h1 : noneB kb = false)
    (h2 : numB ka = true)
    (h3 : numB kb = true)
    (h4 : (p == (47 : Int)) = false)
    (h5 : (p == (37 : Int)) = false)
    (h6 : (p == (43 : Int)) = false)
    (h7 : (p == (45 : Int)) = false)
    (h8 : (p == (42 : Int)) = true)
    (h9 : (na == (0 : Int)) = false)
    (h10 : (IntKind.i64.wrap ((IntKind.i64.wrap (na * nb)).tdiv na) == nb) = true)
    (h11 : (na == (-1 : Int)) = true)
    (h12 : (nb == (-9223372036854775808 : Int)) = false)
    (h13 : (ka == (4 : Int)) = false)
    (h14 : (kb == (4 : Int)) = false)
    (h15 : na ≠ (0 : Int)) :
    ∃ X, Ev c0.P c0.T (.call 25 (three p ka na sa xba eba xfa efa xla ela kb nb sb xbb ebb xfb efb xlb elb) [] (D.tuple
  [D.agg
      [D.int IntKind.i64 (of32 (IntKind.i64.wrap (na * nb))), D.int IntKind.i64 (IntKind.i64.wrap (na * nb)),
        D.str (ByteArray.mk #[]), D.slice false [] none, D.slice false [] none, D.slice false [] none],
    D.int IntKind.i64 (0 : Int)]) ([] ++ X)) :=
  outC_ok cTOk (show outC 0 (qT p ka na sa xba eba xfa efa xla ela kb nb sb xbb ebb xfb efb xlb elb (.path [true, true, false, false, true, true, true, false, false, true, true, false, false, false, false, false, false, false, false, true, true, true, true, true, true, true, true, true, true, true, true, true, true, true, true, true, true, true, true, true, true, false, false, true, true, true, false, false])) = some (D.tuple
  [D.agg
      [D.int IntKind.i64 (of32 (IntKind.i64.wrap (na * nb))), D.int IntKind.i64 (IntKind.i64.wrap (na * nb)),
        D.str (ByteArray.mk #[]), D.slice false [] none, D.slice false [] none, D.slice false [] none],
    D.int IntKind.i64 (0 : Int)], [],
    rep 1 ((kb == (4 : Int)) = false) <|
      rep 1 ((ka == (4 : Int)) = false) <|
      rep 3 (((ka == (4 : Int)) == false) = true) <|
      rep 1 ((!!nb == (-9223372036854775808 : Int)) = false) <|
      rep 1 ((na == (0 : Int)) = false) <|
      rep 1 ((IntKind.i64.wrap ((IntKind.i64.wrap (na * nb)).tdiv na) == nb) = true) <|
      rep 1 (((na == (0 : Int)) == false) = true) <|
      rep 1 (((IntKind.i64.wrap ((IntKind.i64.wrap (na * nb)).tdiv na) == nb) == true) = true) <|
      rep 1 ((na == (-1 : Int)) = true) <|
      rep 1 (((IntKind.i64.wrap ((IntKind.i64.wrap (na * nb)).tdiv na) == nb) == true) = true) <|
      rep 4 (((na == (-1 : Int)) == true) = true) <|
      rep 4 (((IntKind.i64.wrap ((IntKind.i64.wrap (na * nb)).tdiv na) == nb) == true) = true) <|
      rep 4 (((na == (0 : Int)) == false) = true) <|
      rep 1 (na ≠ (0 : Int)) <|
      rep 4 (((na == (0 : Int)) == false) = true) <|
      rep 1 ((p == (42 : Int)) = true) <|
      rep 1 ((p == (45 : Int)) = false) <|
      rep 1 ((p == (43 : Int)) = false) <|
      rep 1 (false = false) <|
      rep 1 ((p == (37 : Int)) = false) <|
      rep 3 (((p == (37 : Int)) == true) = false) <|
      rep 1 ((p == (47 : Int)) = false) <|
      rep 2 (((p == (47 : Int)) == false) = true) <|
      rep 1 ((!numB kb) = false) <|
      rep 1 ((!numB ka) = false) <|
      rep 3 (((!numB ka) == false) = true) <|
      rep 1 (noneB kb = false) <|
      rep 1 (noneB ka = false) <|
      rep 2 ((noneB ka == false) = true) <|
      []) by kernel_rfl) (by simp only [all_rep, all_nil]; simp [*])

theorem tw_32 (p : Int) (ka : Int) (na : Int) (sa : ByteArray) (xba : Bool) (eba : Es) (xfa : Bool) (efa : Es) (xla : Bool) (ela : Es) (kb : Int) (nb : Int) (sb : ByteArray) (xbb : Bool) (ebb : Es) (xfb : Bool) (efb : Es) (xlb : Bool) (elb : Es)
    (h0 : noneB ka = false)
    (h1 : noneB kb = false)
    (h2 : numB ka = true)
    (h3 : numB kb = true)
    (h4 : (p == (47 : Int)) = false)
    (h5 : (p == (37 : Int)) = false)
    (h6 : (p == (43 : Int)) = false)
    (h7 : (p == (45 : Int)) = false)
    (h8 : (p == (42 : Int)) = true)
    (h9 : (na == (0 : Int)) = false)
    (h10 : (IntKind.i64.wrap ((IntKind.i64.wrap (na * nb)).tdiv na) == nb) = true)
    (h11 : (na == (-1 : Int)) = false)
    (h12 : (ka == (4 : Int)) = true)
    (h13 : na ≠ (0 : Int)) :
    ∃ X, Ev c0.P c0.T (.call 25 (three p ka na sa xba eba xfa efa xla ela kb nb sb xbb ebb xfb efb xlb elb) [] (D.tuple
  [D.agg
      [D.int IntKind.i64 (4 : Int), D.int IntKind.i64 (IntKind.i64.wrap (na * nb)), D.str (ByteArray.mk #[]),
        D.slice false [] none, D.slice false [] none, D.slice false [] none],
    D.int IntKind.i64 (0 : Int)]) ([] ++ X)) :=
  outC_ok cTOk (show outC 0 (qT p ka na sa xba eba xfa efa xla ela kb nb sb xbb ebb xfb efb xlb elb (.path [true, true, false, false, true, true, true, false, false, true, true, false, false, false, false, false, false, false, false, true, true, true, true, true, true, true, true, true, true, true, true, true, false, false, false, false, true, false, true, true, true, false, false, false, false, false, true, true])) = some (D.tuple
  [D.agg
      [D.int IntKind.i64 (4 : Int), D.int IntKind.i64 (IntKind.i64.wrap (na * nb)), D.str (ByteArray.mk #[]),
        D.slice false [] none, D.slice false [] none, D.slice false [] none],
    D.int IntKind.i64 (0 : Int)], [],
    rep 1 (true = true) <|
      rep 1 ((ka == (4 : Int)) = true) <|
      rep 3 (((ka == (4 : Int)) == false) = false) <|
      rep 1 ((!!false) = false) <|
      rep 1 ((na == (0 : Int)) = false) <|
      rep 1 ((IntKind.i64.wrap ((IntKind.i64.wrap (na * nb)).tdiv na) == nb) = true) <|
      rep 1 (((na == (0 : Int)) == false) = true) <|
      rep 1 (((IntKind.i64.wrap ((IntKind.i64.wrap (na * nb)).tdiv na) == nb) == true) = true) <|
      rep 1 ((na == (-1 : Int)) = false) <|
      rep 1 (((IntKind.i64.wrap ((IntKind.i64.wrap (na * nb)).tdiv na) == nb) == true) = true) <|
      rep 4 (((na == (-1 : Int)) == true) = false) <|
      rep 4 (((IntKind.i64.wrap ((IntKind.i64.wrap (na * nb)).tdiv na) == nb) == true) = true) <|
      rep 4 (((na == (0 : Int)) == false) = true) <|
      rep 1 (na ≠ (0 : Int)) <|
      rep 4 (((na == (0 : Int)) == false) = true) <|
      rep 1 ((p == (42 : Int)) = true) <|
      rep 1 ((p == (45 : Int)) = false) <|
      rep 1 ((p == (43 : Int)) = false) <|
      rep 1 (false = false) <|
      rep 1 ((p == (37 : Int)) = false) <|
      rep 3 (((p == (37 : Int)) == true) = false) <|
      rep 1 ((p == (47 : Int)) = false) <|
      rep 2 (((p == (47 : Int)) == false) = true) <|
      rep 1 ((!numB kb) = false) <|
      rep 1 ((!numB ka) = false) <|
      rep 3 (((!numB ka) == false) = true) <|
      rep 1 (noneB kb = false) <|
      rep 1 (noneB ka = false) <|
      rep 2 ((noneB ka == false) = true) <|
      []) by kernel_rfl) (by simp only [all_rep, all_nil]; simp [*])

theorem tw_33 (p : Int) (ka : Int) (na : Int) (sa : ByteArray) (xba : Bool) (eba : Es) (xfa : Bool) (efa : Es) (xla : Bool) (ela : Es) (kb : Int) (nb : Int) (sb : ByteArray) (xbb : Bool) (ebb : Es) (xfb : Bool) (efb : Es) (xlb : Bool) (elb : Es)
    (h0 : noneB ka = false)
    (h1 : noneB kb = false)
    (h2 : numB ka = true)
    (h3 : numB kb = true)
    (h4 : (p == (47 : Int)) = false)
    (h5 : (p == (37 : Int)) = false)
    (h6 : (p == (43 : Int)) = false)
    (h7 : (p == (45 : Int)) = false)
    (h8 : (p == (42 : Int)) = true)
    (h9 : (na == (0 : Int)) = false)
    (h10 : (IntKind.i64.wrap ((IntKind.i64.wrap (na * nb)).tdiv na) == nb) = true)
    (h11 : (na == (-1 : Int)) = false)
    (h12 : (ka == (4 : Int)) = false)
    (h13 : (kb == (4 : Int)) = true)
    (h14 : na ≠ (0 : Int)) :
    ∃ X, Ev c0.P c0.T (.call 25 (three p ka na sa xba eba xfa efa xla ela kb nb sb xbb ebb xfb efb xlb elb) [] (D.tuple
  [D.agg
      [D.int IntKind.i64 (4 : Int), D.int IntKind.i64 (IntKind.i64.wrap (na * nb)), D.str (ByteArray.mk #[]),
        D.slice false [] none, D.slice false [] none, D.slice false [] none],
    D.int IntKind.i64 (0 : Int)]) ([] ++ X)) :=
  outC_ok cTOk (show outC 0 (qT p ka na sa xba eba xfa efa xla ela kb nb sb xbb ebb xfb efb xlb elb (.path [true, true, false, false, true, true, true, false, false, true, true, false, false, false, false, false, false, false, false, true, true, true, true, true, true, true, true, true, true, true, true, true, false, false, false, false, true, false, true, true, true, false, false, true, true, true, false, true])) = some (D.tuple
  [D.agg
      [D.int IntKind.i64 (4 : Int), D.int IntKind.i64 (IntKind.i64.wrap (na * nb)), D.str (ByteArray.mk #[]),
        D.slice false [] none, D.slice false [] none, D.slice false [] none],
    D.int IntKind.i64 (0 : Int)], [],
    rep 1 ((kb == (4 : Int)) = true) <|
      rep 1 ((ka == (4 : Int)) = false) <|
      rep 3 (((ka == (4 : Int)) == false) = true) <|
      rep 1 ((!!false) = false) <|
      rep 1 ((na == (0 : Int)) = false) <|
      rep 1 ((IntKind.i64.wrap ((IntKind.i64.wrap (na * nb)).tdiv na) == nb) = true) <|
      rep 1 (((na == (0 : Int)) == false) = true) <|
      rep 1 (((IntKind.i64.wrap ((IntKind.i64.wrap (na * nb)).tdiv na) == nb) == true) = true) <|
      rep 1 ((na == (-1 : Int)) = false) <|
      rep 1 (((IntKind.i64.wrap ((IntKind.i64.wrap (na * nb)).tdiv na) == nb) == true) = true) <|
      rep 4 (((na == (-1 : Int)) == true) = false) <|
      rep 4 (((IntKind.i64.wrap ((IntKind.i64.wrap (na * nb)).tdiv na) == nb) == true) = true) <|
      rep 4 (((na == (0 : Int)) == false) = true) <|
      rep 1 (na ≠ (0 : Int)) <|
      rep 4 (((na == (0 : Int)) == false) = true) <|
      rep 1 ((p == (42 : Int)) = true) <|
      rep 1 ((p == (45 : Int)) = false) <|
      rep 1 ((p == (43 : Int)) = false) <|
      rep 1 (false = false) <|
      rep 1 ((p == (37 : Int)) = false) <|
      rep 3 (((p == (37 : Int)) == true) = false) <|
      rep 1 ((p == (47 : Int)) = false) <|
      rep 2 (((p == (47 : Int)) == false) = true) <|
      rep 1 ((!numB kb) = false) <|
      rep 1 ((!numB ka) = false) <|
      rep 3 (((!numB ka) == false) = true) <|
      rep 1 (noneB kb = false) <|
      rep 1 (noneB ka = false) <|
      rep 2 ((noneB ka == false) = true) <|
      []) by kernel_rfl) (by simp only [all_rep, all_nil]; simp [*])

theorem tw_34 (p : Int) (ka : Int) (na : Int) (sa : ByteArray) (xba : Bool) (eba : Es) (xfa : Bool) (efa : Es) (xla : Bool) (ela : Es) (kb : Int) (nb : Int) (sb : ByteArray) (xbb : Bool) (ebb : Es) (xfb : Bool) (efb : Es) (xlb : Bool) (elb : Es)
    (h0 : noneB ka = false)
    (h1 : noneB kb = false)
    (h2 : numB ka = true)
    (h3 : numB kb = true)
    (h4 : (p == (47 : Int)) = false)
    (h5 : (p == (37 : Int)) = false)
    (h6 : (p == (43 : Int)) = false)
    (h7 : (p == (45 : Int)) = false)
    (h8 : (p == (42 : Int)) = true)
    (h9 : (na == (0 : Int)) = false)
    (h10 : (IntKind.i64.wrap ((IntKind.i64.wrap (na * nb)).tdiv na) == nb) = true)
    (h11 : (na == (-1 : Int)) = false)
    (h12 : (ka == (4 : Int)) = false)
    (h13 : (kb == (4 : Int)) = false)
    (h14 : na ≠ (0 : Int)) :
    ∃ X, Ev c0.P c0.T (.call 25 (three p ka na sa xba eba xfa efa xla ela kb nb sb xbb ebb xfb efb xlb elb) [] (D.tuple
  [D.agg
      [D.int IntKind.i64 (of32 (IntKind.i64.wrap (na * nb))), D.int IntKind.i64 (IntKind.i64.wrap (na * nb)),
        D.str (ByteArray.mk #[]), D.slice false [] none, D.slice false [] none, D.slice false [] none],
    D.int IntKind.i64 (0 : Int)]) ([] ++ X)) :=
  outC_ok cTOk (show outC 0 (qT p ka na sa xba eba xfa efa xla ela kb nb sb xbb ebb xfb efb xlb elb (.path [true, true, false, false, true, true, true, false, false, true, true, false, false, false, false, false, false, false, false, true, true, true, true, true, true, true, true, true, true, true, true, true, false, false, false, false, true, false, true, true, true, false, false, true, true, true, false, false])) = some (D.tuple
  [D.agg
      [D.int IntKind.i64 (of32 (IntKind.i64.wrap (na * nb))), D.int IntKind.i64 (IntKind.i64.wrap (na * nb)),
        D.str (ByteArray.mk #[]), D.slice false [] none, D.slice false [] none, D.slice false [] none],
    D.int IntKind.i64 (0 : Int)], [],
    rep 1 ((kb == (4 : Int)) = false) <|
      rep 1 ((ka == (4 : Int)) = false) <|
      rep 3 (((ka == (4 : Int)) == false) = true) <|
      rep 1 ((!!false) = false) <|
      rep 1 ((na == (0 : Int)) = false) <|
      rep 1 ((IntKind.i64.wrap ((IntKind.i64.wrap (na * nb)).tdiv na) == nb) = true) <|
      rep 1 (((na == (0 : Int)) == false) = true) <|
      rep 1 (((IntKind.i64.wrap ((IntKind.i64.wrap (na * nb)).tdiv na) == nb) == true) = true) <|
      rep 1 ((na == (-1 : Int)) = false) <|
      rep 1 (((IntKind.i64.wrap ((IntKind.i64.wrap (na * nb)).tdiv na) == nb) == true) = true) <|
      rep 4 (((na == (-1 : Int)) == true) = false) <|
      rep 4 (((IntKind.i64.wrap ((IntKind.i64.wrap (na * nb)).tdiv na) == nb) == true) = true) <|
      rep 4 (((na == (0 : Int)) == false) = true) <|
      rep 1 (na ≠ (0 : Int)) <|
      rep 4 (((na == (0 : Int)) == false) = true) <|
      rep 1 ((p == (42 : Int)) = true) <|
      rep 1 ((p == (45 : Int)) = false) <|
      rep 1 ((p == (43 : Int)) = false) <|
      rep 1 (false = false) <|
      rep 1 ((p == (37 : Int)) = false) <|
      rep 3 (((p == (37 : Int)) == true) = false) <|
      rep 1 ((p == (47 : Int)) = false) <|
      rep 2 (((p == (47 : Int)) == false) = true) <|
      rep 1 ((!numB kb) = false) <|
      rep 1 ((!numB ka) = false) <|
      rep 3 (((!numB ka) == false) = true) <|
      rep 1 (noneB kb = false) <|
      rep 1 (noneB ka = false) <|
      rep 2 ((noneB ka == false) = true) <|
      []) by kernel_rfl) (by simp only [all_rep, all_nil]; simp [*])

theorem tw_35 (p : Int) (ka : Int) (na : Int) (sa : ByteArray) (xba : Bool) (eba : Es) (xfa : Bool) (efa : Es) (xla : Bool) (ela : Es) (kb : Int) (nb : Int) (sb : ByteArray) (xbb : Bool) (ebb : Es) (xfb : Bool) (efb : Es) (xlb : Bool) (elb : Es)
    (h0 : noneB ka = false)
    (h1 : noneB kb = false)
    (h2 : numB ka = true)
    (h3 : numB kb = true)
    (h4 : (p == (47 : Int)) = false)
    (h5 : (p == (37 : Int)) = false)
    (h6 : (p == (43 : Int)) = false)
    (h7 : (p == (45 : Int)) = false)
    (h8 : (p == (42 : Int)) = true)
    (h9 : (na == (0 : Int)) = false)
    (h10 : (IntKind.i64.wrap ((IntKind.i64.wrap (na * nb)).tdiv na) == nb) = false)
    (h11 : na ≠ (0 : Int)) :
    ∃ X, Ev c0.P c0.T (.call 25 (three p ka na sa xba eba xfa efa xla ela kb nb sb xbb ebb xfb efb xlb elb) [] (D.tuple
  [D.agg
      [D.int IntKind.i64 (0 : Int), D.int IntKind.i64 (0 : Int), D.str (ByteArray.mk #[]), D.slice false [] none,
        D.slice false [] none, D.slice false [] none],
    D.int IntKind.i64 (10 : Int)]) ([] ++ X)) :=
  outC_ok cTOk (show outC 0 (qT p ka na sa xba eba xfa efa xla ela kb nb sb xbb ebb xfb efb xlb elb (.path [true, true, false, false, true, true, true, false, false, true, true, false, false, false, false, false, false, false, false, true, true, true, true, true, true, true, true, true, false, false, false, false, false, false, true, false, false, true])) = some (D.tuple
  [D.agg
      [D.int IntKind.i64 (0 : Int), D.int IntKind.i64 (0 : Int), D.str (ByteArray.mk #[]), D.slice false [] none,
        D.slice false [] none, D.slice false [] none],
    D.int IntKind.i64 (10 : Int)], [],
    rep 1 ((!false) = true) <|
      rep 1 ((na == (0 : Int)) = false) <|
      rep 1 ((IntKind.i64.wrap ((IntKind.i64.wrap (na * nb)).tdiv na) == nb) = false) <|
      rep 1 (((na == (0 : Int)) == false) = true) <|
      rep 6 (((IntKind.i64.wrap ((IntKind.i64.wrap (na * nb)).tdiv na) == nb) == true) = false) <|
      rep 4 (((na == (0 : Int)) == false) = true) <|
      rep 1 (na ≠ (0 : Int)) <|
      rep 4 (((na == (0 : Int)) == false) = true) <|
      rep 1 ((p == (42 : Int)) = true) <|
      rep 1 ((p == (45 : Int)) = false) <|
      rep 1 ((p == (43 : Int)) = false) <|
      rep 1 (false = false) <|
      rep 1 ((p == (37 : Int)) = false) <|
      rep 3 (((p == (37 : Int)) == true) = false) <|
      rep 1 ((p == (47 : Int)) = false) <|
      rep 2 (((p == (47 : Int)) == false) = true) <|
      rep 1 ((!numB kb) = false) <|
      rep 1 ((!numB ka) = false) <|
      rep 3 (((!numB ka) == false) = true) <|
      rep 1 (noneB kb = false) <|
      rep 1 (noneB ka = false) <|
      rep 2 ((noneB ka == false) = true) <|
      []) by kernel_rfl) (by simp only [all_rep, all_nil]; simp [*])

theorem tw_36 (p : Int) (ka : Int) (na : Int) (sa : ByteArray) (xba : Bool) (eba : Es) (xfa : Bool) (efa : Es) (xla : Bool) (ela : Es) (kb : Int) (nb : Int) (sb : ByteArray) (xbb : Bool) (ebb : Es) (xfb : Bool) (efb : Es) (xlb : Bool) (elb : Es)
    (h0 : noneB ka = false)
    (h1 : noneB kb = false)
    (h2 : numB ka = true)
    (h3 : numB kb = true)
    (h4 : (p == (47 : Int)) = false)
    (h5 : (p == (37 : Int)) = false)
    (h6 : (p == (43 : Int)) = false)
    (h7 : (p == (45 : Int)) = false)
    (h8 : (p == (42 : Int)) = false)
    (h9 : (nb != (-1 : Int)) = true)
    (h10 : (ka == (4 : Int)) = true)
    (h11 : nb ≠ (0 : Int)) :
    ∃ X, Ev c0.P c0.T (.call 25 (three p ka na sa xba eba xfa efa xla ela kb nb sb xbb ebb xfb efb xlb elb) [] (D.tuple
  [D.agg
      [D.int IntKind.i64 (4 : Int), D.int IntKind.i64 (na.tmod nb), D.str (ByteArray.mk #[]), D.slice false [] none,
        D.slice false [] none, D.slice false [] none],
    D.int IntKind.i64 (0 : Int)]) ([] ++ X)) :=
  outC_ok cTOk (show outC 0 (qT p ka na sa xba eba xfa efa xla ela kb nb sb xbb ebb xfb efb xlb elb (.path [true, true, false, false, true, true, true, false, false, true, true, false, false, false, false, false, false, false, false, false, false, true, false, false, false, false, true, true])) = some (D.tuple
  [D.agg
      [D.int IntKind.i64 (4 : Int), D.int IntKind.i64 (na.tmod nb), D.str (ByteArray.mk #[]), D.slice false [] none,
        D.slice false [] none, D.slice false [] none],
    D.int IntKind.i64 (0 : Int)], [],
    rep 1 (true = true) <|
      rep 1 ((ka == (4 : Int)) = true) <|
      rep 3 (((ka == (4 : Int)) == false) = false) <|
      rep 1 ((!true) = false) <|
      rep 1 (nb ≠ (0 : Int)) <|
      rep 1 ((nb != (-1 : Int)) = true) <|
      rep 1 ((p == (47 : Int)) = false) <|
      rep 1 ((p == (42 : Int)) = false) <|
      rep 1 ((p == (45 : Int)) = false) <|
      rep 1 ((p == (43 : Int)) = false) <|
      rep 1 (false = false) <|
      rep 1 ((p == (37 : Int)) = false) <|
      rep 3 (((p == (37 : Int)) == true) = false) <|
      rep 1 ((p == (47 : Int)) = false) <|
      rep 2 (((p == (47 : Int)) == false) = true) <|
      rep 1 ((!numB kb) = false) <|
      rep 1 ((!numB ka) = false) <|
      rep 3 (((!numB ka) == false) = true) <|
      rep 1 (noneB kb = false) <|
      rep 1 (noneB ka = false) <|
      rep 2 ((noneB ka == false) = true) <|
      []) by kernel_rfl) (by simp only [all_rep, all_nil]; simp [*])

theorem tw_37 (p : Int) (ka : Int) (na : Int) (sa : ByteArray) (xba : Bool) (eba : Es) (xfa : Bool) (efa : Es) (xla : Bool) (ela : Es) (kb : Int) (nb : Int) (sb : ByteArray) (xbb : Bool) (ebb : Es) (xfb : Bool) (efb : Es) (xlb : Bool) (elb : Es)
    (h0 : noneB ka = false)
    (h1 : noneB kb = false)
    (h2 : numB ka = true)
    (h3 : numB kb = true)
    (h4 : (p == (47 : Int)) = false)
    (h5 : (p == (37 : Int)) = false)
    (h6 : (p == (43 : Int)) = false)
    (h7 : (p == (45 : Int)) = false)
    (h8 : (p == (42 : Int)) = false)
    (h9 : (nb != (-1 : Int)) = true)
    (h10 : (ka == (4 : Int)) = false)
    (h11 : (kb == (4 : Int)) = true)
    (h12 : nb ≠ (0 : Int)) :
    ∃ X, Ev c0.P c0.T (.call 25 (three p ka na sa xba eba xfa efa xla ela kb nb sb xbb ebb xfb efb xlb elb) [] (D.tuple
  [D.agg
      [D.int IntKind.i64 (4 : Int), D.int IntKind.i64 (na.tmod nb), D.str (ByteArray.mk #[]), D.slice false [] none,
        D.slice false [] none, D.slice false [] none],
    D.int IntKind.i64 (0 : Int)]) ([] ++ X)) :=
  outC_ok cTOk (show outC 0 (qT p ka na sa xba eba xfa efa xla ela kb nb sb xbb ebb xfb efb xlb elb (.path [true, true, false, false, true, true, true, false, false, true, true, false, false, false, false, false, false, false, false, false, false, true, false, true, true, true, false, true])) = some (D.tuple
  [D.agg
      [D.int IntKind.i64 (4 : Int), D.int IntKind.i64 (na.tmod nb), D.str (ByteArray.mk #[]), D.slice false [] none,
        D.slice false [] none, D.slice false [] none],
    D.int IntKind.i64 (0 : Int)], [],
    rep 1 ((kb == (4 : Int)) = true) <|
      rep 1 ((ka == (4 : Int)) = false) <|
      rep 3 (((ka == (4 : Int)) == false) = true) <|
      rep 1 ((!true) = false) <|
      rep 1 (nb ≠ (0 : Int)) <|
      rep 1 ((nb != (-1 : Int)) = true) <|
      rep 1 ((p == (47 : Int)) = false) <|
      rep 1 ((p == (42 : Int)) = false) <|
      rep 1 ((p == (45 : Int)) = false) <|
      rep 1 ((p == (43 : Int)) = false) <|
      rep 1 (false = false) <|
      rep 1 ((p == (37 : Int)) = false) <|
      rep 3 (((p == (37 : Int)) == true) = false) <|
      rep 1 ((p == (47 : Int)) = false) <|
      rep 2 (((p == (47 : Int)) == false) = true) <|
      rep 1 ((!numB kb) = false) <|
      rep 1 ((!numB ka) = false) <|
      rep 3 (((!numB ka) == false) = true) <|
      rep 1 (noneB kb = false) <|
      rep 1 (noneB ka = false) <|
      rep 2 ((noneB ka == false) = true) <|
      []) by kernel_rfl) (by simp only [all_rep, all_nil]; simp [*])

theorem tw_38 (p : Int) (ka : Int) (na : Int) (sa : ByteArray) (xba : Bool) (eba : Es) (xfa : Bool) (efa : Es) (xla : Bool) (ela : Es) (kb : Int) (nb : Int) (sb : ByteArray) (xbb : Bool) (ebb : Es) (xfb : Bool) (efb : Es) (xlb : Bool) (elb : Es)
    (h0 : noneB ka = false)
    (h1 : noneB kb = false)
    (h2 : numB ka = true)
    (h3 : numB kb = true)
    (h4 : (p == (47 : Int)) = false)
    (h5 : (p == (37 : Int)) = false)
    (h6 : (p == (43 : Int)) = false)
    (h7 : (p == (45 : Int)) = false)
    (h8 : (p == (42 : Int)) = false)
    (h9 : (nb != (-1 : Int)) = true)
    (h10 : (ka == (4 : Int)) = false)
    (h11 : (kb == (4 : Int)) = false)
    (h12 : nb ≠ (0 : Int)) :
    ∃ X, Ev c0.P c0.T (.call 25 (three p ka na sa xba eba xfa efa xla ela kb nb sb xbb ebb xfb efb xlb elb) [] (D.tuple
  [D.agg
      [D.int IntKind.i64 (of32 (na.tmod nb)), D.int IntKind.i64 (na.tmod nb), D.str (ByteArray.mk #[]),
        D.slice false [] none, D.slice false [] none, D.slice false [] none],
    D.int IntKind.i64 (0 : Int)]) ([] ++ X)) :=
  outC_ok cTOk (show outC 0 (qT p ka na sa xba eba xfa efa xla ela kb nb sb xbb ebb xfb efb xlb elb (.path [true, true, false, false, true, true, true, false, false, true, true, false, false, false, false, false, false, false, false, false, false, true, false, true, true, true, false, false])) = some (D.tuple
  [D.agg
      [D.int IntKind.i64 (of32 (na.tmod nb)), D.int IntKind.i64 (na.tmod nb), D.str (ByteArray.mk #[]),
        D.slice false [] none, D.slice false [] none, D.slice false [] none],
    D.int IntKind.i64 (0 : Int)], [],
    rep 1 ((kb == (4 : Int)) = false) <|
      rep 1 ((ka == (4 : Int)) = false) <|
      rep 3 (((ka == (4 : Int)) == false) = true) <|
      rep 1 ((!true) = false) <|
      rep 1 (nb ≠ (0 : Int)) <|
      rep 1 ((nb != (-1 : Int)) = true) <|
      rep 1 ((p == (47 : Int)) = false) <|
      rep 1 ((p == (42 : Int)) = false) <|
      rep 1 ((p == (45 : Int)) = false) <|
      rep 1 ((p == (43 : Int)) = false) <|
      rep 1 (false = false) <|
      rep 1 ((p == (37 : Int)) = false) <|
      rep 3 (((p == (37 : Int)) == true) = false) <|
      rep 1 ((p == (47 : Int)) = false) <|
      rep 2 (((p == (47 : Int)) == false) = true) <|
      rep 1 ((!numB kb) = false) <|
      rep 1 ((!numB ka) = false) <|
      rep 3 (((!numB ka) == false) = true) <|
      rep 1 (noneB kb = false) <|
      rep 1 (noneB ka = false) <|
      rep 2 ((noneB ka == false) = true) <|
      []) by kernel_rfl) (by simp only [all_rep, all_nil]; simp [*])

theorem tw_39 (p : Int) (ka : Int) (na : Int) (sa : ByteArray) (xba : Bool) (eba : Es) (xfa : Bool) (efa : Es) (xla : Bool) (ela : Es) (kb : Int) (nb : Int) (sb : ByteArray) (xbb : Bool) (ebb : Es) (xfb : Bool) (efb : Es) (xlb : Bool) (elb : Es)
    (h0 : noneB ka = false)
    (h1 : noneB kb = false)
    (h2 : numB ka = true)
    (h3 : numB kb = true)
    (h4 : (p == (47 : Int)) = false)
    (h5 : (p == (37 : Int)) = false)
    (h6 : (p == (43 : Int)) = false)
    (h7 : (p == (45 : Int)) = false)
    (h8 : (p == (42 : Int)) = false)
    (h9 : (nb != (-1 : Int)) = false)
    (h10 : (ka == (4 : Int)) = true) :
    ∃ X, Ev c0.P c0.T (.call 25 (three p ka na sa xba eba xfa efa xla ela kb nb sb xbb ebb xfb efb xlb elb) [] (D.tuple
  [D.agg
      [D.int IntKind.i64 (4 : Int), D.int IntKind.i64 (0 : Int), D.str (ByteArray.mk #[]), D.slice false [] none,
        D.slice false [] none, D.slice false [] none],
    D.int IntKind.i64 (0 : Int)]) ([] ++ X)) :=
  outC_ok cTOk (show outC 0 (qT p ka na sa xba eba xfa efa xla ela kb nb sb xbb ebb xfb efb xlb elb (.path [true, true, false, false, true, true, true, false, false, true, true, false, false, false, false, false, false, false, false, false, false, false, false, false, false, false, true, true])) = some (D.tuple
  [D.agg
      [D.int IntKind.i64 (4 : Int), D.int IntKind.i64 (0 : Int), D.str (ByteArray.mk #[]), D.slice false [] none,
        D.slice false [] none, D.slice false [] none],
    D.int IntKind.i64 (0 : Int)], [],
    rep 1 (true = true) <|
      rep 1 ((ka == (4 : Int)) = true) <|
      rep 3 (((ka == (4 : Int)) == false) = false) <|
      rep 1 ((!true) = false) <|
      rep 1 ((nb != (-1 : Int)) = false) <|
      rep 1 ((p == (47 : Int)) = false) <|
      rep 1 ((p == (42 : Int)) = false) <|
      rep 1 ((p == (45 : Int)) = false) <|
      rep 1 ((p == (43 : Int)) = false) <|
      rep 1 (false = false) <|
      rep 1 ((p == (37 : Int)) = false) <|
      rep 3 (((p == (37 : Int)) == true) = false) <|
      rep 1 ((p == (47 : Int)) = false) <|
      rep 2 (((p == (47 : Int)) == false) = true) <|
      rep 1 ((!numB kb) = false) <|
      rep 1 ((!numB ka) = false) <|
      rep 3 (((!numB ka) == false) = true) <|
      rep 1 (noneB kb = false) <|
      rep 1 (noneB ka = false) <|
      rep 2 ((noneB ka == false) = true) <|
      []) by kernel_rfl) (by simp only [all_rep, all_nil]; simp [*])

theorem tw_40 (p : Int) (ka : Int) (na : Int) (sa : ByteArray) (xba : Bool) (eba : Es) (xfa : Bool) (efa : Es) (xla : Bool) (ela : Es) (kb : Int) (nb : Int) (sb : ByteArray) (xbb : Bool) (ebb : Es) (xfb : Bool) (efb : Es) (xlb : Bool) (elb : Es)
    (h0 : noneB ka = false)
    (h1 : noneB kb = false)
    (h2 : numB ka = true)
    (h3 : numB kb = true)
    (h4 : (p == (47 : Int)) = false)
    (h5 : (p == (37 : Int)) = false)
    (h6 : (p == (43 : Int)) = false)
    (h7 : (p == (45 : Int)) = false)
    (h8 : (p == (42 : Int)) = false)
    (h9 : (nb != (-1 : Int)) = false)
    (h10 : (ka == (4 : Int)) = false)
    (h11 : (kb == (4 : Int)) = true) :
    ∃ X, Ev c0.P c0.T (.call 25 (three p ka na sa xba eba xfa efa xla ela kb nb sb xbb ebb xfb efb xlb elb) [] (D.tuple
  [D.agg
      [D.int IntKind.i64 (4 : Int), D.int IntKind.i64 (0 : Int), D.str (ByteArray.mk #[]), D.slice false [] none,
        D.slice false [] none, D.slice false [] none],
    D.int IntKind.i64 (0 : Int)]) ([] ++ X)) :=
  outC_ok cTOk (show outC 0 (qT p ka na sa xba eba xfa efa xla ela kb nb sb xbb ebb xfb efb xlb elb (.path [true, true, false, false, true, true, true, false, false, true, true, false, false, false, false, false, false, false, false, false, false, false, false, true, true, true, false, true])) = some (D.tuple
  [D.agg
      [D.int IntKind.i64 (4 : Int), D.int IntKind.i64 (0 : Int), D.str (ByteArray.mk #[]), D.slice false [] none,
        D.slice false [] none, D.slice false [] none],
    D.int IntKind.i64 (0 : Int)], [],
    rep 1 ((kb == (4 : Int)) = true) <|
      rep 1 ((ka == (4 : Int)) = false) <|
      rep 3 (((ka == (4 : Int)) == false) = true) <|
      rep 1 ((!true) = false) <|
      rep 1 ((nb != (-1 : Int)) = false) <|
      rep 1 ((p == (47 : Int)) = false) <|
      rep 1 ((p == (42 : Int)) = false) <|
      rep 1 ((p == (45 : Int)) = false) <|
      rep 1 ((p == (43 : Int)) = false) <|
      rep 1 (false = false) <|
      rep 1 ((p == (37 : Int)) = false) <|
      rep 3 (((p == (37 : Int)) == true) = false) <|
      rep 1 ((p == (47 : Int)) = false) <|
      rep 2 (((p == (47 : Int)) == false) = true) <|
      rep 1 ((!numB kb) = false) <|
      rep 1 ((!numB ka) = false) <|
      rep 3 (((!numB ka) == false) = true) <|
      rep 1 (noneB kb = false) <|
      rep 1 (noneB ka = false) <|
      rep 2 ((noneB ka == false) = true) <|
      []) by kernel_rfl) (by simp only [all_rep, all_nil]; simp [*])

theorem tw_41 (p : Int) (ka : Int) (na : Int) (sa : ByteArray) (xba : Bool) (eba : Es) (xfa : Bool) (efa : Es) (xla : Bool) (ela : Es) (kb : Int) (nb : Int) (sb : ByteArray) (xbb : Bool) (ebb : Es) (xfb : Bool) (efb : Es) (xlb : Bool) (elb : Es)
    (h0 : noneB ka = false)
    (h1 : noneB kb = false)
    (h2 : numB ka = true)
    (h3 : numB kb = true)
    (h4 : (p == (47 : Int)) = false)
    (h5 : (p == (37 : Int)) = false)
    (h6 : (p == (43 : Int)) = false)
    (h7 : (p == (45 : Int)) = false)
    (h8 : (p == (42 : Int)) = false)
    (h9 : (nb != (-1 : Int)) = false)
    (h10 : (ka == (4 : Int)) = false)
    (h11 : (kb == (4 : Int)) = false) :
    ∃ X, Ev c0.P c0.T (.call 25 (three p ka na sa xba eba xfa efa xla ela kb nb sb xbb ebb xfb efb xlb elb) [] (D.tuple
  [D.agg
      [D.int IntKind.i64 (of32 (0 : Int)), D.int IntKind.i64 (0 : Int), D.str (ByteArray.mk #[]), D.slice false [] none,
        D.slice false [] none, D.slice false [] none],
    D.int IntKind.i64 (0 : Int)]) ([] ++ X)) :=
  outC_ok cTOk (show outC 0 (qT p ka na sa xba eba xfa efa xla ela kb nb sb xbb ebb xfb efb xlb elb (.path [true, true, false, false, true, true, true, false, false, true, true, false, false, false, false, false, false, false, false, false, false, false, false, true, true, true, false, false])) = some (D.tuple
  [D.agg
      [D.int IntKind.i64 (of32 (0 : Int)), D.int IntKind.i64 (0 : Int), D.str (ByteArray.mk #[]), D.slice false [] none,
        D.slice false [] none, D.slice false [] none],
    D.int IntKind.i64 (0 : Int)], [],
    rep 1 ((kb == (4 : Int)) = false) <|
      rep 1 ((ka == (4 : Int)) = false) <|
      rep 3 (((ka == (4 : Int)) == false) = true) <|
      rep 1 ((!true) = false) <|
      rep 1 ((nb != (-1 : Int)) = false) <|
      rep 1 ((p == (47 : Int)) = false) <|
      rep 1 ((p == (42 : Int)) = false) <|
      rep 1 ((p == (45 : Int)) = false) <|
      rep 1 ((p == (43 : Int)) = false) <|
      rep 1 (false = false) <|
      rep 1 ((p == (37 : Int)) = false) <|
      rep 3 (((p == (37 : Int)) == true) = false) <|
      rep 1 ((p == (47 : Int)) = false) <|
      rep 2 (((p == (47 : Int)) == false) = true) <|
      rep 1 ((!numB kb) = false) <|
      rep 1 ((!numB ka) = false) <|
      rep 3 (((!numB ka) == false) = true) <|
      rep 1 (noneB kb = false) <|
      rep 1 (noneB ka = false) <|
      rep 2 ((noneB ka == false) = true) <|
      []) by kernel_rfl) (by simp only [all_rep, all_nil]; simp [*])

theorem tw_42 (p : Int) (ka : Int) (na : Int) (sa : ByteArray) (xba : Bool) (eba : Es) (xfa : Bool) (efa : Es) (xla : Bool) (ela : Es) (kb : Int) (nb : Int) (sb : ByteArray) (xbb : Bool) (ebb : Es) (xfb : Bool) (efb : Es) (xlb : Bool) (elb : Es)
    (h0 : noneB ka = false)
    (h1 : noneB kb = false)
    (h2 : numB ka = true)
    (h3 : numB kb = false) :
    ∃ X, Ev c0.P c0.T (.call 25 (three p ka na sa xba eba xfa efa xla ela kb nb sb xbb ebb xfb efb xlb elb) [] (D.tuple
  [D.agg
      [D.int IntKind.i64 (0 : Int), D.int IntKind.i64 (0 : Int), D.str (ByteArray.mk #[]), D.slice false [] none,
        D.slice false [] none, D.slice false [] none],
    D.int IntKind.i64 (12 : Int)]) ([] ++ X)) :=
  outC_ok cTOk (show outC 0 (qT p ka na sa xba eba xfa efa xla ela kb nb sb xbb ebb xfb efb xlb elb (.path [true, true, false, false, true, true, true, false, true])) = some (D.tuple
  [D.agg
      [D.int IntKind.i64 (0 : Int), D.int IntKind.i64 (0 : Int), D.str (ByteArray.mk #[]), D.slice false [] none,
        D.slice false [] none, D.slice false [] none],
    D.int IntKind.i64 (12 : Int)], [],
    rep 1 ((!numB kb) = true) <|
      rep 1 ((!numB ka) = false) <|
      rep 3 (((!numB ka) == false) = true) <|
      rep 1 (noneB kb = false) <|
      rep 1 (noneB ka = false) <|
      rep 2 ((noneB ka == false) = true) <|
      []) by kernel_rfl) (by simp only [all_rep, all_nil]; simp [*])

theorem tw_43 (p : Int) (ka : Int) (na : Int) (sa : ByteArray) (xba : Bool) (eba : Es) (xfa : Bool) (efa : Es) (xla : Bool) (ela : Es) (kb : Int) (nb : Int) (sb : ByteArray) (xbb : Bool) (ebb : Es) (xfb : Bool) (efb : Es) (xlb : Bool) (elb : Es)
    (h0 : noneB ka = false)
    (h1 : noneB kb = false)
    (h2 : numB ka = false) :
    ∃ X, Ev c0.P c0.T (.call 25 (three p ka na sa xba eba xfa efa xla ela kb nb sb xbb ebb xfb efb xlb elb) [] (D.tuple
  [D.agg
      [D.int IntKind.i64 (0 : Int), D.int IntKind.i64 (0 : Int), D.str (ByteArray.mk #[]), D.slice false [] none,
        D.slice false [] none, D.slice false [] none],
    D.int IntKind.i64 (12 : Int)]) ([] ++ X)) :=
  outC_ok cTOk (show outC 0 (qT p ka na sa xba eba xfa efa xla ela kb nb sb xbb ebb xfb efb xlb elb (.path [true, true, false, false, false, false, false, true, true])) = some (D.tuple
  [D.agg
      [D.int IntKind.i64 (0 : Int), D.int IntKind.i64 (0 : Int), D.str (ByteArray.mk #[]), D.slice false [] none,
        D.slice false [] none, D.slice false [] none],
    D.int IntKind.i64 (12 : Int)], [],
    rep 1 (true = true) <|
      rep 1 ((!numB ka) = true) <|
      rep 3 (((!numB ka) == false) = false) <|
      rep 1 (noneB kb = false) <|
      rep 1 (noneB ka = false) <|
      rep 2 ((noneB ka == false) = true) <|
      []) by kernel_rfl) (by simp only [all_rep, all_nil]; simp [*])

def tw_T (p : Int) (ka : Int) (na : Int) (sa : ByteArray) (xba : Bool) (eba : Es) (xfa : Bool) (efa : Es) (xla : Bool) (ela : Es) (kb : Int) (nb : Int) (sb : ByteArray) (xbb : Bool) (ebb : Es) (xfb : Bool) (efb : Es) (xlb : Bool) (elb : Es) : Int × Int × Int :=
  (cond (noneB ka)
  ((2 : Int), (0 : Int), (0 : Int))
  (cond (noneB kb)
    ((2 : Int), (0 : Int), (0 : Int))
    (cond (numB ka)
      (cond (numB kb)
        (cond (p == (47 : Int))
          (cond (nb == (0 : Int))
            ((0 : Int), (0 : Int), (11 : Int))
            (cond (p == (43 : Int))
              default
              (cond (p == (45 : Int))
                default
                (cond (p == (42 : Int))
                  default
                  (cond (na == (-9223372036854775808 : Int))
                    (cond (nb == (-1 : Int))
                      ((0 : Int), (0 : Int), (10 : Int))
                      (cond (ka == (4 : Int))
                        ((4 : Int), IntKind.i64.wrap (na.tdiv nb), (0 : Int))
                        (cond (kb == (4 : Int))
                          ((4 : Int), IntKind.i64.wrap (na.tdiv nb), (0 : Int))
                          (of32 (IntKind.i64.wrap (na.tdiv nb)), IntKind.i64.wrap (na.tdiv nb), (0 : Int)))))
                    (cond (ka == (4 : Int))
                      ((4 : Int), IntKind.i64.wrap (na.tdiv nb), (0 : Int))
                      (cond (kb == (4 : Int))
                        ((4 : Int), IntKind.i64.wrap (na.tdiv nb), (0 : Int))
                        (of32 (IntKind.i64.wrap (na.tdiv nb)), IntKind.i64.wrap (na.tdiv nb), (0 : Int)))))))))
          (cond (p == (37 : Int))
            (cond (nb == (0 : Int))
              ((0 : Int), (0 : Int), (11 : Int))
              (cond (p == (43 : Int))
                default
                (cond (p == (45 : Int))
                  default
                  (cond (p == (42 : Int))
                    default
                    (cond (nb != (-1 : Int))
                      (cond (ka == (4 : Int))
                        ((4 : Int), na.tmod nb, (0 : Int))
                        (cond (kb == (4 : Int))
                          ((4 : Int), na.tmod nb, (0 : Int))
                          (of32 (na.tmod nb), na.tmod nb, (0 : Int))))
                      (cond (ka == (4 : Int))
                        ((4 : Int), (0 : Int), (0 : Int))
                        (cond (kb == (4 : Int))
                          ((4 : Int), (0 : Int), (0 : Int))
                          (of32 (0 : Int), (0 : Int), (0 : Int)))))))))
            (cond (p == (43 : Int))
              (cond (decide (nb ≥ (0 : Int)) == decide (IntKind.i64.wrap (na + nb) ≥ na))
                (cond (ka == (4 : Int))
                  ((4 : Int), IntKind.i64.wrap (na + nb), (0 : Int))
                  (cond (kb == (4 : Int))
                    ((4 : Int), IntKind.i64.wrap (na + nb), (0 : Int))
                    (of32 (IntKind.i64.wrap (na + nb)), IntKind.i64.wrap (na + nb), (0 : Int))))
                ((0 : Int), (0 : Int), (10 : Int)))
              (cond (p == (45 : Int))
                (cond (decide (nb ≤ (0 : Int)) == decide (IntKind.i64.wrap (na - nb) ≥ na))
                  (cond (ka == (4 : Int))
                    ((4 : Int), IntKind.i64.wrap (na - nb), (0 : Int))
                    (cond (kb == (4 : Int))
                      ((4 : Int), IntKind.i64.wrap (na - nb), (0 : Int))
                      (of32 (IntKind.i64.wrap (na - nb)), IntKind.i64.wrap (na - nb), (0 : Int))))
                  ((0 : Int), (0 : Int), (10 : Int)))
                (cond (p == (42 : Int))
                  (cond (na == (0 : Int))
                    (cond (ka == (4 : Int))
                      ((4 : Int), IntKind.i64.wrap (na * nb), (0 : Int))
                      (cond (kb == (4 : Int))
                        ((4 : Int), IntKind.i64.wrap (na * nb), (0 : Int))
                        (of32 (IntKind.i64.wrap (na * nb)), IntKind.i64.wrap (na * nb), (0 : Int))))
                    (cond (IntKind.i64.wrap ((IntKind.i64.wrap (na * nb)).tdiv na) == nb)
                      (cond (na == (-1 : Int))
                        (cond (nb == (-9223372036854775808 : Int))
                          ((0 : Int), (0 : Int), (10 : Int))
                          (cond (ka == (4 : Int))
                            ((4 : Int), IntKind.i64.wrap (na * nb), (0 : Int))
                            (cond (kb == (4 : Int))
                              ((4 : Int), IntKind.i64.wrap (na * nb), (0 : Int))
                              (of32 (IntKind.i64.wrap (na * nb)), IntKind.i64.wrap (na * nb), (0 : Int)))))
                        (cond (ka == (4 : Int))
                          ((4 : Int), IntKind.i64.wrap (na * nb), (0 : Int))
                          (cond (kb == (4 : Int))
                            ((4 : Int), IntKind.i64.wrap (na * nb), (0 : Int))
                            (of32 (IntKind.i64.wrap (na * nb)), IntKind.i64.wrap (na * nb), (0 : Int)))))
                      ((0 : Int), (0 : Int), (10 : Int))))
                  (cond (nb != (-1 : Int))
                    (cond (ka == (4 : Int))
                      ((4 : Int), na.tmod nb, (0 : Int))
                      (cond (kb == (4 : Int))
                        ((4 : Int), na.tmod nb, (0 : Int))
                        (of32 (na.tmod nb), na.tmod nb, (0 : Int))))
                    (cond (ka == (4 : Int))
                      ((4 : Int), (0 : Int), (0 : Int))
                      (cond (kb == (4 : Int))
                        ((4 : Int), (0 : Int), (0 : Int))
                        (of32 (0 : Int), (0 : Int), (0 : Int))))))))))
        ((0 : Int), (0 : Int), (12 : Int)))
      ((0 : Int), (0 : Int), (12 : Int)))))

theorem tw_ct (p : Int) (ka : Int) (na : Int) (sa : ByteArray) (xba : Bool) (eba : Es) (xfa : Bool) (efa : Es) (xla : Bool) (ela : Es) (kb : Int) (nb : Int) (sb : ByteArray) (xbb : Bool) (ebb : Es) (xfb : Bool) (efb : Es) (xlb : Bool) (elb : Es) (hp : p = 43 ∨ p = 45 ∨ p = 42 ∨ p = 47 ∨ p = 37) : ∃ X, Ev c0.P c0.T (.call 25 (three p ka na sa xba eba xfa efa xla ela kb nb sb xbb ebb xfb efb xlb elb) [] (res (tw_T p ka na sa xba eba xfa efa xla ela kb nb sb xbb ebb xfb efb xlb elb).1 (tw_T p ka na sa xba eba xfa efa xla ela kb nb sb xbb ebb xfb efb xlb elb).2.1 (tw_T p ka na sa xba eba xfa efa xla ela kb nb sb xbb ebb xfb efb xlb elb).2.2) ([] ++ X)) := by
  cases g1 : (noneB ka) with
  | true =>
    simp only [tw_T, g1, cond_true, cond_false]; exact tw_0 p ka na sa xba eba xfa efa xla ela kb nb sb xbb ebb xfb efb xlb elb g1
  | false =>
    cases g2 : (noneB kb) with
    | true =>
      simp only [tw_T, g1, g2, cond_true, cond_false]; exact tw_1 p ka na sa xba eba xfa efa xla ela kb nb sb xbb ebb xfb efb xlb elb g1 g2
    | false =>
      cases g3 : (numB ka) with
      | true =>
        cases g4 : (numB kb) with
        | true =>
          cases g5 : (p == (47 : Int)) with
          | true =>
            cases g6 : (nb == (0 : Int)) with
            | true =>
              simp only [tw_T, g1, g2, g3, g4, g5, g6, cond_true, cond_false]; exact tw_2 p ka na sa xba eba xfa efa xla ela kb nb sb xbb ebb xfb efb xlb elb g1 g2 g3 g4 g5 g6
            | false =>
              cases g7 : (p == (43 : Int)) with
              | true =>
                exfalso; simp only [decide_eq_true_eq, decide_eq_false_iff_not, Bool.not_eq_true', Bool.not_eq_false', beq_iff_eq, bne_iff_ne, beq_eq_false_iff_ne] at *; omega
              | false =>
                cases g8 : (p == (45 : Int)) with
                | true =>
                  exfalso; simp only [decide_eq_true_eq, decide_eq_false_iff_not, Bool.not_eq_true', Bool.not_eq_false', beq_iff_eq, bne_iff_ne, beq_eq_false_iff_ne] at *; omega
                | false =>
                  cases g9 : (p == (42 : Int)) with
                  | true =>
                    exfalso; simp only [decide_eq_true_eq, decide_eq_false_iff_not, Bool.not_eq_true', Bool.not_eq_false', beq_iff_eq, bne_iff_ne, beq_eq_false_iff_ne] at *; omega
                  | false =>
                    cases g10 : (na == (-9223372036854775808 : Int)) with
                    | true =>
                      cases g11 : (nb == (-1 : Int)) with
                      | true =>
                        simp only [tw_T, g1, g2, g3, g4, g5, g6, g7, g8, g9, g10, g11, cond_true, cond_false]; exact tw_3 p ka na sa xba eba xfa efa xla ela kb nb sb xbb ebb xfb efb xlb elb g1 g2 g3 g4 g5 g6 g7 g8 g9 g10 g11
                      | false =>
                        cases g12 : (ka == (4 : Int)) with
                        | true =>
                          simp only [tw_T, g1, g2, g3, g4, g5, g6, g7, g8, g9, g10, g11, g12, cond_true, cond_false]; exact tw_4 p ka na sa xba eba xfa efa xla ela kb nb sb xbb ebb xfb efb xlb elb g1 g2 g3 g4 g5 g6 g7 g8 g9 g10 g11 g12 (by simp only [beq_iff_eq, beq_eq_false_iff_ne, ne_eq] at *; omega)
                        | false =>
                          cases g13 : (kb == (4 : Int)) with
                          | true =>
                            simp only [tw_T, g1, g2, g3, g4, g5, g6, g7, g8, g9, g10, g11, g12, g13, cond_true, cond_false]; exact tw_5 p ka na sa xba eba xfa efa xla ela kb nb sb xbb ebb xfb efb xlb elb g1 g2 g3 g4 g5 g6 g7 g8 g9 g10 g11 g12 g13 (by simp only [beq_iff_eq, beq_eq_false_iff_ne, ne_eq] at *; omega)
                          | false =>
                            simp only [tw_T, g1, g2, g3, g4, g5, g6, g7, g8, g9, g10, g11, g12, g13, cond_true, cond_false]; exact tw_6 p ka na sa xba eba xfa efa xla ela kb nb sb xbb ebb xfb efb xlb elb g1 g2 g3 g4 g5 g6 g7 g8 g9 g10 g11 g12 g13 (by simp only [beq_iff_eq, beq_eq_false_iff_ne, ne_eq] at *; omega)
                    | false =>
                      cases g11 : (ka == (4 : Int)) with
                      | true =>
                        simp only [tw_T, g1, g2, g3, g4, g5, g6, g7, g8, g9, g10, g11, cond_true, cond_false]; exact tw_7 p ka na sa xba eba xfa efa xla ela kb nb sb xbb ebb xfb efb xlb elb g1 g2 g3 g4 g5 g6 g7 g8 g9 g10 g11 (by simp only [beq_iff_eq, beq_eq_false_iff_ne, ne_eq] at *; omega)
                      | false =>
                        cases g12 : (kb == (4 : Int)) with
                        | true =>
                          simp only [tw_T, g1, g2, g3, g4, g5, g6, g7, g8, g9, g10, g11, g12, cond_true, cond_false]; exact tw_8 p ka na sa xba eba xfa efa xla ela kb nb sb xbb ebb xfb efb xlb elb g1 g2 g3 g4 g5 g6 g7 g8 g9 g10 g11 g12 (by simp only [beq_iff_eq, beq_eq_false_iff_ne, ne_eq] at *; omega)
                        | false =>
                          simp only [tw_T, g1, g2, g3, g4, g5, g6, g7, g8, g9, g10, g11, g12, cond_true, cond_false]; exact tw_9 p ka na sa xba eba xfa efa xla ela kb nb sb xbb ebb xfb efb xlb elb g1 g2 g3 g4 g5 g6 g7 g8 g9 g10 g11 g12 (by simp only [beq_iff_eq, beq_eq_false_iff_ne, ne_eq] at *; omega)
          | false =>
            cases g6 : (p == (37 : Int)) with
            | true =>
              cases g7 : (nb == (0 : Int)) with
              | true =>
                simp only [tw_T, g1, g2, g3, g4, g5, g6, g7, cond_true, cond_false]; exact tw_10 p ka na sa xba eba xfa efa xla ela kb nb sb xbb ebb xfb efb xlb elb g1 g2 g3 g4 g5 g6 g7
              | false =>
                cases g8 : (p == (43 : Int)) with
                | true =>
                  exfalso; simp only [decide_eq_true_eq, decide_eq_false_iff_not, Bool.not_eq_true', Bool.not_eq_false', beq_iff_eq, bne_iff_ne, beq_eq_false_iff_ne] at *; omega
                | false =>
                  cases g9 : (p == (45 : Int)) with
                  | true =>
                    exfalso; simp only [decide_eq_true_eq, decide_eq_false_iff_not, Bool.not_eq_true', Bool.not_eq_false', beq_iff_eq, bne_iff_ne, beq_eq_false_iff_ne] at *; omega
                  | false =>
                    cases g10 : (p == (42 : Int)) with
                    | true =>
                      exfalso; simp only [decide_eq_true_eq, decide_eq_false_iff_not, Bool.not_eq_true', Bool.not_eq_false', beq_iff_eq, bne_iff_ne, beq_eq_false_iff_ne] at *; omega
                    | false =>
                      cases g11 : (nb != (-1 : Int)) with
                      | true =>
                        cases g12 : (ka == (4 : Int)) with
                        | true =>
                          simp only [tw_T, g1, g2, g3, g4, g5, g6, g7, g8, g9, g10, g11, g12, cond_true, cond_false]; exact tw_11 p ka na sa xba eba xfa efa xla ela kb nb sb xbb ebb xfb efb xlb elb g1 g2 g3 g4 g5 g6 g7 g8 g9 g10 g11 g12 (by simp only [beq_iff_eq, beq_eq_false_iff_ne, ne_eq] at *; omega)
                        | false =>
                          cases g13 : (kb == (4 : Int)) with
                          | true =>
                            simp only [tw_T, g1, g2, g3, g4, g5, g6, g7, g8, g9, g10, g11, g12, g13, cond_true, cond_false]; exact tw_12 p ka na sa xba eba xfa efa xla ela kb nb sb xbb ebb xfb efb xlb elb g1 g2 g3 g4 g5 g6 g7 g8 g9 g10 g11 g12 g13 (by simp only [beq_iff_eq, beq_eq_false_iff_ne, ne_eq] at *; omega)
                          | false =>
                            simp only [tw_T, g1, g2, g3, g4, g5, g6, g7, g8, g9, g10, g11, g12, g13, cond_true, cond_false]; exact tw_13 p ka na sa xba eba xfa efa xla ela kb nb sb xbb ebb xfb efb xlb elb g1 g2 g3 g4 g5 g6 g7 g8 g9 g10 g11 g12 g13 (by simp only [beq_iff_eq, beq_eq_false_iff_ne, ne_eq] at *; omega)
                      | false =>
                        cases g12 : (ka == (4 : Int)) with
                        | true =>
                          simp only [tw_T, g1, g2, g3, g4, g5, g6, g7, g8, g9, g10, g11, g12, cond_true, cond_false]; exact tw_14 p ka na sa xba eba xfa efa xla ela kb nb sb xbb ebb xfb efb xlb elb g1 g2 g3 g4 g5 g6 g7 g8 g9 g10 g11 g12
                        | false =>
                          cases g13 : (kb == (4 : Int)) with
                          | true =>
                            simp only [tw_T, g1, g2, g3, g4, g5, g6, g7, g8, g9, g10, g11, g12, g13, cond_true, cond_false]; exact tw_15 p ka na sa xba eba xfa efa xla ela kb nb sb xbb ebb xfb efb xlb elb g1 g2 g3 g4 g5 g6 g7 g8 g9 g10 g11 g12 g13
                          | false =>
                            simp only [tw_T, g1, g2, g3, g4, g5, g6, g7, g8, g9, g10, g11, g12, g13, cond_true, cond_false]; exact tw_16 p ka na sa xba eba xfa efa xla ela kb nb sb xbb ebb xfb efb xlb elb g1 g2 g3 g4 g5 g6 g7 g8 g9 g10 g11 g12 g13
            | false =>
              cases g7 : (p == (43 : Int)) with
              | true =>
                cases g8 : (decide (nb ≥ (0 : Int)) == decide (IntKind.i64.wrap (na + nb) ≥ na)) with
                | true =>
                  cases g9 : (ka == (4 : Int)) with
                  | true =>
                    simp only [tw_T, g1, g2, g3, g4, g5, g6, g7, g8, g9, cond_true, cond_false]; exact tw_17 p ka na sa xba eba xfa efa xla ela kb nb sb xbb ebb xfb efb xlb elb g1 g2 g3 g4 g5 g6 g7 g8 g9
                  | false =>
                    cases g10 : (kb == (4 : Int)) with
                    | true =>
                      simp only [tw_T, g1, g2, g3, g4, g5, g6, g7, g8, g9, g10, cond_true, cond_false]; exact tw_18 p ka na sa xba eba xfa efa xla ela kb nb sb xbb ebb xfb efb xlb elb g1 g2 g3 g4 g5 g6 g7 g8 g9 g10
                    | false =>
                      simp only [tw_T, g1, g2, g3, g4, g5, g6, g7, g8, g9, g10, cond_true, cond_false]; exact tw_19 p ka na sa xba eba xfa efa xla ela kb nb sb xbb ebb xfb efb xlb elb g1 g2 g3 g4 g5 g6 g7 g8 g9 g10
                | false =>
                  simp only [tw_T, g1, g2, g3, g4, g5, g6, g7, g8, cond_true, cond_false]; exact tw_20 p ka na sa xba eba xfa efa xla ela kb nb sb xbb ebb xfb efb xlb elb g1 g2 g3 g4 g5 g6 g7 g8
              | false =>
                cases g8 : (p == (45 : Int)) with
                | true =>
                  cases g9 : (decide (nb ≤ (0 : Int)) == decide (IntKind.i64.wrap (na - nb) ≥ na)) with
                  | true =>
                    cases g10 : (ka == (4 : Int)) with
                    | true =>
                      simp only [tw_T, g1, g2, g3, g4, g5, g6, g7, g8, g9, g10, cond_true, cond_false]; exact tw_21 p ka na sa xba eba xfa efa xla ela kb nb sb xbb ebb xfb efb xlb elb g1 g2 g3 g4 g5 g6 g7 g8 g9 g10
                    | false =>
                      cases g11 : (kb == (4 : Int)) with
                      | true =>
                        simp only [tw_T, g1, g2, g3, g4, g5, g6, g7, g8, g9, g10, g11, cond_true, cond_false]; exact tw_22 p ka na sa xba eba xfa efa xla ela kb nb sb xbb ebb xfb efb xlb elb g1 g2 g3 g4 g5 g6 g7 g8 g9 g10 g11
                      | false =>
                        simp only [tw_T, g1, g2, g3, g4, g5, g6, g7, g8, g9, g10, g11, cond_true, cond_false]; exact tw_23 p ka na sa xba eba xfa efa xla ela kb nb sb xbb ebb xfb efb xlb elb g1 g2 g3 g4 g5 g6 g7 g8 g9 g10 g11
                  | false =>
                    simp only [tw_T, g1, g2, g3, g4, g5, g6, g7, g8, g9, cond_true, cond_false]; exact tw_24 p ka na sa xba eba xfa efa xla ela kb nb sb xbb ebb xfb efb xlb elb g1 g2 g3 g4 g5 g6 g7 g8 g9
                | false =>
                  cases g9 : (p == (42 : Int)) with
                  | true =>
                    cases g10 : (na == (0 : Int)) with
                    | true =>
                      cases g11 : (ka == (4 : Int)) with
                      | true =>
                        simp only [tw_T, g1, g2, g3, g4, g5, g6, g7, g8, g9, g10, g11, cond_true, cond_false]; exact tw_25 p ka na sa xba eba xfa efa xla ela kb nb sb xbb ebb xfb efb xlb elb g1 g2 g3 g4 g5 g6 g7 g8 g9 g10 g11
                      | false =>
                        cases g12 : (kb == (4 : Int)) with
                        | true =>
                          simp only [tw_T, g1, g2, g3, g4, g5, g6, g7, g8, g9, g10, g11, g12, cond_true, cond_false]; exact tw_26 p ka na sa xba eba xfa efa xla ela kb nb sb xbb ebb xfb efb xlb elb g1 g2 g3 g4 g5 g6 g7 g8 g9 g10 g11 g12
                        | false =>
                          simp only [tw_T, g1, g2, g3, g4, g5, g6, g7, g8, g9, g10, g11, g12, cond_true, cond_false]; exact tw_27 p ka na sa xba eba xfa efa xla ela kb nb sb xbb ebb xfb efb xlb elb g1 g2 g3 g4 g5 g6 g7 g8 g9 g10 g11 g12
                    | false =>
                      cases g11 : (IntKind.i64.wrap ((IntKind.i64.wrap (na * nb)).tdiv na) == nb) with
                      | true =>
                        cases g12 : (na == (-1 : Int)) with
                        | true =>
                          cases g13 : (nb == (-9223372036854775808 : Int)) with
                          | true =>
                            simp only [tw_T, g1, g2, g3, g4, g5, g6, g7, g8, g9, g10, g11, g12, g13, cond_true, cond_false]; exact tw_28 p ka na sa xba eba xfa efa xla ela kb nb sb xbb ebb xfb efb xlb elb g1 g2 g3 g4 g5 g6 g7 g8 g9 g10 g11 g12 g13 (by simp only [beq_iff_eq, beq_eq_false_iff_ne, ne_eq] at *; omega)
                          | false =>
                            cases g14 : (ka == (4 : Int)) with
                            | true =>
                              simp only [tw_T, g1, g2, g3, g4, g5, g6, g7, g8, g9, g10, g11, g12, g13, g14, cond_true, cond_false]; exact tw_29 p ka na sa xba eba xfa efa xla ela kb nb sb xbb ebb xfb efb xlb elb g1 g2 g3 g4 g5 g6 g7 g8 g9 g10 g11 g12 g13 g14 (by simp only [beq_iff_eq, beq_eq_false_iff_ne, ne_eq] at *; omega)
                            | false =>
                              cases g15 : (kb == (4 : Int)) with
                              | true =>
                                simp only [tw_T, g1, g2, g3, g4, g5, g6, g7, g8, g9, g10, g11, g12, g13, g14, g15, cond_true, cond_false]; exact tw_30 p ka na sa xba eba xfa efa xla ela kb nb sb xbb ebb xfb efb xlb elb g1 g2 g3 g4 g5 g6 g7 g8 g9 g10 g11 g12 g13 g14 g15 (by simp only [beq_iff_eq, beq_eq_false_iff_ne, ne_eq] at *; omega)
                              | false =>
                                simp only [tw_T, g1, g2, g3, g4, g5, g6, g7, g8, g9, g10, g11, g12, g13, g14, g15, cond_true, cond_false]; exact tw_31 p ka na sa xba eba xfa efa xla ela kb nb sb xbb ebb xfb efb xlb elb g1 g2 g3 g4 g5 g6 g7 g8 g9 g10 g11 g12 g13 g14 g15 (by simp only [beq_iff_eq, beq_eq_false_iff_ne, ne_eq] at *; omega)
                        | false =>
                          cases g13 : (ka == (4 : Int)) with
                          | true =>
                            simp only [tw_T, g1, g2, g3, g4, g5, g6, g7, g8, g9, g10, g11, g12, g13, cond_true, cond_false]; exact tw_32 p ka na sa xba eba xfa efa xla ela kb nb sb xbb ebb xfb efb xlb elb g1 g2 g3 g4 g5 g6 g7 g8 g9 g10 g11 g12 g13 (by simp only [beq_iff_eq, beq_eq_false_iff_ne, ne_eq] at *; omega)
                          | false =>
                            cases g14 : (kb == (4 : Int)) with
                            | true =>
                              simp only [tw_T, g1, g2, g3, g4, g5, g6, g7, g8, g9, g10, g11, g12, g13, g14, cond_true, cond_false]; exact tw_33 p ka na sa xba eba xfa efa xla ela kb nb sb xbb ebb xfb efb xlb elb g1 g2 g3 g4 g5 g6 g7 g8 g9 g10 g11 g12 g13 g14 (by simp only [beq_iff_eq, beq_eq_false_iff_ne, ne_eq] at *; omega)
                            | false =>
                              simp only [tw_T, g1, g2, g3, g4, g5, g6, g7, g8, g9, g10, g11, g12, g13, g14, cond_true, cond_false]; exact tw_34 p ka na sa xba eba xfa efa xla ela kb nb sb xbb ebb xfb efb xlb elb g1 g2 g3 g4 g5 g6 g7 g8 g9 g10 g11 g12 g13 g14 (by simp only [beq_iff_eq, beq_eq_false_iff_ne, ne_eq] at *; omega)
                      | false =>
                        simp only [tw_T, g1, g2, g3, g4, g5, g6, g7, g8, g9, g10, g11, cond_true, cond_false]; exact tw_35 p ka na sa xba eba xfa efa xla ela kb nb sb xbb ebb xfb efb xlb elb g1 g2 g3 g4 g5 g6 g7 g8 g9 g10 g11 (by simp only [beq_iff_eq, beq_eq_false_iff_ne, ne_eq] at *; omega)
                  | false =>
                    cases g10 : (nb != (-1 : Int)) with
                    | true =>
                      cases g11 : (ka == (4 : Int)) with
                      | true =>
                        simp only [tw_T, g1, g2, g3, g4, g5, g6, g7, g8, g9, g10, g11, cond_true, cond_false]; exact tw_36 p ka na sa xba eba xfa efa xla ela kb nb sb xbb ebb xfb efb xlb elb g1 g2 g3 g4 g5 g6 g7 g8 g9 g10 g11 (by simp only [beq_iff_eq, beq_eq_false_iff_ne, ne_eq] at *; omega)
                      | false =>
                        cases g12 : (kb == (4 : Int)) with
                        | true =>
                          simp only [tw_T, g1, g2, g3, g4, g5, g6, g7, g8, g9, g10, g11, g12, cond_true, cond_false]; exact tw_37 p ka na sa xba eba xfa efa xla ela kb nb sb xbb ebb xfb efb xlb elb g1 g2 g3 g4 g5 g6 g7 g8 g9 g10 g11 g12 (by simp only [beq_iff_eq, beq_eq_false_iff_ne, ne_eq] at *; omega)
                        | false =>
                          simp only [tw_T, g1, g2, g3, g4, g5, g6, g7, g8, g9, g10, g11, g12, cond_true, cond_false]; exact tw_38 p ka na sa xba eba xfa efa xla ela kb nb sb xbb ebb xfb efb xlb elb g1 g2 g3 g4 g5 g6 g7 g8 g9 g10 g11 g12 (by simp only [beq_iff_eq, beq_eq_false_iff_ne, ne_eq] at *; omega)
                    | false =>
                      cases g11 : (ka == (4 : Int)) with
                      | true =>
                        simp only [tw_T, g1, g2, g3, g4, g5, g6, g7, g8, g9, g10, g11, cond_true, cond_false]; exact tw_39 p ka na sa xba eba xfa efa xla ela kb nb sb xbb ebb xfb efb xlb elb g1 g2 g3 g4 g5 g6 g7 g8 g9 g10 g11
                      | false =>
                        cases g12 : (kb == (4 : Int)) with
                        | true =>
                          simp only [tw_T, g1, g2, g3, g4, g5, g6, g7, g8, g9, g10, g11, g12, cond_true, cond_false]; exact tw_40 p ka na sa xba eba xfa efa xla ela kb nb sb xbb ebb xfb efb xlb elb g1 g2 g3 g4 g5 g6 g7 g8 g9 g10 g11 g12
                        | false =>
                          simp only [tw_T, g1, g2, g3, g4, g5, g6, g7, g8, g9, g10, g11, g12, cond_true, cond_false]; exact tw_41 p ka na sa xba eba xfa efa xla ela kb nb sb xbb ebb xfb efb xlb elb g1 g2 g3 g4 g5 g6 g7 g8 g9 g10 g11 g12
        | false =>
          simp only [tw_T, g1, g2, g3, g4, cond_true, cond_false]; exact tw_42 p ka na sa xba eba xfa efa xla ela kb nb sb xbb ebb xfb efb xlb elb g1 g2 g3 g4
      | false =>
        simp only [tw_T, g1, g2, g3, cond_true, cond_false]; exact tw_43 p ka na sa xba eba xfa efa xla ela kb nb sb xbb ebb xfb efb xlb elb g1 g2 g3


end Go.Proofs.Ytbkacmcijimbfaa.numk
