/- PROVED: the law NumLaws hands back true, whatever the two values. No conditions. -/
import Derived.Test.YtbkacmcijimbfaaValKit
import Derived.Test.YtbkacmcijimbfaaNumOp15
import Derived.Test.YtbkacmcijimbfaaNumOp16
import Derived.Test.YtbkacmcijimbfaaNumSame
namespace Go.Proofs.Ytbkacmcijimbfaa.numLaws
open Go Ytbkacmcijimbfaa.GD Ytbkacmcijimbfaa.numk
set_option linter.unusedVariables false
set_option linter.unusedSimpArgs false

abbrev VS (c : List D) : Prop := valk.VS c
noncomputable abbrev smallB (c : List D) : Bool := valk.smallB c
abbrev arK (f : Nat) (ka na kb nb : Int) : Int := (arith f ka na kb nb).1
abbrev arN (f : Nat) (ka na kb nb : Int) : Int := (arith f ka na kb nb).2.1
abbrev arE (f : Nat) (ka na kb nb : Int) : Int := (arith f ka na kb nb).2.2
abbrev noneB (k : Int) : Bool := decide (noneK k)
abbrev numB (k : Int) : Bool := decide (numK k)
noncomputable def ct : FuncId → List D → GD.Heap → Option (D × GD.Heap × List Prop)
  | 13, [], [] => some (.bool true, [], [])
  | 14, [.agg c], [] => some (.bool (smallB c), [], [VS c])
  | 15, [.agg [.int .i64 ka, .int .i64 na, .str _, .slice _ _ none, .slice _ _ none, .slice _ _ none], .agg [.int .i64 kb, .int .i64 nb, .str _, .slice _ _ none, .slice _ _ none, .slice _ _ none]], [] => some (res (arK 45 ka na kb nb) (arN 45 ka na kb nb) (arE 45 ka na kb nb), [], [R na, R nb])
  | 16, [.agg [.int .i64 ka, .int .i64 na, .str _, .slice _ _ none, .slice _ _ none, .slice _ _ none], .agg [.int .i64 kb, .int .i64 nb, .str _, .slice _ _ none, .slice _ _ none, .slice _ _ none]], [] => some (res (arK 46 ka na kb nb) (arN 46 ka na kb nb) (arE 46 ka na kb nb), [], [R na, R nb])
  | 17, [.agg [.int .i64 k, .int .i64 n, .str s, .slice false [] none, .slice false [] none, .slice false [] none], .agg [.int .i64 k', .int .i64 n', .str s', .slice false [] none, .slice false [] none, .slice false [] none]], [] => some (.bool (decide (k = k' ∧ n = n')), [], [s = ⟨#[]⟩, s' = ⟨#[]⟩])
  | 18, [.agg [.int .i64 k, .int .i64 _, .str _, .slice _ _ none, .slice _ _ none, .slice _ _ none]], [] => some (.bool (noneB k), [], [])
  | 19, [.agg [.int .i64 k, .int .i64 _, .str _, .slice _ _ none, .slice _ _ none, .slice _ _ none]], [] => some (.bool (numB k), [], [])
  | _, _, _ => none

theorem ct_ok (k : FuncId) (args : List D) (H : GD.Heap) (r : D) (H1 : GD.Heap) (cs : List Prop) (he : ct k args H = some (r, H1, cs)) (hc : ∀ c ∈ cs, c) : ∃ X, Ev c0.P c0.T (.call k args H r (H1 ++ X)) := by
  unfold ct at he
  split at he <;> (try (simp only [Option.some.injEq, Prod.mk.injEq] at he; obtain ⟨rfl, rfl, rfl⟩ := he))
  · exact awake13
  · exact valk.small (hc _ (List.mem_cons_self ..))
  · exact c15 _ _ _ _ _ _ _ _ _ _ _ _ _ _ _ _ _ _ (hc _ (List.mem_cons_self ..)) (hc _ (List.mem_cons_of_mem _ (List.mem_cons_self ..)))
  · exact c16 _ _ _ _ _ _ _ _ _ _ _ _ _ _ _ _ _ _ (hc _ (List.mem_cons_self ..)) (hc _ (List.mem_cons_of_mem _ (List.mem_cons_self ..)))
  · obtain rfl := hc _ (List.mem_cons_self ..)
    obtain rfl := hc _ (List.mem_cons_of_mem _ (List.mem_cons_self ..))
    exact c17 _ _ _ _
  · exact c18 _ _ _ _ _ _ _ _ _
  · exact c19 _ _ _ _ _ _ _ _ _
  · cases he

noncomputable def cN : Cf := { P := Try.prog, T := tyOf Try.prog, hint := fun _ _ _ => .sym, room := fun _ _ => 4, meth := fun _ _ => none, ct := ct, stop := true }
theorem cNOk : CfOk cN where
  hT := fun _ _ h => h
  hm := by kernel_rfl
  meth := fun _ _ _ h => by simp only [cN] at h; cases h
  ct := ct_ok
noncomputable def q (ka na : Int) (sa : ByteArray) (xba : Bool) (eba : Es) (xfa : Bool) (efa : Es) (xla : Bool) (ela : Es) (kb nb : Int) (sb : ByteArray) (xbb : Bool) (ebb : Es) (xfb : Bool) (efb : Es) (xlb : Bool) (elb : Es) (or : GD.Or) := callE cN 100000 10 3 [val ka na sa xba eba xfa efa xla ela, val kb nb sb xbb ebb xfb efb xlb elb] [] or

theorem l3_0 (ka : Int) (na : Int) (sa : ByteArray) (xba : Bool) (eba : Es) (xfa : Bool) (efa : Es) (xla : Bool) (ela : Es) (kb : Int) (nb : Int) (sb : ByteArray) (xbb : Bool) (ebb : Es) (xfb : Bool) (efb : Es) (xlb : Bool) (elb : Es)
    (h0 : smallB
    [D.int IntKind.i64 ka, D.int IntKind.i64 na, D.str sa, D.slice xba eba none, D.slice xfa efa none,
      D.slice xla ela none] =
  true)
    (h1 : smallB
    [D.int IntKind.i64 kb, D.int IntKind.i64 nb, D.str sb, D.slice xbb ebb none, D.slice xfb efb none,
      D.slice xlb elb none] =
  true)
    (h2 : (arE (45 : Nat) ka na kb nb != arE (45 : Nat) kb nb ka na) = true)
    (h3 : R nb)
    (h4 : R na)
    (h5 : VS
  [D.int IntKind.i64 kb, D.int IntKind.i64 nb, D.str sb, D.slice xbb ebb none, D.slice xfb efb none,
    D.slice xlb elb none])
    (h6 : VS
  [D.int IntKind.i64 ka, D.int IntKind.i64 na, D.str sa, D.slice xba eba none, D.slice xfa efa none,
    D.slice xla ela none]) :
    ∃ X, Ev c0.P c0.T (.call 3 (two ka na sa xba eba xfa efa xla ela kb nb sb xbb ebb xfb efb xlb elb) [] (D.bool false) ([] ++ X)) :=
  outC_ok cNOk (show outC 0 (q ka na sa xba eba xfa efa xla ela kb nb sb xbb ebb xfb efb xlb elb (.path [false, true, true, true, false, false, false, false, false, true, false, false, false, false, true, false, false, false, false, true, true])) = some (D.bool false, [],
    [true = true,
      true = true,
      (true == false) = false,
      (true == false) = false,
      (true == false) = false,
      (true == false) = false,
      true = true,
      (true == false) = false,
      (true == false) = false,
      (true == false) = false,
      (true == false) = false,
      (arE (45 : Nat) ka na kb nb != arE (45 : Nat) kb nb ka na) = true,
      ((arE (45 : Nat) ka na kb nb != arE (45 : Nat) kb nb ka na) == false) = false,
      ((arE (45 : Nat) ka na kb nb != arE (45 : Nat) kb nb ka na) == false) = false,
      ((arE (45 : Nat) ka na kb nb != arE (45 : Nat) kb nb ka na) == false) = false,
      R nb,
      R na,
      R na,
      R nb,
      R nb,
      R na,
      R na,
      R nb,
      (!smallB
      [D.int IntKind.i64 kb, D.int IntKind.i64 nb, D.str sb, D.slice xbb ebb none, D.slice xfb efb none,
        D.slice xlb elb none]) =
  false,
      (!smallB
      [D.int IntKind.i64 ka, D.int IntKind.i64 na, D.str sa, D.slice xba eba none, D.slice xfa efa none,
        D.slice xla ela none]) =
  false,
      ((!smallB
        [D.int IntKind.i64 ka, D.int IntKind.i64 na, D.str sa, D.slice xba eba none, D.slice xfa efa none,
          D.slice xla ela none]) ==
    false) =
  true,
      VS
  [D.int IntKind.i64 kb, D.int IntKind.i64 nb, D.str sb, D.slice xbb ebb none, D.slice xfb efb none,
    D.slice xlb elb none],
      ((!smallB
        [D.int IntKind.i64 ka, D.int IntKind.i64 na, D.str sa, D.slice xba eba none, D.slice xfa efa none,
          D.slice xla ela none]) ==
    false) =
  true,
      ((!smallB
        [D.int IntKind.i64 ka, D.int IntKind.i64 na, D.str sa, D.slice xba eba none, D.slice xfa efa none,
          D.slice xla ela none]) ==
    false) =
  true,
      VS
  [D.int IntKind.i64 ka, D.int IntKind.i64 na, D.str sa, D.slice xba eba none, D.slice xfa efa none,
    D.slice xla ela none],
      (!true) = false]) by kernel_rfl) (by simp only [all_cons, all_nil]; simp [*])

theorem l3_1 (ka : Int) (na : Int) (sa : ByteArray) (xba : Bool) (eba : Es) (xfa : Bool) (efa : Es) (xla : Bool) (ela : Es) (kb : Int) (nb : Int) (sb : ByteArray) (xbb : Bool) (ebb : Es) (xfb : Bool) (efb : Es) (xlb : Bool) (elb : Es)
    (h0 : smallB
    [D.int IntKind.i64 ka, D.int IntKind.i64 na, D.str sa, D.slice xba eba none, D.slice xfa efa none,
      D.slice xla ela none] =
  true)
    (h1 : smallB
    [D.int IntKind.i64 kb, D.int IntKind.i64 nb, D.str sb, D.slice xbb ebb none, D.slice xfb efb none,
      D.slice xlb elb none] =
  true)
    (h2 : (arE (45 : Nat) ka na kb nb != arE (45 : Nat) kb nb ka na) = false)
    (h3 : (arE (46 : Nat) ka na kb nb != arE (46 : Nat) kb nb ka na) = true)
    (h4 : R nb)
    (h5 : R na)
    (h6 : VS
  [D.int IntKind.i64 kb, D.int IntKind.i64 nb, D.str sb, D.slice xbb ebb none, D.slice xfb efb none,
    D.slice xlb elb none])
    (h7 : VS
  [D.int IntKind.i64 ka, D.int IntKind.i64 na, D.str sa, D.slice xba eba none, D.slice xfa efa none,
    D.slice xla ela none]) :
    ∃ X, Ev c0.P c0.T (.call 3 (two ka na sa xba eba xfa efa xla ela kb nb sb xbb ebb xfb efb xlb elb) [] (D.bool false) ([] ++ X)) :=
  outC_ok cNOk (show outC 0 (q ka na sa xba eba xfa efa xla ela kb nb sb xbb ebb xfb efb xlb elb (.path [false, true, true, true, false, false, true, true, true, false, false, false, false, false, true, false, false, false, false, true, true])) = some (D.bool false, [],
    [true = true,
      true = true,
      (true == false) = false,
      (true == false) = false,
      (true == false) = false,
      (true == false) = false,
      (arE (46 : Nat) ka na kb nb != arE (46 : Nat) kb nb ka na) = true,
      ((arE (46 : Nat) ka na kb nb != arE (46 : Nat) kb nb ka na) == false) = false,
      ((arE (46 : Nat) ka na kb nb != arE (46 : Nat) kb nb ka na) == false) = false,
      ((arE (46 : Nat) ka na kb nb != arE (46 : Nat) kb nb ka na) == false) = false,
      ((arE (46 : Nat) ka na kb nb != arE (46 : Nat) kb nb ka na) == false) = false,
      (arE (45 : Nat) ka na kb nb != arE (45 : Nat) kb nb ka na) = false,
      ((arE (45 : Nat) ka na kb nb != arE (45 : Nat) kb nb ka na) == false) = true,
      ((arE (45 : Nat) ka na kb nb != arE (45 : Nat) kb nb ka na) == false) = true,
      ((arE (45 : Nat) ka na kb nb != arE (45 : Nat) kb nb ka na) == false) = true,
      R nb,
      R na,
      R na,
      R nb,
      R nb,
      R na,
      R na,
      R nb,
      (!smallB
      [D.int IntKind.i64 kb, D.int IntKind.i64 nb, D.str sb, D.slice xbb ebb none, D.slice xfb efb none,
        D.slice xlb elb none]) =
  false,
      (!smallB
      [D.int IntKind.i64 ka, D.int IntKind.i64 na, D.str sa, D.slice xba eba none, D.slice xfa efa none,
        D.slice xla ela none]) =
  false,
      ((!smallB
        [D.int IntKind.i64 ka, D.int IntKind.i64 na, D.str sa, D.slice xba eba none, D.slice xfa efa none,
          D.slice xla ela none]) ==
    false) =
  true,
      VS
  [D.int IntKind.i64 kb, D.int IntKind.i64 nb, D.str sb, D.slice xbb ebb none, D.slice xfb efb none,
    D.slice xlb elb none],
      ((!smallB
        [D.int IntKind.i64 ka, D.int IntKind.i64 na, D.str sa, D.slice xba eba none, D.slice xfa efa none,
          D.slice xla ela none]) ==
    false) =
  true,
      ((!smallB
        [D.int IntKind.i64 ka, D.int IntKind.i64 na, D.str sa, D.slice xba eba none, D.slice xfa efa none,
          D.slice xla ela none]) ==
    false) =
  true,
      VS
  [D.int IntKind.i64 ka, D.int IntKind.i64 na, D.str sa, D.slice xba eba none, D.slice xfa efa none,
    D.slice xla ela none],
      (!true) = false]) by kernel_rfl) (by simp only [all_cons, all_nil]; simp [*])

theorem l3_2 (ka : Int) (na : Int) (sa : ByteArray) (xba : Bool) (eba : Es) (xfa : Bool) (efa : Es) (xla : Bool) (ela : Es) (kb : Int) (nb : Int) (sb : ByteArray) (xbb : Bool) (ebb : Es) (xfb : Bool) (efb : Es) (xlb : Bool) (elb : Es)
    (h0 : smallB
    [D.int IntKind.i64 ka, D.int IntKind.i64 na, D.str sa, D.slice xba eba none, D.slice xfa efa none,
      D.slice xla ela none] =
  true)
    (h1 : smallB
    [D.int IntKind.i64 kb, D.int IntKind.i64 nb, D.str sb, D.slice xbb ebb none, D.slice xfb efb none,
      D.slice xlb elb none] =
  true)
    (h2 : (arE (45 : Nat) ka na kb nb != arE (45 : Nat) kb nb ka na) = false)
    (h3 : (arE (46 : Nat) ka na kb nb != arE (46 : Nat) kb nb ka na) = false)
    (h4 : decide
    (arK (45 : Nat) ka na kb nb = arK (45 : Nat) kb nb ka na ∧
      arN (45 : Nat) ka na kb nb = arN (45 : Nat) kb nb ka na) =
  true)
    (h5 : decide
    (arK (46 : Nat) ka na kb nb = arK (46 : Nat) kb nb ka na ∧
      arN (46 : Nat) ka na kb nb = arN (46 : Nat) kb nb ka na) =
  true)
    (h6 : noneB ka = true)
    (h7 : (arE (45 : Nat) ka na kb nb == (0 : Int)) = true)
    (h8 : (arE (46 : Nat) ka na kb nb == (0 : Int)) = true)
    (h9 : (arK (45 : Nat) ka na kb nb == (2 : Int)) = true)
    (h10 : (ByteArray.mk #[]) = (ByteArray.mk #[]))
    (h11 : R nb)
    (h12 : R na)
    (h13 : VS
  [D.int IntKind.i64 kb, D.int IntKind.i64 nb, D.str sb, D.slice xbb ebb none, D.slice xfb efb none,
    D.slice xlb elb none])
    (h14 : VS
  [D.int IntKind.i64 ka, D.int IntKind.i64 na, D.str sa, D.slice xba eba none, D.slice xfa efa none,
    D.slice xla ela none]) :
    ∃ X, Ev c0.P c0.T (.call 3 (two ka na sa xba eba xfa efa xla ela kb nb sb xbb ebb xfb efb xlb elb) [] (D.bool (arK (46 : Nat) ka na kb nb == (2 : Int))) ([] ++ X)) :=
  outC_ok cNOk (show outC 0 (q ka na sa xba eba xfa efa xla ela kb nb sb xbb ebb xfb efb xlb elb (.path [false, true, true, true, false, false, true, true, true, false, true, true, true, true, false, true, true, true, true, false, false, false, false, false, true, true, true, true, true, true, true, true, true, true, true, true, true])) = some (D.bool (arK (46 : Nat) ka na kb nb == (2 : Int)), [],
    [(arK (45 : Nat) ka na kb nb == (2 : Int)) = true,
      ((arK (45 : Nat) ka na kb nb == (2 : Int)) == true) = true,
      ((arK (45 : Nat) ka na kb nb == (2 : Int)) == true) = true,
      ((arK (45 : Nat) ka na kb nb == (2 : Int)) == true) = true,
      (arE (46 : Nat) ka na kb nb == (0 : Int)) = true,
      ((arE (46 : Nat) ka na kb nb == (0 : Int)) == true) = true,
      ((arE (46 : Nat) ka na kb nb == (0 : Int)) == true) = true,
      ((arE (46 : Nat) ka na kb nb == (0 : Int)) == true) = true,
      (arE (45 : Nat) ka na kb nb == (0 : Int)) = true,
      ((arE (45 : Nat) ka na kb nb == (0 : Int)) == true) = true,
      ((arE (45 : Nat) ka na kb nb == (0 : Int)) == true) = true,
      true = true,
      noneB ka = true,
      (noneB ka == false) = false,
      (noneB ka == false) = false,
      (noneB ka == false) = false,
      (!decide
      (arK (46 : Nat) ka na kb nb = arK (46 : Nat) kb nb ka na ∧
        arN (46 : Nat) ka na kb nb = arN (46 : Nat) kb nb ka na)) =
  false,
      (!decide
      (arK (45 : Nat) ka na kb nb = arK (45 : Nat) kb nb ka na ∧
        arN (45 : Nat) ka na kb nb = arN (45 : Nat) kb nb ka na)) =
  false,
      ((!decide
        (arK (45 : Nat) ka na kb nb = arK (45 : Nat) kb nb ka na ∧
          arN (45 : Nat) ka na kb nb = arN (45 : Nat) kb nb ka na)) ==
    false) =
  true,
      (ByteArray.mk #[]) = (ByteArray.mk #[]),
      (ByteArray.mk #[]) = (ByteArray.mk #[]),
      ((!decide
        (arK (45 : Nat) ka na kb nb = arK (45 : Nat) kb nb ka na ∧
          arN (45 : Nat) ka na kb nb = arN (45 : Nat) kb nb ka na)) ==
    false) =
  true,
      ((!decide
        (arK (45 : Nat) ka na kb nb = arK (45 : Nat) kb nb ka na ∧
          arN (45 : Nat) ka na kb nb = arN (45 : Nat) kb nb ka na)) ==
    false) =
  true,
      ((!decide
        (arK (45 : Nat) ka na kb nb = arK (45 : Nat) kb nb ka na ∧
          arN (45 : Nat) ka na kb nb = arN (45 : Nat) kb nb ka na)) ==
    false) =
  true,
      (arE (46 : Nat) ka na kb nb != arE (46 : Nat) kb nb ka na) = false,
      ((arE (46 : Nat) ka na kb nb != arE (46 : Nat) kb nb ka na) == false) = true,
      (ByteArray.mk #[]) = (ByteArray.mk #[]),
      (ByteArray.mk #[]) = (ByteArray.mk #[]),
      ((arE (46 : Nat) ka na kb nb != arE (46 : Nat) kb nb ka na) == false) = true,
      ((arE (46 : Nat) ka na kb nb != arE (46 : Nat) kb nb ka na) == false) = true,
      ((arE (46 : Nat) ka na kb nb != arE (46 : Nat) kb nb ka na) == false) = true,
      (arE (45 : Nat) ka na kb nb != arE (45 : Nat) kb nb ka na) = false,
      ((arE (45 : Nat) ka na kb nb != arE (45 : Nat) kb nb ka na) == false) = true,
      ((arE (45 : Nat) ka na kb nb != arE (45 : Nat) kb nb ka na) == false) = true,
      ((arE (45 : Nat) ka na kb nb != arE (45 : Nat) kb nb ka na) == false) = true,
      R nb,
      R na,
      R na,
      R nb,
      R nb,
      R na,
      R na,
      R nb,
      (!smallB
      [D.int IntKind.i64 kb, D.int IntKind.i64 nb, D.str sb, D.slice xbb ebb none, D.slice xfb efb none,
        D.slice xlb elb none]) =
  false,
      (!smallB
      [D.int IntKind.i64 ka, D.int IntKind.i64 na, D.str sa, D.slice xba eba none, D.slice xfa efa none,
        D.slice xla ela none]) =
  false,
      ((!smallB
        [D.int IntKind.i64 ka, D.int IntKind.i64 na, D.str sa, D.slice xba eba none, D.slice xfa efa none,
          D.slice xla ela none]) ==
    false) =
  true,
      VS
  [D.int IntKind.i64 kb, D.int IntKind.i64 nb, D.str sb, D.slice xbb ebb none, D.slice xfb efb none,
    D.slice xlb elb none],
      ((!smallB
        [D.int IntKind.i64 ka, D.int IntKind.i64 na, D.str sa, D.slice xba eba none, D.slice xfa efa none,
          D.slice xla ela none]) ==
    false) =
  true,
      ((!smallB
        [D.int IntKind.i64 ka, D.int IntKind.i64 na, D.str sa, D.slice xba eba none, D.slice xfa efa none,
          D.slice xla ela none]) ==
    false) =
  true,
      VS
  [D.int IntKind.i64 ka, D.int IntKind.i64 na, D.str sa, D.slice xba eba none, D.slice xfa efa none,
    D.slice xla ela none],
      (!true) = false]) by kernel_rfl) (by simp only [all_cons, all_nil]; simp [*])

theorem l3_3 (ka : Int) (na : Int) (sa : ByteArray) (xba : Bool) (eba : Es) (xfa : Bool) (efa : Es) (xla : Bool) (ela : Es) (kb : Int) (nb : Int) (sb : ByteArray) (xbb : Bool) (ebb : Es) (xfb : Bool) (efb : Es) (xlb : Bool) (elb : Es)
    (h0 : smallB
    [D.int IntKind.i64 ka, D.int IntKind.i64 na, D.str sa, D.slice xba eba none, D.slice xfa efa none,
      D.slice xla ela none] =
  true)
    (h1 : smallB
    [D.int IntKind.i64 kb, D.int IntKind.i64 nb, D.str sb, D.slice xbb ebb none, D.slice xfb efb none,
      D.slice xlb elb none] =
  true)
    (h2 : (arE (45 : Nat) ka na kb nb != arE (45 : Nat) kb nb ka na) = false)
    (h3 : (arE (46 : Nat) ka na kb nb != arE (46 : Nat) kb nb ka na) = false)
    (h4 : decide
    (arK (45 : Nat) ka na kb nb = arK (45 : Nat) kb nb ka na ∧
      arN (45 : Nat) ka na kb nb = arN (45 : Nat) kb nb ka na) =
  true)
    (h5 : decide
    (arK (46 : Nat) ka na kb nb = arK (46 : Nat) kb nb ka na ∧
      arN (46 : Nat) ka na kb nb = arN (46 : Nat) kb nb ka na) =
  true)
    (h6 : noneB ka = true)
    (h7 : (arE (45 : Nat) ka na kb nb == (0 : Int)) = true)
    (h8 : (arE (46 : Nat) ka na kb nb == (0 : Int)) = true)
    (h9 : (arK (45 : Nat) ka na kb nb == (2 : Int)) = false)
    (h10 : (ByteArray.mk #[]) = (ByteArray.mk #[]))
    (h11 : R nb)
    (h12 : R na)
    (h13 : VS
  [D.int IntKind.i64 kb, D.int IntKind.i64 nb, D.str sb, D.slice xbb ebb none, D.slice xfb efb none,
    D.slice xlb elb none])
    (h14 : VS
  [D.int IntKind.i64 ka, D.int IntKind.i64 na, D.str sa, D.slice xba eba none, D.slice xfa efa none,
    D.slice xla ela none]) :
    ∃ X, Ev c0.P c0.T (.call 3 (two ka na sa xba eba xfa efa xla ela kb nb sb xbb ebb xfb efb xlb elb) [] (D.bool false) ([] ++ X)) :=
  outC_ok cNOk (show outC 0 (q ka na sa xba eba xfa efa xla ela kb nb sb xbb ebb xfb efb xlb elb (.path [false, true, true, true, false, false, true, true, true, false, true, true, true, true, false, true, true, true, true, false, false, false, false, false, true, true, true, true, true, true, true, true, true, false, false, false, false])) = some (D.bool false, [],
    [(arK (45 : Nat) ka na kb nb == (2 : Int)) = false,
      ((arK (45 : Nat) ka na kb nb == (2 : Int)) == true) = false,
      ((arK (45 : Nat) ka na kb nb == (2 : Int)) == true) = false,
      ((arK (45 : Nat) ka na kb nb == (2 : Int)) == true) = false,
      (arE (46 : Nat) ka na kb nb == (0 : Int)) = true,
      ((arE (46 : Nat) ka na kb nb == (0 : Int)) == true) = true,
      ((arE (46 : Nat) ka na kb nb == (0 : Int)) == true) = true,
      ((arE (46 : Nat) ka na kb nb == (0 : Int)) == true) = true,
      (arE (45 : Nat) ka na kb nb == (0 : Int)) = true,
      ((arE (45 : Nat) ka na kb nb == (0 : Int)) == true) = true,
      ((arE (45 : Nat) ka na kb nb == (0 : Int)) == true) = true,
      true = true,
      noneB ka = true,
      (noneB ka == false) = false,
      (noneB ka == false) = false,
      (noneB ka == false) = false,
      (!decide
      (arK (46 : Nat) ka na kb nb = arK (46 : Nat) kb nb ka na ∧
        arN (46 : Nat) ka na kb nb = arN (46 : Nat) kb nb ka na)) =
  false,
      (!decide
      (arK (45 : Nat) ka na kb nb = arK (45 : Nat) kb nb ka na ∧
        arN (45 : Nat) ka na kb nb = arN (45 : Nat) kb nb ka na)) =
  false,
      ((!decide
        (arK (45 : Nat) ka na kb nb = arK (45 : Nat) kb nb ka na ∧
          arN (45 : Nat) ka na kb nb = arN (45 : Nat) kb nb ka na)) ==
    false) =
  true,
      (ByteArray.mk #[]) = (ByteArray.mk #[]),
      (ByteArray.mk #[]) = (ByteArray.mk #[]),
      ((!decide
        (arK (45 : Nat) ka na kb nb = arK (45 : Nat) kb nb ka na ∧
          arN (45 : Nat) ka na kb nb = arN (45 : Nat) kb nb ka na)) ==
    false) =
  true,
      ((!decide
        (arK (45 : Nat) ka na kb nb = arK (45 : Nat) kb nb ka na ∧
          arN (45 : Nat) ka na kb nb = arN (45 : Nat) kb nb ka na)) ==
    false) =
  true,
      ((!decide
        (arK (45 : Nat) ka na kb nb = arK (45 : Nat) kb nb ka na ∧
          arN (45 : Nat) ka na kb nb = arN (45 : Nat) kb nb ka na)) ==
    false) =
  true,
      (arE (46 : Nat) ka na kb nb != arE (46 : Nat) kb nb ka na) = false,
      ((arE (46 : Nat) ka na kb nb != arE (46 : Nat) kb nb ka na) == false) = true,
      (ByteArray.mk #[]) = (ByteArray.mk #[]),
      (ByteArray.mk #[]) = (ByteArray.mk #[]),
      ((arE (46 : Nat) ka na kb nb != arE (46 : Nat) kb nb ka na) == false) = true,
      ((arE (46 : Nat) ka na kb nb != arE (46 : Nat) kb nb ka na) == false) = true,
      ((arE (46 : Nat) ka na kb nb != arE (46 : Nat) kb nb ka na) == false) = true,
      (arE (45 : Nat) ka na kb nb != arE (45 : Nat) kb nb ka na) = false,
      ((arE (45 : Nat) ka na kb nb != arE (45 : Nat) kb nb ka na) == false) = true,
      ((arE (45 : Nat) ka na kb nb != arE (45 : Nat) kb nb ka na) == false) = true,
      ((arE (45 : Nat) ka na kb nb != arE (45 : Nat) kb nb ka na) == false) = true,
      R nb,
      R na,
      R na,
      R nb,
      R nb,
      R na,
      R na,
      R nb,
      (!smallB
      [D.int IntKind.i64 kb, D.int IntKind.i64 nb, D.str sb, D.slice xbb ebb none, D.slice xfb efb none,
        D.slice xlb elb none]) =
  false,
      (!smallB
      [D.int IntKind.i64 ka, D.int IntKind.i64 na, D.str sa, D.slice xba eba none, D.slice xfa efa none,
        D.slice xla ela none]) =
  false,
      ((!smallB
        [D.int IntKind.i64 ka, D.int IntKind.i64 na, D.str sa, D.slice xba eba none, D.slice xfa efa none,
          D.slice xla ela none]) ==
    false) =
  true,
      VS
  [D.int IntKind.i64 kb, D.int IntKind.i64 nb, D.str sb, D.slice xbb ebb none, D.slice xfb efb none,
    D.slice xlb elb none],
      ((!smallB
        [D.int IntKind.i64 ka, D.int IntKind.i64 na, D.str sa, D.slice xba eba none, D.slice xfa efa none,
          D.slice xla ela none]) ==
    false) =
  true,
      ((!smallB
        [D.int IntKind.i64 ka, D.int IntKind.i64 na, D.str sa, D.slice xba eba none, D.slice xfa efa none,
          D.slice xla ela none]) ==
    false) =
  true,
      VS
  [D.int IntKind.i64 ka, D.int IntKind.i64 na, D.str sa, D.slice xba eba none, D.slice xfa efa none,
    D.slice xla ela none],
      (!true) = false]) by kernel_rfl) (by simp only [all_cons, all_nil]; simp [*])

theorem l3_4 (ka : Int) (na : Int) (sa : ByteArray) (xba : Bool) (eba : Es) (xfa : Bool) (efa : Es) (xla : Bool) (ela : Es) (kb : Int) (nb : Int) (sb : ByteArray) (xbb : Bool) (ebb : Es) (xfb : Bool) (efb : Es) (xlb : Bool) (elb : Es)
    (h0 : smallB
    [D.int IntKind.i64 ka, D.int IntKind.i64 na, D.str sa, D.slice xba eba none, D.slice xfa efa none,
      D.slice xla ela none] =
  true)
    (h1 : smallB
    [D.int IntKind.i64 kb, D.int IntKind.i64 nb, D.str sb, D.slice xbb ebb none, D.slice xfb efb none,
      D.slice xlb elb none] =
  true)
    (h2 : (arE (45 : Nat) ka na kb nb != arE (45 : Nat) kb nb ka na) = false)
    (h3 : (arE (46 : Nat) ka na kb nb != arE (46 : Nat) kb nb ka na) = false)
    (h4 : decide
    (arK (45 : Nat) ka na kb nb = arK (45 : Nat) kb nb ka na ∧
      arN (45 : Nat) ka na kb nb = arN (45 : Nat) kb nb ka na) =
  true)
    (h5 : decide
    (arK (46 : Nat) ka na kb nb = arK (46 : Nat) kb nb ka na ∧
      arN (46 : Nat) ka na kb nb = arN (46 : Nat) kb nb ka na) =
  true)
    (h6 : noneB ka = true)
    (h7 : (arE (45 : Nat) ka na kb nb == (0 : Int)) = true)
    (h8 : (arE (46 : Nat) ka na kb nb == (0 : Int)) = false)
    (h9 : (ByteArray.mk #[]) = (ByteArray.mk #[]))
    (h10 : R nb)
    (h11 : R na)
    (h12 : VS
  [D.int IntKind.i64 kb, D.int IntKind.i64 nb, D.str sb, D.slice xbb ebb none, D.slice xfb efb none,
    D.slice xlb elb none])
    (h13 : VS
  [D.int IntKind.i64 ka, D.int IntKind.i64 na, D.str sa, D.slice xba eba none, D.slice xfa efa none,
    D.slice xla ela none]) :
    ∃ X, Ev c0.P c0.T (.call 3 (two ka na sa xba eba xfa efa xla ela kb nb sb xbb ebb xfb efb xlb elb) [] (D.bool false) ([] ++ X)) :=
  outC_ok cNOk (show outC 0 (q ka na sa xba eba xfa efa xla ela kb nb sb xbb ebb xfb efb xlb elb (.path [false, true, true, true, false, false, true, true, true, false, true, true, true, true, false, true, true, true, true, false, false, false, false, false, true, true, true, true, true, false, false, false, false, false, false, false, false])) = some (D.bool false, [],
    [false = false,
      (false == true) = false,
      (false == true) = false,
      (false == true) = false,
      (arE (46 : Nat) ka na kb nb == (0 : Int)) = false,
      ((arE (46 : Nat) ka na kb nb == (0 : Int)) == true) = false,
      ((arE (46 : Nat) ka na kb nb == (0 : Int)) == true) = false,
      ((arE (46 : Nat) ka na kb nb == (0 : Int)) == true) = false,
      (arE (45 : Nat) ka na kb nb == (0 : Int)) = true,
      ((arE (45 : Nat) ka na kb nb == (0 : Int)) == true) = true,
      ((arE (45 : Nat) ka na kb nb == (0 : Int)) == true) = true,
      true = true,
      noneB ka = true,
      (noneB ka == false) = false,
      (noneB ka == false) = false,
      (noneB ka == false) = false,
      (!decide
      (arK (46 : Nat) ka na kb nb = arK (46 : Nat) kb nb ka na ∧
        arN (46 : Nat) ka na kb nb = arN (46 : Nat) kb nb ka na)) =
  false,
      (!decide
      (arK (45 : Nat) ka na kb nb = arK (45 : Nat) kb nb ka na ∧
        arN (45 : Nat) ka na kb nb = arN (45 : Nat) kb nb ka na)) =
  false,
      ((!decide
        (arK (45 : Nat) ka na kb nb = arK (45 : Nat) kb nb ka na ∧
          arN (45 : Nat) ka na kb nb = arN (45 : Nat) kb nb ka na)) ==
    false) =
  true,
      (ByteArray.mk #[]) = (ByteArray.mk #[]),
      (ByteArray.mk #[]) = (ByteArray.mk #[]),
      ((!decide
        (arK (45 : Nat) ka na kb nb = arK (45 : Nat) kb nb ka na ∧
          arN (45 : Nat) ka na kb nb = arN (45 : Nat) kb nb ka na)) ==
    false) =
  true,
      ((!decide
        (arK (45 : Nat) ka na kb nb = arK (45 : Nat) kb nb ka na ∧
          arN (45 : Nat) ka na kb nb = arN (45 : Nat) kb nb ka na)) ==
    false) =
  true,
      ((!decide
        (arK (45 : Nat) ka na kb nb = arK (45 : Nat) kb nb ka na ∧
          arN (45 : Nat) ka na kb nb = arN (45 : Nat) kb nb ka na)) ==
    false) =
  true,
      (arE (46 : Nat) ka na kb nb != arE (46 : Nat) kb nb ka na) = false,
      ((arE (46 : Nat) ka na kb nb != arE (46 : Nat) kb nb ka na) == false) = true,
      (ByteArray.mk #[]) = (ByteArray.mk #[]),
      (ByteArray.mk #[]) = (ByteArray.mk #[]),
      ((arE (46 : Nat) ka na kb nb != arE (46 : Nat) kb nb ka na) == false) = true,
      ((arE (46 : Nat) ka na kb nb != arE (46 : Nat) kb nb ka na) == false) = true,
      ((arE (46 : Nat) ka na kb nb != arE (46 : Nat) kb nb ka na) == false) = true,
      (arE (45 : Nat) ka na kb nb != arE (45 : Nat) kb nb ka na) = false,
      ((arE (45 : Nat) ka na kb nb != arE (45 : Nat) kb nb ka na) == false) = true,
      ((arE (45 : Nat) ka na kb nb != arE (45 : Nat) kb nb ka na) == false) = true,
      ((arE (45 : Nat) ka na kb nb != arE (45 : Nat) kb nb ka na) == false) = true,
      R nb,
      R na,
      R na,
      R nb,
      R nb,
      R na,
      R na,
      R nb,
      (!smallB
      [D.int IntKind.i64 kb, D.int IntKind.i64 nb, D.str sb, D.slice xbb ebb none, D.slice xfb efb none,
        D.slice xlb elb none]) =
  false,
      (!smallB
      [D.int IntKind.i64 ka, D.int IntKind.i64 na, D.str sa, D.slice xba eba none, D.slice xfa efa none,
        D.slice xla ela none]) =
  false,
      ((!smallB
        [D.int IntKind.i64 ka, D.int IntKind.i64 na, D.str sa, D.slice xba eba none, D.slice xfa efa none,
          D.slice xla ela none]) ==
    false) =
  true,
      VS
  [D.int IntKind.i64 kb, D.int IntKind.i64 nb, D.str sb, D.slice xbb ebb none, D.slice xfb efb none,
    D.slice xlb elb none],
      ((!smallB
        [D.int IntKind.i64 ka, D.int IntKind.i64 na, D.str sa, D.slice xba eba none, D.slice xfa efa none,
          D.slice xla ela none]) ==
    false) =
  true,
      ((!smallB
        [D.int IntKind.i64 ka, D.int IntKind.i64 na, D.str sa, D.slice xba eba none, D.slice xfa efa none,
          D.slice xla ela none]) ==
    false) =
  true,
      VS
  [D.int IntKind.i64 ka, D.int IntKind.i64 na, D.str sa, D.slice xba eba none, D.slice xfa efa none,
    D.slice xla ela none],
      (!true) = false]) by kernel_rfl) (by simp only [all_cons, all_nil]; simp [*])

theorem l3_5 (ka : Int) (na : Int) (sa : ByteArray) (xba : Bool) (eba : Es) (xfa : Bool) (efa : Es) (xla : Bool) (ela : Es) (kb : Int) (nb : Int) (sb : ByteArray) (xbb : Bool) (ebb : Es) (xfb : Bool) (efb : Es) (xlb : Bool) (elb : Es)
    (h0 : smallB
    [D.int IntKind.i64 ka, D.int IntKind.i64 na, D.str sa, D.slice xba eba none, D.slice xfa efa none,
      D.slice xla ela none] =
  true)
    (h1 : smallB
    [D.int IntKind.i64 kb, D.int IntKind.i64 nb, D.str sb, D.slice xbb ebb none, D.slice xfb efb none,
      D.slice xlb elb none] =
  true)
    (h2 : (arE (45 : Nat) ka na kb nb != arE (45 : Nat) kb nb ka na) = false)
    (h3 : (arE (46 : Nat) ka na kb nb != arE (46 : Nat) kb nb ka na) = false)
    (h4 : decide
    (arK (45 : Nat) ka na kb nb = arK (45 : Nat) kb nb ka na ∧
      arN (45 : Nat) ka na kb nb = arN (45 : Nat) kb nb ka na) =
  true)
    (h5 : decide
    (arK (46 : Nat) ka na kb nb = arK (46 : Nat) kb nb ka na ∧
      arN (46 : Nat) ka na kb nb = arN (46 : Nat) kb nb ka na) =
  true)
    (h6 : noneB ka = true)
    (h7 : (arE (45 : Nat) ka na kb nb == (0 : Int)) = false)
    (h8 : (ByteArray.mk #[]) = (ByteArray.mk #[]))
    (h9 : R nb)
    (h10 : R na)
    (h11 : VS
  [D.int IntKind.i64 kb, D.int IntKind.i64 nb, D.str sb, D.slice xbb ebb none, D.slice xfb efb none,
    D.slice xlb elb none])
    (h12 : VS
  [D.int IntKind.i64 ka, D.int IntKind.i64 na, D.str sa, D.slice xba eba none, D.slice xfa efa none,
    D.slice xla ela none]) :
    ∃ X, Ev c0.P c0.T (.call 3 (two ka na sa xba eba xfa efa xla ela kb nb sb xbb ebb xfb efb xlb elb) [] (D.bool false) ([] ++ X)) :=
  outC_ok cNOk (show outC 0 (q ka na sa xba eba xfa efa xla ela kb nb sb xbb ebb xfb efb xlb elb (.path [false, true, true, true, false, false, true, true, true, false, true, true, true, true, false, true, true, true, true, false, false, false, false, false, true, true, false, false, false, false, false, false, false, false, false, false, false])) = some (D.bool false, [],
    [false = false,
      (false == true) = false,
      (false == true) = false,
      (false == true) = false,
      false = false,
      (false == true) = false,
      (false == true) = false,
      (false == true) = false,
      (arE (45 : Nat) ka na kb nb == (0 : Int)) = false,
      ((arE (45 : Nat) ka na kb nb == (0 : Int)) == true) = false,
      ((arE (45 : Nat) ka na kb nb == (0 : Int)) == true) = false,
      true = true,
      noneB ka = true,
      (noneB ka == false) = false,
      (noneB ka == false) = false,
      (noneB ka == false) = false,
      (!decide
      (arK (46 : Nat) ka na kb nb = arK (46 : Nat) kb nb ka na ∧
        arN (46 : Nat) ka na kb nb = arN (46 : Nat) kb nb ka na)) =
  false,
      (!decide
      (arK (45 : Nat) ka na kb nb = arK (45 : Nat) kb nb ka na ∧
        arN (45 : Nat) ka na kb nb = arN (45 : Nat) kb nb ka na)) =
  false,
      ((!decide
        (arK (45 : Nat) ka na kb nb = arK (45 : Nat) kb nb ka na ∧
          arN (45 : Nat) ka na kb nb = arN (45 : Nat) kb nb ka na)) ==
    false) =
  true,
      (ByteArray.mk #[]) = (ByteArray.mk #[]),
      (ByteArray.mk #[]) = (ByteArray.mk #[]),
      ((!decide
        (arK (45 : Nat) ka na kb nb = arK (45 : Nat) kb nb ka na ∧
          arN (45 : Nat) ka na kb nb = arN (45 : Nat) kb nb ka na)) ==
    false) =
  true,
      ((!decide
        (arK (45 : Nat) ka na kb nb = arK (45 : Nat) kb nb ka na ∧
          arN (45 : Nat) ka na kb nb = arN (45 : Nat) kb nb ka na)) ==
    false) =
  true,
      ((!decide
        (arK (45 : Nat) ka na kb nb = arK (45 : Nat) kb nb ka na ∧
          arN (45 : Nat) ka na kb nb = arN (45 : Nat) kb nb ka na)) ==
    false) =
  true,
      (arE (46 : Nat) ka na kb nb != arE (46 : Nat) kb nb ka na) = false,
      ((arE (46 : Nat) ka na kb nb != arE (46 : Nat) kb nb ka na) == false) = true,
      (ByteArray.mk #[]) = (ByteArray.mk #[]),
      (ByteArray.mk #[]) = (ByteArray.mk #[]),
      ((arE (46 : Nat) ka na kb nb != arE (46 : Nat) kb nb ka na) == false) = true,
      ((arE (46 : Nat) ka na kb nb != arE (46 : Nat) kb nb ka na) == false) = true,
      ((arE (46 : Nat) ka na kb nb != arE (46 : Nat) kb nb ka na) == false) = true,
      (arE (45 : Nat) ka na kb nb != arE (45 : Nat) kb nb ka na) = false,
      ((arE (45 : Nat) ka na kb nb != arE (45 : Nat) kb nb ka na) == false) = true,
      ((arE (45 : Nat) ka na kb nb != arE (45 : Nat) kb nb ka na) == false) = true,
      ((arE (45 : Nat) ka na kb nb != arE (45 : Nat) kb nb ka na) == false) = true,
      R nb,
      R na,
      R na,
      R nb,
      R nb,
      R na,
      R na,
      R nb,
      (!smallB
      [D.int IntKind.i64 kb, D.int IntKind.i64 nb, D.str sb, D.slice xbb ebb none, D.slice xfb efb none,
        D.slice xlb elb none]) =
  false,
      (!smallB
      [D.int IntKind.i64 ka, D.int IntKind.i64 na, D.str sa, D.slice xba eba none, D.slice xfa efa none,
        D.slice xla ela none]) =
  false,
      ((!smallB
        [D.int IntKind.i64 ka, D.int IntKind.i64 na, D.str sa, D.slice xba eba none, D.slice xfa efa none,
          D.slice xla ela none]) ==
    false) =
  true,
      VS
  [D.int IntKind.i64 kb, D.int IntKind.i64 nb, D.str sb, D.slice xbb ebb none, D.slice xfb efb none,
    D.slice xlb elb none],
      ((!smallB
        [D.int IntKind.i64 ka, D.int IntKind.i64 na, D.str sa, D.slice xba eba none, D.slice xfa efa none,
          D.slice xla ela none]) ==
    false) =
  true,
      ((!smallB
        [D.int IntKind.i64 ka, D.int IntKind.i64 na, D.str sa, D.slice xba eba none, D.slice xfa efa none,
          D.slice xla ela none]) ==
    false) =
  true,
      VS
  [D.int IntKind.i64 ka, D.int IntKind.i64 na, D.str sa, D.slice xba eba none, D.slice xfa efa none,
    D.slice xla ela none],
      (!true) = false]) by kernel_rfl) (by simp only [all_cons, all_nil]; simp [*])

theorem l3_6 (ka : Int) (na : Int) (sa : ByteArray) (xba : Bool) (eba : Es) (xfa : Bool) (efa : Es) (xla : Bool) (ela : Es) (kb : Int) (nb : Int) (sb : ByteArray) (xbb : Bool) (ebb : Es) (xfb : Bool) (efb : Es) (xlb : Bool) (elb : Es)
    (h0 : smallB
    [D.int IntKind.i64 ka, D.int IntKind.i64 na, D.str sa, D.slice xba eba none, D.slice xfa efa none,
      D.slice xla ela none] =
  true)
    (h1 : smallB
    [D.int IntKind.i64 kb, D.int IntKind.i64 nb, D.str sb, D.slice xbb ebb none, D.slice xfb efb none,
      D.slice xlb elb none] =
  true)
    (h2 : (arE (45 : Nat) ka na kb nb != arE (45 : Nat) kb nb ka na) = false)
    (h3 : (arE (46 : Nat) ka na kb nb != arE (46 : Nat) kb nb ka na) = false)
    (h4 : decide
    (arK (45 : Nat) ka na kb nb = arK (45 : Nat) kb nb ka na ∧
      arN (45 : Nat) ka na kb nb = arN (45 : Nat) kb nb ka na) =
  true)
    (h5 : decide
    (arK (46 : Nat) ka na kb nb = arK (46 : Nat) kb nb ka na ∧
      arN (46 : Nat) ka na kb nb = arN (46 : Nat) kb nb ka na) =
  true)
    (h6 : noneB ka = false)
    (h7 : noneB kb = true)
    (h8 : (arE (45 : Nat) ka na kb nb == (0 : Int)) = true)
    (h9 : (arE (46 : Nat) ka na kb nb == (0 : Int)) = true)
    (h10 : (arK (45 : Nat) ka na kb nb == (2 : Int)) = true)
    (h11 : (ByteArray.mk #[]) = (ByteArray.mk #[]))
    (h12 : R nb)
    (h13 : R na)
    (h14 : VS
  [D.int IntKind.i64 kb, D.int IntKind.i64 nb, D.str sb, D.slice xbb ebb none, D.slice xfb efb none,
    D.slice xlb elb none])
    (h15 : VS
  [D.int IntKind.i64 ka, D.int IntKind.i64 na, D.str sa, D.slice xba eba none, D.slice xfa efa none,
    D.slice xla ela none]) :
    ∃ X, Ev c0.P c0.T (.call 3 (two ka na sa xba eba xfa efa xla ela kb nb sb xbb ebb xfb efb xlb elb) [] (D.bool (arK (46 : Nat) ka na kb nb == (2 : Int))) ([] ++ X)) :=
  outC_ok cNOk (show outC 0 (q ka na sa xba eba xfa efa xla ela kb nb sb xbb ebb xfb efb xlb elb (.path [false, true, true, true, false, false, true, true, true, false, true, true, true, true, false, true, true, true, true, false, false, true, true, true, false, true, true, true, true, true, true, true, true, true, true, true, true])) = some (D.bool (arK (46 : Nat) ka na kb nb == (2 : Int)), [],
    [(arK (45 : Nat) ka na kb nb == (2 : Int)) = true,
      ((arK (45 : Nat) ka na kb nb == (2 : Int)) == true) = true,
      ((arK (45 : Nat) ka na kb nb == (2 : Int)) == true) = true,
      ((arK (45 : Nat) ka na kb nb == (2 : Int)) == true) = true,
      (arE (46 : Nat) ka na kb nb == (0 : Int)) = true,
      ((arE (46 : Nat) ka na kb nb == (0 : Int)) == true) = true,
      ((arE (46 : Nat) ka na kb nb == (0 : Int)) == true) = true,
      ((arE (46 : Nat) ka na kb nb == (0 : Int)) == true) = true,
      (arE (45 : Nat) ka na kb nb == (0 : Int)) = true,
      ((arE (45 : Nat) ka na kb nb == (0 : Int)) == true) = true,
      ((arE (45 : Nat) ka na kb nb == (0 : Int)) == true) = true,
      noneB kb = true,
      noneB ka = false,
      (noneB ka == false) = true,
      (noneB ka == false) = true,
      (noneB ka == false) = true,
      (!decide
      (arK (46 : Nat) ka na kb nb = arK (46 : Nat) kb nb ka na ∧
        arN (46 : Nat) ka na kb nb = arN (46 : Nat) kb nb ka na)) =
  false,
      (!decide
      (arK (45 : Nat) ka na kb nb = arK (45 : Nat) kb nb ka na ∧
        arN (45 : Nat) ka na kb nb = arN (45 : Nat) kb nb ka na)) =
  false,
      ((!decide
        (arK (45 : Nat) ka na kb nb = arK (45 : Nat) kb nb ka na ∧
          arN (45 : Nat) ka na kb nb = arN (45 : Nat) kb nb ka na)) ==
    false) =
  true,
      (ByteArray.mk #[]) = (ByteArray.mk #[]),
      (ByteArray.mk #[]) = (ByteArray.mk #[]),
      ((!decide
        (arK (45 : Nat) ka na kb nb = arK (45 : Nat) kb nb ka na ∧
          arN (45 : Nat) ka na kb nb = arN (45 : Nat) kb nb ka na)) ==
    false) =
  true,
      ((!decide
        (arK (45 : Nat) ka na kb nb = arK (45 : Nat) kb nb ka na ∧
          arN (45 : Nat) ka na kb nb = arN (45 : Nat) kb nb ka na)) ==
    false) =
  true,
      ((!decide
        (arK (45 : Nat) ka na kb nb = arK (45 : Nat) kb nb ka na ∧
          arN (45 : Nat) ka na kb nb = arN (45 : Nat) kb nb ka na)) ==
    false) =
  true,
      (arE (46 : Nat) ka na kb nb != arE (46 : Nat) kb nb ka na) = false,
      ((arE (46 : Nat) ka na kb nb != arE (46 : Nat) kb nb ka na) == false) = true,
      (ByteArray.mk #[]) = (ByteArray.mk #[]),
      (ByteArray.mk #[]) = (ByteArray.mk #[]),
      ((arE (46 : Nat) ka na kb nb != arE (46 : Nat) kb nb ka na) == false) = true,
      ((arE (46 : Nat) ka na kb nb != arE (46 : Nat) kb nb ka na) == false) = true,
      ((arE (46 : Nat) ka na kb nb != arE (46 : Nat) kb nb ka na) == false) = true,
      (arE (45 : Nat) ka na kb nb != arE (45 : Nat) kb nb ka na) = false,
      ((arE (45 : Nat) ka na kb nb != arE (45 : Nat) kb nb ka na) == false) = true,
      ((arE (45 : Nat) ka na kb nb != arE (45 : Nat) kb nb ka na) == false) = true,
      ((arE (45 : Nat) ka na kb nb != arE (45 : Nat) kb nb ka na) == false) = true,
      R nb,
      R na,
      R na,
      R nb,
      R nb,
      R na,
      R na,
      R nb,
      (!smallB
      [D.int IntKind.i64 kb, D.int IntKind.i64 nb, D.str sb, D.slice xbb ebb none, D.slice xfb efb none,
        D.slice xlb elb none]) =
  false,
      (!smallB
      [D.int IntKind.i64 ka, D.int IntKind.i64 na, D.str sa, D.slice xba eba none, D.slice xfa efa none,
        D.slice xla ela none]) =
  false,
      ((!smallB
        [D.int IntKind.i64 ka, D.int IntKind.i64 na, D.str sa, D.slice xba eba none, D.slice xfa efa none,
          D.slice xla ela none]) ==
    false) =
  true,
      VS
  [D.int IntKind.i64 kb, D.int IntKind.i64 nb, D.str sb, D.slice xbb ebb none, D.slice xfb efb none,
    D.slice xlb elb none],
      ((!smallB
        [D.int IntKind.i64 ka, D.int IntKind.i64 na, D.str sa, D.slice xba eba none, D.slice xfa efa none,
          D.slice xla ela none]) ==
    false) =
  true,
      ((!smallB
        [D.int IntKind.i64 ka, D.int IntKind.i64 na, D.str sa, D.slice xba eba none, D.slice xfa efa none,
          D.slice xla ela none]) ==
    false) =
  true,
      VS
  [D.int IntKind.i64 ka, D.int IntKind.i64 na, D.str sa, D.slice xba eba none, D.slice xfa efa none,
    D.slice xla ela none],
      (!true) = false]) by kernel_rfl) (by simp only [all_cons, all_nil]; simp [*])

theorem l3_7 (ka : Int) (na : Int) (sa : ByteArray) (xba : Bool) (eba : Es) (xfa : Bool) (efa : Es) (xla : Bool) (ela : Es) (kb : Int) (nb : Int) (sb : ByteArray) (xbb : Bool) (ebb : Es) (xfb : Bool) (efb : Es) (xlb : Bool) (elb : Es)
    (h0 : smallB
    [D.int IntKind.i64 ka, D.int IntKind.i64 na, D.str sa, D.slice xba eba none, D.slice xfa efa none,
      D.slice xla ela none] =
  true)
    (h1 : smallB
    [D.int IntKind.i64 kb, D.int IntKind.i64 nb, D.str sb, D.slice xbb ebb none, D.slice xfb efb none,
      D.slice xlb elb none] =
  true)
    (h2 : (arE (45 : Nat) ka na kb nb != arE (45 : Nat) kb nb ka na) = false)
    (h3 : (arE (46 : Nat) ka na kb nb != arE (46 : Nat) kb nb ka na) = false)
    (h4 : decide
    (arK (45 : Nat) ka na kb nb = arK (45 : Nat) kb nb ka na ∧
      arN (45 : Nat) ka na kb nb = arN (45 : Nat) kb nb ka na) =
  true)
    (h5 : decide
    (arK (46 : Nat) ka na kb nb = arK (46 : Nat) kb nb ka na ∧
      arN (46 : Nat) ka na kb nb = arN (46 : Nat) kb nb ka na) =
  true)
    (h6 : noneB ka = false)
    (h7 : noneB kb = true)
    (h8 : (arE (45 : Nat) ka na kb nb == (0 : Int)) = true)
    (h9 : (arE (46 : Nat) ka na kb nb == (0 : Int)) = true)
    (h10 : (arK (45 : Nat) ka na kb nb == (2 : Int)) = false)
    (h11 : (ByteArray.mk #[]) = (ByteArray.mk #[]))
    (h12 : R nb)
    (h13 : R na)
    (h14 : VS
  [D.int IntKind.i64 kb, D.int IntKind.i64 nb, D.str sb, D.slice xbb ebb none, D.slice xfb efb none,
    D.slice xlb elb none])
    (h15 : VS
  [D.int IntKind.i64 ka, D.int IntKind.i64 na, D.str sa, D.slice xba eba none, D.slice xfa efa none,
    D.slice xla ela none]) :
    ∃ X, Ev c0.P c0.T (.call 3 (two ka na sa xba eba xfa efa xla ela kb nb sb xbb ebb xfb efb xlb elb) [] (D.bool false) ([] ++ X)) :=
  outC_ok cNOk (show outC 0 (q ka na sa xba eba xfa efa xla ela kb nb sb xbb ebb xfb efb xlb elb (.path [false, true, true, true, false, false, true, true, true, false, true, true, true, true, false, true, true, true, true, false, false, true, true, true, false, true, true, true, true, true, true, true, true, false, false, false, false])) = some (D.bool false, [],
    [(arK (45 : Nat) ka na kb nb == (2 : Int)) = false,
      ((arK (45 : Nat) ka na kb nb == (2 : Int)) == true) = false,
      ((arK (45 : Nat) ka na kb nb == (2 : Int)) == true) = false,
      ((arK (45 : Nat) ka na kb nb == (2 : Int)) == true) = false,
      (arE (46 : Nat) ka na kb nb == (0 : Int)) = true,
      ((arE (46 : Nat) ka na kb nb == (0 : Int)) == true) = true,
      ((arE (46 : Nat) ka na kb nb == (0 : Int)) == true) = true,
      ((arE (46 : Nat) ka na kb nb == (0 : Int)) == true) = true,
      (arE (45 : Nat) ka na kb nb == (0 : Int)) = true,
      ((arE (45 : Nat) ka na kb nb == (0 : Int)) == true) = true,
      ((arE (45 : Nat) ka na kb nb == (0 : Int)) == true) = true,
      noneB kb = true,
      noneB ka = false,
      (noneB ka == false) = true,
      (noneB ka == false) = true,
      (noneB ka == false) = true,
      (!decide
      (arK (46 : Nat) ka na kb nb = arK (46 : Nat) kb nb ka na ∧
        arN (46 : Nat) ka na kb nb = arN (46 : Nat) kb nb ka na)) =
  false,
      (!decide
      (arK (45 : Nat) ka na kb nb = arK (45 : Nat) kb nb ka na ∧
        arN (45 : Nat) ka na kb nb = arN (45 : Nat) kb nb ka na)) =
  false,
      ((!decide
        (arK (45 : Nat) ka na kb nb = arK (45 : Nat) kb nb ka na ∧
          arN (45 : Nat) ka na kb nb = arN (45 : Nat) kb nb ka na)) ==
    false) =
  true,
      (ByteArray.mk #[]) = (ByteArray.mk #[]),
      (ByteArray.mk #[]) = (ByteArray.mk #[]),
      ((!decide
        (arK (45 : Nat) ka na kb nb = arK (45 : Nat) kb nb ka na ∧
          arN (45 : Nat) ka na kb nb = arN (45 : Nat) kb nb ka na)) ==
    false) =
  true,
      ((!decide
        (arK (45 : Nat) ka na kb nb = arK (45 : Nat) kb nb ka na ∧
          arN (45 : Nat) ka na kb nb = arN (45 : Nat) kb nb ka na)) ==
    false) =
  true,
      ((!decide
        (arK (45 : Nat) ka na kb nb = arK (45 : Nat) kb nb ka na ∧
          arN (45 : Nat) ka na kb nb = arN (45 : Nat) kb nb ka na)) ==
    false) =
  true,
      (arE (46 : Nat) ka na kb nb != arE (46 : Nat) kb nb ka na) = false,
      ((arE (46 : Nat) ka na kb nb != arE (46 : Nat) kb nb ka na) == false) = true,
      (ByteArray.mk #[]) = (ByteArray.mk #[]),
      (ByteArray.mk #[]) = (ByteArray.mk #[]),
      ((arE (46 : Nat) ka na kb nb != arE (46 : Nat) kb nb ka na) == false) = true,
      ((arE (46 : Nat) ka na kb nb != arE (46 : Nat) kb nb ka na) == false) = true,
      ((arE (46 : Nat) ka na kb nb != arE (46 : Nat) kb nb ka na) == false) = true,
      (arE (45 : Nat) ka na kb nb != arE (45 : Nat) kb nb ka na) = false,
      ((arE (45 : Nat) ka na kb nb != arE (45 : Nat) kb nb ka na) == false) = true,
      ((arE (45 : Nat) ka na kb nb != arE (45 : Nat) kb nb ka na) == false) = true,
      ((arE (45 : Nat) ka na kb nb != arE (45 : Nat) kb nb ka na) == false) = true,
      R nb,
      R na,
      R na,
      R nb,
      R nb,
      R na,
      R na,
      R nb,
      (!smallB
      [D.int IntKind.i64 kb, D.int IntKind.i64 nb, D.str sb, D.slice xbb ebb none, D.slice xfb efb none,
        D.slice xlb elb none]) =
  false,
      (!smallB
      [D.int IntKind.i64 ka, D.int IntKind.i64 na, D.str sa, D.slice xba eba none, D.slice xfa efa none,
        D.slice xla ela none]) =
  false,
      ((!smallB
        [D.int IntKind.i64 ka, D.int IntKind.i64 na, D.str sa, D.slice xba eba none, D.slice xfa efa none,
          D.slice xla ela none]) ==
    false) =
  true,
      VS
  [D.int IntKind.i64 kb, D.int IntKind.i64 nb, D.str sb, D.slice xbb ebb none, D.slice xfb efb none,
    D.slice xlb elb none],
      ((!smallB
        [D.int IntKind.i64 ka, D.int IntKind.i64 na, D.str sa, D.slice xba eba none, D.slice xfa efa none,
          D.slice xla ela none]) ==
    false) =
  true,
      ((!smallB
        [D.int IntKind.i64 ka, D.int IntKind.i64 na, D.str sa, D.slice xba eba none, D.slice xfa efa none,
          D.slice xla ela none]) ==
    false) =
  true,
      VS
  [D.int IntKind.i64 ka, D.int IntKind.i64 na, D.str sa, D.slice xba eba none, D.slice xfa efa none,
    D.slice xla ela none],
      (!true) = false]) by kernel_rfl) (by simp only [all_cons, all_nil]; simp [*])

theorem l3_8 (ka : Int) (na : Int) (sa : ByteArray) (xba : Bool) (eba : Es) (xfa : Bool) (efa : Es) (xla : Bool) (ela : Es) (kb : Int) (nb : Int) (sb : ByteArray) (xbb : Bool) (ebb : Es) (xfb : Bool) (efb : Es) (xlb : Bool) (elb : Es)
    (h0 : smallB
    [D.int IntKind.i64 ka, D.int IntKind.i64 na, D.str sa, D.slice xba eba none, D.slice xfa efa none,
      D.slice xla ela none] =
  true)
    (h1 : smallB
    [D.int IntKind.i64 kb, D.int IntKind.i64 nb, D.str sb, D.slice xbb ebb none, D.slice xfb efb none,
      D.slice xlb elb none] =
  true)
    (h2 : (arE (45 : Nat) ka na kb nb != arE (45 : Nat) kb nb ka na) = false)
    (h3 : (arE (46 : Nat) ka na kb nb != arE (46 : Nat) kb nb ka na) = false)
    (h4 : decide
    (arK (45 : Nat) ka na kb nb = arK (45 : Nat) kb nb ka na ∧
      arN (45 : Nat) ka na kb nb = arN (45 : Nat) kb nb ka na) =
  true)
    (h5 : decide
    (arK (46 : Nat) ka na kb nb = arK (46 : Nat) kb nb ka na ∧
      arN (46 : Nat) ka na kb nb = arN (46 : Nat) kb nb ka na) =
  true)
    (h6 : noneB ka = false)
    (h7 : noneB kb = true)
    (h8 : (arE (45 : Nat) ka na kb nb == (0 : Int)) = true)
    (h9 : (arE (46 : Nat) ka na kb nb == (0 : Int)) = false)
    (h10 : (ByteArray.mk #[]) = (ByteArray.mk #[]))
    (h11 : R nb)
    (h12 : R na)
    (h13 : VS
  [D.int IntKind.i64 kb, D.int IntKind.i64 nb, D.str sb, D.slice xbb ebb none, D.slice xfb efb none,
    D.slice xlb elb none])
    (h14 : VS
  [D.int IntKind.i64 ka, D.int IntKind.i64 na, D.str sa, D.slice xba eba none, D.slice xfa efa none,
    D.slice xla ela none]) :
    ∃ X, Ev c0.P c0.T (.call 3 (two ka na sa xba eba xfa efa xla ela kb nb sb xbb ebb xfb efb xlb elb) [] (D.bool false) ([] ++ X)) :=
  outC_ok cNOk (show outC 0 (q ka na sa xba eba xfa efa xla ela kb nb sb xbb ebb xfb efb xlb elb (.path [false, true, true, true, false, false, true, true, true, false, true, true, true, true, false, true, true, true, true, false, false, true, true, true, false, true, true, true, true, false, false, false, false, false, false, false, false])) = some (D.bool false, [],
    [false = false,
      (false == true) = false,
      (false == true) = false,
      (false == true) = false,
      (arE (46 : Nat) ka na kb nb == (0 : Int)) = false,
      ((arE (46 : Nat) ka na kb nb == (0 : Int)) == true) = false,
      ((arE (46 : Nat) ka na kb nb == (0 : Int)) == true) = false,
      ((arE (46 : Nat) ka na kb nb == (0 : Int)) == true) = false,
      (arE (45 : Nat) ka na kb nb == (0 : Int)) = true,
      ((arE (45 : Nat) ka na kb nb == (0 : Int)) == true) = true,
      ((arE (45 : Nat) ka na kb nb == (0 : Int)) == true) = true,
      noneB kb = true,
      noneB ka = false,
      (noneB ka == false) = true,
      (noneB ka == false) = true,
      (noneB ka == false) = true,
      (!decide
      (arK (46 : Nat) ka na kb nb = arK (46 : Nat) kb nb ka na ∧
        arN (46 : Nat) ka na kb nb = arN (46 : Nat) kb nb ka na)) =
  false,
      (!decide
      (arK (45 : Nat) ka na kb nb = arK (45 : Nat) kb nb ka na ∧
        arN (45 : Nat) ka na kb nb = arN (45 : Nat) kb nb ka na)) =
  false,
      ((!decide
        (arK (45 : Nat) ka na kb nb = arK (45 : Nat) kb nb ka na ∧
          arN (45 : Nat) ka na kb nb = arN (45 : Nat) kb nb ka na)) ==
    false) =
  true,
      (ByteArray.mk #[]) = (ByteArray.mk #[]),
      (ByteArray.mk #[]) = (ByteArray.mk #[]),
      ((!decide
        (arK (45 : Nat) ka na kb nb = arK (45 : Nat) kb nb ka na ∧
          arN (45 : Nat) ka na kb nb = arN (45 : Nat) kb nb ka na)) ==
    false) =
  true,
      ((!decide
        (arK (45 : Nat) ka na kb nb = arK (45 : Nat) kb nb ka na ∧
          arN (45 : Nat) ka na kb nb = arN (45 : Nat) kb nb ka na)) ==
    false) =
  true,
      ((!decide
        (arK (45 : Nat) ka na kb nb = arK (45 : Nat) kb nb ka na ∧
          arN (45 : Nat) ka na kb nb = arN (45 : Nat) kb nb ka na)) ==
    false) =
  true,
      (arE (46 : Nat) ka na kb nb != arE (46 : Nat) kb nb ka na) = false,
      ((arE (46 : Nat) ka na kb nb != arE (46 : Nat) kb nb ka na) == false) = true,
      (ByteArray.mk #[]) = (ByteArray.mk #[]),
      (ByteArray.mk #[]) = (ByteArray.mk #[]),
      ((arE (46 : Nat) ka na kb nb != arE (46 : Nat) kb nb ka na) == false) = true,
      ((arE (46 : Nat) ka na kb nb != arE (46 : Nat) kb nb ka na) == false) = true,
      ((arE (46 : Nat) ka na kb nb != arE (46 : Nat) kb nb ka na) == false) = true,
      (arE (45 : Nat) ka na kb nb != arE (45 : Nat) kb nb ka na) = false,
      ((arE (45 : Nat) ka na kb nb != arE (45 : Nat) kb nb ka na) == false) = true,
      ((arE (45 : Nat) ka na kb nb != arE (45 : Nat) kb nb ka na) == false) = true,
      ((arE (45 : Nat) ka na kb nb != arE (45 : Nat) kb nb ka na) == false) = true,
      R nb,
      R na,
      R na,
      R nb,
      R nb,
      R na,
      R na,
      R nb,
      (!smallB
      [D.int IntKind.i64 kb, D.int IntKind.i64 nb, D.str sb, D.slice xbb ebb none, D.slice xfb efb none,
        D.slice xlb elb none]) =
  false,
      (!smallB
      [D.int IntKind.i64 ka, D.int IntKind.i64 na, D.str sa, D.slice xba eba none, D.slice xfa efa none,
        D.slice xla ela none]) =
  false,
      ((!smallB
        [D.int IntKind.i64 ka, D.int IntKind.i64 na, D.str sa, D.slice xba eba none, D.slice xfa efa none,
          D.slice xla ela none]) ==
    false) =
  true,
      VS
  [D.int IntKind.i64 kb, D.int IntKind.i64 nb, D.str sb, D.slice xbb ebb none, D.slice xfb efb none,
    D.slice xlb elb none],
      ((!smallB
        [D.int IntKind.i64 ka, D.int IntKind.i64 na, D.str sa, D.slice xba eba none, D.slice xfa efa none,
          D.slice xla ela none]) ==
    false) =
  true,
      ((!smallB
        [D.int IntKind.i64 ka, D.int IntKind.i64 na, D.str sa, D.slice xba eba none, D.slice xfa efa none,
          D.slice xla ela none]) ==
    false) =
  true,
      VS
  [D.int IntKind.i64 ka, D.int IntKind.i64 na, D.str sa, D.slice xba eba none, D.slice xfa efa none,
    D.slice xla ela none],
      (!true) = false]) by kernel_rfl) (by simp only [all_cons, all_nil]; simp [*])

theorem l3_9 (ka : Int) (na : Int) (sa : ByteArray) (xba : Bool) (eba : Es) (xfa : Bool) (efa : Es) (xla : Bool) (ela : Es) (kb : Int) (nb : Int) (sb : ByteArray) (xbb : Bool) (ebb : Es) (xfb : Bool) (efb : Es) (xlb : Bool) (elb : Es)
    (h0 : smallB
    [D.int IntKind.i64 ka, D.int IntKind.i64 na, D.str sa, D.slice xba eba none, D.slice xfa efa none,
      D.slice xla ela none] =
  true)
    (h1 : smallB
    [D.int IntKind.i64 kb, D.int IntKind.i64 nb, D.str sb, D.slice xbb ebb none, D.slice xfb efb none,
      D.slice xlb elb none] =
  true)
    (h2 : (arE (45 : Nat) ka na kb nb != arE (45 : Nat) kb nb ka na) = false)
    (h3 : (arE (46 : Nat) ka na kb nb != arE (46 : Nat) kb nb ka na) = false)
    (h4 : decide
    (arK (45 : Nat) ka na kb nb = arK (45 : Nat) kb nb ka na ∧
      arN (45 : Nat) ka na kb nb = arN (45 : Nat) kb nb ka na) =
  true)
    (h5 : decide
    (arK (46 : Nat) ka na kb nb = arK (46 : Nat) kb nb ka na ∧
      arN (46 : Nat) ka na kb nb = arN (46 : Nat) kb nb ka na) =
  true)
    (h6 : noneB ka = false)
    (h7 : noneB kb = true)
    (h8 : (arE (45 : Nat) ka na kb nb == (0 : Int)) = false)
    (h9 : (ByteArray.mk #[]) = (ByteArray.mk #[]))
    (h10 : R nb)
    (h11 : R na)
    (h12 : VS
  [D.int IntKind.i64 kb, D.int IntKind.i64 nb, D.str sb, D.slice xbb ebb none, D.slice xfb efb none,
    D.slice xlb elb none])
    (h13 : VS
  [D.int IntKind.i64 ka, D.int IntKind.i64 na, D.str sa, D.slice xba eba none, D.slice xfa efa none,
    D.slice xla ela none]) :
    ∃ X, Ev c0.P c0.T (.call 3 (two ka na sa xba eba xfa efa xla ela kb nb sb xbb ebb xfb efb xlb elb) [] (D.bool false) ([] ++ X)) :=
  outC_ok cNOk (show outC 0 (q ka na sa xba eba xfa efa xla ela kb nb sb xbb ebb xfb efb xlb elb (.path [false, true, true, true, false, false, true, true, true, false, true, true, true, true, false, true, true, true, true, false, false, true, true, true, false, true, false, false, false, false, false, false, false, false, false, false, false])) = some (D.bool false, [],
    [false = false,
      (false == true) = false,
      (false == true) = false,
      (false == true) = false,
      false = false,
      (false == true) = false,
      (false == true) = false,
      (false == true) = false,
      (arE (45 : Nat) ka na kb nb == (0 : Int)) = false,
      ((arE (45 : Nat) ka na kb nb == (0 : Int)) == true) = false,
      ((arE (45 : Nat) ka na kb nb == (0 : Int)) == true) = false,
      noneB kb = true,
      noneB ka = false,
      (noneB ka == false) = true,
      (noneB ka == false) = true,
      (noneB ka == false) = true,
      (!decide
      (arK (46 : Nat) ka na kb nb = arK (46 : Nat) kb nb ka na ∧
        arN (46 : Nat) ka na kb nb = arN (46 : Nat) kb nb ka na)) =
  false,
      (!decide
      (arK (45 : Nat) ka na kb nb = arK (45 : Nat) kb nb ka na ∧
        arN (45 : Nat) ka na kb nb = arN (45 : Nat) kb nb ka na)) =
  false,
      ((!decide
        (arK (45 : Nat) ka na kb nb = arK (45 : Nat) kb nb ka na ∧
          arN (45 : Nat) ka na kb nb = arN (45 : Nat) kb nb ka na)) ==
    false) =
  true,
      (ByteArray.mk #[]) = (ByteArray.mk #[]),
      (ByteArray.mk #[]) = (ByteArray.mk #[]),
      ((!decide
        (arK (45 : Nat) ka na kb nb = arK (45 : Nat) kb nb ka na ∧
          arN (45 : Nat) ka na kb nb = arN (45 : Nat) kb nb ka na)) ==
    false) =
  true,
      ((!decide
        (arK (45 : Nat) ka na kb nb = arK (45 : Nat) kb nb ka na ∧
          arN (45 : Nat) ka na kb nb = arN (45 : Nat) kb nb ka na)) ==
    false) =
  true,
      ((!decide
        (arK (45 : Nat) ka na kb nb = arK (45 : Nat) kb nb ka na ∧
          arN (45 : Nat) ka na kb nb = arN (45 : Nat) kb nb ka na)) ==
    false) =
  true,
      (arE (46 : Nat) ka na kb nb != arE (46 : Nat) kb nb ka na) = false,
      ((arE (46 : Nat) ka na kb nb != arE (46 : Nat) kb nb ka na) == false) = true,
      (ByteArray.mk #[]) = (ByteArray.mk #[]),
      (ByteArray.mk #[]) = (ByteArray.mk #[]),
      ((arE (46 : Nat) ka na kb nb != arE (46 : Nat) kb nb ka na) == false) = true,
      ((arE (46 : Nat) ka na kb nb != arE (46 : Nat) kb nb ka na) == false) = true,
      ((arE (46 : Nat) ka na kb nb != arE (46 : Nat) kb nb ka na) == false) = true,
      (arE (45 : Nat) ka na kb nb != arE (45 : Nat) kb nb ka na) = false,
      ((arE (45 : Nat) ka na kb nb != arE (45 : Nat) kb nb ka na) == false) = true,
      ((arE (45 : Nat) ka na kb nb != arE (45 : Nat) kb nb ka na) == false) = true,
      ((arE (45 : Nat) ka na kb nb != arE (45 : Nat) kb nb ka na) == false) = true,
      R nb,
      R na,
      R na,
      R nb,
      R nb,
      R na,
      R na,
      R nb,
      (!smallB
      [D.int IntKind.i64 kb, D.int IntKind.i64 nb, D.str sb, D.slice xbb ebb none, D.slice xfb efb none,
        D.slice xlb elb none]) =
  false,
      (!smallB
      [D.int IntKind.i64 ka, D.int IntKind.i64 na, D.str sa, D.slice xba eba none, D.slice xfa efa none,
        D.slice xla ela none]) =
  false,
      ((!smallB
        [D.int IntKind.i64 ka, D.int IntKind.i64 na, D.str sa, D.slice xba eba none, D.slice xfa efa none,
          D.slice xla ela none]) ==
    false) =
  true,
      VS
  [D.int IntKind.i64 kb, D.int IntKind.i64 nb, D.str sb, D.slice xbb ebb none, D.slice xfb efb none,
    D.slice xlb elb none],
      ((!smallB
        [D.int IntKind.i64 ka, D.int IntKind.i64 na, D.str sa, D.slice xba eba none, D.slice xfa efa none,
          D.slice xla ela none]) ==
    false) =
  true,
      ((!smallB
        [D.int IntKind.i64 ka, D.int IntKind.i64 na, D.str sa, D.slice xba eba none, D.slice xfa efa none,
          D.slice xla ela none]) ==
    false) =
  true,
      VS
  [D.int IntKind.i64 ka, D.int IntKind.i64 na, D.str sa, D.slice xba eba none, D.slice xfa efa none,
    D.slice xla ela none],
      (!true) = false]) by kernel_rfl) (by simp only [all_cons, all_nil]; simp [*])

theorem l3_10 (ka : Int) (na : Int) (sa : ByteArray) (xba : Bool) (eba : Es) (xfa : Bool) (efa : Es) (xla : Bool) (ela : Es) (kb : Int) (nb : Int) (sb : ByteArray) (xbb : Bool) (ebb : Es) (xfb : Bool) (efb : Es) (xlb : Bool) (elb : Es)
    (h0 : smallB
    [D.int IntKind.i64 ka, D.int IntKind.i64 na, D.str sa, D.slice xba eba none, D.slice xfa efa none,
      D.slice xla ela none] =
  true)
    (h1 : smallB
    [D.int IntKind.i64 kb, D.int IntKind.i64 nb, D.str sb, D.slice xbb ebb none, D.slice xfb efb none,
      D.slice xlb elb none] =
  true)
    (h2 : (arE (45 : Nat) ka na kb nb != arE (45 : Nat) kb nb ka na) = false)
    (h3 : (arE (46 : Nat) ka na kb nb != arE (46 : Nat) kb nb ka na) = false)
    (h4 : decide
    (arK (45 : Nat) ka na kb nb = arK (45 : Nat) kb nb ka na ∧
      arN (45 : Nat) ka na kb nb = arN (45 : Nat) kb nb ka na) =
  true)
    (h5 : decide
    (arK (46 : Nat) ka na kb nb = arK (46 : Nat) kb nb ka na ∧
      arN (46 : Nat) ka na kb nb = arN (46 : Nat) kb nb ka na) =
  true)
    (h6 : noneB ka = false)
    (h7 : noneB kb = false)
    (h8 : numB ka = true)
    (h9 : numB kb = true)
    (h10 : (ka == (4 : Int)) = true)
    (h11 : (arE (45 : Nat) ka na kb nb != (0 : Int)) = true)
    (h12 : (arE (45 : Nat) ka na kb nb == (0 : Int)) = true)
    (h13 : (ByteArray.mk #[]) = (ByteArray.mk #[]))
    (h14 : R nb)
    (h15 : R na)
    (h16 : VS
  [D.int IntKind.i64 kb, D.int IntKind.i64 nb, D.str sb, D.slice xbb ebb none, D.slice xfb efb none,
    D.slice xlb elb none])
    (h17 : VS
  [D.int IntKind.i64 ka, D.int IntKind.i64 na, D.str sa, D.slice xba eba none, D.slice xfa efa none,
    D.slice xla ela none]) :
    ∃ X, Ev c0.P c0.T (.call 3 (two ka na sa xba eba xfa efa xla ela kb nb sb xbb ebb xfb efb xlb elb) [] (D.bool true) ([] ++ X)) :=
  outC_ok cNOk (show outC 0 (q ka na sa xba eba xfa efa xla ela kb nb sb xbb ebb xfb efb xlb elb (.path [false, true, true, true, false, false, true, true, true, false, true, true, true, true, false, true, true, true, true, false, false, true, true, true, false, false, true, true, true, true, false, false, false, false, false, true, false, false, false, false, false, false, false, false, false, true, true, true, true, false, false, true, true, true])) = some (D.bool true, [],
    [true = true,
      (arE (45 : Nat) ka na kb nb == (0 : Int)) = true,
      (true == true) = true,
      ((arE (45 : Nat) ka na kb nb == (0 : Int)) == false) = false,
      ((arE (45 : Nat) ka na kb nb == (0 : Int)) == false) = false,
      (true == true) = true,
      (true == true) = true,
      (true == true) = true,
      (arE (45 : Nat) ka na kb nb != (0 : Int)) = true,
      ((arE (45 : Nat) ka na kb nb != (0 : Int)) == false) = false,
      ((arE (45 : Nat) ka na kb nb != (0 : Int)) == false) = false,
      ((arE (45 : Nat) ka na kb nb != (0 : Int)) == false) = false,
      ((arE (45 : Nat) ka na kb nb != (0 : Int)) == false) = false,
      ((arE (45 : Nat) ka na kb nb != (0 : Int)) == false) = false,
      ((arE (45 : Nat) ka na kb nb != (0 : Int)) == false) = false,
      ((arE (45 : Nat) ka na kb nb != (0 : Int)) == false) = false,
      ((arE (45 : Nat) ka na kb nb != (0 : Int)) == false) = false,
      ((arE (45 : Nat) ka na kb nb != (0 : Int)) == false) = false,
      (ka == (4 : Int)) = true,
      ((ka == (4 : Int)) == false) = false,
      ((ka == (4 : Int)) == false) = false,
      ((ka == (4 : Int)) == false) = false,
      (!numB kb) = false,
      (!numB ka) = false,
      ((!numB ka) == false) = true,
      ((!numB ka) == false) = true,
      ((!numB ka) == false) = true,
      ((!numB ka) == false) = true,
      noneB kb = false,
      noneB ka = false,
      (noneB ka == false) = true,
      (noneB ka == false) = true,
      (noneB ka == false) = true,
      (!decide
      (arK (46 : Nat) ka na kb nb = arK (46 : Nat) kb nb ka na ∧
        arN (46 : Nat) ka na kb nb = arN (46 : Nat) kb nb ka na)) =
  false,
      (!decide
      (arK (45 : Nat) ka na kb nb = arK (45 : Nat) kb nb ka na ∧
        arN (45 : Nat) ka na kb nb = arN (45 : Nat) kb nb ka na)) =
  false,
      ((!decide
        (arK (45 : Nat) ka na kb nb = arK (45 : Nat) kb nb ka na ∧
          arN (45 : Nat) ka na kb nb = arN (45 : Nat) kb nb ka na)) ==
    false) =
  true,
      (ByteArray.mk #[]) = (ByteArray.mk #[]),
      (ByteArray.mk #[]) = (ByteArray.mk #[]),
      ((!decide
        (arK (45 : Nat) ka na kb nb = arK (45 : Nat) kb nb ka na ∧
          arN (45 : Nat) ka na kb nb = arN (45 : Nat) kb nb ka na)) ==
    false) =
  true,
      ((!decide
        (arK (45 : Nat) ka na kb nb = arK (45 : Nat) kb nb ka na ∧
          arN (45 : Nat) ka na kb nb = arN (45 : Nat) kb nb ka na)) ==
    false) =
  true,
      ((!decide
        (arK (45 : Nat) ka na kb nb = arK (45 : Nat) kb nb ka na ∧
          arN (45 : Nat) ka na kb nb = arN (45 : Nat) kb nb ka na)) ==
    false) =
  true,
      (arE (46 : Nat) ka na kb nb != arE (46 : Nat) kb nb ka na) = false,
      ((arE (46 : Nat) ka na kb nb != arE (46 : Nat) kb nb ka na) == false) = true,
      (ByteArray.mk #[]) = (ByteArray.mk #[]),
      (ByteArray.mk #[]) = (ByteArray.mk #[]),
      ((arE (46 : Nat) ka na kb nb != arE (46 : Nat) kb nb ka na) == false) = true,
      ((arE (46 : Nat) ka na kb nb != arE (46 : Nat) kb nb ka na) == false) = true,
      ((arE (46 : Nat) ka na kb nb != arE (46 : Nat) kb nb ka na) == false) = true,
      (arE (45 : Nat) ka na kb nb != arE (45 : Nat) kb nb ka na) = false,
      ((arE (45 : Nat) ka na kb nb != arE (45 : Nat) kb nb ka na) == false) = true,
      ((arE (45 : Nat) ka na kb nb != arE (45 : Nat) kb nb ka na) == false) = true,
      ((arE (45 : Nat) ka na kb nb != arE (45 : Nat) kb nb ka na) == false) = true,
      R nb,
      R na,
      R na,
      R nb,
      R nb,
      R na,
      R na,
      R nb,
      (!smallB
      [D.int IntKind.i64 kb, D.int IntKind.i64 nb, D.str sb, D.slice xbb ebb none, D.slice xfb efb none,
        D.slice xlb elb none]) =
  false,
      (!smallB
      [D.int IntKind.i64 ka, D.int IntKind.i64 na, D.str sa, D.slice xba eba none, D.slice xfa efa none,
        D.slice xla ela none]) =
  false,
      ((!smallB
        [D.int IntKind.i64 ka, D.int IntKind.i64 na, D.str sa, D.slice xba eba none, D.slice xfa efa none,
          D.slice xla ela none]) ==
    false) =
  true,
      VS
  [D.int IntKind.i64 kb, D.int IntKind.i64 nb, D.str sb, D.slice xbb ebb none, D.slice xfb efb none,
    D.slice xlb elb none],
      ((!smallB
        [D.int IntKind.i64 ka, D.int IntKind.i64 na, D.str sa, D.slice xba eba none, D.slice xfa efa none,
          D.slice xla ela none]) ==
    false) =
  true,
      ((!smallB
        [D.int IntKind.i64 ka, D.int IntKind.i64 na, D.str sa, D.slice xba eba none, D.slice xfa efa none,
          D.slice xla ela none]) ==
    false) =
  true,
      VS
  [D.int IntKind.i64 ka, D.int IntKind.i64 na, D.str sa, D.slice xba eba none, D.slice xfa efa none,
    D.slice xla ela none],
      (!true) = false]) by kernel_rfl) (by simp only [all_cons, all_nil]; simp [*])

theorem l3_11 (ka : Int) (na : Int) (sa : ByteArray) (xba : Bool) (eba : Es) (xfa : Bool) (efa : Es) (xla : Bool) (ela : Es) (kb : Int) (nb : Int) (sb : ByteArray) (xbb : Bool) (ebb : Es) (xfb : Bool) (efb : Es) (xlb : Bool) (elb : Es)
    (h0 : smallB
    [D.int IntKind.i64 ka, D.int IntKind.i64 na, D.str sa, D.slice xba eba none, D.slice xfa efa none,
      D.slice xla ela none] =
  true)
    (h1 : smallB
    [D.int IntKind.i64 kb, D.int IntKind.i64 nb, D.str sb, D.slice xbb ebb none, D.slice xfb efb none,
      D.slice xlb elb none] =
  true)
    (h2 : (arE (45 : Nat) ka na kb nb != arE (45 : Nat) kb nb ka na) = false)
    (h3 : (arE (46 : Nat) ka na kb nb != arE (46 : Nat) kb nb ka na) = false)
    (h4 : decide
    (arK (45 : Nat) ka na kb nb = arK (45 : Nat) kb nb ka na ∧
      arN (45 : Nat) ka na kb nb = arN (45 : Nat) kb nb ka na) =
  true)
    (h5 : decide
    (arK (46 : Nat) ka na kb nb = arK (46 : Nat) kb nb ka na ∧
      arN (46 : Nat) ka na kb nb = arN (46 : Nat) kb nb ka na) =
  true)
    (h6 : noneB ka = false)
    (h7 : noneB kb = false)
    (h8 : numB ka = true)
    (h9 : numB kb = true)
    (h10 : (ka == (4 : Int)) = true)
    (h11 : (arE (45 : Nat) ka na kb nb != (0 : Int)) = true)
    (h12 : (arE (45 : Nat) ka na kb nb == (0 : Int)) = false)
    (h13 : (ByteArray.mk #[]) = (ByteArray.mk #[]))
    (h14 : R nb)
    (h15 : R na)
    (h16 : VS
  [D.int IntKind.i64 kb, D.int IntKind.i64 nb, D.str sb, D.slice xbb ebb none, D.slice xfb efb none,
    D.slice xlb elb none])
    (h17 : VS
  [D.int IntKind.i64 ka, D.int IntKind.i64 na, D.str sa, D.slice xba eba none, D.slice xfa efa none,
    D.slice xla ela none]) :
    ∃ X, Ev c0.P c0.T (.call 3 (two ka na sa xba eba xfa efa xla ela kb nb sb xbb ebb xfb efb xlb elb) [] (D.bool (arE (45 : Nat) ka na kb nb == (10 : Int))) ([] ++ X)) :=
  outC_ok cNOk (show outC 0 (q ka na sa xba eba xfa efa xla ela kb nb sb xbb ebb xfb efb xlb elb (.path [false, true, true, true, false, false, true, true, true, false, true, true, true, true, false, true, true, true, true, false, false, true, true, true, false, false, true, true, true, true, false, false, false, false, false, true, false, false, false, false, false, false, false, false, false, true, true, true, true, true, true, true, false, true])) = some (D.bool (arE (45 : Nat) ka na kb nb == (10 : Int)), [],
    [true = true,
      (arE (45 : Nat) ka na kb nb == (0 : Int)) = false,
      (true == true) = true,
      ((arE (45 : Nat) ka na kb nb == (0 : Int)) == false) = true,
      ((arE (45 : Nat) ka na kb nb == (0 : Int)) == false) = true,
      (true == true) = true,
      (true == true) = true,
      (true == true) = true,
      (arE (45 : Nat) ka na kb nb != (0 : Int)) = true,
      ((arE (45 : Nat) ka na kb nb != (0 : Int)) == false) = false,
      ((arE (45 : Nat) ka na kb nb != (0 : Int)) == false) = false,
      ((arE (45 : Nat) ka na kb nb != (0 : Int)) == false) = false,
      ((arE (45 : Nat) ka na kb nb != (0 : Int)) == false) = false,
      ((arE (45 : Nat) ka na kb nb != (0 : Int)) == false) = false,
      ((arE (45 : Nat) ka na kb nb != (0 : Int)) == false) = false,
      ((arE (45 : Nat) ka na kb nb != (0 : Int)) == false) = false,
      ((arE (45 : Nat) ka na kb nb != (0 : Int)) == false) = false,
      ((arE (45 : Nat) ka na kb nb != (0 : Int)) == false) = false,
      (ka == (4 : Int)) = true,
      ((ka == (4 : Int)) == false) = false,
      ((ka == (4 : Int)) == false) = false,
      ((ka == (4 : Int)) == false) = false,
      (!numB kb) = false,
      (!numB ka) = false,
      ((!numB ka) == false) = true,
      ((!numB ka) == false) = true,
      ((!numB ka) == false) = true,
      ((!numB ka) == false) = true,
      noneB kb = false,
      noneB ka = false,
      (noneB ka == false) = true,
      (noneB ka == false) = true,
      (noneB ka == false) = true,
      (!decide
      (arK (46 : Nat) ka na kb nb = arK (46 : Nat) kb nb ka na ∧
        arN (46 : Nat) ka na kb nb = arN (46 : Nat) kb nb ka na)) =
  false,
      (!decide
      (arK (45 : Nat) ka na kb nb = arK (45 : Nat) kb nb ka na ∧
        arN (45 : Nat) ka na kb nb = arN (45 : Nat) kb nb ka na)) =
  false,
      ((!decide
        (arK (45 : Nat) ka na kb nb = arK (45 : Nat) kb nb ka na ∧
          arN (45 : Nat) ka na kb nb = arN (45 : Nat) kb nb ka na)) ==
    false) =
  true,
      (ByteArray.mk #[]) = (ByteArray.mk #[]),
      (ByteArray.mk #[]) = (ByteArray.mk #[]),
      ((!decide
        (arK (45 : Nat) ka na kb nb = arK (45 : Nat) kb nb ka na ∧
          arN (45 : Nat) ka na kb nb = arN (45 : Nat) kb nb ka na)) ==
    false) =
  true,
      ((!decide
        (arK (45 : Nat) ka na kb nb = arK (45 : Nat) kb nb ka na ∧
          arN (45 : Nat) ka na kb nb = arN (45 : Nat) kb nb ka na)) ==
    false) =
  true,
      ((!decide
        (arK (45 : Nat) ka na kb nb = arK (45 : Nat) kb nb ka na ∧
          arN (45 : Nat) ka na kb nb = arN (45 : Nat) kb nb ka na)) ==
    false) =
  true,
      (arE (46 : Nat) ka na kb nb != arE (46 : Nat) kb nb ka na) = false,
      ((arE (46 : Nat) ka na kb nb != arE (46 : Nat) kb nb ka na) == false) = true,
      (ByteArray.mk #[]) = (ByteArray.mk #[]),
      (ByteArray.mk #[]) = (ByteArray.mk #[]),
      ((arE (46 : Nat) ka na kb nb != arE (46 : Nat) kb nb ka na) == false) = true,
      ((arE (46 : Nat) ka na kb nb != arE (46 : Nat) kb nb ka na) == false) = true,
      ((arE (46 : Nat) ka na kb nb != arE (46 : Nat) kb nb ka na) == false) = true,
      (arE (45 : Nat) ka na kb nb != arE (45 : Nat) kb nb ka na) = false,
      ((arE (45 : Nat) ka na kb nb != arE (45 : Nat) kb nb ka na) == false) = true,
      ((arE (45 : Nat) ka na kb nb != arE (45 : Nat) kb nb ka na) == false) = true,
      ((arE (45 : Nat) ka na kb nb != arE (45 : Nat) kb nb ka na) == false) = true,
      R nb,
      R na,
      R na,
      R nb,
      R nb,
      R na,
      R na,
      R nb,
      (!smallB
      [D.int IntKind.i64 kb, D.int IntKind.i64 nb, D.str sb, D.slice xbb ebb none, D.slice xfb efb none,
        D.slice xlb elb none]) =
  false,
      (!smallB
      [D.int IntKind.i64 ka, D.int IntKind.i64 na, D.str sa, D.slice xba eba none, D.slice xfa efa none,
        D.slice xla ela none]) =
  false,
      ((!smallB
        [D.int IntKind.i64 ka, D.int IntKind.i64 na, D.str sa, D.slice xba eba none, D.slice xfa efa none,
          D.slice xla ela none]) ==
    false) =
  true,
      VS
  [D.int IntKind.i64 kb, D.int IntKind.i64 nb, D.str sb, D.slice xbb ebb none, D.slice xfb efb none,
    D.slice xlb elb none],
      ((!smallB
        [D.int IntKind.i64 ka, D.int IntKind.i64 na, D.str sa, D.slice xba eba none, D.slice xfa efa none,
          D.slice xla ela none]) ==
    false) =
  true,
      ((!smallB
        [D.int IntKind.i64 ka, D.int IntKind.i64 na, D.str sa, D.slice xba eba none, D.slice xfa efa none,
          D.slice xla ela none]) ==
    false) =
  true,
      VS
  [D.int IntKind.i64 ka, D.int IntKind.i64 na, D.str sa, D.slice xba eba none, D.slice xfa efa none,
    D.slice xla ela none],
      (!true) = false]) by kernel_rfl) (by simp only [all_cons, all_nil]; simp [*])

theorem l3_12 (ka : Int) (na : Int) (sa : ByteArray) (xba : Bool) (eba : Es) (xfa : Bool) (efa : Es) (xla : Bool) (ela : Es) (kb : Int) (nb : Int) (sb : ByteArray) (xbb : Bool) (ebb : Es) (xfb : Bool) (efb : Es) (xlb : Bool) (elb : Es)
    (h0 : smallB
    [D.int IntKind.i64 ka, D.int IntKind.i64 na, D.str sa, D.slice xba eba none, D.slice xfa efa none,
      D.slice xla ela none] =
  true)
    (h1 : smallB
    [D.int IntKind.i64 kb, D.int IntKind.i64 nb, D.str sb, D.slice xbb ebb none, D.slice xfb efb none,
      D.slice xlb elb none] =
  true)
    (h2 : (arE (45 : Nat) ka na kb nb != arE (45 : Nat) kb nb ka na) = false)
    (h3 : (arE (46 : Nat) ka na kb nb != arE (46 : Nat) kb nb ka na) = false)
    (h4 : decide
    (arK (45 : Nat) ka na kb nb = arK (45 : Nat) kb nb ka na ∧
      arN (45 : Nat) ka na kb nb = arN (45 : Nat) kb nb ka na) =
  true)
    (h5 : decide
    (arK (46 : Nat) ka na kb nb = arK (46 : Nat) kb nb ka na ∧
      arN (46 : Nat) ka na kb nb = arN (46 : Nat) kb nb ka na) =
  true)
    (h6 : noneB ka = false)
    (h7 : noneB kb = false)
    (h8 : numB ka = true)
    (h9 : numB kb = true)
    (h10 : (ka == (4 : Int)) = true)
    (h11 : (arE (45 : Nat) ka na kb nb != (0 : Int)) = false)
    (h12 : (arK (45 : Nat) ka na kb nb == (4 : Int)) = true)
    (h13 : (arE (45 : Nat) ka na kb nb == (0 : Int)) = true)
    (h14 : (ByteArray.mk #[]) = (ByteArray.mk #[]))
    (h15 : R nb)
    (h16 : R na)
    (h17 : VS
  [D.int IntKind.i64 kb, D.int IntKind.i64 nb, D.str sb, D.slice xbb ebb none, D.slice xfb efb none,
    D.slice xlb elb none])
    (h18 : VS
  [D.int IntKind.i64 ka, D.int IntKind.i64 na, D.str sa, D.slice xba eba none, D.slice xfa efa none,
    D.slice xla ela none]) :
    ∃ X, Ev c0.P c0.T (.call 3 (two ka na sa xba eba xfa efa xla ela kb nb sb xbb ebb xfb efb xlb elb) [] (D.bool true) ([] ++ X)) :=
  outC_ok cNOk (show outC 0 (q ka na sa xba eba xfa efa xla ela kb nb sb xbb ebb xfb efb xlb elb (.path [false, true, true, true, false, false, true, true, true, false, true, true, true, true, false, true, true, true, true, false, false, true, true, true, false, false, true, true, true, true, false, false, false, false, false, true, true, true, true, true, true, false, false, false, true, true, true, false, false, false, true, true, true, false, true, true, true, false, false, true, true, true])) = some (D.bool true, [],
    [((arK (45 : Nat) ka na kb nb == (4 : Int)) == true) = true,
      (arE (45 : Nat) ka na kb nb == (0 : Int)) = true,
      (((arK (45 : Nat) ka na kb nb == (4 : Int)) == true) == true) = true,
      ((arE (45 : Nat) ka na kb nb == (0 : Int)) == false) = false,
      ((arE (45 : Nat) ka na kb nb == (0 : Int)) == false) = false,
      (((arK (45 : Nat) ka na kb nb == (4 : Int)) == true) == true) = true,
      (((arK (45 : Nat) ka na kb nb == (4 : Int)) == true) == true) = true,
      (((arK (45 : Nat) ka na kb nb == (4 : Int)) == true) == true) = true,
      (arE (45 : Nat) ka na kb nb != (0 : Int)) = false,
      ((arE (45 : Nat) ka na kb nb != (0 : Int)) == false) = true,
      true = true,
      ((arE (45 : Nat) ka na kb nb != (0 : Int)) == false) = true,
      (true == false) = false,
      (true == false) = false,
      (true == false) = false,
      ((arE (45 : Nat) ka na kb nb != (0 : Int)) == false) = true,
      true = true,
      ((arE (45 : Nat) ka na kb nb != (0 : Int)) == false) = true,
      (true == false) = false,
      (true == false) = false,
      (true == false) = false,
      ((arE (45 : Nat) ka na kb nb != (0 : Int)) == false) = true,
      ((arE (45 : Nat) ka na kb nb != (0 : Int)) == false) = true,
      ((arE (45 : Nat) ka na kb nb != (0 : Int)) == false) = true,
      ((arE (45 : Nat) ka na kb nb != (0 : Int)) == false) = true,
      ((arE (45 : Nat) ka na kb nb != (0 : Int)) == false) = true,
      (ka == (4 : Int)) = true,
      ((ka == (4 : Int)) == false) = false,
      ((ka == (4 : Int)) == false) = false,
      ((ka == (4 : Int)) == false) = false,
      (!numB kb) = false,
      (!numB ka) = false,
      ((!numB ka) == false) = true,
      ((!numB ka) == false) = true,
      ((!numB ka) == false) = true,
      ((!numB ka) == false) = true,
      noneB kb = false,
      noneB ka = false,
      (noneB ka == false) = true,
      (noneB ka == false) = true,
      (noneB ka == false) = true,
      (!decide
      (arK (46 : Nat) ka na kb nb = arK (46 : Nat) kb nb ka na ∧
        arN (46 : Nat) ka na kb nb = arN (46 : Nat) kb nb ka na)) =
  false,
      (!decide
      (arK (45 : Nat) ka na kb nb = arK (45 : Nat) kb nb ka na ∧
        arN (45 : Nat) ka na kb nb = arN (45 : Nat) kb nb ka na)) =
  false,
      ((!decide
        (arK (45 : Nat) ka na kb nb = arK (45 : Nat) kb nb ka na ∧
          arN (45 : Nat) ka na kb nb = arN (45 : Nat) kb nb ka na)) ==
    false) =
  true,
      (ByteArray.mk #[]) = (ByteArray.mk #[]),
      (ByteArray.mk #[]) = (ByteArray.mk #[]),
      ((!decide
        (arK (45 : Nat) ka na kb nb = arK (45 : Nat) kb nb ka na ∧
          arN (45 : Nat) ka na kb nb = arN (45 : Nat) kb nb ka na)) ==
    false) =
  true,
      ((!decide
        (arK (45 : Nat) ka na kb nb = arK (45 : Nat) kb nb ka na ∧
          arN (45 : Nat) ka na kb nb = arN (45 : Nat) kb nb ka na)) ==
    false) =
  true,
      ((!decide
        (arK (45 : Nat) ka na kb nb = arK (45 : Nat) kb nb ka na ∧
          arN (45 : Nat) ka na kb nb = arN (45 : Nat) kb nb ka na)) ==
    false) =
  true,
      (arE (46 : Nat) ka na kb nb != arE (46 : Nat) kb nb ka na) = false,
      ((arE (46 : Nat) ka na kb nb != arE (46 : Nat) kb nb ka na) == false) = true,
      (ByteArray.mk #[]) = (ByteArray.mk #[]),
      (ByteArray.mk #[]) = (ByteArray.mk #[]),
      ((arE (46 : Nat) ka na kb nb != arE (46 : Nat) kb nb ka na) == false) = true,
      ((arE (46 : Nat) ka na kb nb != arE (46 : Nat) kb nb ka na) == false) = true,
      ((arE (46 : Nat) ka na kb nb != arE (46 : Nat) kb nb ka na) == false) = true,
      (arE (45 : Nat) ka na kb nb != arE (45 : Nat) kb nb ka na) = false,
      ((arE (45 : Nat) ka na kb nb != arE (45 : Nat) kb nb ka na) == false) = true,
      ((arE (45 : Nat) ka na kb nb != arE (45 : Nat) kb nb ka na) == false) = true,
      ((arE (45 : Nat) ka na kb nb != arE (45 : Nat) kb nb ka na) == false) = true,
      R nb,
      R na,
      R na,
      R nb,
      R nb,
      R na,
      R na,
      R nb,
      (!smallB
      [D.int IntKind.i64 kb, D.int IntKind.i64 nb, D.str sb, D.slice xbb ebb none, D.slice xfb efb none,
        D.slice xlb elb none]) =
  false,
      (!smallB
      [D.int IntKind.i64 ka, D.int IntKind.i64 na, D.str sa, D.slice xba eba none, D.slice xfa efa none,
        D.slice xla ela none]) =
  false,
      ((!smallB
        [D.int IntKind.i64 ka, D.int IntKind.i64 na, D.str sa, D.slice xba eba none, D.slice xfa efa none,
          D.slice xla ela none]) ==
    false) =
  true,
      VS
  [D.int IntKind.i64 kb, D.int IntKind.i64 nb, D.str sb, D.slice xbb ebb none, D.slice xfb efb none,
    D.slice xlb elb none],
      ((!smallB
        [D.int IntKind.i64 ka, D.int IntKind.i64 na, D.str sa, D.slice xba eba none, D.slice xfa efa none,
          D.slice xla ela none]) ==
    false) =
  true,
      ((!smallB
        [D.int IntKind.i64 ka, D.int IntKind.i64 na, D.str sa, D.slice xba eba none, D.slice xfa efa none,
          D.slice xla ela none]) ==
    false) =
  true,
      VS
  [D.int IntKind.i64 ka, D.int IntKind.i64 na, D.str sa, D.slice xba eba none, D.slice xfa efa none,
    D.slice xla ela none],
      (!true) = false]) by kernel_rfl) (by simp only [all_cons, all_nil]; simp [*])

theorem l3_13 (ka : Int) (na : Int) (sa : ByteArray) (xba : Bool) (eba : Es) (xfa : Bool) (efa : Es) (xla : Bool) (ela : Es) (kb : Int) (nb : Int) (sb : ByteArray) (xbb : Bool) (ebb : Es) (xfb : Bool) (efb : Es) (xlb : Bool) (elb : Es)
    (h0 : smallB
    [D.int IntKind.i64 ka, D.int IntKind.i64 na, D.str sa, D.slice xba eba none, D.slice xfa efa none,
      D.slice xla ela none] =
  true)
    (h1 : smallB
    [D.int IntKind.i64 kb, D.int IntKind.i64 nb, D.str sb, D.slice xbb ebb none, D.slice xfb efb none,
      D.slice xlb elb none] =
  true)
    (h2 : (arE (45 : Nat) ka na kb nb != arE (45 : Nat) kb nb ka na) = false)
    (h3 : (arE (46 : Nat) ka na kb nb != arE (46 : Nat) kb nb ka na) = false)
    (h4 : decide
    (arK (45 : Nat) ka na kb nb = arK (45 : Nat) kb nb ka na ∧
      arN (45 : Nat) ka na kb nb = arN (45 : Nat) kb nb ka na) =
  true)
    (h5 : decide
    (arK (46 : Nat) ka na kb nb = arK (46 : Nat) kb nb ka na ∧
      arN (46 : Nat) ka na kb nb = arN (46 : Nat) kb nb ka na) =
  true)
    (h6 : noneB ka = false)
    (h7 : noneB kb = false)
    (h8 : numB ka = true)
    (h9 : numB kb = true)
    (h10 : (ka == (4 : Int)) = true)
    (h11 : (arE (45 : Nat) ka na kb nb != (0 : Int)) = false)
    (h12 : (arK (45 : Nat) ka na kb nb == (4 : Int)) = true)
    (h13 : (arE (45 : Nat) ka na kb nb == (0 : Int)) = false)
    (h14 : (ByteArray.mk #[]) = (ByteArray.mk #[]))
    (h15 : R nb)
    (h16 : R na)
    (h17 : VS
  [D.int IntKind.i64 kb, D.int IntKind.i64 nb, D.str sb, D.slice xbb ebb none, D.slice xfb efb none,
    D.slice xlb elb none])
    (h18 : VS
  [D.int IntKind.i64 ka, D.int IntKind.i64 na, D.str sa, D.slice xba eba none, D.slice xfa efa none,
    D.slice xla ela none]) :
    ∃ X, Ev c0.P c0.T (.call 3 (two ka na sa xba eba xfa efa xla ela kb nb sb xbb ebb xfb efb xlb elb) [] (D.bool (arE (45 : Nat) ka na kb nb == (10 : Int))) ([] ++ X)) :=
  outC_ok cNOk (show outC 0 (q ka na sa xba eba xfa efa xla ela kb nb sb xbb ebb xfb efb xlb elb (.path [false, true, true, true, false, false, true, true, true, false, true, true, true, true, false, true, true, true, true, false, false, true, true, true, false, false, true, true, true, true, false, false, false, false, false, true, true, true, true, true, true, false, false, false, true, true, true, false, false, false, true, true, true, false, true, true, true, true, true, true, false, true])) = some (D.bool (arE (45 : Nat) ka na kb nb == (10 : Int)), [],
    [((arK (45 : Nat) ka na kb nb == (4 : Int)) == true) = true,
      (arE (45 : Nat) ka na kb nb == (0 : Int)) = false,
      (((arK (45 : Nat) ka na kb nb == (4 : Int)) == true) == true) = true,
      ((arE (45 : Nat) ka na kb nb == (0 : Int)) == false) = true,
      ((arE (45 : Nat) ka na kb nb == (0 : Int)) == false) = true,
      (((arK (45 : Nat) ka na kb nb == (4 : Int)) == true) == true) = true,
      (((arK (45 : Nat) ka na kb nb == (4 : Int)) == true) == true) = true,
      (((arK (45 : Nat) ka na kb nb == (4 : Int)) == true) == true) = true,
      (arE (45 : Nat) ka na kb nb != (0 : Int)) = false,
      ((arE (45 : Nat) ka na kb nb != (0 : Int)) == false) = true,
      true = true,
      ((arE (45 : Nat) ka na kb nb != (0 : Int)) == false) = true,
      (true == false) = false,
      (true == false) = false,
      (true == false) = false,
      ((arE (45 : Nat) ka na kb nb != (0 : Int)) == false) = true,
      true = true,
      ((arE (45 : Nat) ka na kb nb != (0 : Int)) == false) = true,
      (true == false) = false,
      (true == false) = false,
      (true == false) = false,
      ((arE (45 : Nat) ka na kb nb != (0 : Int)) == false) = true,
      ((arE (45 : Nat) ka na kb nb != (0 : Int)) == false) = true,
      ((arE (45 : Nat) ka na kb nb != (0 : Int)) == false) = true,
      ((arE (45 : Nat) ka na kb nb != (0 : Int)) == false) = true,
      ((arE (45 : Nat) ka na kb nb != (0 : Int)) == false) = true,
      (ka == (4 : Int)) = true,
      ((ka == (4 : Int)) == false) = false,
      ((ka == (4 : Int)) == false) = false,
      ((ka == (4 : Int)) == false) = false,
      (!numB kb) = false,
      (!numB ka) = false,
      ((!numB ka) == false) = true,
      ((!numB ka) == false) = true,
      ((!numB ka) == false) = true,
      ((!numB ka) == false) = true,
      noneB kb = false,
      noneB ka = false,
      (noneB ka == false) = true,
      (noneB ka == false) = true,
      (noneB ka == false) = true,
      (!decide
      (arK (46 : Nat) ka na kb nb = arK (46 : Nat) kb nb ka na ∧
        arN (46 : Nat) ka na kb nb = arN (46 : Nat) kb nb ka na)) =
  false,
      (!decide
      (arK (45 : Nat) ka na kb nb = arK (45 : Nat) kb nb ka na ∧
        arN (45 : Nat) ka na kb nb = arN (45 : Nat) kb nb ka na)) =
  false,
      ((!decide
        (arK (45 : Nat) ka na kb nb = arK (45 : Nat) kb nb ka na ∧
          arN (45 : Nat) ka na kb nb = arN (45 : Nat) kb nb ka na)) ==
    false) =
  true,
      (ByteArray.mk #[]) = (ByteArray.mk #[]),
      (ByteArray.mk #[]) = (ByteArray.mk #[]),
      ((!decide
        (arK (45 : Nat) ka na kb nb = arK (45 : Nat) kb nb ka na ∧
          arN (45 : Nat) ka na kb nb = arN (45 : Nat) kb nb ka na)) ==
    false) =
  true,
      ((!decide
        (arK (45 : Nat) ka na kb nb = arK (45 : Nat) kb nb ka na ∧
          arN (45 : Nat) ka na kb nb = arN (45 : Nat) kb nb ka na)) ==
    false) =
  true,
      ((!decide
        (arK (45 : Nat) ka na kb nb = arK (45 : Nat) kb nb ka na ∧
          arN (45 : Nat) ka na kb nb = arN (45 : Nat) kb nb ka na)) ==
    false) =
  true,
      (arE (46 : Nat) ka na kb nb != arE (46 : Nat) kb nb ka na) = false,
      ((arE (46 : Nat) ka na kb nb != arE (46 : Nat) kb nb ka na) == false) = true,
      (ByteArray.mk #[]) = (ByteArray.mk #[]),
      (ByteArray.mk #[]) = (ByteArray.mk #[]),
      ((arE (46 : Nat) ka na kb nb != arE (46 : Nat) kb nb ka na) == false) = true,
      ((arE (46 : Nat) ka na kb nb != arE (46 : Nat) kb nb ka na) == false) = true,
      ((arE (46 : Nat) ka na kb nb != arE (46 : Nat) kb nb ka na) == false) = true,
      (arE (45 : Nat) ka na kb nb != arE (45 : Nat) kb nb ka na) = false,
      ((arE (45 : Nat) ka na kb nb != arE (45 : Nat) kb nb ka na) == false) = true,
      ((arE (45 : Nat) ka na kb nb != arE (45 : Nat) kb nb ka na) == false) = true,
      ((arE (45 : Nat) ka na kb nb != arE (45 : Nat) kb nb ka na) == false) = true,
      R nb,
      R na,
      R na,
      R nb,
      R nb,
      R na,
      R na,
      R nb,
      (!smallB
      [D.int IntKind.i64 kb, D.int IntKind.i64 nb, D.str sb, D.slice xbb ebb none, D.slice xfb efb none,
        D.slice xlb elb none]) =
  false,
      (!smallB
      [D.int IntKind.i64 ka, D.int IntKind.i64 na, D.str sa, D.slice xba eba none, D.slice xfa efa none,
        D.slice xla ela none]) =
  false,
      ((!smallB
        [D.int IntKind.i64 ka, D.int IntKind.i64 na, D.str sa, D.slice xba eba none, D.slice xfa efa none,
          D.slice xla ela none]) ==
    false) =
  true,
      VS
  [D.int IntKind.i64 kb, D.int IntKind.i64 nb, D.str sb, D.slice xbb ebb none, D.slice xfb efb none,
    D.slice xlb elb none],
      ((!smallB
        [D.int IntKind.i64 ka, D.int IntKind.i64 na, D.str sa, D.slice xba eba none, D.slice xfa efa none,
          D.slice xla ela none]) ==
    false) =
  true,
      ((!smallB
        [D.int IntKind.i64 ka, D.int IntKind.i64 na, D.str sa, D.slice xba eba none, D.slice xfa efa none,
          D.slice xla ela none]) ==
    false) =
  true,
      VS
  [D.int IntKind.i64 ka, D.int IntKind.i64 na, D.str sa, D.slice xba eba none, D.slice xfa efa none,
    D.slice xla ela none],
      (!true) = false]) by kernel_rfl) (by simp only [all_cons, all_nil]; simp [*])

theorem l3_14 (ka : Int) (na : Int) (sa : ByteArray) (xba : Bool) (eba : Es) (xfa : Bool) (efa : Es) (xla : Bool) (ela : Es) (kb : Int) (nb : Int) (sb : ByteArray) (xbb : Bool) (ebb : Es) (xfb : Bool) (efb : Es) (xlb : Bool) (elb : Es)
    (h0 : smallB
    [D.int IntKind.i64 ka, D.int IntKind.i64 na, D.str sa, D.slice xba eba none, D.slice xfa efa none,
      D.slice xla ela none] =
  true)
    (h1 : smallB
    [D.int IntKind.i64 kb, D.int IntKind.i64 nb, D.str sb, D.slice xbb ebb none, D.slice xfb efb none,
      D.slice xlb elb none] =
  true)
    (h2 : (arE (45 : Nat) ka na kb nb != arE (45 : Nat) kb nb ka na) = false)
    (h3 : (arE (46 : Nat) ka na kb nb != arE (46 : Nat) kb nb ka na) = false)
    (h4 : decide
    (arK (45 : Nat) ka na kb nb = arK (45 : Nat) kb nb ka na ∧
      arN (45 : Nat) ka na kb nb = arN (45 : Nat) kb nb ka na) =
  true)
    (h5 : decide
    (arK (46 : Nat) ka na kb nb = arK (46 : Nat) kb nb ka na ∧
      arN (46 : Nat) ka na kb nb = arN (46 : Nat) kb nb ka na) =
  true)
    (h6 : noneB ka = false)
    (h7 : noneB kb = false)
    (h8 : numB ka = true)
    (h9 : numB kb = true)
    (h10 : (ka == (4 : Int)) = true)
    (h11 : (arE (45 : Nat) ka na kb nb != (0 : Int)) = false)
    (h12 : (arK (45 : Nat) ka na kb nb == (4 : Int)) = false)
    (h13 : (ByteArray.mk #[]) = (ByteArray.mk #[]))
    (h14 : R nb)
    (h15 : R na)
    (h16 : VS
  [D.int IntKind.i64 kb, D.int IntKind.i64 nb, D.str sb, D.slice xbb ebb none, D.slice xfb efb none,
    D.slice xlb elb none])
    (h17 : VS
  [D.int IntKind.i64 ka, D.int IntKind.i64 na, D.str sa, D.slice xba eba none, D.slice xfa efa none,
    D.slice xla ela none]) :
    ∃ X, Ev c0.P c0.T (.call 3 (two ka na sa xba eba xfa efa xla ela kb nb sb xbb ebb xfb efb xlb elb) [] (D.bool false) ([] ++ X)) :=
  outC_ok cNOk (show outC 0 (q ka na sa xba eba xfa efa xla ela kb nb sb xbb ebb xfb efb xlb elb (.path [false, true, true, true, false, false, true, true, true, false, true, true, true, true, false, true, true, true, true, false, false, true, true, true, false, false, true, true, true, true, false, false, false, false, false, true, true, true, true, true, true, false, false, false, true, true, true, false, false, false, true, true, true, false, false, false, false, false, false])) = some (D.bool false, [],
    [((arK (45 : Nat) ka na kb nb == (4 : Int)) == true) = false,
      (((arK (45 : Nat) ka na kb nb == (4 : Int)) == true) == true) = false,
      (((arK (45 : Nat) ka na kb nb == (4 : Int)) == true) == true) = false,
      (((arK (45 : Nat) ka na kb nb == (4 : Int)) == true) == true) = false,
      (((arK (45 : Nat) ka na kb nb == (4 : Int)) == true) == true) = false,
      (arE (45 : Nat) ka na kb nb != (0 : Int)) = false,
      ((arE (45 : Nat) ka na kb nb != (0 : Int)) == false) = true,
      true = true,
      ((arE (45 : Nat) ka na kb nb != (0 : Int)) == false) = true,
      (true == false) = false,
      (true == false) = false,
      (true == false) = false,
      ((arE (45 : Nat) ka na kb nb != (0 : Int)) == false) = true,
      true = true,
      ((arE (45 : Nat) ka na kb nb != (0 : Int)) == false) = true,
      (true == false) = false,
      (true == false) = false,
      (true == false) = false,
      ((arE (45 : Nat) ka na kb nb != (0 : Int)) == false) = true,
      ((arE (45 : Nat) ka na kb nb != (0 : Int)) == false) = true,
      ((arE (45 : Nat) ka na kb nb != (0 : Int)) == false) = true,
      ((arE (45 : Nat) ka na kb nb != (0 : Int)) == false) = true,
      ((arE (45 : Nat) ka na kb nb != (0 : Int)) == false) = true,
      (ka == (4 : Int)) = true,
      ((ka == (4 : Int)) == false) = false,
      ((ka == (4 : Int)) == false) = false,
      ((ka == (4 : Int)) == false) = false,
      (!numB kb) = false,
      (!numB ka) = false,
      ((!numB ka) == false) = true,
      ((!numB ka) == false) = true,
      ((!numB ka) == false) = true,
      ((!numB ka) == false) = true,
      noneB kb = false,
      noneB ka = false,
      (noneB ka == false) = true,
      (noneB ka == false) = true,
      (noneB ka == false) = true,
      (!decide
      (arK (46 : Nat) ka na kb nb = arK (46 : Nat) kb nb ka na ∧
        arN (46 : Nat) ka na kb nb = arN (46 : Nat) kb nb ka na)) =
  false,
      (!decide
      (arK (45 : Nat) ka na kb nb = arK (45 : Nat) kb nb ka na ∧
        arN (45 : Nat) ka na kb nb = arN (45 : Nat) kb nb ka na)) =
  false,
      ((!decide
        (arK (45 : Nat) ka na kb nb = arK (45 : Nat) kb nb ka na ∧
          arN (45 : Nat) ka na kb nb = arN (45 : Nat) kb nb ka na)) ==
    false) =
  true,
      (ByteArray.mk #[]) = (ByteArray.mk #[]),
      (ByteArray.mk #[]) = (ByteArray.mk #[]),
      ((!decide
        (arK (45 : Nat) ka na kb nb = arK (45 : Nat) kb nb ka na ∧
          arN (45 : Nat) ka na kb nb = arN (45 : Nat) kb nb ka na)) ==
    false) =
  true,
      ((!decide
        (arK (45 : Nat) ka na kb nb = arK (45 : Nat) kb nb ka na ∧
          arN (45 : Nat) ka na kb nb = arN (45 : Nat) kb nb ka na)) ==
    false) =
  true,
      ((!decide
        (arK (45 : Nat) ka na kb nb = arK (45 : Nat) kb nb ka na ∧
          arN (45 : Nat) ka na kb nb = arN (45 : Nat) kb nb ka na)) ==
    false) =
  true,
      (arE (46 : Nat) ka na kb nb != arE (46 : Nat) kb nb ka na) = false,
      ((arE (46 : Nat) ka na kb nb != arE (46 : Nat) kb nb ka na) == false) = true,
      (ByteArray.mk #[]) = (ByteArray.mk #[]),
      (ByteArray.mk #[]) = (ByteArray.mk #[]),
      ((arE (46 : Nat) ka na kb nb != arE (46 : Nat) kb nb ka na) == false) = true,
      ((arE (46 : Nat) ka na kb nb != arE (46 : Nat) kb nb ka na) == false) = true,
      ((arE (46 : Nat) ka na kb nb != arE (46 : Nat) kb nb ka na) == false) = true,
      (arE (45 : Nat) ka na kb nb != arE (45 : Nat) kb nb ka na) = false,
      ((arE (45 : Nat) ka na kb nb != arE (45 : Nat) kb nb ka na) == false) = true,
      ((arE (45 : Nat) ka na kb nb != arE (45 : Nat) kb nb ka na) == false) = true,
      ((arE (45 : Nat) ka na kb nb != arE (45 : Nat) kb nb ka na) == false) = true,
      R nb,
      R na,
      R na,
      R nb,
      R nb,
      R na,
      R na,
      R nb,
      (!smallB
      [D.int IntKind.i64 kb, D.int IntKind.i64 nb, D.str sb, D.slice xbb ebb none, D.slice xfb efb none,
        D.slice xlb elb none]) =
  false,
      (!smallB
      [D.int IntKind.i64 ka, D.int IntKind.i64 na, D.str sa, D.slice xba eba none, D.slice xfa efa none,
        D.slice xla ela none]) =
  false,
      ((!smallB
        [D.int IntKind.i64 ka, D.int IntKind.i64 na, D.str sa, D.slice xba eba none, D.slice xfa efa none,
          D.slice xla ela none]) ==
    false) =
  true,
      VS
  [D.int IntKind.i64 kb, D.int IntKind.i64 nb, D.str sb, D.slice xbb ebb none, D.slice xfb efb none,
    D.slice xlb elb none],
      ((!smallB
        [D.int IntKind.i64 ka, D.int IntKind.i64 na, D.str sa, D.slice xba eba none, D.slice xfa efa none,
          D.slice xla ela none]) ==
    false) =
  true,
      ((!smallB
        [D.int IntKind.i64 ka, D.int IntKind.i64 na, D.str sa, D.slice xba eba none, D.slice xfa efa none,
          D.slice xla ela none]) ==
    false) =
  true,
      VS
  [D.int IntKind.i64 ka, D.int IntKind.i64 na, D.str sa, D.slice xba eba none, D.slice xfa efa none,
    D.slice xla ela none],
      (!true) = false]) by kernel_rfl) (by simp only [all_cons, all_nil]; simp [*])

theorem l3_15 (ka : Int) (na : Int) (sa : ByteArray) (xba : Bool) (eba : Es) (xfa : Bool) (efa : Es) (xla : Bool) (ela : Es) (kb : Int) (nb : Int) (sb : ByteArray) (xbb : Bool) (ebb : Es) (xfb : Bool) (efb : Es) (xlb : Bool) (elb : Es)
    (h0 : smallB
    [D.int IntKind.i64 ka, D.int IntKind.i64 na, D.str sa, D.slice xba eba none, D.slice xfa efa none,
      D.slice xla ela none] =
  true)
    (h1 : smallB
    [D.int IntKind.i64 kb, D.int IntKind.i64 nb, D.str sb, D.slice xbb ebb none, D.slice xfb efb none,
      D.slice xlb elb none] =
  true)
    (h2 : (arE (45 : Nat) ka na kb nb != arE (45 : Nat) kb nb ka na) = false)
    (h3 : (arE (46 : Nat) ka na kb nb != arE (46 : Nat) kb nb ka na) = false)
    (h4 : decide
    (arK (45 : Nat) ka na kb nb = arK (45 : Nat) kb nb ka na ∧
      arN (45 : Nat) ka na kb nb = arN (45 : Nat) kb nb ka na) =
  true)
    (h5 : decide
    (arK (46 : Nat) ka na kb nb = arK (46 : Nat) kb nb ka na ∧
      arN (46 : Nat) ka na kb nb = arN (46 : Nat) kb nb ka na) =
  true)
    (h6 : noneB ka = false)
    (h7 : noneB kb = false)
    (h8 : numB ka = true)
    (h9 : numB kb = true)
    (h10 : (ka == (4 : Int)) = false)
    (h11 : (arE (45 : Nat) ka na kb nb != (0 : Int)) = true)
    (h12 : (arE (45 : Nat) ka na kb nb == (0 : Int)) = true)
    (h13 : (ByteArray.mk #[]) = (ByteArray.mk #[]))
    (h14 : R nb)
    (h15 : R na)
    (h16 : VS
  [D.int IntKind.i64 kb, D.int IntKind.i64 nb, D.str sb, D.slice xbb ebb none, D.slice xfb efb none,
    D.slice xlb elb none])
    (h17 : VS
  [D.int IntKind.i64 ka, D.int IntKind.i64 na, D.str sa, D.slice xba eba none, D.slice xfa efa none,
    D.slice xla ela none]) :
    ∃ X, Ev c0.P c0.T (.call 3 (two ka na sa xba eba xfa efa xla ela kb nb sb xbb ebb xfb efb xlb elb) [] (D.bool true) ([] ++ X)) :=
  outC_ok cNOk (show outC 0 (q ka na sa xba eba xfa efa xla ela kb nb sb xbb ebb xfb efb xlb elb (.path [false, true, true, true, false, false, true, true, true, false, true, true, true, true, false, true, true, true, true, false, false, true, true, true, false, false, true, true, true, true, false, false, true, true, true, false, false, false, false, false, false, false, false, false, false, true, true, true, true, false, false, true, true, true])) = some (D.bool true, [],
    [true = true,
      (arE (45 : Nat) ka na kb nb == (0 : Int)) = true,
      (true == true) = true,
      ((arE (45 : Nat) ka na kb nb == (0 : Int)) == false) = false,
      ((arE (45 : Nat) ka na kb nb == (0 : Int)) == false) = false,
      (true == true) = true,
      (true == true) = true,
      (true == true) = true,
      (arE (45 : Nat) ka na kb nb != (0 : Int)) = true,
      ((arE (45 : Nat) ka na kb nb != (0 : Int)) == false) = false,
      ((arE (45 : Nat) ka na kb nb != (0 : Int)) == false) = false,
      ((arE (45 : Nat) ka na kb nb != (0 : Int)) == false) = false,
      ((arE (45 : Nat) ka na kb nb != (0 : Int)) == false) = false,
      ((arE (45 : Nat) ka na kb nb != (0 : Int)) == false) = false,
      ((arE (45 : Nat) ka na kb nb != (0 : Int)) == false) = false,
      ((arE (45 : Nat) ka na kb nb != (0 : Int)) == false) = false,
      ((arE (45 : Nat) ka na kb nb != (0 : Int)) == false) = false,
      ((arE (45 : Nat) ka na kb nb != (0 : Int)) == false) = false,
      (ka == (4 : Int)) = false,
      ((ka == (4 : Int)) == false) = true,
      ((ka == (4 : Int)) == false) = true,
      ((ka == (4 : Int)) == false) = true,
      (!numB kb) = false,
      (!numB ka) = false,
      ((!numB ka) == false) = true,
      ((!numB ka) == false) = true,
      ((!numB ka) == false) = true,
      ((!numB ka) == false) = true,
      noneB kb = false,
      noneB ka = false,
      (noneB ka == false) = true,
      (noneB ka == false) = true,
      (noneB ka == false) = true,
      (!decide
      (arK (46 : Nat) ka na kb nb = arK (46 : Nat) kb nb ka na ∧
        arN (46 : Nat) ka na kb nb = arN (46 : Nat) kb nb ka na)) =
  false,
      (!decide
      (arK (45 : Nat) ka na kb nb = arK (45 : Nat) kb nb ka na ∧
        arN (45 : Nat) ka na kb nb = arN (45 : Nat) kb nb ka na)) =
  false,
      ((!decide
        (arK (45 : Nat) ka na kb nb = arK (45 : Nat) kb nb ka na ∧
          arN (45 : Nat) ka na kb nb = arN (45 : Nat) kb nb ka na)) ==
    false) =
  true,
      (ByteArray.mk #[]) = (ByteArray.mk #[]),
      (ByteArray.mk #[]) = (ByteArray.mk #[]),
      ((!decide
        (arK (45 : Nat) ka na kb nb = arK (45 : Nat) kb nb ka na ∧
          arN (45 : Nat) ka na kb nb = arN (45 : Nat) kb nb ka na)) ==
    false) =
  true,
      ((!decide
        (arK (45 : Nat) ka na kb nb = arK (45 : Nat) kb nb ka na ∧
          arN (45 : Nat) ka na kb nb = arN (45 : Nat) kb nb ka na)) ==
    false) =
  true,
      ((!decide
        (arK (45 : Nat) ka na kb nb = arK (45 : Nat) kb nb ka na ∧
          arN (45 : Nat) ka na kb nb = arN (45 : Nat) kb nb ka na)) ==
    false) =
  true,
      (arE (46 : Nat) ka na kb nb != arE (46 : Nat) kb nb ka na) = false,
      ((arE (46 : Nat) ka na kb nb != arE (46 : Nat) kb nb ka na) == false) = true,
      (ByteArray.mk #[]) = (ByteArray.mk #[]),
      (ByteArray.mk #[]) = (ByteArray.mk #[]),
      ((arE (46 : Nat) ka na kb nb != arE (46 : Nat) kb nb ka na) == false) = true,
      ((arE (46 : Nat) ka na kb nb != arE (46 : Nat) kb nb ka na) == false) = true,
      ((arE (46 : Nat) ka na kb nb != arE (46 : Nat) kb nb ka na) == false) = true,
      (arE (45 : Nat) ka na kb nb != arE (45 : Nat) kb nb ka na) = false,
      ((arE (45 : Nat) ka na kb nb != arE (45 : Nat) kb nb ka na) == false) = true,
      ((arE (45 : Nat) ka na kb nb != arE (45 : Nat) kb nb ka na) == false) = true,
      ((arE (45 : Nat) ka na kb nb != arE (45 : Nat) kb nb ka na) == false) = true,
      R nb,
      R na,
      R na,
      R nb,
      R nb,
      R na,
      R na,
      R nb,
      (!smallB
      [D.int IntKind.i64 kb, D.int IntKind.i64 nb, D.str sb, D.slice xbb ebb none, D.slice xfb efb none,
        D.slice xlb elb none]) =
  false,
      (!smallB
      [D.int IntKind.i64 ka, D.int IntKind.i64 na, D.str sa, D.slice xba eba none, D.slice xfa efa none,
        D.slice xla ela none]) =
  false,
      ((!smallB
        [D.int IntKind.i64 ka, D.int IntKind.i64 na, D.str sa, D.slice xba eba none, D.slice xfa efa none,
          D.slice xla ela none]) ==
    false) =
  true,
      VS
  [D.int IntKind.i64 kb, D.int IntKind.i64 nb, D.str sb, D.slice xbb ebb none, D.slice xfb efb none,
    D.slice xlb elb none],
      ((!smallB
        [D.int IntKind.i64 ka, D.int IntKind.i64 na, D.str sa, D.slice xba eba none, D.slice xfa efa none,
          D.slice xla ela none]) ==
    false) =
  true,
      ((!smallB
        [D.int IntKind.i64 ka, D.int IntKind.i64 na, D.str sa, D.slice xba eba none, D.slice xfa efa none,
          D.slice xla ela none]) ==
    false) =
  true,
      VS
  [D.int IntKind.i64 ka, D.int IntKind.i64 na, D.str sa, D.slice xba eba none, D.slice xfa efa none,
    D.slice xla ela none],
      (!true) = false]) by kernel_rfl) (by simp only [all_cons, all_nil]; simp [*])

theorem l3_16 (ka : Int) (na : Int) (sa : ByteArray) (xba : Bool) (eba : Es) (xfa : Bool) (efa : Es) (xla : Bool) (ela : Es) (kb : Int) (nb : Int) (sb : ByteArray) (xbb : Bool) (ebb : Es) (xfb : Bool) (efb : Es) (xlb : Bool) (elb : Es)
    (h0 : smallB
    [D.int IntKind.i64 ka, D.int IntKind.i64 na, D.str sa, D.slice xba eba none, D.slice xfa efa none,
      D.slice xla ela none] =
  true)
    (h1 : smallB
    [D.int IntKind.i64 kb, D.int IntKind.i64 nb, D.str sb, D.slice xbb ebb none, D.slice xfb efb none,
      D.slice xlb elb none] =
  true)
    (h2 : (arE (45 : Nat) ka na kb nb != arE (45 : Nat) kb nb ka na) = false)
    (h3 : (arE (46 : Nat) ka na kb nb != arE (46 : Nat) kb nb ka na) = false)
    (h4 : decide
    (arK (45 : Nat) ka na kb nb = arK (45 : Nat) kb nb ka na ∧
      arN (45 : Nat) ka na kb nb = arN (45 : Nat) kb nb ka na) =
  true)
    (h5 : decide
    (arK (46 : Nat) ka na kb nb = arK (46 : Nat) kb nb ka na ∧
      arN (46 : Nat) ka na kb nb = arN (46 : Nat) kb nb ka na) =
  true)
    (h6 : noneB ka = false)
    (h7 : noneB kb = false)
    (h8 : numB ka = true)
    (h9 : numB kb = true)
    (h10 : (ka == (4 : Int)) = false)
    (h11 : (arE (45 : Nat) ka na kb nb != (0 : Int)) = true)
    (h12 : (arE (45 : Nat) ka na kb nb == (0 : Int)) = false)
    (h13 : (ByteArray.mk #[]) = (ByteArray.mk #[]))
    (h14 : R nb)
    (h15 : R na)
    (h16 : VS
  [D.int IntKind.i64 kb, D.int IntKind.i64 nb, D.str sb, D.slice xbb ebb none, D.slice xfb efb none,
    D.slice xlb elb none])
    (h17 : VS
  [D.int IntKind.i64 ka, D.int IntKind.i64 na, D.str sa, D.slice xba eba none, D.slice xfa efa none,
    D.slice xla ela none]) :
    ∃ X, Ev c0.P c0.T (.call 3 (two ka na sa xba eba xfa efa xla ela kb nb sb xbb ebb xfb efb xlb elb) [] (D.bool (arE (45 : Nat) ka na kb nb == (10 : Int))) ([] ++ X)) :=
  outC_ok cNOk (show outC 0 (q ka na sa xba eba xfa efa xla ela kb nb sb xbb ebb xfb efb xlb elb (.path [false, true, true, true, false, false, true, true, true, false, true, true, true, true, false, true, true, true, true, false, false, true, true, true, false, false, true, true, true, true, false, false, true, true, true, false, false, false, false, false, false, false, false, false, false, true, true, true, true, true, true, true, false, true])) = some (D.bool (arE (45 : Nat) ka na kb nb == (10 : Int)), [],
    [true = true,
      (arE (45 : Nat) ka na kb nb == (0 : Int)) = false,
      (true == true) = true,
      ((arE (45 : Nat) ka na kb nb == (0 : Int)) == false) = true,
      ((arE (45 : Nat) ka na kb nb == (0 : Int)) == false) = true,
      (true == true) = true,
      (true == true) = true,
      (true == true) = true,
      (arE (45 : Nat) ka na kb nb != (0 : Int)) = true,
      ((arE (45 : Nat) ka na kb nb != (0 : Int)) == false) = false,
      ((arE (45 : Nat) ka na kb nb != (0 : Int)) == false) = false,
      ((arE (45 : Nat) ka na kb nb != (0 : Int)) == false) = false,
      ((arE (45 : Nat) ka na kb nb != (0 : Int)) == false) = false,
      ((arE (45 : Nat) ka na kb nb != (0 : Int)) == false) = false,
      ((arE (45 : Nat) ka na kb nb != (0 : Int)) == false) = false,
      ((arE (45 : Nat) ka na kb nb != (0 : Int)) == false) = false,
      ((arE (45 : Nat) ka na kb nb != (0 : Int)) == false) = false,
      ((arE (45 : Nat) ka na kb nb != (0 : Int)) == false) = false,
      (ka == (4 : Int)) = false,
      ((ka == (4 : Int)) == false) = true,
      ((ka == (4 : Int)) == false) = true,
      ((ka == (4 : Int)) == false) = true,
      (!numB kb) = false,
      (!numB ka) = false,
      ((!numB ka) == false) = true,
      ((!numB ka) == false) = true,
      ((!numB ka) == false) = true,
      ((!numB ka) == false) = true,
      noneB kb = false,
      noneB ka = false,
      (noneB ka == false) = true,
      (noneB ka == false) = true,
      (noneB ka == false) = true,
      (!decide
      (arK (46 : Nat) ka na kb nb = arK (46 : Nat) kb nb ka na ∧
        arN (46 : Nat) ka na kb nb = arN (46 : Nat) kb nb ka na)) =
  false,
      (!decide
      (arK (45 : Nat) ka na kb nb = arK (45 : Nat) kb nb ka na ∧
        arN (45 : Nat) ka na kb nb = arN (45 : Nat) kb nb ka na)) =
  false,
      ((!decide
        (arK (45 : Nat) ka na kb nb = arK (45 : Nat) kb nb ka na ∧
          arN (45 : Nat) ka na kb nb = arN (45 : Nat) kb nb ka na)) ==
    false) =
  true,
      (ByteArray.mk #[]) = (ByteArray.mk #[]),
      (ByteArray.mk #[]) = (ByteArray.mk #[]),
      ((!decide
        (arK (45 : Nat) ka na kb nb = arK (45 : Nat) kb nb ka na ∧
          arN (45 : Nat) ka na kb nb = arN (45 : Nat) kb nb ka na)) ==
    false) =
  true,
      ((!decide
        (arK (45 : Nat) ka na kb nb = arK (45 : Nat) kb nb ka na ∧
          arN (45 : Nat) ka na kb nb = arN (45 : Nat) kb nb ka na)) ==
    false) =
  true,
      ((!decide
        (arK (45 : Nat) ka na kb nb = arK (45 : Nat) kb nb ka na ∧
          arN (45 : Nat) ka na kb nb = arN (45 : Nat) kb nb ka na)) ==
    false) =
  true,
      (arE (46 : Nat) ka na kb nb != arE (46 : Nat) kb nb ka na) = false,
      ((arE (46 : Nat) ka na kb nb != arE (46 : Nat) kb nb ka na) == false) = true,
      (ByteArray.mk #[]) = (ByteArray.mk #[]),
      (ByteArray.mk #[]) = (ByteArray.mk #[]),
      ((arE (46 : Nat) ka na kb nb != arE (46 : Nat) kb nb ka na) == false) = true,
      ((arE (46 : Nat) ka na kb nb != arE (46 : Nat) kb nb ka na) == false) = true,
      ((arE (46 : Nat) ka na kb nb != arE (46 : Nat) kb nb ka na) == false) = true,
      (arE (45 : Nat) ka na kb nb != arE (45 : Nat) kb nb ka na) = false,
      ((arE (45 : Nat) ka na kb nb != arE (45 : Nat) kb nb ka na) == false) = true,
      ((arE (45 : Nat) ka na kb nb != arE (45 : Nat) kb nb ka na) == false) = true,
      ((arE (45 : Nat) ka na kb nb != arE (45 : Nat) kb nb ka na) == false) = true,
      R nb,
      R na,
      R na,
      R nb,
      R nb,
      R na,
      R na,
      R nb,
      (!smallB
      [D.int IntKind.i64 kb, D.int IntKind.i64 nb, D.str sb, D.slice xbb ebb none, D.slice xfb efb none,
        D.slice xlb elb none]) =
  false,
      (!smallB
      [D.int IntKind.i64 ka, D.int IntKind.i64 na, D.str sa, D.slice xba eba none, D.slice xfa efa none,
        D.slice xla ela none]) =
  false,
      ((!smallB
        [D.int IntKind.i64 ka, D.int IntKind.i64 na, D.str sa, D.slice xba eba none, D.slice xfa efa none,
          D.slice xla ela none]) ==
    false) =
  true,
      VS
  [D.int IntKind.i64 kb, D.int IntKind.i64 nb, D.str sb, D.slice xbb ebb none, D.slice xfb efb none,
    D.slice xlb elb none],
      ((!smallB
        [D.int IntKind.i64 ka, D.int IntKind.i64 na, D.str sa, D.slice xba eba none, D.slice xfa efa none,
          D.slice xla ela none]) ==
    false) =
  true,
      ((!smallB
        [D.int IntKind.i64 ka, D.int IntKind.i64 na, D.str sa, D.slice xba eba none, D.slice xfa efa none,
          D.slice xla ela none]) ==
    false) =
  true,
      VS
  [D.int IntKind.i64 ka, D.int IntKind.i64 na, D.str sa, D.slice xba eba none, D.slice xfa efa none,
    D.slice xla ela none],
      (!true) = false]) by kernel_rfl) (by simp only [all_cons, all_nil]; simp [*])

theorem l3_17 (ka : Int) (na : Int) (sa : ByteArray) (xba : Bool) (eba : Es) (xfa : Bool) (efa : Es) (xla : Bool) (ela : Es) (kb : Int) (nb : Int) (sb : ByteArray) (xbb : Bool) (ebb : Es) (xfb : Bool) (efb : Es) (xlb : Bool) (elb : Es)
    (h0 : smallB
    [D.int IntKind.i64 ka, D.int IntKind.i64 na, D.str sa, D.slice xba eba none, D.slice xfa efa none,
      D.slice xla ela none] =
  true)
    (h1 : smallB
    [D.int IntKind.i64 kb, D.int IntKind.i64 nb, D.str sb, D.slice xbb ebb none, D.slice xfb efb none,
      D.slice xlb elb none] =
  true)
    (h2 : (arE (45 : Nat) ka na kb nb != arE (45 : Nat) kb nb ka na) = false)
    (h3 : (arE (46 : Nat) ka na kb nb != arE (46 : Nat) kb nb ka na) = false)
    (h4 : decide
    (arK (45 : Nat) ka na kb nb = arK (45 : Nat) kb nb ka na ∧
      arN (45 : Nat) ka na kb nb = arN (45 : Nat) kb nb ka na) =
  true)
    (h5 : decide
    (arK (46 : Nat) ka na kb nb = arK (46 : Nat) kb nb ka na ∧
      arN (46 : Nat) ka na kb nb = arN (46 : Nat) kb nb ka na) =
  true)
    (h6 : noneB ka = false)
    (h7 : noneB kb = false)
    (h8 : numB ka = true)
    (h9 : numB kb = true)
    (h10 : (ka == (4 : Int)) = false)
    (h11 : (arE (45 : Nat) ka na kb nb != (0 : Int)) = false)
    (h12 : (kb == (4 : Int)) = true)
    (h13 : (arK (45 : Nat) ka na kb nb == (4 : Int)) = true)
    (h14 : (arE (45 : Nat) ka na kb nb == (0 : Int)) = true)
    (h15 : (ByteArray.mk #[]) = (ByteArray.mk #[]))
    (h16 : R nb)
    (h17 : R na)
    (h18 : VS
  [D.int IntKind.i64 kb, D.int IntKind.i64 nb, D.str sb, D.slice xbb ebb none, D.slice xfb efb none,
    D.slice xlb elb none])
    (h19 : VS
  [D.int IntKind.i64 ka, D.int IntKind.i64 na, D.str sa, D.slice xba eba none, D.slice xfa efa none,
    D.slice xla ela none]) :
    ∃ X, Ev c0.P c0.T (.call 3 (two ka na sa xba eba xfa efa xla ela kb nb sb xbb ebb xfb efb xlb elb) [] (D.bool true) ([] ++ X)) :=
  outC_ok cNOk (show outC 0 (q ka na sa xba eba xfa efa xla ela kb nb sb xbb ebb xfb efb xlb elb (.path [false, true, true, true, false, false, true, true, true, false, true, true, true, true, false, true, true, true, true, false, false, true, true, true, false, false, true, true, true, true, false, false, true, true, true, false, true, true, true, true, true, false, false, false, true, true, true, false, false, false, true, true, true, false, true, true, true, false, false, true, true, true])) = some (D.bool true, [],
    [((arK (45 : Nat) ka na kb nb == (4 : Int)) == true) = true,
      (arE (45 : Nat) ka na kb nb == (0 : Int)) = true,
      (((arK (45 : Nat) ka na kb nb == (4 : Int)) == true) == true) = true,
      ((arE (45 : Nat) ka na kb nb == (0 : Int)) == false) = false,
      ((arE (45 : Nat) ka na kb nb == (0 : Int)) == false) = false,
      (((arK (45 : Nat) ka na kb nb == (4 : Int)) == true) == true) = true,
      (((arK (45 : Nat) ka na kb nb == (4 : Int)) == true) == true) = true,
      (((arK (45 : Nat) ka na kb nb == (4 : Int)) == true) == true) = true,
      (arE (45 : Nat) ka na kb nb != (0 : Int)) = false,
      ((arE (45 : Nat) ka na kb nb != (0 : Int)) == false) = true,
      true = true,
      ((arE (45 : Nat) ka na kb nb != (0 : Int)) == false) = true,
      (true == false) = false,
      (true == false) = false,
      (true == false) = false,
      ((arE (45 : Nat) ka na kb nb != (0 : Int)) == false) = true,
      (kb == (4 : Int)) = true,
      ((arE (45 : Nat) ka na kb nb != (0 : Int)) == false) = true,
      ((kb == (4 : Int)) == false) = false,
      ((kb == (4 : Int)) == false) = false,
      ((kb == (4 : Int)) == false) = false,
      ((arE (45 : Nat) ka na kb nb != (0 : Int)) == false) = true,
      ((arE (45 : Nat) ka na kb nb != (0 : Int)) == false) = true,
      ((arE (45 : Nat) ka na kb nb != (0 : Int)) == false) = true,
      ((arE (45 : Nat) ka na kb nb != (0 : Int)) == false) = true,
      ((arE (45 : Nat) ka na kb nb != (0 : Int)) == false) = true,
      (ka == (4 : Int)) = false,
      ((ka == (4 : Int)) == false) = true,
      ((ka == (4 : Int)) == false) = true,
      ((ka == (4 : Int)) == false) = true,
      (!numB kb) = false,
      (!numB ka) = false,
      ((!numB ka) == false) = true,
      ((!numB ka) == false) = true,
      ((!numB ka) == false) = true,
      ((!numB ka) == false) = true,
      noneB kb = false,
      noneB ka = false,
      (noneB ka == false) = true,
      (noneB ka == false) = true,
      (noneB ka == false) = true,
      (!decide
      (arK (46 : Nat) ka na kb nb = arK (46 : Nat) kb nb ka na ∧
        arN (46 : Nat) ka na kb nb = arN (46 : Nat) kb nb ka na)) =
  false,
      (!decide
      (arK (45 : Nat) ka na kb nb = arK (45 : Nat) kb nb ka na ∧
        arN (45 : Nat) ka na kb nb = arN (45 : Nat) kb nb ka na)) =
  false,
      ((!decide
        (arK (45 : Nat) ka na kb nb = arK (45 : Nat) kb nb ka na ∧
          arN (45 : Nat) ka na kb nb = arN (45 : Nat) kb nb ka na)) ==
    false) =
  true,
      (ByteArray.mk #[]) = (ByteArray.mk #[]),
      (ByteArray.mk #[]) = (ByteArray.mk #[]),
      ((!decide
        (arK (45 : Nat) ka na kb nb = arK (45 : Nat) kb nb ka na ∧
          arN (45 : Nat) ka na kb nb = arN (45 : Nat) kb nb ka na)) ==
    false) =
  true,
      ((!decide
        (arK (45 : Nat) ka na kb nb = arK (45 : Nat) kb nb ka na ∧
          arN (45 : Nat) ka na kb nb = arN (45 : Nat) kb nb ka na)) ==
    false) =
  true,
      ((!decide
        (arK (45 : Nat) ka na kb nb = arK (45 : Nat) kb nb ka na ∧
          arN (45 : Nat) ka na kb nb = arN (45 : Nat) kb nb ka na)) ==
    false) =
  true,
      (arE (46 : Nat) ka na kb nb != arE (46 : Nat) kb nb ka na) = false,
      ((arE (46 : Nat) ka na kb nb != arE (46 : Nat) kb nb ka na) == false) = true,
      (ByteArray.mk #[]) = (ByteArray.mk #[]),
      (ByteArray.mk #[]) = (ByteArray.mk #[]),
      ((arE (46 : Nat) ka na kb nb != arE (46 : Nat) kb nb ka na) == false) = true,
      ((arE (46 : Nat) ka na kb nb != arE (46 : Nat) kb nb ka na) == false) = true,
      ((arE (46 : Nat) ka na kb nb != arE (46 : Nat) kb nb ka na) == false) = true,
      (arE (45 : Nat) ka na kb nb != arE (45 : Nat) kb nb ka na) = false,
      ((arE (45 : Nat) ka na kb nb != arE (45 : Nat) kb nb ka na) == false) = true,
      ((arE (45 : Nat) ka na kb nb != arE (45 : Nat) kb nb ka na) == false) = true,
      ((arE (45 : Nat) ka na kb nb != arE (45 : Nat) kb nb ka na) == false) = true,
      R nb,
      R na,
      R na,
      R nb,
      R nb,
      R na,
      R na,
      R nb,
      (!smallB
      [D.int IntKind.i64 kb, D.int IntKind.i64 nb, D.str sb, D.slice xbb ebb none, D.slice xfb efb none,
        D.slice xlb elb none]) =
  false,
      (!smallB
      [D.int IntKind.i64 ka, D.int IntKind.i64 na, D.str sa, D.slice xba eba none, D.slice xfa efa none,
        D.slice xla ela none]) =
  false,
      ((!smallB
        [D.int IntKind.i64 ka, D.int IntKind.i64 na, D.str sa, D.slice xba eba none, D.slice xfa efa none,
          D.slice xla ela none]) ==
    false) =
  true,
      VS
  [D.int IntKind.i64 kb, D.int IntKind.i64 nb, D.str sb, D.slice xbb ebb none, D.slice xfb efb none,
    D.slice xlb elb none],
      ((!smallB
        [D.int IntKind.i64 ka, D.int IntKind.i64 na, D.str sa, D.slice xba eba none, D.slice xfa efa none,
          D.slice xla ela none]) ==
    false) =
  true,
      ((!smallB
        [D.int IntKind.i64 ka, D.int IntKind.i64 na, D.str sa, D.slice xba eba none, D.slice xfa efa none,
          D.slice xla ela none]) ==
    false) =
  true,
      VS
  [D.int IntKind.i64 ka, D.int IntKind.i64 na, D.str sa, D.slice xba eba none, D.slice xfa efa none,
    D.slice xla ela none],
      (!true) = false]) by kernel_rfl) (by simp only [all_cons, all_nil]; simp [*])

theorem l3_18 (ka : Int) (na : Int) (sa : ByteArray) (xba : Bool) (eba : Es) (xfa : Bool) (efa : Es) (xla : Bool) (ela : Es) (kb : Int) (nb : Int) (sb : ByteArray) (xbb : Bool) (ebb : Es) (xfb : Bool) (efb : Es) (xlb : Bool) (elb : Es)
    (h0 : smallB
    [D.int IntKind.i64 ka, D.int IntKind.i64 na, D.str sa, D.slice xba eba none, D.slice xfa efa none,
      D.slice xla ela none] =
  true)
    (h1 : smallB
    [D.int IntKind.i64 kb, D.int IntKind.i64 nb, D.str sb, D.slice xbb ebb none, D.slice xfb efb none,
      D.slice xlb elb none] =
  true)
    (h2 : (arE (45 : Nat) ka na kb nb != arE (45 : Nat) kb nb ka na) = false)
    (h3 : (arE (46 : Nat) ka na kb nb != arE (46 : Nat) kb nb ka na) = false)
    (h4 : decide
    (arK (45 : Nat) ka na kb nb = arK (45 : Nat) kb nb ka na ∧
      arN (45 : Nat) ka na kb nb = arN (45 : Nat) kb nb ka na) =
  true)
    (h5 : decide
    (arK (46 : Nat) ka na kb nb = arK (46 : Nat) kb nb ka na ∧
      arN (46 : Nat) ka na kb nb = arN (46 : Nat) kb nb ka na) =
  true)
    (h6 : noneB ka = false)
    (h7 : noneB kb = false)
    (h8 : numB ka = true)
    (h9 : numB kb = true)
    (h10 : (ka == (4 : Int)) = false)
    (h11 : (arE (45 : Nat) ka na kb nb != (0 : Int)) = false)
    (h12 : (kb == (4 : Int)) = true)
    (h13 : (arK (45 : Nat) ka na kb nb == (4 : Int)) = true)
    (h14 : (arE (45 : Nat) ka na kb nb == (0 : Int)) = false)
    (h15 : (ByteArray.mk #[]) = (ByteArray.mk #[]))
    (h16 : R nb)
    (h17 : R na)
    (h18 : VS
  [D.int IntKind.i64 kb, D.int IntKind.i64 nb, D.str sb, D.slice xbb ebb none, D.slice xfb efb none,
    D.slice xlb elb none])
    (h19 : VS
  [D.int IntKind.i64 ka, D.int IntKind.i64 na, D.str sa, D.slice xba eba none, D.slice xfa efa none,
    D.slice xla ela none]) :
    ∃ X, Ev c0.P c0.T (.call 3 (two ka na sa xba eba xfa efa xla ela kb nb sb xbb ebb xfb efb xlb elb) [] (D.bool (arE (45 : Nat) ka na kb nb == (10 : Int))) ([] ++ X)) :=
  outC_ok cNOk (show outC 0 (q ka na sa xba eba xfa efa xla ela kb nb sb xbb ebb xfb efb xlb elb (.path [false, true, true, true, false, false, true, true, true, false, true, true, true, true, false, true, true, true, true, false, false, true, true, true, false, false, true, true, true, true, false, false, true, true, true, false, true, true, true, true, true, false, false, false, true, true, true, false, false, false, true, true, true, false, true, true, true, true, true, true, false, true])) = some (D.bool (arE (45 : Nat) ka na kb nb == (10 : Int)), [],
    [((arK (45 : Nat) ka na kb nb == (4 : Int)) == true) = true,
      (arE (45 : Nat) ka na kb nb == (0 : Int)) = false,
      (((arK (45 : Nat) ka na kb nb == (4 : Int)) == true) == true) = true,
      ((arE (45 : Nat) ka na kb nb == (0 : Int)) == false) = true,
      ((arE (45 : Nat) ka na kb nb == (0 : Int)) == false) = true,
      (((arK (45 : Nat) ka na kb nb == (4 : Int)) == true) == true) = true,
      (((arK (45 : Nat) ka na kb nb == (4 : Int)) == true) == true) = true,
      (((arK (45 : Nat) ka na kb nb == (4 : Int)) == true) == true) = true,
      (arE (45 : Nat) ka na kb nb != (0 : Int)) = false,
      ((arE (45 : Nat) ka na kb nb != (0 : Int)) == false) = true,
      true = true,
      ((arE (45 : Nat) ka na kb nb != (0 : Int)) == false) = true,
      (true == false) = false,
      (true == false) = false,
      (true == false) = false,
      ((arE (45 : Nat) ka na kb nb != (0 : Int)) == false) = true,
      (kb == (4 : Int)) = true,
      ((arE (45 : Nat) ka na kb nb != (0 : Int)) == false) = true,
      ((kb == (4 : Int)) == false) = false,
      ((kb == (4 : Int)) == false) = false,
      ((kb == (4 : Int)) == false) = false,
      ((arE (45 : Nat) ka na kb nb != (0 : Int)) == false) = true,
      ((arE (45 : Nat) ka na kb nb != (0 : Int)) == false) = true,
      ((arE (45 : Nat) ka na kb nb != (0 : Int)) == false) = true,
      ((arE (45 : Nat) ka na kb nb != (0 : Int)) == false) = true,
      ((arE (45 : Nat) ka na kb nb != (0 : Int)) == false) = true,
      (ka == (4 : Int)) = false,
      ((ka == (4 : Int)) == false) = true,
      ((ka == (4 : Int)) == false) = true,
      ((ka == (4 : Int)) == false) = true,
      (!numB kb) = false,
      (!numB ka) = false,
      ((!numB ka) == false) = true,
      ((!numB ka) == false) = true,
      ((!numB ka) == false) = true,
      ((!numB ka) == false) = true,
      noneB kb = false,
      noneB ka = false,
      (noneB ka == false) = true,
      (noneB ka == false) = true,
      (noneB ka == false) = true,
      (!decide
      (arK (46 : Nat) ka na kb nb = arK (46 : Nat) kb nb ka na ∧
        arN (46 : Nat) ka na kb nb = arN (46 : Nat) kb nb ka na)) =
  false,
      (!decide
      (arK (45 : Nat) ka na kb nb = arK (45 : Nat) kb nb ka na ∧
        arN (45 : Nat) ka na kb nb = arN (45 : Nat) kb nb ka na)) =
  false,
      ((!decide
        (arK (45 : Nat) ka na kb nb = arK (45 : Nat) kb nb ka na ∧
          arN (45 : Nat) ka na kb nb = arN (45 : Nat) kb nb ka na)) ==
    false) =
  true,
      (ByteArray.mk #[]) = (ByteArray.mk #[]),
      (ByteArray.mk #[]) = (ByteArray.mk #[]),
      ((!decide
        (arK (45 : Nat) ka na kb nb = arK (45 : Nat) kb nb ka na ∧
          arN (45 : Nat) ka na kb nb = arN (45 : Nat) kb nb ka na)) ==
    false) =
  true,
      ((!decide
        (arK (45 : Nat) ka na kb nb = arK (45 : Nat) kb nb ka na ∧
          arN (45 : Nat) ka na kb nb = arN (45 : Nat) kb nb ka na)) ==
    false) =
  true,
      ((!decide
        (arK (45 : Nat) ka na kb nb = arK (45 : Nat) kb nb ka na ∧
          arN (45 : Nat) ka na kb nb = arN (45 : Nat) kb nb ka na)) ==
    false) =
  true,
      (arE (46 : Nat) ka na kb nb != arE (46 : Nat) kb nb ka na) = false,
      ((arE (46 : Nat) ka na kb nb != arE (46 : Nat) kb nb ka na) == false) = true,
      (ByteArray.mk #[]) = (ByteArray.mk #[]),
      (ByteArray.mk #[]) = (ByteArray.mk #[]),
      ((arE (46 : Nat) ka na kb nb != arE (46 : Nat) kb nb ka na) == false) = true,
      ((arE (46 : Nat) ka na kb nb != arE (46 : Nat) kb nb ka na) == false) = true,
      ((arE (46 : Nat) ka na kb nb != arE (46 : Nat) kb nb ka na) == false) = true,
      (arE (45 : Nat) ka na kb nb != arE (45 : Nat) kb nb ka na) = false,
      ((arE (45 : Nat) ka na kb nb != arE (45 : Nat) kb nb ka na) == false) = true,
      ((arE (45 : Nat) ka na kb nb != arE (45 : Nat) kb nb ka na) == false) = true,
      ((arE (45 : Nat) ka na kb nb != arE (45 : Nat) kb nb ka na) == false) = true,
      R nb,
      R na,
      R na,
      R nb,
      R nb,
      R na,
      R na,
      R nb,
      (!smallB
      [D.int IntKind.i64 kb, D.int IntKind.i64 nb, D.str sb, D.slice xbb ebb none, D.slice xfb efb none,
        D.slice xlb elb none]) =
  false,
      (!smallB
      [D.int IntKind.i64 ka, D.int IntKind.i64 na, D.str sa, D.slice xba eba none, D.slice xfa efa none,
        D.slice xla ela none]) =
  false,
      ((!smallB
        [D.int IntKind.i64 ka, D.int IntKind.i64 na, D.str sa, D.slice xba eba none, D.slice xfa efa none,
          D.slice xla ela none]) ==
    false) =
  true,
      VS
  [D.int IntKind.i64 kb, D.int IntKind.i64 nb, D.str sb, D.slice xbb ebb none, D.slice xfb efb none,
    D.slice xlb elb none],
      ((!smallB
        [D.int IntKind.i64 ka, D.int IntKind.i64 na, D.str sa, D.slice xba eba none, D.slice xfa efa none,
          D.slice xla ela none]) ==
    false) =
  true,
      ((!smallB
        [D.int IntKind.i64 ka, D.int IntKind.i64 na, D.str sa, D.slice xba eba none, D.slice xfa efa none,
          D.slice xla ela none]) ==
    false) =
  true,
      VS
  [D.int IntKind.i64 ka, D.int IntKind.i64 na, D.str sa, D.slice xba eba none, D.slice xfa efa none,
    D.slice xla ela none],
      (!true) = false]) by kernel_rfl) (by simp only [all_cons, all_nil]; simp [*])

theorem l3_19 (ka : Int) (na : Int) (sa : ByteArray) (xba : Bool) (eba : Es) (xfa : Bool) (efa : Es) (xla : Bool) (ela : Es) (kb : Int) (nb : Int) (sb : ByteArray) (xbb : Bool) (ebb : Es) (xfb : Bool) (efb : Es) (xlb : Bool) (elb : Es)
    (h0 : smallB
    [D.int IntKind.i64 ka, D.int IntKind.i64 na, D.str sa, D.slice xba eba none, D.slice xfa efa none,
      D.slice xla ela none] =
  true)
    (h1 : smallB
    [D.int IntKind.i64 kb, D.int IntKind.i64 nb, D.str sb, D.slice xbb ebb none, D.slice xfb efb none,
      D.slice xlb elb none] =
  true)
    (h2 : (arE (45 : Nat) ka na kb nb != arE (45 : Nat) kb nb ka na) = false)
    (h3 : (arE (46 : Nat) ka na kb nb != arE (46 : Nat) kb nb ka na) = false)
    (h4 : decide
    (arK (45 : Nat) ka na kb nb = arK (45 : Nat) kb nb ka na ∧
      arN (45 : Nat) ka na kb nb = arN (45 : Nat) kb nb ka na) =
  true)
    (h5 : decide
    (arK (46 : Nat) ka na kb nb = arK (46 : Nat) kb nb ka na ∧
      arN (46 : Nat) ka na kb nb = arN (46 : Nat) kb nb ka na) =
  true)
    (h6 : noneB ka = false)
    (h7 : noneB kb = false)
    (h8 : numB ka = true)
    (h9 : numB kb = true)
    (h10 : (ka == (4 : Int)) = false)
    (h11 : (arE (45 : Nat) ka na kb nb != (0 : Int)) = false)
    (h12 : (kb == (4 : Int)) = true)
    (h13 : (arK (45 : Nat) ka na kb nb == (4 : Int)) = false)
    (h14 : (ByteArray.mk #[]) = (ByteArray.mk #[]))
    (h15 : R nb)
    (h16 : R na)
    (h17 : VS
  [D.int IntKind.i64 kb, D.int IntKind.i64 nb, D.str sb, D.slice xbb ebb none, D.slice xfb efb none,
    D.slice xlb elb none])
    (h18 : VS
  [D.int IntKind.i64 ka, D.int IntKind.i64 na, D.str sa, D.slice xba eba none, D.slice xfa efa none,
    D.slice xla ela none]) :
    ∃ X, Ev c0.P c0.T (.call 3 (two ka na sa xba eba xfa efa xla ela kb nb sb xbb ebb xfb efb xlb elb) [] (D.bool false) ([] ++ X)) :=
  outC_ok cNOk (show outC 0 (q ka na sa xba eba xfa efa xla ela kb nb sb xbb ebb xfb efb xlb elb (.path [false, true, true, true, false, false, true, true, true, false, true, true, true, true, false, true, true, true, true, false, false, true, true, true, false, false, true, true, true, true, false, false, true, true, true, false, true, true, true, true, true, false, false, false, true, true, true, false, false, false, true, true, true, false, false, false, false, false, false])) = some (D.bool false, [],
    [((arK (45 : Nat) ka na kb nb == (4 : Int)) == true) = false,
      (((arK (45 : Nat) ka na kb nb == (4 : Int)) == true) == true) = false,
      (((arK (45 : Nat) ka na kb nb == (4 : Int)) == true) == true) = false,
      (((arK (45 : Nat) ka na kb nb == (4 : Int)) == true) == true) = false,
      (((arK (45 : Nat) ka na kb nb == (4 : Int)) == true) == true) = false,
      (arE (45 : Nat) ka na kb nb != (0 : Int)) = false,
      ((arE (45 : Nat) ka na kb nb != (0 : Int)) == false) = true,
      true = true,
      ((arE (45 : Nat) ka na kb nb != (0 : Int)) == false) = true,
      (true == false) = false,
      (true == false) = false,
      (true == false) = false,
      ((arE (45 : Nat) ka na kb nb != (0 : Int)) == false) = true,
      (kb == (4 : Int)) = true,
      ((arE (45 : Nat) ka na kb nb != (0 : Int)) == false) = true,
      ((kb == (4 : Int)) == false) = false,
      ((kb == (4 : Int)) == false) = false,
      ((kb == (4 : Int)) == false) = false,
      ((arE (45 : Nat) ka na kb nb != (0 : Int)) == false) = true,
      ((arE (45 : Nat) ka na kb nb != (0 : Int)) == false) = true,
      ((arE (45 : Nat) ka na kb nb != (0 : Int)) == false) = true,
      ((arE (45 : Nat) ka na kb nb != (0 : Int)) == false) = true,
      ((arE (45 : Nat) ka na kb nb != (0 : Int)) == false) = true,
      (ka == (4 : Int)) = false,
      ((ka == (4 : Int)) == false) = true,
      ((ka == (4 : Int)) == false) = true,
      ((ka == (4 : Int)) == false) = true,
      (!numB kb) = false,
      (!numB ka) = false,
      ((!numB ka) == false) = true,
      ((!numB ka) == false) = true,
      ((!numB ka) == false) = true,
      ((!numB ka) == false) = true,
      noneB kb = false,
      noneB ka = false,
      (noneB ka == false) = true,
      (noneB ka == false) = true,
      (noneB ka == false) = true,
      (!decide
      (arK (46 : Nat) ka na kb nb = arK (46 : Nat) kb nb ka na ∧
        arN (46 : Nat) ka na kb nb = arN (46 : Nat) kb nb ka na)) =
  false,
      (!decide
      (arK (45 : Nat) ka na kb nb = arK (45 : Nat) kb nb ka na ∧
        arN (45 : Nat) ka na kb nb = arN (45 : Nat) kb nb ka na)) =
  false,
      ((!decide
        (arK (45 : Nat) ka na kb nb = arK (45 : Nat) kb nb ka na ∧
          arN (45 : Nat) ka na kb nb = arN (45 : Nat) kb nb ka na)) ==
    false) =
  true,
      (ByteArray.mk #[]) = (ByteArray.mk #[]),
      (ByteArray.mk #[]) = (ByteArray.mk #[]),
      ((!decide
        (arK (45 : Nat) ka na kb nb = arK (45 : Nat) kb nb ka na ∧
          arN (45 : Nat) ka na kb nb = arN (45 : Nat) kb nb ka na)) ==
    false) =
  true,
      ((!decide
        (arK (45 : Nat) ka na kb nb = arK (45 : Nat) kb nb ka na ∧
          arN (45 : Nat) ka na kb nb = arN (45 : Nat) kb nb ka na)) ==
    false) =
  true,
      ((!decide
        (arK (45 : Nat) ka na kb nb = arK (45 : Nat) kb nb ka na ∧
          arN (45 : Nat) ka na kb nb = arN (45 : Nat) kb nb ka na)) ==
    false) =
  true,
      (arE (46 : Nat) ka na kb nb != arE (46 : Nat) kb nb ka na) = false,
      ((arE (46 : Nat) ka na kb nb != arE (46 : Nat) kb nb ka na) == false) = true,
      (ByteArray.mk #[]) = (ByteArray.mk #[]),
      (ByteArray.mk #[]) = (ByteArray.mk #[]),
      ((arE (46 : Nat) ka na kb nb != arE (46 : Nat) kb nb ka na) == false) = true,
      ((arE (46 : Nat) ka na kb nb != arE (46 : Nat) kb nb ka na) == false) = true,
      ((arE (46 : Nat) ka na kb nb != arE (46 : Nat) kb nb ka na) == false) = true,
      (arE (45 : Nat) ka na kb nb != arE (45 : Nat) kb nb ka na) = false,
      ((arE (45 : Nat) ka na kb nb != arE (45 : Nat) kb nb ka na) == false) = true,
      ((arE (45 : Nat) ka na kb nb != arE (45 : Nat) kb nb ka na) == false) = true,
      ((arE (45 : Nat) ka na kb nb != arE (45 : Nat) kb nb ka na) == false) = true,
      R nb,
      R na,
      R na,
      R nb,
      R nb,
      R na,
      R na,
      R nb,
      (!smallB
      [D.int IntKind.i64 kb, D.int IntKind.i64 nb, D.str sb, D.slice xbb ebb none, D.slice xfb efb none,
        D.slice xlb elb none]) =
  false,
      (!smallB
      [D.int IntKind.i64 ka, D.int IntKind.i64 na, D.str sa, D.slice xba eba none, D.slice xfa efa none,
        D.slice xla ela none]) =
  false,
      ((!smallB
        [D.int IntKind.i64 ka, D.int IntKind.i64 na, D.str sa, D.slice xba eba none, D.slice xfa efa none,
          D.slice xla ela none]) ==
    false) =
  true,
      VS
  [D.int IntKind.i64 kb, D.int IntKind.i64 nb, D.str sb, D.slice xbb ebb none, D.slice xfb efb none,
    D.slice xlb elb none],
      ((!smallB
        [D.int IntKind.i64 ka, D.int IntKind.i64 na, D.str sa, D.slice xba eba none, D.slice xfa efa none,
          D.slice xla ela none]) ==
    false) =
  true,
      ((!smallB
        [D.int IntKind.i64 ka, D.int IntKind.i64 na, D.str sa, D.slice xba eba none, D.slice xfa efa none,
          D.slice xla ela none]) ==
    false) =
  true,
      VS
  [D.int IntKind.i64 ka, D.int IntKind.i64 na, D.str sa, D.slice xba eba none, D.slice xfa efa none,
    D.slice xla ela none],
      (!true) = false]) by kernel_rfl) (by simp only [all_cons, all_nil]; simp [*])

theorem l3_20 (ka : Int) (na : Int) (sa : ByteArray) (xba : Bool) (eba : Es) (xfa : Bool) (efa : Es) (xla : Bool) (ela : Es) (kb : Int) (nb : Int) (sb : ByteArray) (xbb : Bool) (ebb : Es) (xfb : Bool) (efb : Es) (xlb : Bool) (elb : Es)
    (h0 : smallB
    [D.int IntKind.i64 ka, D.int IntKind.i64 na, D.str sa, D.slice xba eba none, D.slice xfa efa none,
      D.slice xla ela none] =
  true)
    (h1 : smallB
    [D.int IntKind.i64 kb, D.int IntKind.i64 nb, D.str sb, D.slice xbb ebb none, D.slice xfb efb none,
      D.slice xlb elb none] =
  true)
    (h2 : (arE (45 : Nat) ka na kb nb != arE (45 : Nat) kb nb ka na) = false)
    (h3 : (arE (46 : Nat) ka na kb nb != arE (46 : Nat) kb nb ka na) = false)
    (h4 : decide
    (arK (45 : Nat) ka na kb nb = arK (45 : Nat) kb nb ka na ∧
      arN (45 : Nat) ka na kb nb = arN (45 : Nat) kb nb ka na) =
  true)
    (h5 : decide
    (arK (46 : Nat) ka na kb nb = arK (46 : Nat) kb nb ka na ∧
      arN (46 : Nat) ka na kb nb = arN (46 : Nat) kb nb ka na) =
  true)
    (h6 : noneB ka = false)
    (h7 : noneB kb = false)
    (h8 : numB ka = true)
    (h9 : numB kb = true)
    (h10 : (ka == (4 : Int)) = false)
    (h11 : (arE (45 : Nat) ka na kb nb != (0 : Int)) = false)
    (h12 : (kb == (4 : Int)) = false)
    (h13 : decide (arN (45 : Nat) ka na kb nb < (-2147483648 : Int)) = true)
    (h14 : (arK (45 : Nat) ka na kb nb == (4 : Int)) = true)
    (h15 : (arE (45 : Nat) ka na kb nb == (0 : Int)) = true)
    (h16 : (ByteArray.mk #[]) = (ByteArray.mk #[]))
    (h17 : R nb)
    (h18 : R na)
    (h19 : VS
  [D.int IntKind.i64 kb, D.int IntKind.i64 nb, D.str sb, D.slice xbb ebb none, D.slice xfb efb none,
    D.slice xlb elb none])
    (h20 : VS
  [D.int IntKind.i64 ka, D.int IntKind.i64 na, D.str sa, D.slice xba eba none, D.slice xfa efa none,
    D.slice xla ela none]) :
    ∃ X, Ev c0.P c0.T (.call 3 (two ka na sa xba eba xfa efa xla ela kb nb sb xbb ebb xfb efb xlb elb) [] (D.bool true) ([] ++ X)) :=
  outC_ok cNOk (show outC 0 (q ka na sa xba eba xfa efa xla ela kb nb sb xbb ebb xfb efb xlb elb (.path [false, true, true, true, false, false, true, true, true, false, true, true, true, true, false, true, true, true, true, false, false, true, true, true, false, false, true, true, true, true, false, false, true, true, true, false, true, true, true, true, true, true, true, true, true, false, true, false, false, false, true, true, true, false, true, true, true, false, false, true, true, true])) = some (D.bool true, [],
    [((arK (45 : Nat) ka na kb nb == (4 : Int)) == true) = true,
      (arE (45 : Nat) ka na kb nb == (0 : Int)) = true,
      (((arK (45 : Nat) ka na kb nb == (4 : Int)) == true) == true) = true,
      ((arE (45 : Nat) ka na kb nb == (0 : Int)) == false) = false,
      ((arE (45 : Nat) ka na kb nb == (0 : Int)) == false) = false,
      (((arK (45 : Nat) ka na kb nb == (4 : Int)) == true) == true) = true,
      (((arK (45 : Nat) ka na kb nb == (4 : Int)) == true) == true) = true,
      (((arK (45 : Nat) ka na kb nb == (4 : Int)) == true) == true) = true,
      (arE (45 : Nat) ka na kb nb != (0 : Int)) = false,
      ((arE (45 : Nat) ka na kb nb != (0 : Int)) == false) = true,
      decide (arN (45 : Nat) ka na kb nb < (-2147483648 : Int)) = true,
      ((arE (45 : Nat) ka na kb nb != (0 : Int)) == false) = true,
      (decide (arN (45 : Nat) ka na kb nb < (-2147483648 : Int)) == false) = false,
      (decide (arN (45 : Nat) ka na kb nb < (-2147483648 : Int)) == false) = false,
      (decide (arN (45 : Nat) ka na kb nb < (-2147483648 : Int)) == false) = false,
      ((arE (45 : Nat) ka na kb nb != (0 : Int)) == false) = true,
      (kb == (4 : Int)) = false,
      ((arE (45 : Nat) ka na kb nb != (0 : Int)) == false) = true,
      ((kb == (4 : Int)) == false) = true,
      ((kb == (4 : Int)) == false) = true,
      ((kb == (4 : Int)) == false) = true,
      ((arE (45 : Nat) ka na kb nb != (0 : Int)) == false) = true,
      ((arE (45 : Nat) ka na kb nb != (0 : Int)) == false) = true,
      ((arE (45 : Nat) ka na kb nb != (0 : Int)) == false) = true,
      ((arE (45 : Nat) ka na kb nb != (0 : Int)) == false) = true,
      ((arE (45 : Nat) ka na kb nb != (0 : Int)) == false) = true,
      (ka == (4 : Int)) = false,
      ((ka == (4 : Int)) == false) = true,
      ((ka == (4 : Int)) == false) = true,
      ((ka == (4 : Int)) == false) = true,
      (!numB kb) = false,
      (!numB ka) = false,
      ((!numB ka) == false) = true,
      ((!numB ka) == false) = true,
      ((!numB ka) == false) = true,
      ((!numB ka) == false) = true,
      noneB kb = false,
      noneB ka = false,
      (noneB ka == false) = true,
      (noneB ka == false) = true,
      (noneB ka == false) = true,
      (!decide
      (arK (46 : Nat) ka na kb nb = arK (46 : Nat) kb nb ka na ∧
        arN (46 : Nat) ka na kb nb = arN (46 : Nat) kb nb ka na)) =
  false,
      (!decide
      (arK (45 : Nat) ka na kb nb = arK (45 : Nat) kb nb ka na ∧
        arN (45 : Nat) ka na kb nb = arN (45 : Nat) kb nb ka na)) =
  false,
      ((!decide
        (arK (45 : Nat) ka na kb nb = arK (45 : Nat) kb nb ka na ∧
          arN (45 : Nat) ka na kb nb = arN (45 : Nat) kb nb ka na)) ==
    false) =
  true,
      (ByteArray.mk #[]) = (ByteArray.mk #[]),
      (ByteArray.mk #[]) = (ByteArray.mk #[]),
      ((!decide
        (arK (45 : Nat) ka na kb nb = arK (45 : Nat) kb nb ka na ∧
          arN (45 : Nat) ka na kb nb = arN (45 : Nat) kb nb ka na)) ==
    false) =
  true,
      ((!decide
        (arK (45 : Nat) ka na kb nb = arK (45 : Nat) kb nb ka na ∧
          arN (45 : Nat) ka na kb nb = arN (45 : Nat) kb nb ka na)) ==
    false) =
  true,
      ((!decide
        (arK (45 : Nat) ka na kb nb = arK (45 : Nat) kb nb ka na ∧
          arN (45 : Nat) ka na kb nb = arN (45 : Nat) kb nb ka na)) ==
    false) =
  true,
      (arE (46 : Nat) ka na kb nb != arE (46 : Nat) kb nb ka na) = false,
      ((arE (46 : Nat) ka na kb nb != arE (46 : Nat) kb nb ka na) == false) = true,
      (ByteArray.mk #[]) = (ByteArray.mk #[]),
      (ByteArray.mk #[]) = (ByteArray.mk #[]),
      ((arE (46 : Nat) ka na kb nb != arE (46 : Nat) kb nb ka na) == false) = true,
      ((arE (46 : Nat) ka na kb nb != arE (46 : Nat) kb nb ka na) == false) = true,
      ((arE (46 : Nat) ka na kb nb != arE (46 : Nat) kb nb ka na) == false) = true,
      (arE (45 : Nat) ka na kb nb != arE (45 : Nat) kb nb ka na) = false,
      ((arE (45 : Nat) ka na kb nb != arE (45 : Nat) kb nb ka na) == false) = true,
      ((arE (45 : Nat) ka na kb nb != arE (45 : Nat) kb nb ka na) == false) = true,
      ((arE (45 : Nat) ka na kb nb != arE (45 : Nat) kb nb ka na) == false) = true,
      R nb,
      R na,
      R na,
      R nb,
      R nb,
      R na,
      R na,
      R nb,
      (!smallB
      [D.int IntKind.i64 kb, D.int IntKind.i64 nb, D.str sb, D.slice xbb ebb none, D.slice xfb efb none,
        D.slice xlb elb none]) =
  false,
      (!smallB
      [D.int IntKind.i64 ka, D.int IntKind.i64 na, D.str sa, D.slice xba eba none, D.slice xfa efa none,
        D.slice xla ela none]) =
  false,
      ((!smallB
        [D.int IntKind.i64 ka, D.int IntKind.i64 na, D.str sa, D.slice xba eba none, D.slice xfa efa none,
          D.slice xla ela none]) ==
    false) =
  true,
      VS
  [D.int IntKind.i64 kb, D.int IntKind.i64 nb, D.str sb, D.slice xbb ebb none, D.slice xfb efb none,
    D.slice xlb elb none],
      ((!smallB
        [D.int IntKind.i64 ka, D.int IntKind.i64 na, D.str sa, D.slice xba eba none, D.slice xfa efa none,
          D.slice xla ela none]) ==
    false) =
  true,
      ((!smallB
        [D.int IntKind.i64 ka, D.int IntKind.i64 na, D.str sa, D.slice xba eba none, D.slice xfa efa none,
          D.slice xla ela none]) ==
    false) =
  true,
      VS
  [D.int IntKind.i64 ka, D.int IntKind.i64 na, D.str sa, D.slice xba eba none, D.slice xfa efa none,
    D.slice xla ela none],
      (!true) = false]) by kernel_rfl) (by simp only [all_cons, all_nil]; simp [*])

theorem l3_21 (ka : Int) (na : Int) (sa : ByteArray) (xba : Bool) (eba : Es) (xfa : Bool) (efa : Es) (xla : Bool) (ela : Es) (kb : Int) (nb : Int) (sb : ByteArray) (xbb : Bool) (ebb : Es) (xfb : Bool) (efb : Es) (xlb : Bool) (elb : Es)
    (h0 : smallB
    [D.int IntKind.i64 ka, D.int IntKind.i64 na, D.str sa, D.slice xba eba none, D.slice xfa efa none,
      D.slice xla ela none] =
  true)
    (h1 : smallB
    [D.int IntKind.i64 kb, D.int IntKind.i64 nb, D.str sb, D.slice xbb ebb none, D.slice xfb efb none,
      D.slice xlb elb none] =
  true)
    (h2 : (arE (45 : Nat) ka na kb nb != arE (45 : Nat) kb nb ka na) = false)
    (h3 : (arE (46 : Nat) ka na kb nb != arE (46 : Nat) kb nb ka na) = false)
    (h4 : decide
    (arK (45 : Nat) ka na kb nb = arK (45 : Nat) kb nb ka na ∧
      arN (45 : Nat) ka na kb nb = arN (45 : Nat) kb nb ka na) =
  true)
    (h5 : decide
    (arK (46 : Nat) ka na kb nb = arK (46 : Nat) kb nb ka na ∧
      arN (46 : Nat) ka na kb nb = arN (46 : Nat) kb nb ka na) =
  true)
    (h6 : noneB ka = false)
    (h7 : noneB kb = false)
    (h8 : numB ka = true)
    (h9 : numB kb = true)
    (h10 : (ka == (4 : Int)) = false)
    (h11 : (arE (45 : Nat) ka na kb nb != (0 : Int)) = false)
    (h12 : (kb == (4 : Int)) = false)
    (h13 : decide (arN (45 : Nat) ka na kb nb < (-2147483648 : Int)) = true)
    (h14 : (arK (45 : Nat) ka na kb nb == (4 : Int)) = true)
    (h15 : (arE (45 : Nat) ka na kb nb == (0 : Int)) = false)
    (h16 : (ByteArray.mk #[]) = (ByteArray.mk #[]))
    (h17 : R nb)
    (h18 : R na)
    (h19 : VS
  [D.int IntKind.i64 kb, D.int IntKind.i64 nb, D.str sb, D.slice xbb ebb none, D.slice xfb efb none,
    D.slice xlb elb none])
    (h20 : VS
  [D.int IntKind.i64 ka, D.int IntKind.i64 na, D.str sa, D.slice xba eba none, D.slice xfa efa none,
    D.slice xla ela none]) :
    ∃ X, Ev c0.P c0.T (.call 3 (two ka na sa xba eba xfa efa xla ela kb nb sb xbb ebb xfb efb xlb elb) [] (D.bool (arE (45 : Nat) ka na kb nb == (10 : Int))) ([] ++ X)) :=
  outC_ok cNOk (show outC 0 (q ka na sa xba eba xfa efa xla ela kb nb sb xbb ebb xfb efb xlb elb (.path [false, true, true, true, false, false, true, true, true, false, true, true, true, true, false, true, true, true, true, false, false, true, true, true, false, false, true, true, true, true, false, false, true, true, true, false, true, true, true, true, true, true, true, true, true, false, true, false, false, false, true, true, true, false, true, true, true, true, true, true, false, true])) = some (D.bool (arE (45 : Nat) ka na kb nb == (10 : Int)), [],
    [((arK (45 : Nat) ka na kb nb == (4 : Int)) == true) = true,
      (arE (45 : Nat) ka na kb nb == (0 : Int)) = false,
      (((arK (45 : Nat) ka na kb nb == (4 : Int)) == true) == true) = true,
      ((arE (45 : Nat) ka na kb nb == (0 : Int)) == false) = true,
      ((arE (45 : Nat) ka na kb nb == (0 : Int)) == false) = true,
      (((arK (45 : Nat) ka na kb nb == (4 : Int)) == true) == true) = true,
      (((arK (45 : Nat) ka na kb nb == (4 : Int)) == true) == true) = true,
      (((arK (45 : Nat) ka na kb nb == (4 : Int)) == true) == true) = true,
      (arE (45 : Nat) ka na kb nb != (0 : Int)) = false,
      ((arE (45 : Nat) ka na kb nb != (0 : Int)) == false) = true,
      decide (arN (45 : Nat) ka na kb nb < (-2147483648 : Int)) = true,
      ((arE (45 : Nat) ka na kb nb != (0 : Int)) == false) = true,
      (decide (arN (45 : Nat) ka na kb nb < (-2147483648 : Int)) == false) = false,
      (decide (arN (45 : Nat) ka na kb nb < (-2147483648 : Int)) == false) = false,
      (decide (arN (45 : Nat) ka na kb nb < (-2147483648 : Int)) == false) = false,
      ((arE (45 : Nat) ka na kb nb != (0 : Int)) == false) = true,
      (kb == (4 : Int)) = false,
      ((arE (45 : Nat) ka na kb nb != (0 : Int)) == false) = true,
      ((kb == (4 : Int)) == false) = true,
      ((kb == (4 : Int)) == false) = true,
      ((kb == (4 : Int)) == false) = true,
      ((arE (45 : Nat) ka na kb nb != (0 : Int)) == false) = true,
      ((arE (45 : Nat) ka na kb nb != (0 : Int)) == false) = true,
      ((arE (45 : Nat) ka na kb nb != (0 : Int)) == false) = true,
      ((arE (45 : Nat) ka na kb nb != (0 : Int)) == false) = true,
      ((arE (45 : Nat) ka na kb nb != (0 : Int)) == false) = true,
      (ka == (4 : Int)) = false,
      ((ka == (4 : Int)) == false) = true,
      ((ka == (4 : Int)) == false) = true,
      ((ka == (4 : Int)) == false) = true,
      (!numB kb) = false,
      (!numB ka) = false,
      ((!numB ka) == false) = true,
      ((!numB ka) == false) = true,
      ((!numB ka) == false) = true,
      ((!numB ka) == false) = true,
      noneB kb = false,
      noneB ka = false,
      (noneB ka == false) = true,
      (noneB ka == false) = true,
      (noneB ka == false) = true,
      (!decide
      (arK (46 : Nat) ka na kb nb = arK (46 : Nat) kb nb ka na ∧
        arN (46 : Nat) ka na kb nb = arN (46 : Nat) kb nb ka na)) =
  false,
      (!decide
      (arK (45 : Nat) ka na kb nb = arK (45 : Nat) kb nb ka na ∧
        arN (45 : Nat) ka na kb nb = arN (45 : Nat) kb nb ka na)) =
  false,
      ((!decide
        (arK (45 : Nat) ka na kb nb = arK (45 : Nat) kb nb ka na ∧
          arN (45 : Nat) ka na kb nb = arN (45 : Nat) kb nb ka na)) ==
    false) =
  true,
      (ByteArray.mk #[]) = (ByteArray.mk #[]),
      (ByteArray.mk #[]) = (ByteArray.mk #[]),
      ((!decide
        (arK (45 : Nat) ka na kb nb = arK (45 : Nat) kb nb ka na ∧
          arN (45 : Nat) ka na kb nb = arN (45 : Nat) kb nb ka na)) ==
    false) =
  true,
      ((!decide
        (arK (45 : Nat) ka na kb nb = arK (45 : Nat) kb nb ka na ∧
          arN (45 : Nat) ka na kb nb = arN (45 : Nat) kb nb ka na)) ==
    false) =
  true,
      ((!decide
        (arK (45 : Nat) ka na kb nb = arK (45 : Nat) kb nb ka na ∧
          arN (45 : Nat) ka na kb nb = arN (45 : Nat) kb nb ka na)) ==
    false) =
  true,
      (arE (46 : Nat) ka na kb nb != arE (46 : Nat) kb nb ka na) = false,
      ((arE (46 : Nat) ka na kb nb != arE (46 : Nat) kb nb ka na) == false) = true,
      (ByteArray.mk #[]) = (ByteArray.mk #[]),
      (ByteArray.mk #[]) = (ByteArray.mk #[]),
      ((arE (46 : Nat) ka na kb nb != arE (46 : Nat) kb nb ka na) == false) = true,
      ((arE (46 : Nat) ka na kb nb != arE (46 : Nat) kb nb ka na) == false) = true,
      ((arE (46 : Nat) ka na kb nb != arE (46 : Nat) kb nb ka na) == false) = true,
      (arE (45 : Nat) ka na kb nb != arE (45 : Nat) kb nb ka na) = false,
      ((arE (45 : Nat) ka na kb nb != arE (45 : Nat) kb nb ka na) == false) = true,
      ((arE (45 : Nat) ka na kb nb != arE (45 : Nat) kb nb ka na) == false) = true,
      ((arE (45 : Nat) ka na kb nb != arE (45 : Nat) kb nb ka na) == false) = true,
      R nb,
      R na,
      R na,
      R nb,
      R nb,
      R na,
      R na,
      R nb,
      (!smallB
      [D.int IntKind.i64 kb, D.int IntKind.i64 nb, D.str sb, D.slice xbb ebb none, D.slice xfb efb none,
        D.slice xlb elb none]) =
  false,
      (!smallB
      [D.int IntKind.i64 ka, D.int IntKind.i64 na, D.str sa, D.slice xba eba none, D.slice xfa efa none,
        D.slice xla ela none]) =
  false,
      ((!smallB
        [D.int IntKind.i64 ka, D.int IntKind.i64 na, D.str sa, D.slice xba eba none, D.slice xfa efa none,
          D.slice xla ela none]) ==
    false) =
  true,
      VS
  [D.int IntKind.i64 kb, D.int IntKind.i64 nb, D.str sb, D.slice xbb ebb none, D.slice xfb efb none,
    D.slice xlb elb none],
      ((!smallB
        [D.int IntKind.i64 ka, D.int IntKind.i64 na, D.str sa, D.slice xba eba none, D.slice xfa efa none,
          D.slice xla ela none]) ==
    false) =
  true,
      ((!smallB
        [D.int IntKind.i64 ka, D.int IntKind.i64 na, D.str sa, D.slice xba eba none, D.slice xfa efa none,
          D.slice xla ela none]) ==
    false) =
  true,
      VS
  [D.int IntKind.i64 ka, D.int IntKind.i64 na, D.str sa, D.slice xba eba none, D.slice xfa efa none,
    D.slice xla ela none],
      (!true) = false]) by kernel_rfl) (by simp only [all_cons, all_nil]; simp [*])

theorem l3_22 (ka : Int) (na : Int) (sa : ByteArray) (xba : Bool) (eba : Es) (xfa : Bool) (efa : Es) (xla : Bool) (ela : Es) (kb : Int) (nb : Int) (sb : ByteArray) (xbb : Bool) (ebb : Es) (xfb : Bool) (efb : Es) (xlb : Bool) (elb : Es)
    (h0 : smallB
    [D.int IntKind.i64 ka, D.int IntKind.i64 na, D.str sa, D.slice xba eba none, D.slice xfa efa none,
      D.slice xla ela none] =
  true)
    (h1 : smallB
    [D.int IntKind.i64 kb, D.int IntKind.i64 nb, D.str sb, D.slice xbb ebb none, D.slice xfb efb none,
      D.slice xlb elb none] =
  true)
    (h2 : (arE (45 : Nat) ka na kb nb != arE (45 : Nat) kb nb ka na) = false)
    (h3 : (arE (46 : Nat) ka na kb nb != arE (46 : Nat) kb nb ka na) = false)
    (h4 : decide
    (arK (45 : Nat) ka na kb nb = arK (45 : Nat) kb nb ka na ∧
      arN (45 : Nat) ka na kb nb = arN (45 : Nat) kb nb ka na) =
  true)
    (h5 : decide
    (arK (46 : Nat) ka na kb nb = arK (46 : Nat) kb nb ka na ∧
      arN (46 : Nat) ka na kb nb = arN (46 : Nat) kb nb ka na) =
  true)
    (h6 : noneB ka = false)
    (h7 : noneB kb = false)
    (h8 : numB ka = true)
    (h9 : numB kb = true)
    (h10 : (ka == (4 : Int)) = false)
    (h11 : (arE (45 : Nat) ka na kb nb != (0 : Int)) = false)
    (h12 : (kb == (4 : Int)) = false)
    (h13 : decide (arN (45 : Nat) ka na kb nb < (-2147483648 : Int)) = true)
    (h14 : (arK (45 : Nat) ka na kb nb == (4 : Int)) = false)
    (h15 : (ByteArray.mk #[]) = (ByteArray.mk #[]))
    (h16 : R nb)
    (h17 : R na)
    (h18 : VS
  [D.int IntKind.i64 kb, D.int IntKind.i64 nb, D.str sb, D.slice xbb ebb none, D.slice xfb efb none,
    D.slice xlb elb none])
    (h19 : VS
  [D.int IntKind.i64 ka, D.int IntKind.i64 na, D.str sa, D.slice xba eba none, D.slice xfa efa none,
    D.slice xla ela none]) :
    ∃ X, Ev c0.P c0.T (.call 3 (two ka na sa xba eba xfa efa xla ela kb nb sb xbb ebb xfb efb xlb elb) [] (D.bool false) ([] ++ X)) :=
  outC_ok cNOk (show outC 0 (q ka na sa xba eba xfa efa xla ela kb nb sb xbb ebb xfb efb xlb elb (.path [false, true, true, true, false, false, true, true, true, false, true, true, true, true, false, true, true, true, true, false, false, true, true, true, false, false, true, true, true, true, false, false, true, true, true, false, true, true, true, true, true, true, true, true, true, false, true, false, false, false, true, true, true, false, false, false, false, false, false])) = some (D.bool false, [],
    [((arK (45 : Nat) ka na kb nb == (4 : Int)) == true) = false,
      (((arK (45 : Nat) ka na kb nb == (4 : Int)) == true) == true) = false,
      (((arK (45 : Nat) ka na kb nb == (4 : Int)) == true) == true) = false,
      (((arK (45 : Nat) ka na kb nb == (4 : Int)) == true) == true) = false,
      (((arK (45 : Nat) ka na kb nb == (4 : Int)) == true) == true) = false,
      (arE (45 : Nat) ka na kb nb != (0 : Int)) = false,
      ((arE (45 : Nat) ka na kb nb != (0 : Int)) == false) = true,
      decide (arN (45 : Nat) ka na kb nb < (-2147483648 : Int)) = true,
      ((arE (45 : Nat) ka na kb nb != (0 : Int)) == false) = true,
      (decide (arN (45 : Nat) ka na kb nb < (-2147483648 : Int)) == false) = false,
      (decide (arN (45 : Nat) ka na kb nb < (-2147483648 : Int)) == false) = false,
      (decide (arN (45 : Nat) ka na kb nb < (-2147483648 : Int)) == false) = false,
      ((arE (45 : Nat) ka na kb nb != (0 : Int)) == false) = true,
      (kb == (4 : Int)) = false,
      ((arE (45 : Nat) ka na kb nb != (0 : Int)) == false) = true,
      ((kb == (4 : Int)) == false) = true,
      ((kb == (4 : Int)) == false) = true,
      ((kb == (4 : Int)) == false) = true,
      ((arE (45 : Nat) ka na kb nb != (0 : Int)) == false) = true,
      ((arE (45 : Nat) ka na kb nb != (0 : Int)) == false) = true,
      ((arE (45 : Nat) ka na kb nb != (0 : Int)) == false) = true,
      ((arE (45 : Nat) ka na kb nb != (0 : Int)) == false) = true,
      ((arE (45 : Nat) ka na kb nb != (0 : Int)) == false) = true,
      (ka == (4 : Int)) = false,
      ((ka == (4 : Int)) == false) = true,
      ((ka == (4 : Int)) == false) = true,
      ((ka == (4 : Int)) == false) = true,
      (!numB kb) = false,
      (!numB ka) = false,
      ((!numB ka) == false) = true,
      ((!numB ka) == false) = true,
      ((!numB ka) == false) = true,
      ((!numB ka) == false) = true,
      noneB kb = false,
      noneB ka = false,
      (noneB ka == false) = true,
      (noneB ka == false) = true,
      (noneB ka == false) = true,
      (!decide
      (arK (46 : Nat) ka na kb nb = arK (46 : Nat) kb nb ka na ∧
        arN (46 : Nat) ka na kb nb = arN (46 : Nat) kb nb ka na)) =
  false,
      (!decide
      (arK (45 : Nat) ka na kb nb = arK (45 : Nat) kb nb ka na ∧
        arN (45 : Nat) ka na kb nb = arN (45 : Nat) kb nb ka na)) =
  false,
      ((!decide
        (arK (45 : Nat) ka na kb nb = arK (45 : Nat) kb nb ka na ∧
          arN (45 : Nat) ka na kb nb = arN (45 : Nat) kb nb ka na)) ==
    false) =
  true,
      (ByteArray.mk #[]) = (ByteArray.mk #[]),
      (ByteArray.mk #[]) = (ByteArray.mk #[]),
      ((!decide
        (arK (45 : Nat) ka na kb nb = arK (45 : Nat) kb nb ka na ∧
          arN (45 : Nat) ka na kb nb = arN (45 : Nat) kb nb ka na)) ==
    false) =
  true,
      ((!decide
        (arK (45 : Nat) ka na kb nb = arK (45 : Nat) kb nb ka na ∧
          arN (45 : Nat) ka na kb nb = arN (45 : Nat) kb nb ka na)) ==
    false) =
  true,
      ((!decide
        (arK (45 : Nat) ka na kb nb = arK (45 : Nat) kb nb ka na ∧
          arN (45 : Nat) ka na kb nb = arN (45 : Nat) kb nb ka na)) ==
    false) =
  true,
      (arE (46 : Nat) ka na kb nb != arE (46 : Nat) kb nb ka na) = false,
      ((arE (46 : Nat) ka na kb nb != arE (46 : Nat) kb nb ka na) == false) = true,
      (ByteArray.mk #[]) = (ByteArray.mk #[]),
      (ByteArray.mk #[]) = (ByteArray.mk #[]),
      ((arE (46 : Nat) ka na kb nb != arE (46 : Nat) kb nb ka na) == false) = true,
      ((arE (46 : Nat) ka na kb nb != arE (46 : Nat) kb nb ka na) == false) = true,
      ((arE (46 : Nat) ka na kb nb != arE (46 : Nat) kb nb ka na) == false) = true,
      (arE (45 : Nat) ka na kb nb != arE (45 : Nat) kb nb ka na) = false,
      ((arE (45 : Nat) ka na kb nb != arE (45 : Nat) kb nb ka na) == false) = true,
      ((arE (45 : Nat) ka na kb nb != arE (45 : Nat) kb nb ka na) == false) = true,
      ((arE (45 : Nat) ka na kb nb != arE (45 : Nat) kb nb ka na) == false) = true,
      R nb,
      R na,
      R na,
      R nb,
      R nb,
      R na,
      R na,
      R nb,
      (!smallB
      [D.int IntKind.i64 kb, D.int IntKind.i64 nb, D.str sb, D.slice xbb ebb none, D.slice xfb efb none,
        D.slice xlb elb none]) =
  false,
      (!smallB
      [D.int IntKind.i64 ka, D.int IntKind.i64 na, D.str sa, D.slice xba eba none, D.slice xfa efa none,
        D.slice xla ela none]) =
  false,
      ((!smallB
        [D.int IntKind.i64 ka, D.int IntKind.i64 na, D.str sa, D.slice xba eba none, D.slice xfa efa none,
          D.slice xla ela none]) ==
    false) =
  true,
      VS
  [D.int IntKind.i64 kb, D.int IntKind.i64 nb, D.str sb, D.slice xbb ebb none, D.slice xfb efb none,
    D.slice xlb elb none],
      ((!smallB
        [D.int IntKind.i64 ka, D.int IntKind.i64 na, D.str sa, D.slice xba eba none, D.slice xfa efa none,
          D.slice xla ela none]) ==
    false) =
  true,
      ((!smallB
        [D.int IntKind.i64 ka, D.int IntKind.i64 na, D.str sa, D.slice xba eba none, D.slice xfa efa none,
          D.slice xla ela none]) ==
    false) =
  true,
      VS
  [D.int IntKind.i64 ka, D.int IntKind.i64 na, D.str sa, D.slice xba eba none, D.slice xfa efa none,
    D.slice xla ela none],
      (!true) = false]) by kernel_rfl) (by simp only [all_cons, all_nil]; simp [*])

theorem l3_23 (ka : Int) (na : Int) (sa : ByteArray) (xba : Bool) (eba : Es) (xfa : Bool) (efa : Es) (xla : Bool) (ela : Es) (kb : Int) (nb : Int) (sb : ByteArray) (xbb : Bool) (ebb : Es) (xfb : Bool) (efb : Es) (xlb : Bool) (elb : Es)
    (h0 : smallB
    [D.int IntKind.i64 ka, D.int IntKind.i64 na, D.str sa, D.slice xba eba none, D.slice xfa efa none,
      D.slice xla ela none] =
  true)
    (h1 : smallB
    [D.int IntKind.i64 kb, D.int IntKind.i64 nb, D.str sb, D.slice xbb ebb none, D.slice xfb efb none,
      D.slice xlb elb none] =
  true)
    (h2 : (arE (45 : Nat) ka na kb nb != arE (45 : Nat) kb nb ka na) = false)
    (h3 : (arE (46 : Nat) ka na kb nb != arE (46 : Nat) kb nb ka na) = false)
    (h4 : decide
    (arK (45 : Nat) ka na kb nb = arK (45 : Nat) kb nb ka na ∧
      arN (45 : Nat) ka na kb nb = arN (45 : Nat) kb nb ka na) =
  true)
    (h5 : decide
    (arK (46 : Nat) ka na kb nb = arK (46 : Nat) kb nb ka na ∧
      arN (46 : Nat) ka na kb nb = arN (46 : Nat) kb nb ka na) =
  true)
    (h6 : noneB ka = false)
    (h7 : noneB kb = false)
    (h8 : numB ka = true)
    (h9 : numB kb = true)
    (h10 : (ka == (4 : Int)) = false)
    (h11 : (arE (45 : Nat) ka na kb nb != (0 : Int)) = false)
    (h12 : (kb == (4 : Int)) = false)
    (h13 : decide (arN (45 : Nat) ka na kb nb < (-2147483648 : Int)) = false)
    (h14 : ((arK (45 : Nat) ka na kb nb == (4 : Int)) == decide (arN (45 : Nat) ka na kb nb ≥ (2147483648 : Int))) = true)
    (h15 : (arE (45 : Nat) ka na kb nb == (0 : Int)) = true)
    (h16 : (ByteArray.mk #[]) = (ByteArray.mk #[]))
    (h17 : R nb)
    (h18 : R na)
    (h19 : VS
  [D.int IntKind.i64 kb, D.int IntKind.i64 nb, D.str sb, D.slice xbb ebb none, D.slice xfb efb none,
    D.slice xlb elb none])
    (h20 : VS
  [D.int IntKind.i64 ka, D.int IntKind.i64 na, D.str sa, D.slice xba eba none, D.slice xfa efa none,
    D.slice xla ela none]) :
    ∃ X, Ev c0.P c0.T (.call 3 (two ka na sa xba eba xfa efa xla ela kb nb sb xbb ebb xfb efb xlb elb) [] (D.bool true) ([] ++ X)) :=
  outC_ok cNOk (show outC 0 (q ka na sa xba eba xfa efa xla ela kb nb sb xbb ebb xfb efb xlb elb (.path [false, true, true, true, false, false, true, true, true, false, true, true, true, true, false, true, true, true, true, false, false, true, true, true, false, false, true, true, true, true, false, false, true, true, true, false, true, true, true, true, true, true, true, true, true, false, true, true, true, true, true, false, true, false, true, true, true, false, false, true, true, true])) = some (D.bool true, [],
    [((arK (45 : Nat) ka na kb nb == (4 : Int)) == decide (arN (45 : Nat) ka na kb nb ≥ (2147483648 : Int))) = true,
      (arE (45 : Nat) ka na kb nb == (0 : Int)) = true,
      (((arK (45 : Nat) ka na kb nb == (4 : Int)) == decide (arN (45 : Nat) ka na kb nb ≥ (2147483648 : Int))) == true) = true,
      ((arE (45 : Nat) ka na kb nb == (0 : Int)) == false) = false,
      ((arE (45 : Nat) ka na kb nb == (0 : Int)) == false) = false,
      (((arK (45 : Nat) ka na kb nb == (4 : Int)) == decide (arN (45 : Nat) ka na kb nb ≥ (2147483648 : Int))) == true) = true,
      (((arK (45 : Nat) ka na kb nb == (4 : Int)) == decide (arN (45 : Nat) ka na kb nb ≥ (2147483648 : Int))) == true) = true,
      (((arK (45 : Nat) ka na kb nb == (4 : Int)) == decide (arN (45 : Nat) ka na kb nb ≥ (2147483648 : Int))) == true) = true,
      (arE (45 : Nat) ka na kb nb != (0 : Int)) = false,
      ((arE (45 : Nat) ka na kb nb != (0 : Int)) == false) = true,
      decide (arN (45 : Nat) ka na kb nb < (-2147483648 : Int)) = false,
      ((arE (45 : Nat) ka na kb nb != (0 : Int)) == false) = true,
      (decide (arN (45 : Nat) ka na kb nb < (-2147483648 : Int)) == false) = true,
      (decide (arN (45 : Nat) ka na kb nb < (-2147483648 : Int)) == false) = true,
      (decide (arN (45 : Nat) ka na kb nb < (-2147483648 : Int)) == false) = true,
      ((arE (45 : Nat) ka na kb nb != (0 : Int)) == false) = true,
      (kb == (4 : Int)) = false,
      ((arE (45 : Nat) ka na kb nb != (0 : Int)) == false) = true,
      ((kb == (4 : Int)) == false) = true,
      ((kb == (4 : Int)) == false) = true,
      ((kb == (4 : Int)) == false) = true,
      ((arE (45 : Nat) ka na kb nb != (0 : Int)) == false) = true,
      ((arE (45 : Nat) ka na kb nb != (0 : Int)) == false) = true,
      ((arE (45 : Nat) ka na kb nb != (0 : Int)) == false) = true,
      ((arE (45 : Nat) ka na kb nb != (0 : Int)) == false) = true,
      ((arE (45 : Nat) ka na kb nb != (0 : Int)) == false) = true,
      (ka == (4 : Int)) = false,
      ((ka == (4 : Int)) == false) = true,
      ((ka == (4 : Int)) == false) = true,
      ((ka == (4 : Int)) == false) = true,
      (!numB kb) = false,
      (!numB ka) = false,
      ((!numB ka) == false) = true,
      ((!numB ka) == false) = true,
      ((!numB ka) == false) = true,
      ((!numB ka) == false) = true,
      noneB kb = false,
      noneB ka = false,
      (noneB ka == false) = true,
      (noneB ka == false) = true,
      (noneB ka == false) = true,
      (!decide
      (arK (46 : Nat) ka na kb nb = arK (46 : Nat) kb nb ka na ∧
        arN (46 : Nat) ka na kb nb = arN (46 : Nat) kb nb ka na)) =
  false,
      (!decide
      (arK (45 : Nat) ka na kb nb = arK (45 : Nat) kb nb ka na ∧
        arN (45 : Nat) ka na kb nb = arN (45 : Nat) kb nb ka na)) =
  false,
      ((!decide
        (arK (45 : Nat) ka na kb nb = arK (45 : Nat) kb nb ka na ∧
          arN (45 : Nat) ka na kb nb = arN (45 : Nat) kb nb ka na)) ==
    false) =
  true,
      (ByteArray.mk #[]) = (ByteArray.mk #[]),
      (ByteArray.mk #[]) = (ByteArray.mk #[]),
      ((!decide
        (arK (45 : Nat) ka na kb nb = arK (45 : Nat) kb nb ka na ∧
          arN (45 : Nat) ka na kb nb = arN (45 : Nat) kb nb ka na)) ==
    false) =
  true,
      ((!decide
        (arK (45 : Nat) ka na kb nb = arK (45 : Nat) kb nb ka na ∧
          arN (45 : Nat) ka na kb nb = arN (45 : Nat) kb nb ka na)) ==
    false) =
  true,
      ((!decide
        (arK (45 : Nat) ka na kb nb = arK (45 : Nat) kb nb ka na ∧
          arN (45 : Nat) ka na kb nb = arN (45 : Nat) kb nb ka na)) ==
    false) =
  true,
      (arE (46 : Nat) ka na kb nb != arE (46 : Nat) kb nb ka na) = false,
      ((arE (46 : Nat) ka na kb nb != arE (46 : Nat) kb nb ka na) == false) = true,
      (ByteArray.mk #[]) = (ByteArray.mk #[]),
      (ByteArray.mk #[]) = (ByteArray.mk #[]),
      ((arE (46 : Nat) ka na kb nb != arE (46 : Nat) kb nb ka na) == false) = true,
      ((arE (46 : Nat) ka na kb nb != arE (46 : Nat) kb nb ka na) == false) = true,
      ((arE (46 : Nat) ka na kb nb != arE (46 : Nat) kb nb ka na) == false) = true,
      (arE (45 : Nat) ka na kb nb != arE (45 : Nat) kb nb ka na) = false,
      ((arE (45 : Nat) ka na kb nb != arE (45 : Nat) kb nb ka na) == false) = true,
      ((arE (45 : Nat) ka na kb nb != arE (45 : Nat) kb nb ka na) == false) = true,
      ((arE (45 : Nat) ka na kb nb != arE (45 : Nat) kb nb ka na) == false) = true,
      R nb,
      R na,
      R na,
      R nb,
      R nb,
      R na,
      R na,
      R nb,
      (!smallB
      [D.int IntKind.i64 kb, D.int IntKind.i64 nb, D.str sb, D.slice xbb ebb none, D.slice xfb efb none,
        D.slice xlb elb none]) =
  false,
      (!smallB
      [D.int IntKind.i64 ka, D.int IntKind.i64 na, D.str sa, D.slice xba eba none, D.slice xfa efa none,
        D.slice xla ela none]) =
  false,
      ((!smallB
        [D.int IntKind.i64 ka, D.int IntKind.i64 na, D.str sa, D.slice xba eba none, D.slice xfa efa none,
          D.slice xla ela none]) ==
    false) =
  true,
      VS
  [D.int IntKind.i64 kb, D.int IntKind.i64 nb, D.str sb, D.slice xbb ebb none, D.slice xfb efb none,
    D.slice xlb elb none],
      ((!smallB
        [D.int IntKind.i64 ka, D.int IntKind.i64 na, D.str sa, D.slice xba eba none, D.slice xfa efa none,
          D.slice xla ela none]) ==
    false) =
  true,
      ((!smallB
        [D.int IntKind.i64 ka, D.int IntKind.i64 na, D.str sa, D.slice xba eba none, D.slice xfa efa none,
          D.slice xla ela none]) ==
    false) =
  true,
      VS
  [D.int IntKind.i64 ka, D.int IntKind.i64 na, D.str sa, D.slice xba eba none, D.slice xfa efa none,
    D.slice xla ela none],
      (!true) = false]) by kernel_rfl) (by simp only [all_cons, all_nil]; simp [*])

theorem l3_24 (ka : Int) (na : Int) (sa : ByteArray) (xba : Bool) (eba : Es) (xfa : Bool) (efa : Es) (xla : Bool) (ela : Es) (kb : Int) (nb : Int) (sb : ByteArray) (xbb : Bool) (ebb : Es) (xfb : Bool) (efb : Es) (xlb : Bool) (elb : Es)
    (h0 : smallB
    [D.int IntKind.i64 ka, D.int IntKind.i64 na, D.str sa, D.slice xba eba none, D.slice xfa efa none,
      D.slice xla ela none] =
  true)
    (h1 : smallB
    [D.int IntKind.i64 kb, D.int IntKind.i64 nb, D.str sb, D.slice xbb ebb none, D.slice xfb efb none,
      D.slice xlb elb none] =
  true)
    (h2 : (arE (45 : Nat) ka na kb nb != arE (45 : Nat) kb nb ka na) = false)
    (h3 : (arE (46 : Nat) ka na kb nb != arE (46 : Nat) kb nb ka na) = false)
    (h4 : decide
    (arK (45 : Nat) ka na kb nb = arK (45 : Nat) kb nb ka na ∧
      arN (45 : Nat) ka na kb nb = arN (45 : Nat) kb nb ka na) =
  true)
    (h5 : decide
    (arK (46 : Nat) ka na kb nb = arK (46 : Nat) kb nb ka na ∧
      arN (46 : Nat) ka na kb nb = arN (46 : Nat) kb nb ka na) =
  true)
    (h6 : noneB ka = false)
    (h7 : noneB kb = false)
    (h8 : numB ka = true)
    (h9 : numB kb = true)
    (h10 : (ka == (4 : Int)) = false)
    (h11 : (arE (45 : Nat) ka na kb nb != (0 : Int)) = false)
    (h12 : (kb == (4 : Int)) = false)
    (h13 : decide (arN (45 : Nat) ka na kb nb < (-2147483648 : Int)) = false)
    (h14 : ((arK (45 : Nat) ka na kb nb == (4 : Int)) == decide (arN (45 : Nat) ka na kb nb ≥ (2147483648 : Int))) = true)
    (h15 : (arE (45 : Nat) ka na kb nb == (0 : Int)) = false)
    (h16 : (ByteArray.mk #[]) = (ByteArray.mk #[]))
    (h17 : R nb)
    (h18 : R na)
    (h19 : VS
  [D.int IntKind.i64 kb, D.int IntKind.i64 nb, D.str sb, D.slice xbb ebb none, D.slice xfb efb none,
    D.slice xlb elb none])
    (h20 : VS
  [D.int IntKind.i64 ka, D.int IntKind.i64 na, D.str sa, D.slice xba eba none, D.slice xfa efa none,
    D.slice xla ela none]) :
    ∃ X, Ev c0.P c0.T (.call 3 (two ka na sa xba eba xfa efa xla ela kb nb sb xbb ebb xfb efb xlb elb) [] (D.bool (arE (45 : Nat) ka na kb nb == (10 : Int))) ([] ++ X)) :=
  outC_ok cNOk (show outC 0 (q ka na sa xba eba xfa efa xla ela kb nb sb xbb ebb xfb efb xlb elb (.path [false, true, true, true, false, false, true, true, true, false, true, true, true, true, false, true, true, true, true, false, false, true, true, true, false, false, true, true, true, true, false, false, true, true, true, false, true, true, true, true, true, true, true, true, true, false, true, true, true, true, true, false, true, false, true, true, true, true, true, true, false, true])) = some (D.bool (arE (45 : Nat) ka na kb nb == (10 : Int)), [],
    [((arK (45 : Nat) ka na kb nb == (4 : Int)) == decide (arN (45 : Nat) ka na kb nb ≥ (2147483648 : Int))) = true,
      (arE (45 : Nat) ka na kb nb == (0 : Int)) = false,
      (((arK (45 : Nat) ka na kb nb == (4 : Int)) == decide (arN (45 : Nat) ka na kb nb ≥ (2147483648 : Int))) == true) = true,
      ((arE (45 : Nat) ka na kb nb == (0 : Int)) == false) = true,
      ((arE (45 : Nat) ka na kb nb == (0 : Int)) == false) = true,
      (((arK (45 : Nat) ka na kb nb == (4 : Int)) == decide (arN (45 : Nat) ka na kb nb ≥ (2147483648 : Int))) == true) = true,
      (((arK (45 : Nat) ka na kb nb == (4 : Int)) == decide (arN (45 : Nat) ka na kb nb ≥ (2147483648 : Int))) == true) = true,
      (((arK (45 : Nat) ka na kb nb == (4 : Int)) == decide (arN (45 : Nat) ka na kb nb ≥ (2147483648 : Int))) == true) = true,
      (arE (45 : Nat) ka na kb nb != (0 : Int)) = false,
      ((arE (45 : Nat) ka na kb nb != (0 : Int)) == false) = true,
      decide (arN (45 : Nat) ka na kb nb < (-2147483648 : Int)) = false,
      ((arE (45 : Nat) ka na kb nb != (0 : Int)) == false) = true,
      (decide (arN (45 : Nat) ka na kb nb < (-2147483648 : Int)) == false) = true,
      (decide (arN (45 : Nat) ka na kb nb < (-2147483648 : Int)) == false) = true,
      (decide (arN (45 : Nat) ka na kb nb < (-2147483648 : Int)) == false) = true,
      ((arE (45 : Nat) ka na kb nb != (0 : Int)) == false) = true,
      (kb == (4 : Int)) = false,
      ((arE (45 : Nat) ka na kb nb != (0 : Int)) == false) = true,
      ((kb == (4 : Int)) == false) = true,
      ((kb == (4 : Int)) == false) = true,
      ((kb == (4 : Int)) == false) = true,
      ((arE (45 : Nat) ka na kb nb != (0 : Int)) == false) = true,
      ((arE (45 : Nat) ka na kb nb != (0 : Int)) == false) = true,
      ((arE (45 : Nat) ka na kb nb != (0 : Int)) == false) = true,
      ((arE (45 : Nat) ka na kb nb != (0 : Int)) == false) = true,
      ((arE (45 : Nat) ka na kb nb != (0 : Int)) == false) = true,
      (ka == (4 : Int)) = false,
      ((ka == (4 : Int)) == false) = true,
      ((ka == (4 : Int)) == false) = true,
      ((ka == (4 : Int)) == false) = true,
      (!numB kb) = false,
      (!numB ka) = false,
      ((!numB ka) == false) = true,
      ((!numB ka) == false) = true,
      ((!numB ka) == false) = true,
      ((!numB ka) == false) = true,
      noneB kb = false,
      noneB ka = false,
      (noneB ka == false) = true,
      (noneB ka == false) = true,
      (noneB ka == false) = true,
      (!decide
      (arK (46 : Nat) ka na kb nb = arK (46 : Nat) kb nb ka na ∧
        arN (46 : Nat) ka na kb nb = arN (46 : Nat) kb nb ka na)) =
  false,
      (!decide
      (arK (45 : Nat) ka na kb nb = arK (45 : Nat) kb nb ka na ∧
        arN (45 : Nat) ka na kb nb = arN (45 : Nat) kb nb ka na)) =
  false,
      ((!decide
        (arK (45 : Nat) ka na kb nb = arK (45 : Nat) kb nb ka na ∧
          arN (45 : Nat) ka na kb nb = arN (45 : Nat) kb nb ka na)) ==
    false) =
  true,
      (ByteArray.mk #[]) = (ByteArray.mk #[]),
      (ByteArray.mk #[]) = (ByteArray.mk #[]),
      ((!decide
        (arK (45 : Nat) ka na kb nb = arK (45 : Nat) kb nb ka na ∧
          arN (45 : Nat) ka na kb nb = arN (45 : Nat) kb nb ka na)) ==
    false) =
  true,
      ((!decide
        (arK (45 : Nat) ka na kb nb = arK (45 : Nat) kb nb ka na ∧
          arN (45 : Nat) ka na kb nb = arN (45 : Nat) kb nb ka na)) ==
    false) =
  true,
      ((!decide
        (arK (45 : Nat) ka na kb nb = arK (45 : Nat) kb nb ka na ∧
          arN (45 : Nat) ka na kb nb = arN (45 : Nat) kb nb ka na)) ==
    false) =
  true,
      (arE (46 : Nat) ka na kb nb != arE (46 : Nat) kb nb ka na) = false,
      ((arE (46 : Nat) ka na kb nb != arE (46 : Nat) kb nb ka na) == false) = true,
      (ByteArray.mk #[]) = (ByteArray.mk #[]),
      (ByteArray.mk #[]) = (ByteArray.mk #[]),
      ((arE (46 : Nat) ka na kb nb != arE (46 : Nat) kb nb ka na) == false) = true,
      ((arE (46 : Nat) ka na kb nb != arE (46 : Nat) kb nb ka na) == false) = true,
      ((arE (46 : Nat) ka na kb nb != arE (46 : Nat) kb nb ka na) == false) = true,
      (arE (45 : Nat) ka na kb nb != arE (45 : Nat) kb nb ka na) = false,
      ((arE (45 : Nat) ka na kb nb != arE (45 : Nat) kb nb ka na) == false) = true,
      ((arE (45 : Nat) ka na kb nb != arE (45 : Nat) kb nb ka na) == false) = true,
      ((arE (45 : Nat) ka na kb nb != arE (45 : Nat) kb nb ka na) == false) = true,
      R nb,
      R na,
      R na,
      R nb,
      R nb,
      R na,
      R na,
      R nb,
      (!smallB
      [D.int IntKind.i64 kb, D.int IntKind.i64 nb, D.str sb, D.slice xbb ebb none, D.slice xfb efb none,
        D.slice xlb elb none]) =
  false,
      (!smallB
      [D.int IntKind.i64 ka, D.int IntKind.i64 na, D.str sa, D.slice xba eba none, D.slice xfa efa none,
        D.slice xla ela none]) =
  false,
      ((!smallB
        [D.int IntKind.i64 ka, D.int IntKind.i64 na, D.str sa, D.slice xba eba none, D.slice xfa efa none,
          D.slice xla ela none]) ==
    false) =
  true,
      VS
  [D.int IntKind.i64 kb, D.int IntKind.i64 nb, D.str sb, D.slice xbb ebb none, D.slice xfb efb none,
    D.slice xlb elb none],
      ((!smallB
        [D.int IntKind.i64 ka, D.int IntKind.i64 na, D.str sa, D.slice xba eba none, D.slice xfa efa none,
          D.slice xla ela none]) ==
    false) =
  true,
      ((!smallB
        [D.int IntKind.i64 ka, D.int IntKind.i64 na, D.str sa, D.slice xba eba none, D.slice xfa efa none,
          D.slice xla ela none]) ==
    false) =
  true,
      VS
  [D.int IntKind.i64 ka, D.int IntKind.i64 na, D.str sa, D.slice xba eba none, D.slice xfa efa none,
    D.slice xla ela none],
      (!true) = false]) by kernel_rfl) (by simp only [all_cons, all_nil]; simp [*])

theorem l3_25 (ka : Int) (na : Int) (sa : ByteArray) (xba : Bool) (eba : Es) (xfa : Bool) (efa : Es) (xla : Bool) (ela : Es) (kb : Int) (nb : Int) (sb : ByteArray) (xbb : Bool) (ebb : Es) (xfb : Bool) (efb : Es) (xlb : Bool) (elb : Es)
    (h0 : smallB
    [D.int IntKind.i64 ka, D.int IntKind.i64 na, D.str sa, D.slice xba eba none, D.slice xfa efa none,
      D.slice xla ela none] =
  true)
    (h1 : smallB
    [D.int IntKind.i64 kb, D.int IntKind.i64 nb, D.str sb, D.slice xbb ebb none, D.slice xfb efb none,
      D.slice xlb elb none] =
  true)
    (h2 : (arE (45 : Nat) ka na kb nb != arE (45 : Nat) kb nb ka na) = false)
    (h3 : (arE (46 : Nat) ka na kb nb != arE (46 : Nat) kb nb ka na) = false)
    (h4 : decide
    (arK (45 : Nat) ka na kb nb = arK (45 : Nat) kb nb ka na ∧
      arN (45 : Nat) ka na kb nb = arN (45 : Nat) kb nb ka na) =
  true)
    (h5 : decide
    (arK (46 : Nat) ka na kb nb = arK (46 : Nat) kb nb ka na ∧
      arN (46 : Nat) ka na kb nb = arN (46 : Nat) kb nb ka na) =
  true)
    (h6 : noneB ka = false)
    (h7 : noneB kb = false)
    (h8 : numB ka = true)
    (h9 : numB kb = true)
    (h10 : (ka == (4 : Int)) = false)
    (h11 : (arE (45 : Nat) ka na kb nb != (0 : Int)) = false)
    (h12 : (kb == (4 : Int)) = false)
    (h13 : decide (arN (45 : Nat) ka na kb nb < (-2147483648 : Int)) = false)
    (h14 : ((arK (45 : Nat) ka na kb nb == (4 : Int)) == decide (arN (45 : Nat) ka na kb nb ≥ (2147483648 : Int))) = false)
    (h15 : (ByteArray.mk #[]) = (ByteArray.mk #[]))
    (h16 : R nb)
    (h17 : R na)
    (h18 : VS
  [D.int IntKind.i64 kb, D.int IntKind.i64 nb, D.str sb, D.slice xbb ebb none, D.slice xfb efb none,
    D.slice xlb elb none])
    (h19 : VS
  [D.int IntKind.i64 ka, D.int IntKind.i64 na, D.str sa, D.slice xba eba none, D.slice xfa efa none,
    D.slice xla ela none]) :
    ∃ X, Ev c0.P c0.T (.call 3 (two ka na sa xba eba xfa efa xla ela kb nb sb xbb ebb xfb efb xlb elb) [] (D.bool false) ([] ++ X)) :=
  outC_ok cNOk (show outC 0 (q ka na sa xba eba xfa efa xla ela kb nb sb xbb ebb xfb efb xlb elb (.path [false, true, true, true, false, false, true, true, true, false, true, true, true, true, false, true, true, true, true, false, false, true, true, true, false, false, true, true, true, true, false, false, true, true, true, false, true, true, true, true, true, true, true, true, true, false, true, true, true, true, true, false, true, false, false, false, false, false, false])) = some (D.bool false, [],
    [((arK (45 : Nat) ka na kb nb == (4 : Int)) == decide (arN (45 : Nat) ka na kb nb ≥ (2147483648 : Int))) = false,
      (((arK (45 : Nat) ka na kb nb == (4 : Int)) == decide (arN (45 : Nat) ka na kb nb ≥ (2147483648 : Int))) == true) =
  false,
      (((arK (45 : Nat) ka na kb nb == (4 : Int)) == decide (arN (45 : Nat) ka na kb nb ≥ (2147483648 : Int))) == true) =
  false,
      (((arK (45 : Nat) ka na kb nb == (4 : Int)) == decide (arN (45 : Nat) ka na kb nb ≥ (2147483648 : Int))) == true) =
  false,
      (((arK (45 : Nat) ka na kb nb == (4 : Int)) == decide (arN (45 : Nat) ka na kb nb ≥ (2147483648 : Int))) == true) =
  false,
      (arE (45 : Nat) ka na kb nb != (0 : Int)) = false,
      ((arE (45 : Nat) ka na kb nb != (0 : Int)) == false) = true,
      decide (arN (45 : Nat) ka na kb nb < (-2147483648 : Int)) = false,
      ((arE (45 : Nat) ka na kb nb != (0 : Int)) == false) = true,
      (decide (arN (45 : Nat) ka na kb nb < (-2147483648 : Int)) == false) = true,
      (decide (arN (45 : Nat) ka na kb nb < (-2147483648 : Int)) == false) = true,
      (decide (arN (45 : Nat) ka na kb nb < (-2147483648 : Int)) == false) = true,
      ((arE (45 : Nat) ka na kb nb != (0 : Int)) == false) = true,
      (kb == (4 : Int)) = false,
      ((arE (45 : Nat) ka na kb nb != (0 : Int)) == false) = true,
      ((kb == (4 : Int)) == false) = true,
      ((kb == (4 : Int)) == false) = true,
      ((kb == (4 : Int)) == false) = true,
      ((arE (45 : Nat) ka na kb nb != (0 : Int)) == false) = true,
      ((arE (45 : Nat) ka na kb nb != (0 : Int)) == false) = true,
      ((arE (45 : Nat) ka na kb nb != (0 : Int)) == false) = true,
      ((arE (45 : Nat) ka na kb nb != (0 : Int)) == false) = true,
      ((arE (45 : Nat) ka na kb nb != (0 : Int)) == false) = true,
      (ka == (4 : Int)) = false,
      ((ka == (4 : Int)) == false) = true,
      ((ka == (4 : Int)) == false) = true,
      ((ka == (4 : Int)) == false) = true,
      (!numB kb) = false,
      (!numB ka) = false,
      ((!numB ka) == false) = true,
      ((!numB ka) == false) = true,
      ((!numB ka) == false) = true,
      ((!numB ka) == false) = true,
      noneB kb = false,
      noneB ka = false,
      (noneB ka == false) = true,
      (noneB ka == false) = true,
      (noneB ka == false) = true,
      (!decide
      (arK (46 : Nat) ka na kb nb = arK (46 : Nat) kb nb ka na ∧
        arN (46 : Nat) ka na kb nb = arN (46 : Nat) kb nb ka na)) =
  false,
      (!decide
      (arK (45 : Nat) ka na kb nb = arK (45 : Nat) kb nb ka na ∧
        arN (45 : Nat) ka na kb nb = arN (45 : Nat) kb nb ka na)) =
  false,
      ((!decide
        (arK (45 : Nat) ka na kb nb = arK (45 : Nat) kb nb ka na ∧
          arN (45 : Nat) ka na kb nb = arN (45 : Nat) kb nb ka na)) ==
    false) =
  true,
      (ByteArray.mk #[]) = (ByteArray.mk #[]),
      (ByteArray.mk #[]) = (ByteArray.mk #[]),
      ((!decide
        (arK (45 : Nat) ka na kb nb = arK (45 : Nat) kb nb ka na ∧
          arN (45 : Nat) ka na kb nb = arN (45 : Nat) kb nb ka na)) ==
    false) =
  true,
      ((!decide
        (arK (45 : Nat) ka na kb nb = arK (45 : Nat) kb nb ka na ∧
          arN (45 : Nat) ka na kb nb = arN (45 : Nat) kb nb ka na)) ==
    false) =
  true,
      ((!decide
        (arK (45 : Nat) ka na kb nb = arK (45 : Nat) kb nb ka na ∧
          arN (45 : Nat) ka na kb nb = arN (45 : Nat) kb nb ka na)) ==
    false) =
  true,
      (arE (46 : Nat) ka na kb nb != arE (46 : Nat) kb nb ka na) = false,
      ((arE (46 : Nat) ka na kb nb != arE (46 : Nat) kb nb ka na) == false) = true,
      (ByteArray.mk #[]) = (ByteArray.mk #[]),
      (ByteArray.mk #[]) = (ByteArray.mk #[]),
      ((arE (46 : Nat) ka na kb nb != arE (46 : Nat) kb nb ka na) == false) = true,
      ((arE (46 : Nat) ka na kb nb != arE (46 : Nat) kb nb ka na) == false) = true,
      ((arE (46 : Nat) ka na kb nb != arE (46 : Nat) kb nb ka na) == false) = true,
      (arE (45 : Nat) ka na kb nb != arE (45 : Nat) kb nb ka na) = false,
      ((arE (45 : Nat) ka na kb nb != arE (45 : Nat) kb nb ka na) == false) = true,
      ((arE (45 : Nat) ka na kb nb != arE (45 : Nat) kb nb ka na) == false) = true,
      ((arE (45 : Nat) ka na kb nb != arE (45 : Nat) kb nb ka na) == false) = true,
      R nb,
      R na,
      R na,
      R nb,
      R nb,
      R na,
      R na,
      R nb,
      (!smallB
      [D.int IntKind.i64 kb, D.int IntKind.i64 nb, D.str sb, D.slice xbb ebb none, D.slice xfb efb none,
        D.slice xlb elb none]) =
  false,
      (!smallB
      [D.int IntKind.i64 ka, D.int IntKind.i64 na, D.str sa, D.slice xba eba none, D.slice xfa efa none,
        D.slice xla ela none]) =
  false,
      ((!smallB
        [D.int IntKind.i64 ka, D.int IntKind.i64 na, D.str sa, D.slice xba eba none, D.slice xfa efa none,
          D.slice xla ela none]) ==
    false) =
  true,
      VS
  [D.int IntKind.i64 kb, D.int IntKind.i64 nb, D.str sb, D.slice xbb ebb none, D.slice xfb efb none,
    D.slice xlb elb none],
      ((!smallB
        [D.int IntKind.i64 ka, D.int IntKind.i64 na, D.str sa, D.slice xba eba none, D.slice xfa efa none,
          D.slice xla ela none]) ==
    false) =
  true,
      ((!smallB
        [D.int IntKind.i64 ka, D.int IntKind.i64 na, D.str sa, D.slice xba eba none, D.slice xfa efa none,
          D.slice xla ela none]) ==
    false) =
  true,
      VS
  [D.int IntKind.i64 ka, D.int IntKind.i64 na, D.str sa, D.slice xba eba none, D.slice xfa efa none,
    D.slice xla ela none],
      (!true) = false]) by kernel_rfl) (by simp only [all_cons, all_nil]; simp [*])

theorem l3_26 (ka : Int) (na : Int) (sa : ByteArray) (xba : Bool) (eba : Es) (xfa : Bool) (efa : Es) (xla : Bool) (ela : Es) (kb : Int) (nb : Int) (sb : ByteArray) (xbb : Bool) (ebb : Es) (xfb : Bool) (efb : Es) (xlb : Bool) (elb : Es)
    (h0 : smallB
    [D.int IntKind.i64 ka, D.int IntKind.i64 na, D.str sa, D.slice xba eba none, D.slice xfa efa none,
      D.slice xla ela none] =
  true)
    (h1 : smallB
    [D.int IntKind.i64 kb, D.int IntKind.i64 nb, D.str sb, D.slice xbb ebb none, D.slice xfb efb none,
      D.slice xlb elb none] =
  true)
    (h2 : (arE (45 : Nat) ka na kb nb != arE (45 : Nat) kb nb ka na) = false)
    (h3 : (arE (46 : Nat) ka na kb nb != arE (46 : Nat) kb nb ka na) = false)
    (h4 : decide
    (arK (45 : Nat) ka na kb nb = arK (45 : Nat) kb nb ka na ∧
      arN (45 : Nat) ka na kb nb = arN (45 : Nat) kb nb ka na) =
  true)
    (h5 : decide
    (arK (46 : Nat) ka na kb nb = arK (46 : Nat) kb nb ka na ∧
      arN (46 : Nat) ka na kb nb = arN (46 : Nat) kb nb ka na) =
  true)
    (h6 : noneB ka = false)
    (h7 : noneB kb = false)
    (h8 : numB ka = true)
    (h9 : numB kb = false)
    (h10 : (arE (45 : Nat) ka na kb nb == (12 : Int)) = true)
    (h11 : (ByteArray.mk #[]) = (ByteArray.mk #[]))
    (h12 : R nb)
    (h13 : R na)
    (h14 : VS
  [D.int IntKind.i64 kb, D.int IntKind.i64 nb, D.str sb, D.slice xbb ebb none, D.slice xfb efb none,
    D.slice xlb elb none])
    (h15 : VS
  [D.int IntKind.i64 ka, D.int IntKind.i64 na, D.str sa, D.slice xba eba none, D.slice xfa efa none,
    D.slice xla ela none]) :
    ∃ X, Ev c0.P c0.T (.call 3 (two ka na sa xba eba xfa efa xla ela kb nb sb xbb ebb xfb efb xlb elb) [] (D.bool (arE (46 : Nat) ka na kb nb == (12 : Int))) ([] ++ X)) :=
  outC_ok cNOk (show outC 0 (q ka na sa xba eba xfa efa xla ela kb nb sb xbb ebb xfb efb xlb elb (.path [false, true, true, true, false, false, true, true, true, false, true, true, true, true, false, true, true, true, true, false, false, true, true, true, false, false, true, true, true, true, false, true, true, true, true])) = some (D.bool (arE (46 : Nat) ka na kb nb == (12 : Int)), [],
    [(arE (45 : Nat) ka na kb nb == (12 : Int)) = true,
      ((arE (45 : Nat) ka na kb nb == (12 : Int)) == true) = true,
      ((arE (45 : Nat) ka na kb nb == (12 : Int)) == true) = true,
      (!numB kb) = true,
      (!numB ka) = false,
      ((!numB ka) == false) = true,
      ((!numB ka) == false) = true,
      ((!numB ka) == false) = true,
      ((!numB ka) == false) = true,
      noneB kb = false,
      noneB ka = false,
      (noneB ka == false) = true,
      (noneB ka == false) = true,
      (noneB ka == false) = true,
      (!decide
      (arK (46 : Nat) ka na kb nb = arK (46 : Nat) kb nb ka na ∧
        arN (46 : Nat) ka na kb nb = arN (46 : Nat) kb nb ka na)) =
  false,
      (!decide
      (arK (45 : Nat) ka na kb nb = arK (45 : Nat) kb nb ka na ∧
        arN (45 : Nat) ka na kb nb = arN (45 : Nat) kb nb ka na)) =
  false,
      ((!decide
        (arK (45 : Nat) ka na kb nb = arK (45 : Nat) kb nb ka na ∧
          arN (45 : Nat) ka na kb nb = arN (45 : Nat) kb nb ka na)) ==
    false) =
  true,
      (ByteArray.mk #[]) = (ByteArray.mk #[]),
      (ByteArray.mk #[]) = (ByteArray.mk #[]),
      ((!decide
        (arK (45 : Nat) ka na kb nb = arK (45 : Nat) kb nb ka na ∧
          arN (45 : Nat) ka na kb nb = arN (45 : Nat) kb nb ka na)) ==
    false) =
  true,
      ((!decide
        (arK (45 : Nat) ka na kb nb = arK (45 : Nat) kb nb ka na ∧
          arN (45 : Nat) ka na kb nb = arN (45 : Nat) kb nb ka na)) ==
    false) =
  true,
      ((!decide
        (arK (45 : Nat) ka na kb nb = arK (45 : Nat) kb nb ka na ∧
          arN (45 : Nat) ka na kb nb = arN (45 : Nat) kb nb ka na)) ==
    false) =
  true,
      (arE (46 : Nat) ka na kb nb != arE (46 : Nat) kb nb ka na) = false,
      ((arE (46 : Nat) ka na kb nb != arE (46 : Nat) kb nb ka na) == false) = true,
      (ByteArray.mk #[]) = (ByteArray.mk #[]),
      (ByteArray.mk #[]) = (ByteArray.mk #[]),
      ((arE (46 : Nat) ka na kb nb != arE (46 : Nat) kb nb ka na) == false) = true,
      ((arE (46 : Nat) ka na kb nb != arE (46 : Nat) kb nb ka na) == false) = true,
      ((arE (46 : Nat) ka na kb nb != arE (46 : Nat) kb nb ka na) == false) = true,
      (arE (45 : Nat) ka na kb nb != arE (45 : Nat) kb nb ka na) = false,
      ((arE (45 : Nat) ka na kb nb != arE (45 : Nat) kb nb ka na) == false) = true,
      ((arE (45 : Nat) ka na kb nb != arE (45 : Nat) kb nb ka na) == false) = true,
      ((arE (45 : Nat) ka na kb nb != arE (45 : Nat) kb nb ka na) == false) = true,
      R nb,
      R na,
      R na,
      R nb,
      R nb,
      R na,
      R na,
      R nb,
      (!smallB
      [D.int IntKind.i64 kb, D.int IntKind.i64 nb, D.str sb, D.slice xbb ebb none, D.slice xfb efb none,
        D.slice xlb elb none]) =
  false,
      (!smallB
      [D.int IntKind.i64 ka, D.int IntKind.i64 na, D.str sa, D.slice xba eba none, D.slice xfa efa none,
        D.slice xla ela none]) =
  false,
      ((!smallB
        [D.int IntKind.i64 ka, D.int IntKind.i64 na, D.str sa, D.slice xba eba none, D.slice xfa efa none,
          D.slice xla ela none]) ==
    false) =
  true,
      VS
  [D.int IntKind.i64 kb, D.int IntKind.i64 nb, D.str sb, D.slice xbb ebb none, D.slice xfb efb none,
    D.slice xlb elb none],
      ((!smallB
        [D.int IntKind.i64 ka, D.int IntKind.i64 na, D.str sa, D.slice xba eba none, D.slice xfa efa none,
          D.slice xla ela none]) ==
    false) =
  true,
      ((!smallB
        [D.int IntKind.i64 ka, D.int IntKind.i64 na, D.str sa, D.slice xba eba none, D.slice xfa efa none,
          D.slice xla ela none]) ==
    false) =
  true,
      VS
  [D.int IntKind.i64 ka, D.int IntKind.i64 na, D.str sa, D.slice xba eba none, D.slice xfa efa none,
    D.slice xla ela none],
      (!true) = false]) by kernel_rfl) (by simp only [all_cons, all_nil]; simp [*])

theorem l3_27 (ka : Int) (na : Int) (sa : ByteArray) (xba : Bool) (eba : Es) (xfa : Bool) (efa : Es) (xla : Bool) (ela : Es) (kb : Int) (nb : Int) (sb : ByteArray) (xbb : Bool) (ebb : Es) (xfb : Bool) (efb : Es) (xlb : Bool) (elb : Es)
    (h0 : smallB
    [D.int IntKind.i64 ka, D.int IntKind.i64 na, D.str sa, D.slice xba eba none, D.slice xfa efa none,
      D.slice xla ela none] =
  true)
    (h1 : smallB
    [D.int IntKind.i64 kb, D.int IntKind.i64 nb, D.str sb, D.slice xbb ebb none, D.slice xfb efb none,
      D.slice xlb elb none] =
  true)
    (h2 : (arE (45 : Nat) ka na kb nb != arE (45 : Nat) kb nb ka na) = false)
    (h3 : (arE (46 : Nat) ka na kb nb != arE (46 : Nat) kb nb ka na) = false)
    (h4 : decide
    (arK (45 : Nat) ka na kb nb = arK (45 : Nat) kb nb ka na ∧
      arN (45 : Nat) ka na kb nb = arN (45 : Nat) kb nb ka na) =
  true)
    (h5 : decide
    (arK (46 : Nat) ka na kb nb = arK (46 : Nat) kb nb ka na ∧
      arN (46 : Nat) ka na kb nb = arN (46 : Nat) kb nb ka na) =
  true)
    (h6 : noneB ka = false)
    (h7 : noneB kb = false)
    (h8 : numB ka = true)
    (h9 : numB kb = false)
    (h10 : (arE (45 : Nat) ka na kb nb == (12 : Int)) = false)
    (h11 : (ByteArray.mk #[]) = (ByteArray.mk #[]))
    (h12 : R nb)
    (h13 : R na)
    (h14 : VS
  [D.int IntKind.i64 kb, D.int IntKind.i64 nb, D.str sb, D.slice xbb ebb none, D.slice xfb efb none,
    D.slice xlb elb none])
    (h15 : VS
  [D.int IntKind.i64 ka, D.int IntKind.i64 na, D.str sa, D.slice xba eba none, D.slice xfa efa none,
    D.slice xla ela none]) :
    ∃ X, Ev c0.P c0.T (.call 3 (two ka na sa xba eba xfa efa xla ela kb nb sb xbb ebb xfb efb xlb elb) [] (D.bool false) ([] ++ X)) :=
  outC_ok cNOk (show outC 0 (q ka na sa xba eba xfa efa xla ela kb nb sb xbb ebb xfb efb xlb elb (.path [false, true, true, true, false, false, true, true, true, false, true, true, true, true, false, true, true, true, true, false, false, true, true, true, false, false, true, true, true, true, false, true, false, false, false])) = some (D.bool false, [],
    [(arE (45 : Nat) ka na kb nb == (12 : Int)) = false,
      ((arE (45 : Nat) ka na kb nb == (12 : Int)) == true) = false,
      ((arE (45 : Nat) ka na kb nb == (12 : Int)) == true) = false,
      (!numB kb) = true,
      (!numB ka) = false,
      ((!numB ka) == false) = true,
      ((!numB ka) == false) = true,
      ((!numB ka) == false) = true,
      ((!numB ka) == false) = true,
      noneB kb = false,
      noneB ka = false,
      (noneB ka == false) = true,
      (noneB ka == false) = true,
      (noneB ka == false) = true,
      (!decide
      (arK (46 : Nat) ka na kb nb = arK (46 : Nat) kb nb ka na ∧
        arN (46 : Nat) ka na kb nb = arN (46 : Nat) kb nb ka na)) =
  false,
      (!decide
      (arK (45 : Nat) ka na kb nb = arK (45 : Nat) kb nb ka na ∧
        arN (45 : Nat) ka na kb nb = arN (45 : Nat) kb nb ka na)) =
  false,
      ((!decide
        (arK (45 : Nat) ka na kb nb = arK (45 : Nat) kb nb ka na ∧
          arN (45 : Nat) ka na kb nb = arN (45 : Nat) kb nb ka na)) ==
    false) =
  true,
      (ByteArray.mk #[]) = (ByteArray.mk #[]),
      (ByteArray.mk #[]) = (ByteArray.mk #[]),
      ((!decide
        (arK (45 : Nat) ka na kb nb = arK (45 : Nat) kb nb ka na ∧
          arN (45 : Nat) ka na kb nb = arN (45 : Nat) kb nb ka na)) ==
    false) =
  true,
      ((!decide
        (arK (45 : Nat) ka na kb nb = arK (45 : Nat) kb nb ka na ∧
          arN (45 : Nat) ka na kb nb = arN (45 : Nat) kb nb ka na)) ==
    false) =
  true,
      ((!decide
        (arK (45 : Nat) ka na kb nb = arK (45 : Nat) kb nb ka na ∧
          arN (45 : Nat) ka na kb nb = arN (45 : Nat) kb nb ka na)) ==
    false) =
  true,
      (arE (46 : Nat) ka na kb nb != arE (46 : Nat) kb nb ka na) = false,
      ((arE (46 : Nat) ka na kb nb != arE (46 : Nat) kb nb ka na) == false) = true,
      (ByteArray.mk #[]) = (ByteArray.mk #[]),
      (ByteArray.mk #[]) = (ByteArray.mk #[]),
      ((arE (46 : Nat) ka na kb nb != arE (46 : Nat) kb nb ka na) == false) = true,
      ((arE (46 : Nat) ka na kb nb != arE (46 : Nat) kb nb ka na) == false) = true,
      ((arE (46 : Nat) ka na kb nb != arE (46 : Nat) kb nb ka na) == false) = true,
      (arE (45 : Nat) ka na kb nb != arE (45 : Nat) kb nb ka na) = false,
      ((arE (45 : Nat) ka na kb nb != arE (45 : Nat) kb nb ka na) == false) = true,
      ((arE (45 : Nat) ka na kb nb != arE (45 : Nat) kb nb ka na) == false) = true,
      ((arE (45 : Nat) ka na kb nb != arE (45 : Nat) kb nb ka na) == false) = true,
      R nb,
      R na,
      R na,
      R nb,
      R nb,
      R na,
      R na,
      R nb,
      (!smallB
      [D.int IntKind.i64 kb, D.int IntKind.i64 nb, D.str sb, D.slice xbb ebb none, D.slice xfb efb none,
        D.slice xlb elb none]) =
  false,
      (!smallB
      [D.int IntKind.i64 ka, D.int IntKind.i64 na, D.str sa, D.slice xba eba none, D.slice xfa efa none,
        D.slice xla ela none]) =
  false,
      ((!smallB
        [D.int IntKind.i64 ka, D.int IntKind.i64 na, D.str sa, D.slice xba eba none, D.slice xfa efa none,
          D.slice xla ela none]) ==
    false) =
  true,
      VS
  [D.int IntKind.i64 kb, D.int IntKind.i64 nb, D.str sb, D.slice xbb ebb none, D.slice xfb efb none,
    D.slice xlb elb none],
      ((!smallB
        [D.int IntKind.i64 ka, D.int IntKind.i64 na, D.str sa, D.slice xba eba none, D.slice xfa efa none,
          D.slice xla ela none]) ==
    false) =
  true,
      ((!smallB
        [D.int IntKind.i64 ka, D.int IntKind.i64 na, D.str sa, D.slice xba eba none, D.slice xfa efa none,
          D.slice xla ela none]) ==
    false) =
  true,
      VS
  [D.int IntKind.i64 ka, D.int IntKind.i64 na, D.str sa, D.slice xba eba none, D.slice xfa efa none,
    D.slice xla ela none],
      (!true) = false]) by kernel_rfl) (by simp only [all_cons, all_nil]; simp [*])

theorem l3_28 (ka : Int) (na : Int) (sa : ByteArray) (xba : Bool) (eba : Es) (xfa : Bool) (efa : Es) (xla : Bool) (ela : Es) (kb : Int) (nb : Int) (sb : ByteArray) (xbb : Bool) (ebb : Es) (xfb : Bool) (efb : Es) (xlb : Bool) (elb : Es)
    (h0 : smallB
    [D.int IntKind.i64 ka, D.int IntKind.i64 na, D.str sa, D.slice xba eba none, D.slice xfa efa none,
      D.slice xla ela none] =
  true)
    (h1 : smallB
    [D.int IntKind.i64 kb, D.int IntKind.i64 nb, D.str sb, D.slice xbb ebb none, D.slice xfb efb none,
      D.slice xlb elb none] =
  true)
    (h2 : (arE (45 : Nat) ka na kb nb != arE (45 : Nat) kb nb ka na) = false)
    (h3 : (arE (46 : Nat) ka na kb nb != arE (46 : Nat) kb nb ka na) = false)
    (h4 : decide
    (arK (45 : Nat) ka na kb nb = arK (45 : Nat) kb nb ka na ∧
      arN (45 : Nat) ka na kb nb = arN (45 : Nat) kb nb ka na) =
  true)
    (h5 : decide
    (arK (46 : Nat) ka na kb nb = arK (46 : Nat) kb nb ka na ∧
      arN (46 : Nat) ka na kb nb = arN (46 : Nat) kb nb ka na) =
  true)
    (h6 : noneB ka = false)
    (h7 : noneB kb = false)
    (h8 : numB ka = false)
    (h9 : (arE (45 : Nat) ka na kb nb == (12 : Int)) = true)
    (h10 : (ByteArray.mk #[]) = (ByteArray.mk #[]))
    (h11 : R nb)
    (h12 : R na)
    (h13 : VS
  [D.int IntKind.i64 kb, D.int IntKind.i64 nb, D.str sb, D.slice xbb ebb none, D.slice xfb efb none,
    D.slice xlb elb none])
    (h14 : VS
  [D.int IntKind.i64 ka, D.int IntKind.i64 na, D.str sa, D.slice xba eba none, D.slice xfa efa none,
    D.slice xla ela none]) :
    ∃ X, Ev c0.P c0.T (.call 3 (two ka na sa xba eba xfa efa xla ela kb nb sb xbb ebb xfb efb xlb elb) [] (D.bool (arE (46 : Nat) ka na kb nb == (12 : Int))) ([] ++ X)) :=
  outC_ok cNOk (show outC 0 (q ka na sa xba eba xfa efa xla ela kb nb sb xbb ebb xfb efb xlb elb (.path [false, true, true, true, false, false, true, true, true, false, true, true, true, true, false, true, true, true, true, false, false, true, true, true, false, false, false, false, false, false, true, true, true, true, true])) = some (D.bool (arE (46 : Nat) ka na kb nb == (12 : Int)), [],
    [(arE (45 : Nat) ka na kb nb == (12 : Int)) = true,
      ((arE (45 : Nat) ka na kb nb == (12 : Int)) == true) = true,
      ((arE (45 : Nat) ka na kb nb == (12 : Int)) == true) = true,
      true = true,
      (!numB ka) = true,
      ((!numB ka) == false) = false,
      ((!numB ka) == false) = false,
      ((!numB ka) == false) = false,
      ((!numB ka) == false) = false,
      noneB kb = false,
      noneB ka = false,
      (noneB ka == false) = true,
      (noneB ka == false) = true,
      (noneB ka == false) = true,
      (!decide
      (arK (46 : Nat) ka na kb nb = arK (46 : Nat) kb nb ka na ∧
        arN (46 : Nat) ka na kb nb = arN (46 : Nat) kb nb ka na)) =
  false,
      (!decide
      (arK (45 : Nat) ka na kb nb = arK (45 : Nat) kb nb ka na ∧
        arN (45 : Nat) ka na kb nb = arN (45 : Nat) kb nb ka na)) =
  false,
      ((!decide
        (arK (45 : Nat) ka na kb nb = arK (45 : Nat) kb nb ka na ∧
          arN (45 : Nat) ka na kb nb = arN (45 : Nat) kb nb ka na)) ==
    false) =
  true,
      (ByteArray.mk #[]) = (ByteArray.mk #[]),
      (ByteArray.mk #[]) = (ByteArray.mk #[]),
      ((!decide
        (arK (45 : Nat) ka na kb nb = arK (45 : Nat) kb nb ka na ∧
          arN (45 : Nat) ka na kb nb = arN (45 : Nat) kb nb ka na)) ==
    false) =
  true,
      ((!decide
        (arK (45 : Nat) ka na kb nb = arK (45 : Nat) kb nb ka na ∧
          arN (45 : Nat) ka na kb nb = arN (45 : Nat) kb nb ka na)) ==
    false) =
  true,
      ((!decide
        (arK (45 : Nat) ka na kb nb = arK (45 : Nat) kb nb ka na ∧
          arN (45 : Nat) ka na kb nb = arN (45 : Nat) kb nb ka na)) ==
    false) =
  true,
      (arE (46 : Nat) ka na kb nb != arE (46 : Nat) kb nb ka na) = false,
      ((arE (46 : Nat) ka na kb nb != arE (46 : Nat) kb nb ka na) == false) = true,
      (ByteArray.mk #[]) = (ByteArray.mk #[]),
      (ByteArray.mk #[]) = (ByteArray.mk #[]),
      ((arE (46 : Nat) ka na kb nb != arE (46 : Nat) kb nb ka na) == false) = true,
      ((arE (46 : Nat) ka na kb nb != arE (46 : Nat) kb nb ka na) == false) = true,
      ((arE (46 : Nat) ka na kb nb != arE (46 : Nat) kb nb ka na) == false) = true,
      (arE (45 : Nat) ka na kb nb != arE (45 : Nat) kb nb ka na) = false,
      ((arE (45 : Nat) ka na kb nb != arE (45 : Nat) kb nb ka na) == false) = true,
      ((arE (45 : Nat) ka na kb nb != arE (45 : Nat) kb nb ka na) == false) = true,
      ((arE (45 : Nat) ka na kb nb != arE (45 : Nat) kb nb ka na) == false) = true,
      R nb,
      R na,
      R na,
      R nb,
      R nb,
      R na,
      R na,
      R nb,
      (!smallB
      [D.int IntKind.i64 kb, D.int IntKind.i64 nb, D.str sb, D.slice xbb ebb none, D.slice xfb efb none,
        D.slice xlb elb none]) =
  false,
      (!smallB
      [D.int IntKind.i64 ka, D.int IntKind.i64 na, D.str sa, D.slice xba eba none, D.slice xfa efa none,
        D.slice xla ela none]) =
  false,
      ((!smallB
        [D.int IntKind.i64 ka, D.int IntKind.i64 na, D.str sa, D.slice xba eba none, D.slice xfa efa none,
          D.slice xla ela none]) ==
    false) =
  true,
      VS
  [D.int IntKind.i64 kb, D.int IntKind.i64 nb, D.str sb, D.slice xbb ebb none, D.slice xfb efb none,
    D.slice xlb elb none],
      ((!smallB
        [D.int IntKind.i64 ka, D.int IntKind.i64 na, D.str sa, D.slice xba eba none, D.slice xfa efa none,
          D.slice xla ela none]) ==
    false) =
  true,
      ((!smallB
        [D.int IntKind.i64 ka, D.int IntKind.i64 na, D.str sa, D.slice xba eba none, D.slice xfa efa none,
          D.slice xla ela none]) ==
    false) =
  true,
      VS
  [D.int IntKind.i64 ka, D.int IntKind.i64 na, D.str sa, D.slice xba eba none, D.slice xfa efa none,
    D.slice xla ela none],
      (!true) = false]) by kernel_rfl) (by simp only [all_cons, all_nil]; simp [*])

theorem l3_29 (ka : Int) (na : Int) (sa : ByteArray) (xba : Bool) (eba : Es) (xfa : Bool) (efa : Es) (xla : Bool) (ela : Es) (kb : Int) (nb : Int) (sb : ByteArray) (xbb : Bool) (ebb : Es) (xfb : Bool) (efb : Es) (xlb : Bool) (elb : Es)
    (h0 : smallB
    [D.int IntKind.i64 ka, D.int IntKind.i64 na, D.str sa, D.slice xba eba none, D.slice xfa efa none,
      D.slice xla ela none] =
  true)
    (h1 : smallB
    [D.int IntKind.i64 kb, D.int IntKind.i64 nb, D.str sb, D.slice xbb ebb none, D.slice xfb efb none,
      D.slice xlb elb none] =
  true)
    (h2 : (arE (45 : Nat) ka na kb nb != arE (45 : Nat) kb nb ka na) = false)
    (h3 : (arE (46 : Nat) ka na kb nb != arE (46 : Nat) kb nb ka na) = false)
    (h4 : decide
    (arK (45 : Nat) ka na kb nb = arK (45 : Nat) kb nb ka na ∧
      arN (45 : Nat) ka na kb nb = arN (45 : Nat) kb nb ka na) =
  true)
    (h5 : decide
    (arK (46 : Nat) ka na kb nb = arK (46 : Nat) kb nb ka na ∧
      arN (46 : Nat) ka na kb nb = arN (46 : Nat) kb nb ka na) =
  true)
    (h6 : noneB ka = false)
    (h7 : noneB kb = false)
    (h8 : numB ka = false)
    (h9 : (arE (45 : Nat) ka na kb nb == (12 : Int)) = false)
    (h10 : (ByteArray.mk #[]) = (ByteArray.mk #[]))
    (h11 : R nb)
    (h12 : R na)
    (h13 : VS
  [D.int IntKind.i64 kb, D.int IntKind.i64 nb, D.str sb, D.slice xbb ebb none, D.slice xfb efb none,
    D.slice xlb elb none])
    (h14 : VS
  [D.int IntKind.i64 ka, D.int IntKind.i64 na, D.str sa, D.slice xba eba none, D.slice xfa efa none,
    D.slice xla ela none]) :
    ∃ X, Ev c0.P c0.T (.call 3 (two ka na sa xba eba xfa efa xla ela kb nb sb xbb ebb xfb efb xlb elb) [] (D.bool false) ([] ++ X)) :=
  outC_ok cNOk (show outC 0 (q ka na sa xba eba xfa efa xla ela kb nb sb xbb ebb xfb efb xlb elb (.path [false, true, true, true, false, false, true, true, true, false, true, true, true, true, false, true, true, true, true, false, false, true, true, true, false, false, false, false, false, false, true, true, false, false, false])) = some (D.bool false, [],
    [(arE (45 : Nat) ka na kb nb == (12 : Int)) = false,
      ((arE (45 : Nat) ka na kb nb == (12 : Int)) == true) = false,
      ((arE (45 : Nat) ka na kb nb == (12 : Int)) == true) = false,
      true = true,
      (!numB ka) = true,
      ((!numB ka) == false) = false,
      ((!numB ka) == false) = false,
      ((!numB ka) == false) = false,
      ((!numB ka) == false) = false,
      noneB kb = false,
      noneB ka = false,
      (noneB ka == false) = true,
      (noneB ka == false) = true,
      (noneB ka == false) = true,
      (!decide
      (arK (46 : Nat) ka na kb nb = arK (46 : Nat) kb nb ka na ∧
        arN (46 : Nat) ka na kb nb = arN (46 : Nat) kb nb ka na)) =
  false,
      (!decide
      (arK (45 : Nat) ka na kb nb = arK (45 : Nat) kb nb ka na ∧
        arN (45 : Nat) ka na kb nb = arN (45 : Nat) kb nb ka na)) =
  false,
      ((!decide
        (arK (45 : Nat) ka na kb nb = arK (45 : Nat) kb nb ka na ∧
          arN (45 : Nat) ka na kb nb = arN (45 : Nat) kb nb ka na)) ==
    false) =
  true,
      (ByteArray.mk #[]) = (ByteArray.mk #[]),
      (ByteArray.mk #[]) = (ByteArray.mk #[]),
      ((!decide
        (arK (45 : Nat) ka na kb nb = arK (45 : Nat) kb nb ka na ∧
          arN (45 : Nat) ka na kb nb = arN (45 : Nat) kb nb ka na)) ==
    false) =
  true,
      ((!decide
        (arK (45 : Nat) ka na kb nb = arK (45 : Nat) kb nb ka na ∧
          arN (45 : Nat) ka na kb nb = arN (45 : Nat) kb nb ka na)) ==
    false) =
  true,
      ((!decide
        (arK (45 : Nat) ka na kb nb = arK (45 : Nat) kb nb ka na ∧
          arN (45 : Nat) ka na kb nb = arN (45 : Nat) kb nb ka na)) ==
    false) =
  true,
      (arE (46 : Nat) ka na kb nb != arE (46 : Nat) kb nb ka na) = false,
      ((arE (46 : Nat) ka na kb nb != arE (46 : Nat) kb nb ka na) == false) = true,
      (ByteArray.mk #[]) = (ByteArray.mk #[]),
      (ByteArray.mk #[]) = (ByteArray.mk #[]),
      ((arE (46 : Nat) ka na kb nb != arE (46 : Nat) kb nb ka na) == false) = true,
      ((arE (46 : Nat) ka na kb nb != arE (46 : Nat) kb nb ka na) == false) = true,
      ((arE (46 : Nat) ka na kb nb != arE (46 : Nat) kb nb ka na) == false) = true,
      (arE (45 : Nat) ka na kb nb != arE (45 : Nat) kb nb ka na) = false,
      ((arE (45 : Nat) ka na kb nb != arE (45 : Nat) kb nb ka na) == false) = true,
      ((arE (45 : Nat) ka na kb nb != arE (45 : Nat) kb nb ka na) == false) = true,
      ((arE (45 : Nat) ka na kb nb != arE (45 : Nat) kb nb ka na) == false) = true,
      R nb,
      R na,
      R na,
      R nb,
      R nb,
      R na,
      R na,
      R nb,
      (!smallB
      [D.int IntKind.i64 kb, D.int IntKind.i64 nb, D.str sb, D.slice xbb ebb none, D.slice xfb efb none,
        D.slice xlb elb none]) =
  false,
      (!smallB
      [D.int IntKind.i64 ka, D.int IntKind.i64 na, D.str sa, D.slice xba eba none, D.slice xfa efa none,
        D.slice xla ela none]) =
  false,
      ((!smallB
        [D.int IntKind.i64 ka, D.int IntKind.i64 na, D.str sa, D.slice xba eba none, D.slice xfa efa none,
          D.slice xla ela none]) ==
    false) =
  true,
      VS
  [D.int IntKind.i64 kb, D.int IntKind.i64 nb, D.str sb, D.slice xbb ebb none, D.slice xfb efb none,
    D.slice xlb elb none],
      ((!smallB
        [D.int IntKind.i64 ka, D.int IntKind.i64 na, D.str sa, D.slice xba eba none, D.slice xfa efa none,
          D.slice xla ela none]) ==
    false) =
  true,
      ((!smallB
        [D.int IntKind.i64 ka, D.int IntKind.i64 na, D.str sa, D.slice xba eba none, D.slice xfa efa none,
          D.slice xla ela none]) ==
    false) =
  true,
      VS
  [D.int IntKind.i64 ka, D.int IntKind.i64 na, D.str sa, D.slice xba eba none, D.slice xfa efa none,
    D.slice xla ela none],
      (!true) = false]) by kernel_rfl) (by simp only [all_cons, all_nil]; simp [*])

theorem l3_30 (ka : Int) (na : Int) (sa : ByteArray) (xba : Bool) (eba : Es) (xfa : Bool) (efa : Es) (xla : Bool) (ela : Es) (kb : Int) (nb : Int) (sb : ByteArray) (xbb : Bool) (ebb : Es) (xfb : Bool) (efb : Es) (xlb : Bool) (elb : Es)
    (h0 : smallB
    [D.int IntKind.i64 ka, D.int IntKind.i64 na, D.str sa, D.slice xba eba none, D.slice xfa efa none,
      D.slice xla ela none] =
  true)
    (h1 : smallB
    [D.int IntKind.i64 kb, D.int IntKind.i64 nb, D.str sb, D.slice xbb ebb none, D.slice xfb efb none,
      D.slice xlb elb none] =
  true)
    (h2 : (arE (45 : Nat) ka na kb nb != arE (45 : Nat) kb nb ka na) = false)
    (h3 : (arE (46 : Nat) ka na kb nb != arE (46 : Nat) kb nb ka na) = false)
    (h4 : decide
    (arK (45 : Nat) ka na kb nb = arK (45 : Nat) kb nb ka na ∧
      arN (45 : Nat) ka na kb nb = arN (45 : Nat) kb nb ka na) =
  true)
    (h5 : decide
    (arK (46 : Nat) ka na kb nb = arK (46 : Nat) kb nb ka na ∧
      arN (46 : Nat) ka na kb nb = arN (46 : Nat) kb nb ka na) =
  false)
    (h6 : (ByteArray.mk #[]) = (ByteArray.mk #[]))
    (h7 : R nb)
    (h8 : R na)
    (h9 : VS
  [D.int IntKind.i64 kb, D.int IntKind.i64 nb, D.str sb, D.slice xbb ebb none, D.slice xfb efb none,
    D.slice xlb elb none])
    (h10 : VS
  [D.int IntKind.i64 ka, D.int IntKind.i64 na, D.str sa, D.slice xba eba none, D.slice xfa efa none,
    D.slice xla ela none]) :
    ∃ X, Ev c0.P c0.T (.call 3 (two ka na sa xba eba xfa efa xla ela kb nb sb xbb ebb xfb efb xlb elb) [] (D.bool false) ([] ++ X)) :=
  outC_ok cNOk (show outC 0 (q ka na sa xba eba xfa efa xla ela kb nb sb xbb ebb xfb efb xlb elb (.path [false, true, true, true, false, false, true, true, true, false, true, true, true, true, false, true, true, true, true, false, true])) = some (D.bool false, [],
    [(!decide
      (arK (46 : Nat) ka na kb nb = arK (46 : Nat) kb nb ka na ∧
        arN (46 : Nat) ka na kb nb = arN (46 : Nat) kb nb ka na)) =
  true,
      (!decide
      (arK (45 : Nat) ka na kb nb = arK (45 : Nat) kb nb ka na ∧
        arN (45 : Nat) ka na kb nb = arN (45 : Nat) kb nb ka na)) =
  false,
      ((!decide
        (arK (45 : Nat) ka na kb nb = arK (45 : Nat) kb nb ka na ∧
          arN (45 : Nat) ka na kb nb = arN (45 : Nat) kb nb ka na)) ==
    false) =
  true,
      (ByteArray.mk #[]) = (ByteArray.mk #[]),
      (ByteArray.mk #[]) = (ByteArray.mk #[]),
      ((!decide
        (arK (45 : Nat) ka na kb nb = arK (45 : Nat) kb nb ka na ∧
          arN (45 : Nat) ka na kb nb = arN (45 : Nat) kb nb ka na)) ==
    false) =
  true,
      ((!decide
        (arK (45 : Nat) ka na kb nb = arK (45 : Nat) kb nb ka na ∧
          arN (45 : Nat) ka na kb nb = arN (45 : Nat) kb nb ka na)) ==
    false) =
  true,
      ((!decide
        (arK (45 : Nat) ka na kb nb = arK (45 : Nat) kb nb ka na ∧
          arN (45 : Nat) ka na kb nb = arN (45 : Nat) kb nb ka na)) ==
    false) =
  true,
      (arE (46 : Nat) ka na kb nb != arE (46 : Nat) kb nb ka na) = false,
      ((arE (46 : Nat) ka na kb nb != arE (46 : Nat) kb nb ka na) == false) = true,
      (ByteArray.mk #[]) = (ByteArray.mk #[]),
      (ByteArray.mk #[]) = (ByteArray.mk #[]),
      ((arE (46 : Nat) ka na kb nb != arE (46 : Nat) kb nb ka na) == false) = true,
      ((arE (46 : Nat) ka na kb nb != arE (46 : Nat) kb nb ka na) == false) = true,
      ((arE (46 : Nat) ka na kb nb != arE (46 : Nat) kb nb ka na) == false) = true,
      (arE (45 : Nat) ka na kb nb != arE (45 : Nat) kb nb ka na) = false,
      ((arE (45 : Nat) ka na kb nb != arE (45 : Nat) kb nb ka na) == false) = true,
      ((arE (45 : Nat) ka na kb nb != arE (45 : Nat) kb nb ka na) == false) = true,
      ((arE (45 : Nat) ka na kb nb != arE (45 : Nat) kb nb ka na) == false) = true,
      R nb,
      R na,
      R na,
      R nb,
      R nb,
      R na,
      R na,
      R nb,
      (!smallB
      [D.int IntKind.i64 kb, D.int IntKind.i64 nb, D.str sb, D.slice xbb ebb none, D.slice xfb efb none,
        D.slice xlb elb none]) =
  false,
      (!smallB
      [D.int IntKind.i64 ka, D.int IntKind.i64 na, D.str sa, D.slice xba eba none, D.slice xfa efa none,
        D.slice xla ela none]) =
  false,
      ((!smallB
        [D.int IntKind.i64 ka, D.int IntKind.i64 na, D.str sa, D.slice xba eba none, D.slice xfa efa none,
          D.slice xla ela none]) ==
    false) =
  true,
      VS
  [D.int IntKind.i64 kb, D.int IntKind.i64 nb, D.str sb, D.slice xbb ebb none, D.slice xfb efb none,
    D.slice xlb elb none],
      ((!smallB
        [D.int IntKind.i64 ka, D.int IntKind.i64 na, D.str sa, D.slice xba eba none, D.slice xfa efa none,
          D.slice xla ela none]) ==
    false) =
  true,
      ((!smallB
        [D.int IntKind.i64 ka, D.int IntKind.i64 na, D.str sa, D.slice xba eba none, D.slice xfa efa none,
          D.slice xla ela none]) ==
    false) =
  true,
      VS
  [D.int IntKind.i64 ka, D.int IntKind.i64 na, D.str sa, D.slice xba eba none, D.slice xfa efa none,
    D.slice xla ela none],
      (!true) = false]) by kernel_rfl) (by simp only [all_cons, all_nil]; simp [*])

theorem l3_31 (ka : Int) (na : Int) (sa : ByteArray) (xba : Bool) (eba : Es) (xfa : Bool) (efa : Es) (xla : Bool) (ela : Es) (kb : Int) (nb : Int) (sb : ByteArray) (xbb : Bool) (ebb : Es) (xfb : Bool) (efb : Es) (xlb : Bool) (elb : Es)
    (h0 : smallB
    [D.int IntKind.i64 ka, D.int IntKind.i64 na, D.str sa, D.slice xba eba none, D.slice xfa efa none,
      D.slice xla ela none] =
  true)
    (h1 : smallB
    [D.int IntKind.i64 kb, D.int IntKind.i64 nb, D.str sb, D.slice xbb ebb none, D.slice xfb efb none,
      D.slice xlb elb none] =
  true)
    (h2 : (arE (45 : Nat) ka na kb nb != arE (45 : Nat) kb nb ka na) = false)
    (h3 : (arE (46 : Nat) ka na kb nb != arE (46 : Nat) kb nb ka na) = false)
    (h4 : decide
    (arK (45 : Nat) ka na kb nb = arK (45 : Nat) kb nb ka na ∧
      arN (45 : Nat) ka na kb nb = arN (45 : Nat) kb nb ka na) =
  false)
    (h5 : (ByteArray.mk #[]) = (ByteArray.mk #[]))
    (h6 : R nb)
    (h7 : R na)
    (h8 : VS
  [D.int IntKind.i64 kb, D.int IntKind.i64 nb, D.str sb, D.slice xbb ebb none, D.slice xfb efb none,
    D.slice xlb elb none])
    (h9 : VS
  [D.int IntKind.i64 ka, D.int IntKind.i64 na, D.str sa, D.slice xba eba none, D.slice xfa efa none,
    D.slice xla ela none]) :
    ∃ X, Ev c0.P c0.T (.call 3 (two ka na sa xba eba xfa efa xla ela kb nb sb xbb ebb xfb efb xlb elb) [] (D.bool false) ([] ++ X)) :=
  outC_ok cNOk (show outC 0 (q ka na sa xba eba xfa efa xla ela kb nb sb xbb ebb xfb efb xlb elb (.path [false, true, true, true, false, false, true, true, true, false, true, true, true, true, false, false, false, false, false, true, true])) = some (D.bool false, [],
    [true = true,
      (!decide
      (arK (45 : Nat) ka na kb nb = arK (45 : Nat) kb nb ka na ∧
        arN (45 : Nat) ka na kb nb = arN (45 : Nat) kb nb ka na)) =
  true,
      ((!decide
        (arK (45 : Nat) ka na kb nb = arK (45 : Nat) kb nb ka na ∧
          arN (45 : Nat) ka na kb nb = arN (45 : Nat) kb nb ka na)) ==
    false) =
  false,
      ((!decide
        (arK (45 : Nat) ka na kb nb = arK (45 : Nat) kb nb ka na ∧
          arN (45 : Nat) ka na kb nb = arN (45 : Nat) kb nb ka na)) ==
    false) =
  false,
      ((!decide
        (arK (45 : Nat) ka na kb nb = arK (45 : Nat) kb nb ka na ∧
          arN (45 : Nat) ka na kb nb = arN (45 : Nat) kb nb ka na)) ==
    false) =
  false,
      ((!decide
        (arK (45 : Nat) ka na kb nb = arK (45 : Nat) kb nb ka na ∧
          arN (45 : Nat) ka na kb nb = arN (45 : Nat) kb nb ka na)) ==
    false) =
  false,
      (arE (46 : Nat) ka na kb nb != arE (46 : Nat) kb nb ka na) = false,
      ((arE (46 : Nat) ka na kb nb != arE (46 : Nat) kb nb ka na) == false) = true,
      (ByteArray.mk #[]) = (ByteArray.mk #[]),
      (ByteArray.mk #[]) = (ByteArray.mk #[]),
      ((arE (46 : Nat) ka na kb nb != arE (46 : Nat) kb nb ka na) == false) = true,
      ((arE (46 : Nat) ka na kb nb != arE (46 : Nat) kb nb ka na) == false) = true,
      ((arE (46 : Nat) ka na kb nb != arE (46 : Nat) kb nb ka na) == false) = true,
      (arE (45 : Nat) ka na kb nb != arE (45 : Nat) kb nb ka na) = false,
      ((arE (45 : Nat) ka na kb nb != arE (45 : Nat) kb nb ka na) == false) = true,
      ((arE (45 : Nat) ka na kb nb != arE (45 : Nat) kb nb ka na) == false) = true,
      ((arE (45 : Nat) ka na kb nb != arE (45 : Nat) kb nb ka na) == false) = true,
      R nb,
      R na,
      R na,
      R nb,
      R nb,
      R na,
      R na,
      R nb,
      (!smallB
      [D.int IntKind.i64 kb, D.int IntKind.i64 nb, D.str sb, D.slice xbb ebb none, D.slice xfb efb none,
        D.slice xlb elb none]) =
  false,
      (!smallB
      [D.int IntKind.i64 ka, D.int IntKind.i64 na, D.str sa, D.slice xba eba none, D.slice xfa efa none,
        D.slice xla ela none]) =
  false,
      ((!smallB
        [D.int IntKind.i64 ka, D.int IntKind.i64 na, D.str sa, D.slice xba eba none, D.slice xfa efa none,
          D.slice xla ela none]) ==
    false) =
  true,
      VS
  [D.int IntKind.i64 kb, D.int IntKind.i64 nb, D.str sb, D.slice xbb ebb none, D.slice xfb efb none,
    D.slice xlb elb none],
      ((!smallB
        [D.int IntKind.i64 ka, D.int IntKind.i64 na, D.str sa, D.slice xba eba none, D.slice xfa efa none,
          D.slice xla ela none]) ==
    false) =
  true,
      ((!smallB
        [D.int IntKind.i64 ka, D.int IntKind.i64 na, D.str sa, D.slice xba eba none, D.slice xfa efa none,
          D.slice xla ela none]) ==
    false) =
  true,
      VS
  [D.int IntKind.i64 ka, D.int IntKind.i64 na, D.str sa, D.slice xba eba none, D.slice xfa efa none,
    D.slice xla ela none],
      (!true) = false]) by kernel_rfl) (by simp only [all_cons, all_nil]; simp [*])

theorem l3_32 (ka : Int) (na : Int) (sa : ByteArray) (xba : Bool) (eba : Es) (xfa : Bool) (efa : Es) (xla : Bool) (ela : Es) (kb : Int) (nb : Int) (sb : ByteArray) (xbb : Bool) (ebb : Es) (xfb : Bool) (efb : Es) (xlb : Bool) (elb : Es)
    (h0 : smallB
    [D.int IntKind.i64 ka, D.int IntKind.i64 na, D.str sa, D.slice xba eba none, D.slice xfa efa none,
      D.slice xla ela none] =
  true)
    (h1 : smallB
    [D.int IntKind.i64 kb, D.int IntKind.i64 nb, D.str sb, D.slice xbb ebb none, D.slice xfb efb none,
      D.slice xlb elb none] =
  false)
    (h2 : VS
  [D.int IntKind.i64 kb, D.int IntKind.i64 nb, D.str sb, D.slice xbb ebb none, D.slice xfb efb none,
    D.slice xlb elb none])
    (h3 : VS
  [D.int IntKind.i64 ka, D.int IntKind.i64 na, D.str sa, D.slice xba eba none, D.slice xfa efa none,
    D.slice xla ela none]) :
    ∃ X, Ev c0.P c0.T (.call 3 (two ka na sa xba eba xfa efa xla ela kb nb sb xbb ebb xfb efb xlb elb) [] (D.bool true) ([] ++ X)) :=
  outC_ok cNOk (show outC 0 (q ka na sa xba eba xfa efa xla ela kb nb sb xbb ebb xfb efb xlb elb (.path [false, true, true, true, false, true])) = some (D.bool true, [],
    [(!smallB
      [D.int IntKind.i64 kb, D.int IntKind.i64 nb, D.str sb, D.slice xbb ebb none, D.slice xfb efb none,
        D.slice xlb elb none]) =
  true,
      (!smallB
      [D.int IntKind.i64 ka, D.int IntKind.i64 na, D.str sa, D.slice xba eba none, D.slice xfa efa none,
        D.slice xla ela none]) =
  false,
      ((!smallB
        [D.int IntKind.i64 ka, D.int IntKind.i64 na, D.str sa, D.slice xba eba none, D.slice xfa efa none,
          D.slice xla ela none]) ==
    false) =
  true,
      VS
  [D.int IntKind.i64 kb, D.int IntKind.i64 nb, D.str sb, D.slice xbb ebb none, D.slice xfb efb none,
    D.slice xlb elb none],
      ((!smallB
        [D.int IntKind.i64 ka, D.int IntKind.i64 na, D.str sa, D.slice xba eba none, D.slice xfa efa none,
          D.slice xla ela none]) ==
    false) =
  true,
      ((!smallB
        [D.int IntKind.i64 ka, D.int IntKind.i64 na, D.str sa, D.slice xba eba none, D.slice xfa efa none,
          D.slice xla ela none]) ==
    false) =
  true,
      VS
  [D.int IntKind.i64 ka, D.int IntKind.i64 na, D.str sa, D.slice xba eba none, D.slice xfa efa none,
    D.slice xla ela none],
      (!true) = false]) by kernel_rfl) (by simp only [all_cons, all_nil]; simp [*])

theorem l3_33 (ka : Int) (na : Int) (sa : ByteArray) (xba : Bool) (eba : Es) (xfa : Bool) (efa : Es) (xla : Bool) (ela : Es) (kb : Int) (nb : Int) (sb : ByteArray) (xbb : Bool) (ebb : Es) (xfb : Bool) (efb : Es) (xlb : Bool) (elb : Es)
    (h0 : smallB
    [D.int IntKind.i64 ka, D.int IntKind.i64 na, D.str sa, D.slice xba eba none, D.slice xfa efa none,
      D.slice xla ela none] =
  false)
    (h1 : VS
  [D.int IntKind.i64 ka, D.int IntKind.i64 na, D.str sa, D.slice xba eba none, D.slice xfa efa none,
    D.slice xla ela none]) :
    ∃ X, Ev c0.P c0.T (.call 3 (two ka na sa xba eba xfa efa xla ela kb nb sb xbb ebb xfb efb xlb elb) [] (D.bool true) ([] ++ X)) :=
  outC_ok cNOk (show outC 0 (q ka na sa xba eba xfa efa xla ela kb nb sb xbb ebb xfb efb xlb elb (.path [false, false, false, false, true, true])) = some (D.bool true, [],
    [true = true,
      (!smallB
      [D.int IntKind.i64 ka, D.int IntKind.i64 na, D.str sa, D.slice xba eba none, D.slice xfa efa none,
        D.slice xla ela none]) =
  true,
      ((!smallB
        [D.int IntKind.i64 ka, D.int IntKind.i64 na, D.str sa, D.slice xba eba none, D.slice xfa efa none,
          D.slice xla ela none]) ==
    false) =
  false,
      ((!smallB
        [D.int IntKind.i64 ka, D.int IntKind.i64 na, D.str sa, D.slice xba eba none, D.slice xfa efa none,
          D.slice xla ela none]) ==
    false) =
  false,
      ((!smallB
        [D.int IntKind.i64 ka, D.int IntKind.i64 na, D.str sa, D.slice xba eba none, D.slice xfa efa none,
          D.slice xla ela none]) ==
    false) =
  false,
      VS
  [D.int IntKind.i64 ka, D.int IntKind.i64 na, D.str sa, D.slice xba eba none, D.slice xfa efa none,
    D.slice xla ela none],
      (!true) = false]) by kernel_rfl) (by simp only [all_cons, all_nil]; simp [*])

noncomputable def l3_T (ka : Int) (na : Int) (sa : ByteArray) (xba : Bool) (eba : Es) (xfa : Bool) (efa : Es) (xla : Bool) (ela : Es) (kb : Int) (nb : Int) (sb : ByteArray) (xbb : Bool) (ebb : Es) (xfb : Bool) (efb : Es) (xlb : Bool) (elb : Es) : Bool :=
  (cond (smallB
  [D.int IntKind.i64 ka, D.int IntKind.i64 na, D.str sa, D.slice xba eba none, D.slice xfa efa none,
    D.slice xla ela none])
  (cond (smallB
  [D.int IntKind.i64 kb, D.int IntKind.i64 nb, D.str sb, D.slice xbb ebb none, D.slice xfb efb none,
    D.slice xlb elb none])
    (cond (arE (45 : Nat) ka na kb nb != arE (45 : Nat) kb nb ka na)
      (false)
      (cond (arE (46 : Nat) ka na kb nb != arE (46 : Nat) kb nb ka na)
        (false)
        (cond (decide
  (arK (45 : Nat) ka na kb nb = arK (45 : Nat) kb nb ka na ∧ arN (45 : Nat) ka na kb nb = arN (45 : Nat) kb nb ka na))
          (cond (decide
  (arK (46 : Nat) ka na kb nb = arK (46 : Nat) kb nb ka na ∧ arN (46 : Nat) ka na kb nb = arN (46 : Nat) kb nb ka na))
            (cond (noneB ka)
              (cond (arE (45 : Nat) ka na kb nb == (0 : Int))
                (cond (arE (46 : Nat) ka na kb nb == (0 : Int))
                  (cond (arK (45 : Nat) ka na kb nb == (2 : Int))
                    (arK (46 : Nat) ka na kb nb == (2 : Int))
                    (false))
                  (false))
                (false))
              (cond (noneB kb)
                (cond (arE (45 : Nat) ka na kb nb == (0 : Int))
                  (cond (arE (46 : Nat) ka na kb nb == (0 : Int))
                    (cond (arK (45 : Nat) ka na kb nb == (2 : Int))
                      (arK (46 : Nat) ka na kb nb == (2 : Int))
                      (false))
                    (false))
                  (false))
                (cond (numB ka)
                  (cond (numB kb)
                    (cond (ka == (4 : Int))
                      (cond (arE (45 : Nat) ka na kb nb != (0 : Int))
                        (cond (arE (45 : Nat) ka na kb nb == (0 : Int))
                          (true)
                          (arE (45 : Nat) ka na kb nb == (10 : Int)))
                        (cond (arK (45 : Nat) ka na kb nb == (4 : Int))
                          (cond (arE (45 : Nat) ka na kb nb == (0 : Int))
                            (true)
                            (arE (45 : Nat) ka na kb nb == (10 : Int)))
                          (false)))
                      (cond (arE (45 : Nat) ka na kb nb != (0 : Int))
                        (cond (arE (45 : Nat) ka na kb nb == (0 : Int))
                          (true)
                          (arE (45 : Nat) ka na kb nb == (10 : Int)))
                        (cond (kb == (4 : Int))
                          (cond (arK (45 : Nat) ka na kb nb == (4 : Int))
                            (cond (arE (45 : Nat) ka na kb nb == (0 : Int))
                              (true)
                              (arE (45 : Nat) ka na kb nb == (10 : Int)))
                            (false))
                          (cond (decide (arN (45 : Nat) ka na kb nb < (-2147483648 : Int)))
                            (cond (arK (45 : Nat) ka na kb nb == (4 : Int))
                              (cond (arE (45 : Nat) ka na kb nb == (0 : Int))
                                (true)
                                (arE (45 : Nat) ka na kb nb == (10 : Int)))
                              (false))
                            (cond ((arK (45 : Nat) ka na kb nb == (4 : Int)) == decide (arN (45 : Nat) ka na kb nb ≥ (2147483648 : Int)))
                              (cond (arE (45 : Nat) ka na kb nb == (0 : Int))
                                (true)
                                (arE (45 : Nat) ka na kb nb == (10 : Int)))
                              (false))))))
                    (cond (arE (45 : Nat) ka na kb nb == (12 : Int))
                      (arE (46 : Nat) ka na kb nb == (12 : Int))
                      (false)))
                  (cond (arE (45 : Nat) ka na kb nb == (12 : Int))
                    (arE (46 : Nat) ka na kb nb == (12 : Int))
                    (false)))))
            (false))
          (false))))
    (true))
  (true))

theorem l3_ct (ka : Int) (na : Int) (sa : ByteArray) (xba : Bool) (eba : Es) (xfa : Bool) (efa : Es) (xla : Bool) (ela : Es) (kb : Int) (nb : Int) (sb : ByteArray) (xbb : Bool) (ebb : Es) (xfb : Bool) (efb : Es) (xlb : Bool) (elb : Es) (hRa : R na) (hRb : R nb) (hVa : VS [D.int IntKind.i64 ka, D.int IntKind.i64 na, D.str sa, D.slice xba eba none, D.slice xfa efa none, D.slice xla ela none]) (hVb : VS [D.int IntKind.i64 kb, D.int IntKind.i64 nb, D.str sb, D.slice xbb ebb none, D.slice xfb efb none, D.slice xlb elb none]) : ∃ X, Ev c0.P c0.T (.call 3 (two ka na sa xba eba xfa efa xla ela kb nb sb xbb ebb xfb efb xlb elb) [] (.bool (l3_T ka na sa xba eba xfa efa xla ela kb nb sb xbb ebb xfb efb xlb elb)) ([] ++ X)) := by
  cases g1 : (smallB
  [D.int IntKind.i64 ka, D.int IntKind.i64 na, D.str sa, D.slice xba eba none, D.slice xfa efa none,
    D.slice xla ela none]) with
  | true =>
    cases g2 : (smallB
  [D.int IntKind.i64 kb, D.int IntKind.i64 nb, D.str sb, D.slice xbb ebb none, D.slice xfb efb none,
    D.slice xlb elb none]) with
    | true =>
      cases g3 : (arE (45 : Nat) ka na kb nb != arE (45 : Nat) kb nb ka na) with
      | true =>
        simp only [l3_T, g1, g2, g3, cond_true, cond_false]; exact l3_0 ka na sa xba eba xfa efa xla ela kb nb sb xbb ebb xfb efb xlb elb g1 g2 g3 (by first | assumption | rfl) (by first | assumption | rfl) (by first | assumption | rfl) (by first | assumption | rfl)
      | false =>
        cases g4 : (arE (46 : Nat) ka na kb nb != arE (46 : Nat) kb nb ka na) with
        | true =>
          simp only [l3_T, g1, g2, g3, g4, cond_true, cond_false]; exact l3_1 ka na sa xba eba xfa efa xla ela kb nb sb xbb ebb xfb efb xlb elb g1 g2 g3 g4 (by first | assumption | rfl) (by first | assumption | rfl) (by first | assumption | rfl) (by first | assumption | rfl)
        | false =>
          cases g5 : (decide
  (arK (45 : Nat) ka na kb nb = arK (45 : Nat) kb nb ka na ∧ arN (45 : Nat) ka na kb nb = arN (45 : Nat) kb nb ka na)) with
          | true =>
            cases g6 : (decide
  (arK (46 : Nat) ka na kb nb = arK (46 : Nat) kb nb ka na ∧ arN (46 : Nat) ka na kb nb = arN (46 : Nat) kb nb ka na)) with
            | true =>
              cases g7 : (noneB ka) with
              | true =>
                cases g8 : (arE (45 : Nat) ka na kb nb == (0 : Int)) with
                | true =>
                  cases g9 : (arE (46 : Nat) ka na kb nb == (0 : Int)) with
                  | true =>
                    cases g10 : (arK (45 : Nat) ka na kb nb == (2 : Int)) with
                    | true =>
                      simp only [l3_T, g1, g2, g3, g4, g5, g6, g7, g8, g9, g10, cond_true, cond_false]; exact l3_2 ka na sa xba eba xfa efa xla ela kb nb sb xbb ebb xfb efb xlb elb g1 g2 g3 g4 g5 g6 g7 g8 g9 g10 (by first | assumption | rfl) (by first | assumption | rfl) (by first | assumption | rfl) (by first | assumption | rfl) (by first | assumption | rfl)
                    | false =>
                      simp only [l3_T, g1, g2, g3, g4, g5, g6, g7, g8, g9, g10, cond_true, cond_false]; exact l3_3 ka na sa xba eba xfa efa xla ela kb nb sb xbb ebb xfb efb xlb elb g1 g2 g3 g4 g5 g6 g7 g8 g9 g10 (by first | assumption | rfl) (by first | assumption | rfl) (by first | assumption | rfl) (by first | assumption | rfl) (by first | assumption | rfl)
                  | false =>
                    simp only [l3_T, g1, g2, g3, g4, g5, g6, g7, g8, g9, cond_true, cond_false]; exact l3_4 ka na sa xba eba xfa efa xla ela kb nb sb xbb ebb xfb efb xlb elb g1 g2 g3 g4 g5 g6 g7 g8 g9 (by first | assumption | rfl) (by first | assumption | rfl) (by first | assumption | rfl) (by first | assumption | rfl) (by first | assumption | rfl)
                | false =>
                  simp only [l3_T, g1, g2, g3, g4, g5, g6, g7, g8, cond_true, cond_false]; exact l3_5 ka na sa xba eba xfa efa xla ela kb nb sb xbb ebb xfb efb xlb elb g1 g2 g3 g4 g5 g6 g7 g8 (by first | assumption | rfl) (by first | assumption | rfl) (by first | assumption | rfl) (by first | assumption | rfl) (by first | assumption | rfl)
              | false =>
                cases g8 : (noneB kb) with
                | true =>
                  cases g9 : (arE (45 : Nat) ka na kb nb == (0 : Int)) with
                  | true =>
                    cases g10 : (arE (46 : Nat) ka na kb nb == (0 : Int)) with
                    | true =>
                      cases g11 : (arK (45 : Nat) ka na kb nb == (2 : Int)) with
                      | true =>
                        simp only [l3_T, g1, g2, g3, g4, g5, g6, g7, g8, g9, g10, g11, cond_true, cond_false]; exact l3_6 ka na sa xba eba xfa efa xla ela kb nb sb xbb ebb xfb efb xlb elb g1 g2 g3 g4 g5 g6 g7 g8 g9 g10 g11 (by first | assumption | rfl) (by first | assumption | rfl) (by first | assumption | rfl) (by first | assumption | rfl) (by first | assumption | rfl)
                      | false =>
                        simp only [l3_T, g1, g2, g3, g4, g5, g6, g7, g8, g9, g10, g11, cond_true, cond_false]; exact l3_7 ka na sa xba eba xfa efa xla ela kb nb sb xbb ebb xfb efb xlb elb g1 g2 g3 g4 g5 g6 g7 g8 g9 g10 g11 (by first | assumption | rfl) (by first | assumption | rfl) (by first | assumption | rfl) (by first | assumption | rfl) (by first | assumption | rfl)
                    | false =>
                      simp only [l3_T, g1, g2, g3, g4, g5, g6, g7, g8, g9, g10, cond_true, cond_false]; exact l3_8 ka na sa xba eba xfa efa xla ela kb nb sb xbb ebb xfb efb xlb elb g1 g2 g3 g4 g5 g6 g7 g8 g9 g10 (by first | assumption | rfl) (by first | assumption | rfl) (by first | assumption | rfl) (by first | assumption | rfl) (by first | assumption | rfl)
                  | false =>
                    simp only [l3_T, g1, g2, g3, g4, g5, g6, g7, g8, g9, cond_true, cond_false]; exact l3_9 ka na sa xba eba xfa efa xla ela kb nb sb xbb ebb xfb efb xlb elb g1 g2 g3 g4 g5 g6 g7 g8 g9 (by first | assumption | rfl) (by first | assumption | rfl) (by first | assumption | rfl) (by first | assumption | rfl) (by first | assumption | rfl)
                | false =>
                  cases g9 : (numB ka) with
                  | true =>
                    cases g10 : (numB kb) with
                    | true =>
                      cases g11 : (ka == (4 : Int)) with
                      | true =>
                        cases g12 : (arE (45 : Nat) ka na kb nb != (0 : Int)) with
                        | true =>
                          cases g13 : (arE (45 : Nat) ka na kb nb == (0 : Int)) with
                          | true =>
                            simp only [l3_T, g1, g2, g3, g4, g5, g6, g7, g8, g9, g10, g11, g12, g13, cond_true, cond_false]; exact l3_10 ka na sa xba eba xfa efa xla ela kb nb sb xbb ebb xfb efb xlb elb g1 g2 g3 g4 g5 g6 g7 g8 g9 g10 g11 g12 g13 (by first | assumption | rfl) (by first | assumption | rfl) (by first | assumption | rfl) (by first | assumption | rfl) (by first | assumption | rfl)
                          | false =>
                            simp only [l3_T, g1, g2, g3, g4, g5, g6, g7, g8, g9, g10, g11, g12, g13, cond_true, cond_false]; exact l3_11 ka na sa xba eba xfa efa xla ela kb nb sb xbb ebb xfb efb xlb elb g1 g2 g3 g4 g5 g6 g7 g8 g9 g10 g11 g12 g13 (by first | assumption | rfl) (by first | assumption | rfl) (by first | assumption | rfl) (by first | assumption | rfl) (by first | assumption | rfl)
                        | false =>
                          cases g13 : (arK (45 : Nat) ka na kb nb == (4 : Int)) with
                          | true =>
                            cases g14 : (arE (45 : Nat) ka na kb nb == (0 : Int)) with
                            | true =>
                              simp only [l3_T, g1, g2, g3, g4, g5, g6, g7, g8, g9, g10, g11, g12, g13, g14, cond_true, cond_false]; exact l3_12 ka na sa xba eba xfa efa xla ela kb nb sb xbb ebb xfb efb xlb elb g1 g2 g3 g4 g5 g6 g7 g8 g9 g10 g11 g12 g13 g14 (by first | assumption | rfl) (by first | assumption | rfl) (by first | assumption | rfl) (by first | assumption | rfl) (by first | assumption | rfl)
                            | false =>
                              simp only [l3_T, g1, g2, g3, g4, g5, g6, g7, g8, g9, g10, g11, g12, g13, g14, cond_true, cond_false]; exact l3_13 ka na sa xba eba xfa efa xla ela kb nb sb xbb ebb xfb efb xlb elb g1 g2 g3 g4 g5 g6 g7 g8 g9 g10 g11 g12 g13 g14 (by first | assumption | rfl) (by first | assumption | rfl) (by first | assumption | rfl) (by first | assumption | rfl) (by first | assumption | rfl)
                          | false =>
                            simp only [l3_T, g1, g2, g3, g4, g5, g6, g7, g8, g9, g10, g11, g12, g13, cond_true, cond_false]; exact l3_14 ka na sa xba eba xfa efa xla ela kb nb sb xbb ebb xfb efb xlb elb g1 g2 g3 g4 g5 g6 g7 g8 g9 g10 g11 g12 g13 (by first | assumption | rfl) (by first | assumption | rfl) (by first | assumption | rfl) (by first | assumption | rfl) (by first | assumption | rfl)
                      | false =>
                        cases g12 : (arE (45 : Nat) ka na kb nb != (0 : Int)) with
                        | true =>
                          cases g13 : (arE (45 : Nat) ka na kb nb == (0 : Int)) with
                          | true =>
                            simp only [l3_T, g1, g2, g3, g4, g5, g6, g7, g8, g9, g10, g11, g12, g13, cond_true, cond_false]; exact l3_15 ka na sa xba eba xfa efa xla ela kb nb sb xbb ebb xfb efb xlb elb g1 g2 g3 g4 g5 g6 g7 g8 g9 g10 g11 g12 g13 (by first | assumption | rfl) (by first | assumption | rfl) (by first | assumption | rfl) (by first | assumption | rfl) (by first | assumption | rfl)
                          | false =>
                            simp only [l3_T, g1, g2, g3, g4, g5, g6, g7, g8, g9, g10, g11, g12, g13, cond_true, cond_false]; exact l3_16 ka na sa xba eba xfa efa xla ela kb nb sb xbb ebb xfb efb xlb elb g1 g2 g3 g4 g5 g6 g7 g8 g9 g10 g11 g12 g13 (by first | assumption | rfl) (by first | assumption | rfl) (by first | assumption | rfl) (by first | assumption | rfl) (by first | assumption | rfl)
                        | false =>
                          cases g13 : (kb == (4 : Int)) with
                          | true =>
                            cases g14 : (arK (45 : Nat) ka na kb nb == (4 : Int)) with
                            | true =>
                              cases g15 : (arE (45 : Nat) ka na kb nb == (0 : Int)) with
                              | true =>
                                simp only [l3_T, g1, g2, g3, g4, g5, g6, g7, g8, g9, g10, g11, g12, g13, g14, g15, cond_true, cond_false]; exact l3_17 ka na sa xba eba xfa efa xla ela kb nb sb xbb ebb xfb efb xlb elb g1 g2 g3 g4 g5 g6 g7 g8 g9 g10 g11 g12 g13 g14 g15 (by first | assumption | rfl) (by first | assumption | rfl) (by first | assumption | rfl) (by first | assumption | rfl) (by first | assumption | rfl)
                              | false =>
                                simp only [l3_T, g1, g2, g3, g4, g5, g6, g7, g8, g9, g10, g11, g12, g13, g14, g15, cond_true, cond_false]; exact l3_18 ka na sa xba eba xfa efa xla ela kb nb sb xbb ebb xfb efb xlb elb g1 g2 g3 g4 g5 g6 g7 g8 g9 g10 g11 g12 g13 g14 g15 (by first | assumption | rfl) (by first | assumption | rfl) (by first | assumption | rfl) (by first | assumption | rfl) (by first | assumption | rfl)
                            | false =>
                              simp only [l3_T, g1, g2, g3, g4, g5, g6, g7, g8, g9, g10, g11, g12, g13, g14, cond_true, cond_false]; exact l3_19 ka na sa xba eba xfa efa xla ela kb nb sb xbb ebb xfb efb xlb elb g1 g2 g3 g4 g5 g6 g7 g8 g9 g10 g11 g12 g13 g14 (by first | assumption | rfl) (by first | assumption | rfl) (by first | assumption | rfl) (by first | assumption | rfl) (by first | assumption | rfl)
                          | false =>
                            cases g14 : (decide (arN (45 : Nat) ka na kb nb < (-2147483648 : Int))) with
                            | true =>
                              cases g15 : (arK (45 : Nat) ka na kb nb == (4 : Int)) with
                              | true =>
                                cases g16 : (arE (45 : Nat) ka na kb nb == (0 : Int)) with
                                | true =>
                                  simp only [l3_T, g1, g2, g3, g4, g5, g6, g7, g8, g9, g10, g11, g12, g13, g14, g15, g16, cond_true, cond_false]; exact l3_20 ka na sa xba eba xfa efa xla ela kb nb sb xbb ebb xfb efb xlb elb g1 g2 g3 g4 g5 g6 g7 g8 g9 g10 g11 g12 g13 g14 g15 g16 (by first | assumption | rfl) (by first | assumption | rfl) (by first | assumption | rfl) (by first | assumption | rfl) (by first | assumption | rfl)
                                | false =>
                                  simp only [l3_T, g1, g2, g3, g4, g5, g6, g7, g8, g9, g10, g11, g12, g13, g14, g15, g16, cond_true, cond_false]; exact l3_21 ka na sa xba eba xfa efa xla ela kb nb sb xbb ebb xfb efb xlb elb g1 g2 g3 g4 g5 g6 g7 g8 g9 g10 g11 g12 g13 g14 g15 g16 (by first | assumption | rfl) (by first | assumption | rfl) (by first | assumption | rfl) (by first | assumption | rfl) (by first | assumption | rfl)
                              | false =>
                                simp only [l3_T, g1, g2, g3, g4, g5, g6, g7, g8, g9, g10, g11, g12, g13, g14, g15, cond_true, cond_false]; exact l3_22 ka na sa xba eba xfa efa xla ela kb nb sb xbb ebb xfb efb xlb elb g1 g2 g3 g4 g5 g6 g7 g8 g9 g10 g11 g12 g13 g14 g15 (by first | assumption | rfl) (by first | assumption | rfl) (by first | assumption | rfl) (by first | assumption | rfl) (by first | assumption | rfl)
                            | false =>
                              cases g15 : ((arK (45 : Nat) ka na kb nb == (4 : Int)) == decide (arN (45 : Nat) ka na kb nb ≥ (2147483648 : Int))) with
                              | true =>
                                cases g16 : (arE (45 : Nat) ka na kb nb == (0 : Int)) with
                                | true =>
                                  simp only [l3_T, g1, g2, g3, g4, g5, g6, g7, g8, g9, g10, g11, g12, g13, g14, g15, g16, cond_true, cond_false]; exact l3_23 ka na sa xba eba xfa efa xla ela kb nb sb xbb ebb xfb efb xlb elb g1 g2 g3 g4 g5 g6 g7 g8 g9 g10 g11 g12 g13 g14 g15 g16 (by first | assumption | rfl) (by first | assumption | rfl) (by first | assumption | rfl) (by first | assumption | rfl) (by first | assumption | rfl)
                                | false =>
                                  simp only [l3_T, g1, g2, g3, g4, g5, g6, g7, g8, g9, g10, g11, g12, g13, g14, g15, g16, cond_true, cond_false]; exact l3_24 ka na sa xba eba xfa efa xla ela kb nb sb xbb ebb xfb efb xlb elb g1 g2 g3 g4 g5 g6 g7 g8 g9 g10 g11 g12 g13 g14 g15 g16 (by first | assumption | rfl) (by first | assumption | rfl) (by first | assumption | rfl) (by first | assumption | rfl) (by first | assumption | rfl)
                              | false =>
                                simp only [l3_T, g1, g2, g3, g4, g5, g6, g7, g8, g9, g10, g11, g12, g13, g14, g15, cond_true, cond_false]; exact l3_25 ka na sa xba eba xfa efa xla ela kb nb sb xbb ebb xfb efb xlb elb g1 g2 g3 g4 g5 g6 g7 g8 g9 g10 g11 g12 g13 g14 g15 (by first | assumption | rfl) (by first | assumption | rfl) (by first | assumption | rfl) (by first | assumption | rfl) (by first | assumption | rfl)
                    | false =>
                      cases g11 : (arE (45 : Nat) ka na kb nb == (12 : Int)) with
                      | true =>
                        simp only [l3_T, g1, g2, g3, g4, g5, g6, g7, g8, g9, g10, g11, cond_true, cond_false]; exact l3_26 ka na sa xba eba xfa efa xla ela kb nb sb xbb ebb xfb efb xlb elb g1 g2 g3 g4 g5 g6 g7 g8 g9 g10 g11 (by first | assumption | rfl) (by first | assumption | rfl) (by first | assumption | rfl) (by first | assumption | rfl) (by first | assumption | rfl)
                      | false =>
                        simp only [l3_T, g1, g2, g3, g4, g5, g6, g7, g8, g9, g10, g11, cond_true, cond_false]; exact l3_27 ka na sa xba eba xfa efa xla ela kb nb sb xbb ebb xfb efb xlb elb g1 g2 g3 g4 g5 g6 g7 g8 g9 g10 g11 (by first | assumption | rfl) (by first | assumption | rfl) (by first | assumption | rfl) (by first | assumption | rfl) (by first | assumption | rfl)
                  | false =>
                    cases g10 : (arE (45 : Nat) ka na kb nb == (12 : Int)) with
                    | true =>
                      simp only [l3_T, g1, g2, g3, g4, g5, g6, g7, g8, g9, g10, cond_true, cond_false]; exact l3_28 ka na sa xba eba xfa efa xla ela kb nb sb xbb ebb xfb efb xlb elb g1 g2 g3 g4 g5 g6 g7 g8 g9 g10 (by first | assumption | rfl) (by first | assumption | rfl) (by first | assumption | rfl) (by first | assumption | rfl) (by first | assumption | rfl)
                    | false =>
                      simp only [l3_T, g1, g2, g3, g4, g5, g6, g7, g8, g9, g10, cond_true, cond_false]; exact l3_29 ka na sa xba eba xfa efa xla ela kb nb sb xbb ebb xfb efb xlb elb g1 g2 g3 g4 g5 g6 g7 g8 g9 g10 (by first | assumption | rfl) (by first | assumption | rfl) (by first | assumption | rfl) (by first | assumption | rfl) (by first | assumption | rfl)
            | false =>
              simp only [l3_T, g1, g2, g3, g4, g5, g6, cond_true, cond_false]; exact l3_30 ka na sa xba eba xfa efa xla ela kb nb sb xbb ebb xfb efb xlb elb g1 g2 g3 g4 g5 g6 (by first | assumption | rfl) (by first | assumption | rfl) (by first | assumption | rfl) (by first | assumption | rfl) (by first | assumption | rfl)
          | false =>
            simp only [l3_T, g1, g2, g3, g4, g5, cond_true, cond_false]; exact l3_31 ka na sa xba eba xfa efa xla ela kb nb sb xbb ebb xfb efb xlb elb g1 g2 g3 g4 g5 (by first | assumption | rfl) (by first | assumption | rfl) (by first | assumption | rfl) (by first | assumption | rfl) (by first | assumption | rfl)
    | false =>
      simp only [l3_T, g1, g2, cond_true, cond_false]; exact l3_32 ka na sa xba eba xfa efa xla ela kb nb sb xbb ebb xfb efb xlb elb g1 g2 (by first | assumption | rfl) (by first | assumption | rfl)
  | false =>
    simp only [l3_T, g1, cond_true, cond_false]; exact l3_33 ka na sa xba eba xfa efa xla ela kb nb sb xbb ebb xfb efb xlb elb g1 (by first | assumption | rfl)


theorem opE_comm45 (x y : Int) : opE 45 x y = opE 45 y x := by simp only [opE]; rw [Int.add_comm]
theorem opE_comm46 (x y : Int) : opE 46 x y = opE 46 y x := by simp only [opE]; rw [Int.mul_comm]
theorem opN_comm45 (x y : Int) : opN 45 x y = opN 45 y x := by simp only [opN, opV]; rw [opE_comm45, Int.add_comm]
theorem opN_comm46 (x y : Int) : opN 46 x y = opN 46 y x := by simp only [opN, opV]; rw [opE_comm46, Int.mul_comm]
theorem arith_comm {f : Nat} (hE : ∀ x y, opE f x y = opE f y x) (hN : ∀ x y, opN f x y = opN f y x) (ka na kb nb : Int) : arith f kb nb ka na = arith f ka na kb nb := by
  unfold arith
  rw [hE nb na, hN nb na]
  simp only [Or.comm, And.comm]

theorem opE45 (x y : Int) : opE 45 x y = 0 ∨ opE 45 x y = 10 := by
  simp only [opE]
  split <;> simp

/-- All that is asked is so. -/
theorem all_true (ka na : Int) (sa : ByteArray) (xba : Bool) (eba : Es) (xfa : Bool) (efa : Es) (xla : Bool) (ela : Es) (kb nb : Int) (sb : ByteArray) (xbb : Bool) (ebb : Es) (xfb : Bool) (efb : Es) (xlb : Bool) (elb : Es) : l3_T ka na sa xba eba xfa efa xla ela kb nb sb xbb ebb xfb efb xlb elb = true := by
  unfold l3_T
  simp only [arK, arN, arE, arith_comm opE_comm45 opN_comm45 ka na kb nb, arith_comm opE_comm46 opN_comm46 ka na kb nb, bne_self_eq_false, cond_false, and_self, decide_true, cond_true]
  cases smallB [D.int IntKind.i64 ka, D.int IntKind.i64 na, D.str sa, D.slice xba eba none, D.slice xfa efa none, D.slice xla ela none] with
  | false => rfl
  | true =>
    cases smallB [D.int IntKind.i64 kb, D.int IntKind.i64 nb, D.str sb, D.slice xbb ebb none, D.slice xfb efb none, D.slice xlb elb none] with
    | false => rfl
    | true =>
      simp only [cond_true, noneB, numB]
      by_cases h1 : noneK ka
      · have a (f : Nat) : arith f ka na kb nb = (2, 0, 0) := by unfold arith; rw [if_pos (.inl h1)]
        simp [h1, a]
      · by_cases h2 : noneK kb
        · have a (f : Nat) : arith f ka na kb nb = (2, 0, 0) := by unfold arith; rw [if_pos (.inr h2)]
          simp [h1, h2, a]
        · by_cases h3 : numK ka ∧ numK kb
          · obtain ⟨h3, h4⟩ := h3
            have e1 := opE45 na nb
            have a : arith 45 ka na kb nb = if opE 45 na nb ≠ 0 then (0, 0, opE 45 na nb) else (if ka = 4 ∨ kb = 4 then 4 else of32 (opN 45 na nb), opN 45 na nb, 0) := by
              unfold arith
              rw [if_neg (by simp [h1, h2]), if_neg (by simp [h3, h4])]
            rcases e1 with e1 | e1
            · rw [if_neg (by simp [e1])] at a
              by_cases w : ka = 4
              · rw [if_pos (.inl w)] at a
                simp only [a]
                simp [h1, h2, h3, h4, w, show ¬ noneK 4 by decide, show numK 4 by decide]
              · by_cases w' : kb = 4
                · rw [if_pos (.inr w')] at a
                  simp only [a]
                  simp [h1, h2, h3, h4, w, w', beqd, Bool.cond_decide, show ¬ noneK 4 by decide, show numK 4 by decide]
                · rw [if_neg (by omega)] at a
                  simp only [a]
                  by_cases z1 : opN 45 na nb < -2147483648
                  · have ho : of32 (opN 45 na nb) = 4 := by unfold of32; rw [if_neg (by omega)]
                    simp [h1, h2, h3, h4, w, w', beqd, Bool.cond_decide, ho, z1]
                  · by_cases z3 : opN 45 na nb ≥ 2147483648
                    · have ho : of32 (opN 45 na nb) = 4 := by unfold of32; rw [if_neg (by omega)]
                      simp [h1, h2, h3, h4, w, w', beqd, Bool.cond_decide, ho, z1, z3]
                    · have ho : of32 (opN 45 na nb) = 3 := by unfold of32; rw [if_pos (by omega)]
                      simp [h1, h2, h3, h4, w, w', beqd, Bool.cond_decide, ho, z1, z3]
            · rw [if_pos (by simp [e1]), e1] at a
              simp only [a]
              simp [h1, h2, h3, h4]
          · have a (f : Nat) : arith f ka na kb nb = (0, 0, 12) := by
              unfold arith
              rw [if_neg (by simp [h1, h2]), if_pos h3]
            by_cases h4 : numK ka
            · have h5 : ¬ numK kb := fun h => h3 ⟨h4, h⟩
              simp [h1, h2, h4, h5, a]
            · simp [h1, h2, h4, a]

/-- The law, of any two values. -/
theorem law {ca cb : List D} (ha : valk.VS ca) (hb : valk.VS cb) : ∃ H1, Ev c0.P c0.T (.call 3 [.agg ca, .agg cb] [] (.bool true) H1) := by
  have ha' := ha
  have hb' := hb
  cases ha with
  | mk ka na sa xba eba xfa efa xla ela bsa hka hna hsa hba hba' lba lfa lla nba nfa nla hfa hfva hla =>
    cases hb with
    | mk kb nb sb xbb ebb xfb efb xlb elb bsb hkb hnb hsb hbb hbb' lbb lfb llb nbb nfb nlb hfb hfvb hlb =>
      obtain ⟨X, h⟩ := l3_ct ka na sa xba eba xfa efa xla ela kb nb sb xbb ebb xfb efb xlb elb hna hnb ha' hb'
      rw [all_true] at h
      exact ⟨_, h⟩

end Go.Proofs.Ytbkacmcijimbfaa.numLaws
