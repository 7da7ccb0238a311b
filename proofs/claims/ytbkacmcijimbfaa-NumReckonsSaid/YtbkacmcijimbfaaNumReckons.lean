/- PROVED: the law NumReckons hands back true, whatever the two values and the number. No conditions. -/
import Derived.Test.YtbkacmcijimbfaaValKit
import Derived.Test.YtbkacmcijimbfaaNumOp15
import Derived.Test.YtbkacmcijimbfaaNumOp16
import Derived.Test.YtbkacmcijimbfaaNumOp21
import Derived.Test.YtbkacmcijimbfaaNumOp22
import Derived.Test.YtbkacmcijimbfaaNumOp23
import Derived.Test.YtbkacmcijimbfaaNumAbs
namespace Go.Proofs.Ytbkacmcijimbfaa.numReckons
open Go Ytbkacmcijimbfaa.GD Ytbkacmcijimbfaa.numk
set_option linter.unusedVariables false
set_option linter.unusedSimpArgs false

abbrev VS (c : List D) : Prop := valk.VS c
noncomputable abbrev smallB (c : List D) : Bool := valk.smallB c
def arC (i : Nat) : List D → GD.Heap → Option (D × GD.Heap × List Prop)
  | [.agg [.int .i64 ka, .int .i64 na, .str _, .slice _ _ none, .slice _ _ none, .slice _ _ none], .agg [.int .i64 kb, .int .i64 nb, .str _, .slice _ _ none, .slice _ _ none, .slice _ _ none]], [] => some (res (arK i ka na kb nb) (arN i ka na kb nb) (arE i ka na kb nb), [], [R na, R nb])
  | _, _ => none
theorem arC_ok {f i : Nat} {args : List D} {H : GD.Heap} {r : D} {H1 : GD.Heap} {cs : List Prop}
    (h : ∀ (ka na : Int) (sa : ByteArray) (xba : Bool) (eba : Es) (xfa : Bool) (efa : Es) (xla : Bool) (ela : Es) (kb nb : Int) (sb : ByteArray) (xbb : Bool) (ebb : Es) (xfb : Bool) (efb : Es) (xlb : Bool) (elb : Es), R na → R nb → ∃ X, Ev c0.P c0.T (.call f (two ka na sa xba eba xfa efa xla ela kb nb sb xbb ebb xfb efb xlb elb) [] (res (arith i ka na kb nb).1 (arith i ka na kb nb).2.1 (arith i ka na kb nb).2.2) ([] ++ X)))
    (he : arC i args H = some (r, H1, cs)) (hc : ∀ c ∈ cs, c) : ∃ X, Ev c0.P c0.T (.call f args H r (H1 ++ X)) := by
  unfold arC at he
  split at he
  · simp only [Option.some.injEq, Prod.mk.injEq] at he
    obtain ⟨rfl, rfl, rfl⟩ := he
    exact h _ _ _ _ _ _ _ _ _ _ _ _ _ _ _ _ _ _ (hc _ (List.mem_cons_self ..)) (hc _ (List.mem_cons_of_mem _ (List.mem_cons_self ..)))
  · cases he
def abC : List D → GD.Heap → Option (D × GD.Heap × List Prop)
  | [.agg [.int .i64 ka, .int .i64 na, .str _, .slice _ _ none, .slice _ _ none, .slice _ _ none]], [] => some (res (arK 50 ka na ka na) (arN 50 ka na ka na) (arE 50 ka na ka na), [], [R na])
  | _, _ => none
theorem abC_ok {f : Nat} {args : List D} {H : GD.Heap} {r : D} {H1 : GD.Heap} {cs : List Prop}
    (h : ∀ (k n : Int) (s : ByteArray) (xb : Bool) (eb : Es) (xf : Bool) (ef : Es) (xl : Bool) (el : Es), R n → ∃ X, Ev c0.P c0.T (.call f [val k n s xb eb xf ef xl el] [] (res (arK 50 k n k n) (arN 50 k n k n) (arE 50 k n k n)) ([] ++ X)))
    (he : abC args H = some (r, H1, cs)) (hc : ∀ c ∈ cs, c) : ∃ X, Ev c0.P c0.T (.call f args H r (H1 ++ X)) := by
  unfold abC at he
  split at he
  · simp only [Option.some.injEq, Prod.mk.injEq] at he
    obtain ⟨rfl, rfl, rfl⟩ := he
    exact h _ _ _ _ _ _ _ _ _ (hc _ (List.mem_cons_self ..))
  · cases he
def ofC : List D → GD.Heap → Option (D × GD.Heap × List Prop)
  | [.int .i64 n], [] => some (flatV (of32 n) n, [], [R n])
  | _, _ => none
theorem ofC_ok {f : Nat} {args : List D} {H : GD.Heap} {r : D} {H1 : GD.Heap} {cs : List Prop} (h : ∀ n, ∃ X, Ev c0.P c0.T (.call f [.int .i64 n] [] (flatV (of32 n) n) ([] ++ X)))
    (he : ofC args H = some (r, H1, cs)) : ∃ X, Ev c0.P c0.T (.call f args H r (H1 ++ X)) := by
  unfold ofC at he
  split at he
  · simp only [Option.some.injEq, Prod.mk.injEq] at he
    obtain ⟨rfl, rfl, rfl⟩ := he
    exact h _
  · cases he
def awC : List D → GD.Heap → Option (D × GD.Heap × List Prop)
  | [], [] => some (.bool true, [], [])
  | _, _ => none
noncomputable def smC : List D → GD.Heap → Option (D × GD.Heap × List Prop)
  | [.agg c], [] => some (.bool (smallB c), [], [VS c])
  | _, _ => none
def saC : List D → GD.Heap → Option (D × GD.Heap × List Prop)
  | [.agg [.int .i64 k, .int .i64 n, .str s, .slice false [] none, .slice false [] none, .slice false [] none], .agg [.int .i64 k', .int .i64 n', .str s', .slice false [] none, .slice false [] none, .slice false [] none]], [] => some (.bool (decide (k = k' ∧ n = n')), [], [s = ⟨#[]⟩, s' = ⟨#[]⟩])
  | _, _ => none
noncomputable def ct (k : FuncId) (args : List D) (H : GD.Heap) : Option (D × GD.Heap × List Prop) :=
  match k with
  | 13 => awC args H
  | 14 => smC args H
  | 15 => arC 45 args H
  | 16 => arC 46 args H
  | 21 => arC 47 args H
  | 22 => arC 48 args H
  | 23 => arC 49 args H
  | 17 => saC args H
  | 24 => abC args H
  | 26 => abC args H
  | 25 => twoC args H
  | 20 => ofC args H
  | 27 => ofC args H
  | _ => none

theorem ct_ok (k : FuncId) (args : List D) (H : GD.Heap) (r : D) (H1 : GD.Heap) (cs : List Prop) (he : ct k args H = some (r, H1, cs)) (hc : ∀ c ∈ cs, c) : ∃ X, Ev c0.P c0.T (.call k args H r (H1 ++ X)) := by
  unfold ct at he
  split at he
  · unfold awC at he
    split at he
    · simp only [Option.some.injEq, Prod.mk.injEq] at he
      obtain ⟨rfl, rfl, rfl⟩ := he
      exact awake13
    · cases he
  · unfold smC at he
    split at he
    · simp only [Option.some.injEq, Prod.mk.injEq] at he
      obtain ⟨rfl, rfl, rfl⟩ := he
      exact valk.small (hc _ (List.mem_cons_self ..))
    · cases he
  · exact arC_ok c15 he hc
  · exact arC_ok c16 he hc
  · exact arC_ok c21 he hc
  · exact arC_ok c22 he hc
  · exact arC_ok c23 he hc
  · unfold saC at he
    split at he
    · simp only [Option.some.injEq, Prod.mk.injEq] at he
      obtain ⟨rfl, rfl, rfl⟩ := he
      obtain rfl := hc _ (List.mem_cons_self ..)
      obtain rfl := hc _ (List.mem_cons_of_mem _ (List.mem_cons_self ..))
      exact c17 _ _ _ _
    · cases he
  · exact abC_ok c24 he hc
  · exact abC_ok c26 he hc
  · exact twoC_ok he hc
  · exact ofC_ok c20 he
  · exact ofC_ok c27 he
  · cases he

noncomputable def cN : Cf := { P := Try.prog, T := tyOf Try.prog, hint := fun _ _ _ => .sym, room := fun _ _ => 4, meth := fun _ _ => none, ct := ct, stop := true }
theorem cNOk : CfOk cN where
  hT := fun _ _ h => h
  hm := by kernel_rfl
  meth := fun _ _ _ h => by simp only [cN] at h; cases h
  ct := ct_ok
noncomputable def q (ka na : Int) (sa : ByteArray) (xba : Bool) (eba : Es) (xfa : Bool) (efa : Es) (xla : Bool) (ela : Es) (kb nb : Int) (sb : ByteArray) (xbb : Bool) (ebb : Es) (xfb : Bool) (efb : Es) (xlb : Bool) (elb : Es) (n : Int) (or : GD.Or) := callE cN 100000 10 5 [val ka na sa xba eba xfa efa xla ela, val kb nb sb xbb ebb xfb efb xlb elb, .int .i64 n] [] or
noncomputable def args (ka na : Int) (sa : ByteArray) (xba : Bool) (eba : Es) (xfa : Bool) (efa : Es) (xla : Bool) (ela : Es) (kb nb : Int) (sb : ByteArray) (xbb : Bool) (ebb : Es) (xfb : Bool) (efb : Es) (xlb : Bool) (elb : Es) (n : Int) : List D := [val ka na sa xba eba xfa efa xla ela, val kb nb sb xbb ebb xfb efb xlb elb, .int .i64 n]

theorem l5_5 (ka : Int) (na : Int) (sa : ByteArray) (xba : Bool) (eba : Es) (xfa : Bool) (efa : Es) (xla : Bool) (ela : Es) (kb : Int) (nb : Int) (sb : ByteArray) (xbb : Bool) (ebb : Es) (xfb : Bool) (efb : Es) (xlb : Bool) (elb : Es) (n : Int)
    (h0 : smallB
    [D.int IntKind.i64 ka, D.int IntKind.i64 na, D.str sa, D.slice xba eba none, D.slice xfa efa none,
      D.slice xla ela none] =
  true)
    (h1 : smallB
    [D.int IntKind.i64 kb, D.int IntKind.i64 nb, D.str sb, D.slice xbb ebb none, D.slice xfb efb none,
      D.slice xlb elb none] =
  true)
    (h2 : (arE (45 : Nat) ka na kb nb != arE (opOf (43 : Int)) ka na kb nb) = false)
    (h3 : decide
    (arK (45 : Nat) ka na kb nb = arK (opOf (43 : Int)) ka na kb nb ∧
      arN (45 : Nat) ka na kb nb = arN (opOf (43 : Int)) ka na kb nb) =
  true)
    (h4 : (arE (47 : Nat) ka na kb nb != arE (opOf (45 : Int)) ka na kb nb) = false)
    (h5 : decide
    (arK (47 : Nat) ka na kb nb = arK (opOf (45 : Int)) ka na kb nb ∧
      arN (47 : Nat) ka na kb nb = arN (opOf (45 : Int)) ka na kb nb) =
  true)
    (h6 : (arE (46 : Nat) ka na kb nb != arE (opOf (42 : Int)) ka na kb nb) = false)
    (h7 : decide
    (arK (46 : Nat) ka na kb nb = arK (opOf (42 : Int)) ka na kb nb ∧
      arN (46 : Nat) ka na kb nb = arN (opOf (42 : Int)) ka na kb nb) =
  true)
    (h8 : (arE (48 : Nat) ka na kb nb != arE (opOf (47 : Int)) ka na kb nb) = false)
    (h9 : decide
    (arK (48 : Nat) ka na kb nb = arK (opOf (47 : Int)) ka na kb nb ∧
      arN (48 : Nat) ka na kb nb = arN (opOf (47 : Int)) ka na kb nb) =
  true)
    (h10 : (arE (49 : Nat) ka na kb nb != arE (opOf (37 : Int)) ka na kb nb) = false)
    (h11 : decide
    (arK (49 : Nat) ka na kb nb = arK (opOf (37 : Int)) ka na kb nb ∧
      arN (49 : Nat) ka na kb nb = arN (opOf (37 : Int)) ka na kb nb) =
  true)
    (h12 : decide
    (arK (50 : Nat) ka na ka na = arK (50 : Nat) ka na ka na ∧
      arN (50 : Nat) ka na ka na = arN (50 : Nat) ka na ka na) =
  true)
    (h13 : (ByteArray.mk #[]) = (ByteArray.mk #[]))
    (h14 : R n)
    (h15 : R na)
    (h16 : R nb)
    (h17 : VS
  [D.int IntKind.i64 kb, D.int IntKind.i64 nb, D.str sb, D.slice xbb ebb none, D.slice xfb efb none,
    D.slice xlb elb none])
    (h18 : VS
  [D.int IntKind.i64 ka, D.int IntKind.i64 na, D.str sa, D.slice xba eba none, D.slice xfa efa none,
    D.slice xla ela none]) :
    ∃ X, Ev c0.P c0.T (.call 5 (args ka na sa xba eba xfa efa xla ela kb nb sb xbb ebb xfb efb xlb elb n) [] (D.bool (decide (of32 n = of32 n ∧ n = n))) ([] ++ X)) :=
  outC_ok cNOk (show outC 0 (q ka na sa xba eba xfa efa xla ela kb nb sb xbb ebb xfb efb xlb elb n (.path [false, true, true, true, false, false, true, true, true, true, false, false, true, true, true, true, false, false, true, true, true, true, false, false, true, true, true, true, false, false, true, true, true, true, false, false, true, true, true, true, true, true, true, true, true, true])) = some (D.bool (decide (of32 n = of32 n ∧ n = n)), [],
    [decide
    (arK (50 : Nat) ka na ka na = arK (50 : Nat) ka na ka na ∧
      arN (50 : Nat) ka na ka na = arN (50 : Nat) ka na ka na) =
  true,
      (ByteArray.mk #[]) = (ByteArray.mk #[]),
      (ByteArray.mk #[]) = (ByteArray.mk #[]),
      (decide
      (arK (50 : Nat) ka na ka na = arK (50 : Nat) ka na ka na ∧
        arN (50 : Nat) ka na ka na = arN (50 : Nat) ka na ka na) ==
    true) =
  true,
      R n,
      (decide
      (arK (50 : Nat) ka na ka na = arK (50 : Nat) ka na ka na ∧
        arN (50 : Nat) ka na ka na = arN (50 : Nat) ka na ka na) ==
    true) =
  true,
      (decide
      (arK (50 : Nat) ka na ka na = arK (50 : Nat) ka na ka na ∧
        arN (50 : Nat) ka na ka na = arN (50 : Nat) ka na ka na) ==
    true) =
  true,
      R n,
      (decide
      (arK (50 : Nat) ka na ka na = arK (50 : Nat) ka na ka na ∧
        arN (50 : Nat) ka na ka na = arN (50 : Nat) ka na ka na) ==
    true) =
  true,
      (decide
      (arK (50 : Nat) ka na ka na = arK (50 : Nat) ka na ka na ∧
        arN (50 : Nat) ka na ka na = arN (50 : Nat) ka na ka na) ==
    true) =
  true,
      (arE (50 : Nat) ka na ka na == arE (50 : Nat) ka na ka na) = true,
      (ByteArray.mk #[]) = (ByteArray.mk #[]),
      (ByteArray.mk #[]) = (ByteArray.mk #[]),
      ((arE (50 : Nat) ka na ka na == arE (50 : Nat) ka na ka na) == true) = true,
      ((arE (50 : Nat) ka na ka na == arE (50 : Nat) ka na ka na) == true) = true,
      ((arE (50 : Nat) ka na ka na == arE (50 : Nat) ka na ka na) == true) = true,
      R na,
      (!decide
      (arK (49 : Nat) ka na kb nb = arK (opOf (37 : Int)) ka na kb nb ∧
        arN (49 : Nat) ka na kb nb = arN (opOf (37 : Int)) ka na kb nb)) =
  false,
      (arE (49 : Nat) ka na kb nb != arE (opOf (37 : Int)) ka na kb nb) = false,
      ((arE (49 : Nat) ka na kb nb != arE (opOf (37 : Int)) ka na kb nb) == false) = true,
      (ByteArray.mk #[]) = (ByteArray.mk #[]),
      (ByteArray.mk #[]) = (ByteArray.mk #[]),
      ((arE (49 : Nat) ka na kb nb != arE (opOf (37 : Int)) ka na kb nb) == false) = true,
      ((arE (49 : Nat) ka na kb nb != arE (opOf (37 : Int)) ka na kb nb) == false) = true,
      ((arE (49 : Nat) ka na kb nb != arE (opOf (37 : Int)) ka na kb nb) == false) = true,
      R na,
      R nb,
      (!decide
      (arK (48 : Nat) ka na kb nb = arK (opOf (47 : Int)) ka na kb nb ∧
        arN (48 : Nat) ka na kb nb = arN (opOf (47 : Int)) ka na kb nb)) =
  false,
      (arE (48 : Nat) ka na kb nb != arE (opOf (47 : Int)) ka na kb nb) = false,
      ((arE (48 : Nat) ka na kb nb != arE (opOf (47 : Int)) ka na kb nb) == false) = true,
      (ByteArray.mk #[]) = (ByteArray.mk #[]),
      (ByteArray.mk #[]) = (ByteArray.mk #[]),
      ((arE (48 : Nat) ka na kb nb != arE (opOf (47 : Int)) ka na kb nb) == false) = true,
      ((arE (48 : Nat) ka na kb nb != arE (opOf (47 : Int)) ka na kb nb) == false) = true,
      ((arE (48 : Nat) ka na kb nb != arE (opOf (47 : Int)) ka na kb nb) == false) = true,
      R na,
      R nb,
      (!decide
      (arK (46 : Nat) ka na kb nb = arK (opOf (42 : Int)) ka na kb nb ∧
        arN (46 : Nat) ka na kb nb = arN (opOf (42 : Int)) ka na kb nb)) =
  false,
      (arE (46 : Nat) ka na kb nb != arE (opOf (42 : Int)) ka na kb nb) = false,
      ((arE (46 : Nat) ka na kb nb != arE (opOf (42 : Int)) ka na kb nb) == false) = true,
      (ByteArray.mk #[]) = (ByteArray.mk #[]),
      (ByteArray.mk #[]) = (ByteArray.mk #[]),
      ((arE (46 : Nat) ka na kb nb != arE (opOf (42 : Int)) ka na kb nb) == false) = true,
      ((arE (46 : Nat) ka na kb nb != arE (opOf (42 : Int)) ka na kb nb) == false) = true,
      ((arE (46 : Nat) ka na kb nb != arE (opOf (42 : Int)) ka na kb nb) == false) = true,
      R na,
      R nb,
      (!decide
      (arK (47 : Nat) ka na kb nb = arK (opOf (45 : Int)) ka na kb nb ∧
        arN (47 : Nat) ka na kb nb = arN (opOf (45 : Int)) ka na kb nb)) =
  false,
      (arE (47 : Nat) ka na kb nb != arE (opOf (45 : Int)) ka na kb nb) = false,
      ((arE (47 : Nat) ka na kb nb != arE (opOf (45 : Int)) ka na kb nb) == false) = true,
      (ByteArray.mk #[]) = (ByteArray.mk #[]),
      (ByteArray.mk #[]) = (ByteArray.mk #[]),
      ((arE (47 : Nat) ka na kb nb != arE (opOf (45 : Int)) ka na kb nb) == false) = true,
      ((arE (47 : Nat) ka na kb nb != arE (opOf (45 : Int)) ka na kb nb) == false) = true,
      ((arE (47 : Nat) ka na kb nb != arE (opOf (45 : Int)) ka na kb nb) == false) = true,
      R na,
      R nb,
      (!decide
      (arK (45 : Nat) ka na kb nb = arK (opOf (43 : Int)) ka na kb nb ∧
        arN (45 : Nat) ka na kb nb = arN (opOf (43 : Int)) ka na kb nb)) =
  false,
      (arE (45 : Nat) ka na kb nb != arE (opOf (43 : Int)) ka na kb nb) = false,
      ((arE (45 : Nat) ka na kb nb != arE (opOf (43 : Int)) ka na kb nb) == false) = true,
      (ByteArray.mk #[]) = (ByteArray.mk #[]),
      (ByteArray.mk #[]) = (ByteArray.mk #[]),
      ((arE (45 : Nat) ka na kb nb != arE (opOf (43 : Int)) ka na kb nb) == false) = true,
      ((arE (45 : Nat) ka na kb nb != arE (opOf (43 : Int)) ka na kb nb) == false) = true,
      ((arE (45 : Nat) ka na kb nb != arE (opOf (43 : Int)) ka na kb nb) == false) = true,
      R na,
      R nb,
      R na,
      R na,
      R nb,
      R na,
      R nb,
      R na,
      R nb,
      R na,
      R nb,
      R na,
      R nb,
      (!smallB
      [D.int IntKind.i64 kb, D.int IntKind.i64 nb, D.str sb, D.slice xbb ebb none, D.slice xfb efb none,
        D.slice xlb elb none]) =
  false,
      (!smallB
      [D.int IntKind.i64 ka, D.int IntKind.i64 na, D.str sa, D.slice xba eba none, D.slice xfa efa none,
        D.slice xla ela none]) =
  false,
      ((!smallB
        [D.int IntKind.i64 ka, D.int IntKind.i64 na, D.str sa, D.slice xba eba none, D.slice xfa efa none,
          D.slice xla ela none]) ==
    false) =
  true,
      VS
  [D.int IntKind.i64 kb, D.int IntKind.i64 nb, D.str sb, D.slice xbb ebb none, D.slice xfb efb none,
    D.slice xlb elb none],
      ((!smallB
        [D.int IntKind.i64 ka, D.int IntKind.i64 na, D.str sa, D.slice xba eba none, D.slice xfa efa none,
          D.slice xla ela none]) ==
    false) =
  true,
      ((!smallB
        [D.int IntKind.i64 ka, D.int IntKind.i64 na, D.str sa, D.slice xba eba none, D.slice xfa efa none,
          D.slice xla ela none]) ==
    false) =
  true,
      VS
  [D.int IntKind.i64 ka, D.int IntKind.i64 na, D.str sa, D.slice xba eba none, D.slice xfa efa none,
    D.slice xla ela none],
      (!true) = false]) by kernel_rfl) (by simp only [all_cons, all_nil]; simp [*])

theorem l5_12 (ka : Int) (na : Int) (sa : ByteArray) (xba : Bool) (eba : Es) (xfa : Bool) (efa : Es) (xla : Bool) (ela : Es) (kb : Int) (nb : Int) (sb : ByteArray) (xbb : Bool) (ebb : Es) (xfb : Bool) (efb : Es) (xlb : Bool) (elb : Es) (n : Int)
    (h0 : smallB
    [D.int IntKind.i64 ka, D.int IntKind.i64 na, D.str sa, D.slice xba eba none, D.slice xfa efa none,
      D.slice xla ela none] =
  true)
    (h1 : smallB
    [D.int IntKind.i64 kb, D.int IntKind.i64 nb, D.str sb, D.slice xbb ebb none, D.slice xfb efb none,
      D.slice xlb elb none] =
  false)
    (h2 : VS
  [D.int IntKind.i64 kb, D.int IntKind.i64 nb, D.str sb, D.slice xbb ebb none, D.slice xfb efb none,
    D.slice xlb elb none])
    (h3 : VS
  [D.int IntKind.i64 ka, D.int IntKind.i64 na, D.str sa, D.slice xba eba none, D.slice xfa efa none,
    D.slice xla ela none]) :
    ∃ X, Ev c0.P c0.T (.call 5 (args ka na sa xba eba xfa efa xla ela kb nb sb xbb ebb xfb efb xlb elb n) [] (D.bool true) ([] ++ X)) :=
  outC_ok cNOk (show outC 0 (q ka na sa xba eba xfa efa xla ela kb nb sb xbb ebb xfb efb xlb elb n (.path [false, true, true, true, false, true])) = some (D.bool true, [],
    [(!smallB
      [D.int IntKind.i64 kb, D.int IntKind.i64 nb, D.str sb, D.slice xbb ebb none, D.slice xfb efb none,
        D.slice xlb elb none]) =
  true,
      (!smallB
      [D.int IntKind.i64 ka, D.int IntKind.i64 na, D.str sa, D.slice xba eba none, D.slice xfa efa none,
        D.slice xla ela none]) =
  false,
      ((!smallB
        [D.int IntKind.i64 ka, D.int IntKind.i64 na, D.str sa, D.slice xba eba none, D.slice xfa efa none,
          D.slice xla ela none]) ==
    false) =
  true,
      VS
  [D.int IntKind.i64 kb, D.int IntKind.i64 nb, D.str sb, D.slice xbb ebb none, D.slice xfb efb none,
    D.slice xlb elb none],
      ((!smallB
        [D.int IntKind.i64 ka, D.int IntKind.i64 na, D.str sa, D.slice xba eba none, D.slice xfa efa none,
          D.slice xla ela none]) ==
    false) =
  true,
      ((!smallB
        [D.int IntKind.i64 ka, D.int IntKind.i64 na, D.str sa, D.slice xba eba none, D.slice xfa efa none,
          D.slice xla ela none]) ==
    false) =
  true,
      VS
  [D.int IntKind.i64 ka, D.int IntKind.i64 na, D.str sa, D.slice xba eba none, D.slice xfa efa none,
    D.slice xla ela none],
      (!true) = false]) by kernel_rfl) (by simp only [all_cons, all_nil]; simp [*])

theorem l5_13 (ka : Int) (na : Int) (sa : ByteArray) (xba : Bool) (eba : Es) (xfa : Bool) (efa : Es) (xla : Bool) (ela : Es) (kb : Int) (nb : Int) (sb : ByteArray) (xbb : Bool) (ebb : Es) (xfb : Bool) (efb : Es) (xlb : Bool) (elb : Es) (n : Int)
    (h0 : smallB
    [D.int IntKind.i64 ka, D.int IntKind.i64 na, D.str sa, D.slice xba eba none, D.slice xfa efa none,
      D.slice xla ela none] =
  false)
    (h1 : VS
  [D.int IntKind.i64 ka, D.int IntKind.i64 na, D.str sa, D.slice xba eba none, D.slice xfa efa none,
    D.slice xla ela none]) :
    ∃ X, Ev c0.P c0.T (.call 5 (args ka na sa xba eba xfa efa xla ela kb nb sb xbb ebb xfb efb xlb elb n) [] (D.bool true) ([] ++ X)) :=
  outC_ok cNOk (show outC 0 (q ka na sa xba eba xfa efa xla ela kb nb sb xbb ebb xfb efb xlb elb n (.path [false, false, false, false, true, true])) = some (D.bool true, [],
    [true = true,
      (!smallB
      [D.int IntKind.i64 ka, D.int IntKind.i64 na, D.str sa, D.slice xba eba none, D.slice xfa efa none,
        D.slice xla ela none]) =
  true,
      ((!smallB
        [D.int IntKind.i64 ka, D.int IntKind.i64 na, D.str sa, D.slice xba eba none, D.slice xfa efa none,
          D.slice xla ela none]) ==
    false) =
  false,
      ((!smallB
        [D.int IntKind.i64 ka, D.int IntKind.i64 na, D.str sa, D.slice xba eba none, D.slice xfa efa none,
          D.slice xla ela none]) ==
    false) =
  false,
      ((!smallB
        [D.int IntKind.i64 ka, D.int IntKind.i64 na, D.str sa, D.slice xba eba none, D.slice xfa efa none,
          D.slice xla ela none]) ==
    false) =
  false,
      VS
  [D.int IntKind.i64 ka, D.int IntKind.i64 na, D.str sa, D.slice xba eba none, D.slice xfa efa none,
    D.slice xla ela none],
      (!true) = false]) by kernel_rfl) (by simp only [all_cons, all_nil]; simp [*])


theorem l5_ct (ka na : Int) (sa : ByteArray) (xba : Bool) (eba : Es) (xfa : Bool) (efa : Es) (xla : Bool) (ela : Es) (kb nb : Int) (sb : ByteArray) (xbb : Bool) (ebb : Es) (xfb : Bool) (efb : Es) (xlb : Bool) (elb : Es) (n : Int) (hRa : R na) (hRb : R nb) (hRn : R n) (hVa : VS [D.int IntKind.i64 ka, D.int IntKind.i64 na, D.str sa, D.slice xba eba none, D.slice xfa efa none, D.slice xla ela none]) (hVb : VS [D.int IntKind.i64 kb, D.int IntKind.i64 nb, D.str sb, D.slice xbb ebb none, D.slice xfb efb none, D.slice xlb elb none]) :
    ∃ X, Ev c0.P c0.T (.call 5 (args ka na sa xba eba xfa efa xla ela kb nb sb xbb ebb xfb efb xlb elb n) [] (.bool true) ([] ++ X)) := by
  cases g1 : smallB [D.int IntKind.i64 ka, D.int IntKind.i64 na, D.str sa, D.slice xba eba none, D.slice xfa efa none, D.slice xla ela none] with
  | false => exact l5_13 ka na sa xba eba xfa efa xla ela kb nb sb xbb ebb xfb efb xlb elb n g1 hVa
  | true =>
    cases g2 : smallB [D.int IntKind.i64 kb, D.int IntKind.i64 nb, D.str sb, D.slice xbb ebb none, D.slice xfb efb none, D.slice xlb elb none] with
    | false => exact l5_12 ka na sa xba eba xfa efa xla ela kb nb sb xbb ebb xfb efb xlb elb n g1 g2 hVb hVa
    | true =>
      have o1 : opOf 43 = 45 := by decide
      have o2 : opOf 45 = 47 := by decide
      have o3 : opOf 42 = 46 := by decide
      have o4 : opOf 47 = 48 := by decide
      have o5 : opOf 37 = 49 := by decide
      have h := l5_5 ka na sa xba eba xfa efa xla ela kb nb sb xbb ebb xfb efb xlb elb n g1 g2 (by simp [o1]) (by simp [o1]) (by simp [o2]) (by simp [o2]) (by simp [o3]) (by simp [o3]) (by simp [o4]) (by simp [o4]) (by simp [o5]) (by simp [o5]) (by simp) rfl hRn hRa hRb hVb hVa
      have e : decide (of32 n = of32 n ∧ n = n) = true := by simp
      rw [e] at h
      exact h

/-- The law, of any two values and any number. -/
theorem law {ca cb : List D} (ha : valk.VS ca) (hb : valk.VS cb) {n : Int} (hn : R n) : ∃ H1, Ev c0.P c0.T (.call 5 [.agg ca, .agg cb, .int .i64 n] [] (.bool true) H1) := by
  have ha' := ha
  have hb' := hb
  cases ha with
  | mk ka na sa xba eba xfa efa xla ela bsa hka hna hsa hba hba' lba lfa lla nba nfa nla hfa hfva hla =>
    cases hb with
    | mk kb nb sb xbb ebb xfb efb xlb elb bsb hkb hnb hsb hbb hbb' lbb lfb llb nbb nfb nlb hfb hfvb hlb =>
      obtain ⟨X, h⟩ := l5_ct ka na sa xba eba xfa efa xla ela kb nb sb xbb ebb xfb efb xlb elb n hna hnb hn ha' hb'
      exact ⟨_, h⟩

end Go.Proofs.Ytbkacmcijimbfaa.numReckons
