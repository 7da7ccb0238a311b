/- PROVED: the law LedgerKeeps hands back true, whatever the budget and the numbers. No conditions. -/
import Derived.Test.YtifpbdhggooelaaLedgerKit
import Derived.Test.YtifpbdhggooelaaGd30
namespace Go.Proofs.Ytifpbdhggooelaa.ledgerKeeps
open Go Ytifpbdhggooelaa.GD Ytifpbdhggooelaa.ledger
set_option linter.unusedVariables false
set_option linter.unusedSimpArgs false

noncomputable def cf (n : Int) : Cf := { P := Try.prog, T := tyOf Try.prog, hint := fun f _ _ => match f with | 4 => .c [.int .u16 n] | _ => .sym, room := fun _ _ => 2, meth := fun _ _ => none, ct := ct, stop := true }
noncomputable def bodyOf (f : Nat) : Code := match Try.prog.funcs[f]? with | some fn => (match fn.body with | some c => c | none => .skip) | none => .skip
noncomputable def fnOf (f : Nat) : Func := match Try.prog.funcs[f]? with | some fn => fn | none => default
noncomputable def rows (l : List Int) : List (List D) := l.map fun p => [.int .u16 p]
noncomputable def run0 (b : Int) (nn : Bool) (l : List Int) (or : GD.Or) := runE (cf 0) (callE (cf 0) 100000 10) 4 100000 (.code (bodyOf 4)) [] (beginE (fnOf 4) [.int .u16 b, .slice nn (rows l) none] []) or []
noncomputable def s0 := run0 0 false [] (.path [false, false, false])
noncomputable def loopC : Code := stC s0
noncomputable def loopK : List It := stK s0
noncomputable def inv (b : Int) (nn : Bool) (l : List Int) (i B h mo : Int) : St := ⟨[.int .u16 b, .slice nn (rows l) none, .undef, .undef, .undef, .ptr 0 0 0, .int .i64 h, .int .i64 mo, .int .i64 i] ++ List.replicate 107 .undef, [some (.row 3 [[.int .i64 B, .int .i64 h, .int .i64 mo]])]⟩
noncomputable def run (b : Int) (nn : Bool) (l : List Int) (i B h mo n : Int) (or : GD.Or) := runE (cf n) (callE (cf n) 100000 10) 4 100000 (.code loopC) [] (inv b nn l i B h mo) or []
noncomputable def run2 (b : Int) (nn : Bool) (l : List Int) (i B h mo : Int) (or : GD.Or) := runE (cf 0) (callE (cf 0) 100000 10) 4 100000 (.done (.exit 0)) loopK (inv b nn l i B h mo) or []

theorem cfOk (n : Int) : CfOk (cf n) where
  hT := fun _ _ h => h
  hm := by kernel_rfl
  meth := fun _ _ _ h => by simp only [cf] at h; cases h
  ct := ct_ok

def yes : List D := List.replicate 4 .undef ++ [.bool true] ++ List.replicate 111 .undef
def cl (b : Int) : Int := if 16777216 < if 0 > b then 0 else b then 16777216 else if 0 > b then 0 else b

theorem p4a_0 (b : Int) (nn : Bool) (l : List Int) : cutF [4] 0 (run0 b nn l (.path [false, true])) = some (.ret, yes, [], [decide (((rows l).length : Int) > 100) = true, (!true) = false]) := by kernel_rfl
theorem p4a_1 (b : Int) (nn : Bool) (l : List Int) : cutS [0, 1, 5, 6, 7, 8] 1 (run0 b nn l (.path [false, false, false])) = some (loopC, loopK, (inv b nn l 0 (cl (IntKind.i64.wrap b)) 0 0).env, (inv b nn l 0 (cl (IntKind.i64.wrap b)) 0 0).H,
    [false = false, decide (((rows l).length : Int) > 100) = false, (!true) = false]) := by kernel_rfl

theorem p4b_3 (b : Int) (nn : Bool) (l : List Int) (i : Int) (B : Int) (h : Int) (mo : Int) (n : Int)
    (h0 : decide (i < ↑(rows l).length) = true)
    (h1 : (fOk B h (IntKind.i64.wrap n) == decide (IntKind.i64.wrap (h + IntKind.i64.wrap n) ≤ IntKind.i64.wrap b)) = true)
    (h2 : tOk h (IntKind.i64.wrap n) = true)
    (h3 : (tH h (IntKind.i64.wrap n) != IntKind.i64.wrap (h + IntKind.i64.wrap n)) = false)
    (h4 : (tM h mo (IntKind.i64.wrap n) !=
    if IntKind.i64.wrap (h + IntKind.i64.wrap n) > mo then IntKind.i64.wrap (h + IntKind.i64.wrap n) else mo) =
  false)
    (h5 : gOk (tH h (IntKind.i64.wrap n)) (IntKind.i64.wrap (IntKind.i64.wrap (h + IntKind.i64.wrap n) + (1 : Int))) = false)
    (h6 : ((IntKind.i64.wrap n).tmod (2 : Int) == (1 : Int)) = true)
    (h7 : gOk (gH (tH h (IntKind.i64.wrap n)) (IntKind.i64.wrap (IntKind.i64.wrap (h + IntKind.i64.wrap n) + (1 : Int))))
    (IntKind.i64.wrap n) =
  true)
    (h8 : ledger.Good B
  (gH (tH h (IntKind.i64.wrap n)) (IntKind.i64.wrap (IntKind.i64.wrap (h + IntKind.i64.wrap n) + (1 : Int))))
  (tM h mo (IntKind.i64.wrap n)) (IntKind.i64.wrap n))
    (h9 : (2 : Int) ≠ (0 : Int))
    (h10 : ledger.Good B (tH h (IntKind.i64.wrap n)) (tM h mo (IntKind.i64.wrap n))
  (IntKind.i64.wrap (IntKind.i64.wrap (h + IntKind.i64.wrap n) + (1 : Int))))
    (h11 : ledger.Good B h mo (IntKind.i64.wrap n))
    (h12 : (0 : Int) ≤ i)
    (h13 : (rows l)[i.toNat]? = some [D.int IntKind.u16 n]) :
    RoadOk c0.P c0.T 0 (.code loopC) [] (inv b nn l i B h mo) (Ex.normal) [0, 1, 5, 6, 7, 8] 1 ([D.int IntKind.u16 b, D.slice nn (rows l) none, D.undef, D.undef, D.undef, D.ptr (0 : Nat) (0 : Nat) (0 : Nat),
  D.int IntKind.i64 (IntKind.i64.wrap (IntKind.i64.wrap (h + IntKind.i64.wrap n) - IntKind.i64.wrap n)),
  D.int IntKind.i64
    (if IntKind.i64.wrap (h + IntKind.i64.wrap n) > mo then IntKind.i64.wrap (h + IntKind.i64.wrap n) else mo),
  D.int IntKind.i64 (IntKind.i64.wrap (i + (1 : Int)))] ++ List.replicate 107 .undef) [some
    (HObj.row (3 : Nat)
      [[D.int IntKind.i64 B,
          D.int IntKind.i64
            (gH
              (gH (tH h (IntKind.i64.wrap n))
                (IntKind.i64.wrap (IntKind.i64.wrap (h + IntKind.i64.wrap n) + (1 : Int))))
              (IntKind.i64.wrap n)),
          D.int IntKind.i64 (tM h mo (IntKind.i64.wrap n))]])] :=
  road_fin (cfOk n) (show cutF [0, 1, 5, 6, 7, 8] 1 (run b nn l i B h mo n (.path [true, true, true, true, true, false, false, true, true, true, true, false, true, true, true, true, false, false, true, false])) = some (Ex.normal, [D.int IntKind.u16 b, D.slice nn (rows l) none, D.undef, D.undef, D.undef, D.ptr (0 : Nat) (0 : Nat) (0 : Nat),
  D.int IntKind.i64 (IntKind.i64.wrap (IntKind.i64.wrap (h + IntKind.i64.wrap n) - IntKind.i64.wrap n)),
  D.int IntKind.i64
    (if IntKind.i64.wrap (h + IntKind.i64.wrap n) > mo then IntKind.i64.wrap (h + IntKind.i64.wrap n) else mo),
  D.int IntKind.i64 (IntKind.i64.wrap (i + (1 : Int)))] ++ List.replicate 107 .undef, [some
    (HObj.row (3 : Nat)
      [[D.int IntKind.i64 B,
          D.int IntKind.i64
            (gH
              (gH (tH h (IntKind.i64.wrap n))
                (IntKind.i64.wrap (IntKind.i64.wrap (h + IntKind.i64.wrap n) + (1 : Int))))
              (IntKind.i64.wrap n)),
          D.int IntKind.i64 (tM h mo (IntKind.i64.wrap n))]])],
    [(!gOk (gH (tH h (IntKind.i64.wrap n)) (IntKind.i64.wrap (IntKind.i64.wrap (h + IntKind.i64.wrap n) + (1 : Int))))
      (IntKind.i64.wrap n)) =
  false,
      ledger.Good B
  (gH (tH h (IntKind.i64.wrap n)) (IntKind.i64.wrap (IntKind.i64.wrap (h + IntKind.i64.wrap n) + (1 : Int))))
  (tM h mo (IntKind.i64.wrap n)) (IntKind.i64.wrap n),
      ((IntKind.i64.wrap n).tmod (2 : Int) == (1 : Int)) = true,
      (2 : Int) ≠ (0 : Int),
      gOk (tH h (IntKind.i64.wrap n)) (IntKind.i64.wrap (IntKind.i64.wrap (h + IntKind.i64.wrap n) + (1 : Int))) = false,
      (tM h mo (IntKind.i64.wrap n) !=
    if IntKind.i64.wrap (h + IntKind.i64.wrap n) > mo then IntKind.i64.wrap (h + IntKind.i64.wrap n) else mo) =
  false,
      ledger.Good B (tH h (IntKind.i64.wrap n)) (tM h mo (IntKind.i64.wrap n))
  (IntKind.i64.wrap (IntKind.i64.wrap (h + IntKind.i64.wrap n) + (1 : Int))),
      ((tM h mo (IntKind.i64.wrap n) !=
      if IntKind.i64.wrap (h + IntKind.i64.wrap n) > mo then IntKind.i64.wrap (h + IntKind.i64.wrap n) else mo) ==
    false) =
  true,
      ((tM h mo (IntKind.i64.wrap n) !=
      if IntKind.i64.wrap (h + IntKind.i64.wrap n) > mo then IntKind.i64.wrap (h + IntKind.i64.wrap n) else mo) ==
    false) =
  true,
      ((tM h mo (IntKind.i64.wrap n) !=
      if IntKind.i64.wrap (h + IntKind.i64.wrap n) > mo then IntKind.i64.wrap (h + IntKind.i64.wrap n) else mo) ==
    false) =
  true,
      ((tM h mo (IntKind.i64.wrap n) !=
      if IntKind.i64.wrap (h + IntKind.i64.wrap n) > mo then IntKind.i64.wrap (h + IntKind.i64.wrap n) else mo) ==
    false) =
  true,
      (tH h (IntKind.i64.wrap n) != IntKind.i64.wrap (h + IntKind.i64.wrap n)) = false,
      ((tH h (IntKind.i64.wrap n) != IntKind.i64.wrap (h + IntKind.i64.wrap n)) == false) = true,
      ((tH h (IntKind.i64.wrap n) != IntKind.i64.wrap (h + IntKind.i64.wrap n)) == false) = true,
      ((tH h (IntKind.i64.wrap n) != IntKind.i64.wrap (h + IntKind.i64.wrap n)) == false) = true,
      ((tH h (IntKind.i64.wrap n) != IntKind.i64.wrap (h + IntKind.i64.wrap n)) == false) = true,
      (!tOk h (IntKind.i64.wrap n)) = false,
      (!fOk B h (IntKind.i64.wrap n) == decide (IntKind.i64.wrap (h + IntKind.i64.wrap n) ≤ IntKind.i64.wrap b)) = false,
      ((!fOk B h (IntKind.i64.wrap n) == decide (IntKind.i64.wrap (h + IntKind.i64.wrap n) ≤ IntKind.i64.wrap b)) == false) =
  true,
      ledger.Good B h mo (IntKind.i64.wrap n),
      ((!fOk B h (IntKind.i64.wrap n) == decide (IntKind.i64.wrap (h + IntKind.i64.wrap n) ≤ IntKind.i64.wrap b)) == false) =
  true,
      ((!fOk B h (IntKind.i64.wrap n) == decide (IntKind.i64.wrap (h + IntKind.i64.wrap n) ≤ IntKind.i64.wrap b)) == false) =
  true,
      ((!fOk B h (IntKind.i64.wrap n) == decide (IntKind.i64.wrap (h + IntKind.i64.wrap n) ≤ IntKind.i64.wrap b)) == false) =
  true,
      ledger.Good B h mo (IntKind.i64.wrap n),
      (0 : Int) ≤ i,
      (rows l)[i.toNat]? = some [D.int IntKind.u16 n],
      decide (i < ↑(rows l).length) = true]) by kernel_rfl) (by simp only [all_cons, all_nil]; simp [*])

theorem p4b_5 (b : Int) (nn : Bool) (l : List Int) (i : Int) (B : Int) (h : Int) (mo : Int) (n : Int)
    (h0 : decide (i < ↑(rows l).length) = true)
    (h1 : (fOk B h (IntKind.i64.wrap n) == decide (IntKind.i64.wrap (h + IntKind.i64.wrap n) ≤ IntKind.i64.wrap b)) = true)
    (h2 : tOk h (IntKind.i64.wrap n) = true)
    (h3 : (tH h (IntKind.i64.wrap n) != IntKind.i64.wrap (h + IntKind.i64.wrap n)) = false)
    (h4 : (tM h mo (IntKind.i64.wrap n) !=
    if IntKind.i64.wrap (h + IntKind.i64.wrap n) > mo then IntKind.i64.wrap (h + IntKind.i64.wrap n) else mo) =
  false)
    (h5 : gOk (tH h (IntKind.i64.wrap n)) (IntKind.i64.wrap (IntKind.i64.wrap (h + IntKind.i64.wrap n) + (1 : Int))) = false)
    (h6 : ((IntKind.i64.wrap n).tmod (2 : Int) == (1 : Int)) = false)
    (h7 : (2 : Int) ≠ (0 : Int))
    (h8 : ledger.Good B (tH h (IntKind.i64.wrap n)) (tM h mo (IntKind.i64.wrap n))
  (IntKind.i64.wrap (IntKind.i64.wrap (h + IntKind.i64.wrap n) + (1 : Int))))
    (h9 : ledger.Good B h mo (IntKind.i64.wrap n))
    (h10 : (0 : Int) ≤ i)
    (h11 : (rows l)[i.toNat]? = some [D.int IntKind.u16 n]) :
    RoadOk c0.P c0.T 0 (.code loopC) [] (inv b nn l i B h mo) (Ex.normal) [0, 1, 5, 6, 7, 8] 1 ([D.int IntKind.u16 b, D.slice nn (rows l) none, D.undef, D.undef, D.undef, D.ptr (0 : Nat) (0 : Nat) (0 : Nat),
  D.int IntKind.i64 (IntKind.i64.wrap (h + IntKind.i64.wrap n)),
  D.int IntKind.i64
    (if IntKind.i64.wrap (h + IntKind.i64.wrap n) > mo then IntKind.i64.wrap (h + IntKind.i64.wrap n) else mo),
  D.int IntKind.i64 (IntKind.i64.wrap (i + (1 : Int)))] ++ List.replicate 107 .undef) [some
    (HObj.row (3 : Nat)
      [[D.int IntKind.i64 B,
          D.int IntKind.i64
            (gH (tH h (IntKind.i64.wrap n)) (IntKind.i64.wrap (IntKind.i64.wrap (h + IntKind.i64.wrap n) + (1 : Int)))),
          D.int IntKind.i64 (tM h mo (IntKind.i64.wrap n))]])] :=
  road_fin (cfOk n) (show cutF [0, 1, 5, 6, 7, 8] 1 (run b nn l i B h mo n (.path [true, true, true, true, true, false, false, true, true, true, true, false, true, true, true, true, false, false, false])) = some (Ex.normal, [D.int IntKind.u16 b, D.slice nn (rows l) none, D.undef, D.undef, D.undef, D.ptr (0 : Nat) (0 : Nat) (0 : Nat),
  D.int IntKind.i64 (IntKind.i64.wrap (h + IntKind.i64.wrap n)),
  D.int IntKind.i64
    (if IntKind.i64.wrap (h + IntKind.i64.wrap n) > mo then IntKind.i64.wrap (h + IntKind.i64.wrap n) else mo),
  D.int IntKind.i64 (IntKind.i64.wrap (i + (1 : Int)))] ++ List.replicate 107 .undef, [some
    (HObj.row (3 : Nat)
      [[D.int IntKind.i64 B,
          D.int IntKind.i64
            (gH (tH h (IntKind.i64.wrap n)) (IntKind.i64.wrap (IntKind.i64.wrap (h + IntKind.i64.wrap n) + (1 : Int)))),
          D.int IntKind.i64 (tM h mo (IntKind.i64.wrap n))]])],
    [((IntKind.i64.wrap n).tmod (2 : Int) == (1 : Int)) = false,
      (2 : Int) ≠ (0 : Int),
      gOk (tH h (IntKind.i64.wrap n)) (IntKind.i64.wrap (IntKind.i64.wrap (h + IntKind.i64.wrap n) + (1 : Int))) = false,
      (tM h mo (IntKind.i64.wrap n) !=
    if IntKind.i64.wrap (h + IntKind.i64.wrap n) > mo then IntKind.i64.wrap (h + IntKind.i64.wrap n) else mo) =
  false,
      ledger.Good B (tH h (IntKind.i64.wrap n)) (tM h mo (IntKind.i64.wrap n))
  (IntKind.i64.wrap (IntKind.i64.wrap (h + IntKind.i64.wrap n) + (1 : Int))),
      ((tM h mo (IntKind.i64.wrap n) !=
      if IntKind.i64.wrap (h + IntKind.i64.wrap n) > mo then IntKind.i64.wrap (h + IntKind.i64.wrap n) else mo) ==
    false) =
  true,
      ((tM h mo (IntKind.i64.wrap n) !=
      if IntKind.i64.wrap (h + IntKind.i64.wrap n) > mo then IntKind.i64.wrap (h + IntKind.i64.wrap n) else mo) ==
    false) =
  true,
      ((tM h mo (IntKind.i64.wrap n) !=
      if IntKind.i64.wrap (h + IntKind.i64.wrap n) > mo then IntKind.i64.wrap (h + IntKind.i64.wrap n) else mo) ==
    false) =
  true,
      ((tM h mo (IntKind.i64.wrap n) !=
      if IntKind.i64.wrap (h + IntKind.i64.wrap n) > mo then IntKind.i64.wrap (h + IntKind.i64.wrap n) else mo) ==
    false) =
  true,
      (tH h (IntKind.i64.wrap n) != IntKind.i64.wrap (h + IntKind.i64.wrap n)) = false,
      ((tH h (IntKind.i64.wrap n) != IntKind.i64.wrap (h + IntKind.i64.wrap n)) == false) = true,
      ((tH h (IntKind.i64.wrap n) != IntKind.i64.wrap (h + IntKind.i64.wrap n)) == false) = true,
      ((tH h (IntKind.i64.wrap n) != IntKind.i64.wrap (h + IntKind.i64.wrap n)) == false) = true,
      ((tH h (IntKind.i64.wrap n) != IntKind.i64.wrap (h + IntKind.i64.wrap n)) == false) = true,
      (!tOk h (IntKind.i64.wrap n)) = false,
      (!fOk B h (IntKind.i64.wrap n) == decide (IntKind.i64.wrap (h + IntKind.i64.wrap n) ≤ IntKind.i64.wrap b)) = false,
      ((!fOk B h (IntKind.i64.wrap n) == decide (IntKind.i64.wrap (h + IntKind.i64.wrap n) ≤ IntKind.i64.wrap b)) == false) =
  true,
      ledger.Good B h mo (IntKind.i64.wrap n),
      ((!fOk B h (IntKind.i64.wrap n) == decide (IntKind.i64.wrap (h + IntKind.i64.wrap n) ≤ IntKind.i64.wrap b)) == false) =
  true,
      ((!fOk B h (IntKind.i64.wrap n) == decide (IntKind.i64.wrap (h + IntKind.i64.wrap n) ≤ IntKind.i64.wrap b)) == false) =
  true,
      ((!fOk B h (IntKind.i64.wrap n) == decide (IntKind.i64.wrap (h + IntKind.i64.wrap n) ≤ IntKind.i64.wrap b)) == false) =
  true,
      ledger.Good B h mo (IntKind.i64.wrap n),
      (0 : Int) ≤ i,
      (rows l)[i.toNat]? = some [D.int IntKind.u16 n],
      decide (i < ↑(rows l).length) = true]) by kernel_rfl) (by simp only [all_cons, all_nil]; simp [*])

theorem p4b_8 (b : Int) (nn : Bool) (l : List Int) (i : Int) (B : Int) (h : Int) (mo : Int) (n : Int)
    (h0 : decide (i < ↑(rows l).length) = false) :
    RoadOk c0.P c0.T 0 (.code loopC) [] (inv b nn l i B h mo) (Ex.exit (0 : Nat)) [0, 1, 5, 6, 7, 8] 1 ([D.int IntKind.u16 b, D.slice nn (rows l) none, D.undef, D.undef, D.undef, D.ptr (0 : Nat) (0 : Nat) (0 : Nat),
  D.int IntKind.i64 h, D.int IntKind.i64 mo, D.int IntKind.i64 i] ++ List.replicate 107 .undef) [some (HObj.row (3 : Nat) [[D.int IntKind.i64 B, D.int IntKind.i64 h, D.int IntKind.i64 mo]])] :=
  road_fin (cfOk n) (show cutF [0, 1, 5, 6, 7, 8] 1 (run b nn l i B h mo n (.path [false])) = some (Ex.exit (0 : Nat), [D.int IntKind.u16 b, D.slice nn (rows l) none, D.undef, D.undef, D.undef, D.ptr (0 : Nat) (0 : Nat) (0 : Nat),
  D.int IntKind.i64 h, D.int IntKind.i64 mo, D.int IntKind.i64 i] ++ List.replicate 107 .undef, [some (HObj.row (3 : Nat) [[D.int IntKind.i64 B, D.int IntKind.i64 h, D.int IntKind.i64 mo]])],
    [decide (i < ↑(rows l).length) = false]) by kernel_rfl) (by simp only [all_cons, all_nil]; simp [*])


theorem p4e_0 (b : Int) (nn : Bool) (l : List Int) (i : Int) (B : Int) (h : Int) (mo : Int)
    (h0 : gOk h h = true)
    (h1 : (gH h h == (0 : Int)) = true)
    (h2 : ledger.Good B (gH (tH (gH h h) (-1 : Int)) (-1 : Int)) (tM (gH h h) mo (-1 : Int)) (-1 : Int))
    (h3 : ledger.Good B (tH (gH h h) (-1 : Int)) (tM (gH h h) mo (-1 : Int)) (-1 : Int))
    (h4 : ledger.Good B (gH h h) mo (-1 : Int))
    (h5 : ledger.Good B h mo h) :
    cutF [4] 0 (run2 b nn l i B h mo (.path [true, true, true, true, true, true, true, true, true, true, true, true, true, true, true, true, true, true, true, true, true, true, true, true, true])) = some (Ex.ret, [D.undef, D.undef, D.undef, D.undef, D.bool true] ++ List.replicate 111 .undef, [],
    [(!gOk (tH (gH h h) (-1 : Int)) (-1 : Int)) = true,
      ((!gOk (tH (gH h h) (-1 : Int)) (-1 : Int)) == true) = true,
      ledger.Good B (gH (tH (gH h h) (-1 : Int)) (-1 : Int)) (tM (gH h h) mo (-1 : Int)) (-1 : Int),
      ((!gOk (tH (gH h h) (-1 : Int)) (-1 : Int)) == true) = true,
      ((!gOk (tH (gH h h) (-1 : Int)) (-1 : Int)) == true) = true,
      (!tOk (gH h h) (-1 : Int)) = true,
      ((!tOk (gH h h) (-1 : Int)) == true) = true,
      ledger.Good B (tH (gH h h) (-1 : Int)) (tM (gH h h) mo (-1 : Int)) (-1 : Int),
      ((!tOk (gH h h) (-1 : Int)) == true) = true,
      ((!tOk (gH h h) (-1 : Int)) == true) = true,
      (gH h h == (0 : Int)) = true,
      ((gH h h == (0 : Int)) == true) = true,
      ledger.Good B (gH h h) mo (-1 : Int),
      ((gH h h == (0 : Int)) == true) = true,
      ((gH h h == (0 : Int)) == true) = true,
      gOk h h = true,
      (gOk h h == true) = true,
      (gOk h h == true) = true,
      (gOk h h == true) = true,
      (mo == mo) = true,
      ledger.Good B h mo h,
      ((mo == mo) == true) = true,
      ((mo == mo) == true) = true,
      ((mo == mo) == true) = true,
      (h == h) = true,
      ((h == h) == true) = true,
      ((h == h) == true) = true,
      ((h == h) == true) = true,
      ((h == h) == true) = true]) := by kernel_rfl

theorem rows_get {l : List Int} {i : Nat} (h : i < l.length) : (rows l)[i]? = some [.int .u16 l[i]] := by
  simp [rows, List.getElem?_map, List.getElem?_eq_getElem h]

/-- One round. -/
theorem round (b : Int) (hb : 0 ≤ b ∧ b ≤ 65535) (nn : Bool) (l : List Int) (i : Nat) (h mo : Int) (hi : i < l.length) (hl : l.length ≤ 100) (h0 : 0 ≤ h) (h1 : h ≤ mo) (h2 : mo ≤ i * 65535)
    (hn : ∀ p ∈ l, 0 ≤ p ∧ p ≤ 65535) :
    ∃ h' mo' : Int, 0 ≤ h' ∧ h' ≤ mo' ∧ mo' ≤ (i + 1 : Nat) * 65535 ∧
      RoadOk c0.P c0.T 0 (.code loopC) [] (inv b nn l i b h mo) .normal [0, 1, 5, 6, 7, 8] 1 (inv b nn l (i + 1 : Nat) b h' mo').env (inv b nn l (i + 1 : Nat) b h' mo').H := by
  obtain ⟨n0, n1⟩ := hn l[i] (List.getElem_mem hi)
  have hrow := rows_get hi
  generalize l[i] = n at *
  have hmo : mo ≤ 6553500 := by omega
  have wi : IntKind.i64.wrap ((i : Int) + 1) = ((i + 1 : Nat) : Int) := by rw [wrap_i64 (by omega)]; omega
  have wn : IntKind.i64.wrap n = n := wrap_i64 (by omega)
  have wb : IntKind.i64.wrap b = b := wrap_i64 (by omega)
  have whn : IntKind.i64.wrap (h + n) = h + n := wrap_i64 (by omega)
  have wh1 : IntKind.i64.wrap (h + n + 1) = h + n + 1 := wrap_i64 (by omega)
  have whb : IntKind.i64.wrap (h + n - n) = h := by rw [show h + n - n = h by omega]; exact wrap_i64 (by omega)
  have hlen : ((i : Int) < ((rows l).length : Int)) := by simp [rows]; omega
  have t1 : tOk h n = true := by simp only [tOk, decide_eq_true_eq]; omega
  have t2 : tH h n = h + n := by simp [tH, t1]
  have t3 : tM h mo n = (if h + n > mo then h + n else mo) := by simp [tM, t1]
  have g1 : gOk (h + n) (h + n + 1) = false := by simp only [gOk, decide_eq_false_iff_not]; omega
  have g2 : gH (h + n) (h + n + 1) = h + n := by simp [gH, g1]
  have g3 : gOk (h + n) n = true := by simp only [gOk, decide_eq_true_eq]; omega
  have g4 : gH (h + n) n = h := by simp only [gH, g3, if_true]; omega
  have f1 : (fOk b h n == decide (h + n ≤ b)) = true := by
    simp only [fOk, beq_iff_eq, decide_eq_decide]
    omega
  have m0 : (if h + n > mo then h + n else mo) ≤ (i + 1 : Nat) * 65535 ∧ h + n ≤ (if h + n > mo then h + n else mo) := by split <;> omega
  obtain ⟨mm, hmm⟩ : ∃ mm, mm = (if h + n > mo then h + n else mo) := ⟨_, rfl⟩
  rw [← hmm] at m0
  have t4 : tM h mo n = mm := by rw [t3, hmm]
  have k1 : ledger.Good b h mo n := ⟨by omega, by omega, by omega, by omega, by omega, by omega, by omega, by omega⟩
  have k2 : ledger.Good b (h + n) mm (h + n + 1) := ⟨by omega, by omega, by omega, by omega, by omega, by omega, by omega, by omega⟩
  have k3 : ledger.Good b (h + n) mm n := ⟨by omega, by omega, by omega, by omega, by omega, by omega, by omega, by omega⟩
  by_cases ho : n.tmod 2 = 1
  · have e := p4b_3 b nn l i b h mo n (by simpa using hlen) (by rw [wn, whn, wb]; exact f1) (by rw [wn]; exact t1) (by simp [wn, whn, t2]) (by rw [wn, whn, t3]; simp) (by simp [wn, whn, wh1, t2, g1]) (by simp [wn, ho])
      (by simp [wn, whn, wh1, t2, g2, g3]) (by simp only [wn, whn, wh1, t2, t4, g2]; exact k3) (by omega) (by simp only [wn, whn, wh1, t2, t4]; exact k2) (by rw [wn]; exact k1) (by omega) (by simpa using hrow)
    simp only [wn, whn, wh1, t2, t4, ← hmm, g2, g4, whb, wi] at e
    exact ⟨h, mm, h0, by omega, m0.1, e⟩
  · have e := p4b_5 b nn l i b h mo n (by simpa using hlen) (by rw [wn, whn, wb]; exact f1) (by rw [wn]; exact t1) (by simp [wn, whn, t2]) (by rw [wn, whn, t3]; simp) (by simp [wn, whn, wh1, t2, g1]) (by simp [wn, ho])
      (by omega) (by simp only [wn, whn, wh1, t2, t4]; exact k2) (by rw [wn]; exact k1) (by omega) (by simpa using hrow)
    simp only [wn, whn, wh1, t2, t4, ← hmm, g2, g4, whb, wi] at e
    exact ⟨h + n, mm, by omega, by omega, m0.1, e⟩

theorem ran : runsK (.exit 0) loopK = true := by kernel_rfl
theorem get_yes : yes.getD 4 .undef = .bool true := by kernel_rfl

theorem last (b : Int) (hb : 0 ≤ b ∧ b ≤ 65535) (nn : Bool) (l : List Int) (i : Nat) (h mo : Int) (hi : i = l.length) (hl : l.length ≤ 100) (h0 : 0 ≤ h) (h1 : h ≤ mo) (h2 : mo ≤ i * 65535) :
    ∃ s2, Ev c0.P c0.T (.code 0 (.loop loopC) (inv b nn l i b h mo) (.exit 0) s2) ∧ RestOk c0.P c0.T 0 (.exit 0) loopK s2 .ret [4] 0 yes [] := by
  have hlen : ¬ ((i : Int) < ((rows l).length : Int)) := by simp [rows]; omega
  have e := p4b_8 b nn l i b h mo 0 (by simpa using hlen)
  have a0 : gOk h h = true := by simp only [gOk, decide_eq_true_eq]; omega
  have a1 : gH h h = 0 := by simp only [gH, a0, if_true]; omega
  have a2 : tH 0 (-1) = 0 := by decide
  have a3 : tM 0 mo (-1) = mo := by simp only [tM, show tOk 0 (-1) = false by decide]; rfl
  have a4 : gH 0 (-1) = 0 := by decide
  have k : ∀ x y, 0 ≤ x → x ≤ 10000000 → -1 ≤ y → y ≤ 10000000 → ledger.Good b x mo y := fun x y x0 x1 y0 y1 => ⟨by omega, by omega, by omega, by omega, by omega, by omega, by omega, by omega⟩
  have k0 : ledger.Good b 0 mo (-1) := k _ _ (by omega) (by omega) (by omega) (by omega)
  have kh : ledger.Good b h mo h := k _ _ h0 (by omega) (by omega) (by omega)
  have r := p4e_0 b nn l i b h mo a0 (by rw [a1]; rfl) (by rw [a1, a2, a3, a4]; exact k0) (by rw [a1, a2, a3]; exact k0) (by rw [a1]; exact k0) kh
  refine loop_left (cfOk 0) e (by simp) (Nat.zero_le _) ran r ?_
  simp only [all_cons, all_nil]
  simp [a0, a1, a2, a3, a4, k0, kh, show gOk 0 (-1) = false by decide, show tOk 0 (-1) = false by decide]

/-- All rounds, and what is behind them. -/
theorem rounds (b : Int) (hb : 0 ≤ b ∧ b ≤ 65535) (nn : Bool) (l : List Int) (hl : l.length ≤ 100) (hn : ∀ p ∈ l, 0 ≤ p ∧ p ≤ 65535) :
    ∀ (m i : Nat) (h mo : Int), i + m = l.length → 0 ≤ h → h ≤ mo → mo ≤ i * 65535 →
      ∃ s2, Ev c0.P c0.T (.code 0 (.loop loopC) (inv b nn l i b h mo) (.exit 0) s2) ∧ RestOk c0.P c0.T 0 (.exit 0) loopK s2 .ret [4] 0 yes [] := by
  intro m
  induction m with
  | zero =>
    intro i h mo hi h0 h1 h2
    exact last b hb nn l i h mo (by omega) hl h0 h1 h2
  | succ m ih =>
    intro i h mo hi h0 h1 h2
    obtain ⟨h', mo', g0, g1, g2, e1⟩ := round b hb nn l i h mo (by omega) hl h0 h1 h2 hn
    obtain ⟨s2, f1, f2⟩ := ih (i + 1) h' mo' (by omega) g0 g1 g2
    exact ⟨s2, loop_again e1 (Nat.zero_le _) f1, f2⟩

theorem body_ok : Try.prog.funcs[4]? = some (fnOf 4) := by kernel_rfl
theorem code_ok : (fnOf 4).body = some (bodyOf 4) := by kernel_rfl
theorem name_ok : ((fnOf 4).name == "runtime.NumGoroutine") = false := by kernel_rfl
theorem res_ok : (fnOf 4).results = #[.tmp 4] := by kernel_rfl

/-- The law, of any budget and numbers. -/
theorem law (b : Int) (hb : 0 ≤ b ∧ b ≤ 65535) (nn : Bool) (l : List Int) (hn : ∀ p ∈ l, 0 ≤ p ∧ p ≤ 65535) :
    ∃ H1, Ev c0.P c0.T (.call 4 [.int .u16 b, .slice nn (rows l) none] [] (.bool true) H1) := by
  have fin : RoadOk c0.P c0.T 0 (.code (bodyOf 4)) [] (beginE (fnOf 4) [.int .u16 b, .slice nn (rows l) none] []) .ret [4] 0 yes [] →
      ∃ H1, Ev c0.P c0.T (.call 4 [.int .u16 b, .slice nn (rows l) none] [] (.bool true) H1) := by
    intro e1
    have := call_road (H0 := []) body_ok code_ok name_ok (.inr rfl) res_ok rfl e1
    rwa [get_yes] at this
  by_cases hl : l.length ≤ 100
  · have hlen : ¬ (((rows l).length : Int) > 100) := by simp [rows]; omega
    have hc : cl (IntKind.i64.wrap b) = b := by rw [wrap_i64 (by omega)]; unfold cl; split <;> (try split) <;> omega
    obtain ⟨s2, f1, f2⟩ := rounds b hb nn l hl hn l.length 0 0 0 (by omega) (by omega) (by omega) (by omega)
    have a := p4a_1 b nn l
    rw [hc] at a
    refine fin (road_loop (n := 0) (cfOk 0) a ?_ (Nat.zero_le _) f1 f2)
    simp only [all_cons, all_nil]
    simp [hlen]
  · have hlen : ((rows l).length : Int) > 100 := by simp [rows]; omega
    exact fin (road_fin (n := 0) (cfOk 0) (p4a_0 b nn l) (by simp only [all_cons, all_nil]; simp [hlen]))

end Go.Proofs.Ytifpbdhggooelaa.ledgerKeeps
