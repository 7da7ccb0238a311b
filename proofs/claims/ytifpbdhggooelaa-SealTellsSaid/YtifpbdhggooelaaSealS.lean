/- The law SealSums: roads. -/
import Derived.Test.YtifpbdhggooelaaSealX
namespace Go.Proofs.Ytifpbdhggooelaa.sealk
open Go Ytifpbdhggooelaa.GD
set_option linter.unusedVariables false
set_option linter.unusedSimpArgs false
set_option maxRecDepth 100000

def tabS (sumE : Es → Int) : Tab := fun k args H =>
  match k with
  | 27 => match args, H with | [], [] => some (.bool true, []) | _, _ => none
  | 32 => match args, H with | [.slice _ es none], [] => some (.int .u32 (sumE es), []) | _, _ => none
  | _ => none
def aS (sumE : Es → Int) (xa : Bool) (ea : Es) (xb : Bool) (eb : Es) : List D × GD.Heap := ([.slice xa ea none, .slice xb eb none], [])
def tS (sumE : Es → Int) (xa : Bool) (ea : Es) (xb : Bool) (eb : Es) : Tab := tabS sumE

/-! ### function 10 -/
theorem lsu_fn : Try.prog.funcs[(10 : Nat)]? = some (fnAt Try.prog 10) := by kernel_rfl
theorem lsu_body : (fnAt Try.prog 10).body = some (bodyAt Try.prog 10) := by kernel_rfl
theorem lsu_name : ((fnAt Try.prog 10).name == "runtime.NumGoroutine") = false := by kernel_rfl
noncomputable def lsu_C (sumE : Es → Int) (xa : Bool) (ea : Es) (xb : Bool) (eb : Es) (n10_4 : Int) (n10_8 : Int) (n10_11 : Int) (n10_12 : Int) : Cf := cfg Try.prog (hintOf [((10 : Nat), (10 : Nat), (4 : Nat), Hint.c [D.int IntKind.u8 n10_4]), ((10 : Nat), (10 : Nat), (8 : Nat), Hint.c [D.int IntKind.u8 n10_8]), ((10 : Nat), (10 : Nat), (11 : Nat), Hint.c [D.int IntKind.u8 n10_11]), ((10 : Nat), (10 : Nat), (12 : Nat), Hint.c [D.int IntKind.u8 n10_12])]) (tS sumE xa ea xb eb) (fun g => match g with | 32 => true | _ => false) 2 true (fun z => Nat.beq 1 z)
theorem lsu_ok (sumE : Es → Int) (xa : Bool) (ea : Es) (xb : Bool) (eb : Es) (n10_4 : Int) (n10_8 : Int) (n10_11 : Int) (n10_12 : Int) : CfOk (lsu_C sumE xa ea xb eb n10_4 n10_8 n10_11 n10_12) := cfg_ok (by kernel_rfl)
noncomputable def lsu_run (sumE : Es → Int) (xa : Bool) (ea : Es) (xb : Bool) (eb : Es) (n10_4 : Int) (n10_8 : Int) (n10_11 : Int) (n10_12 : Int) (cur : Cur) (k : List It) (s : St) (or : GD.Or) := runE (lsu_C sumE xa ea xb eb n10_4 n10_8 n10_11 n10_12) (callE (lsu_C sumE xa ea xb eb n10_4 n10_8 n10_11 n10_12) 100000 10) 10 100000 cur k s or []
noncomputable def lsu_l0 : Code := (loopAt Try.prog 10 0).1
noncomputable def lsu_k0 : List It := (loopAt Try.prog 10 0).2
/- loop 0: n5:=if (↑(List.length eb) : Int) < (↑(List.length ea) : Int) then (↑(List.length eb) : Int) else (↑(List.length ea) : Int); n7:=(0 : Int); eh:=List.replicate
  (if (↑(List.length eb) : Int) < (↑(List.length ea) : Int) then (↑(List.length eb) : Int)
    else (↑(List.length ea) : Int)).toNat
  [D.int IntKind.u8 (0 : Int)]; -/
noncomputable def lsu_s0 (sumE : Es → Int) (xa : Bool) (ea : Es) (xb : Bool) (eb : Es) (n5 : Int) (n7 : Int) (eh : List (List D)) : St := ⟨envOf 56 [(0, D.slice xa ea none), (1, D.slice xb eb none), (5, D.int IntKind.i64 n5), (6, D.view (0 : Nat) (0 : Nat)
  (if (↑(List.length eb) : Int) < (↑(List.length ea) : Int) then (↑(List.length eb) : Int)
    else (↑(List.length ea) : Int)).toNat), (7, D.int IntKind.i64 n7)], [some (HObj.row (1 : Nat) eh)]⟩
def lsu_at0 (sumE : Es → Int) (xa : Bool) (ea : Es) (xb : Bool) (eb : Es) (n5 : Int) (n7 : Int) (eh : List (List D)) (r : D) (H1 : GD.Heap) : Prop := GD.Fin Try.prog (tyOf Try.prog) (fnAt Try.prog 10) 0 (.code (.loop lsu_l0)) lsu_k0 (lsu_s0 sumE xa ea xb eb n5 n7 eh) r H1

theorem lsu_in_0 {sumE : Es → Int} {xa : Bool} {ea : Es} {xb : Bool} {eb : Es}
    (h0 : (if (↑(List.length eb) : Int) < (↑(List.length ea) : Int) then (↑(List.length eb) : Int)
  else (↑(List.length ea) : Int)) >
  (3000 : Int))
    (h1 : Ret Try.prog (tyOf Try.prog) (27 : Nat) [] [] (D.bool true) []) :
    Ret Try.prog (tyOf Try.prog) 10 [D.slice xa ea none, D.slice xb eb none] [] (D.bool true) [] :=
  have b0 : decide
    ((if (↑(List.length eb) : Int) < (↑(List.length ea) : Int) then (↑(List.length eb) : Int)
      else (↑(List.length ea) : Int)) >
      (3000 : Int)) =
  true := decide_eq_true h0
  fin_call lsu_fn lsu_body lsu_name (fin_ret (h := 0) (lsu_ok sumE xa ea xb eb 0 0 0 0) (show outF (tyOf Try.prog) (fnAt Try.prog 10) 0 (lsu_run sumE xa ea xb eb 0 0 0 0 (.code (bodyAt Try.prog 10)) [] (beginE (fnAt Try.prog 10) [D.slice xa ea none, D.slice xb eb none] []) (.path [false, true])) = some (D.bool true, [],
    [decide
    ((if (↑(List.length eb) : Int) < (↑(List.length ea) : Int) then (↑(List.length eb) : Int)
      else (↑(List.length ea) : Int)) >
      (3000 : Int)) =
  true,
      false = false,
      Ret Try.prog (tyOf Try.prog) (27 : Nat) [] [] (D.bool true) []]) by kernel_rfl)
    (all_cons.2 ⟨b0, all_cons.2 ⟨rfl, all_cons.2 ⟨h1, all_nil.2 trivial⟩⟩⟩))

theorem lsu_in_1 {sumE : Es → Int} {xa : Bool} {ea : Es} {xb : Bool} {eb : Es} {r : D} {H1 : GD.Heap}
    (h0 : ¬ ((if (↑(List.length eb) : Int) < (↑(List.length ea) : Int) then (↑(List.length eb) : Int)
  else (↑(List.length ea) : Int)) >
  (3000 : Int)))
    (h1 : FlatEs
  (List.replicate
    (if (↑(List.length eb) : Int) < (↑(List.length ea) : Int) then (↑(List.length eb) : Int)
      else (↑(List.length ea) : Int)).toNat
    [D.int IntKind.u8 (0 : Int)]))
    (h2 : ((0 : Int) ≤
    if (↑(List.length eb) : Int) < (↑(List.length ea) : Int) then (↑(List.length eb) : Int)
    else (↑(List.length ea) : Int)) ∧
  ((if (↑(List.length eb) : Int) < (↑(List.length ea) : Int) then (↑(List.length eb) : Int)
      else (↑(List.length ea) : Int)) ≤
      if (↑(List.length eb) : Int) < (↑(List.length ea) : Int) then (↑(List.length eb) : Int)
      else (↑(List.length ea) : Int)) ∧
    ((↑(1 : Nat) : Int) *
          if (↑(List.length eb) : Int) < (↑(List.length ea) : Int) then (↑(List.length eb) : Int)
          else (↑(List.length ea) : Int)) ≤
        (281474976710656 : Int) ∧
      (if (↑(List.length eb) : Int) < (↑(List.length ea) : Int) then (↑(List.length eb) : Int)
        else (↑(List.length ea) : Int)) ≤
        (9223372036854775807 : Int))
    (h3 : Ret Try.prog (tyOf Try.prog) (27 : Nat) [] [] (D.bool true) [])
    (g : lsu_at0 sumE xa ea xb eb (if (↑(List.length eb) : Int) < (↑(List.length ea) : Int) then (↑(List.length eb) : Int) else (↑(List.length ea) : Int)) ((0 : Int)) (List.replicate
  (if (↑(List.length eb) : Int) < (↑(List.length ea) : Int) then (↑(List.length eb) : Int)
    else (↑(List.length ea) : Int)).toNat
  [D.int IntKind.u8 (0 : Int)]) r H1) :
    Ret Try.prog (tyOf Try.prog) 10 [D.slice xa ea none, D.slice xb eb none] [] r H1 :=
  have b0 : decide
    ((if (↑(List.length eb) : Int) < (↑(List.length ea) : Int) then (↑(List.length eb) : Int)
      else (↑(List.length ea) : Int)) >
      (3000 : Int)) =
  false := decide_eq_false h0
  fin_call lsu_fn lsu_body lsu_name (fin_stop (F := (fun z => Nat.beq 1 z)) (h := 1) (keep := [0, 1, 5, 6, 7]) (lsu_ok sumE xa ea xb eb 0 0 0 0) (show cutX (fun z => Nat.beq 1 z) [0, 1, 5, 6, 7] 1 (lsu_run sumE xa ea xb eb 0 0 0 0 (.code (bodyAt Try.prog 10)) [] (beginE (fnAt Try.prog 10) [D.slice xa ea none, D.slice xb eb none] []) (.path [false, false])) = some (lsu_l0, lsu_k0, (lsu_s0 sumE xa ea xb eb (if (↑(List.length eb) : Int) < (↑(List.length ea) : Int) then (↑(List.length eb) : Int) else (↑(List.length ea) : Int)) ((0 : Int)) (List.replicate
  (if (↑(List.length eb) : Int) < (↑(List.length ea) : Int) then (↑(List.length eb) : Int)
    else (↑(List.length ea) : Int)).toNat
  [D.int IntKind.u8 (0 : Int)])).env, (lsu_s0 sumE xa ea xb eb (if (↑(List.length eb) : Int) < (↑(List.length ea) : Int) then (↑(List.length eb) : Int) else (↑(List.length ea) : Int)) ((0 : Int)) (List.replicate
  (if (↑(List.length eb) : Int) < (↑(List.length ea) : Int) then (↑(List.length eb) : Int)
    else (↑(List.length ea) : Int)).toNat
  [D.int IntKind.u8 (0 : Int)])).H,
    [FlatEs
  (List.replicate
    (if (↑(List.length eb) : Int) < (↑(List.length ea) : Int) then (↑(List.length eb) : Int)
      else (↑(List.length ea) : Int)).toNat
    [D.int IntKind.u8 (0 : Int)]),
      ((0 : Int) ≤
    if (↑(List.length eb) : Int) < (↑(List.length ea) : Int) then (↑(List.length eb) : Int)
    else (↑(List.length ea) : Int)) ∧
  ((if (↑(List.length eb) : Int) < (↑(List.length ea) : Int) then (↑(List.length eb) : Int)
      else (↑(List.length ea) : Int)) ≤
      if (↑(List.length eb) : Int) < (↑(List.length ea) : Int) then (↑(List.length eb) : Int)
      else (↑(List.length ea) : Int)) ∧
    ((↑(1 : Nat) : Int) *
          if (↑(List.length eb) : Int) < (↑(List.length ea) : Int) then (↑(List.length eb) : Int)
          else (↑(List.length ea) : Int)) ≤
        (281474976710656 : Int) ∧
      (if (↑(List.length eb) : Int) < (↑(List.length ea) : Int) then (↑(List.length eb) : Int)
        else (↑(List.length ea) : Int)) ≤
        (9223372036854775807 : Int),
      decide
    ((if (↑(List.length eb) : Int) < (↑(List.length ea) : Int) then (↑(List.length eb) : Int)
      else (↑(List.length ea) : Int)) >
      (3000 : Int)) =
  false,
      false = false,
      Ret Try.prog (tyOf Try.prog) (27 : Nat) [] [] (D.bool true) []]) by kernel_rfl)
    (all_cons.2 ⟨h1, all_cons.2 ⟨h2, all_cons.2 ⟨b0, all_cons.2 ⟨rfl, all_cons.2 ⟨h3, all_nil.2 trivial⟩⟩⟩⟩⟩) (show (0 : Nat) ≤ 1 by decide) g)

theorem lsu_0_0 {sumE : Es → Int} {xa : Bool} {ea : Es} {xb : Bool} {eb : Es} {n5 : Int} {n7 : Int} {eh : List (List D)} {n10_4 : Int} {n10_8 : Int} {n10_12 : Int} {r : D} {H1 : GD.Heap}
    (h0 : n7 < n5)
    (h1 : FlatEs (eh.set ((0 : Nat) + n7.toNat) [D.int IntKind.u8 (xorW IntKind.u8 n10_4 n10_8)]))
    (h2 : eh[(0 : Nat) + n7.toNat]? = some [D.int IntKind.u8 n10_12])
    (h3 : (0 : Int) ≤ n7 ∧
  n7 <
    (↑(if (↑(List.length eb) : Int) < (↑(List.length ea) : Int) then (↑(List.length eb) : Int)
          else (↑(List.length ea) : Int)).toNat :
      Int))
    (h4 : (0 : Int) ≤ n7)
    (h5 : eb[n7.toNat]? = some [D.int IntKind.u8 n10_8])
    (h6 : ea[n7.toNat]? = some [D.int IntKind.u8 n10_4])
    (g : lsu_at0 sumE xa ea xb eb (n5) (IntKind.i64.wrap (n7 + (1 : Int))) (eh.set ((0 : Nat) + n7.toNat) [D.int IntKind.u8 (xorW IntKind.u8 n10_4 n10_8)]) r H1) :
    lsu_at0 sumE xa ea xb eb n5 n7 eh r H1 :=
  have b0 : decide (n7 < n5) = true := decide_eq_true h0
  fin_loop (fin_stop (F := (fun z => Nat.beq 1 z)) (h := 1) (keep := [0, 1, 5, 6, 7]) (lsu_ok sumE xa ea xb eb n10_4 n10_8 0 n10_12) (show cutX (fun z => Nat.beq 1 z) [0, 1, 5, 6, 7] 1 (lsu_run sumE xa ea xb eb n10_4 n10_8 0 n10_12 (.code lsu_l0) (.lp lsu_l0 :: lsu_k0) (lsu_s0 sumE xa ea xb eb n5 n7 eh) (.path [true])) = some (lsu_l0, lsu_k0, (lsu_s0 sumE xa ea xb eb (n5) (IntKind.i64.wrap (n7 + (1 : Int))) (eh.set ((0 : Nat) + n7.toNat) [D.int IntKind.u8 (xorW IntKind.u8 n10_4 n10_8)])).env, (lsu_s0 sumE xa ea xb eb (n5) (IntKind.i64.wrap (n7 + (1 : Int))) (eh.set ((0 : Nat) + n7.toNat) [D.int IntKind.u8 (xorW IntKind.u8 n10_4 n10_8)])).H,
    [FlatEs (eh.set ((0 : Nat) + n7.toNat) [D.int IntKind.u8 (xorW IntKind.u8 n10_4 n10_8)]),
      eh[(0 : Nat) + n7.toNat]? = some [D.int IntKind.u8 n10_12],
      (0 : Int) ≤ n7 ∧
  n7 <
    (↑(if (↑(List.length eb) : Int) < (↑(List.length ea) : Int) then (↑(List.length eb) : Int)
          else (↑(List.length ea) : Int)).toNat :
      Int),
      (0 : Int) ≤ n7,
      eb[n7.toNat]? = some [D.int IntKind.u8 n10_8],
      (0 : Int) ≤ n7,
      ea[n7.toNat]? = some [D.int IntKind.u8 n10_4],
      decide (n7 < n5) = true]) by kernel_rfl)
    (all_cons.2 ⟨h1, all_cons.2 ⟨h2, all_cons.2 ⟨h3, all_cons.2 ⟨h4, all_cons.2 ⟨h5, all_cons.2 ⟨h4, all_cons.2 ⟨h6, all_cons.2 ⟨b0, all_nil.2 trivial⟩⟩⟩⟩⟩⟩⟩⟩) (show (0 : Nat) ≤ 1 by decide) g)

theorem lsu_0_1 {sumE : Es → Int} {xa : Bool} {ea : Es} {xb : Bool} {eb : Es} {n5 : Int} {n7 : Int} {eh : List (List D)}
    (h0 : ¬ (n7 < n5))
    (h1 : xorW IntKind.u32 (sumE (List.take n5.toNat ea)) (sumE (List.take n5.toNat eb)) = xorW IntKind.u32
  (sumE
    (List.take
      (if (↑(List.length eb) : Int) < (↑(List.length ea) : Int) then (↑(List.length eb) : Int)
        else (↑(List.length ea) : Int)).toNat
      eh))
  (sumE (List.take n5.toNat (List.drop (0 : Nat) (List.replicate n5.toNat [D.int IntKind.u8 (0 : Int)])))))
    (h2 : Ret Try.prog (tyOf Try.prog) (32 : Nat) [D.slice false [] none] [] (D.int IntKind.u32 (sumE [])) [])
    (h3 : (0 : Nat) + n5.toNat ≤ (List.replicate n5.toNat [D.int IntKind.u8 (0 : Int)]).length)
    (h4 : FlatEs (List.replicate n5.toNat [D.int IntKind.u8 (0 : Int)]))
    (h5 : Ret Try.prog (tyOf Try.prog) (32 : Nat)
  [D.slice true (List.take n5.toNat (List.drop (0 : Nat) (List.replicate n5.toNat [D.int IntKind.u8 (0 : Int)]))) none]
  []
  (D.int IntKind.u32
    (sumE (List.take n5.toNat (List.drop (0 : Nat) (List.replicate n5.toNat [D.int IntKind.u8 (0 : Int)])))))
  [])
    (h6 : (0 : Int) ≤ n5 ∧ n5 ≤ n5 ∧ (↑(1 : Nat) : Int) * n5 ≤ (281474976710656 : Int) ∧ n5 ≤ (9223372036854775807 : Int))
    (h7 : (0 : Nat) +
    (if (↑(List.length eb) : Int) < (↑(List.length ea) : Int) then (↑(List.length eb) : Int)
      else (↑(List.length ea) : Int)).toNat ≤
  eh.length)
    (h8 : FlatEs eh)
    (h9 : Ret Try.prog (tyOf Try.prog) (32 : Nat)
  [D.slice true
      (List.take
        (if (↑(List.length eb) : Int) < (↑(List.length ea) : Int) then (↑(List.length eb) : Int)
          else (↑(List.length ea) : Int)).toNat
        eh)
      none]
  []
  (D.int IntKind.u32
    (sumE
      (List.take
        (if (↑(List.length eb) : Int) < (↑(List.length ea) : Int) then (↑(List.length eb) : Int)
          else (↑(List.length ea) : Int)).toNat
        eh)))
  [])
    (h10 : Ret Try.prog (tyOf Try.prog) (32 : Nat) [D.slice xb (List.take n5.toNat eb) none] []
  (D.int IntKind.u32 (sumE (List.take n5.toNat eb))) [])
    (h11 : (0 : Int) ≤ n5 ∧ n5 ≤ (↑(List.length eb) : Int))
    (h12 : Ret Try.prog (tyOf Try.prog) (32 : Nat) [D.slice xa (List.take n5.toNat ea) none] []
  (D.int IntKind.u32 (sumE (List.take n5.toNat ea))) [])
    (h13 : (0 : Int) ≤ n5 ∧ n5 ≤ (↑(List.length ea) : Int)) :
    lsu_at0 sumE xa ea xb eb n5 n7 eh (D.bool (sumE [] == (0 : Int))) [] :=
  have b0 : decide (n7 < n5) = false := decide_eq_false h0
  have b1 : (xorW IntKind.u32 (sumE (List.take n5.toNat ea)) (sumE (List.take n5.toNat eb)) ==
    xorW IntKind.u32
      (sumE
        (List.take
          (if (↑(List.length eb) : Int) < (↑(List.length ea) : Int) then (↑(List.length eb) : Int)
            else (↑(List.length ea) : Int)).toNat
          eh))
      (sumE (List.take n5.toNat (List.drop (0 : Nat) (List.replicate n5.toNat [D.int IntKind.u8 (0 : Int)]))))) =
  true := beq_iff_eq.2 h1
  fin_loop (fin_ret (h := 0) (lsu_ok sumE xa ea xb eb 0 0 0 0) (show outF (tyOf Try.prog) (fnAt Try.prog 10) 0 (lsu_run sumE xa ea xb eb 0 0 0 0 (.code lsu_l0) (.lp lsu_l0 :: lsu_k0) (lsu_s0 sumE xa ea xb eb n5 n7 eh) (.path [false, true, true, true])) = some (D.bool (sumE [] == (0 : Int)), [],
    [(xorW IntKind.u32 (sumE (List.take n5.toNat ea)) (sumE (List.take n5.toNat eb)) ==
    xorW IntKind.u32
      (sumE
        (List.take
          (if (↑(List.length eb) : Int) < (↑(List.length ea) : Int) then (↑(List.length eb) : Int)
            else (↑(List.length ea) : Int)).toNat
          eh))
      (sumE (List.take n5.toNat (List.drop (0 : Nat) (List.replicate n5.toNat [D.int IntKind.u8 (0 : Int)]))))) =
  true,
      ((xorW IntKind.u32 (sumE (List.take n5.toNat ea)) (sumE (List.take n5.toNat eb)) ==
      xorW IntKind.u32
        (sumE
          (List.take
            (if (↑(List.length eb) : Int) < (↑(List.length ea) : Int) then (↑(List.length eb) : Int)
              else (↑(List.length ea) : Int)).toNat
            eh))
        (sumE (List.take n5.toNat (List.drop (0 : Nat) (List.replicate n5.toNat [D.int IntKind.u8 (0 : Int)]))))) ==
    true) =
  true,
      Ret Try.prog (tyOf Try.prog) (32 : Nat) [D.slice false [] none] [] (D.int IntKind.u32 (sumE [])) [],
      ((xorW IntKind.u32 (sumE (List.take n5.toNat ea)) (sumE (List.take n5.toNat eb)) ==
      xorW IntKind.u32
        (sumE
          (List.take
            (if (↑(List.length eb) : Int) < (↑(List.length ea) : Int) then (↑(List.length eb) : Int)
              else (↑(List.length ea) : Int)).toNat
            eh))
        (sumE (List.take n5.toNat (List.drop (0 : Nat) (List.replicate n5.toNat [D.int IntKind.u8 (0 : Int)]))))) ==
    true) =
  true,
      (0 : Nat) + n5.toNat ≤ (List.replicate n5.toNat [D.int IntKind.u8 (0 : Int)]).length,
      FlatEs (List.replicate n5.toNat [D.int IntKind.u8 (0 : Int)]),
      Ret Try.prog (tyOf Try.prog) (32 : Nat)
  [D.slice true (List.take n5.toNat (List.drop (0 : Nat) (List.replicate n5.toNat [D.int IntKind.u8 (0 : Int)]))) none]
  []
  (D.int IntKind.u32
    (sumE (List.take n5.toNat (List.drop (0 : Nat) (List.replicate n5.toNat [D.int IntKind.u8 (0 : Int)])))))
  [],
      (0 : Int) ≤ n5 ∧ n5 ≤ n5 ∧ (↑(1 : Nat) : Int) * n5 ≤ (281474976710656 : Int) ∧ n5 ≤ (9223372036854775807 : Int),
      (0 : Nat) +
    (if (↑(List.length eb) : Int) < (↑(List.length ea) : Int) then (↑(List.length eb) : Int)
      else (↑(List.length ea) : Int)).toNat ≤
  eh.length,
      FlatEs eh,
      Ret Try.prog (tyOf Try.prog) (32 : Nat)
  [D.slice true
      (List.take
        (if (↑(List.length eb) : Int) < (↑(List.length ea) : Int) then (↑(List.length eb) : Int)
          else (↑(List.length ea) : Int)).toNat
        eh)
      none]
  []
  (D.int IntKind.u32
    (sumE
      (List.take
        (if (↑(List.length eb) : Int) < (↑(List.length ea) : Int) then (↑(List.length eb) : Int)
          else (↑(List.length ea) : Int)).toNat
        eh)))
  [],
      Ret Try.prog (tyOf Try.prog) (32 : Nat) [D.slice xb (List.take n5.toNat eb) none] []
  (D.int IntKind.u32 (sumE (List.take n5.toNat eb))) [],
      (0 : Int) ≤ n5 ∧ n5 ≤ (↑(List.length eb) : Int),
      Ret Try.prog (tyOf Try.prog) (32 : Nat) [D.slice xa (List.take n5.toNat ea) none] []
  (D.int IntKind.u32 (sumE (List.take n5.toNat ea))) [],
      (0 : Int) ≤ n5 ∧ n5 ≤ (↑(List.length ea) : Int),
      decide (n7 < n5) = false]) by kernel_rfl)
    (all_cons.2 ⟨b1, all_cons.2 ⟨(by rw [b1]; rfl), all_cons.2 ⟨h2, all_cons.2 ⟨(by rw [b1]; rfl), all_cons.2 ⟨h3, all_cons.2 ⟨h4, all_cons.2 ⟨h5, all_cons.2 ⟨h6, all_cons.2 ⟨h7, all_cons.2 ⟨h8, all_cons.2 ⟨h9, all_cons.2 ⟨h10, all_cons.2 ⟨h11, all_cons.2 ⟨h12, all_cons.2 ⟨h13, all_cons.2 ⟨b0, all_nil.2 trivial⟩⟩⟩⟩⟩⟩⟩⟩⟩⟩⟩⟩⟩⟩⟩⟩))




theorem bv_xor8 (a b : Int) (ha : 0 ≤ a ∧ a ≤ 255) (hb : 0 ≤ b ∧ b ≤ 255) : bv (xorW .u8 a b) = bv a ^^^ bv b := by
  have h8 : IntKind.u8.bits = 8 := rfl
  have hs : IntKind.u8.signed = false := rfl
  have h2 : (2 ^ 8 : Int) = 256 := by decide
  apply BitVec.eq_of_toNat_eq
  unfold bv xorW IntKind.wrap
  simp only [hs, h8, h2, Bool.false_and, Bool.false_eq_true, if_false]
  rw [BitVec.toNat_xor, BitVec.toNat_xor, BitVec.toNat_ofInt, BitVec.toNat_ofInt, BitVec.toNat_ofInt, BitVec.toNat_ofInt, BitVec.toNat_ofInt]
  have e1 : (a % ((2 ^ IntKind.u8.bits : Nat) : Int)).toNat = a.toNat := by rw [h8]; omega
  have e2 : (b % ((2 ^ IntKind.u8.bits : Nat) : Int)).toNat = b.toNat := by rw [h8]; omega
  have e3 : (a % ((2 ^ 32 : Nat) : Int)).toNat = a.toNat := by omega
  have e4 : (b % ((2 ^ 32 : Nat) : Int)).toNat = b.toNat := by omega
  rw [e1, e2, e3, e4]
  have : a.toNat ^^^ b.toNat < 2 ^ 8 := Nat.xor_lt_two_pow (by omega) (by omega)
  omega
theorem xor8_le (a b : Int) : 0 ≤ xorW .u8 a b ∧ xorW .u8 a b ≤ 255 := by
  have h8 : IntKind.u8.bits = 8 := rfl
  have hs : IntKind.u8.signed = false := rfl
  have h2 : (2 ^ 8 : Int) = 256 := by decide
  unfold xorW IntKind.wrap
  simp only [hs, h8, h2, Bool.false_and, Bool.false_eq_true, if_false]
  omega

def xors : List Int → List Int → List Int
  | a :: A, b :: B => xorW .u8 a b :: xors A B
  | _, _ => []
theorem xors_len : ∀ (A B : List Int), (xors A B).length = min A.length B.length
  | [], _ => by simp [xors]
  | _ :: _, [] => by simp [xors]
  | a :: A, b :: B => by simp [xors, xors_len A B]
theorem xors_get : ∀ (A B : List Int) (i : Nat) (a b : Int), A[i]? = some a → B[i]? = some b → (xors A B)[i]? = some (xorW .u8 a b)
  | [], _, i, a, b, h, _ => by simp at h
  | _ :: _, [], i, a, b, _, h => by simp at h
  | x :: A, y :: B, i, a, b, h, k => by
    cases i with
    | zero => simp at h k; subst h; subst k; rfl
    | succ i => exact xors_get A B i a b (by simpa using h) (by simpa using k)
theorem xors_bytes : ∀ (A B : List Int), Bytes (xors A B)
  | [], _ => fun x hx => by simp [xors] at hx
  | _ :: _, [] => fun x hx => by simp [xors] at hx
  | a :: A, b :: B => fun x hx => by
    simp only [xors, List.mem_cons] at hx
    rcases hx with rfl | hx
    · exact xor8_le a b
    · exact xors_bytes A B x hx

section
variable (xa : Bool) (A : List Int) (xb : Bool) (B : List Int) (m : Nat) (hm : m = min A.length B.length) (h3 : m ≤ 3000) (hA : Bytes A) (hB : Bytes B)
include hm h3 hA hB

theorem su_loop : ∀ (k i : Nat), i + k = m → ∃ H1, lsu_at0 sumC xa (rows A) xb (rows B) m i (rows ((xors A B).take i ++ List.replicate (m - i) 0)) (.bool true) H1 := by
  have hmin : (if ((rows B).length : Int) < ((rows A).length : Int) then ((rows B).length : Int) else ((rows A).length : Int)) = (m : Int) := by
    rw [rows_len, rows_len]
    split <;> omega
  have hmin' : (if (B.length : Int) < (A.length : Int) then (B.length : Int) else (A.length : Int)) = (m : Int) := by split <;> omega
  have hxl : (xors A B).length = m := by rw [xors_len, hm]
  intro k
  induction k with
  | zero =>
    intro i hi
    obtain rfl : i = m := by omega
    have e := @lsu_0_1 sumC xa (rows A) xb (rows B) i i (rows (xors A B))
    simp only [hmin, hmin', Int.toNat_natCast, rows_rep, rows_take, rows_drop, List.drop_zero, List.take_of_length_le (Nat.le_of_eq hxl), List.take_replicate, Nat.min_self, rows_len, List.length_replicate, hxl] at e
    have eC : ∀ l, sumC (rows l) = sumU l := fun l => by unfold sumC; rw [bytes_rows]
    simp only [eC] at e
    have hlA : (A.take i).length = i := by rw [List.length_take]; omega
    have hlB : (B.take i).length = i := by rw [List.length_take]; omega
    have key := sum_xor (A.take i) (B.take i) (xors A B) (List.replicate i 0) (hA.take i) (hB.take i) (xors_bytes A B) (fun x hx => (List.mem_replicate.1 hx).2) (by rw [hlA, hxl]) (by rw [hlB, hxl]) (by simp [hxl]) (fun j a b c p q r => by
      have p' : A[j]? = some a := by rw [List.getElem?_take] at p; split at p <;> simp_all
      have q' : B[j]? = some b := by rw [List.getElem?_take] at q; split at q <;> simp_all
      have := xors_get A B j a b p' q'
      rw [this] at r
      obtain rfl := Option.some.inj r
      exact bv_xor8 a b (hA a (List.mem_of_getElem? p')) (hB b (List.mem_of_getElem? q')))
    have hz : sumC [] = 0 := by decide +kernel
    have rz : Ret P T 32 [.slice false [] none] [] (.int .u32 (sumC [])) [] := by rw [show sumC [] = sumU [] by rfl]; exact sum32 false [] (by decide)
    have := e (by omega) key rz (by omega) (flat_rows _) (sumR true _ (by simp; omega)) (by omega) (by omega) (flat_rows _) (sumR true _ (by omega)) (sumR xb _ (by omega)) (by omega) (sumR xa _ (by omega)) (by omega)
    rw [hz, beq_self_eq_true] at this
    rw [Nat.sub_self, List.replicate_zero, List.append_nil, List.take_of_length_le (Nat.le_of_eq hxl)]
    exact ⟨_, this⟩
  | succ k ih =>
    intro i hi
    obtain ⟨H1, g⟩ := ih (i + 1) (by omega)
    refine ⟨H1, ?_⟩
    have ha : i < A.length := by omega
    have hb : i < B.length := by omega
    have hx : (xors A B)[i]? = some (xorW .u8 A[i] B[i]) := xors_get A B i _ _ (List.getElem?_eq_getElem ha) (List.getElem?_eq_getElem hb)
    have hlt : ((xors A B).take i).length = i := by rw [List.length_take]; omega
    have e := @lsu_0_0 sumC xa (rows A) xb (rows B) m i (rows ((xors A B).take i ++ List.replicate (m - i) 0)) A[i] B[i] 0 (.bool true) H1
    have hset : ((xors A B).take i ++ List.replicate (m - i) 0).set i (xorW .u8 A[i] B[i]) = (xors A B).take (i + 1) ++ List.replicate (m - (i + 1)) 0 := by
      rw [List.set_append_right _ _ (by omega), hlt, Nat.sub_self, show m - i = (m - (i + 1)) + 1 by omega, List.replicate_succ, List.set_cons_zero, List.take_add_one, hx]
      simp
    have hget : (rows ((xors A B).take i ++ List.replicate (m - i) 0))[i]? = some [.int .u8 0] := by
      unfold rows
      rw [List.getElem?_map, List.getElem?_append_right (by omega), hlt, Nat.sub_self, show m - i = (m - (i + 1)) + 1 by omega, List.replicate_succ]
      rfl
    simp only [hmin, Nat.zero_add, Int.toNat_natCast, rows_set, hset] at e
    rw [show IntKind.i64.wrap ((i : Int) + 1) = ((i + 1 : Nat) : Int) by rw [wrap_i64 (by omega)]; omega] at e
    exact e (by omega) (flat_rows _) hget (by omega) (by omega) (rows_get hb) (rows_get ha) g
end

theorem law10 (xa : Bool) (A : List Int) (xb : Bool) (B : List Int) (hA : Bytes A) (hB : Bytes B) (hmA : A.length ≤ maxLen) (hmB : B.length ≤ maxLen) : ∃ H1, Ret P T 10 [.slice xa (rows A) none, .slice xb (rows B) none] [] (.bool true) H1 := by
  obtain ⟨m, hm⟩ : ∃ m, m = min A.length B.length := ⟨_, rfl⟩
  have hmin : (if ((rows B).length : Int) < ((rows A).length : Int) then ((rows B).length : Int) else ((rows A).length : Int)) = (m : Int) := by
    rw [rows_len, rows_len]
    split <;> omega
  by_cases h : (m : Int) > 3000
  · exact ⟨_, @lsu_in_0 sumC xa (rows A) xb (rows B) (by rw [hmin]; exact h) awake27⟩
  · obtain ⟨H1, g⟩ := su_loop xa A xb B m hm (by omega) hA hB m 0 (by omega)
    have e := @lsu_in_1 sumC xa (rows A) xb (rows B) (.bool true) H1
    simp only [hmin, Int.toNat_natCast, rows_rep] at e
    rw [List.take_zero, List.nil_append, Nat.sub_zero] at g
    exact ⟨H1, e h (flat_rows _) (by omega) awake27 g⟩

end Go.Proofs.Ytifpbdhggooelaa.sealk
