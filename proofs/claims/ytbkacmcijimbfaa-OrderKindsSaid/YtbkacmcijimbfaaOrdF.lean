/- Few, and the laws OrderKinds, OrderCompares: roads. -/
import Derived.Test.YtbkacmcijimbfaaOrdX
namespace Go.Proofs.Ytbkacmcijimbfaa.ordk
open Go Ytbkacmcijimbfaa.GD
set_option linter.unusedVariables false
set_option linter.unusedSimpArgs false
set_option maxRecDepth 100000

def aFew (smB : Cs → Bool) (wtE : Cs → Int → Int) (xb : Bool) (es : Es) : List D × GD.Heap := ([.slice xb es none], [])
def tFew (smB : Cs → Bool) (wtE : Cs → Int → Int) (xb : Bool) (es : Es) : Tab := fun k args H =>
  match k with
  | 14 => match args, H with | [.agg c], [] => some (.bool (smB c), []) | _, _ => none
  | 42 => match args, H with | [.agg c, .int .i64 m], [] => some (.int .i64 (wtE c m), []) | _, _ => none
  | _ => none
def tabF (fwB : Es → Bool) : Tab := fun k args H =>
  match k with
  | 30 => match args, H with | [], [] => some (.bool true, []) | _, _ => none
  | 31 => match args, H with | [.slice _ es none], [] => some (.bool (fwB es), []) | _, _ => none
  | _ => tabC cmpV (fun _ _ => 0) (fun _ _ => 0) (fun _ _ => 0) k args H
def aKi (fwB : Es → Bool) (k n : Int) (s : ByteArray) (xb : Bool) (eb : Es) (xf : Bool) (ef : Es) (xl : Bool) (el : Es) (k' n' : Int) (s' : ByteArray) (xb' : Bool) (eb' : Es) (xf' : Bool) (ef' : Es) (xl' : Bool) (el' : Es) : List D × GD.Heap :=
  ([.agg (val k n s xb eb xf ef xl el), .agg (val k' n' s' xb' eb' xf' ef' xl' el')], [])
def tKi (fwB : Es → Bool) (k n : Int) (s : ByteArray) (xb : Bool) (eb : Es) (xf : Bool) (ef : Es) (xl : Bool) (el : Es) (k' n' : Int) (s' : ByteArray) (xb' : Bool) (eb' : Es) (xf' : Bool) (ef' : Es) (xl' : Bool) (el' : Es) : Tab := tabF fwB

/-! ### function 31 -/
theorem few_fn : Try.prog.funcs[(31 : Nat)]? = some (fnAt Try.prog 31) := by kernel_rfl
theorem few_body : (fnAt Try.prog 31).body = some (bodyAt Try.prog 31) := by kernel_rfl
theorem few_name : ((fnAt Try.prog 31).name == "runtime.NumGoroutine") = false := by kernel_rfl
noncomputable def few_C (smB : Cs → Bool) (wtE : Cs → Int → Int) (xb : Bool) (es : Es) (n5_2_0 : Int) (n5_2_1 : Int) (s5_2_2 : ByteArray) (x5_2_3 : Bool) (e5_2_3 : List (List D)) (x5_2_4 : Bool) (e5_2_4 : List (List D)) (x5_2_5 : Bool) (e5_2_5 : List (List D)) (n7_3_0 : Int) (n7_3_1 : Int) (s7_3_2 : ByteArray) (x7_3_3 : Bool) (e7_3_3 : List (List D)) (x7_3_4 : Bool) (e7_3_4 : List (List D)) (x7_3_5 : Bool) (e7_3_5 : List (List D)) : Cf := cfg Try.prog (hintOf [((31 : Nat), (5 : Nat), (2 : Nat),
  Hint.c
    [D.int IntKind.i64 n5_2_0, D.int IntKind.i64 n5_2_1, D.str s5_2_2, D.slice x5_2_3 e5_2_3 none,
      D.slice x5_2_4 e5_2_4 none, D.slice x5_2_5 e5_2_5 none]), ((31 : Nat), (7 : Nat), (3 : Nat),
  Hint.c
    [D.int IntKind.i64 n7_3_0, D.int IntKind.i64 n7_3_1, D.str s7_3_2, D.slice x7_3_3 e7_3_3 none,
      D.slice x7_3_4 e7_3_4 none, D.slice x7_3_5 e7_3_5 none])]) (tFew smB wtE xb es) (fun _ => false) 2 true (fun _ => false)
theorem few_ok (smB : Cs → Bool) (wtE : Cs → Int → Int) (xb : Bool) (es : Es) (n5_2_0 : Int) (n5_2_1 : Int) (s5_2_2 : ByteArray) (x5_2_3 : Bool) (e5_2_3 : List (List D)) (x5_2_4 : Bool) (e5_2_4 : List (List D)) (x5_2_5 : Bool) (e5_2_5 : List (List D)) (n7_3_0 : Int) (n7_3_1 : Int) (s7_3_2 : ByteArray) (x7_3_3 : Bool) (e7_3_3 : List (List D)) (x7_3_4 : Bool) (e7_3_4 : List (List D)) (x7_3_5 : Bool) (e7_3_5 : List (List D)) : CfOk (few_C smB wtE xb es n5_2_0 n5_2_1 s5_2_2 x5_2_3 e5_2_3 x5_2_4 e5_2_4 x5_2_5 e5_2_5 n7_3_0 n7_3_1 s7_3_2 x7_3_3 e7_3_3 x7_3_4 e7_3_4 x7_3_5 e7_3_5) := cfg_ok (by kernel_rfl)
noncomputable def few_run (smB : Cs → Bool) (wtE : Cs → Int → Int) (xb : Bool) (es : Es) (n5_2_0 : Int) (n5_2_1 : Int) (s5_2_2 : ByteArray) (x5_2_3 : Bool) (e5_2_3 : List (List D)) (x5_2_4 : Bool) (e5_2_4 : List (List D)) (x5_2_5 : Bool) (e5_2_5 : List (List D)) (n7_3_0 : Int) (n7_3_1 : Int) (s7_3_2 : ByteArray) (x7_3_3 : Bool) (e7_3_3 : List (List D)) (x7_3_4 : Bool) (e7_3_4 : List (List D)) (x7_3_5 : Bool) (e7_3_5 : List (List D)) (qcur : Cur) (qk : List It) (qs : St) (qor : GD.Or) := runE (few_C smB wtE xb es n5_2_0 n5_2_1 s5_2_2 x5_2_3 e5_2_3 x5_2_4 e5_2_4 x5_2_5 e5_2_5 n7_3_0 n7_3_1 s7_3_2 x7_3_3 e7_3_3 x7_3_4 e7_3_4 x7_3_5 e7_3_5) (callE (few_C smB wtE xb es n5_2_0 n5_2_1 s5_2_2 x5_2_3 e5_2_3 x5_2_4 e5_2_4 x5_2_5 e5_2_5 n7_3_0 n7_3_1 s7_3_2 x7_3_3 e7_3_3 x7_3_4 e7_3_4 x7_3_5 e7_3_5) 100000 10) 31 100000 qcur qk qs qor []
noncomputable def few_l0 : Code := (loopAt Try.prog 31 0).1
noncomputable def few_k0 : List It := (loopAt Try.prog 31 0).2
/- loop 0: n3:=(0 : Int); n4:=(0 : Int); -/
noncomputable def few_s0 (smB : Cs → Bool) (wtE : Cs → Int → Int) (xb : Bool) (es : Es) (n3 : Int) (n4 : Int) : St := ⟨envOf 31 [(0, D.slice xb es none), (3, D.int IntKind.i64 n3), (4, D.int IntKind.i64 n4)], []⟩
def few_at0 (smB : Cs → Bool) (wtE : Cs → Int → Int) (xb : Bool) (es : Es) (n3 : Int) (n4 : Int) (r : D) (H1 : GD.Heap) : Prop := GD.Fin Try.prog (tyOf Try.prog) (fnAt Try.prog 31) 0 (.code (.loop few_l0)) few_k0 (few_s0 smB wtE xb es n3 n4) r H1

theorem few_in_0 {smB : Cs → Bool} {wtE : Cs → Int → Int} {xb : Bool} {es : Es} {r : D} {H1 : GD.Heap}
    (g : few_at0 smB wtE xb es ((0 : Int)) ((0 : Int)) r H1) :
    Ret Try.prog (tyOf Try.prog) 31 [D.slice xb es none] [] r H1 :=
  fin_call few_fn few_body few_name (fin_stop (F := (fun _ => false)) (h := 0) (keep := [0, 3, 4]) (few_ok smB wtE xb es 0 0 (ByteArray.mk #[]) false [] false [] false [] 0 0 (ByteArray.mk #[]) false [] false [] false []) (show cutX (fun _ => false) [0, 3, 4] 0 (few_run smB wtE xb es 0 0 (ByteArray.mk #[]) false [] false [] false [] 0 0 (ByteArray.mk #[]) false [] false [] false [] (.code (bodyAt Try.prog 31)) [] (beginE (fnAt Try.prog 31) [D.slice xb es none] []) (.path [])) = some (few_l0, few_k0, (few_s0 smB wtE xb es ((0 : Int)) ((0 : Int))).env, (few_s0 smB wtE xb es ((0 : Int)) ((0 : Int))).H,
    []) by kernel_rfl)
    (all_nil.2 trivial) (show (0 : Nat) ≤ 0 by decide) g)

theorem few_0_0 {smB : Cs → Bool} {wtE : Cs → Int → Int} {xb : Bool} {es : Es} {n3 : Int} {n4 : Int} {n5_2_0 : Int} {n5_2_1 : Int} {s5_2_2 : ByteArray} {x5_2_3 : Bool} {e5_2_3 : List (List D)} {x5_2_4 : Bool} {e5_2_4 : List (List D)} {x5_2_5 : Bool} {e5_2_5 : List (List D)} {n7_3_0 : Int} {n7_3_1 : Int} {s7_3_2 : ByteArray} {x7_3_3 : Bool} {e7_3_3 : List (List D)} {x7_3_4 : Bool} {e7_3_4 : List (List D)} {x7_3_5 : Bool} {e7_3_5 : List (List D)} {r : D} {H1 : GD.Heap}
    (h0 : n4 < (↑(List.length es) : Int))
    (h1 : smB
    [D.int IntKind.i64 n5_2_0, D.int IntKind.i64 n5_2_1, D.str s5_2_2, D.slice x5_2_3 e5_2_3 none,
      D.slice x5_2_4 e5_2_4 none, D.slice x5_2_5 e5_2_5 none] =
  true)
    (h2 : Ret Try.prog (tyOf Try.prog) (42 : Nat)
  [D.agg
      [D.int IntKind.i64 n7_3_0, D.int IntKind.i64 n7_3_1, D.str s7_3_2, D.slice x7_3_3 e7_3_3 none,
        D.slice x7_3_4 e7_3_4 none, D.slice x7_3_5 e7_3_5 none],
    D.int IntKind.i64 (3000 : Int)]
  []
  (D.int IntKind.i64
    (wtE
      [D.int IntKind.i64 n7_3_0, D.int IntKind.i64 n7_3_1, D.str s7_3_2, D.slice x7_3_3 e7_3_3 none,
        D.slice x7_3_4 e7_3_4 none, D.slice x7_3_5 e7_3_5 none]
      (3000 : Int)))
  [])
    (h3 : (0 : Int) ≤ n4)
    (h4 : es[n4.toNat]? =
  some
    [D.int IntKind.i64 n7_3_0, D.int IntKind.i64 n7_3_1, D.str s7_3_2, D.slice x7_3_3 e7_3_3 none,
      D.slice x7_3_4 e7_3_4 none, D.slice x7_3_5 e7_3_5 none])
    (h5 : Ret Try.prog (tyOf Try.prog) (14 : Nat)
  [D.agg
      [D.int IntKind.i64 n5_2_0, D.int IntKind.i64 n5_2_1, D.str s5_2_2, D.slice x5_2_3 e5_2_3 none,
        D.slice x5_2_4 e5_2_4 none, D.slice x5_2_5 e5_2_5 none]]
  []
  (D.bool
    (smB
      [D.int IntKind.i64 n5_2_0, D.int IntKind.i64 n5_2_1, D.str s5_2_2, D.slice x5_2_3 e5_2_3 none,
        D.slice x5_2_4 e5_2_4 none, D.slice x5_2_5 e5_2_5 none]))
  [])
    (h6 : es[n4.toNat]? =
  some
    [D.int IntKind.i64 n5_2_0, D.int IntKind.i64 n5_2_1, D.str s5_2_2, D.slice x5_2_3 e5_2_3 none,
      D.slice x5_2_4 e5_2_4 none, D.slice x5_2_5 e5_2_5 none])
    (g : few_at0 smB wtE xb es (IntKind.i64.wrap
  (n3 +
    wtE
      [D.int IntKind.i64 n7_3_0, D.int IntKind.i64 n7_3_1, D.str s7_3_2, D.slice x7_3_3 e7_3_3 none,
        D.slice x7_3_4 e7_3_4 none, D.slice x7_3_5 e7_3_5 none]
      (3000 : Int))) (IntKind.i64.wrap (n4 + (1 : Int))) r H1) :
    few_at0 smB wtE xb es n3 n4 r H1 :=
  have b0 : decide (n4 < (↑(List.length es) : Int)) = true := decide_eq_true h0
  have b1 : smB
    [D.int IntKind.i64 n5_2_0, D.int IntKind.i64 n5_2_1, D.str s5_2_2, D.slice x5_2_3 e5_2_3 none,
      D.slice x5_2_4 e5_2_4 none, D.slice x5_2_5 e5_2_5 none] =
  true := h1
  fin_loop (fin_stop (F := (fun _ => false)) (h := 0) (keep := [0, 3, 4]) (few_ok smB wtE xb es n5_2_0 n5_2_1 s5_2_2 x5_2_3 e5_2_3 x5_2_4 e5_2_4 x5_2_5 e5_2_5 n7_3_0 n7_3_1 s7_3_2 x7_3_3 e7_3_3 x7_3_4 e7_3_4 x7_3_5 e7_3_5) (show cutX (fun _ => false) [0, 3, 4] 0 (few_run smB wtE xb es n5_2_0 n5_2_1 s5_2_2 x5_2_3 e5_2_3 x5_2_4 e5_2_4 x5_2_5 e5_2_5 n7_3_0 n7_3_1 s7_3_2 x7_3_3 e7_3_3 x7_3_4 e7_3_4 x7_3_5 e7_3_5 (.code few_l0) (.lp few_l0 :: few_k0) (few_s0 smB wtE xb es n3 n4) (.path [true, false])) = some (few_l0, few_k0, (few_s0 smB wtE xb es (IntKind.i64.wrap
  (n3 +
    wtE
      [D.int IntKind.i64 n7_3_0, D.int IntKind.i64 n7_3_1, D.str s7_3_2, D.slice x7_3_3 e7_3_3 none,
        D.slice x7_3_4 e7_3_4 none, D.slice x7_3_5 e7_3_5 none]
      (3000 : Int))) (IntKind.i64.wrap (n4 + (1 : Int)))).env, (few_s0 smB wtE xb es (IntKind.i64.wrap
  (n3 +
    wtE
      [D.int IntKind.i64 n7_3_0, D.int IntKind.i64 n7_3_1, D.str s7_3_2, D.slice x7_3_3 e7_3_3 none,
        D.slice x7_3_4 e7_3_4 none, D.slice x7_3_5 e7_3_5 none]
      (3000 : Int))) (IntKind.i64.wrap (n4 + (1 : Int)))).H,
    [Ret Try.prog (tyOf Try.prog) (42 : Nat)
  [D.agg
      [D.int IntKind.i64 n7_3_0, D.int IntKind.i64 n7_3_1, D.str s7_3_2, D.slice x7_3_3 e7_3_3 none,
        D.slice x7_3_4 e7_3_4 none, D.slice x7_3_5 e7_3_5 none],
    D.int IntKind.i64 (3000 : Int)]
  []
  (D.int IntKind.i64
    (wtE
      [D.int IntKind.i64 n7_3_0, D.int IntKind.i64 n7_3_1, D.str s7_3_2, D.slice x7_3_3 e7_3_3 none,
        D.slice x7_3_4 e7_3_4 none, D.slice x7_3_5 e7_3_5 none]
      (3000 : Int)))
  [],
      (0 : Int) ≤ n4,
      es[n4.toNat]? =
  some
    [D.int IntKind.i64 n7_3_0, D.int IntKind.i64 n7_3_1, D.str s7_3_2, D.slice x7_3_3 e7_3_3 none,
      D.slice x7_3_4 e7_3_4 none, D.slice x7_3_5 e7_3_5 none],
      (!smB
      [D.int IntKind.i64 n5_2_0, D.int IntKind.i64 n5_2_1, D.str s5_2_2, D.slice x5_2_3 e5_2_3 none,
        D.slice x5_2_4 e5_2_4 none, D.slice x5_2_5 e5_2_5 none]) =
  false,
      Ret Try.prog (tyOf Try.prog) (14 : Nat)
  [D.agg
      [D.int IntKind.i64 n5_2_0, D.int IntKind.i64 n5_2_1, D.str s5_2_2, D.slice x5_2_3 e5_2_3 none,
        D.slice x5_2_4 e5_2_4 none, D.slice x5_2_5 e5_2_5 none]]
  []
  (D.bool
    (smB
      [D.int IntKind.i64 n5_2_0, D.int IntKind.i64 n5_2_1, D.str s5_2_2, D.slice x5_2_3 e5_2_3 none,
        D.slice x5_2_4 e5_2_4 none, D.slice x5_2_5 e5_2_5 none]))
  [],
      (0 : Int) ≤ n4,
      es[n4.toNat]? =
  some
    [D.int IntKind.i64 n5_2_0, D.int IntKind.i64 n5_2_1, D.str s5_2_2, D.slice x5_2_3 e5_2_3 none,
      D.slice x5_2_4 e5_2_4 none, D.slice x5_2_5 e5_2_5 none],
      decide (n4 < (↑(List.length es) : Int)) = true]) by kernel_rfl)
    (all_cons.2 ⟨h2, all_cons.2 ⟨h3, all_cons.2 ⟨h4, all_cons.2 ⟨(by rw [b1]; rfl), all_cons.2 ⟨h5, all_cons.2 ⟨h3, all_cons.2 ⟨h6, all_cons.2 ⟨b0, all_nil.2 trivial⟩⟩⟩⟩⟩⟩⟩⟩) (show (0 : Nat) ≤ 0 by decide) g)

theorem few_0_1 {smB : Cs → Bool} {wtE : Cs → Int → Int} {xb : Bool} {es : Es} {n3 : Int} {n4 : Int} {n5_2_0 : Int} {n5_2_1 : Int} {s5_2_2 : ByteArray} {x5_2_3 : Bool} {e5_2_3 : List (List D)} {x5_2_4 : Bool} {e5_2_4 : List (List D)} {x5_2_5 : Bool} {e5_2_5 : List (List D)}
    (h0 : n4 < (↑(List.length es) : Int))
    (h1 : smB
    [D.int IntKind.i64 n5_2_0, D.int IntKind.i64 n5_2_1, D.str s5_2_2, D.slice x5_2_3 e5_2_3 none,
      D.slice x5_2_4 e5_2_4 none, D.slice x5_2_5 e5_2_5 none] =
  false)
    (h2 : Ret Try.prog (tyOf Try.prog) (14 : Nat)
  [D.agg
      [D.int IntKind.i64 n5_2_0, D.int IntKind.i64 n5_2_1, D.str s5_2_2, D.slice x5_2_3 e5_2_3 none,
        D.slice x5_2_4 e5_2_4 none, D.slice x5_2_5 e5_2_5 none]]
  []
  (D.bool
    (smB
      [D.int IntKind.i64 n5_2_0, D.int IntKind.i64 n5_2_1, D.str s5_2_2, D.slice x5_2_3 e5_2_3 none,
        D.slice x5_2_4 e5_2_4 none, D.slice x5_2_5 e5_2_5 none]))
  [])
    (h3 : (0 : Int) ≤ n4)
    (h4 : es[n4.toNat]? =
  some
    [D.int IntKind.i64 n5_2_0, D.int IntKind.i64 n5_2_1, D.str s5_2_2, D.slice x5_2_3 e5_2_3 none,
      D.slice x5_2_4 e5_2_4 none, D.slice x5_2_5 e5_2_5 none]) :
    few_at0 smB wtE xb es n3 n4 (D.bool false) [] :=
  have b0 : decide (n4 < (↑(List.length es) : Int)) = true := decide_eq_true h0
  have b1 : smB
    [D.int IntKind.i64 n5_2_0, D.int IntKind.i64 n5_2_1, D.str s5_2_2, D.slice x5_2_3 e5_2_3 none,
      D.slice x5_2_4 e5_2_4 none, D.slice x5_2_5 e5_2_5 none] =
  false := h1
  fin_loop (fin_ret (h := 0) (few_ok smB wtE xb es n5_2_0 n5_2_1 s5_2_2 x5_2_3 e5_2_3 x5_2_4 e5_2_4 x5_2_5 e5_2_5 0 0 (ByteArray.mk #[]) false [] false [] false []) (show outF (tyOf Try.prog) (fnAt Try.prog 31) 0 (few_run smB wtE xb es n5_2_0 n5_2_1 s5_2_2 x5_2_3 e5_2_3 x5_2_4 e5_2_4 x5_2_5 e5_2_5 0 0 (ByteArray.mk #[]) false [] false [] false [] (.code few_l0) (.lp few_l0 :: few_k0) (few_s0 smB wtE xb es n3 n4) (.path [true, true])) = some (D.bool false, [],
    [(!smB
      [D.int IntKind.i64 n5_2_0, D.int IntKind.i64 n5_2_1, D.str s5_2_2, D.slice x5_2_3 e5_2_3 none,
        D.slice x5_2_4 e5_2_4 none, D.slice x5_2_5 e5_2_5 none]) =
  true,
      Ret Try.prog (tyOf Try.prog) (14 : Nat)
  [D.agg
      [D.int IntKind.i64 n5_2_0, D.int IntKind.i64 n5_2_1, D.str s5_2_2, D.slice x5_2_3 e5_2_3 none,
        D.slice x5_2_4 e5_2_4 none, D.slice x5_2_5 e5_2_5 none]]
  []
  (D.bool
    (smB
      [D.int IntKind.i64 n5_2_0, D.int IntKind.i64 n5_2_1, D.str s5_2_2, D.slice x5_2_3 e5_2_3 none,
        D.slice x5_2_4 e5_2_4 none, D.slice x5_2_5 e5_2_5 none]))
  [],
      (0 : Int) ≤ n4,
      es[n4.toNat]? =
  some
    [D.int IntKind.i64 n5_2_0, D.int IntKind.i64 n5_2_1, D.str s5_2_2, D.slice x5_2_3 e5_2_3 none,
      D.slice x5_2_4 e5_2_4 none, D.slice x5_2_5 e5_2_5 none],
      decide (n4 < (↑(List.length es) : Int)) = true]) by kernel_rfl)
    (all_cons.2 ⟨(by rw [b1]; rfl), all_cons.2 ⟨h2, all_cons.2 ⟨h3, all_cons.2 ⟨h4, all_cons.2 ⟨b0, all_nil.2 trivial⟩⟩⟩⟩⟩))

theorem few_0_2 {smB : Cs → Bool} {wtE : Cs → Int → Int} {xb : Bool} {es : Es} {n3 : Int} {n4 : Int}
    (h0 : ¬ (n4 < (↑(List.length es) : Int)))
    (h1 : (↑(List.length es) : Int) ≤ (30 : Int)) :
    few_at0 smB wtE xb es n3 n4 (D.bool (decide (n3 ≤ (6000 : Int)))) [] :=
  have b0 : decide (n4 < (↑(List.length es) : Int)) = false := decide_eq_false h0
  have b1 : decide ((↑(List.length es) : Int) ≤ (30 : Int)) = true := decide_eq_true h1
  fin_loop (fin_ret (h := 0) (few_ok smB wtE xb es 0 0 (ByteArray.mk #[]) false [] false [] false [] 0 0 (ByteArray.mk #[]) false [] false [] false []) (show outF (tyOf Try.prog) (fnAt Try.prog 31) 0 (few_run smB wtE xb es 0 0 (ByteArray.mk #[]) false [] false [] false [] 0 0 (ByteArray.mk #[]) false [] false [] false [] (.code few_l0) (.lp few_l0 :: few_k0) (few_s0 smB wtE xb es n3 n4) (.path [false, true, true, true])) = some (D.bool (decide (n3 ≤ (6000 : Int))), [],
    [decide ((↑(List.length es) : Int) ≤ (30 : Int)) = true,
      (decide ((↑(List.length es) : Int) ≤ (30 : Int)) == true) = true,
      (decide ((↑(List.length es) : Int) ≤ (30 : Int)) == true) = true,
      decide (n4 < (↑(List.length es) : Int)) = false]) by kernel_rfl)
    (all_cons.2 ⟨b1, all_cons.2 ⟨(by rw [b1]; rfl), all_cons.2 ⟨(by rw [b1]; rfl), all_cons.2 ⟨b0, all_nil.2 trivial⟩⟩⟩⟩))

theorem few_0_3 {smB : Cs → Bool} {wtE : Cs → Int → Int} {xb : Bool} {es : Es} {n3 : Int} {n4 : Int}
    (h0 : ¬ (n4 < (↑(List.length es) : Int)))
    (h1 : ¬ ((↑(List.length es) : Int) ≤ (30 : Int))) :
    few_at0 smB wtE xb es n3 n4 (D.bool false) [] :=
  have b0 : decide (n4 < (↑(List.length es) : Int)) = false := decide_eq_false h0
  have b1 : decide ((↑(List.length es) : Int) ≤ (30 : Int)) = false := decide_eq_false h1
  fin_loop (fin_ret (h := 0) (few_ok smB wtE xb es 0 0 (ByteArray.mk #[]) false [] false [] false [] 0 0 (ByteArray.mk #[]) false [] false [] false []) (show outF (tyOf Try.prog) (fnAt Try.prog 31) 0 (few_run smB wtE xb es 0 0 (ByteArray.mk #[]) false [] false [] false [] 0 0 (ByteArray.mk #[]) false [] false [] false [] (.code few_l0) (.lp few_l0 :: few_k0) (few_s0 smB wtE xb es n3 n4) (.path [false, false, false, false])) = some (D.bool false, [],
    [decide ((↑(List.length es) : Int) ≤ (30 : Int)) = false,
      (decide ((↑(List.length es) : Int) ≤ (30 : Int)) == true) = false,
      (decide ((↑(List.length es) : Int) ≤ (30 : Int)) == true) = false,
      decide (n4 < (↑(List.length es) : Int)) = false]) by kernel_rfl)
    (all_cons.2 ⟨b1, all_cons.2 ⟨(by rw [b1]; rfl), all_cons.2 ⟨(by rw [b1]; rfl), all_cons.2 ⟨b0, all_nil.2 trivial⟩⟩⟩⟩))


/-! ### function 8 -/
theorem lki_fn : Try.prog.funcs[(8 : Nat)]? = some (fnAt Try.prog 8) := by kernel_rfl
theorem lki_body : (fnAt Try.prog 8).body = some (bodyAt Try.prog 8) := by kernel_rfl
theorem lki_name : ((fnAt Try.prog 8).name == "runtime.NumGoroutine") = false := by kernel_rfl
noncomputable def lki_C (fwB : Es → Bool) (k : Int) (n : Int) (s : ByteArray) (xb : Bool) (eb : Es) (xf : Bool) (ef : Es) (xl : Bool) (el : Es) (k' : Int) (n' : Int) (s' : ByteArray) (xb' : Bool) (eb' : Es) (xf' : Bool) (ef' : Es) (xl' : Bool) (el' : Es) : Cf := cfg Try.prog (hintOf []) (tKi fwB k n s xb eb xf ef xl el k' n' s' xb' eb' xf' ef' xl' el') (fun g => match g with | 31 => true | _ => false) 2 true (fun _ => false)
theorem lki_ok (fwB : Es → Bool) (k : Int) (n : Int) (s : ByteArray) (xb : Bool) (eb : Es) (xf : Bool) (ef : Es) (xl : Bool) (el : Es) (k' : Int) (n' : Int) (s' : ByteArray) (xb' : Bool) (eb' : Es) (xf' : Bool) (ef' : Es) (xl' : Bool) (el' : Es) : CfOk (lki_C fwB k n s xb eb xf ef xl el k' n' s' xb' eb' xf' ef' xl' el') := cfg_ok (by kernel_rfl)
noncomputable def lki_run (fwB : Es → Bool) (k : Int) (n : Int) (s : ByteArray) (xb : Bool) (eb : Es) (xf : Bool) (ef : Es) (xl : Bool) (el : Es) (k' : Int) (n' : Int) (s' : ByteArray) (xb' : Bool) (eb' : Es) (xf' : Bool) (ef' : Es) (xl' : Bool) (el' : Es) (qcur : Cur) (qk : List It) (qs : St) (qor : GD.Or) := runE (lki_C fwB k n s xb eb xf ef xl el k' n' s' xb' eb' xf' ef' xl' el') (callE (lki_C fwB k n s xb eb xf ef xl el k' n' s' xb' eb' xf' ef' xl' el') 100000 10) 8 100000 qcur qk qs qor []

theorem lki_in_0 {fwB : Es → Bool} {k : Int} {n : Int} {s : ByteArray} {xb : Bool} {eb : Es} {xf : Bool} {ef : Es} {xl : Bool} {el : Es} {k' : Int} {n' : Int} {s' : ByteArray} {xb' : Bool} {eb' : Es} {xf' : Bool} {ef' : Es} {xl' : Bool} {el' : Es}
    (h0 : fwB
    [[D.int IntKind.i64 k, D.int IntKind.i64 n, D.str s, D.slice xb eb none, D.slice xf ef none, D.slice xl el none],
      [D.int IntKind.i64 k', D.int IntKind.i64 n', D.str s', D.slice xb' eb' none, D.slice xf' ef' none,
        D.slice xl' el' none]] =
  true)
    (h1 : classU k < classU k')
    (h2 : cmpV [D.int IntKind.i64 k, D.int IntKind.i64 n, D.str s, D.slice xb eb none, D.slice xf ef none, D.slice xl el none]
  [D.int IntKind.i64 k', D.int IntKind.i64 n', D.str s', D.slice xb' eb' none, D.slice xf' ef' none,
    D.slice xl' el' none] = (-1 : Int))
    (h3 : classU k > classU k')
    (h4 : cmpV [D.int IntKind.i64 k, D.int IntKind.i64 n, D.str s, D.slice xb eb none, D.slice xf ef none, D.slice xl el none]
  [D.int IntKind.i64 k', D.int IntKind.i64 n', D.str s', D.slice xb' eb' none, D.slice xf' ef' none,
    D.slice xl' el' none] = (1 : Int))
    (h5 : classU k < (0 : Int))
    (h6 : Ret Try.prog (tyOf Try.prog) (32 : Nat)
  [D.agg
      [D.int IntKind.i64 (0 : Int), D.int IntKind.i64 (0 : Int), D.str (ByteArray.mk #[]), D.slice false [] none,
        D.slice false [] none, D.slice false [] none],
    D.agg
      [D.int IntKind.i64 k, D.int IntKind.i64 n, D.str s, D.slice xb eb none, D.slice xf ef none, D.slice xl el none]]
  []
  (D.int IntKind.i64
    (cmpV
      [D.int IntKind.i64 (0 : Int), D.int IntKind.i64 (0 : Int), D.str (ByteArray.mk #[]), D.slice false [] none,
        D.slice false [] none, D.slice false [] none]
      [D.int IntKind.i64 k, D.int IntKind.i64 n, D.str s, D.slice xb eb none, D.slice xf ef none, D.slice xl el none]))
  [])
    (h7 : Ret Try.prog (tyOf Try.prog) (32 : Nat)
  [D.agg
      [D.int IntKind.i64 k, D.int IntKind.i64 n, D.str s, D.slice xb eb none, D.slice xf ef none, D.slice xl el none],
    D.agg
      [D.int IntKind.i64 k', D.int IntKind.i64 n', D.str s', D.slice xb' eb' none, D.slice xf' ef' none,
        D.slice xl' el' none]]
  []
  (D.int IntKind.i64
    (cmpV
      [D.int IntKind.i64 k, D.int IntKind.i64 n, D.str s, D.slice xb eb none, D.slice xf ef none, D.slice xl el none]
      [D.int IntKind.i64 k', D.int IntKind.i64 n', D.str s', D.slice xb' eb' none, D.slice xf' ef' none,
        D.slice xl' el' none]))
  [])
    (h8 : Ret Try.prog (tyOf Try.prog) (31 : Nat)
  [D.slice true
      [[D.int IntKind.i64 k, D.int IntKind.i64 n, D.str s, D.slice xb eb none, D.slice xf ef none, D.slice xl el none],
        [D.int IntKind.i64 k', D.int IntKind.i64 n', D.str s', D.slice xb' eb' none, D.slice xf' ef' none,
          D.slice xl' el' none]]
      none]
  []
  (D.bool
    (fwB
      [[D.int IntKind.i64 k, D.int IntKind.i64 n, D.str s, D.slice xb eb none, D.slice xf ef none, D.slice xl el none],
        [D.int IntKind.i64 k', D.int IntKind.i64 n', D.str s', D.slice xb' eb' none, D.slice xf' ef' none,
          D.slice xl' el' none]]))
  [])
    (h9 : Ret Try.prog (tyOf Try.prog) (30 : Nat) [] [] (D.bool true) []) :
    Ret Try.prog (tyOf Try.prog) 8 [D.agg [D.int IntKind.i64 k, D.int IntKind.i64 n, D.str s, D.slice xb eb none, D.slice xf ef none, D.slice xl el none],
  D.agg
    [D.int IntKind.i64 k', D.int IntKind.i64 n', D.str s', D.slice xb' eb' none, D.slice xf' ef' none,
      D.slice xl' el' none]] [] (D.bool true) [] :=
  have b0 : fwB
    [[D.int IntKind.i64 k, D.int IntKind.i64 n, D.str s, D.slice xb eb none, D.slice xf ef none, D.slice xl el none],
      [D.int IntKind.i64 k', D.int IntKind.i64 n', D.str s', D.slice xb' eb' none, D.slice xf' ef' none,
        D.slice xl' el' none]] =
  true := h0
  have b1 : decide (classU k < classU k') = true := decide_eq_true h1
  have b2 : (cmpV [D.int IntKind.i64 k, D.int IntKind.i64 n, D.str s, D.slice xb eb none, D.slice xf ef none, D.slice xl el none]
      [D.int IntKind.i64 k', D.int IntKind.i64 n', D.str s', D.slice xb' eb' none, D.slice xf' ef' none,
        D.slice xl' el' none] !=
    (-1 : Int)) =
  false := (by rw [bne, Bool.not_eq_false']; exact beq_iff_eq.2 h2)
  have b3 : decide (classU k > classU k') = true := decide_eq_true h3
  have b4 : (cmpV [D.int IntKind.i64 k, D.int IntKind.i64 n, D.str s, D.slice xb eb none, D.slice xf ef none, D.slice xl el none]
      [D.int IntKind.i64 k', D.int IntKind.i64 n', D.str s', D.slice xb' eb' none, D.slice xf' ef' none,
        D.slice xl' el' none] !=
    (1 : Int)) =
  false := (by rw [bne, Bool.not_eq_false']; exact beq_iff_eq.2 h4)
  have b5 : decide (classU k < (0 : Int)) = true := decide_eq_true h5
  fin_call lki_fn lki_body lki_name (fin_ret (h := 0) (lki_ok fwB k n s xb eb xf ef xl el k' n' s' xb' eb' xf' ef' xl' el') (show outF (tyOf Try.prog) (fnAt Try.prog 8) 0 (lki_run fwB k n s xb eb xf ef xl el k' n' s' xb' eb' xf' ef' xl' el' (.code (bodyAt Try.prog 8)) [] (beginE (fnAt Try.prog 8) [D.agg [D.int IntKind.i64 k, D.int IntKind.i64 n, D.str s, D.slice xb eb none, D.slice xf ef none, D.slice xl el none],
  D.agg
    [D.int IntKind.i64 k', D.int IntKind.i64 n', D.str s', D.slice xb' eb' none, D.slice xf' ef' none,
      D.slice xl' el' none]] []) (.path [false, false, true, true, true, true, true, true, true, true, true, true, true, false, false, false, false, true, false, false, false, false, true])) = some (D.bool true, [],
    [true = true,
      false = false,
      false = false,
      false = false,
      false = false,
      decide (classU k < (0 : Int)) = true,
      (decide (classU k < (0 : Int)) == false) = false,
      (decide (classU k < (0 : Int)) == false) = false,
      Ret Try.prog (tyOf Try.prog) (32 : Nat)
  [D.agg
      [D.int IntKind.i64 (0 : Int), D.int IntKind.i64 (0 : Int), D.str (ByteArray.mk #[]), D.slice false [] none,
        D.slice false [] none, D.slice false [] none],
    D.agg
      [D.int IntKind.i64 k, D.int IntKind.i64 n, D.str s, D.slice xb eb none, D.slice xf ef none, D.slice xl el none]]
  []
  (D.int IntKind.i64
    (cmpV
      [D.int IntKind.i64 (0 : Int), D.int IntKind.i64 (0 : Int), D.str (ByteArray.mk #[]), D.slice false [] none,
        D.slice false [] none, D.slice false [] none]
      [D.int IntKind.i64 k, D.int IntKind.i64 n, D.str s, D.slice xb eb none, D.slice xf ef none, D.slice xl el none]))
  [],
      (cmpV [D.int IntKind.i64 k, D.int IntKind.i64 n, D.str s, D.slice xb eb none, D.slice xf ef none, D.slice xl el none]
      [D.int IntKind.i64 k', D.int IntKind.i64 n', D.str s', D.slice xb' eb' none, D.slice xf' ef' none,
        D.slice xl' el' none] !=
    (1 : Int)) =
  false,
      (cmpV [D.int IntKind.i64 k, D.int IntKind.i64 n, D.str s, D.slice xb eb none, D.slice xf ef none, D.slice xl el none]
      [D.int IntKind.i64 k', D.int IntKind.i64 n', D.str s', D.slice xb' eb' none, D.slice xf' ef' none,
        D.slice xl' el' none] !=
    (-1 : Int)) =
  false,
      decide (classU k > classU k') = true,
      ((cmpV [D.int IntKind.i64 k, D.int IntKind.i64 n, D.str s, D.slice xb eb none, D.slice xf ef none, D.slice xl el none]
        [D.int IntKind.i64 k', D.int IntKind.i64 n', D.str s', D.slice xb' eb' none, D.slice xf' ef' none,
          D.slice xl' el' none] !=
      (-1 : Int)) ==
    false) =
  true,
      (decide (classU k > classU k') == true) = true,
      (decide (classU k > classU k') == true) = true,
      ((cmpV [D.int IntKind.i64 k, D.int IntKind.i64 n, D.str s, D.slice xb eb none, D.slice xf ef none, D.slice xl el none]
        [D.int IntKind.i64 k', D.int IntKind.i64 n', D.str s', D.slice xb' eb' none, D.slice xf' ef' none,
          D.slice xl' el' none] !=
      (-1 : Int)) ==
    false) =
  true,
      ((cmpV [D.int IntKind.i64 k, D.int IntKind.i64 n, D.str s, D.slice xb eb none, D.slice xf ef none, D.slice xl el none]
        [D.int IntKind.i64 k', D.int IntKind.i64 n', D.str s', D.slice xb' eb' none, D.slice xf' ef' none,
          D.slice xl' el' none] !=
      (-1 : Int)) ==
    false) =
  true,
      ((cmpV [D.int IntKind.i64 k, D.int IntKind.i64 n, D.str s, D.slice xb eb none, D.slice xf ef none, D.slice xl el none]
        [D.int IntKind.i64 k', D.int IntKind.i64 n', D.str s', D.slice xb' eb' none, D.slice xf' ef' none,
          D.slice xl' el' none] !=
      (-1 : Int)) ==
    false) =
  true,
      ((cmpV [D.int IntKind.i64 k, D.int IntKind.i64 n, D.str s, D.slice xb eb none, D.slice xf ef none, D.slice xl el none]
        [D.int IntKind.i64 k', D.int IntKind.i64 n', D.str s', D.slice xb' eb' none, D.slice xf' ef' none,
          D.slice xl' el' none] !=
      (-1 : Int)) ==
    false) =
  true,
      decide (classU k < classU k') = true,
      (decide (classU k < classU k') == true) = true,
      (decide (classU k < classU k') == true) = true,
      Ret Try.prog (tyOf Try.prog) (32 : Nat)
  [D.agg
      [D.int IntKind.i64 k, D.int IntKind.i64 n, D.str s, D.slice xb eb none, D.slice xf ef none, D.slice xl el none],
    D.agg
      [D.int IntKind.i64 k', D.int IntKind.i64 n', D.str s', D.slice xb' eb' none, D.slice xf' ef' none,
        D.slice xl' el' none]]
  []
  (D.int IntKind.i64
    (cmpV
      [D.int IntKind.i64 k, D.int IntKind.i64 n, D.str s, D.slice xb eb none, D.slice xf ef none, D.slice xl el none]
      [D.int IntKind.i64 k', D.int IntKind.i64 n', D.str s', D.slice xb' eb' none, D.slice xf' ef' none,
        D.slice xl' el' none]))
  [],
      Ret Try.prog (tyOf Try.prog) (34 : Nat) [D.int IntKind.i64 k'] [] (D.int IntKind.i64 (classU k')) [],
      Ret Try.prog (tyOf Try.prog) (34 : Nat) [D.int IntKind.i64 k] [] (D.int IntKind.i64 (classU k)) [],
      (!fwB
      [[D.int IntKind.i64 k, D.int IntKind.i64 n, D.str s, D.slice xb eb none, D.slice xf ef none, D.slice xl el none],
        [D.int IntKind.i64 k', D.int IntKind.i64 n', D.str s', D.slice xb' eb' none, D.slice xf' ef' none,
          D.slice xl' el' none]]) =
  false,
      Ret Try.prog (tyOf Try.prog) (31 : Nat)
  [D.slice true
      [[D.int IntKind.i64 k, D.int IntKind.i64 n, D.str s, D.slice xb eb none, D.slice xf ef none, D.slice xl el none],
        [D.int IntKind.i64 k', D.int IntKind.i64 n', D.str s', D.slice xb' eb' none, D.slice xf' ef' none,
          D.slice xl' el' none]]
      none]
  []
  (D.bool
    (fwB
      [[D.int IntKind.i64 k, D.int IntKind.i64 n, D.str s, D.slice xb eb none, D.slice xf ef none, D.slice xl el none],
        [D.int IntKind.i64 k', D.int IntKind.i64 n', D.str s', D.slice xb' eb' none, D.slice xf' ef' none,
          D.slice xl' el' none]]))
  [],
      false = false,
      Ret Try.prog (tyOf Try.prog) (30 : Nat) [] [] (D.bool true) []]) by kernel_rfl)
    (all_cons.2 ⟨rfl, all_cons.2 ⟨rfl, all_cons.2 ⟨rfl, all_cons.2 ⟨rfl, all_cons.2 ⟨rfl, all_cons.2 ⟨b5, all_cons.2 ⟨(by rw [b5]; rfl), all_cons.2 ⟨(by rw [b5]; rfl), all_cons.2 ⟨h6, all_cons.2 ⟨b4, all_cons.2 ⟨b2, all_cons.2 ⟨b3, all_cons.2 ⟨(by rw [b2]; rfl), all_cons.2 ⟨(by rw [b3]; rfl), all_cons.2 ⟨(by rw [b3]; rfl), all_cons.2 ⟨(by rw [b2]; rfl), all_cons.2 ⟨(by rw [b2]; rfl), all_cons.2 ⟨(by rw [b2]; rfl), all_cons.2 ⟨(by rw [b2]; rfl), all_cons.2 ⟨b1, all_cons.2 ⟨(by rw [b1]; rfl), all_cons.2 ⟨(by rw [b1]; rfl), all_cons.2 ⟨h7, all_cons.2 ⟨(cls34 _), all_cons.2 ⟨(cls34 _), all_cons.2 ⟨(by rw [b0]; rfl), all_cons.2 ⟨h8, all_cons.2 ⟨rfl, all_cons.2 ⟨h9, all_nil.2 trivial⟩⟩⟩⟩⟩⟩⟩⟩⟩⟩⟩⟩⟩⟩⟩⟩⟩⟩⟩⟩⟩⟩⟩⟩⟩⟩⟩⟩⟩))

theorem lki_in_1 {fwB : Es → Bool} {k : Int} {n : Int} {s : ByteArray} {xb : Bool} {eb : Es} {xf : Bool} {ef : Es} {xl : Bool} {el : Es} {k' : Int} {n' : Int} {s' : ByteArray} {xb' : Bool} {eb' : Es} {xf' : Bool} {ef' : Es} {xl' : Bool} {el' : Es}
    (h0 : fwB
    [[D.int IntKind.i64 k, D.int IntKind.i64 n, D.str s, D.slice xb eb none, D.slice xf ef none, D.slice xl el none],
      [D.int IntKind.i64 k', D.int IntKind.i64 n', D.str s', D.slice xb' eb' none, D.slice xf' ef' none,
        D.slice xl' el' none]] =
  true)
    (h1 : classU k < classU k')
    (h2 : cmpV [D.int IntKind.i64 k, D.int IntKind.i64 n, D.str s, D.slice xb eb none, D.slice xf ef none, D.slice xl el none]
  [D.int IntKind.i64 k', D.int IntKind.i64 n', D.str s', D.slice xb' eb' none, D.slice xf' ef' none,
    D.slice xl' el' none] = (-1 : Int))
    (h3 : classU k > classU k')
    (h4 : cmpV [D.int IntKind.i64 k, D.int IntKind.i64 n, D.str s, D.slice xb eb none, D.slice xf ef none, D.slice xl el none]
  [D.int IntKind.i64 k', D.int IntKind.i64 n', D.str s', D.slice xb' eb' none, D.slice xf' ef' none,
    D.slice xl' el' none] = (1 : Int))
    (h5 : ¬ (classU k < (0 : Int)))
    (h6 : cmpV
  [D.int IntKind.i64 (0 : Int), D.int IntKind.i64 (0 : Int), D.str (ByteArray.mk #[]), D.slice false [] none,
    D.slice false [] none, D.slice false [] none]
  [D.int IntKind.i64 k, D.int IntKind.i64 n, D.str s, D.slice xb eb none, D.slice xf ef none, D.slice xl el none] = (-1 : Int))
    (h7 : Ret Try.prog (tyOf Try.prog) (32 : Nat)
  [D.agg
      [D.int IntKind.i64 (0 : Int), D.int IntKind.i64 (0 : Int), D.str (ByteArray.mk #[]), D.slice false [] none,
        D.slice false [] none, D.slice false [] none],
    D.agg
      [D.int IntKind.i64 k, D.int IntKind.i64 n, D.str s, D.slice xb eb none, D.slice xf ef none, D.slice xl el none]]
  []
  (D.int IntKind.i64
    (cmpV
      [D.int IntKind.i64 (0 : Int), D.int IntKind.i64 (0 : Int), D.str (ByteArray.mk #[]), D.slice false [] none,
        D.slice false [] none, D.slice false [] none]
      [D.int IntKind.i64 k, D.int IntKind.i64 n, D.str s, D.slice xb eb none, D.slice xf ef none, D.slice xl el none]))
  [])
    (h8 : Ret Try.prog (tyOf Try.prog) (32 : Nat)
  [D.agg
      [D.int IntKind.i64 k, D.int IntKind.i64 n, D.str s, D.slice xb eb none, D.slice xf ef none, D.slice xl el none],
    D.agg
      [D.int IntKind.i64 k', D.int IntKind.i64 n', D.str s', D.slice xb' eb' none, D.slice xf' ef' none,
        D.slice xl' el' none]]
  []
  (D.int IntKind.i64
    (cmpV
      [D.int IntKind.i64 k, D.int IntKind.i64 n, D.str s, D.slice xb eb none, D.slice xf ef none, D.slice xl el none]
      [D.int IntKind.i64 k', D.int IntKind.i64 n', D.str s', D.slice xb' eb' none, D.slice xf' ef' none,
        D.slice xl' el' none]))
  [])
    (h9 : Ret Try.prog (tyOf Try.prog) (31 : Nat)
  [D.slice true
      [[D.int IntKind.i64 k, D.int IntKind.i64 n, D.str s, D.slice xb eb none, D.slice xf ef none, D.slice xl el none],
        [D.int IntKind.i64 k', D.int IntKind.i64 n', D.str s', D.slice xb' eb' none, D.slice xf' ef' none,
          D.slice xl' el' none]]
      none]
  []
  (D.bool
    (fwB
      [[D.int IntKind.i64 k, D.int IntKind.i64 n, D.str s, D.slice xb eb none, D.slice xf ef none, D.slice xl el none],
        [D.int IntKind.i64 k', D.int IntKind.i64 n', D.str s', D.slice xb' eb' none, D.slice xf' ef' none,
          D.slice xl' el' none]]))
  [])
    (h10 : Ret Try.prog (tyOf Try.prog) (30 : Nat) [] [] (D.bool true) []) :
    Ret Try.prog (tyOf Try.prog) 8 [D.agg [D.int IntKind.i64 k, D.int IntKind.i64 n, D.str s, D.slice xb eb none, D.slice xf ef none, D.slice xl el none],
  D.agg
    [D.int IntKind.i64 k', D.int IntKind.i64 n', D.str s', D.slice xb' eb' none, D.slice xf' ef' none,
      D.slice xl' el' none]] [] (D.bool true) [] :=
  have b0 : fwB
    [[D.int IntKind.i64 k, D.int IntKind.i64 n, D.str s, D.slice xb eb none, D.slice xf ef none, D.slice xl el none],
      [D.int IntKind.i64 k', D.int IntKind.i64 n', D.str s', D.slice xb' eb' none, D.slice xf' ef' none,
        D.slice xl' el' none]] =
  true := h0
  have b1 : decide (classU k < classU k') = true := decide_eq_true h1
  have b2 : (cmpV [D.int IntKind.i64 k, D.int IntKind.i64 n, D.str s, D.slice xb eb none, D.slice xf ef none, D.slice xl el none]
      [D.int IntKind.i64 k', D.int IntKind.i64 n', D.str s', D.slice xb' eb' none, D.slice xf' ef' none,
        D.slice xl' el' none] !=
    (-1 : Int)) =
  false := (by rw [bne, Bool.not_eq_false']; exact beq_iff_eq.2 h2)
  have b3 : decide (classU k > classU k') = true := decide_eq_true h3
  have b4 : (cmpV [D.int IntKind.i64 k, D.int IntKind.i64 n, D.str s, D.slice xb eb none, D.slice xf ef none, D.slice xl el none]
      [D.int IntKind.i64 k', D.int IntKind.i64 n', D.str s', D.slice xb' eb' none, D.slice xf' ef' none,
        D.slice xl' el' none] !=
    (1 : Int)) =
  false := (by rw [bne, Bool.not_eq_false']; exact beq_iff_eq.2 h4)
  have b5 : decide (classU k < (0 : Int)) = false := decide_eq_false h5
  have b6 : (cmpV
      [D.int IntKind.i64 (0 : Int), D.int IntKind.i64 (0 : Int), D.str (ByteArray.mk #[]), D.slice false [] none,
        D.slice false [] none, D.slice false [] none]
      [D.int IntKind.i64 k, D.int IntKind.i64 n, D.str s, D.slice xb eb none, D.slice xf ef none, D.slice xl el none] ==
    (-1 : Int)) =
  true := beq_iff_eq.2 h6
  fin_call lki_fn lki_body lki_name (fin_ret (h := 0) (lki_ok fwB k n s xb eb xf ef xl el k' n' s' xb' eb' xf' ef' xl' el') (show outF (tyOf Try.prog) (fnAt Try.prog 8) 0 (lki_run fwB k n s xb eb xf ef xl el k' n' s' xb' eb' xf' ef' xl' el' (.code (bodyAt Try.prog 8)) [] (beginE (fnAt Try.prog 8) [D.agg [D.int IntKind.i64 k, D.int IntKind.i64 n, D.str s, D.slice xb eb none, D.slice xf ef none, D.slice xl el none],
  D.agg
    [D.int IntKind.i64 k', D.int IntKind.i64 n', D.str s', D.slice xb' eb' none, D.slice xf' ef' none,
      D.slice xl' el' none]] []) (.path [false, false, true, true, true, true, true, true, true, true, true, true, true, false, false, true, true, false, false, false, false, false, true])) = some (D.bool true, [],
    [(cmpV
      [D.int IntKind.i64 (0 : Int), D.int IntKind.i64 (0 : Int), D.str (ByteArray.mk #[]), D.slice false [] none,
        D.slice false [] none, D.slice false [] none]
      [D.int IntKind.i64 k, D.int IntKind.i64 n, D.str s, D.slice xb eb none, D.slice xf ef none, D.slice xl el none] ==
    (-1 : Int)) =
  true,
      ((cmpV
        [D.int IntKind.i64 (0 : Int), D.int IntKind.i64 (0 : Int), D.str (ByteArray.mk #[]), D.slice false [] none,
          D.slice false [] none, D.slice false [] none]
        [D.int IntKind.i64 k, D.int IntKind.i64 n, D.str s, D.slice xb eb none, D.slice xf ef none,
          D.slice xl el none] ==
      (-1 : Int)) ==
    false) =
  false,
      ((cmpV
        [D.int IntKind.i64 (0 : Int), D.int IntKind.i64 (0 : Int), D.str (ByteArray.mk #[]), D.slice false [] none,
          D.slice false [] none, D.slice false [] none]
        [D.int IntKind.i64 k, D.int IntKind.i64 n, D.str s, D.slice xb eb none, D.slice xf ef none,
          D.slice xl el none] ==
      (-1 : Int)) ==
    false) =
  false,
      ((cmpV
        [D.int IntKind.i64 (0 : Int), D.int IntKind.i64 (0 : Int), D.str (ByteArray.mk #[]), D.slice false [] none,
          D.slice false [] none, D.slice false [] none]
        [D.int IntKind.i64 k, D.int IntKind.i64 n, D.str s, D.slice xb eb none, D.slice xf ef none,
          D.slice xl el none] ==
      (-1 : Int)) ==
    false) =
  false,
      ((cmpV
        [D.int IntKind.i64 (0 : Int), D.int IntKind.i64 (0 : Int), D.str (ByteArray.mk #[]), D.slice false [] none,
          D.slice false [] none, D.slice false [] none]
        [D.int IntKind.i64 k, D.int IntKind.i64 n, D.str s, D.slice xb eb none, D.slice xf ef none,
          D.slice xl el none] ==
      (-1 : Int)) ==
    false) =
  false,
      decide (classU k < (0 : Int)) = false,
      (decide (classU k < (0 : Int)) == false) = true,
      (decide (classU k < (0 : Int)) == false) = true,
      Ret Try.prog (tyOf Try.prog) (32 : Nat)
  [D.agg
      [D.int IntKind.i64 (0 : Int), D.int IntKind.i64 (0 : Int), D.str (ByteArray.mk #[]), D.slice false [] none,
        D.slice false [] none, D.slice false [] none],
    D.agg
      [D.int IntKind.i64 k, D.int IntKind.i64 n, D.str s, D.slice xb eb none, D.slice xf ef none, D.slice xl el none]]
  []
  (D.int IntKind.i64
    (cmpV
      [D.int IntKind.i64 (0 : Int), D.int IntKind.i64 (0 : Int), D.str (ByteArray.mk #[]), D.slice false [] none,
        D.slice false [] none, D.slice false [] none]
      [D.int IntKind.i64 k, D.int IntKind.i64 n, D.str s, D.slice xb eb none, D.slice xf ef none, D.slice xl el none]))
  [],
      (cmpV [D.int IntKind.i64 k, D.int IntKind.i64 n, D.str s, D.slice xb eb none, D.slice xf ef none, D.slice xl el none]
      [D.int IntKind.i64 k', D.int IntKind.i64 n', D.str s', D.slice xb' eb' none, D.slice xf' ef' none,
        D.slice xl' el' none] !=
    (1 : Int)) =
  false,
      (cmpV [D.int IntKind.i64 k, D.int IntKind.i64 n, D.str s, D.slice xb eb none, D.slice xf ef none, D.slice xl el none]
      [D.int IntKind.i64 k', D.int IntKind.i64 n', D.str s', D.slice xb' eb' none, D.slice xf' ef' none,
        D.slice xl' el' none] !=
    (-1 : Int)) =
  false,
      decide (classU k > classU k') = true,
      ((cmpV [D.int IntKind.i64 k, D.int IntKind.i64 n, D.str s, D.slice xb eb none, D.slice xf ef none, D.slice xl el none]
        [D.int IntKind.i64 k', D.int IntKind.i64 n', D.str s', D.slice xb' eb' none, D.slice xf' ef' none,
          D.slice xl' el' none] !=
      (-1 : Int)) ==
    false) =
  true,
      (decide (classU k > classU k') == true) = true,
      (decide (classU k > classU k') == true) = true,
      ((cmpV [D.int IntKind.i64 k, D.int IntKind.i64 n, D.str s, D.slice xb eb none, D.slice xf ef none, D.slice xl el none]
        [D.int IntKind.i64 k', D.int IntKind.i64 n', D.str s', D.slice xb' eb' none, D.slice xf' ef' none,
          D.slice xl' el' none] !=
      (-1 : Int)) ==
    false) =
  true,
      ((cmpV [D.int IntKind.i64 k, D.int IntKind.i64 n, D.str s, D.slice xb eb none, D.slice xf ef none, D.slice xl el none]
        [D.int IntKind.i64 k', D.int IntKind.i64 n', D.str s', D.slice xb' eb' none, D.slice xf' ef' none,
          D.slice xl' el' none] !=
      (-1 : Int)) ==
    false) =
  true,
      ((cmpV [D.int IntKind.i64 k, D.int IntKind.i64 n, D.str s, D.slice xb eb none, D.slice xf ef none, D.slice xl el none]
        [D.int IntKind.i64 k', D.int IntKind.i64 n', D.str s', D.slice xb' eb' none, D.slice xf' ef' none,
          D.slice xl' el' none] !=
      (-1 : Int)) ==
    false) =
  true,
      ((cmpV [D.int IntKind.i64 k, D.int IntKind.i64 n, D.str s, D.slice xb eb none, D.slice xf ef none, D.slice xl el none]
        [D.int IntKind.i64 k', D.int IntKind.i64 n', D.str s', D.slice xb' eb' none, D.slice xf' ef' none,
          D.slice xl' el' none] !=
      (-1 : Int)) ==
    false) =
  true,
      decide (classU k < classU k') = true,
      (decide (classU k < classU k') == true) = true,
      (decide (classU k < classU k') == true) = true,
      Ret Try.prog (tyOf Try.prog) (32 : Nat)
  [D.agg
      [D.int IntKind.i64 k, D.int IntKind.i64 n, D.str s, D.slice xb eb none, D.slice xf ef none, D.slice xl el none],
    D.agg
      [D.int IntKind.i64 k', D.int IntKind.i64 n', D.str s', D.slice xb' eb' none, D.slice xf' ef' none,
        D.slice xl' el' none]]
  []
  (D.int IntKind.i64
    (cmpV
      [D.int IntKind.i64 k, D.int IntKind.i64 n, D.str s, D.slice xb eb none, D.slice xf ef none, D.slice xl el none]
      [D.int IntKind.i64 k', D.int IntKind.i64 n', D.str s', D.slice xb' eb' none, D.slice xf' ef' none,
        D.slice xl' el' none]))
  [],
      Ret Try.prog (tyOf Try.prog) (34 : Nat) [D.int IntKind.i64 k'] [] (D.int IntKind.i64 (classU k')) [],
      Ret Try.prog (tyOf Try.prog) (34 : Nat) [D.int IntKind.i64 k] [] (D.int IntKind.i64 (classU k)) [],
      (!fwB
      [[D.int IntKind.i64 k, D.int IntKind.i64 n, D.str s, D.slice xb eb none, D.slice xf ef none, D.slice xl el none],
        [D.int IntKind.i64 k', D.int IntKind.i64 n', D.str s', D.slice xb' eb' none, D.slice xf' ef' none,
          D.slice xl' el' none]]) =
  false,
      Ret Try.prog (tyOf Try.prog) (31 : Nat)
  [D.slice true
      [[D.int IntKind.i64 k, D.int IntKind.i64 n, D.str s, D.slice xb eb none, D.slice xf ef none, D.slice xl el none],
        [D.int IntKind.i64 k', D.int IntKind.i64 n', D.str s', D.slice xb' eb' none, D.slice xf' ef' none,
          D.slice xl' el' none]]
      none]
  []
  (D.bool
    (fwB
      [[D.int IntKind.i64 k, D.int IntKind.i64 n, D.str s, D.slice xb eb none, D.slice xf ef none, D.slice xl el none],
        [D.int IntKind.i64 k', D.int IntKind.i64 n', D.str s', D.slice xb' eb' none, D.slice xf' ef' none,
          D.slice xl' el' none]]))
  [],
      false = false,
      Ret Try.prog (tyOf Try.prog) (30 : Nat) [] [] (D.bool true) []]) by kernel_rfl)
    (all_cons.2 ⟨b6, all_cons.2 ⟨(by rw [b6]; rfl), all_cons.2 ⟨(by rw [b6]; rfl), all_cons.2 ⟨(by rw [b6]; rfl), all_cons.2 ⟨(by rw [b6]; rfl), all_cons.2 ⟨b5, all_cons.2 ⟨(by rw [b5]; rfl), all_cons.2 ⟨(by rw [b5]; rfl), all_cons.2 ⟨h7, all_cons.2 ⟨b4, all_cons.2 ⟨b2, all_cons.2 ⟨b3, all_cons.2 ⟨(by rw [b2]; rfl), all_cons.2 ⟨(by rw [b3]; rfl), all_cons.2 ⟨(by rw [b3]; rfl), all_cons.2 ⟨(by rw [b2]; rfl), all_cons.2 ⟨(by rw [b2]; rfl), all_cons.2 ⟨(by rw [b2]; rfl), all_cons.2 ⟨(by rw [b2]; rfl), all_cons.2 ⟨b1, all_cons.2 ⟨(by rw [b1]; rfl), all_cons.2 ⟨(by rw [b1]; rfl), all_cons.2 ⟨h8, all_cons.2 ⟨(cls34 _), all_cons.2 ⟨(cls34 _), all_cons.2 ⟨(by rw [b0]; rfl), all_cons.2 ⟨h9, all_cons.2 ⟨rfl, all_cons.2 ⟨h10, all_nil.2 trivial⟩⟩⟩⟩⟩⟩⟩⟩⟩⟩⟩⟩⟩⟩⟩⟩⟩⟩⟩⟩⟩⟩⟩⟩⟩⟩⟩⟩⟩))

theorem lki_in_2 {fwB : Es → Bool} {k : Int} {n : Int} {s : ByteArray} {xb : Bool} {eb : Es} {xf : Bool} {ef : Es} {xl : Bool} {el : Es} {k' : Int} {n' : Int} {s' : ByteArray} {xb' : Bool} {eb' : Es} {xf' : Bool} {ef' : Es} {xl' : Bool} {el' : Es}
    (h0 : fwB
    [[D.int IntKind.i64 k, D.int IntKind.i64 n, D.str s, D.slice xb eb none, D.slice xf ef none, D.slice xl el none],
      [D.int IntKind.i64 k', D.int IntKind.i64 n', D.str s', D.slice xb' eb' none, D.slice xf' ef' none,
        D.slice xl' el' none]] =
  true)
    (h1 : classU k < classU k')
    (h2 : cmpV [D.int IntKind.i64 k, D.int IntKind.i64 n, D.str s, D.slice xb eb none, D.slice xf ef none, D.slice xl el none]
  [D.int IntKind.i64 k', D.int IntKind.i64 n', D.str s', D.slice xb' eb' none, D.slice xf' ef' none,
    D.slice xl' el' none] = (-1 : Int))
    (h3 : classU k > classU k')
    (h4 : cmpV [D.int IntKind.i64 k, D.int IntKind.i64 n, D.str s, D.slice xb eb none, D.slice xf ef none, D.slice xl el none]
  [D.int IntKind.i64 k', D.int IntKind.i64 n', D.str s', D.slice xb' eb' none, D.slice xf' ef' none,
    D.slice xl' el' none] = (1 : Int))
    (h5 : ¬ (classU k < (0 : Int)))
    (h6 : cmpV
  [D.int IntKind.i64 (0 : Int), D.int IntKind.i64 (0 : Int), D.str (ByteArray.mk #[]), D.slice false [] none,
    D.slice false [] none, D.slice false [] none]
  [D.int IntKind.i64 k, D.int IntKind.i64 n, D.str s, D.slice xb eb none, D.slice xf ef none, D.slice xl el none] ≠ (-1 : Int))
    (h7 : cmpV
  [D.int IntKind.i64 (0 : Int), D.int IntKind.i64 (0 : Int), D.str (ByteArray.mk #[]), D.slice false [] none,
    D.slice false [] none, D.slice false [] none]
  [D.int IntKind.i64 k, D.int IntKind.i64 n, D.str s, D.slice xb eb none, D.slice xf ef none, D.slice xl el none] = (0 : Int))
    (h8 : Ret Try.prog (tyOf Try.prog) (32 : Nat)
  [D.agg
      [D.int IntKind.i64 (0 : Int), D.int IntKind.i64 (0 : Int), D.str (ByteArray.mk #[]), D.slice false [] none,
        D.slice false [] none, D.slice false [] none],
    D.agg
      [D.int IntKind.i64 k, D.int IntKind.i64 n, D.str s, D.slice xb eb none, D.slice xf ef none, D.slice xl el none]]
  []
  (D.int IntKind.i64
    (cmpV
      [D.int IntKind.i64 (0 : Int), D.int IntKind.i64 (0 : Int), D.str (ByteArray.mk #[]), D.slice false [] none,
        D.slice false [] none, D.slice false [] none]
      [D.int IntKind.i64 k, D.int IntKind.i64 n, D.str s, D.slice xb eb none, D.slice xf ef none, D.slice xl el none]))
  [])
    (h9 : Ret Try.prog (tyOf Try.prog) (32 : Nat)
  [D.agg
      [D.int IntKind.i64 k, D.int IntKind.i64 n, D.str s, D.slice xb eb none, D.slice xf ef none, D.slice xl el none],
    D.agg
      [D.int IntKind.i64 k', D.int IntKind.i64 n', D.str s', D.slice xb' eb' none, D.slice xf' ef' none,
        D.slice xl' el' none]]
  []
  (D.int IntKind.i64
    (cmpV
      [D.int IntKind.i64 k, D.int IntKind.i64 n, D.str s, D.slice xb eb none, D.slice xf ef none, D.slice xl el none]
      [D.int IntKind.i64 k', D.int IntKind.i64 n', D.str s', D.slice xb' eb' none, D.slice xf' ef' none,
        D.slice xl' el' none]))
  [])
    (h10 : Ret Try.prog (tyOf Try.prog) (31 : Nat)
  [D.slice true
      [[D.int IntKind.i64 k, D.int IntKind.i64 n, D.str s, D.slice xb eb none, D.slice xf ef none, D.slice xl el none],
        [D.int IntKind.i64 k', D.int IntKind.i64 n', D.str s', D.slice xb' eb' none, D.slice xf' ef' none,
          D.slice xl' el' none]]
      none]
  []
  (D.bool
    (fwB
      [[D.int IntKind.i64 k, D.int IntKind.i64 n, D.str s, D.slice xb eb none, D.slice xf ef none, D.slice xl el none],
        [D.int IntKind.i64 k', D.int IntKind.i64 n', D.str s', D.slice xb' eb' none, D.slice xf' ef' none,
          D.slice xl' el' none]]))
  [])
    (h11 : Ret Try.prog (tyOf Try.prog) (30 : Nat) [] [] (D.bool true) []) :
    Ret Try.prog (tyOf Try.prog) 8 [D.agg [D.int IntKind.i64 k, D.int IntKind.i64 n, D.str s, D.slice xb eb none, D.slice xf ef none, D.slice xl el none],
  D.agg
    [D.int IntKind.i64 k', D.int IntKind.i64 n', D.str s', D.slice xb' eb' none, D.slice xf' ef' none,
      D.slice xl' el' none]] [] (D.bool (k == (0 : Int))) [] :=
  have b0 : fwB
    [[D.int IntKind.i64 k, D.int IntKind.i64 n, D.str s, D.slice xb eb none, D.slice xf ef none, D.slice xl el none],
      [D.int IntKind.i64 k', D.int IntKind.i64 n', D.str s', D.slice xb' eb' none, D.slice xf' ef' none,
        D.slice xl' el' none]] =
  true := h0
  have b1 : decide (classU k < classU k') = true := decide_eq_true h1
  have b2 : (cmpV [D.int IntKind.i64 k, D.int IntKind.i64 n, D.str s, D.slice xb eb none, D.slice xf ef none, D.slice xl el none]
      [D.int IntKind.i64 k', D.int IntKind.i64 n', D.str s', D.slice xb' eb' none, D.slice xf' ef' none,
        D.slice xl' el' none] !=
    (-1 : Int)) =
  false := (by rw [bne, Bool.not_eq_false']; exact beq_iff_eq.2 h2)
  have b3 : decide (classU k > classU k') = true := decide_eq_true h3
  have b4 : (cmpV [D.int IntKind.i64 k, D.int IntKind.i64 n, D.str s, D.slice xb eb none, D.slice xf ef none, D.slice xl el none]
      [D.int IntKind.i64 k', D.int IntKind.i64 n', D.str s', D.slice xb' eb' none, D.slice xf' ef' none,
        D.slice xl' el' none] !=
    (1 : Int)) =
  false := (by rw [bne, Bool.not_eq_false']; exact beq_iff_eq.2 h4)
  have b5 : decide (classU k < (0 : Int)) = false := decide_eq_false h5
  have b6 : (cmpV
      [D.int IntKind.i64 (0 : Int), D.int IntKind.i64 (0 : Int), D.str (ByteArray.mk #[]), D.slice false [] none,
        D.slice false [] none, D.slice false [] none]
      [D.int IntKind.i64 k, D.int IntKind.i64 n, D.str s, D.slice xb eb none, D.slice xf ef none, D.slice xl el none] ==
    (-1 : Int)) =
  false := beq_eq_false_iff_ne.2 h6
  have b7 : (cmpV
      [D.int IntKind.i64 (0 : Int), D.int IntKind.i64 (0 : Int), D.str (ByteArray.mk #[]), D.slice false [] none,
        D.slice false [] none, D.slice false [] none]
      [D.int IntKind.i64 k, D.int IntKind.i64 n, D.str s, D.slice xb eb none, D.slice xf ef none, D.slice xl el none] ==
    (0 : Int)) =
  true := beq_iff_eq.2 h7
  fin_call lki_fn lki_body lki_name (fin_ret (h := 0) (lki_ok fwB k n s xb eb xf ef xl el k' n' s' xb' eb' xf' ef' xl' el') (show outF (tyOf Try.prog) (fnAt Try.prog 8) 0 (lki_run fwB k n s xb eb xf ef xl el k' n' s' xb' eb' xf' ef' xl' el' (.code (bodyAt Try.prog 8)) [] (beginE (fnAt Try.prog 8) [D.agg [D.int IntKind.i64 k, D.int IntKind.i64 n, D.str s, D.slice xb eb none, D.slice xf ef none, D.slice xl el none],
  D.agg
    [D.int IntKind.i64 k', D.int IntKind.i64 n', D.str s', D.slice xb' eb' none, D.slice xf' ef' none,
      D.slice xl' el' none]] []) (.path [false, false, true, true, true, true, true, true, true, true, true, true, true, false, false, true, true, false, true, true, true, true, true, true, true, true, false])) = some (D.bool (k == (0 : Int)), [],
    [(cmpV
      [D.int IntKind.i64 (0 : Int), D.int IntKind.i64 (0 : Int), D.str (ByteArray.mk #[]), D.slice false [] none,
        D.slice false [] none, D.slice false [] none]
      [D.int IntKind.i64 k, D.int IntKind.i64 n, D.str s, D.slice xb eb none, D.slice xf ef none, D.slice xl el none] ==
    (-1 : Int)) =
  false,
      (cmpV
      [D.int IntKind.i64 (0 : Int), D.int IntKind.i64 (0 : Int), D.str (ByteArray.mk #[]), D.slice false [] none,
        D.slice false [] none, D.slice false [] none]
      [D.int IntKind.i64 k, D.int IntKind.i64 n, D.str s, D.slice xb eb none, D.slice xf ef none, D.slice xl el none] ==
    (0 : Int)) =
  true,
      ((cmpV
        [D.int IntKind.i64 (0 : Int), D.int IntKind.i64 (0 : Int), D.str (ByteArray.mk #[]), D.slice false [] none,
          D.slice false [] none, D.slice false [] none]
        [D.int IntKind.i64 k, D.int IntKind.i64 n, D.str s, D.slice xb eb none, D.slice xf ef none,
          D.slice xl el none] ==
      (-1 : Int)) ==
    false) =
  true,
      ((cmpV
        [D.int IntKind.i64 (0 : Int), D.int IntKind.i64 (0 : Int), D.str (ByteArray.mk #[]), D.slice false [] none,
          D.slice false [] none, D.slice false [] none]
        [D.int IntKind.i64 k, D.int IntKind.i64 n, D.str s, D.slice xb eb none, D.slice xf ef none,
          D.slice xl el none] ==
      (0 : Int)) ==
    true) =
  true,
      ((cmpV
        [D.int IntKind.i64 (0 : Int), D.int IntKind.i64 (0 : Int), D.str (ByteArray.mk #[]), D.slice false [] none,
          D.slice false [] none, D.slice false [] none]
        [D.int IntKind.i64 k, D.int IntKind.i64 n, D.str s, D.slice xb eb none, D.slice xf ef none,
          D.slice xl el none] ==
      (0 : Int)) ==
    true) =
  true,
      ((cmpV
        [D.int IntKind.i64 (0 : Int), D.int IntKind.i64 (0 : Int), D.str (ByteArray.mk #[]), D.slice false [] none,
          D.slice false [] none, D.slice false [] none]
        [D.int IntKind.i64 k, D.int IntKind.i64 n, D.str s, D.slice xb eb none, D.slice xf ef none,
          D.slice xl el none] ==
      (0 : Int)) ==
    true) =
  true,
      ((cmpV
        [D.int IntKind.i64 (0 : Int), D.int IntKind.i64 (0 : Int), D.str (ByteArray.mk #[]), D.slice false [] none,
          D.slice false [] none, D.slice false [] none]
        [D.int IntKind.i64 k, D.int IntKind.i64 n, D.str s, D.slice xb eb none, D.slice xf ef none,
          D.slice xl el none] ==
      (-1 : Int)) ==
    false) =
  true,
      ((cmpV
        [D.int IntKind.i64 (0 : Int), D.int IntKind.i64 (0 : Int), D.str (ByteArray.mk #[]), D.slice false [] none,
          D.slice false [] none, D.slice false [] none]
        [D.int IntKind.i64 k, D.int IntKind.i64 n, D.str s, D.slice xb eb none, D.slice xf ef none,
          D.slice xl el none] ==
      (-1 : Int)) ==
    false) =
  true,
      ((cmpV
        [D.int IntKind.i64 (0 : Int), D.int IntKind.i64 (0 : Int), D.str (ByteArray.mk #[]), D.slice false [] none,
          D.slice false [] none, D.slice false [] none]
        [D.int IntKind.i64 k, D.int IntKind.i64 n, D.str s, D.slice xb eb none, D.slice xf ef none,
          D.slice xl el none] ==
      (-1 : Int)) ==
    false) =
  true,
      decide (classU k < (0 : Int)) = false,
      (decide (classU k < (0 : Int)) == false) = true,
      (decide (classU k < (0 : Int)) == false) = true,
      Ret Try.prog (tyOf Try.prog) (32 : Nat)
  [D.agg
      [D.int IntKind.i64 (0 : Int), D.int IntKind.i64 (0 : Int), D.str (ByteArray.mk #[]), D.slice false [] none,
        D.slice false [] none, D.slice false [] none],
    D.agg
      [D.int IntKind.i64 k, D.int IntKind.i64 n, D.str s, D.slice xb eb none, D.slice xf ef none, D.slice xl el none]]
  []
  (D.int IntKind.i64
    (cmpV
      [D.int IntKind.i64 (0 : Int), D.int IntKind.i64 (0 : Int), D.str (ByteArray.mk #[]), D.slice false [] none,
        D.slice false [] none, D.slice false [] none]
      [D.int IntKind.i64 k, D.int IntKind.i64 n, D.str s, D.slice xb eb none, D.slice xf ef none, D.slice xl el none]))
  [],
      (cmpV [D.int IntKind.i64 k, D.int IntKind.i64 n, D.str s, D.slice xb eb none, D.slice xf ef none, D.slice xl el none]
      [D.int IntKind.i64 k', D.int IntKind.i64 n', D.str s', D.slice xb' eb' none, D.slice xf' ef' none,
        D.slice xl' el' none] !=
    (1 : Int)) =
  false,
      (cmpV [D.int IntKind.i64 k, D.int IntKind.i64 n, D.str s, D.slice xb eb none, D.slice xf ef none, D.slice xl el none]
      [D.int IntKind.i64 k', D.int IntKind.i64 n', D.str s', D.slice xb' eb' none, D.slice xf' ef' none,
        D.slice xl' el' none] !=
    (-1 : Int)) =
  false,
      decide (classU k > classU k') = true,
      ((cmpV [D.int IntKind.i64 k, D.int IntKind.i64 n, D.str s, D.slice xb eb none, D.slice xf ef none, D.slice xl el none]
        [D.int IntKind.i64 k', D.int IntKind.i64 n', D.str s', D.slice xb' eb' none, D.slice xf' ef' none,
          D.slice xl' el' none] !=
      (-1 : Int)) ==
    false) =
  true,
      (decide (classU k > classU k') == true) = true,
      (decide (classU k > classU k') == true) = true,
      ((cmpV [D.int IntKind.i64 k, D.int IntKind.i64 n, D.str s, D.slice xb eb none, D.slice xf ef none, D.slice xl el none]
        [D.int IntKind.i64 k', D.int IntKind.i64 n', D.str s', D.slice xb' eb' none, D.slice xf' ef' none,
          D.slice xl' el' none] !=
      (-1 : Int)) ==
    false) =
  true,
      ((cmpV [D.int IntKind.i64 k, D.int IntKind.i64 n, D.str s, D.slice xb eb none, D.slice xf ef none, D.slice xl el none]
        [D.int IntKind.i64 k', D.int IntKind.i64 n', D.str s', D.slice xb' eb' none, D.slice xf' ef' none,
          D.slice xl' el' none] !=
      (-1 : Int)) ==
    false) =
  true,
      ((cmpV [D.int IntKind.i64 k, D.int IntKind.i64 n, D.str s, D.slice xb eb none, D.slice xf ef none, D.slice xl el none]
        [D.int IntKind.i64 k', D.int IntKind.i64 n', D.str s', D.slice xb' eb' none, D.slice xf' ef' none,
          D.slice xl' el' none] !=
      (-1 : Int)) ==
    false) =
  true,
      ((cmpV [D.int IntKind.i64 k, D.int IntKind.i64 n, D.str s, D.slice xb eb none, D.slice xf ef none, D.slice xl el none]
        [D.int IntKind.i64 k', D.int IntKind.i64 n', D.str s', D.slice xb' eb' none, D.slice xf' ef' none,
          D.slice xl' el' none] !=
      (-1 : Int)) ==
    false) =
  true,
      decide (classU k < classU k') = true,
      (decide (classU k < classU k') == true) = true,
      (decide (classU k < classU k') == true) = true,
      Ret Try.prog (tyOf Try.prog) (32 : Nat)
  [D.agg
      [D.int IntKind.i64 k, D.int IntKind.i64 n, D.str s, D.slice xb eb none, D.slice xf ef none, D.slice xl el none],
    D.agg
      [D.int IntKind.i64 k', D.int IntKind.i64 n', D.str s', D.slice xb' eb' none, D.slice xf' ef' none,
        D.slice xl' el' none]]
  []
  (D.int IntKind.i64
    (cmpV
      [D.int IntKind.i64 k, D.int IntKind.i64 n, D.str s, D.slice xb eb none, D.slice xf ef none, D.slice xl el none]
      [D.int IntKind.i64 k', D.int IntKind.i64 n', D.str s', D.slice xb' eb' none, D.slice xf' ef' none,
        D.slice xl' el' none]))
  [],
      Ret Try.prog (tyOf Try.prog) (34 : Nat) [D.int IntKind.i64 k'] [] (D.int IntKind.i64 (classU k')) [],
      Ret Try.prog (tyOf Try.prog) (34 : Nat) [D.int IntKind.i64 k] [] (D.int IntKind.i64 (classU k)) [],
      (!fwB
      [[D.int IntKind.i64 k, D.int IntKind.i64 n, D.str s, D.slice xb eb none, D.slice xf ef none, D.slice xl el none],
        [D.int IntKind.i64 k', D.int IntKind.i64 n', D.str s', D.slice xb' eb' none, D.slice xf' ef' none,
          D.slice xl' el' none]]) =
  false,
      Ret Try.prog (tyOf Try.prog) (31 : Nat)
  [D.slice true
      [[D.int IntKind.i64 k, D.int IntKind.i64 n, D.str s, D.slice xb eb none, D.slice xf ef none, D.slice xl el none],
        [D.int IntKind.i64 k', D.int IntKind.i64 n', D.str s', D.slice xb' eb' none, D.slice xf' ef' none,
          D.slice xl' el' none]]
      none]
  []
  (D.bool
    (fwB
      [[D.int IntKind.i64 k, D.int IntKind.i64 n, D.str s, D.slice xb eb none, D.slice xf ef none, D.slice xl el none],
        [D.int IntKind.i64 k', D.int IntKind.i64 n', D.str s', D.slice xb' eb' none, D.slice xf' ef' none,
          D.slice xl' el' none]]))
  [],
      false = false,
      Ret Try.prog (tyOf Try.prog) (30 : Nat) [] [] (D.bool true) []]) by kernel_rfl)
    (all_cons.2 ⟨b6, all_cons.2 ⟨b7, all_cons.2 ⟨(by rw [b6]; rfl), all_cons.2 ⟨(by rw [b7]; rfl), all_cons.2 ⟨(by rw [b7]; rfl), all_cons.2 ⟨(by rw [b7]; rfl), all_cons.2 ⟨(by rw [b6]; rfl), all_cons.2 ⟨(by rw [b6]; rfl), all_cons.2 ⟨(by rw [b6]; rfl), all_cons.2 ⟨b5, all_cons.2 ⟨(by rw [b5]; rfl), all_cons.2 ⟨(by rw [b5]; rfl), all_cons.2 ⟨h8, all_cons.2 ⟨b4, all_cons.2 ⟨b2, all_cons.2 ⟨b3, all_cons.2 ⟨(by rw [b2]; rfl), all_cons.2 ⟨(by rw [b3]; rfl), all_cons.2 ⟨(by rw [b3]; rfl), all_cons.2 ⟨(by rw [b2]; rfl), all_cons.2 ⟨(by rw [b2]; rfl), all_cons.2 ⟨(by rw [b2]; rfl), all_cons.2 ⟨(by rw [b2]; rfl), all_cons.2 ⟨b1, all_cons.2 ⟨(by rw [b1]; rfl), all_cons.2 ⟨(by rw [b1]; rfl), all_cons.2 ⟨h9, all_cons.2 ⟨(cls34 _), all_cons.2 ⟨(cls34 _), all_cons.2 ⟨(by rw [b0]; rfl), all_cons.2 ⟨h10, all_cons.2 ⟨rfl, all_cons.2 ⟨h11, all_nil.2 trivial⟩⟩⟩⟩⟩⟩⟩⟩⟩⟩⟩⟩⟩⟩⟩⟩⟩⟩⟩⟩⟩⟩⟩⟩⟩⟩⟩⟩⟩⟩⟩⟩⟩))

theorem lki_in_3 {fwB : Es → Bool} {k : Int} {n : Int} {s : ByteArray} {xb : Bool} {eb : Es} {xf : Bool} {ef : Es} {xl : Bool} {el : Es} {k' : Int} {n' : Int} {s' : ByteArray} {xb' : Bool} {eb' : Es} {xf' : Bool} {ef' : Es} {xl' : Bool} {el' : Es}
    (h0 : fwB
    [[D.int IntKind.i64 k, D.int IntKind.i64 n, D.str s, D.slice xb eb none, D.slice xf ef none, D.slice xl el none],
      [D.int IntKind.i64 k', D.int IntKind.i64 n', D.str s', D.slice xb' eb' none, D.slice xf' ef' none,
        D.slice xl' el' none]] =
  true)
    (h1 : classU k < classU k')
    (h2 : cmpV [D.int IntKind.i64 k, D.int IntKind.i64 n, D.str s, D.slice xb eb none, D.slice xf ef none, D.slice xl el none]
  [D.int IntKind.i64 k', D.int IntKind.i64 n', D.str s', D.slice xb' eb' none, D.slice xf' ef' none,
    D.slice xl' el' none] = (-1 : Int))
    (h3 : ¬ (classU k > classU k'))
    (h4 : classU k < (0 : Int))
    (h5 : Ret Try.prog (tyOf Try.prog) (32 : Nat)
  [D.agg
      [D.int IntKind.i64 (0 : Int), D.int IntKind.i64 (0 : Int), D.str (ByteArray.mk #[]), D.slice false [] none,
        D.slice false [] none, D.slice false [] none],
    D.agg
      [D.int IntKind.i64 k, D.int IntKind.i64 n, D.str s, D.slice xb eb none, D.slice xf ef none, D.slice xl el none]]
  []
  (D.int IntKind.i64
    (cmpV
      [D.int IntKind.i64 (0 : Int), D.int IntKind.i64 (0 : Int), D.str (ByteArray.mk #[]), D.slice false [] none,
        D.slice false [] none, D.slice false [] none]
      [D.int IntKind.i64 k, D.int IntKind.i64 n, D.str s, D.slice xb eb none, D.slice xf ef none, D.slice xl el none]))
  [])
    (h6 : Ret Try.prog (tyOf Try.prog) (32 : Nat)
  [D.agg
      [D.int IntKind.i64 k, D.int IntKind.i64 n, D.str s, D.slice xb eb none, D.slice xf ef none, D.slice xl el none],
    D.agg
      [D.int IntKind.i64 k', D.int IntKind.i64 n', D.str s', D.slice xb' eb' none, D.slice xf' ef' none,
        D.slice xl' el' none]]
  []
  (D.int IntKind.i64
    (cmpV
      [D.int IntKind.i64 k, D.int IntKind.i64 n, D.str s, D.slice xb eb none, D.slice xf ef none, D.slice xl el none]
      [D.int IntKind.i64 k', D.int IntKind.i64 n', D.str s', D.slice xb' eb' none, D.slice xf' ef' none,
        D.slice xl' el' none]))
  [])
    (h7 : Ret Try.prog (tyOf Try.prog) (31 : Nat)
  [D.slice true
      [[D.int IntKind.i64 k, D.int IntKind.i64 n, D.str s, D.slice xb eb none, D.slice xf ef none, D.slice xl el none],
        [D.int IntKind.i64 k', D.int IntKind.i64 n', D.str s', D.slice xb' eb' none, D.slice xf' ef' none,
          D.slice xl' el' none]]
      none]
  []
  (D.bool
    (fwB
      [[D.int IntKind.i64 k, D.int IntKind.i64 n, D.str s, D.slice xb eb none, D.slice xf ef none, D.slice xl el none],
        [D.int IntKind.i64 k', D.int IntKind.i64 n', D.str s', D.slice xb' eb' none, D.slice xf' ef' none,
          D.slice xl' el' none]]))
  [])
    (h8 : Ret Try.prog (tyOf Try.prog) (30 : Nat) [] [] (D.bool true) []) :
    Ret Try.prog (tyOf Try.prog) 8 [D.agg [D.int IntKind.i64 k, D.int IntKind.i64 n, D.str s, D.slice xb eb none, D.slice xf ef none, D.slice xl el none],
  D.agg
    [D.int IntKind.i64 k', D.int IntKind.i64 n', D.str s', D.slice xb' eb' none, D.slice xf' ef' none,
      D.slice xl' el' none]] [] (D.bool true) [] :=
  have b0 : fwB
    [[D.int IntKind.i64 k, D.int IntKind.i64 n, D.str s, D.slice xb eb none, D.slice xf ef none, D.slice xl el none],
      [D.int IntKind.i64 k', D.int IntKind.i64 n', D.str s', D.slice xb' eb' none, D.slice xf' ef' none,
        D.slice xl' el' none]] =
  true := h0
  have b1 : decide (classU k < classU k') = true := decide_eq_true h1
  have b2 : (cmpV [D.int IntKind.i64 k, D.int IntKind.i64 n, D.str s, D.slice xb eb none, D.slice xf ef none, D.slice xl el none]
      [D.int IntKind.i64 k', D.int IntKind.i64 n', D.str s', D.slice xb' eb' none, D.slice xf' ef' none,
        D.slice xl' el' none] !=
    (-1 : Int)) =
  false := (by rw [bne, Bool.not_eq_false']; exact beq_iff_eq.2 h2)
  have b3 : decide (classU k > classU k') = false := decide_eq_false h3
  have b4 : decide (classU k < (0 : Int)) = true := decide_eq_true h4
  fin_call lki_fn lki_body lki_name (fin_ret (h := 0) (lki_ok fwB k n s xb eb xf ef xl el k' n' s' xb' eb' xf' ef' xl' el') (show outF (tyOf Try.prog) (fnAt Try.prog 8) 0 (lki_run fwB k n s xb eb xf ef xl el k' n' s' xb' eb' xf' ef' xl' el' (.code (bodyAt Try.prog 8)) [] (beginE (fnAt Try.prog 8) [D.agg [D.int IntKind.i64 k, D.int IntKind.i64 n, D.str s, D.slice xb eb none, D.slice xf ef none, D.slice xl el none],
  D.agg
    [D.int IntKind.i64 k', D.int IntKind.i64 n', D.str s', D.slice xb' eb' none, D.slice xf' ef' none,
      D.slice xl' el' none]] []) (.path [false, false, true, true, true, true, true, true, true, false, false, true, false, false, false, false, false, true, false, false, false, false, true])) = some (D.bool true, [],
    [true = true,
      false = false,
      false = false,
      false = false,
      false = false,
      decide (classU k < (0 : Int)) = true,
      (decide (classU k < (0 : Int)) == false) = false,
      (decide (classU k < (0 : Int)) == false) = false,
      Ret Try.prog (tyOf Try.prog) (32 : Nat)
  [D.agg
      [D.int IntKind.i64 (0 : Int), D.int IntKind.i64 (0 : Int), D.str (ByteArray.mk #[]), D.slice false [] none,
        D.slice false [] none, D.slice false [] none],
    D.agg
      [D.int IntKind.i64 k, D.int IntKind.i64 n, D.str s, D.slice xb eb none, D.slice xf ef none, D.slice xl el none]]
  []
  (D.int IntKind.i64
    (cmpV
      [D.int IntKind.i64 (0 : Int), D.int IntKind.i64 (0 : Int), D.str (ByteArray.mk #[]), D.slice false [] none,
        D.slice false [] none, D.slice false [] none]
      [D.int IntKind.i64 k, D.int IntKind.i64 n, D.str s, D.slice xb eb none, D.slice xf ef none, D.slice xl el none]))
  [],
      false = false,
      (cmpV [D.int IntKind.i64 k, D.int IntKind.i64 n, D.str s, D.slice xb eb none, D.slice xf ef none, D.slice xl el none]
      [D.int IntKind.i64 k', D.int IntKind.i64 n', D.str s', D.slice xb' eb' none, D.slice xf' ef' none,
        D.slice xl' el' none] !=
    (-1 : Int)) =
  false,
      decide (classU k > classU k') = false,
      ((cmpV [D.int IntKind.i64 k, D.int IntKind.i64 n, D.str s, D.slice xb eb none, D.slice xf ef none, D.slice xl el none]
        [D.int IntKind.i64 k', D.int IntKind.i64 n', D.str s', D.slice xb' eb' none, D.slice xf' ef' none,
          D.slice xl' el' none] !=
      (-1 : Int)) ==
    false) =
  true,
      (decide (classU k > classU k') == true) = false,
      (decide (classU k > classU k') == true) = false,
      ((cmpV [D.int IntKind.i64 k, D.int IntKind.i64 n, D.str s, D.slice xb eb none, D.slice xf ef none, D.slice xl el none]
        [D.int IntKind.i64 k', D.int IntKind.i64 n', D.str s', D.slice xb' eb' none, D.slice xf' ef' none,
          D.slice xl' el' none] !=
      (-1 : Int)) ==
    false) =
  true,
      ((cmpV [D.int IntKind.i64 k, D.int IntKind.i64 n, D.str s, D.slice xb eb none, D.slice xf ef none, D.slice xl el none]
        [D.int IntKind.i64 k', D.int IntKind.i64 n', D.str s', D.slice xb' eb' none, D.slice xf' ef' none,
          D.slice xl' el' none] !=
      (-1 : Int)) ==
    false) =
  true,
      ((cmpV [D.int IntKind.i64 k, D.int IntKind.i64 n, D.str s, D.slice xb eb none, D.slice xf ef none, D.slice xl el none]
        [D.int IntKind.i64 k', D.int IntKind.i64 n', D.str s', D.slice xb' eb' none, D.slice xf' ef' none,
          D.slice xl' el' none] !=
      (-1 : Int)) ==
    false) =
  true,
      ((cmpV [D.int IntKind.i64 k, D.int IntKind.i64 n, D.str s, D.slice xb eb none, D.slice xf ef none, D.slice xl el none]
        [D.int IntKind.i64 k', D.int IntKind.i64 n', D.str s', D.slice xb' eb' none, D.slice xf' ef' none,
          D.slice xl' el' none] !=
      (-1 : Int)) ==
    false) =
  true,
      decide (classU k < classU k') = true,
      (decide (classU k < classU k') == true) = true,
      (decide (classU k < classU k') == true) = true,
      Ret Try.prog (tyOf Try.prog) (32 : Nat)
  [D.agg
      [D.int IntKind.i64 k, D.int IntKind.i64 n, D.str s, D.slice xb eb none, D.slice xf ef none, D.slice xl el none],
    D.agg
      [D.int IntKind.i64 k', D.int IntKind.i64 n', D.str s', D.slice xb' eb' none, D.slice xf' ef' none,
        D.slice xl' el' none]]
  []
  (D.int IntKind.i64
    (cmpV
      [D.int IntKind.i64 k, D.int IntKind.i64 n, D.str s, D.slice xb eb none, D.slice xf ef none, D.slice xl el none]
      [D.int IntKind.i64 k', D.int IntKind.i64 n', D.str s', D.slice xb' eb' none, D.slice xf' ef' none,
        D.slice xl' el' none]))
  [],
      Ret Try.prog (tyOf Try.prog) (34 : Nat) [D.int IntKind.i64 k'] [] (D.int IntKind.i64 (classU k')) [],
      Ret Try.prog (tyOf Try.prog) (34 : Nat) [D.int IntKind.i64 k] [] (D.int IntKind.i64 (classU k)) [],
      (!fwB
      [[D.int IntKind.i64 k, D.int IntKind.i64 n, D.str s, D.slice xb eb none, D.slice xf ef none, D.slice xl el none],
        [D.int IntKind.i64 k', D.int IntKind.i64 n', D.str s', D.slice xb' eb' none, D.slice xf' ef' none,
          D.slice xl' el' none]]) =
  false,
      Ret Try.prog (tyOf Try.prog) (31 : Nat)
  [D.slice true
      [[D.int IntKind.i64 k, D.int IntKind.i64 n, D.str s, D.slice xb eb none, D.slice xf ef none, D.slice xl el none],
        [D.int IntKind.i64 k', D.int IntKind.i64 n', D.str s', D.slice xb' eb' none, D.slice xf' ef' none,
          D.slice xl' el' none]]
      none]
  []
  (D.bool
    (fwB
      [[D.int IntKind.i64 k, D.int IntKind.i64 n, D.str s, D.slice xb eb none, D.slice xf ef none, D.slice xl el none],
        [D.int IntKind.i64 k', D.int IntKind.i64 n', D.str s', D.slice xb' eb' none, D.slice xf' ef' none,
          D.slice xl' el' none]]))
  [],
      false = false,
      Ret Try.prog (tyOf Try.prog) (30 : Nat) [] [] (D.bool true) []]) by kernel_rfl)
    (all_cons.2 ⟨rfl, all_cons.2 ⟨rfl, all_cons.2 ⟨rfl, all_cons.2 ⟨rfl, all_cons.2 ⟨rfl, all_cons.2 ⟨b4, all_cons.2 ⟨(by rw [b4]; rfl), all_cons.2 ⟨(by rw [b4]; rfl), all_cons.2 ⟨h5, all_cons.2 ⟨rfl, all_cons.2 ⟨b2, all_cons.2 ⟨b3, all_cons.2 ⟨(by rw [b2]; rfl), all_cons.2 ⟨(by rw [b3]; rfl), all_cons.2 ⟨(by rw [b3]; rfl), all_cons.2 ⟨(by rw [b2]; rfl), all_cons.2 ⟨(by rw [b2]; rfl), all_cons.2 ⟨(by rw [b2]; rfl), all_cons.2 ⟨(by rw [b2]; rfl), all_cons.2 ⟨b1, all_cons.2 ⟨(by rw [b1]; rfl), all_cons.2 ⟨(by rw [b1]; rfl), all_cons.2 ⟨h6, all_cons.2 ⟨(cls34 _), all_cons.2 ⟨(cls34 _), all_cons.2 ⟨(by rw [b0]; rfl), all_cons.2 ⟨h7, all_cons.2 ⟨rfl, all_cons.2 ⟨h8, all_nil.2 trivial⟩⟩⟩⟩⟩⟩⟩⟩⟩⟩⟩⟩⟩⟩⟩⟩⟩⟩⟩⟩⟩⟩⟩⟩⟩⟩⟩⟩⟩))

theorem lki_in_4 {fwB : Es → Bool} {k : Int} {n : Int} {s : ByteArray} {xb : Bool} {eb : Es} {xf : Bool} {ef : Es} {xl : Bool} {el : Es} {k' : Int} {n' : Int} {s' : ByteArray} {xb' : Bool} {eb' : Es} {xf' : Bool} {ef' : Es} {xl' : Bool} {el' : Es}
    (h0 : fwB
    [[D.int IntKind.i64 k, D.int IntKind.i64 n, D.str s, D.slice xb eb none, D.slice xf ef none, D.slice xl el none],
      [D.int IntKind.i64 k', D.int IntKind.i64 n', D.str s', D.slice xb' eb' none, D.slice xf' ef' none,
        D.slice xl' el' none]] =
  true)
    (h1 : classU k < classU k')
    (h2 : cmpV [D.int IntKind.i64 k, D.int IntKind.i64 n, D.str s, D.slice xb eb none, D.slice xf ef none, D.slice xl el none]
  [D.int IntKind.i64 k', D.int IntKind.i64 n', D.str s', D.slice xb' eb' none, D.slice xf' ef' none,
    D.slice xl' el' none] = (-1 : Int))
    (h3 : ¬ (classU k > classU k'))
    (h4 : ¬ (classU k < (0 : Int)))
    (h5 : cmpV
  [D.int IntKind.i64 (0 : Int), D.int IntKind.i64 (0 : Int), D.str (ByteArray.mk #[]), D.slice false [] none,
    D.slice false [] none, D.slice false [] none]
  [D.int IntKind.i64 k, D.int IntKind.i64 n, D.str s, D.slice xb eb none, D.slice xf ef none, D.slice xl el none] = (-1 : Int))
    (h6 : Ret Try.prog (tyOf Try.prog) (32 : Nat)
  [D.agg
      [D.int IntKind.i64 (0 : Int), D.int IntKind.i64 (0 : Int), D.str (ByteArray.mk #[]), D.slice false [] none,
        D.slice false [] none, D.slice false [] none],
    D.agg
      [D.int IntKind.i64 k, D.int IntKind.i64 n, D.str s, D.slice xb eb none, D.slice xf ef none, D.slice xl el none]]
  []
  (D.int IntKind.i64
    (cmpV
      [D.int IntKind.i64 (0 : Int), D.int IntKind.i64 (0 : Int), D.str (ByteArray.mk #[]), D.slice false [] none,
        D.slice false [] none, D.slice false [] none]
      [D.int IntKind.i64 k, D.int IntKind.i64 n, D.str s, D.slice xb eb none, D.slice xf ef none, D.slice xl el none]))
  [])
    (h7 : Ret Try.prog (tyOf Try.prog) (32 : Nat)
  [D.agg
      [D.int IntKind.i64 k, D.int IntKind.i64 n, D.str s, D.slice xb eb none, D.slice xf ef none, D.slice xl el none],
    D.agg
      [D.int IntKind.i64 k', D.int IntKind.i64 n', D.str s', D.slice xb' eb' none, D.slice xf' ef' none,
        D.slice xl' el' none]]
  []
  (D.int IntKind.i64
    (cmpV
      [D.int IntKind.i64 k, D.int IntKind.i64 n, D.str s, D.slice xb eb none, D.slice xf ef none, D.slice xl el none]
      [D.int IntKind.i64 k', D.int IntKind.i64 n', D.str s', D.slice xb' eb' none, D.slice xf' ef' none,
        D.slice xl' el' none]))
  [])
    (h8 : Ret Try.prog (tyOf Try.prog) (31 : Nat)
  [D.slice true
      [[D.int IntKind.i64 k, D.int IntKind.i64 n, D.str s, D.slice xb eb none, D.slice xf ef none, D.slice xl el none],
        [D.int IntKind.i64 k', D.int IntKind.i64 n', D.str s', D.slice xb' eb' none, D.slice xf' ef' none,
          D.slice xl' el' none]]
      none]
  []
  (D.bool
    (fwB
      [[D.int IntKind.i64 k, D.int IntKind.i64 n, D.str s, D.slice xb eb none, D.slice xf ef none, D.slice xl el none],
        [D.int IntKind.i64 k', D.int IntKind.i64 n', D.str s', D.slice xb' eb' none, D.slice xf' ef' none,
          D.slice xl' el' none]]))
  [])
    (h9 : Ret Try.prog (tyOf Try.prog) (30 : Nat) [] [] (D.bool true) []) :
    Ret Try.prog (tyOf Try.prog) 8 [D.agg [D.int IntKind.i64 k, D.int IntKind.i64 n, D.str s, D.slice xb eb none, D.slice xf ef none, D.slice xl el none],
  D.agg
    [D.int IntKind.i64 k', D.int IntKind.i64 n', D.str s', D.slice xb' eb' none, D.slice xf' ef' none,
      D.slice xl' el' none]] [] (D.bool true) [] :=
  have b0 : fwB
    [[D.int IntKind.i64 k, D.int IntKind.i64 n, D.str s, D.slice xb eb none, D.slice xf ef none, D.slice xl el none],
      [D.int IntKind.i64 k', D.int IntKind.i64 n', D.str s', D.slice xb' eb' none, D.slice xf' ef' none,
        D.slice xl' el' none]] =
  true := h0
  have b1 : decide (classU k < classU k') = true := decide_eq_true h1
  have b2 : (cmpV [D.int IntKind.i64 k, D.int IntKind.i64 n, D.str s, D.slice xb eb none, D.slice xf ef none, D.slice xl el none]
      [D.int IntKind.i64 k', D.int IntKind.i64 n', D.str s', D.slice xb' eb' none, D.slice xf' ef' none,
        D.slice xl' el' none] !=
    (-1 : Int)) =
  false := (by rw [bne, Bool.not_eq_false']; exact beq_iff_eq.2 h2)
  have b3 : decide (classU k > classU k') = false := decide_eq_false h3
  have b4 : decide (classU k < (0 : Int)) = false := decide_eq_false h4
  have b5 : (cmpV
      [D.int IntKind.i64 (0 : Int), D.int IntKind.i64 (0 : Int), D.str (ByteArray.mk #[]), D.slice false [] none,
        D.slice false [] none, D.slice false [] none]
      [D.int IntKind.i64 k, D.int IntKind.i64 n, D.str s, D.slice xb eb none, D.slice xf ef none, D.slice xl el none] ==
    (-1 : Int)) =
  true := beq_iff_eq.2 h5
  fin_call lki_fn lki_body lki_name (fin_ret (h := 0) (lki_ok fwB k n s xb eb xf ef xl el k' n' s' xb' eb' xf' ef' xl' el') (show outF (tyOf Try.prog) (fnAt Try.prog 8) 0 (lki_run fwB k n s xb eb xf ef xl el k' n' s' xb' eb' xf' ef' xl' el' (.code (bodyAt Try.prog 8)) [] (beginE (fnAt Try.prog 8) [D.agg [D.int IntKind.i64 k, D.int IntKind.i64 n, D.str s, D.slice xb eb none, D.slice xf ef none, D.slice xl el none],
  D.agg
    [D.int IntKind.i64 k', D.int IntKind.i64 n', D.str s', D.slice xb' eb' none, D.slice xf' ef' none,
      D.slice xl' el' none]] []) (.path [false, false, true, true, true, true, true, true, true, false, false, true, false, false, false, true, true, false, false, false, false, false, true])) = some (D.bool true, [],
    [(cmpV
      [D.int IntKind.i64 (0 : Int), D.int IntKind.i64 (0 : Int), D.str (ByteArray.mk #[]), D.slice false [] none,
        D.slice false [] none, D.slice false [] none]
      [D.int IntKind.i64 k, D.int IntKind.i64 n, D.str s, D.slice xb eb none, D.slice xf ef none, D.slice xl el none] ==
    (-1 : Int)) =
  true,
      ((cmpV
        [D.int IntKind.i64 (0 : Int), D.int IntKind.i64 (0 : Int), D.str (ByteArray.mk #[]), D.slice false [] none,
          D.slice false [] none, D.slice false [] none]
        [D.int IntKind.i64 k, D.int IntKind.i64 n, D.str s, D.slice xb eb none, D.slice xf ef none,
          D.slice xl el none] ==
      (-1 : Int)) ==
    false) =
  false,
      ((cmpV
        [D.int IntKind.i64 (0 : Int), D.int IntKind.i64 (0 : Int), D.str (ByteArray.mk #[]), D.slice false [] none,
          D.slice false [] none, D.slice false [] none]
        [D.int IntKind.i64 k, D.int IntKind.i64 n, D.str s, D.slice xb eb none, D.slice xf ef none,
          D.slice xl el none] ==
      (-1 : Int)) ==
    false) =
  false,
      ((cmpV
        [D.int IntKind.i64 (0 : Int), D.int IntKind.i64 (0 : Int), D.str (ByteArray.mk #[]), D.slice false [] none,
          D.slice false [] none, D.slice false [] none]
        [D.int IntKind.i64 k, D.int IntKind.i64 n, D.str s, D.slice xb eb none, D.slice xf ef none,
          D.slice xl el none] ==
      (-1 : Int)) ==
    false) =
  false,
      ((cmpV
        [D.int IntKind.i64 (0 : Int), D.int IntKind.i64 (0 : Int), D.str (ByteArray.mk #[]), D.slice false [] none,
          D.slice false [] none, D.slice false [] none]
        [D.int IntKind.i64 k, D.int IntKind.i64 n, D.str s, D.slice xb eb none, D.slice xf ef none,
          D.slice xl el none] ==
      (-1 : Int)) ==
    false) =
  false,
      decide (classU k < (0 : Int)) = false,
      (decide (classU k < (0 : Int)) == false) = true,
      (decide (classU k < (0 : Int)) == false) = true,
      Ret Try.prog (tyOf Try.prog) (32 : Nat)
  [D.agg
      [D.int IntKind.i64 (0 : Int), D.int IntKind.i64 (0 : Int), D.str (ByteArray.mk #[]), D.slice false [] none,
        D.slice false [] none, D.slice false [] none],
    D.agg
      [D.int IntKind.i64 k, D.int IntKind.i64 n, D.str s, D.slice xb eb none, D.slice xf ef none, D.slice xl el none]]
  []
  (D.int IntKind.i64
    (cmpV
      [D.int IntKind.i64 (0 : Int), D.int IntKind.i64 (0 : Int), D.str (ByteArray.mk #[]), D.slice false [] none,
        D.slice false [] none, D.slice false [] none]
      [D.int IntKind.i64 k, D.int IntKind.i64 n, D.str s, D.slice xb eb none, D.slice xf ef none, D.slice xl el none]))
  [],
      false = false,
      (cmpV [D.int IntKind.i64 k, D.int IntKind.i64 n, D.str s, D.slice xb eb none, D.slice xf ef none, D.slice xl el none]
      [D.int IntKind.i64 k', D.int IntKind.i64 n', D.str s', D.slice xb' eb' none, D.slice xf' ef' none,
        D.slice xl' el' none] !=
    (-1 : Int)) =
  false,
      decide (classU k > classU k') = false,
      ((cmpV [D.int IntKind.i64 k, D.int IntKind.i64 n, D.str s, D.slice xb eb none, D.slice xf ef none, D.slice xl el none]
        [D.int IntKind.i64 k', D.int IntKind.i64 n', D.str s', D.slice xb' eb' none, D.slice xf' ef' none,
          D.slice xl' el' none] !=
      (-1 : Int)) ==
    false) =
  true,
      (decide (classU k > classU k') == true) = false,
      (decide (classU k > classU k') == true) = false,
      ((cmpV [D.int IntKind.i64 k, D.int IntKind.i64 n, D.str s, D.slice xb eb none, D.slice xf ef none, D.slice xl el none]
        [D.int IntKind.i64 k', D.int IntKind.i64 n', D.str s', D.slice xb' eb' none, D.slice xf' ef' none,
          D.slice xl' el' none] !=
      (-1 : Int)) ==
    false) =
  true,
      ((cmpV [D.int IntKind.i64 k, D.int IntKind.i64 n, D.str s, D.slice xb eb none, D.slice xf ef none, D.slice xl el none]
        [D.int IntKind.i64 k', D.int IntKind.i64 n', D.str s', D.slice xb' eb' none, D.slice xf' ef' none,
          D.slice xl' el' none] !=
      (-1 : Int)) ==
    false) =
  true,
      ((cmpV [D.int IntKind.i64 k, D.int IntKind.i64 n, D.str s, D.slice xb eb none, D.slice xf ef none, D.slice xl el none]
        [D.int IntKind.i64 k', D.int IntKind.i64 n', D.str s', D.slice xb' eb' none, D.slice xf' ef' none,
          D.slice xl' el' none] !=
      (-1 : Int)) ==
    false) =
  true,
      ((cmpV [D.int IntKind.i64 k, D.int IntKind.i64 n, D.str s, D.slice xb eb none, D.slice xf ef none, D.slice xl el none]
        [D.int IntKind.i64 k', D.int IntKind.i64 n', D.str s', D.slice xb' eb' none, D.slice xf' ef' none,
          D.slice xl' el' none] !=
      (-1 : Int)) ==
    false) =
  true,
      decide (classU k < classU k') = true,
      (decide (classU k < classU k') == true) = true,
      (decide (classU k < classU k') == true) = true,
      Ret Try.prog (tyOf Try.prog) (32 : Nat)
  [D.agg
      [D.int IntKind.i64 k, D.int IntKind.i64 n, D.str s, D.slice xb eb none, D.slice xf ef none, D.slice xl el none],
    D.agg
      [D.int IntKind.i64 k', D.int IntKind.i64 n', D.str s', D.slice xb' eb' none, D.slice xf' ef' none,
        D.slice xl' el' none]]
  []
  (D.int IntKind.i64
    (cmpV
      [D.int IntKind.i64 k, D.int IntKind.i64 n, D.str s, D.slice xb eb none, D.slice xf ef none, D.slice xl el none]
      [D.int IntKind.i64 k', D.int IntKind.i64 n', D.str s', D.slice xb' eb' none, D.slice xf' ef' none,
        D.slice xl' el' none]))
  [],
      Ret Try.prog (tyOf Try.prog) (34 : Nat) [D.int IntKind.i64 k'] [] (D.int IntKind.i64 (classU k')) [],
      Ret Try.prog (tyOf Try.prog) (34 : Nat) [D.int IntKind.i64 k] [] (D.int IntKind.i64 (classU k)) [],
      (!fwB
      [[D.int IntKind.i64 k, D.int IntKind.i64 n, D.str s, D.slice xb eb none, D.slice xf ef none, D.slice xl el none],
        [D.int IntKind.i64 k', D.int IntKind.i64 n', D.str s', D.slice xb' eb' none, D.slice xf' ef' none,
          D.slice xl' el' none]]) =
  false,
      Ret Try.prog (tyOf Try.prog) (31 : Nat)
  [D.slice true
      [[D.int IntKind.i64 k, D.int IntKind.i64 n, D.str s, D.slice xb eb none, D.slice xf ef none, D.slice xl el none],
        [D.int IntKind.i64 k', D.int IntKind.i64 n', D.str s', D.slice xb' eb' none, D.slice xf' ef' none,
          D.slice xl' el' none]]
      none]
  []
  (D.bool
    (fwB
      [[D.int IntKind.i64 k, D.int IntKind.i64 n, D.str s, D.slice xb eb none, D.slice xf ef none, D.slice xl el none],
        [D.int IntKind.i64 k', D.int IntKind.i64 n', D.str s', D.slice xb' eb' none, D.slice xf' ef' none,
          D.slice xl' el' none]]))
  [],
      false = false,
      Ret Try.prog (tyOf Try.prog) (30 : Nat) [] [] (D.bool true) []]) by kernel_rfl)
    (all_cons.2 ⟨b5, all_cons.2 ⟨(by rw [b5]; rfl), all_cons.2 ⟨(by rw [b5]; rfl), all_cons.2 ⟨(by rw [b5]; rfl), all_cons.2 ⟨(by rw [b5]; rfl), all_cons.2 ⟨b4, all_cons.2 ⟨(by rw [b4]; rfl), all_cons.2 ⟨(by rw [b4]; rfl), all_cons.2 ⟨h6, all_cons.2 ⟨rfl, all_cons.2 ⟨b2, all_cons.2 ⟨b3, all_cons.2 ⟨(by rw [b2]; rfl), all_cons.2 ⟨(by rw [b3]; rfl), all_cons.2 ⟨(by rw [b3]; rfl), all_cons.2 ⟨(by rw [b2]; rfl), all_cons.2 ⟨(by rw [b2]; rfl), all_cons.2 ⟨(by rw [b2]; rfl), all_cons.2 ⟨(by rw [b2]; rfl), all_cons.2 ⟨b1, all_cons.2 ⟨(by rw [b1]; rfl), all_cons.2 ⟨(by rw [b1]; rfl), all_cons.2 ⟨h7, all_cons.2 ⟨(cls34 _), all_cons.2 ⟨(cls34 _), all_cons.2 ⟨(by rw [b0]; rfl), all_cons.2 ⟨h8, all_cons.2 ⟨rfl, all_cons.2 ⟨h9, all_nil.2 trivial⟩⟩⟩⟩⟩⟩⟩⟩⟩⟩⟩⟩⟩⟩⟩⟩⟩⟩⟩⟩⟩⟩⟩⟩⟩⟩⟩⟩⟩))

theorem lki_in_5 {fwB : Es → Bool} {k : Int} {n : Int} {s : ByteArray} {xb : Bool} {eb : Es} {xf : Bool} {ef : Es} {xl : Bool} {el : Es} {k' : Int} {n' : Int} {s' : ByteArray} {xb' : Bool} {eb' : Es} {xf' : Bool} {ef' : Es} {xl' : Bool} {el' : Es}
    (h0 : fwB
    [[D.int IntKind.i64 k, D.int IntKind.i64 n, D.str s, D.slice xb eb none, D.slice xf ef none, D.slice xl el none],
      [D.int IntKind.i64 k', D.int IntKind.i64 n', D.str s', D.slice xb' eb' none, D.slice xf' ef' none,
        D.slice xl' el' none]] =
  true)
    (h1 : classU k < classU k')
    (h2 : cmpV [D.int IntKind.i64 k, D.int IntKind.i64 n, D.str s, D.slice xb eb none, D.slice xf ef none, D.slice xl el none]
  [D.int IntKind.i64 k', D.int IntKind.i64 n', D.str s', D.slice xb' eb' none, D.slice xf' ef' none,
    D.slice xl' el' none] = (-1 : Int))
    (h3 : ¬ (classU k > classU k'))
    (h4 : ¬ (classU k < (0 : Int)))
    (h5 : cmpV
  [D.int IntKind.i64 (0 : Int), D.int IntKind.i64 (0 : Int), D.str (ByteArray.mk #[]), D.slice false [] none,
    D.slice false [] none, D.slice false [] none]
  [D.int IntKind.i64 k, D.int IntKind.i64 n, D.str s, D.slice xb eb none, D.slice xf ef none, D.slice xl el none] ≠ (-1 : Int))
    (h6 : cmpV
  [D.int IntKind.i64 (0 : Int), D.int IntKind.i64 (0 : Int), D.str (ByteArray.mk #[]), D.slice false [] none,
    D.slice false [] none, D.slice false [] none]
  [D.int IntKind.i64 k, D.int IntKind.i64 n, D.str s, D.slice xb eb none, D.slice xf ef none, D.slice xl el none] = (0 : Int))
    (h7 : Ret Try.prog (tyOf Try.prog) (32 : Nat)
  [D.agg
      [D.int IntKind.i64 (0 : Int), D.int IntKind.i64 (0 : Int), D.str (ByteArray.mk #[]), D.slice false [] none,
        D.slice false [] none, D.slice false [] none],
    D.agg
      [D.int IntKind.i64 k, D.int IntKind.i64 n, D.str s, D.slice xb eb none, D.slice xf ef none, D.slice xl el none]]
  []
  (D.int IntKind.i64
    (cmpV
      [D.int IntKind.i64 (0 : Int), D.int IntKind.i64 (0 : Int), D.str (ByteArray.mk #[]), D.slice false [] none,
        D.slice false [] none, D.slice false [] none]
      [D.int IntKind.i64 k, D.int IntKind.i64 n, D.str s, D.slice xb eb none, D.slice xf ef none, D.slice xl el none]))
  [])
    (h8 : Ret Try.prog (tyOf Try.prog) (32 : Nat)
  [D.agg
      [D.int IntKind.i64 k, D.int IntKind.i64 n, D.str s, D.slice xb eb none, D.slice xf ef none, D.slice xl el none],
    D.agg
      [D.int IntKind.i64 k', D.int IntKind.i64 n', D.str s', D.slice xb' eb' none, D.slice xf' ef' none,
        D.slice xl' el' none]]
  []
  (D.int IntKind.i64
    (cmpV
      [D.int IntKind.i64 k, D.int IntKind.i64 n, D.str s, D.slice xb eb none, D.slice xf ef none, D.slice xl el none]
      [D.int IntKind.i64 k', D.int IntKind.i64 n', D.str s', D.slice xb' eb' none, D.slice xf' ef' none,
        D.slice xl' el' none]))
  [])
    (h9 : Ret Try.prog (tyOf Try.prog) (31 : Nat)
  [D.slice true
      [[D.int IntKind.i64 k, D.int IntKind.i64 n, D.str s, D.slice xb eb none, D.slice xf ef none, D.slice xl el none],
        [D.int IntKind.i64 k', D.int IntKind.i64 n', D.str s', D.slice xb' eb' none, D.slice xf' ef' none,
          D.slice xl' el' none]]
      none]
  []
  (D.bool
    (fwB
      [[D.int IntKind.i64 k, D.int IntKind.i64 n, D.str s, D.slice xb eb none, D.slice xf ef none, D.slice xl el none],
        [D.int IntKind.i64 k', D.int IntKind.i64 n', D.str s', D.slice xb' eb' none, D.slice xf' ef' none,
          D.slice xl' el' none]]))
  [])
    (h10 : Ret Try.prog (tyOf Try.prog) (30 : Nat) [] [] (D.bool true) []) :
    Ret Try.prog (tyOf Try.prog) 8 [D.agg [D.int IntKind.i64 k, D.int IntKind.i64 n, D.str s, D.slice xb eb none, D.slice xf ef none, D.slice xl el none],
  D.agg
    [D.int IntKind.i64 k', D.int IntKind.i64 n', D.str s', D.slice xb' eb' none, D.slice xf' ef' none,
      D.slice xl' el' none]] [] (D.bool (k == (0 : Int))) [] :=
  have b0 : fwB
    [[D.int IntKind.i64 k, D.int IntKind.i64 n, D.str s, D.slice xb eb none, D.slice xf ef none, D.slice xl el none],
      [D.int IntKind.i64 k', D.int IntKind.i64 n', D.str s', D.slice xb' eb' none, D.slice xf' ef' none,
        D.slice xl' el' none]] =
  true := h0
  have b1 : decide (classU k < classU k') = true := decide_eq_true h1
  have b2 : (cmpV [D.int IntKind.i64 k, D.int IntKind.i64 n, D.str s, D.slice xb eb none, D.slice xf ef none, D.slice xl el none]
      [D.int IntKind.i64 k', D.int IntKind.i64 n', D.str s', D.slice xb' eb' none, D.slice xf' ef' none,
        D.slice xl' el' none] !=
    (-1 : Int)) =
  false := (by rw [bne, Bool.not_eq_false']; exact beq_iff_eq.2 h2)
  have b3 : decide (classU k > classU k') = false := decide_eq_false h3
  have b4 : decide (classU k < (0 : Int)) = false := decide_eq_false h4
  have b5 : (cmpV
      [D.int IntKind.i64 (0 : Int), D.int IntKind.i64 (0 : Int), D.str (ByteArray.mk #[]), D.slice false [] none,
        D.slice false [] none, D.slice false [] none]
      [D.int IntKind.i64 k, D.int IntKind.i64 n, D.str s, D.slice xb eb none, D.slice xf ef none, D.slice xl el none] ==
    (-1 : Int)) =
  false := beq_eq_false_iff_ne.2 h5
  have b6 : (cmpV
      [D.int IntKind.i64 (0 : Int), D.int IntKind.i64 (0 : Int), D.str (ByteArray.mk #[]), D.slice false [] none,
        D.slice false [] none, D.slice false [] none]
      [D.int IntKind.i64 k, D.int IntKind.i64 n, D.str s, D.slice xb eb none, D.slice xf ef none, D.slice xl el none] ==
    (0 : Int)) =
  true := beq_iff_eq.2 h6
  fin_call lki_fn lki_body lki_name (fin_ret (h := 0) (lki_ok fwB k n s xb eb xf ef xl el k' n' s' xb' eb' xf' ef' xl' el') (show outF (tyOf Try.prog) (fnAt Try.prog 8) 0 (lki_run fwB k n s xb eb xf ef xl el k' n' s' xb' eb' xf' ef' xl' el' (.code (bodyAt Try.prog 8)) [] (beginE (fnAt Try.prog 8) [D.agg [D.int IntKind.i64 k, D.int IntKind.i64 n, D.str s, D.slice xb eb none, D.slice xf ef none, D.slice xl el none],
  D.agg
    [D.int IntKind.i64 k', D.int IntKind.i64 n', D.str s', D.slice xb' eb' none, D.slice xf' ef' none,
      D.slice xl' el' none]] []) (.path [false, false, true, true, true, true, true, true, true, false, false, true, false, false, false, true, true, false, true, true, true, true, true, true, true, true, false])) = some (D.bool (k == (0 : Int)), [],
    [(cmpV
      [D.int IntKind.i64 (0 : Int), D.int IntKind.i64 (0 : Int), D.str (ByteArray.mk #[]), D.slice false [] none,
        D.slice false [] none, D.slice false [] none]
      [D.int IntKind.i64 k, D.int IntKind.i64 n, D.str s, D.slice xb eb none, D.slice xf ef none, D.slice xl el none] ==
    (-1 : Int)) =
  false,
      (cmpV
      [D.int IntKind.i64 (0 : Int), D.int IntKind.i64 (0 : Int), D.str (ByteArray.mk #[]), D.slice false [] none,
        D.slice false [] none, D.slice false [] none]
      [D.int IntKind.i64 k, D.int IntKind.i64 n, D.str s, D.slice xb eb none, D.slice xf ef none, D.slice xl el none] ==
    (0 : Int)) =
  true,
      ((cmpV
        [D.int IntKind.i64 (0 : Int), D.int IntKind.i64 (0 : Int), D.str (ByteArray.mk #[]), D.slice false [] none,
          D.slice false [] none, D.slice false [] none]
        [D.int IntKind.i64 k, D.int IntKind.i64 n, D.str s, D.slice xb eb none, D.slice xf ef none,
          D.slice xl el none] ==
      (-1 : Int)) ==
    false) =
  true,
      ((cmpV
        [D.int IntKind.i64 (0 : Int), D.int IntKind.i64 (0 : Int), D.str (ByteArray.mk #[]), D.slice false [] none,
          D.slice false [] none, D.slice false [] none]
        [D.int IntKind.i64 k, D.int IntKind.i64 n, D.str s, D.slice xb eb none, D.slice xf ef none,
          D.slice xl el none] ==
      (0 : Int)) ==
    true) =
  true,
      ((cmpV
        [D.int IntKind.i64 (0 : Int), D.int IntKind.i64 (0 : Int), D.str (ByteArray.mk #[]), D.slice false [] none,
          D.slice false [] none, D.slice false [] none]
        [D.int IntKind.i64 k, D.int IntKind.i64 n, D.str s, D.slice xb eb none, D.slice xf ef none,
          D.slice xl el none] ==
      (0 : Int)) ==
    true) =
  true,
      ((cmpV
        [D.int IntKind.i64 (0 : Int), D.int IntKind.i64 (0 : Int), D.str (ByteArray.mk #[]), D.slice false [] none,
          D.slice false [] none, D.slice false [] none]
        [D.int IntKind.i64 k, D.int IntKind.i64 n, D.str s, D.slice xb eb none, D.slice xf ef none,
          D.slice xl el none] ==
      (0 : Int)) ==
    true) =
  true,
      ((cmpV
        [D.int IntKind.i64 (0 : Int), D.int IntKind.i64 (0 : Int), D.str (ByteArray.mk #[]), D.slice false [] none,
          D.slice false [] none, D.slice false [] none]
        [D.int IntKind.i64 k, D.int IntKind.i64 n, D.str s, D.slice xb eb none, D.slice xf ef none,
          D.slice xl el none] ==
      (-1 : Int)) ==
    false) =
  true,
      ((cmpV
        [D.int IntKind.i64 (0 : Int), D.int IntKind.i64 (0 : Int), D.str (ByteArray.mk #[]), D.slice false [] none,
          D.slice false [] none, D.slice false [] none]
        [D.int IntKind.i64 k, D.int IntKind.i64 n, D.str s, D.slice xb eb none, D.slice xf ef none,
          D.slice xl el none] ==
      (-1 : Int)) ==
    false) =
  true,
      ((cmpV
        [D.int IntKind.i64 (0 : Int), D.int IntKind.i64 (0 : Int), D.str (ByteArray.mk #[]), D.slice false [] none,
          D.slice false [] none, D.slice false [] none]
        [D.int IntKind.i64 k, D.int IntKind.i64 n, D.str s, D.slice xb eb none, D.slice xf ef none,
          D.slice xl el none] ==
      (-1 : Int)) ==
    false) =
  true,
      decide (classU k < (0 : Int)) = false,
      (decide (classU k < (0 : Int)) == false) = true,
      (decide (classU k < (0 : Int)) == false) = true,
      Ret Try.prog (tyOf Try.prog) (32 : Nat)
  [D.agg
      [D.int IntKind.i64 (0 : Int), D.int IntKind.i64 (0 : Int), D.str (ByteArray.mk #[]), D.slice false [] none,
        D.slice false [] none, D.slice false [] none],
    D.agg
      [D.int IntKind.i64 k, D.int IntKind.i64 n, D.str s, D.slice xb eb none, D.slice xf ef none, D.slice xl el none]]
  []
  (D.int IntKind.i64
    (cmpV
      [D.int IntKind.i64 (0 : Int), D.int IntKind.i64 (0 : Int), D.str (ByteArray.mk #[]), D.slice false [] none,
        D.slice false [] none, D.slice false [] none]
      [D.int IntKind.i64 k, D.int IntKind.i64 n, D.str s, D.slice xb eb none, D.slice xf ef none, D.slice xl el none]))
  [],
      false = false,
      (cmpV [D.int IntKind.i64 k, D.int IntKind.i64 n, D.str s, D.slice xb eb none, D.slice xf ef none, D.slice xl el none]
      [D.int IntKind.i64 k', D.int IntKind.i64 n', D.str s', D.slice xb' eb' none, D.slice xf' ef' none,
        D.slice xl' el' none] !=
    (-1 : Int)) =
  false,
      decide (classU k > classU k') = false,
      ((cmpV [D.int IntKind.i64 k, D.int IntKind.i64 n, D.str s, D.slice xb eb none, D.slice xf ef none, D.slice xl el none]
        [D.int IntKind.i64 k', D.int IntKind.i64 n', D.str s', D.slice xb' eb' none, D.slice xf' ef' none,
          D.slice xl' el' none] !=
      (-1 : Int)) ==
    false) =
  true,
      (decide (classU k > classU k') == true) = false,
      (decide (classU k > classU k') == true) = false,
      ((cmpV [D.int IntKind.i64 k, D.int IntKind.i64 n, D.str s, D.slice xb eb none, D.slice xf ef none, D.slice xl el none]
        [D.int IntKind.i64 k', D.int IntKind.i64 n', D.str s', D.slice xb' eb' none, D.slice xf' ef' none,
          D.slice xl' el' none] !=
      (-1 : Int)) ==
    false) =
  true,
      ((cmpV [D.int IntKind.i64 k, D.int IntKind.i64 n, D.str s, D.slice xb eb none, D.slice xf ef none, D.slice xl el none]
        [D.int IntKind.i64 k', D.int IntKind.i64 n', D.str s', D.slice xb' eb' none, D.slice xf' ef' none,
          D.slice xl' el' none] !=
      (-1 : Int)) ==
    false) =
  true,
      ((cmpV [D.int IntKind.i64 k, D.int IntKind.i64 n, D.str s, D.slice xb eb none, D.slice xf ef none, D.slice xl el none]
        [D.int IntKind.i64 k', D.int IntKind.i64 n', D.str s', D.slice xb' eb' none, D.slice xf' ef' none,
          D.slice xl' el' none] !=
      (-1 : Int)) ==
    false) =
  true,
      ((cmpV [D.int IntKind.i64 k, D.int IntKind.i64 n, D.str s, D.slice xb eb none, D.slice xf ef none, D.slice xl el none]
        [D.int IntKind.i64 k', D.int IntKind.i64 n', D.str s', D.slice xb' eb' none, D.slice xf' ef' none,
          D.slice xl' el' none] !=
      (-1 : Int)) ==
    false) =
  true,
      decide (classU k < classU k') = true,
      (decide (classU k < classU k') == true) = true,
      (decide (classU k < classU k') == true) = true,
      Ret Try.prog (tyOf Try.prog) (32 : Nat)
  [D.agg
      [D.int IntKind.i64 k, D.int IntKind.i64 n, D.str s, D.slice xb eb none, D.slice xf ef none, D.slice xl el none],
    D.agg
      [D.int IntKind.i64 k', D.int IntKind.i64 n', D.str s', D.slice xb' eb' none, D.slice xf' ef' none,
        D.slice xl' el' none]]
  []
  (D.int IntKind.i64
    (cmpV
      [D.int IntKind.i64 k, D.int IntKind.i64 n, D.str s, D.slice xb eb none, D.slice xf ef none, D.slice xl el none]
      [D.int IntKind.i64 k', D.int IntKind.i64 n', D.str s', D.slice xb' eb' none, D.slice xf' ef' none,
        D.slice xl' el' none]))
  [],
      Ret Try.prog (tyOf Try.prog) (34 : Nat) [D.int IntKind.i64 k'] [] (D.int IntKind.i64 (classU k')) [],
      Ret Try.prog (tyOf Try.prog) (34 : Nat) [D.int IntKind.i64 k] [] (D.int IntKind.i64 (classU k)) [],
      (!fwB
      [[D.int IntKind.i64 k, D.int IntKind.i64 n, D.str s, D.slice xb eb none, D.slice xf ef none, D.slice xl el none],
        [D.int IntKind.i64 k', D.int IntKind.i64 n', D.str s', D.slice xb' eb' none, D.slice xf' ef' none,
          D.slice xl' el' none]]) =
  false,
      Ret Try.prog (tyOf Try.prog) (31 : Nat)
  [D.slice true
      [[D.int IntKind.i64 k, D.int IntKind.i64 n, D.str s, D.slice xb eb none, D.slice xf ef none, D.slice xl el none],
        [D.int IntKind.i64 k', D.int IntKind.i64 n', D.str s', D.slice xb' eb' none, D.slice xf' ef' none,
          D.slice xl' el' none]]
      none]
  []
  (D.bool
    (fwB
      [[D.int IntKind.i64 k, D.int IntKind.i64 n, D.str s, D.slice xb eb none, D.slice xf ef none, D.slice xl el none],
        [D.int IntKind.i64 k', D.int IntKind.i64 n', D.str s', D.slice xb' eb' none, D.slice xf' ef' none,
          D.slice xl' el' none]]))
  [],
      false = false,
      Ret Try.prog (tyOf Try.prog) (30 : Nat) [] [] (D.bool true) []]) by kernel_rfl)
    (all_cons.2 ⟨b5, all_cons.2 ⟨b6, all_cons.2 ⟨(by rw [b5]; rfl), all_cons.2 ⟨(by rw [b6]; rfl), all_cons.2 ⟨(by rw [b6]; rfl), all_cons.2 ⟨(by rw [b6]; rfl), all_cons.2 ⟨(by rw [b5]; rfl), all_cons.2 ⟨(by rw [b5]; rfl), all_cons.2 ⟨(by rw [b5]; rfl), all_cons.2 ⟨b4, all_cons.2 ⟨(by rw [b4]; rfl), all_cons.2 ⟨(by rw [b4]; rfl), all_cons.2 ⟨h7, all_cons.2 ⟨rfl, all_cons.2 ⟨b2, all_cons.2 ⟨b3, all_cons.2 ⟨(by rw [b2]; rfl), all_cons.2 ⟨(by rw [b3]; rfl), all_cons.2 ⟨(by rw [b3]; rfl), all_cons.2 ⟨(by rw [b2]; rfl), all_cons.2 ⟨(by rw [b2]; rfl), all_cons.2 ⟨(by rw [b2]; rfl), all_cons.2 ⟨(by rw [b2]; rfl), all_cons.2 ⟨b1, all_cons.2 ⟨(by rw [b1]; rfl), all_cons.2 ⟨(by rw [b1]; rfl), all_cons.2 ⟨h8, all_cons.2 ⟨(cls34 _), all_cons.2 ⟨(cls34 _), all_cons.2 ⟨(by rw [b0]; rfl), all_cons.2 ⟨h9, all_cons.2 ⟨rfl, all_cons.2 ⟨h10, all_nil.2 trivial⟩⟩⟩⟩⟩⟩⟩⟩⟩⟩⟩⟩⟩⟩⟩⟩⟩⟩⟩⟩⟩⟩⟩⟩⟩⟩⟩⟩⟩⟩⟩⟩⟩))

theorem lki_in_6 {fwB : Es → Bool} {k : Int} {n : Int} {s : ByteArray} {xb : Bool} {eb : Es} {xf : Bool} {ef : Es} {xl : Bool} {el : Es} {k' : Int} {n' : Int} {s' : ByteArray} {xb' : Bool} {eb' : Es} {xf' : Bool} {ef' : Es} {xl' : Bool} {el' : Es}
    (h0 : fwB
    [[D.int IntKind.i64 k, D.int IntKind.i64 n, D.str s, D.slice xb eb none, D.slice xf ef none, D.slice xl el none],
      [D.int IntKind.i64 k', D.int IntKind.i64 n', D.str s', D.slice xb' eb' none, D.slice xf' ef' none,
        D.slice xl' el' none]] =
  true)
    (h1 : ¬ (classU k < classU k'))
    (h2 : classU k > classU k')
    (h3 : cmpV [D.int IntKind.i64 k, D.int IntKind.i64 n, D.str s, D.slice xb eb none, D.slice xf ef none, D.slice xl el none]
  [D.int IntKind.i64 k', D.int IntKind.i64 n', D.str s', D.slice xb' eb' none, D.slice xf' ef' none,
    D.slice xl' el' none] = (1 : Int))
    (h4 : classU k < (0 : Int))
    (h5 : Ret Try.prog (tyOf Try.prog) (32 : Nat)
  [D.agg
      [D.int IntKind.i64 (0 : Int), D.int IntKind.i64 (0 : Int), D.str (ByteArray.mk #[]), D.slice false [] none,
        D.slice false [] none, D.slice false [] none],
    D.agg
      [D.int IntKind.i64 k, D.int IntKind.i64 n, D.str s, D.slice xb eb none, D.slice xf ef none, D.slice xl el none]]
  []
  (D.int IntKind.i64
    (cmpV
      [D.int IntKind.i64 (0 : Int), D.int IntKind.i64 (0 : Int), D.str (ByteArray.mk #[]), D.slice false [] none,
        D.slice false [] none, D.slice false [] none]
      [D.int IntKind.i64 k, D.int IntKind.i64 n, D.str s, D.slice xb eb none, D.slice xf ef none, D.slice xl el none]))
  [])
    (h6 : Ret Try.prog (tyOf Try.prog) (32 : Nat)
  [D.agg
      [D.int IntKind.i64 k, D.int IntKind.i64 n, D.str s, D.slice xb eb none, D.slice xf ef none, D.slice xl el none],
    D.agg
      [D.int IntKind.i64 k', D.int IntKind.i64 n', D.str s', D.slice xb' eb' none, D.slice xf' ef' none,
        D.slice xl' el' none]]
  []
  (D.int IntKind.i64
    (cmpV
      [D.int IntKind.i64 k, D.int IntKind.i64 n, D.str s, D.slice xb eb none, D.slice xf ef none, D.slice xl el none]
      [D.int IntKind.i64 k', D.int IntKind.i64 n', D.str s', D.slice xb' eb' none, D.slice xf' ef' none,
        D.slice xl' el' none]))
  [])
    (h7 : Ret Try.prog (tyOf Try.prog) (31 : Nat)
  [D.slice true
      [[D.int IntKind.i64 k, D.int IntKind.i64 n, D.str s, D.slice xb eb none, D.slice xf ef none, D.slice xl el none],
        [D.int IntKind.i64 k', D.int IntKind.i64 n', D.str s', D.slice xb' eb' none, D.slice xf' ef' none,
          D.slice xl' el' none]]
      none]
  []
  (D.bool
    (fwB
      [[D.int IntKind.i64 k, D.int IntKind.i64 n, D.str s, D.slice xb eb none, D.slice xf ef none, D.slice xl el none],
        [D.int IntKind.i64 k', D.int IntKind.i64 n', D.str s', D.slice xb' eb' none, D.slice xf' ef' none,
          D.slice xl' el' none]]))
  [])
    (h8 : Ret Try.prog (tyOf Try.prog) (30 : Nat) [] [] (D.bool true) []) :
    Ret Try.prog (tyOf Try.prog) 8 [D.agg [D.int IntKind.i64 k, D.int IntKind.i64 n, D.str s, D.slice xb eb none, D.slice xf ef none, D.slice xl el none],
  D.agg
    [D.int IntKind.i64 k', D.int IntKind.i64 n', D.str s', D.slice xb' eb' none, D.slice xf' ef' none,
      D.slice xl' el' none]] [] (D.bool true) [] :=
  have b0 : fwB
    [[D.int IntKind.i64 k, D.int IntKind.i64 n, D.str s, D.slice xb eb none, D.slice xf ef none, D.slice xl el none],
      [D.int IntKind.i64 k', D.int IntKind.i64 n', D.str s', D.slice xb' eb' none, D.slice xf' ef' none,
        D.slice xl' el' none]] =
  true := h0
  have b1 : decide (classU k < classU k') = false := decide_eq_false h1
  have b2 : decide (classU k > classU k') = true := decide_eq_true h2
  have b3 : (cmpV [D.int IntKind.i64 k, D.int IntKind.i64 n, D.str s, D.slice xb eb none, D.slice xf ef none, D.slice xl el none]
      [D.int IntKind.i64 k', D.int IntKind.i64 n', D.str s', D.slice xb' eb' none, D.slice xf' ef' none,
        D.slice xl' el' none] !=
    (1 : Int)) =
  false := (by rw [bne, Bool.not_eq_false']; exact beq_iff_eq.2 h3)
  have b4 : decide (classU k < (0 : Int)) = true := decide_eq_true h4
  fin_call lki_fn lki_body lki_name (fin_ret (h := 0) (lki_ok fwB k n s xb eb xf ef xl el k' n' s' xb' eb' xf' ef' xl' el') (show outF (tyOf Try.prog) (fnAt Try.prog 8) 0 (lki_run fwB k n s xb eb xf ef xl el k' n' s' xb' eb' xf' ef' xl' el' (.code (bodyAt Try.prog 8)) [] (beginE (fnAt Try.prog 8) [D.agg [D.int IntKind.i64 k, D.int IntKind.i64 n, D.str s, D.slice xb eb none, D.slice xf ef none, D.slice xl el none],
  D.agg
    [D.int IntKind.i64 k', D.int IntKind.i64 n', D.str s', D.slice xb' eb' none, D.slice xf' ef' none,
      D.slice xl' el' none]] []) (.path [false, false, false, false, false, true, true, true, true, true, true, true, true, false, false, false, false, true, false, false, false, false, true])) = some (D.bool true, [],
    [true = true,
      false = false,
      false = false,
      false = false,
      false = false,
      decide (classU k < (0 : Int)) = true,
      (decide (classU k < (0 : Int)) == false) = false,
      (decide (classU k < (0 : Int)) == false) = false,
      Ret Try.prog (tyOf Try.prog) (32 : Nat)
  [D.agg
      [D.int IntKind.i64 (0 : Int), D.int IntKind.i64 (0 : Int), D.str (ByteArray.mk #[]), D.slice false [] none,
        D.slice false [] none, D.slice false [] none],
    D.agg
      [D.int IntKind.i64 k, D.int IntKind.i64 n, D.str s, D.slice xb eb none, D.slice xf ef none, D.slice xl el none]]
  []
  (D.int IntKind.i64
    (cmpV
      [D.int IntKind.i64 (0 : Int), D.int IntKind.i64 (0 : Int), D.str (ByteArray.mk #[]), D.slice false [] none,
        D.slice false [] none, D.slice false [] none]
      [D.int IntKind.i64 k, D.int IntKind.i64 n, D.str s, D.slice xb eb none, D.slice xf ef none, D.slice xl el none]))
  [],
      (cmpV [D.int IntKind.i64 k, D.int IntKind.i64 n, D.str s, D.slice xb eb none, D.slice xf ef none, D.slice xl el none]
      [D.int IntKind.i64 k', D.int IntKind.i64 n', D.str s', D.slice xb' eb' none, D.slice xf' ef' none,
        D.slice xl' el' none] !=
    (1 : Int)) =
  false,
      false = false,
      decide (classU k > classU k') = true,
      true = true,
      (decide (classU k > classU k') == true) = true,
      (decide (classU k > classU k') == true) = true,
      true = true,
      true = true,
      true = true,
      true = true,
      decide (classU k < classU k') = false,
      (decide (classU k < classU k') == true) = false,
      (decide (classU k < classU k') == true) = false,
      Ret Try.prog (tyOf Try.prog) (32 : Nat)
  [D.agg
      [D.int IntKind.i64 k, D.int IntKind.i64 n, D.str s, D.slice xb eb none, D.slice xf ef none, D.slice xl el none],
    D.agg
      [D.int IntKind.i64 k', D.int IntKind.i64 n', D.str s', D.slice xb' eb' none, D.slice xf' ef' none,
        D.slice xl' el' none]]
  []
  (D.int IntKind.i64
    (cmpV
      [D.int IntKind.i64 k, D.int IntKind.i64 n, D.str s, D.slice xb eb none, D.slice xf ef none, D.slice xl el none]
      [D.int IntKind.i64 k', D.int IntKind.i64 n', D.str s', D.slice xb' eb' none, D.slice xf' ef' none,
        D.slice xl' el' none]))
  [],
      Ret Try.prog (tyOf Try.prog) (34 : Nat) [D.int IntKind.i64 k'] [] (D.int IntKind.i64 (classU k')) [],
      Ret Try.prog (tyOf Try.prog) (34 : Nat) [D.int IntKind.i64 k] [] (D.int IntKind.i64 (classU k)) [],
      (!fwB
      [[D.int IntKind.i64 k, D.int IntKind.i64 n, D.str s, D.slice xb eb none, D.slice xf ef none, D.slice xl el none],
        [D.int IntKind.i64 k', D.int IntKind.i64 n', D.str s', D.slice xb' eb' none, D.slice xf' ef' none,
          D.slice xl' el' none]]) =
  false,
      Ret Try.prog (tyOf Try.prog) (31 : Nat)
  [D.slice true
      [[D.int IntKind.i64 k, D.int IntKind.i64 n, D.str s, D.slice xb eb none, D.slice xf ef none, D.slice xl el none],
        [D.int IntKind.i64 k', D.int IntKind.i64 n', D.str s', D.slice xb' eb' none, D.slice xf' ef' none,
          D.slice xl' el' none]]
      none]
  []
  (D.bool
    (fwB
      [[D.int IntKind.i64 k, D.int IntKind.i64 n, D.str s, D.slice xb eb none, D.slice xf ef none, D.slice xl el none],
        [D.int IntKind.i64 k', D.int IntKind.i64 n', D.str s', D.slice xb' eb' none, D.slice xf' ef' none,
          D.slice xl' el' none]]))
  [],
      false = false,
      Ret Try.prog (tyOf Try.prog) (30 : Nat) [] [] (D.bool true) []]) by kernel_rfl)
    (all_cons.2 ⟨rfl, all_cons.2 ⟨rfl, all_cons.2 ⟨rfl, all_cons.2 ⟨rfl, all_cons.2 ⟨rfl, all_cons.2 ⟨b4, all_cons.2 ⟨(by rw [b4]; rfl), all_cons.2 ⟨(by rw [b4]; rfl), all_cons.2 ⟨h5, all_cons.2 ⟨b3, all_cons.2 ⟨rfl, all_cons.2 ⟨b2, all_cons.2 ⟨rfl, all_cons.2 ⟨(by rw [b2]; rfl), all_cons.2 ⟨(by rw [b2]; rfl), all_cons.2 ⟨rfl, all_cons.2 ⟨rfl, all_cons.2 ⟨rfl, all_cons.2 ⟨rfl, all_cons.2 ⟨b1, all_cons.2 ⟨(by rw [b1]; rfl), all_cons.2 ⟨(by rw [b1]; rfl), all_cons.2 ⟨h6, all_cons.2 ⟨(cls34 _), all_cons.2 ⟨(cls34 _), all_cons.2 ⟨(by rw [b0]; rfl), all_cons.2 ⟨h7, all_cons.2 ⟨rfl, all_cons.2 ⟨h8, all_nil.2 trivial⟩⟩⟩⟩⟩⟩⟩⟩⟩⟩⟩⟩⟩⟩⟩⟩⟩⟩⟩⟩⟩⟩⟩⟩⟩⟩⟩⟩⟩))

theorem lki_in_7 {fwB : Es → Bool} {k : Int} {n : Int} {s : ByteArray} {xb : Bool} {eb : Es} {xf : Bool} {ef : Es} {xl : Bool} {el : Es} {k' : Int} {n' : Int} {s' : ByteArray} {xb' : Bool} {eb' : Es} {xf' : Bool} {ef' : Es} {xl' : Bool} {el' : Es}
    (h0 : fwB
    [[D.int IntKind.i64 k, D.int IntKind.i64 n, D.str s, D.slice xb eb none, D.slice xf ef none, D.slice xl el none],
      [D.int IntKind.i64 k', D.int IntKind.i64 n', D.str s', D.slice xb' eb' none, D.slice xf' ef' none,
        D.slice xl' el' none]] =
  true)
    (h1 : ¬ (classU k < classU k'))
    (h2 : classU k > classU k')
    (h3 : cmpV [D.int IntKind.i64 k, D.int IntKind.i64 n, D.str s, D.slice xb eb none, D.slice xf ef none, D.slice xl el none]
  [D.int IntKind.i64 k', D.int IntKind.i64 n', D.str s', D.slice xb' eb' none, D.slice xf' ef' none,
    D.slice xl' el' none] = (1 : Int))
    (h4 : ¬ (classU k < (0 : Int)))
    (h5 : cmpV
  [D.int IntKind.i64 (0 : Int), D.int IntKind.i64 (0 : Int), D.str (ByteArray.mk #[]), D.slice false [] none,
    D.slice false [] none, D.slice false [] none]
  [D.int IntKind.i64 k, D.int IntKind.i64 n, D.str s, D.slice xb eb none, D.slice xf ef none, D.slice xl el none] = (-1 : Int))
    (h6 : Ret Try.prog (tyOf Try.prog) (32 : Nat)
  [D.agg
      [D.int IntKind.i64 (0 : Int), D.int IntKind.i64 (0 : Int), D.str (ByteArray.mk #[]), D.slice false [] none,
        D.slice false [] none, D.slice false [] none],
    D.agg
      [D.int IntKind.i64 k, D.int IntKind.i64 n, D.str s, D.slice xb eb none, D.slice xf ef none, D.slice xl el none]]
  []
  (D.int IntKind.i64
    (cmpV
      [D.int IntKind.i64 (0 : Int), D.int IntKind.i64 (0 : Int), D.str (ByteArray.mk #[]), D.slice false [] none,
        D.slice false [] none, D.slice false [] none]
      [D.int IntKind.i64 k, D.int IntKind.i64 n, D.str s, D.slice xb eb none, D.slice xf ef none, D.slice xl el none]))
  [])
    (h7 : Ret Try.prog (tyOf Try.prog) (32 : Nat)
  [D.agg
      [D.int IntKind.i64 k, D.int IntKind.i64 n, D.str s, D.slice xb eb none, D.slice xf ef none, D.slice xl el none],
    D.agg
      [D.int IntKind.i64 k', D.int IntKind.i64 n', D.str s', D.slice xb' eb' none, D.slice xf' ef' none,
        D.slice xl' el' none]]
  []
  (D.int IntKind.i64
    (cmpV
      [D.int IntKind.i64 k, D.int IntKind.i64 n, D.str s, D.slice xb eb none, D.slice xf ef none, D.slice xl el none]
      [D.int IntKind.i64 k', D.int IntKind.i64 n', D.str s', D.slice xb' eb' none, D.slice xf' ef' none,
        D.slice xl' el' none]))
  [])
    (h8 : Ret Try.prog (tyOf Try.prog) (31 : Nat)
  [D.slice true
      [[D.int IntKind.i64 k, D.int IntKind.i64 n, D.str s, D.slice xb eb none, D.slice xf ef none, D.slice xl el none],
        [D.int IntKind.i64 k', D.int IntKind.i64 n', D.str s', D.slice xb' eb' none, D.slice xf' ef' none,
          D.slice xl' el' none]]
      none]
  []
  (D.bool
    (fwB
      [[D.int IntKind.i64 k, D.int IntKind.i64 n, D.str s, D.slice xb eb none, D.slice xf ef none, D.slice xl el none],
        [D.int IntKind.i64 k', D.int IntKind.i64 n', D.str s', D.slice xb' eb' none, D.slice xf' ef' none,
          D.slice xl' el' none]]))
  [])
    (h9 : Ret Try.prog (tyOf Try.prog) (30 : Nat) [] [] (D.bool true) []) :
    Ret Try.prog (tyOf Try.prog) 8 [D.agg [D.int IntKind.i64 k, D.int IntKind.i64 n, D.str s, D.slice xb eb none, D.slice xf ef none, D.slice xl el none],
  D.agg
    [D.int IntKind.i64 k', D.int IntKind.i64 n', D.str s', D.slice xb' eb' none, D.slice xf' ef' none,
      D.slice xl' el' none]] [] (D.bool true) [] :=
  have b0 : fwB
    [[D.int IntKind.i64 k, D.int IntKind.i64 n, D.str s, D.slice xb eb none, D.slice xf ef none, D.slice xl el none],
      [D.int IntKind.i64 k', D.int IntKind.i64 n', D.str s', D.slice xb' eb' none, D.slice xf' ef' none,
        D.slice xl' el' none]] =
  true := h0
  have b1 : decide (classU k < classU k') = false := decide_eq_false h1
  have b2 : decide (classU k > classU k') = true := decide_eq_true h2
  have b3 : (cmpV [D.int IntKind.i64 k, D.int IntKind.i64 n, D.str s, D.slice xb eb none, D.slice xf ef none, D.slice xl el none]
      [D.int IntKind.i64 k', D.int IntKind.i64 n', D.str s', D.slice xb' eb' none, D.slice xf' ef' none,
        D.slice xl' el' none] !=
    (1 : Int)) =
  false := (by rw [bne, Bool.not_eq_false']; exact beq_iff_eq.2 h3)
  have b4 : decide (classU k < (0 : Int)) = false := decide_eq_false h4
  have b5 : (cmpV
      [D.int IntKind.i64 (0 : Int), D.int IntKind.i64 (0 : Int), D.str (ByteArray.mk #[]), D.slice false [] none,
        D.slice false [] none, D.slice false [] none]
      [D.int IntKind.i64 k, D.int IntKind.i64 n, D.str s, D.slice xb eb none, D.slice xf ef none, D.slice xl el none] ==
    (-1 : Int)) =
  true := beq_iff_eq.2 h5
  fin_call lki_fn lki_body lki_name (fin_ret (h := 0) (lki_ok fwB k n s xb eb xf ef xl el k' n' s' xb' eb' xf' ef' xl' el') (show outF (tyOf Try.prog) (fnAt Try.prog 8) 0 (lki_run fwB k n s xb eb xf ef xl el k' n' s' xb' eb' xf' ef' xl' el' (.code (bodyAt Try.prog 8)) [] (beginE (fnAt Try.prog 8) [D.agg [D.int IntKind.i64 k, D.int IntKind.i64 n, D.str s, D.slice xb eb none, D.slice xf ef none, D.slice xl el none],
  D.agg
    [D.int IntKind.i64 k', D.int IntKind.i64 n', D.str s', D.slice xb' eb' none, D.slice xf' ef' none,
      D.slice xl' el' none]] []) (.path [false, false, false, false, false, true, true, true, true, true, true, true, true, false, false, true, true, false, false, false, false, false, true])) = some (D.bool true, [],
    [(cmpV
      [D.int IntKind.i64 (0 : Int), D.int IntKind.i64 (0 : Int), D.str (ByteArray.mk #[]), D.slice false [] none,
        D.slice false [] none, D.slice false [] none]
      [D.int IntKind.i64 k, D.int IntKind.i64 n, D.str s, D.slice xb eb none, D.slice xf ef none, D.slice xl el none] ==
    (-1 : Int)) =
  true,
      ((cmpV
        [D.int IntKind.i64 (0 : Int), D.int IntKind.i64 (0 : Int), D.str (ByteArray.mk #[]), D.slice false [] none,
          D.slice false [] none, D.slice false [] none]
        [D.int IntKind.i64 k, D.int IntKind.i64 n, D.str s, D.slice xb eb none, D.slice xf ef none,
          D.slice xl el none] ==
      (-1 : Int)) ==
    false) =
  false,
      ((cmpV
        [D.int IntKind.i64 (0 : Int), D.int IntKind.i64 (0 : Int), D.str (ByteArray.mk #[]), D.slice false [] none,
          D.slice false [] none, D.slice false [] none]
        [D.int IntKind.i64 k, D.int IntKind.i64 n, D.str s, D.slice xb eb none, D.slice xf ef none,
          D.slice xl el none] ==
      (-1 : Int)) ==
    false) =
  false,
      ((cmpV
        [D.int IntKind.i64 (0 : Int), D.int IntKind.i64 (0 : Int), D.str (ByteArray.mk #[]), D.slice false [] none,
          D.slice false [] none, D.slice false [] none]
        [D.int IntKind.i64 k, D.int IntKind.i64 n, D.str s, D.slice xb eb none, D.slice xf ef none,
          D.slice xl el none] ==
      (-1 : Int)) ==
    false) =
  false,
      ((cmpV
        [D.int IntKind.i64 (0 : Int), D.int IntKind.i64 (0 : Int), D.str (ByteArray.mk #[]), D.slice false [] none,
          D.slice false [] none, D.slice false [] none]
        [D.int IntKind.i64 k, D.int IntKind.i64 n, D.str s, D.slice xb eb none, D.slice xf ef none,
          D.slice xl el none] ==
      (-1 : Int)) ==
    false) =
  false,
      decide (classU k < (0 : Int)) = false,
      (decide (classU k < (0 : Int)) == false) = true,
      (decide (classU k < (0 : Int)) == false) = true,
      Ret Try.prog (tyOf Try.prog) (32 : Nat)
  [D.agg
      [D.int IntKind.i64 (0 : Int), D.int IntKind.i64 (0 : Int), D.str (ByteArray.mk #[]), D.slice false [] none,
        D.slice false [] none, D.slice false [] none],
    D.agg
      [D.int IntKind.i64 k, D.int IntKind.i64 n, D.str s, D.slice xb eb none, D.slice xf ef none, D.slice xl el none]]
  []
  (D.int IntKind.i64
    (cmpV
      [D.int IntKind.i64 (0 : Int), D.int IntKind.i64 (0 : Int), D.str (ByteArray.mk #[]), D.slice false [] none,
        D.slice false [] none, D.slice false [] none]
      [D.int IntKind.i64 k, D.int IntKind.i64 n, D.str s, D.slice xb eb none, D.slice xf ef none, D.slice xl el none]))
  [],
      (cmpV [D.int IntKind.i64 k, D.int IntKind.i64 n, D.str s, D.slice xb eb none, D.slice xf ef none, D.slice xl el none]
      [D.int IntKind.i64 k', D.int IntKind.i64 n', D.str s', D.slice xb' eb' none, D.slice xf' ef' none,
        D.slice xl' el' none] !=
    (1 : Int)) =
  false,
      false = false,
      decide (classU k > classU k') = true,
      true = true,
      (decide (classU k > classU k') == true) = true,
      (decide (classU k > classU k') == true) = true,
      true = true,
      true = true,
      true = true,
      true = true,
      decide (classU k < classU k') = false,
      (decide (classU k < classU k') == true) = false,
      (decide (classU k < classU k') == true) = false,
      Ret Try.prog (tyOf Try.prog) (32 : Nat)
  [D.agg
      [D.int IntKind.i64 k, D.int IntKind.i64 n, D.str s, D.slice xb eb none, D.slice xf ef none, D.slice xl el none],
    D.agg
      [D.int IntKind.i64 k', D.int IntKind.i64 n', D.str s', D.slice xb' eb' none, D.slice xf' ef' none,
        D.slice xl' el' none]]
  []
  (D.int IntKind.i64
    (cmpV
      [D.int IntKind.i64 k, D.int IntKind.i64 n, D.str s, D.slice xb eb none, D.slice xf ef none, D.slice xl el none]
      [D.int IntKind.i64 k', D.int IntKind.i64 n', D.str s', D.slice xb' eb' none, D.slice xf' ef' none,
        D.slice xl' el' none]))
  [],
      Ret Try.prog (tyOf Try.prog) (34 : Nat) [D.int IntKind.i64 k'] [] (D.int IntKind.i64 (classU k')) [],
      Ret Try.prog (tyOf Try.prog) (34 : Nat) [D.int IntKind.i64 k] [] (D.int IntKind.i64 (classU k)) [],
      (!fwB
      [[D.int IntKind.i64 k, D.int IntKind.i64 n, D.str s, D.slice xb eb none, D.slice xf ef none, D.slice xl el none],
        [D.int IntKind.i64 k', D.int IntKind.i64 n', D.str s', D.slice xb' eb' none, D.slice xf' ef' none,
          D.slice xl' el' none]]) =
  false,
      Ret Try.prog (tyOf Try.prog) (31 : Nat)
  [D.slice true
      [[D.int IntKind.i64 k, D.int IntKind.i64 n, D.str s, D.slice xb eb none, D.slice xf ef none, D.slice xl el none],
        [D.int IntKind.i64 k', D.int IntKind.i64 n', D.str s', D.slice xb' eb' none, D.slice xf' ef' none,
          D.slice xl' el' none]]
      none]
  []
  (D.bool
    (fwB
      [[D.int IntKind.i64 k, D.int IntKind.i64 n, D.str s, D.slice xb eb none, D.slice xf ef none, D.slice xl el none],
        [D.int IntKind.i64 k', D.int IntKind.i64 n', D.str s', D.slice xb' eb' none, D.slice xf' ef' none,
          D.slice xl' el' none]]))
  [],
      false = false,
      Ret Try.prog (tyOf Try.prog) (30 : Nat) [] [] (D.bool true) []]) by kernel_rfl)
    (all_cons.2 ⟨b5, all_cons.2 ⟨(by rw [b5]; rfl), all_cons.2 ⟨(by rw [b5]; rfl), all_cons.2 ⟨(by rw [b5]; rfl), all_cons.2 ⟨(by rw [b5]; rfl), all_cons.2 ⟨b4, all_cons.2 ⟨(by rw [b4]; rfl), all_cons.2 ⟨(by rw [b4]; rfl), all_cons.2 ⟨h6, all_cons.2 ⟨b3, all_cons.2 ⟨rfl, all_cons.2 ⟨b2, all_cons.2 ⟨rfl, all_cons.2 ⟨(by rw [b2]; rfl), all_cons.2 ⟨(by rw [b2]; rfl), all_cons.2 ⟨rfl, all_cons.2 ⟨rfl, all_cons.2 ⟨rfl, all_cons.2 ⟨rfl, all_cons.2 ⟨b1, all_cons.2 ⟨(by rw [b1]; rfl), all_cons.2 ⟨(by rw [b1]; rfl), all_cons.2 ⟨h7, all_cons.2 ⟨(cls34 _), all_cons.2 ⟨(cls34 _), all_cons.2 ⟨(by rw [b0]; rfl), all_cons.2 ⟨h8, all_cons.2 ⟨rfl, all_cons.2 ⟨h9, all_nil.2 trivial⟩⟩⟩⟩⟩⟩⟩⟩⟩⟩⟩⟩⟩⟩⟩⟩⟩⟩⟩⟩⟩⟩⟩⟩⟩⟩⟩⟩⟩))

theorem lki_in_8 {fwB : Es → Bool} {k : Int} {n : Int} {s : ByteArray} {xb : Bool} {eb : Es} {xf : Bool} {ef : Es} {xl : Bool} {el : Es} {k' : Int} {n' : Int} {s' : ByteArray} {xb' : Bool} {eb' : Es} {xf' : Bool} {ef' : Es} {xl' : Bool} {el' : Es}
    (h0 : fwB
    [[D.int IntKind.i64 k, D.int IntKind.i64 n, D.str s, D.slice xb eb none, D.slice xf ef none, D.slice xl el none],
      [D.int IntKind.i64 k', D.int IntKind.i64 n', D.str s', D.slice xb' eb' none, D.slice xf' ef' none,
        D.slice xl' el' none]] =
  true)
    (h1 : ¬ (classU k < classU k'))
    (h2 : classU k > classU k')
    (h3 : cmpV [D.int IntKind.i64 k, D.int IntKind.i64 n, D.str s, D.slice xb eb none, D.slice xf ef none, D.slice xl el none]
  [D.int IntKind.i64 k', D.int IntKind.i64 n', D.str s', D.slice xb' eb' none, D.slice xf' ef' none,
    D.slice xl' el' none] = (1 : Int))
    (h4 : ¬ (classU k < (0 : Int)))
    (h5 : cmpV
  [D.int IntKind.i64 (0 : Int), D.int IntKind.i64 (0 : Int), D.str (ByteArray.mk #[]), D.slice false [] none,
    D.slice false [] none, D.slice false [] none]
  [D.int IntKind.i64 k, D.int IntKind.i64 n, D.str s, D.slice xb eb none, D.slice xf ef none, D.slice xl el none] ≠ (-1 : Int))
    (h6 : cmpV
  [D.int IntKind.i64 (0 : Int), D.int IntKind.i64 (0 : Int), D.str (ByteArray.mk #[]), D.slice false [] none,
    D.slice false [] none, D.slice false [] none]
  [D.int IntKind.i64 k, D.int IntKind.i64 n, D.str s, D.slice xb eb none, D.slice xf ef none, D.slice xl el none] = (0 : Int))
    (h7 : Ret Try.prog (tyOf Try.prog) (32 : Nat)
  [D.agg
      [D.int IntKind.i64 (0 : Int), D.int IntKind.i64 (0 : Int), D.str (ByteArray.mk #[]), D.slice false [] none,
        D.slice false [] none, D.slice false [] none],
    D.agg
      [D.int IntKind.i64 k, D.int IntKind.i64 n, D.str s, D.slice xb eb none, D.slice xf ef none, D.slice xl el none]]
  []
  (D.int IntKind.i64
    (cmpV
      [D.int IntKind.i64 (0 : Int), D.int IntKind.i64 (0 : Int), D.str (ByteArray.mk #[]), D.slice false [] none,
        D.slice false [] none, D.slice false [] none]
      [D.int IntKind.i64 k, D.int IntKind.i64 n, D.str s, D.slice xb eb none, D.slice xf ef none, D.slice xl el none]))
  [])
    (h8 : Ret Try.prog (tyOf Try.prog) (32 : Nat)
  [D.agg
      [D.int IntKind.i64 k, D.int IntKind.i64 n, D.str s, D.slice xb eb none, D.slice xf ef none, D.slice xl el none],
    D.agg
      [D.int IntKind.i64 k', D.int IntKind.i64 n', D.str s', D.slice xb' eb' none, D.slice xf' ef' none,
        D.slice xl' el' none]]
  []
  (D.int IntKind.i64
    (cmpV
      [D.int IntKind.i64 k, D.int IntKind.i64 n, D.str s, D.slice xb eb none, D.slice xf ef none, D.slice xl el none]
      [D.int IntKind.i64 k', D.int IntKind.i64 n', D.str s', D.slice xb' eb' none, D.slice xf' ef' none,
        D.slice xl' el' none]))
  [])
    (h9 : Ret Try.prog (tyOf Try.prog) (31 : Nat)
  [D.slice true
      [[D.int IntKind.i64 k, D.int IntKind.i64 n, D.str s, D.slice xb eb none, D.slice xf ef none, D.slice xl el none],
        [D.int IntKind.i64 k', D.int IntKind.i64 n', D.str s', D.slice xb' eb' none, D.slice xf' ef' none,
          D.slice xl' el' none]]
      none]
  []
  (D.bool
    (fwB
      [[D.int IntKind.i64 k, D.int IntKind.i64 n, D.str s, D.slice xb eb none, D.slice xf ef none, D.slice xl el none],
        [D.int IntKind.i64 k', D.int IntKind.i64 n', D.str s', D.slice xb' eb' none, D.slice xf' ef' none,
          D.slice xl' el' none]]))
  [])
    (h10 : Ret Try.prog (tyOf Try.prog) (30 : Nat) [] [] (D.bool true) []) :
    Ret Try.prog (tyOf Try.prog) 8 [D.agg [D.int IntKind.i64 k, D.int IntKind.i64 n, D.str s, D.slice xb eb none, D.slice xf ef none, D.slice xl el none],
  D.agg
    [D.int IntKind.i64 k', D.int IntKind.i64 n', D.str s', D.slice xb' eb' none, D.slice xf' ef' none,
      D.slice xl' el' none]] [] (D.bool (k == (0 : Int))) [] :=
  have b0 : fwB
    [[D.int IntKind.i64 k, D.int IntKind.i64 n, D.str s, D.slice xb eb none, D.slice xf ef none, D.slice xl el none],
      [D.int IntKind.i64 k', D.int IntKind.i64 n', D.str s', D.slice xb' eb' none, D.slice xf' ef' none,
        D.slice xl' el' none]] =
  true := h0
  have b1 : decide (classU k < classU k') = false := decide_eq_false h1
  have b2 : decide (classU k > classU k') = true := decide_eq_true h2
  have b3 : (cmpV [D.int IntKind.i64 k, D.int IntKind.i64 n, D.str s, D.slice xb eb none, D.slice xf ef none, D.slice xl el none]
      [D.int IntKind.i64 k', D.int IntKind.i64 n', D.str s', D.slice xb' eb' none, D.slice xf' ef' none,
        D.slice xl' el' none] !=
    (1 : Int)) =
  false := (by rw [bne, Bool.not_eq_false']; exact beq_iff_eq.2 h3)
  have b4 : decide (classU k < (0 : Int)) = false := decide_eq_false h4
  have b5 : (cmpV
      [D.int IntKind.i64 (0 : Int), D.int IntKind.i64 (0 : Int), D.str (ByteArray.mk #[]), D.slice false [] none,
        D.slice false [] none, D.slice false [] none]
      [D.int IntKind.i64 k, D.int IntKind.i64 n, D.str s, D.slice xb eb none, D.slice xf ef none, D.slice xl el none] ==
    (-1 : Int)) =
  false := beq_eq_false_iff_ne.2 h5
  have b6 : (cmpV
      [D.int IntKind.i64 (0 : Int), D.int IntKind.i64 (0 : Int), D.str (ByteArray.mk #[]), D.slice false [] none,
        D.slice false [] none, D.slice false [] none]
      [D.int IntKind.i64 k, D.int IntKind.i64 n, D.str s, D.slice xb eb none, D.slice xf ef none, D.slice xl el none] ==
    (0 : Int)) =
  true := beq_iff_eq.2 h6
  fin_call lki_fn lki_body lki_name (fin_ret (h := 0) (lki_ok fwB k n s xb eb xf ef xl el k' n' s' xb' eb' xf' ef' xl' el') (show outF (tyOf Try.prog) (fnAt Try.prog 8) 0 (lki_run fwB k n s xb eb xf ef xl el k' n' s' xb' eb' xf' ef' xl' el' (.code (bodyAt Try.prog 8)) [] (beginE (fnAt Try.prog 8) [D.agg [D.int IntKind.i64 k, D.int IntKind.i64 n, D.str s, D.slice xb eb none, D.slice xf ef none, D.slice xl el none],
  D.agg
    [D.int IntKind.i64 k', D.int IntKind.i64 n', D.str s', D.slice xb' eb' none, D.slice xf' ef' none,
      D.slice xl' el' none]] []) (.path [false, false, false, false, false, true, true, true, true, true, true, true, true, false, false, true, true, false, true, true, true, true, true, true, true, true, false])) = some (D.bool (k == (0 : Int)), [],
    [(cmpV
      [D.int IntKind.i64 (0 : Int), D.int IntKind.i64 (0 : Int), D.str (ByteArray.mk #[]), D.slice false [] none,
        D.slice false [] none, D.slice false [] none]
      [D.int IntKind.i64 k, D.int IntKind.i64 n, D.str s, D.slice xb eb none, D.slice xf ef none, D.slice xl el none] ==
    (-1 : Int)) =
  false,
      (cmpV
      [D.int IntKind.i64 (0 : Int), D.int IntKind.i64 (0 : Int), D.str (ByteArray.mk #[]), D.slice false [] none,
        D.slice false [] none, D.slice false [] none]
      [D.int IntKind.i64 k, D.int IntKind.i64 n, D.str s, D.slice xb eb none, D.slice xf ef none, D.slice xl el none] ==
    (0 : Int)) =
  true,
      ((cmpV
        [D.int IntKind.i64 (0 : Int), D.int IntKind.i64 (0 : Int), D.str (ByteArray.mk #[]), D.slice false [] none,
          D.slice false [] none, D.slice false [] none]
        [D.int IntKind.i64 k, D.int IntKind.i64 n, D.str s, D.slice xb eb none, D.slice xf ef none,
          D.slice xl el none] ==
      (-1 : Int)) ==
    false) =
  true,
      ((cmpV
        [D.int IntKind.i64 (0 : Int), D.int IntKind.i64 (0 : Int), D.str (ByteArray.mk #[]), D.slice false [] none,
          D.slice false [] none, D.slice false [] none]
        [D.int IntKind.i64 k, D.int IntKind.i64 n, D.str s, D.slice xb eb none, D.slice xf ef none,
          D.slice xl el none] ==
      (0 : Int)) ==
    true) =
  true,
      ((cmpV
        [D.int IntKind.i64 (0 : Int), D.int IntKind.i64 (0 : Int), D.str (ByteArray.mk #[]), D.slice false [] none,
          D.slice false [] none, D.slice false [] none]
        [D.int IntKind.i64 k, D.int IntKind.i64 n, D.str s, D.slice xb eb none, D.slice xf ef none,
          D.slice xl el none] ==
      (0 : Int)) ==
    true) =
  true,
      ((cmpV
        [D.int IntKind.i64 (0 : Int), D.int IntKind.i64 (0 : Int), D.str (ByteArray.mk #[]), D.slice false [] none,
          D.slice false [] none, D.slice false [] none]
        [D.int IntKind.i64 k, D.int IntKind.i64 n, D.str s, D.slice xb eb none, D.slice xf ef none,
          D.slice xl el none] ==
      (0 : Int)) ==
    true) =
  true,
      ((cmpV
        [D.int IntKind.i64 (0 : Int), D.int IntKind.i64 (0 : Int), D.str (ByteArray.mk #[]), D.slice false [] none,
          D.slice false [] none, D.slice false [] none]
        [D.int IntKind.i64 k, D.int IntKind.i64 n, D.str s, D.slice xb eb none, D.slice xf ef none,
          D.slice xl el none] ==
      (-1 : Int)) ==
    false) =
  true,
      ((cmpV
        [D.int IntKind.i64 (0 : Int), D.int IntKind.i64 (0 : Int), D.str (ByteArray.mk #[]), D.slice false [] none,
          D.slice false [] none, D.slice false [] none]
        [D.int IntKind.i64 k, D.int IntKind.i64 n, D.str s, D.slice xb eb none, D.slice xf ef none,
          D.slice xl el none] ==
      (-1 : Int)) ==
    false) =
  true,
      ((cmpV
        [D.int IntKind.i64 (0 : Int), D.int IntKind.i64 (0 : Int), D.str (ByteArray.mk #[]), D.slice false [] none,
          D.slice false [] none, D.slice false [] none]
        [D.int IntKind.i64 k, D.int IntKind.i64 n, D.str s, D.slice xb eb none, D.slice xf ef none,
          D.slice xl el none] ==
      (-1 : Int)) ==
    false) =
  true,
      decide (classU k < (0 : Int)) = false,
      (decide (classU k < (0 : Int)) == false) = true,
      (decide (classU k < (0 : Int)) == false) = true,
      Ret Try.prog (tyOf Try.prog) (32 : Nat)
  [D.agg
      [D.int IntKind.i64 (0 : Int), D.int IntKind.i64 (0 : Int), D.str (ByteArray.mk #[]), D.slice false [] none,
        D.slice false [] none, D.slice false [] none],
    D.agg
      [D.int IntKind.i64 k, D.int IntKind.i64 n, D.str s, D.slice xb eb none, D.slice xf ef none, D.slice xl el none]]
  []
  (D.int IntKind.i64
    (cmpV
      [D.int IntKind.i64 (0 : Int), D.int IntKind.i64 (0 : Int), D.str (ByteArray.mk #[]), D.slice false [] none,
        D.slice false [] none, D.slice false [] none]
      [D.int IntKind.i64 k, D.int IntKind.i64 n, D.str s, D.slice xb eb none, D.slice xf ef none, D.slice xl el none]))
  [],
      (cmpV [D.int IntKind.i64 k, D.int IntKind.i64 n, D.str s, D.slice xb eb none, D.slice xf ef none, D.slice xl el none]
      [D.int IntKind.i64 k', D.int IntKind.i64 n', D.str s', D.slice xb' eb' none, D.slice xf' ef' none,
        D.slice xl' el' none] !=
    (1 : Int)) =
  false,
      false = false,
      decide (classU k > classU k') = true,
      true = true,
      (decide (classU k > classU k') == true) = true,
      (decide (classU k > classU k') == true) = true,
      true = true,
      true = true,
      true = true,
      true = true,
      decide (classU k < classU k') = false,
      (decide (classU k < classU k') == true) = false,
      (decide (classU k < classU k') == true) = false,
      Ret Try.prog (tyOf Try.prog) (32 : Nat)
  [D.agg
      [D.int IntKind.i64 k, D.int IntKind.i64 n, D.str s, D.slice xb eb none, D.slice xf ef none, D.slice xl el none],
    D.agg
      [D.int IntKind.i64 k', D.int IntKind.i64 n', D.str s', D.slice xb' eb' none, D.slice xf' ef' none,
        D.slice xl' el' none]]
  []
  (D.int IntKind.i64
    (cmpV
      [D.int IntKind.i64 k, D.int IntKind.i64 n, D.str s, D.slice xb eb none, D.slice xf ef none, D.slice xl el none]
      [D.int IntKind.i64 k', D.int IntKind.i64 n', D.str s', D.slice xb' eb' none, D.slice xf' ef' none,
        D.slice xl' el' none]))
  [],
      Ret Try.prog (tyOf Try.prog) (34 : Nat) [D.int IntKind.i64 k'] [] (D.int IntKind.i64 (classU k')) [],
      Ret Try.prog (tyOf Try.prog) (34 : Nat) [D.int IntKind.i64 k] [] (D.int IntKind.i64 (classU k)) [],
      (!fwB
      [[D.int IntKind.i64 k, D.int IntKind.i64 n, D.str s, D.slice xb eb none, D.slice xf ef none, D.slice xl el none],
        [D.int IntKind.i64 k', D.int IntKind.i64 n', D.str s', D.slice xb' eb' none, D.slice xf' ef' none,
          D.slice xl' el' none]]) =
  false,
      Ret Try.prog (tyOf Try.prog) (31 : Nat)
  [D.slice true
      [[D.int IntKind.i64 k, D.int IntKind.i64 n, D.str s, D.slice xb eb none, D.slice xf ef none, D.slice xl el none],
        [D.int IntKind.i64 k', D.int IntKind.i64 n', D.str s', D.slice xb' eb' none, D.slice xf' ef' none,
          D.slice xl' el' none]]
      none]
  []
  (D.bool
    (fwB
      [[D.int IntKind.i64 k, D.int IntKind.i64 n, D.str s, D.slice xb eb none, D.slice xf ef none, D.slice xl el none],
        [D.int IntKind.i64 k', D.int IntKind.i64 n', D.str s', D.slice xb' eb' none, D.slice xf' ef' none,
          D.slice xl' el' none]]))
  [],
      false = false,
      Ret Try.prog (tyOf Try.prog) (30 : Nat) [] [] (D.bool true) []]) by kernel_rfl)
    (all_cons.2 ⟨b5, all_cons.2 ⟨b6, all_cons.2 ⟨(by rw [b5]; rfl), all_cons.2 ⟨(by rw [b6]; rfl), all_cons.2 ⟨(by rw [b6]; rfl), all_cons.2 ⟨(by rw [b6]; rfl), all_cons.2 ⟨(by rw [b5]; rfl), all_cons.2 ⟨(by rw [b5]; rfl), all_cons.2 ⟨(by rw [b5]; rfl), all_cons.2 ⟨b4, all_cons.2 ⟨(by rw [b4]; rfl), all_cons.2 ⟨(by rw [b4]; rfl), all_cons.2 ⟨h7, all_cons.2 ⟨b3, all_cons.2 ⟨rfl, all_cons.2 ⟨b2, all_cons.2 ⟨rfl, all_cons.2 ⟨(by rw [b2]; rfl), all_cons.2 ⟨(by rw [b2]; rfl), all_cons.2 ⟨rfl, all_cons.2 ⟨rfl, all_cons.2 ⟨rfl, all_cons.2 ⟨rfl, all_cons.2 ⟨b1, all_cons.2 ⟨(by rw [b1]; rfl), all_cons.2 ⟨(by rw [b1]; rfl), all_cons.2 ⟨h8, all_cons.2 ⟨(cls34 _), all_cons.2 ⟨(cls34 _), all_cons.2 ⟨(by rw [b0]; rfl), all_cons.2 ⟨h9, all_cons.2 ⟨rfl, all_cons.2 ⟨h10, all_nil.2 trivial⟩⟩⟩⟩⟩⟩⟩⟩⟩⟩⟩⟩⟩⟩⟩⟩⟩⟩⟩⟩⟩⟩⟩⟩⟩⟩⟩⟩⟩⟩⟩⟩⟩))

theorem lki_in_9 {fwB : Es → Bool} {k : Int} {n : Int} {s : ByteArray} {xb : Bool} {eb : Es} {xf : Bool} {ef : Es} {xl : Bool} {el : Es} {k' : Int} {n' : Int} {s' : ByteArray} {xb' : Bool} {eb' : Es} {xf' : Bool} {ef' : Es} {xl' : Bool} {el' : Es}
    (h0 : fwB
    [[D.int IntKind.i64 k, D.int IntKind.i64 n, D.str s, D.slice xb eb none, D.slice xf ef none, D.slice xl el none],
      [D.int IntKind.i64 k', D.int IntKind.i64 n', D.str s', D.slice xb' eb' none, D.slice xf' ef' none,
        D.slice xl' el' none]] =
  true)
    (h1 : ¬ (classU k < classU k'))
    (h2 : ¬ (classU k > classU k'))
    (h3 : classU k < (0 : Int))
    (h4 : Ret Try.prog (tyOf Try.prog) (32 : Nat)
  [D.agg
      [D.int IntKind.i64 (0 : Int), D.int IntKind.i64 (0 : Int), D.str (ByteArray.mk #[]), D.slice false [] none,
        D.slice false [] none, D.slice false [] none],
    D.agg
      [D.int IntKind.i64 k, D.int IntKind.i64 n, D.str s, D.slice xb eb none, D.slice xf ef none, D.slice xl el none]]
  []
  (D.int IntKind.i64
    (cmpV
      [D.int IntKind.i64 (0 : Int), D.int IntKind.i64 (0 : Int), D.str (ByteArray.mk #[]), D.slice false [] none,
        D.slice false [] none, D.slice false [] none]
      [D.int IntKind.i64 k, D.int IntKind.i64 n, D.str s, D.slice xb eb none, D.slice xf ef none, D.slice xl el none]))
  [])
    (h5 : Ret Try.prog (tyOf Try.prog) (32 : Nat)
  [D.agg
      [D.int IntKind.i64 k, D.int IntKind.i64 n, D.str s, D.slice xb eb none, D.slice xf ef none, D.slice xl el none],
    D.agg
      [D.int IntKind.i64 k', D.int IntKind.i64 n', D.str s', D.slice xb' eb' none, D.slice xf' ef' none,
        D.slice xl' el' none]]
  []
  (D.int IntKind.i64
    (cmpV
      [D.int IntKind.i64 k, D.int IntKind.i64 n, D.str s, D.slice xb eb none, D.slice xf ef none, D.slice xl el none]
      [D.int IntKind.i64 k', D.int IntKind.i64 n', D.str s', D.slice xb' eb' none, D.slice xf' ef' none,
        D.slice xl' el' none]))
  [])
    (h6 : Ret Try.prog (tyOf Try.prog) (31 : Nat)
  [D.slice true
      [[D.int IntKind.i64 k, D.int IntKind.i64 n, D.str s, D.slice xb eb none, D.slice xf ef none, D.slice xl el none],
        [D.int IntKind.i64 k', D.int IntKind.i64 n', D.str s', D.slice xb' eb' none, D.slice xf' ef' none,
          D.slice xl' el' none]]
      none]
  []
  (D.bool
    (fwB
      [[D.int IntKind.i64 k, D.int IntKind.i64 n, D.str s, D.slice xb eb none, D.slice xf ef none, D.slice xl el none],
        [D.int IntKind.i64 k', D.int IntKind.i64 n', D.str s', D.slice xb' eb' none, D.slice xf' ef' none,
          D.slice xl' el' none]]))
  [])
    (h7 : Ret Try.prog (tyOf Try.prog) (30 : Nat) [] [] (D.bool true) []) :
    Ret Try.prog (tyOf Try.prog) 8 [D.agg [D.int IntKind.i64 k, D.int IntKind.i64 n, D.str s, D.slice xb eb none, D.slice xf ef none, D.slice xl el none],
  D.agg
    [D.int IntKind.i64 k', D.int IntKind.i64 n', D.str s', D.slice xb' eb' none, D.slice xf' ef' none,
      D.slice xl' el' none]] [] (D.bool true) [] :=
  have b0 : fwB
    [[D.int IntKind.i64 k, D.int IntKind.i64 n, D.str s, D.slice xb eb none, D.slice xf ef none, D.slice xl el none],
      [D.int IntKind.i64 k', D.int IntKind.i64 n', D.str s', D.slice xb' eb' none, D.slice xf' ef' none,
        D.slice xl' el' none]] =
  true := h0
  have b1 : decide (classU k < classU k') = false := decide_eq_false h1
  have b2 : decide (classU k > classU k') = false := decide_eq_false h2
  have b3 : decide (classU k < (0 : Int)) = true := decide_eq_true h3
  fin_call lki_fn lki_body lki_name (fin_ret (h := 0) (lki_ok fwB k n s xb eb xf ef xl el k' n' s' xb' eb' xf' ef' xl' el') (show outF (tyOf Try.prog) (fnAt Try.prog 8) 0 (lki_run fwB k n s xb eb xf ef xl el k' n' s' xb' eb' xf' ef' xl' el' (.code (bodyAt Try.prog 8)) [] (beginE (fnAt Try.prog 8) [D.agg [D.int IntKind.i64 k, D.int IntKind.i64 n, D.str s, D.slice xb eb none, D.slice xf ef none, D.slice xl el none],
  D.agg
    [D.int IntKind.i64 k', D.int IntKind.i64 n', D.str s', D.slice xb' eb' none, D.slice xf' ef' none,
      D.slice xl' el' none]] []) (.path [false, false, false, false, false, true, true, true, true, false, false, true, false, false, false, false, false, true, false, false, false, false, true])) = some (D.bool true, [],
    [true = true,
      false = false,
      false = false,
      false = false,
      false = false,
      decide (classU k < (0 : Int)) = true,
      (decide (classU k < (0 : Int)) == false) = false,
      (decide (classU k < (0 : Int)) == false) = false,
      Ret Try.prog (tyOf Try.prog) (32 : Nat)
  [D.agg
      [D.int IntKind.i64 (0 : Int), D.int IntKind.i64 (0 : Int), D.str (ByteArray.mk #[]), D.slice false [] none,
        D.slice false [] none, D.slice false [] none],
    D.agg
      [D.int IntKind.i64 k, D.int IntKind.i64 n, D.str s, D.slice xb eb none, D.slice xf ef none, D.slice xl el none]]
  []
  (D.int IntKind.i64
    (cmpV
      [D.int IntKind.i64 (0 : Int), D.int IntKind.i64 (0 : Int), D.str (ByteArray.mk #[]), D.slice false [] none,
        D.slice false [] none, D.slice false [] none]
      [D.int IntKind.i64 k, D.int IntKind.i64 n, D.str s, D.slice xb eb none, D.slice xf ef none, D.slice xl el none]))
  [],
      false = false,
      false = false,
      decide (classU k > classU k') = false,
      true = true,
      (decide (classU k > classU k') == true) = false,
      (decide (classU k > classU k') == true) = false,
      true = true,
      true = true,
      true = true,
      true = true,
      decide (classU k < classU k') = false,
      (decide (classU k < classU k') == true) = false,
      (decide (classU k < classU k') == true) = false,
      Ret Try.prog (tyOf Try.prog) (32 : Nat)
  [D.agg
      [D.int IntKind.i64 k, D.int IntKind.i64 n, D.str s, D.slice xb eb none, D.slice xf ef none, D.slice xl el none],
    D.agg
      [D.int IntKind.i64 k', D.int IntKind.i64 n', D.str s', D.slice xb' eb' none, D.slice xf' ef' none,
        D.slice xl' el' none]]
  []
  (D.int IntKind.i64
    (cmpV
      [D.int IntKind.i64 k, D.int IntKind.i64 n, D.str s, D.slice xb eb none, D.slice xf ef none, D.slice xl el none]
      [D.int IntKind.i64 k', D.int IntKind.i64 n', D.str s', D.slice xb' eb' none, D.slice xf' ef' none,
        D.slice xl' el' none]))
  [],
      Ret Try.prog (tyOf Try.prog) (34 : Nat) [D.int IntKind.i64 k'] [] (D.int IntKind.i64 (classU k')) [],
      Ret Try.prog (tyOf Try.prog) (34 : Nat) [D.int IntKind.i64 k] [] (D.int IntKind.i64 (classU k)) [],
      (!fwB
      [[D.int IntKind.i64 k, D.int IntKind.i64 n, D.str s, D.slice xb eb none, D.slice xf ef none, D.slice xl el none],
        [D.int IntKind.i64 k', D.int IntKind.i64 n', D.str s', D.slice xb' eb' none, D.slice xf' ef' none,
          D.slice xl' el' none]]) =
  false,
      Ret Try.prog (tyOf Try.prog) (31 : Nat)
  [D.slice true
      [[D.int IntKind.i64 k, D.int IntKind.i64 n, D.str s, D.slice xb eb none, D.slice xf ef none, D.slice xl el none],
        [D.int IntKind.i64 k', D.int IntKind.i64 n', D.str s', D.slice xb' eb' none, D.slice xf' ef' none,
          D.slice xl' el' none]]
      none]
  []
  (D.bool
    (fwB
      [[D.int IntKind.i64 k, D.int IntKind.i64 n, D.str s, D.slice xb eb none, D.slice xf ef none, D.slice xl el none],
        [D.int IntKind.i64 k', D.int IntKind.i64 n', D.str s', D.slice xb' eb' none, D.slice xf' ef' none,
          D.slice xl' el' none]]))
  [],
      false = false,
      Ret Try.prog (tyOf Try.prog) (30 : Nat) [] [] (D.bool true) []]) by kernel_rfl)
    (all_cons.2 ⟨rfl, all_cons.2 ⟨rfl, all_cons.2 ⟨rfl, all_cons.2 ⟨rfl, all_cons.2 ⟨rfl, all_cons.2 ⟨b3, all_cons.2 ⟨(by rw [b3]; rfl), all_cons.2 ⟨(by rw [b3]; rfl), all_cons.2 ⟨h4, all_cons.2 ⟨rfl, all_cons.2 ⟨rfl, all_cons.2 ⟨b2, all_cons.2 ⟨rfl, all_cons.2 ⟨(by rw [b2]; rfl), all_cons.2 ⟨(by rw [b2]; rfl), all_cons.2 ⟨rfl, all_cons.2 ⟨rfl, all_cons.2 ⟨rfl, all_cons.2 ⟨rfl, all_cons.2 ⟨b1, all_cons.2 ⟨(by rw [b1]; rfl), all_cons.2 ⟨(by rw [b1]; rfl), all_cons.2 ⟨h5, all_cons.2 ⟨(cls34 _), all_cons.2 ⟨(cls34 _), all_cons.2 ⟨(by rw [b0]; rfl), all_cons.2 ⟨h6, all_cons.2 ⟨rfl, all_cons.2 ⟨h7, all_nil.2 trivial⟩⟩⟩⟩⟩⟩⟩⟩⟩⟩⟩⟩⟩⟩⟩⟩⟩⟩⟩⟩⟩⟩⟩⟩⟩⟩⟩⟩⟩))

theorem lki_in_10 {fwB : Es → Bool} {k : Int} {n : Int} {s : ByteArray} {xb : Bool} {eb : Es} {xf : Bool} {ef : Es} {xl : Bool} {el : Es} {k' : Int} {n' : Int} {s' : ByteArray} {xb' : Bool} {eb' : Es} {xf' : Bool} {ef' : Es} {xl' : Bool} {el' : Es}
    (h0 : fwB
    [[D.int IntKind.i64 k, D.int IntKind.i64 n, D.str s, D.slice xb eb none, D.slice xf ef none, D.slice xl el none],
      [D.int IntKind.i64 k', D.int IntKind.i64 n', D.str s', D.slice xb' eb' none, D.slice xf' ef' none,
        D.slice xl' el' none]] =
  true)
    (h1 : ¬ (classU k < classU k'))
    (h2 : ¬ (classU k > classU k'))
    (h3 : ¬ (classU k < (0 : Int)))
    (h4 : cmpV
  [D.int IntKind.i64 (0 : Int), D.int IntKind.i64 (0 : Int), D.str (ByteArray.mk #[]), D.slice false [] none,
    D.slice false [] none, D.slice false [] none]
  [D.int IntKind.i64 k, D.int IntKind.i64 n, D.str s, D.slice xb eb none, D.slice xf ef none, D.slice xl el none] = (-1 : Int))
    (h5 : Ret Try.prog (tyOf Try.prog) (32 : Nat)
  [D.agg
      [D.int IntKind.i64 (0 : Int), D.int IntKind.i64 (0 : Int), D.str (ByteArray.mk #[]), D.slice false [] none,
        D.slice false [] none, D.slice false [] none],
    D.agg
      [D.int IntKind.i64 k, D.int IntKind.i64 n, D.str s, D.slice xb eb none, D.slice xf ef none, D.slice xl el none]]
  []
  (D.int IntKind.i64
    (cmpV
      [D.int IntKind.i64 (0 : Int), D.int IntKind.i64 (0 : Int), D.str (ByteArray.mk #[]), D.slice false [] none,
        D.slice false [] none, D.slice false [] none]
      [D.int IntKind.i64 k, D.int IntKind.i64 n, D.str s, D.slice xb eb none, D.slice xf ef none, D.slice xl el none]))
  [])
    (h6 : Ret Try.prog (tyOf Try.prog) (32 : Nat)
  [D.agg
      [D.int IntKind.i64 k, D.int IntKind.i64 n, D.str s, D.slice xb eb none, D.slice xf ef none, D.slice xl el none],
    D.agg
      [D.int IntKind.i64 k', D.int IntKind.i64 n', D.str s', D.slice xb' eb' none, D.slice xf' ef' none,
        D.slice xl' el' none]]
  []
  (D.int IntKind.i64
    (cmpV
      [D.int IntKind.i64 k, D.int IntKind.i64 n, D.str s, D.slice xb eb none, D.slice xf ef none, D.slice xl el none]
      [D.int IntKind.i64 k', D.int IntKind.i64 n', D.str s', D.slice xb' eb' none, D.slice xf' ef' none,
        D.slice xl' el' none]))
  [])
    (h7 : Ret Try.prog (tyOf Try.prog) (31 : Nat)
  [D.slice true
      [[D.int IntKind.i64 k, D.int IntKind.i64 n, D.str s, D.slice xb eb none, D.slice xf ef none, D.slice xl el none],
        [D.int IntKind.i64 k', D.int IntKind.i64 n', D.str s', D.slice xb' eb' none, D.slice xf' ef' none,
          D.slice xl' el' none]]
      none]
  []
  (D.bool
    (fwB
      [[D.int IntKind.i64 k, D.int IntKind.i64 n, D.str s, D.slice xb eb none, D.slice xf ef none, D.slice xl el none],
        [D.int IntKind.i64 k', D.int IntKind.i64 n', D.str s', D.slice xb' eb' none, D.slice xf' ef' none,
          D.slice xl' el' none]]))
  [])
    (h8 : Ret Try.prog (tyOf Try.prog) (30 : Nat) [] [] (D.bool true) []) :
    Ret Try.prog (tyOf Try.prog) 8 [D.agg [D.int IntKind.i64 k, D.int IntKind.i64 n, D.str s, D.slice xb eb none, D.slice xf ef none, D.slice xl el none],
  D.agg
    [D.int IntKind.i64 k', D.int IntKind.i64 n', D.str s', D.slice xb' eb' none, D.slice xf' ef' none,
      D.slice xl' el' none]] [] (D.bool true) [] :=
  have b0 : fwB
    [[D.int IntKind.i64 k, D.int IntKind.i64 n, D.str s, D.slice xb eb none, D.slice xf ef none, D.slice xl el none],
      [D.int IntKind.i64 k', D.int IntKind.i64 n', D.str s', D.slice xb' eb' none, D.slice xf' ef' none,
        D.slice xl' el' none]] =
  true := h0
  have b1 : decide (classU k < classU k') = false := decide_eq_false h1
  have b2 : decide (classU k > classU k') = false := decide_eq_false h2
  have b3 : decide (classU k < (0 : Int)) = false := decide_eq_false h3
  have b4 : (cmpV
      [D.int IntKind.i64 (0 : Int), D.int IntKind.i64 (0 : Int), D.str (ByteArray.mk #[]), D.slice false [] none,
        D.slice false [] none, D.slice false [] none]
      [D.int IntKind.i64 k, D.int IntKind.i64 n, D.str s, D.slice xb eb none, D.slice xf ef none, D.slice xl el none] ==
    (-1 : Int)) =
  true := beq_iff_eq.2 h4
  fin_call lki_fn lki_body lki_name (fin_ret (h := 0) (lki_ok fwB k n s xb eb xf ef xl el k' n' s' xb' eb' xf' ef' xl' el') (show outF (tyOf Try.prog) (fnAt Try.prog 8) 0 (lki_run fwB k n s xb eb xf ef xl el k' n' s' xb' eb' xf' ef' xl' el' (.code (bodyAt Try.prog 8)) [] (beginE (fnAt Try.prog 8) [D.agg [D.int IntKind.i64 k, D.int IntKind.i64 n, D.str s, D.slice xb eb none, D.slice xf ef none, D.slice xl el none],
  D.agg
    [D.int IntKind.i64 k', D.int IntKind.i64 n', D.str s', D.slice xb' eb' none, D.slice xf' ef' none,
      D.slice xl' el' none]] []) (.path [false, false, false, false, false, true, true, true, true, false, false, true, false, false, false, true, true, false, false, false, false, false, true])) = some (D.bool true, [],
    [(cmpV
      [D.int IntKind.i64 (0 : Int), D.int IntKind.i64 (0 : Int), D.str (ByteArray.mk #[]), D.slice false [] none,
        D.slice false [] none, D.slice false [] none]
      [D.int IntKind.i64 k, D.int IntKind.i64 n, D.str s, D.slice xb eb none, D.slice xf ef none, D.slice xl el none] ==
    (-1 : Int)) =
  true,
      ((cmpV
        [D.int IntKind.i64 (0 : Int), D.int IntKind.i64 (0 : Int), D.str (ByteArray.mk #[]), D.slice false [] none,
          D.slice false [] none, D.slice false [] none]
        [D.int IntKind.i64 k, D.int IntKind.i64 n, D.str s, D.slice xb eb none, D.slice xf ef none,
          D.slice xl el none] ==
      (-1 : Int)) ==
    false) =
  false,
      ((cmpV
        [D.int IntKind.i64 (0 : Int), D.int IntKind.i64 (0 : Int), D.str (ByteArray.mk #[]), D.slice false [] none,
          D.slice false [] none, D.slice false [] none]
        [D.int IntKind.i64 k, D.int IntKind.i64 n, D.str s, D.slice xb eb none, D.slice xf ef none,
          D.slice xl el none] ==
      (-1 : Int)) ==
    false) =
  false,
      ((cmpV
        [D.int IntKind.i64 (0 : Int), D.int IntKind.i64 (0 : Int), D.str (ByteArray.mk #[]), D.slice false [] none,
          D.slice false [] none, D.slice false [] none]
        [D.int IntKind.i64 k, D.int IntKind.i64 n, D.str s, D.slice xb eb none, D.slice xf ef none,
          D.slice xl el none] ==
      (-1 : Int)) ==
    false) =
  false,
      ((cmpV
        [D.int IntKind.i64 (0 : Int), D.int IntKind.i64 (0 : Int), D.str (ByteArray.mk #[]), D.slice false [] none,
          D.slice false [] none, D.slice false [] none]
        [D.int IntKind.i64 k, D.int IntKind.i64 n, D.str s, D.slice xb eb none, D.slice xf ef none,
          D.slice xl el none] ==
      (-1 : Int)) ==
    false) =
  false,
      decide (classU k < (0 : Int)) = false,
      (decide (classU k < (0 : Int)) == false) = true,
      (decide (classU k < (0 : Int)) == false) = true,
      Ret Try.prog (tyOf Try.prog) (32 : Nat)
  [D.agg
      [D.int IntKind.i64 (0 : Int), D.int IntKind.i64 (0 : Int), D.str (ByteArray.mk #[]), D.slice false [] none,
        D.slice false [] none, D.slice false [] none],
    D.agg
      [D.int IntKind.i64 k, D.int IntKind.i64 n, D.str s, D.slice xb eb none, D.slice xf ef none, D.slice xl el none]]
  []
  (D.int IntKind.i64
    (cmpV
      [D.int IntKind.i64 (0 : Int), D.int IntKind.i64 (0 : Int), D.str (ByteArray.mk #[]), D.slice false [] none,
        D.slice false [] none, D.slice false [] none]
      [D.int IntKind.i64 k, D.int IntKind.i64 n, D.str s, D.slice xb eb none, D.slice xf ef none, D.slice xl el none]))
  [],
      false = false,
      false = false,
      decide (classU k > classU k') = false,
      true = true,
      (decide (classU k > classU k') == true) = false,
      (decide (classU k > classU k') == true) = false,
      true = true,
      true = true,
      true = true,
      true = true,
      decide (classU k < classU k') = false,
      (decide (classU k < classU k') == true) = false,
      (decide (classU k < classU k') == true) = false,
      Ret Try.prog (tyOf Try.prog) (32 : Nat)
  [D.agg
      [D.int IntKind.i64 k, D.int IntKind.i64 n, D.str s, D.slice xb eb none, D.slice xf ef none, D.slice xl el none],
    D.agg
      [D.int IntKind.i64 k', D.int IntKind.i64 n', D.str s', D.slice xb' eb' none, D.slice xf' ef' none,
        D.slice xl' el' none]]
  []
  (D.int IntKind.i64
    (cmpV
      [D.int IntKind.i64 k, D.int IntKind.i64 n, D.str s, D.slice xb eb none, D.slice xf ef none, D.slice xl el none]
      [D.int IntKind.i64 k', D.int IntKind.i64 n', D.str s', D.slice xb' eb' none, D.slice xf' ef' none,
        D.slice xl' el' none]))
  [],
      Ret Try.prog (tyOf Try.prog) (34 : Nat) [D.int IntKind.i64 k'] [] (D.int IntKind.i64 (classU k')) [],
      Ret Try.prog (tyOf Try.prog) (34 : Nat) [D.int IntKind.i64 k] [] (D.int IntKind.i64 (classU k)) [],
      (!fwB
      [[D.int IntKind.i64 k, D.int IntKind.i64 n, D.str s, D.slice xb eb none, D.slice xf ef none, D.slice xl el none],
        [D.int IntKind.i64 k', D.int IntKind.i64 n', D.str s', D.slice xb' eb' none, D.slice xf' ef' none,
          D.slice xl' el' none]]) =
  false,
      Ret Try.prog (tyOf Try.prog) (31 : Nat)
  [D.slice true
      [[D.int IntKind.i64 k, D.int IntKind.i64 n, D.str s, D.slice xb eb none, D.slice xf ef none, D.slice xl el none],
        [D.int IntKind.i64 k', D.int IntKind.i64 n', D.str s', D.slice xb' eb' none, D.slice xf' ef' none,
          D.slice xl' el' none]]
      none]
  []
  (D.bool
    (fwB
      [[D.int IntKind.i64 k, D.int IntKind.i64 n, D.str s, D.slice xb eb none, D.slice xf ef none, D.slice xl el none],
        [D.int IntKind.i64 k', D.int IntKind.i64 n', D.str s', D.slice xb' eb' none, D.slice xf' ef' none,
          D.slice xl' el' none]]))
  [],
      false = false,
      Ret Try.prog (tyOf Try.prog) (30 : Nat) [] [] (D.bool true) []]) by kernel_rfl)
    (all_cons.2 ⟨b4, all_cons.2 ⟨(by rw [b4]; rfl), all_cons.2 ⟨(by rw [b4]; rfl), all_cons.2 ⟨(by rw [b4]; rfl), all_cons.2 ⟨(by rw [b4]; rfl), all_cons.2 ⟨b3, all_cons.2 ⟨(by rw [b3]; rfl), all_cons.2 ⟨(by rw [b3]; rfl), all_cons.2 ⟨h5, all_cons.2 ⟨rfl, all_cons.2 ⟨rfl, all_cons.2 ⟨b2, all_cons.2 ⟨rfl, all_cons.2 ⟨(by rw [b2]; rfl), all_cons.2 ⟨(by rw [b2]; rfl), all_cons.2 ⟨rfl, all_cons.2 ⟨rfl, all_cons.2 ⟨rfl, all_cons.2 ⟨rfl, all_cons.2 ⟨b1, all_cons.2 ⟨(by rw [b1]; rfl), all_cons.2 ⟨(by rw [b1]; rfl), all_cons.2 ⟨h6, all_cons.2 ⟨(cls34 _), all_cons.2 ⟨(cls34 _), all_cons.2 ⟨(by rw [b0]; rfl), all_cons.2 ⟨h7, all_cons.2 ⟨rfl, all_cons.2 ⟨h8, all_nil.2 trivial⟩⟩⟩⟩⟩⟩⟩⟩⟩⟩⟩⟩⟩⟩⟩⟩⟩⟩⟩⟩⟩⟩⟩⟩⟩⟩⟩⟩⟩))

theorem lki_in_11 {fwB : Es → Bool} {k : Int} {n : Int} {s : ByteArray} {xb : Bool} {eb : Es} {xf : Bool} {ef : Es} {xl : Bool} {el : Es} {k' : Int} {n' : Int} {s' : ByteArray} {xb' : Bool} {eb' : Es} {xf' : Bool} {ef' : Es} {xl' : Bool} {el' : Es}
    (h0 : fwB
    [[D.int IntKind.i64 k, D.int IntKind.i64 n, D.str s, D.slice xb eb none, D.slice xf ef none, D.slice xl el none],
      [D.int IntKind.i64 k', D.int IntKind.i64 n', D.str s', D.slice xb' eb' none, D.slice xf' ef' none,
        D.slice xl' el' none]] =
  true)
    (h1 : ¬ (classU k < classU k'))
    (h2 : ¬ (classU k > classU k'))
    (h3 : ¬ (classU k < (0 : Int)))
    (h4 : cmpV
  [D.int IntKind.i64 (0 : Int), D.int IntKind.i64 (0 : Int), D.str (ByteArray.mk #[]), D.slice false [] none,
    D.slice false [] none, D.slice false [] none]
  [D.int IntKind.i64 k, D.int IntKind.i64 n, D.str s, D.slice xb eb none, D.slice xf ef none, D.slice xl el none] ≠ (-1 : Int))
    (h5 : cmpV
  [D.int IntKind.i64 (0 : Int), D.int IntKind.i64 (0 : Int), D.str (ByteArray.mk #[]), D.slice false [] none,
    D.slice false [] none, D.slice false [] none]
  [D.int IntKind.i64 k, D.int IntKind.i64 n, D.str s, D.slice xb eb none, D.slice xf ef none, D.slice xl el none] = (0 : Int))
    (h6 : Ret Try.prog (tyOf Try.prog) (32 : Nat)
  [D.agg
      [D.int IntKind.i64 (0 : Int), D.int IntKind.i64 (0 : Int), D.str (ByteArray.mk #[]), D.slice false [] none,
        D.slice false [] none, D.slice false [] none],
    D.agg
      [D.int IntKind.i64 k, D.int IntKind.i64 n, D.str s, D.slice xb eb none, D.slice xf ef none, D.slice xl el none]]
  []
  (D.int IntKind.i64
    (cmpV
      [D.int IntKind.i64 (0 : Int), D.int IntKind.i64 (0 : Int), D.str (ByteArray.mk #[]), D.slice false [] none,
        D.slice false [] none, D.slice false [] none]
      [D.int IntKind.i64 k, D.int IntKind.i64 n, D.str s, D.slice xb eb none, D.slice xf ef none, D.slice xl el none]))
  [])
    (h7 : Ret Try.prog (tyOf Try.prog) (32 : Nat)
  [D.agg
      [D.int IntKind.i64 k, D.int IntKind.i64 n, D.str s, D.slice xb eb none, D.slice xf ef none, D.slice xl el none],
    D.agg
      [D.int IntKind.i64 k', D.int IntKind.i64 n', D.str s', D.slice xb' eb' none, D.slice xf' ef' none,
        D.slice xl' el' none]]
  []
  (D.int IntKind.i64
    (cmpV
      [D.int IntKind.i64 k, D.int IntKind.i64 n, D.str s, D.slice xb eb none, D.slice xf ef none, D.slice xl el none]
      [D.int IntKind.i64 k', D.int IntKind.i64 n', D.str s', D.slice xb' eb' none, D.slice xf' ef' none,
        D.slice xl' el' none]))
  [])
    (h8 : Ret Try.prog (tyOf Try.prog) (31 : Nat)
  [D.slice true
      [[D.int IntKind.i64 k, D.int IntKind.i64 n, D.str s, D.slice xb eb none, D.slice xf ef none, D.slice xl el none],
        [D.int IntKind.i64 k', D.int IntKind.i64 n', D.str s', D.slice xb' eb' none, D.slice xf' ef' none,
          D.slice xl' el' none]]
      none]
  []
  (D.bool
    (fwB
      [[D.int IntKind.i64 k, D.int IntKind.i64 n, D.str s, D.slice xb eb none, D.slice xf ef none, D.slice xl el none],
        [D.int IntKind.i64 k', D.int IntKind.i64 n', D.str s', D.slice xb' eb' none, D.slice xf' ef' none,
          D.slice xl' el' none]]))
  [])
    (h9 : Ret Try.prog (tyOf Try.prog) (30 : Nat) [] [] (D.bool true) []) :
    Ret Try.prog (tyOf Try.prog) 8 [D.agg [D.int IntKind.i64 k, D.int IntKind.i64 n, D.str s, D.slice xb eb none, D.slice xf ef none, D.slice xl el none],
  D.agg
    [D.int IntKind.i64 k', D.int IntKind.i64 n', D.str s', D.slice xb' eb' none, D.slice xf' ef' none,
      D.slice xl' el' none]] [] (D.bool (k == (0 : Int))) [] :=
  have b0 : fwB
    [[D.int IntKind.i64 k, D.int IntKind.i64 n, D.str s, D.slice xb eb none, D.slice xf ef none, D.slice xl el none],
      [D.int IntKind.i64 k', D.int IntKind.i64 n', D.str s', D.slice xb' eb' none, D.slice xf' ef' none,
        D.slice xl' el' none]] =
  true := h0
  have b1 : decide (classU k < classU k') = false := decide_eq_false h1
  have b2 : decide (classU k > classU k') = false := decide_eq_false h2
  have b3 : decide (classU k < (0 : Int)) = false := decide_eq_false h3
  have b4 : (cmpV
      [D.int IntKind.i64 (0 : Int), D.int IntKind.i64 (0 : Int), D.str (ByteArray.mk #[]), D.slice false [] none,
        D.slice false [] none, D.slice false [] none]
      [D.int IntKind.i64 k, D.int IntKind.i64 n, D.str s, D.slice xb eb none, D.slice xf ef none, D.slice xl el none] ==
    (-1 : Int)) =
  false := beq_eq_false_iff_ne.2 h4
  have b5 : (cmpV
      [D.int IntKind.i64 (0 : Int), D.int IntKind.i64 (0 : Int), D.str (ByteArray.mk #[]), D.slice false [] none,
        D.slice false [] none, D.slice false [] none]
      [D.int IntKind.i64 k, D.int IntKind.i64 n, D.str s, D.slice xb eb none, D.slice xf ef none, D.slice xl el none] ==
    (0 : Int)) =
  true := beq_iff_eq.2 h5
  fin_call lki_fn lki_body lki_name (fin_ret (h := 0) (lki_ok fwB k n s xb eb xf ef xl el k' n' s' xb' eb' xf' ef' xl' el') (show outF (tyOf Try.prog) (fnAt Try.prog 8) 0 (lki_run fwB k n s xb eb xf ef xl el k' n' s' xb' eb' xf' ef' xl' el' (.code (bodyAt Try.prog 8)) [] (beginE (fnAt Try.prog 8) [D.agg [D.int IntKind.i64 k, D.int IntKind.i64 n, D.str s, D.slice xb eb none, D.slice xf ef none, D.slice xl el none],
  D.agg
    [D.int IntKind.i64 k', D.int IntKind.i64 n', D.str s', D.slice xb' eb' none, D.slice xf' ef' none,
      D.slice xl' el' none]] []) (.path [false, false, false, false, false, true, true, true, true, false, false, true, false, false, false, true, true, false, true, true, true, true, true, true, true, true, false])) = some (D.bool (k == (0 : Int)), [],
    [(cmpV
      [D.int IntKind.i64 (0 : Int), D.int IntKind.i64 (0 : Int), D.str (ByteArray.mk #[]), D.slice false [] none,
        D.slice false [] none, D.slice false [] none]
      [D.int IntKind.i64 k, D.int IntKind.i64 n, D.str s, D.slice xb eb none, D.slice xf ef none, D.slice xl el none] ==
    (-1 : Int)) =
  false,
      (cmpV
      [D.int IntKind.i64 (0 : Int), D.int IntKind.i64 (0 : Int), D.str (ByteArray.mk #[]), D.slice false [] none,
        D.slice false [] none, D.slice false [] none]
      [D.int IntKind.i64 k, D.int IntKind.i64 n, D.str s, D.slice xb eb none, D.slice xf ef none, D.slice xl el none] ==
    (0 : Int)) =
  true,
      ((cmpV
        [D.int IntKind.i64 (0 : Int), D.int IntKind.i64 (0 : Int), D.str (ByteArray.mk #[]), D.slice false [] none,
          D.slice false [] none, D.slice false [] none]
        [D.int IntKind.i64 k, D.int IntKind.i64 n, D.str s, D.slice xb eb none, D.slice xf ef none,
          D.slice xl el none] ==
      (-1 : Int)) ==
    false) =
  true,
      ((cmpV
        [D.int IntKind.i64 (0 : Int), D.int IntKind.i64 (0 : Int), D.str (ByteArray.mk #[]), D.slice false [] none,
          D.slice false [] none, D.slice false [] none]
        [D.int IntKind.i64 k, D.int IntKind.i64 n, D.str s, D.slice xb eb none, D.slice xf ef none,
          D.slice xl el none] ==
      (0 : Int)) ==
    true) =
  true,
      ((cmpV
        [D.int IntKind.i64 (0 : Int), D.int IntKind.i64 (0 : Int), D.str (ByteArray.mk #[]), D.slice false [] none,
          D.slice false [] none, D.slice false [] none]
        [D.int IntKind.i64 k, D.int IntKind.i64 n, D.str s, D.slice xb eb none, D.slice xf ef none,
          D.slice xl el none] ==
      (0 : Int)) ==
    true) =
  true,
      ((cmpV
        [D.int IntKind.i64 (0 : Int), D.int IntKind.i64 (0 : Int), D.str (ByteArray.mk #[]), D.slice false [] none,
          D.slice false [] none, D.slice false [] none]
        [D.int IntKind.i64 k, D.int IntKind.i64 n, D.str s, D.slice xb eb none, D.slice xf ef none,
          D.slice xl el none] ==
      (0 : Int)) ==
    true) =
  true,
      ((cmpV
        [D.int IntKind.i64 (0 : Int), D.int IntKind.i64 (0 : Int), D.str (ByteArray.mk #[]), D.slice false [] none,
          D.slice false [] none, D.slice false [] none]
        [D.int IntKind.i64 k, D.int IntKind.i64 n, D.str s, D.slice xb eb none, D.slice xf ef none,
          D.slice xl el none] ==
      (-1 : Int)) ==
    false) =
  true,
      ((cmpV
        [D.int IntKind.i64 (0 : Int), D.int IntKind.i64 (0 : Int), D.str (ByteArray.mk #[]), D.slice false [] none,
          D.slice false [] none, D.slice false [] none]
        [D.int IntKind.i64 k, D.int IntKind.i64 n, D.str s, D.slice xb eb none, D.slice xf ef none,
          D.slice xl el none] ==
      (-1 : Int)) ==
    false) =
  true,
      ((cmpV
        [D.int IntKind.i64 (0 : Int), D.int IntKind.i64 (0 : Int), D.str (ByteArray.mk #[]), D.slice false [] none,
          D.slice false [] none, D.slice false [] none]
        [D.int IntKind.i64 k, D.int IntKind.i64 n, D.str s, D.slice xb eb none, D.slice xf ef none,
          D.slice xl el none] ==
      (-1 : Int)) ==
    false) =
  true,
      decide (classU k < (0 : Int)) = false,
      (decide (classU k < (0 : Int)) == false) = true,
      (decide (classU k < (0 : Int)) == false) = true,
      Ret Try.prog (tyOf Try.prog) (32 : Nat)
  [D.agg
      [D.int IntKind.i64 (0 : Int), D.int IntKind.i64 (0 : Int), D.str (ByteArray.mk #[]), D.slice false [] none,
        D.slice false [] none, D.slice false [] none],
    D.agg
      [D.int IntKind.i64 k, D.int IntKind.i64 n, D.str s, D.slice xb eb none, D.slice xf ef none, D.slice xl el none]]
  []
  (D.int IntKind.i64
    (cmpV
      [D.int IntKind.i64 (0 : Int), D.int IntKind.i64 (0 : Int), D.str (ByteArray.mk #[]), D.slice false [] none,
        D.slice false [] none, D.slice false [] none]
      [D.int IntKind.i64 k, D.int IntKind.i64 n, D.str s, D.slice xb eb none, D.slice xf ef none, D.slice xl el none]))
  [],
      false = false,
      false = false,
      decide (classU k > classU k') = false,
      true = true,
      (decide (classU k > classU k') == true) = false,
      (decide (classU k > classU k') == true) = false,
      true = true,
      true = true,
      true = true,
      true = true,
      decide (classU k < classU k') = false,
      (decide (classU k < classU k') == true) = false,
      (decide (classU k < classU k') == true) = false,
      Ret Try.prog (tyOf Try.prog) (32 : Nat)
  [D.agg
      [D.int IntKind.i64 k, D.int IntKind.i64 n, D.str s, D.slice xb eb none, D.slice xf ef none, D.slice xl el none],
    D.agg
      [D.int IntKind.i64 k', D.int IntKind.i64 n', D.str s', D.slice xb' eb' none, D.slice xf' ef' none,
        D.slice xl' el' none]]
  []
  (D.int IntKind.i64
    (cmpV
      [D.int IntKind.i64 k, D.int IntKind.i64 n, D.str s, D.slice xb eb none, D.slice xf ef none, D.slice xl el none]
      [D.int IntKind.i64 k', D.int IntKind.i64 n', D.str s', D.slice xb' eb' none, D.slice xf' ef' none,
        D.slice xl' el' none]))
  [],
      Ret Try.prog (tyOf Try.prog) (34 : Nat) [D.int IntKind.i64 k'] [] (D.int IntKind.i64 (classU k')) [],
      Ret Try.prog (tyOf Try.prog) (34 : Nat) [D.int IntKind.i64 k] [] (D.int IntKind.i64 (classU k)) [],
      (!fwB
      [[D.int IntKind.i64 k, D.int IntKind.i64 n, D.str s, D.slice xb eb none, D.slice xf ef none, D.slice xl el none],
        [D.int IntKind.i64 k', D.int IntKind.i64 n', D.str s', D.slice xb' eb' none, D.slice xf' ef' none,
          D.slice xl' el' none]]) =
  false,
      Ret Try.prog (tyOf Try.prog) (31 : Nat)
  [D.slice true
      [[D.int IntKind.i64 k, D.int IntKind.i64 n, D.str s, D.slice xb eb none, D.slice xf ef none, D.slice xl el none],
        [D.int IntKind.i64 k', D.int IntKind.i64 n', D.str s', D.slice xb' eb' none, D.slice xf' ef' none,
          D.slice xl' el' none]]
      none]
  []
  (D.bool
    (fwB
      [[D.int IntKind.i64 k, D.int IntKind.i64 n, D.str s, D.slice xb eb none, D.slice xf ef none, D.slice xl el none],
        [D.int IntKind.i64 k', D.int IntKind.i64 n', D.str s', D.slice xb' eb' none, D.slice xf' ef' none,
          D.slice xl' el' none]]))
  [],
      false = false,
      Ret Try.prog (tyOf Try.prog) (30 : Nat) [] [] (D.bool true) []]) by kernel_rfl)
    (all_cons.2 ⟨b4, all_cons.2 ⟨b5, all_cons.2 ⟨(by rw [b4]; rfl), all_cons.2 ⟨(by rw [b5]; rfl), all_cons.2 ⟨(by rw [b5]; rfl), all_cons.2 ⟨(by rw [b5]; rfl), all_cons.2 ⟨(by rw [b4]; rfl), all_cons.2 ⟨(by rw [b4]; rfl), all_cons.2 ⟨(by rw [b4]; rfl), all_cons.2 ⟨b3, all_cons.2 ⟨(by rw [b3]; rfl), all_cons.2 ⟨(by rw [b3]; rfl), all_cons.2 ⟨h6, all_cons.2 ⟨rfl, all_cons.2 ⟨rfl, all_cons.2 ⟨b2, all_cons.2 ⟨rfl, all_cons.2 ⟨(by rw [b2]; rfl), all_cons.2 ⟨(by rw [b2]; rfl), all_cons.2 ⟨rfl, all_cons.2 ⟨rfl, all_cons.2 ⟨rfl, all_cons.2 ⟨rfl, all_cons.2 ⟨b1, all_cons.2 ⟨(by rw [b1]; rfl), all_cons.2 ⟨(by rw [b1]; rfl), all_cons.2 ⟨h7, all_cons.2 ⟨(cls34 _), all_cons.2 ⟨(cls34 _), all_cons.2 ⟨(by rw [b0]; rfl), all_cons.2 ⟨h8, all_cons.2 ⟨rfl, all_cons.2 ⟨h9, all_nil.2 trivial⟩⟩⟩⟩⟩⟩⟩⟩⟩⟩⟩⟩⟩⟩⟩⟩⟩⟩⟩⟩⟩⟩⟩⟩⟩⟩⟩⟩⟩⟩⟩⟩⟩))

theorem lki_in_12 {fwB : Es → Bool} {k : Int} {n : Int} {s : ByteArray} {xb : Bool} {eb : Es} {xf : Bool} {ef : Es} {xl : Bool} {el : Es} {k' : Int} {n' : Int} {s' : ByteArray} {xb' : Bool} {eb' : Es} {xf' : Bool} {ef' : Es} {xl' : Bool} {el' : Es}
    (h0 : fwB
    [[D.int IntKind.i64 k, D.int IntKind.i64 n, D.str s, D.slice xb eb none, D.slice xf ef none, D.slice xl el none],
      [D.int IntKind.i64 k', D.int IntKind.i64 n', D.str s', D.slice xb' eb' none, D.slice xf' ef' none,
        D.slice xl' el' none]] =
  false)
    (h1 : Ret Try.prog (tyOf Try.prog) (31 : Nat)
  [D.slice true
      [[D.int IntKind.i64 k, D.int IntKind.i64 n, D.str s, D.slice xb eb none, D.slice xf ef none, D.slice xl el none],
        [D.int IntKind.i64 k', D.int IntKind.i64 n', D.str s', D.slice xb' eb' none, D.slice xf' ef' none,
          D.slice xl' el' none]]
      none]
  []
  (D.bool
    (fwB
      [[D.int IntKind.i64 k, D.int IntKind.i64 n, D.str s, D.slice xb eb none, D.slice xf ef none, D.slice xl el none],
        [D.int IntKind.i64 k', D.int IntKind.i64 n', D.str s', D.slice xb' eb' none, D.slice xf' ef' none,
          D.slice xl' el' none]]))
  [])
    (h2 : Ret Try.prog (tyOf Try.prog) (30 : Nat) [] [] (D.bool true) []) :
    Ret Try.prog (tyOf Try.prog) 8 [D.agg [D.int IntKind.i64 k, D.int IntKind.i64 n, D.str s, D.slice xb eb none, D.slice xf ef none, D.slice xl el none],
  D.agg
    [D.int IntKind.i64 k', D.int IntKind.i64 n', D.str s', D.slice xb' eb' none, D.slice xf' ef' none,
      D.slice xl' el' none]] [] (D.bool true) [] :=
  have b0 : fwB
    [[D.int IntKind.i64 k, D.int IntKind.i64 n, D.str s, D.slice xb eb none, D.slice xf ef none, D.slice xl el none],
      [D.int IntKind.i64 k', D.int IntKind.i64 n', D.str s', D.slice xb' eb' none, D.slice xf' ef' none,
        D.slice xl' el' none]] =
  false := h0
  fin_call lki_fn lki_body lki_name (fin_ret (h := 0) (lki_ok fwB k n s xb eb xf ef xl el k' n' s' xb' eb' xf' ef' xl' el') (show outF (tyOf Try.prog) (fnAt Try.prog 8) 0 (lki_run fwB k n s xb eb xf ef xl el k' n' s' xb' eb' xf' ef' xl' el' (.code (bodyAt Try.prog 8)) [] (beginE (fnAt Try.prog 8) [D.agg [D.int IntKind.i64 k, D.int IntKind.i64 n, D.str s, D.slice xb eb none, D.slice xf ef none, D.slice xl el none],
  D.agg
    [D.int IntKind.i64 k', D.int IntKind.i64 n', D.str s', D.slice xb' eb' none, D.slice xf' ef' none,
      D.slice xl' el' none]] []) (.path [false, true])) = some (D.bool true, [],
    [(!fwB
      [[D.int IntKind.i64 k, D.int IntKind.i64 n, D.str s, D.slice xb eb none, D.slice xf ef none, D.slice xl el none],
        [D.int IntKind.i64 k', D.int IntKind.i64 n', D.str s', D.slice xb' eb' none, D.slice xf' ef' none,
          D.slice xl' el' none]]) =
  true,
      Ret Try.prog (tyOf Try.prog) (31 : Nat)
  [D.slice true
      [[D.int IntKind.i64 k, D.int IntKind.i64 n, D.str s, D.slice xb eb none, D.slice xf ef none, D.slice xl el none],
        [D.int IntKind.i64 k', D.int IntKind.i64 n', D.str s', D.slice xb' eb' none, D.slice xf' ef' none,
          D.slice xl' el' none]]
      none]
  []
  (D.bool
    (fwB
      [[D.int IntKind.i64 k, D.int IntKind.i64 n, D.str s, D.slice xb eb none, D.slice xf ef none, D.slice xl el none],
        [D.int IntKind.i64 k', D.int IntKind.i64 n', D.str s', D.slice xb' eb' none, D.slice xf' ef' none,
          D.slice xl' el' none]]))
  [],
      false = false,
      Ret Try.prog (tyOf Try.prog) (30 : Nat) [] [] (D.bool true) []]) by kernel_rfl)
    (all_cons.2 ⟨(by rw [b0]; rfl), all_cons.2 ⟨h1, all_cons.2 ⟨rfl, all_cons.2 ⟨h2, all_nil.2 trivial⟩⟩⟩⟩))




open valk

theorem few31 (xb : Bool) (es : Es) (hl : es.length ≤ maxLen) (hv : ∀ c ∈ es, VS c) : ∃ b, Ret P T 31 [.slice xb es none] [] (.bool b) [] := by
  have key : ∀ (m i : Nat) (t : Int), i + m = es.length → ∃ b, few_at0 smallB W xb es t i (.bool b) [] := by
    intro m
    induction m with
    | zero =>
      intro i t hi
      by_cases h : (es.length : Int) ≤ 30
      · exact ⟨_, few_0_2 (by omega) h⟩
      · exact ⟨_, few_0_3 (by omega) h⟩
    | succ m ih =>
      intro i t hi
      have hlt : i < es.length := by omega
      have hvi := hv _ (List.getElem_mem hlt)
      obtain ⟨ck, cn, cs, yb, cb, yf, cf, yl, cl, hrow⟩ := hvi.get
      have hg : es[((i : Int)).toNat]? = some (valk.val ck cn cs yb cb yf cf yl cl) := by rw [Int.toNat_natCast, List.getElem?_eq_getElem hlt, hrow]
      rw [hrow] at hvi
      have h14 : Ret P T 14 [.agg (valk.val ck cn cs yb cb yf cf yl cl)] [] (.bool (smallB (valk.val ck cn cs yb cb yf cf yl cl))) [] := small hvi
      have h42 : Ret P T 42 [.agg (valk.val ck cn cs yb cb yf cf yl cl), .int .i64 3000] [] (.int .i64 (W (valk.val ck cn cs yb cb yf cf yl cl) 3000)) [] := W_ok (weight hvi 3000)
      cases hs : smallB (valk.val ck cn cs yb cb yf cf yl cl) with
      | false =>
        exact ⟨false, few_0_1 (smB := smallB) (by omega) hs h14 (by omega) hg⟩
      | true =>
        obtain ⟨b, g⟩ := ih (i + 1) (IntKind.i64.wrap (t + W (valk.val ck cn cs yb cb yf cf yl cl) 3000)) (by omega)
        refine ⟨b, few_0_0 (by omega) hs h42 (by omega) hg h14 hg ?_⟩
        rw [up hlt hl]
        exact g
  obtain ⟨b, g⟩ := key es.length 0 0 (by omega)
  exact ⟨b, few_in_0 g⟩

noncomputable def cA : Cf := { P := Try.prog, T := tyOf Try.prog, hint := fun _ _ _ => .auto, room := fun _ _ => 8, meth := fun _ _ => none, ct := fun _ _ _ => none, stop := false }
theorem cAOk : CfOk cA where
  hT := fun _ _ h => h
  hm := by kernel_rfl
  meth := fun _ _ _ h => by simp only [cA] at h; cases h
  ct := fun _ _ _ _ _ _ h => by simp only [cA] at h; cases h
theorem awake30 : Ret P T 30 [] [] (.bool true) [] := ret_closed cAOk (show tellsTrue (callE cA 100000 100 30 [] [] .auto) = true by kernel_rfl)

def zeroV : Cs := valk.val 0 0 (ByteArray.mk #[]) false [] false [] false []
theorem vs_zero : VS zeroV := .mk 0 0 _ _ _ _ _ _ _ [] (by omega) (by omega) (by decide) rfl (fun x hx => by cases hx) (by decide) (by decide) (by decide) (fun _ => rfl) (fun _ => rfl) (fun _ => rfl) (fun r hr => by cases hr) (fun nm c hc => by cases hc) (fun r hr => by cases hr)
theorem class_zero {k : Int} (h : classU k = 0) : k = 0 := by
  unfold classU at h
  split at h
  · omega
  · split at h
    · exact h
    · split at h <;> omega
/-- Missing is ahead of all that has a class. -/
theorem zero_first {a : Cs} (ha : VS a) (h0 : ¬ classU (kindOf a) < 0) : cmpV zeroV a = -1 ∨ (cmpV zeroV a = 0 ∧ kindOf a = 0) := by
  obtain ⟨k, n, s, xb, eb, xf, ef, xl, el, rfl⟩ := ha.get
  have hk : kindOf (valk.val k n s xb eb xf ef xl el) = k := rfl
  rw [hk] at h0 ⊢
  unfold zeroV
  rw [cmpV_eq, show classU 0 = 0 by decide]
  by_cases h : classU k = 0
  · have := class_zero h
    subst this
    exact .inr ⟨rfl, rfl⟩
  · left
    have : sgnU 0 (classU k) = -1 := by unfold sgnU; rw [if_pos (by omega)]
    rw [this]
    rfl
theorem cmp_class {a b : Cs} (ha : VS a) (hb : VS b) : (classU (kindOf a) < classU (kindOf b) → cmpV a b = -1) ∧ (classU (kindOf a) > classU (kindOf b) → cmpV a b = 1) := by
  obtain ⟨k, n, s, xb, eb, xf, ef, xl, el, rfl⟩ := ha.get
  obtain ⟨k', n', s', xb', eb', xf', ef', xl', el', rfl⟩ := hb.get
  have hk : kindOf (valk.val k n s xb eb xf ef xl el) = k := rfl
  have hk' : kindOf (valk.val k' n' s' xb' eb' xf' ef' xl' el') = k' := rfl
  rw [cmpV_eq, hk, hk']
  constructor
  · intro h
    have : sgnU (classU k) (classU k') = -1 := by unfold sgnU; rw [if_pos h]
    rw [this]; rfl
  · intro h
    have : sgnU (classU k) (classU k') = 1 := by unfold sgnU; rw [if_neg (by omega), if_pos h]
    rw [this]; rfl

theorem law8 {a b : Cs} (ha : VS a) (hb : VS b) : ∃ H1, Ret P T 8 [.agg a, .agg b] [] (.bool true) H1 := by
  have hz := cmp32 vs_zero ha
  have hab := cmp32 ha hb
  have hfirst := zero_first ha
  obtain ⟨hc1, hc2⟩ := cmp_class ha hb
  obtain ⟨w, hw⟩ := few31 true [a, b] (by show 2 ≤ maxLen; decide) (fun c hc => by
    simp only [List.mem_cons, List.not_mem_nil, or_false] at hc
    rcases hc with rfl | rfl
    · exact ha
    · exact hb)
  obtain ⟨k, n, s, xb, eb, xf, ef, xl, el, rfl⟩ := ha.get
  obtain ⟨k', n', s', xb', eb', xf', ef', xl', el', rfl⟩ := hb.get
  have hk : kindOf (valk.val k n s xb eb xf ef xl el) = k := rfl
  have hk' : kindOf (valk.val k' n' s' xb' eb' xf' ef' xl' el') = k' := rfl
  rw [hk] at hfirst hc1 hc2
  rw [hk'] at hc1 hc2
  cases w with
  | false => exact ⟨_, lki_in_12 (fwB := fun _ => false) rfl hw awake30⟩
  | true =>
    by_cases h1 : classU k < classU k'
    · by_cases h0 : classU k < 0
      · exact ⟨_, lki_in_3 (fwB := fun _ => true) rfl h1 (hc1 h1) (by omega) h0 hz hab hw awake30⟩
      · rcases hfirst h0 with h | ⟨h, rfl⟩
        · exact ⟨_, lki_in_4 (fwB := fun _ => true) rfl h1 (hc1 h1) (by omega) h0 h hz hab hw awake30⟩
        · have hne : cmpV zeroV (valk.val 0 n s xb eb xf ef xl el) ≠ -1 := by rw [h]; decide
          have e := lki_in_5 (fwB := fun _ => true) rfl h1 (hc1 h1) (by omega) h0 hne h hz hab hw awake30
          exact ⟨_, e⟩
    · by_cases h2 : classU k > classU k'
      · by_cases h0 : classU k < 0
        · exact ⟨_, lki_in_6 (fwB := fun _ => true) rfl h1 h2 (hc2 h2) h0 hz hab hw awake30⟩
        · rcases hfirst h0 with h | ⟨h, rfl⟩
          · exact ⟨_, lki_in_7 (fwB := fun _ => true) rfl h1 h2 (hc2 h2) h0 h hz hab hw awake30⟩
          · have hne : cmpV zeroV (valk.val 0 n s xb eb xf ef xl el) ≠ -1 := by rw [h]; decide
            have e := lki_in_8 (fwB := fun _ => true) rfl h1 h2 (hc2 h2) h0 hne h hz hab hw awake30
            exact ⟨_, e⟩
      · by_cases h0 : classU k < 0
        · exact ⟨_, lki_in_9 (fwB := fun _ => true) rfl h1 h2 h0 hz hab hw awake30⟩
        · rcases hfirst h0 with h | ⟨h, rfl⟩
          · exact ⟨_, lki_in_10 (fwB := fun _ => true) rfl h1 h2 h0 h hz hab hw awake30⟩
          · have hne : cmpV zeroV (valk.val 0 n s xb eb xf ef xl el) ≠ -1 := by rw [h]; decide
            have e := lki_in_11 (fwB := fun _ => true) rfl h1 h2 h0 hne h hz hab hw awake30
            exact ⟨_, e⟩

end Go.Proofs.Ytbkacmcijimbfaa.ordk
