/- Comparing values: roads. -/
import Derived.Test.YtbkacmcijimbfaaOrdA
import Derived.Test.YtbkacmcijimbfaaValKit
namespace Go.Proofs.Ytbkacmcijimbfaa.ordk
open Go Ytbkacmcijimbfaa.GD
set_option linter.unusedVariables false
set_option linter.unusedSimpArgs false
set_option maxRecDepth 100000

abbrev Cs := List D
def val (k n : Int) (s : ByteArray) (xb : Bool) (eb : Es) (xf : Bool) (ef : Es) (xl : Bool) (el : Es) : Cs := valk.val k n s xb eb xf ef xl el
variable (cV : Cs → Cs → Int) (cF : Cs → Cs → Int) (cLs cFs : Es → Es → Int)
def tabC : Tab := fun k args H =>
  match k with
  | 34 => match args, H with | [.int .i64 k], [] => some (.int .i64 (classU k), []) | _, _ => none
  | 35 => match args, H with | [.int .i64 k], [] => some (.int .i64 (classU k), []) | _, _ => none
  | 54 => match args, H with | [.int .i64 x, .int .i64 y], [] => some (.int .i64 (sgnU x y), []) | _, _ => none
  | 63 => match args, H with | [.int .i64 x, .int .i64 y], [] => some (.int .i64 (sgnU x y), []) | _, _ => none
  | 56 => match args, H with | [.int .i64 x, .int .i64 y], [] => some (.int .i64 (sgnU x y), []) | _, _ => none
  | 65 => match args, H with | [.str x, .str y], [] => some (.int .i64 (lexB x y), []) | _, _ => none
  | 57 => match args, H with | [.str x, .str y], [] => some (.int .i64 (lexB x y), []) | _, _ => none
  | 72 => match args, H with | [.slice _ es none], [] => some (.int .i64 (orE es), []) | _, _ => none
  | 73 => match args, H with | [.slice _ a none, .slice _ b none], [] => some (.int .i64 (cbE a b), []) | _, _ => none
  | 67 => match args, H with | [.slice _ a none, .slice _ b none, _], [] => some (.int .i64 (cFs a b), []) | _, _ => none
  | 70 => match args, H with | [.slice _ a none, .slice _ b none, _], [] => some (.int .i64 (cLs a b), []) | _, _ => none
  | 68 => match args, H with | [.agg a, .agg b], [] => some (.int .i64 (cF a b), []) | _, _ => none
  | 32 => match args, H with | [.agg a, .agg b], [] => some (.int .i64 (cV a b), []) | _, _ => none
  | 33 => match args, H with | [.agg a, .agg b], [] => some (.int .i64 (cV a b), []) | _, _ => none
  | _ => none
def aL (cV : Cs → Cs → Int) (xa : Bool) (ea : Es) (xb : Bool) (eb : Es) : List D × GD.Heap := ([.slice xa ea none, .slice xb eb none, .func (.func 32) [] []], [])
def tL (cV : Cs → Cs → Int) (xa : Bool) (ea : Es) (xb : Bool) (eb : Es) : Tab := tabC cV (fun _ _ => 0) (fun _ _ => 0) (fun _ _ => 0)
def aF (cF : Cs → Cs → Int) (xa : Bool) (ea : Es) (xb : Bool) (eb : Es) : List D × GD.Heap := ([.slice xa ea none, .slice xb eb none, .func (.func 68) [] []], [])
def tF (cF : Cs → Cs → Int) (xa : Bool) (ea : Es) (xb : Bool) (eb : Es) : Tab := tabC (fun _ _ => 0) cF (fun _ _ => 0) (fun _ _ => 0)
def aFl (cV : Cs → Cs → Int) (nm : ByteArray) (k n : Int) (s : ByteArray) (xb : Bool) (eb : Es) (xf : Bool) (ef : Es) (xl : Bool) (el : Es) (nm' : ByteArray) (k' n' : Int) (s' : ByteArray) (xb' : Bool) (eb' : Es) (xf' : Bool) (ef' : Es) (xl' : Bool) (el' : Es) : List D × GD.Heap :=
  ([.agg (.str nm :: val k n s xb eb xf ef xl el), .agg (.str nm' :: val k' n' s' xb' eb' xf' ef' xl' el')], [])
def tFl (cV : Cs → Cs → Int) (nm : ByteArray) (k n : Int) (s : ByteArray) (xb : Bool) (eb : Es) (xf : Bool) (ef : Es) (xl : Bool) (el : Es) (nm' : ByteArray) (k' n' : Int) (s' : ByteArray) (xb' : Bool) (eb' : Es) (xf' : Bool) (ef' : Es) (xl' : Bool) (el' : Es) : Tab :=
  tabC cV (fun _ _ => 0) (fun _ _ => 0) (fun _ _ => 0)
def aV (cLs cFs : Es → Es → Int) (k n : Int) (s : ByteArray) (xb : Bool) (eb : Es) (xf : Bool) (ef : Es) (xl : Bool) (el : Es) (k' n' : Int) (s' : ByteArray) (xb' : Bool) (eb' : Es) (xf' : Bool) (ef' : Es) (xl' : Bool) (el' : Es) : List D × GD.Heap :=
  ([.agg (val k n s xb eb xf ef xl el), .agg (val k' n' s' xb' eb' xf' ef' xl' el')], [])
def tV (cLs cFs : Es → Es → Int) (k n : Int) (s : ByteArray) (xb : Bool) (eb : Es) (xf : Bool) (ef : Es) (xl : Bool) (el : Es) (k' n' : Int) (s' : ByteArray) (xb' : Bool) (eb' : Es) (xf' : Bool) (ef' : Es) (xl' : Bool) (el' : Es) : Tab :=
  fun k args H => match k with
  | 32 => none
  | _ => tabC (fun _ _ => 0) (fun _ _ => 0) cLs cFs k args H
def aRv (cV : Cs → Cs → Int) (k n : Int) (s : ByteArray) (xb : Bool) (eb : Es) (xf : Bool) (ef : Es) (xl : Bool) (el : Es) (k' n' : Int) (s' : ByteArray) (xb' : Bool) (eb' : Es) (xf' : Bool) (ef' : Es) (xl' : Bool) (el' : Es) : List D × GD.Heap :=
  ([.agg (val k n s xb eb xf ef xl el), .agg (val k' n' s' xb' eb' xf' ef' xl' el')], [])
def tRv (cV : Cs → Cs → Int) (k n : Int) (s : ByteArray) (xb : Bool) (eb : Es) (xf : Bool) (ef : Es) (xl : Bool) (el : Es) (k' n' : Int) (s' : ByteArray) (xb' : Bool) (eb' : Es) (xf' : Bool) (ef' : Es) (xl' : Bool) (el' : Es) : Tab :=
  tabC cV (fun _ _ => 0) (fun _ _ => 0) (fun _ _ => 0)

/-! ### function 70 -/
theorem cl_fn : Try.prog.funcs[(70 : Nat)]? = some (fnAt Try.prog 70) := by kernel_rfl
theorem cl_body : (fnAt Try.prog 70).body = some (bodyAt Try.prog 70) := by kernel_rfl
theorem cl_name : ((fnAt Try.prog 70).name == "runtime.NumGoroutine") = false := by kernel_rfl
noncomputable def cl_C (cV : Cs → Cs → Int) (xa : Bool) (ea : Es) (xb : Bool) (eb : Es) (n3_1_0 : Int) (n3_1_1 : Int) (s3_1_2 : ByteArray) (x3_1_3 : Bool) (e3_1_3 : List (List D)) (x3_1_4 : Bool) (e3_1_4 : List (List D)) (x3_1_5 : Bool) (e3_1_5 : List (List D)) (n6_2_0 : Int) (n6_2_1 : Int) (s6_2_2 : ByteArray) (x6_2_3 : Bool) (e6_2_3 : List (List D)) (x6_2_4 : Bool) (e6_2_4 : List (List D)) (x6_2_5 : Bool) (e6_2_5 : List (List D)) : Cf := cfg Try.prog (hintOf [((70 : Nat), (3 : Nat), (1 : Nat),
  Hint.c
    [D.int IntKind.i64 n3_1_0, D.int IntKind.i64 n3_1_1, D.str s3_1_2, D.slice x3_1_3 e3_1_3 none,
      D.slice x3_1_4 e3_1_4 none, D.slice x3_1_5 e3_1_5 none]), ((70 : Nat), (6 : Nat), (2 : Nat),
  Hint.c
    [D.int IntKind.i64 n6_2_0, D.int IntKind.i64 n6_2_1, D.str s6_2_2, D.slice x6_2_3 e6_2_3 none,
      D.slice x6_2_4 e6_2_4 none, D.slice x6_2_5 e6_2_5 none])]) (tL cV xa ea xb eb) (fun _ => false) 2 true (fun _ => false)
theorem cl_ok (cV : Cs → Cs → Int) (xa : Bool) (ea : Es) (xb : Bool) (eb : Es) (n3_1_0 : Int) (n3_1_1 : Int) (s3_1_2 : ByteArray) (x3_1_3 : Bool) (e3_1_3 : List (List D)) (x3_1_4 : Bool) (e3_1_4 : List (List D)) (x3_1_5 : Bool) (e3_1_5 : List (List D)) (n6_2_0 : Int) (n6_2_1 : Int) (s6_2_2 : ByteArray) (x6_2_3 : Bool) (e6_2_3 : List (List D)) (x6_2_4 : Bool) (e6_2_4 : List (List D)) (x6_2_5 : Bool) (e6_2_5 : List (List D)) : CfOk (cl_C cV xa ea xb eb n3_1_0 n3_1_1 s3_1_2 x3_1_3 e3_1_3 x3_1_4 e3_1_4 x3_1_5 e3_1_5 n6_2_0 n6_2_1 s6_2_2 x6_2_3 e6_2_3 x6_2_4 e6_2_4 x6_2_5 e6_2_5) := cfg_ok (by kernel_rfl)
noncomputable def cl_run (cV : Cs → Cs → Int) (xa : Bool) (ea : Es) (xb : Bool) (eb : Es) (n3_1_0 : Int) (n3_1_1 : Int) (s3_1_2 : ByteArray) (x3_1_3 : Bool) (e3_1_3 : List (List D)) (x3_1_4 : Bool) (e3_1_4 : List (List D)) (x3_1_5 : Bool) (e3_1_5 : List (List D)) (n6_2_0 : Int) (n6_2_1 : Int) (s6_2_2 : ByteArray) (x6_2_3 : Bool) (e6_2_3 : List (List D)) (x6_2_4 : Bool) (e6_2_4 : List (List D)) (x6_2_5 : Bool) (e6_2_5 : List (List D)) (qcur : Cur) (qk : List It) (qs : St) (qor : GD.Or) := runE (cl_C cV xa ea xb eb n3_1_0 n3_1_1 s3_1_2 x3_1_3 e3_1_3 x3_1_4 e3_1_4 x3_1_5 e3_1_5 n6_2_0 n6_2_1 s6_2_2 x6_2_3 e6_2_3 x6_2_4 e6_2_4 x6_2_5 e6_2_5) (callE (cl_C cV xa ea xb eb n3_1_0 n3_1_1 s3_1_2 x3_1_3 e3_1_3 x3_1_4 e3_1_4 x3_1_5 e3_1_5 n6_2_0 n6_2_1 s6_2_2 x6_2_3 e6_2_3 x6_2_4 e6_2_4 x6_2_5 e6_2_5) 100000 10) 70 100000 qcur qk qs qor []
noncomputable def cl_l0 : Code := (loopAt Try.prog 70 0).1
noncomputable def cl_k0 : List It := (loopAt Try.prog 70 0).2
/- loop 0: n13:=(0 : Int); -/
noncomputable def cl_s0 (cV : Cs → Cs → Int) (xa : Bool) (ea : Es) (xb : Bool) (eb : Es) (n13 : Int) : St := ⟨envOf 39 [(0, D.slice xa ea none), (1, D.slice xb eb none), (2, D.func (Fn.func (32 : Nat)) [] []), (11, D.slice xa ea none), (12, D.int IntKind.i64 (↑(List.length ea) : Int)), (13, D.int IntKind.i64 n13)], []⟩
def cl_at0 (cV : Cs → Cs → Int) (xa : Bool) (ea : Es) (xb : Bool) (eb : Es) (n13 : Int) (r : D) (H1 : GD.Heap) : Prop := GD.Fin Try.prog (tyOf Try.prog) (fnAt Try.prog 70) 0 (.code (.loop cl_l0)) cl_k0 (cl_s0 cV xa ea xb eb n13) r H1

theorem cl_in_0 {cV : Cs → Cs → Int} {xa : Bool} {ea : Es} {xb : Bool} {eb : Es} {r : D} {H1 : GD.Heap}
    (g : cl_at0 cV xa ea xb eb ((0 : Int)) r H1) :
    Ret Try.prog (tyOf Try.prog) 70 [D.slice xa ea none, D.slice xb eb none, D.func (Fn.func (32 : Nat)) [] []] [] r H1 :=
  fin_call cl_fn cl_body cl_name (fin_stop (F := (fun _ => false)) (h := 0) (keep := [0, 1, 2, 11, 12, 13]) (cl_ok cV xa ea xb eb 0 0 (ByteArray.mk #[]) false [] false [] false [] 0 0 (ByteArray.mk #[]) false [] false [] false []) (show cutX (fun _ => false) [0, 1, 2, 11, 12, 13] 0 (cl_run cV xa ea xb eb 0 0 (ByteArray.mk #[]) false [] false [] false [] 0 0 (ByteArray.mk #[]) false [] false [] false [] (.code (bodyAt Try.prog 70)) [] (beginE (fnAt Try.prog 70) [D.slice xa ea none, D.slice xb eb none, D.func (Fn.func (32 : Nat)) [] []] []) (.path [])) = some (cl_l0, cl_k0, (cl_s0 cV xa ea xb eb ((0 : Int))).env, (cl_s0 cV xa ea xb eb ((0 : Int))).H,
    []) by kernel_rfl)
    (all_nil.2 trivial) (show (0 : Nat) ≤ 0 by decide) g)

theorem cl_0_0 {cV : Cs → Cs → Int} {xa : Bool} {ea : Es} {xb : Bool} {eb : Es} {n13 : Int} {n3_1_0 : Int} {n3_1_1 : Int} {s3_1_2 : ByteArray} {x3_1_3 : Bool} {e3_1_3 : List (List D)} {x3_1_4 : Bool} {e3_1_4 : List (List D)} {x3_1_5 : Bool} {e3_1_5 : List (List D)}
    (h0 : n13 < (↑(List.length ea) : Int))
    (h1 : n13 ≥ (↑(List.length eb) : Int))
    (h2 : (0 : Int) ≤ n13)
    (h3 : ea[n13.toNat]? =
  some
    [D.int IntKind.i64 n3_1_0, D.int IntKind.i64 n3_1_1, D.str s3_1_2, D.slice x3_1_3 e3_1_3 none,
      D.slice x3_1_4 e3_1_4 none, D.slice x3_1_5 e3_1_5 none]) :
    cl_at0 cV xa ea xb eb n13 (D.int IntKind.i64 (1 : Int)) [] :=
  have b0 : decide (n13 < (↑(List.length ea) : Int)) = true := decide_eq_true h0
  have b1 : decide (n13 ≥ (↑(List.length eb) : Int)) = true := decide_eq_true h1
  fin_loop (fin_ret (h := 0) (cl_ok cV xa ea xb eb n3_1_0 n3_1_1 s3_1_2 x3_1_3 e3_1_3 x3_1_4 e3_1_4 x3_1_5 e3_1_5 0 0 (ByteArray.mk #[]) false [] false [] false []) (show outF (tyOf Try.prog) (fnAt Try.prog 70) 0 (cl_run cV xa ea xb eb n3_1_0 n3_1_1 s3_1_2 x3_1_3 e3_1_3 x3_1_4 e3_1_4 x3_1_5 e3_1_5 0 0 (ByteArray.mk #[]) false [] false [] false [] (.code cl_l0) (.lp cl_l0 :: cl_k0) (cl_s0 cV xa ea xb eb n13) (.path [true, true])) = some (D.int IntKind.i64 (1 : Int), [],
    [decide (n13 ≥ (↑(List.length eb) : Int)) = true,
      (0 : Int) ≤ n13,
      ea[n13.toNat]? =
  some
    [D.int IntKind.i64 n3_1_0, D.int IntKind.i64 n3_1_1, D.str s3_1_2, D.slice x3_1_3 e3_1_3 none,
      D.slice x3_1_4 e3_1_4 none, D.slice x3_1_5 e3_1_5 none],
      decide (n13 < (↑(List.length ea) : Int)) = true]) by kernel_rfl)
    (all_cons.2 ⟨b1, all_cons.2 ⟨h2, all_cons.2 ⟨h3, all_cons.2 ⟨b0, all_nil.2 trivial⟩⟩⟩⟩))

theorem cl_0_1 {cV : Cs → Cs → Int} {xa : Bool} {ea : Es} {xb : Bool} {eb : Es} {n13 : Int} {n3_1_0 : Int} {n3_1_1 : Int} {s3_1_2 : ByteArray} {x3_1_3 : Bool} {e3_1_3 : List (List D)} {x3_1_4 : Bool} {e3_1_4 : List (List D)} {x3_1_5 : Bool} {e3_1_5 : List (List D)} {n6_2_0 : Int} {n6_2_1 : Int} {s6_2_2 : ByteArray} {x6_2_3 : Bool} {e6_2_3 : List (List D)} {x6_2_4 : Bool} {e6_2_4 : List (List D)} {x6_2_5 : Bool} {e6_2_5 : List (List D)}
    (h0 : n13 < (↑(List.length ea) : Int))
    (h1 : ¬ (n13 ≥ (↑(List.length eb) : Int)))
    (h2 : cV
  [D.int IntKind.i64 n3_1_0, D.int IntKind.i64 n3_1_1, D.str s3_1_2, D.slice x3_1_3 e3_1_3 none,
    D.slice x3_1_4 e3_1_4 none, D.slice x3_1_5 e3_1_5 none]
  [D.int IntKind.i64 n6_2_0, D.int IntKind.i64 n6_2_1, D.str s6_2_2, D.slice x6_2_3 e6_2_3 none,
    D.slice x6_2_4 e6_2_4 none, D.slice x6_2_5 e6_2_5 none] ≠ (0 : Int))
    (h3 : Ret Try.prog (tyOf Try.prog) (32 : Nat)
  [D.agg
      [D.int IntKind.i64 n3_1_0, D.int IntKind.i64 n3_1_1, D.str s3_1_2, D.slice x3_1_3 e3_1_3 none,
        D.slice x3_1_4 e3_1_4 none, D.slice x3_1_5 e3_1_5 none],
    D.agg
      [D.int IntKind.i64 n6_2_0, D.int IntKind.i64 n6_2_1, D.str s6_2_2, D.slice x6_2_3 e6_2_3 none,
        D.slice x6_2_4 e6_2_4 none, D.slice x6_2_5 e6_2_5 none]]
  []
  (D.int IntKind.i64
    (cV
      [D.int IntKind.i64 n3_1_0, D.int IntKind.i64 n3_1_1, D.str s3_1_2, D.slice x3_1_3 e3_1_3 none,
        D.slice x3_1_4 e3_1_4 none, D.slice x3_1_5 e3_1_5 none]
      [D.int IntKind.i64 n6_2_0, D.int IntKind.i64 n6_2_1, D.str s6_2_2, D.slice x6_2_3 e6_2_3 none,
        D.slice x6_2_4 e6_2_4 none, D.slice x6_2_5 e6_2_5 none]))
  [])
    (h4 : (0 : Int) ≤ n13)
    (h5 : eb[n13.toNat]? =
  some
    [D.int IntKind.i64 n6_2_0, D.int IntKind.i64 n6_2_1, D.str s6_2_2, D.slice x6_2_3 e6_2_3 none,
      D.slice x6_2_4 e6_2_4 none, D.slice x6_2_5 e6_2_5 none])
    (h6 : ea[n13.toNat]? =
  some
    [D.int IntKind.i64 n3_1_0, D.int IntKind.i64 n3_1_1, D.str s3_1_2, D.slice x3_1_3 e3_1_3 none,
      D.slice x3_1_4 e3_1_4 none, D.slice x3_1_5 e3_1_5 none]) :
    cl_at0 cV xa ea xb eb n13 (D.int IntKind.i64
  (cV
    [D.int IntKind.i64 n3_1_0, D.int IntKind.i64 n3_1_1, D.str s3_1_2, D.slice x3_1_3 e3_1_3 none,
      D.slice x3_1_4 e3_1_4 none, D.slice x3_1_5 e3_1_5 none]
    [D.int IntKind.i64 n6_2_0, D.int IntKind.i64 n6_2_1, D.str s6_2_2, D.slice x6_2_3 e6_2_3 none,
      D.slice x6_2_4 e6_2_4 none, D.slice x6_2_5 e6_2_5 none])) [] :=
  have b0 : decide (n13 < (↑(List.length ea) : Int)) = true := decide_eq_true h0
  have b1 : decide (n13 ≥ (↑(List.length eb) : Int)) = false := decide_eq_false h1
  have b2 : (cV
      [D.int IntKind.i64 n3_1_0, D.int IntKind.i64 n3_1_1, D.str s3_1_2, D.slice x3_1_3 e3_1_3 none,
        D.slice x3_1_4 e3_1_4 none, D.slice x3_1_5 e3_1_5 none]
      [D.int IntKind.i64 n6_2_0, D.int IntKind.i64 n6_2_1, D.str s6_2_2, D.slice x6_2_3 e6_2_3 none,
        D.slice x6_2_4 e6_2_4 none, D.slice x6_2_5 e6_2_5 none] !=
    (0 : Int)) =
  true := bne_iff_ne.2 h2
  fin_loop (fin_ret (h := 0) (cl_ok cV xa ea xb eb n3_1_0 n3_1_1 s3_1_2 x3_1_3 e3_1_3 x3_1_4 e3_1_4 x3_1_5 e3_1_5 n6_2_0 n6_2_1 s6_2_2 x6_2_3 e6_2_3 x6_2_4 e6_2_4 x6_2_5 e6_2_5) (show outF (tyOf Try.prog) (fnAt Try.prog 70) 0 (cl_run cV xa ea xb eb n3_1_0 n3_1_1 s3_1_2 x3_1_3 e3_1_3 x3_1_4 e3_1_4 x3_1_5 e3_1_5 n6_2_0 n6_2_1 s6_2_2 x6_2_3 e6_2_3 x6_2_4 e6_2_4 x6_2_5 e6_2_5 (.code cl_l0) (.lp cl_l0 :: cl_k0) (cl_s0 cV xa ea xb eb n13) (.path [true, false, true])) = some (D.int IntKind.i64
  (cV
    [D.int IntKind.i64 n3_1_0, D.int IntKind.i64 n3_1_1, D.str s3_1_2, D.slice x3_1_3 e3_1_3 none,
      D.slice x3_1_4 e3_1_4 none, D.slice x3_1_5 e3_1_5 none]
    [D.int IntKind.i64 n6_2_0, D.int IntKind.i64 n6_2_1, D.str s6_2_2, D.slice x6_2_3 e6_2_3 none,
      D.slice x6_2_4 e6_2_4 none, D.slice x6_2_5 e6_2_5 none]), [],
    [(cV
      [D.int IntKind.i64 n3_1_0, D.int IntKind.i64 n3_1_1, D.str s3_1_2, D.slice x3_1_3 e3_1_3 none,
        D.slice x3_1_4 e3_1_4 none, D.slice x3_1_5 e3_1_5 none]
      [D.int IntKind.i64 n6_2_0, D.int IntKind.i64 n6_2_1, D.str s6_2_2, D.slice x6_2_3 e6_2_3 none,
        D.slice x6_2_4 e6_2_4 none, D.slice x6_2_5 e6_2_5 none] !=
    (0 : Int)) =
  true,
      Ret Try.prog (tyOf Try.prog) (32 : Nat)
  [D.agg
      [D.int IntKind.i64 n3_1_0, D.int IntKind.i64 n3_1_1, D.str s3_1_2, D.slice x3_1_3 e3_1_3 none,
        D.slice x3_1_4 e3_1_4 none, D.slice x3_1_5 e3_1_5 none],
    D.agg
      [D.int IntKind.i64 n6_2_0, D.int IntKind.i64 n6_2_1, D.str s6_2_2, D.slice x6_2_3 e6_2_3 none,
        D.slice x6_2_4 e6_2_4 none, D.slice x6_2_5 e6_2_5 none]]
  []
  (D.int IntKind.i64
    (cV
      [D.int IntKind.i64 n3_1_0, D.int IntKind.i64 n3_1_1, D.str s3_1_2, D.slice x3_1_3 e3_1_3 none,
        D.slice x3_1_4 e3_1_4 none, D.slice x3_1_5 e3_1_5 none]
      [D.int IntKind.i64 n6_2_0, D.int IntKind.i64 n6_2_1, D.str s6_2_2, D.slice x6_2_3 e6_2_3 none,
        D.slice x6_2_4 e6_2_4 none, D.slice x6_2_5 e6_2_5 none]))
  [],
      (0 : Int) ≤ n13,
      eb[n13.toNat]? =
  some
    [D.int IntKind.i64 n6_2_0, D.int IntKind.i64 n6_2_1, D.str s6_2_2, D.slice x6_2_3 e6_2_3 none,
      D.slice x6_2_4 e6_2_4 none, D.slice x6_2_5 e6_2_5 none],
      decide (n13 ≥ (↑(List.length eb) : Int)) = false,
      (0 : Int) ≤ n13,
      ea[n13.toNat]? =
  some
    [D.int IntKind.i64 n3_1_0, D.int IntKind.i64 n3_1_1, D.str s3_1_2, D.slice x3_1_3 e3_1_3 none,
      D.slice x3_1_4 e3_1_4 none, D.slice x3_1_5 e3_1_5 none],
      decide (n13 < (↑(List.length ea) : Int)) = true]) by kernel_rfl)
    (all_cons.2 ⟨b2, all_cons.2 ⟨h3, all_cons.2 ⟨h4, all_cons.2 ⟨h5, all_cons.2 ⟨b1, all_cons.2 ⟨h4, all_cons.2 ⟨h6, all_cons.2 ⟨b0, all_nil.2 trivial⟩⟩⟩⟩⟩⟩⟩⟩))

theorem cl_0_2 {cV : Cs → Cs → Int} {xa : Bool} {ea : Es} {xb : Bool} {eb : Es} {n13 : Int} {n3_1_0 : Int} {n3_1_1 : Int} {s3_1_2 : ByteArray} {x3_1_3 : Bool} {e3_1_3 : List (List D)} {x3_1_4 : Bool} {e3_1_4 : List (List D)} {x3_1_5 : Bool} {e3_1_5 : List (List D)} {n6_2_0 : Int} {n6_2_1 : Int} {s6_2_2 : ByteArray} {x6_2_3 : Bool} {e6_2_3 : List (List D)} {x6_2_4 : Bool} {e6_2_4 : List (List D)} {x6_2_5 : Bool} {e6_2_5 : List (List D)} {r : D} {H1 : GD.Heap}
    (h0 : n13 < (↑(List.length ea) : Int))
    (h1 : ¬ (n13 ≥ (↑(List.length eb) : Int)))
    (h2 : cV
  [D.int IntKind.i64 n3_1_0, D.int IntKind.i64 n3_1_1, D.str s3_1_2, D.slice x3_1_3 e3_1_3 none,
    D.slice x3_1_4 e3_1_4 none, D.slice x3_1_5 e3_1_5 none]
  [D.int IntKind.i64 n6_2_0, D.int IntKind.i64 n6_2_1, D.str s6_2_2, D.slice x6_2_3 e6_2_3 none,
    D.slice x6_2_4 e6_2_4 none, D.slice x6_2_5 e6_2_5 none] = (0 : Int))
    (h3 : Ret Try.prog (tyOf Try.prog) (32 : Nat)
  [D.agg
      [D.int IntKind.i64 n3_1_0, D.int IntKind.i64 n3_1_1, D.str s3_1_2, D.slice x3_1_3 e3_1_3 none,
        D.slice x3_1_4 e3_1_4 none, D.slice x3_1_5 e3_1_5 none],
    D.agg
      [D.int IntKind.i64 n6_2_0, D.int IntKind.i64 n6_2_1, D.str s6_2_2, D.slice x6_2_3 e6_2_3 none,
        D.slice x6_2_4 e6_2_4 none, D.slice x6_2_5 e6_2_5 none]]
  []
  (D.int IntKind.i64
    (cV
      [D.int IntKind.i64 n3_1_0, D.int IntKind.i64 n3_1_1, D.str s3_1_2, D.slice x3_1_3 e3_1_3 none,
        D.slice x3_1_4 e3_1_4 none, D.slice x3_1_5 e3_1_5 none]
      [D.int IntKind.i64 n6_2_0, D.int IntKind.i64 n6_2_1, D.str s6_2_2, D.slice x6_2_3 e6_2_3 none,
        D.slice x6_2_4 e6_2_4 none, D.slice x6_2_5 e6_2_5 none]))
  [])
    (h4 : (0 : Int) ≤ n13)
    (h5 : eb[n13.toNat]? =
  some
    [D.int IntKind.i64 n6_2_0, D.int IntKind.i64 n6_2_1, D.str s6_2_2, D.slice x6_2_3 e6_2_3 none,
      D.slice x6_2_4 e6_2_4 none, D.slice x6_2_5 e6_2_5 none])
    (h6 : ea[n13.toNat]? =
  some
    [D.int IntKind.i64 n3_1_0, D.int IntKind.i64 n3_1_1, D.str s3_1_2, D.slice x3_1_3 e3_1_3 none,
      D.slice x3_1_4 e3_1_4 none, D.slice x3_1_5 e3_1_5 none])
    (g : cl_at0 cV xa ea xb eb (IntKind.i64.wrap (n13 + (1 : Int))) r H1) :
    cl_at0 cV xa ea xb eb n13 r H1 :=
  have b0 : decide (n13 < (↑(List.length ea) : Int)) = true := decide_eq_true h0
  have b1 : decide (n13 ≥ (↑(List.length eb) : Int)) = false := decide_eq_false h1
  have b2 : (cV
      [D.int IntKind.i64 n3_1_0, D.int IntKind.i64 n3_1_1, D.str s3_1_2, D.slice x3_1_3 e3_1_3 none,
        D.slice x3_1_4 e3_1_4 none, D.slice x3_1_5 e3_1_5 none]
      [D.int IntKind.i64 n6_2_0, D.int IntKind.i64 n6_2_1, D.str s6_2_2, D.slice x6_2_3 e6_2_3 none,
        D.slice x6_2_4 e6_2_4 none, D.slice x6_2_5 e6_2_5 none] !=
    (0 : Int)) =
  false := (by rw [bne, Bool.not_eq_false']; exact beq_iff_eq.2 h2)
  fin_loop (fin_stop (F := (fun _ => false)) (h := 0) (keep := [0, 1, 2, 11, 12, 13]) (cl_ok cV xa ea xb eb n3_1_0 n3_1_1 s3_1_2 x3_1_3 e3_1_3 x3_1_4 e3_1_4 x3_1_5 e3_1_5 n6_2_0 n6_2_1 s6_2_2 x6_2_3 e6_2_3 x6_2_4 e6_2_4 x6_2_5 e6_2_5) (show cutX (fun _ => false) [0, 1, 2, 11, 12, 13] 0 (cl_run cV xa ea xb eb n3_1_0 n3_1_1 s3_1_2 x3_1_3 e3_1_3 x3_1_4 e3_1_4 x3_1_5 e3_1_5 n6_2_0 n6_2_1 s6_2_2 x6_2_3 e6_2_3 x6_2_4 e6_2_4 x6_2_5 e6_2_5 (.code cl_l0) (.lp cl_l0 :: cl_k0) (cl_s0 cV xa ea xb eb n13) (.path [true, false, false])) = some (cl_l0, cl_k0, (cl_s0 cV xa ea xb eb (IntKind.i64.wrap (n13 + (1 : Int)))).env, (cl_s0 cV xa ea xb eb (IntKind.i64.wrap (n13 + (1 : Int)))).H,
    [(cV
      [D.int IntKind.i64 n3_1_0, D.int IntKind.i64 n3_1_1, D.str s3_1_2, D.slice x3_1_3 e3_1_3 none,
        D.slice x3_1_4 e3_1_4 none, D.slice x3_1_5 e3_1_5 none]
      [D.int IntKind.i64 n6_2_0, D.int IntKind.i64 n6_2_1, D.str s6_2_2, D.slice x6_2_3 e6_2_3 none,
        D.slice x6_2_4 e6_2_4 none, D.slice x6_2_5 e6_2_5 none] !=
    (0 : Int)) =
  false,
      Ret Try.prog (tyOf Try.prog) (32 : Nat)
  [D.agg
      [D.int IntKind.i64 n3_1_0, D.int IntKind.i64 n3_1_1, D.str s3_1_2, D.slice x3_1_3 e3_1_3 none,
        D.slice x3_1_4 e3_1_4 none, D.slice x3_1_5 e3_1_5 none],
    D.agg
      [D.int IntKind.i64 n6_2_0, D.int IntKind.i64 n6_2_1, D.str s6_2_2, D.slice x6_2_3 e6_2_3 none,
        D.slice x6_2_4 e6_2_4 none, D.slice x6_2_5 e6_2_5 none]]
  []
  (D.int IntKind.i64
    (cV
      [D.int IntKind.i64 n3_1_0, D.int IntKind.i64 n3_1_1, D.str s3_1_2, D.slice x3_1_3 e3_1_3 none,
        D.slice x3_1_4 e3_1_4 none, D.slice x3_1_5 e3_1_5 none]
      [D.int IntKind.i64 n6_2_0, D.int IntKind.i64 n6_2_1, D.str s6_2_2, D.slice x6_2_3 e6_2_3 none,
        D.slice x6_2_4 e6_2_4 none, D.slice x6_2_5 e6_2_5 none]))
  [],
      (0 : Int) ≤ n13,
      eb[n13.toNat]? =
  some
    [D.int IntKind.i64 n6_2_0, D.int IntKind.i64 n6_2_1, D.str s6_2_2, D.slice x6_2_3 e6_2_3 none,
      D.slice x6_2_4 e6_2_4 none, D.slice x6_2_5 e6_2_5 none],
      decide (n13 ≥ (↑(List.length eb) : Int)) = false,
      (0 : Int) ≤ n13,
      ea[n13.toNat]? =
  some
    [D.int IntKind.i64 n3_1_0, D.int IntKind.i64 n3_1_1, D.str s3_1_2, D.slice x3_1_3 e3_1_3 none,
      D.slice x3_1_4 e3_1_4 none, D.slice x3_1_5 e3_1_5 none],
      decide (n13 < (↑(List.length ea) : Int)) = true]) by kernel_rfl)
    (all_cons.2 ⟨b2, all_cons.2 ⟨h3, all_cons.2 ⟨h4, all_cons.2 ⟨h5, all_cons.2 ⟨b1, all_cons.2 ⟨h4, all_cons.2 ⟨h6, all_cons.2 ⟨b0, all_nil.2 trivial⟩⟩⟩⟩⟩⟩⟩⟩) (show (0 : Nat) ≤ 0 by decide) g)

theorem cl_0_3 {cV : Cs → Cs → Int} {xa : Bool} {ea : Es} {xb : Bool} {eb : Es} {n13 : Int}
    (h0 : ¬ (n13 < (↑(List.length ea) : Int)))
    (h1 : (↑(List.length ea) : Int) < (↑(List.length eb) : Int)) :
    cl_at0 cV xa ea xb eb n13 (D.int IntKind.i64 (-1 : Int)) [] :=
  have b0 : decide (n13 < (↑(List.length ea) : Int)) = false := decide_eq_false h0
  have b1 : decide ((↑(List.length ea) : Int) < (↑(List.length eb) : Int)) = true := decide_eq_true h1
  fin_loop (fin_ret (h := 0) (cl_ok cV xa ea xb eb 0 0 (ByteArray.mk #[]) false [] false [] false [] 0 0 (ByteArray.mk #[]) false [] false [] false []) (show outF (tyOf Try.prog) (fnAt Try.prog 70) 0 (cl_run cV xa ea xb eb 0 0 (ByteArray.mk #[]) false [] false [] false [] 0 0 (ByteArray.mk #[]) false [] false [] false [] (.code cl_l0) (.lp cl_l0 :: cl_k0) (cl_s0 cV xa ea xb eb n13) (.path [false, true])) = some (D.int IntKind.i64 (-1 : Int), [],
    [decide ((↑(List.length ea) : Int) < (↑(List.length eb) : Int)) = true,
      decide (n13 < (↑(List.length ea) : Int)) = false]) by kernel_rfl)
    (all_cons.2 ⟨b1, all_cons.2 ⟨b0, all_nil.2 trivial⟩⟩))

theorem cl_0_4 {cV : Cs → Cs → Int} {xa : Bool} {ea : Es} {xb : Bool} {eb : Es} {n13 : Int}
    (h0 : ¬ (n13 < (↑(List.length ea) : Int)))
    (h1 : ¬ ((↑(List.length ea) : Int) < (↑(List.length eb) : Int))) :
    cl_at0 cV xa ea xb eb n13 (D.int IntKind.i64 (0 : Int)) [] :=
  have b0 : decide (n13 < (↑(List.length ea) : Int)) = false := decide_eq_false h0
  have b1 : decide ((↑(List.length ea) : Int) < (↑(List.length eb) : Int)) = false := decide_eq_false h1
  fin_loop (fin_ret (h := 0) (cl_ok cV xa ea xb eb 0 0 (ByteArray.mk #[]) false [] false [] false [] 0 0 (ByteArray.mk #[]) false [] false [] false []) (show outF (tyOf Try.prog) (fnAt Try.prog 70) 0 (cl_run cV xa ea xb eb 0 0 (ByteArray.mk #[]) false [] false [] false [] 0 0 (ByteArray.mk #[]) false [] false [] false [] (.code cl_l0) (.lp cl_l0 :: cl_k0) (cl_s0 cV xa ea xb eb n13) (.path [false, false])) = some (D.int IntKind.i64 (0 : Int), [],
    [decide ((↑(List.length ea) : Int) < (↑(List.length eb) : Int)) = false,
      decide (n13 < (↑(List.length ea) : Int)) = false]) by kernel_rfl)
    (all_cons.2 ⟨b1, all_cons.2 ⟨b0, all_nil.2 trivial⟩⟩))


/-! ### function 67 -/
theorem cf_fn : Try.prog.funcs[(67 : Nat)]? = some (fnAt Try.prog 67) := by kernel_rfl
theorem cf_body : (fnAt Try.prog 67).body = some (bodyAt Try.prog 67) := by kernel_rfl
theorem cf_name : ((fnAt Try.prog 67).name == "runtime.NumGoroutine") = false := by kernel_rfl
noncomputable def cf_C (cF : Cs → Cs → Int) (xa : Bool) (ea : Es) (xb : Bool) (eb : Es) (s3_1_0 : ByteArray) (n3_1_1 : Int) (n3_1_2 : Int) (s3_1_3 : ByteArray) (x3_1_4 : Bool) (e3_1_4 : List (List D)) (x3_1_5 : Bool) (e3_1_5 : List (List D)) (x3_1_6 : Bool) (e3_1_6 : List (List D)) (s6_2_0 : ByteArray) (n6_2_1 : Int) (n6_2_2 : Int) (s6_2_3 : ByteArray) (x6_2_4 : Bool) (e6_2_4 : List (List D)) (x6_2_5 : Bool) (e6_2_5 : List (List D)) (x6_2_6 : Bool) (e6_2_6 : List (List D)) : Cf := cfg Try.prog (hintOf [((67 : Nat), (3 : Nat), (1 : Nat),
  Hint.c
    [D.str s3_1_0, D.int IntKind.i64 n3_1_1, D.int IntKind.i64 n3_1_2, D.str s3_1_3, D.slice x3_1_4 e3_1_4 none,
      D.slice x3_1_5 e3_1_5 none, D.slice x3_1_6 e3_1_6 none]), ((67 : Nat), (6 : Nat), (2 : Nat),
  Hint.c
    [D.str s6_2_0, D.int IntKind.i64 n6_2_1, D.int IntKind.i64 n6_2_2, D.str s6_2_3, D.slice x6_2_4 e6_2_4 none,
      D.slice x6_2_5 e6_2_5 none, D.slice x6_2_6 e6_2_6 none])]) (tF cF xa ea xb eb) (fun _ => false) 2 true (fun _ => false)
theorem cf_ok (cF : Cs → Cs → Int) (xa : Bool) (ea : Es) (xb : Bool) (eb : Es) (s3_1_0 : ByteArray) (n3_1_1 : Int) (n3_1_2 : Int) (s3_1_3 : ByteArray) (x3_1_4 : Bool) (e3_1_4 : List (List D)) (x3_1_5 : Bool) (e3_1_5 : List (List D)) (x3_1_6 : Bool) (e3_1_6 : List (List D)) (s6_2_0 : ByteArray) (n6_2_1 : Int) (n6_2_2 : Int) (s6_2_3 : ByteArray) (x6_2_4 : Bool) (e6_2_4 : List (List D)) (x6_2_5 : Bool) (e6_2_5 : List (List D)) (x6_2_6 : Bool) (e6_2_6 : List (List D)) : CfOk (cf_C cF xa ea xb eb s3_1_0 n3_1_1 n3_1_2 s3_1_3 x3_1_4 e3_1_4 x3_1_5 e3_1_5 x3_1_6 e3_1_6 s6_2_0 n6_2_1 n6_2_2 s6_2_3 x6_2_4 e6_2_4 x6_2_5 e6_2_5 x6_2_6 e6_2_6) := cfg_ok (by kernel_rfl)
noncomputable def cf_run (cF : Cs → Cs → Int) (xa : Bool) (ea : Es) (xb : Bool) (eb : Es) (s3_1_0 : ByteArray) (n3_1_1 : Int) (n3_1_2 : Int) (s3_1_3 : ByteArray) (x3_1_4 : Bool) (e3_1_4 : List (List D)) (x3_1_5 : Bool) (e3_1_5 : List (List D)) (x3_1_6 : Bool) (e3_1_6 : List (List D)) (s6_2_0 : ByteArray) (n6_2_1 : Int) (n6_2_2 : Int) (s6_2_3 : ByteArray) (x6_2_4 : Bool) (e6_2_4 : List (List D)) (x6_2_5 : Bool) (e6_2_5 : List (List D)) (x6_2_6 : Bool) (e6_2_6 : List (List D)) (qcur : Cur) (qk : List It) (qs : St) (qor : GD.Or) := runE (cf_C cF xa ea xb eb s3_1_0 n3_1_1 n3_1_2 s3_1_3 x3_1_4 e3_1_4 x3_1_5 e3_1_5 x3_1_6 e3_1_6 s6_2_0 n6_2_1 n6_2_2 s6_2_3 x6_2_4 e6_2_4 x6_2_5 e6_2_5 x6_2_6 e6_2_6) (callE (cf_C cF xa ea xb eb s3_1_0 n3_1_1 n3_1_2 s3_1_3 x3_1_4 e3_1_4 x3_1_5 e3_1_5 x3_1_6 e3_1_6 s6_2_0 n6_2_1 n6_2_2 s6_2_3 x6_2_4 e6_2_4 x6_2_5 e6_2_5 x6_2_6 e6_2_6) 100000 10) 67 100000 qcur qk qs qor []
noncomputable def cf_l0 : Code := (loopAt Try.prog 67 0).1
noncomputable def cf_k0 : List It := (loopAt Try.prog 67 0).2
/- loop 0: n13:=(0 : Int); -/
noncomputable def cf_s0 (cF : Cs → Cs → Int) (xa : Bool) (ea : Es) (xb : Bool) (eb : Es) (n13 : Int) : St := ⟨envOf 39 [(0, D.slice xa ea none), (1, D.slice xb eb none), (2, D.func (Fn.func (68 : Nat)) [] []), (11, D.slice xa ea none), (12, D.int IntKind.i64 (↑(List.length ea) : Int)), (13, D.int IntKind.i64 n13)], []⟩
def cf_at0 (cF : Cs → Cs → Int) (xa : Bool) (ea : Es) (xb : Bool) (eb : Es) (n13 : Int) (r : D) (H1 : GD.Heap) : Prop := GD.Fin Try.prog (tyOf Try.prog) (fnAt Try.prog 67) 0 (.code (.loop cf_l0)) cf_k0 (cf_s0 cF xa ea xb eb n13) r H1

theorem cf_in_0 {cF : Cs → Cs → Int} {xa : Bool} {ea : Es} {xb : Bool} {eb : Es} {r : D} {H1 : GD.Heap}
    (g : cf_at0 cF xa ea xb eb ((0 : Int)) r H1) :
    Ret Try.prog (tyOf Try.prog) 67 [D.slice xa ea none, D.slice xb eb none, D.func (Fn.func (68 : Nat)) [] []] [] r H1 :=
  fin_call cf_fn cf_body cf_name (fin_stop (F := (fun _ => false)) (h := 0) (keep := [0, 1, 2, 11, 12, 13]) (cf_ok cF xa ea xb eb (ByteArray.mk #[]) 0 0 (ByteArray.mk #[]) false [] false [] false [] (ByteArray.mk #[]) 0 0 (ByteArray.mk #[]) false [] false [] false []) (show cutX (fun _ => false) [0, 1, 2, 11, 12, 13] 0 (cf_run cF xa ea xb eb (ByteArray.mk #[]) 0 0 (ByteArray.mk #[]) false [] false [] false [] (ByteArray.mk #[]) 0 0 (ByteArray.mk #[]) false [] false [] false [] (.code (bodyAt Try.prog 67)) [] (beginE (fnAt Try.prog 67) [D.slice xa ea none, D.slice xb eb none, D.func (Fn.func (68 : Nat)) [] []] []) (.path [])) = some (cf_l0, cf_k0, (cf_s0 cF xa ea xb eb ((0 : Int))).env, (cf_s0 cF xa ea xb eb ((0 : Int))).H,
    []) by kernel_rfl)
    (all_nil.2 trivial) (show (0 : Nat) ≤ 0 by decide) g)

theorem cf_0_0 {cF : Cs → Cs → Int} {xa : Bool} {ea : Es} {xb : Bool} {eb : Es} {n13 : Int} {s3_1_0 : ByteArray} {n3_1_1 : Int} {n3_1_2 : Int} {s3_1_3 : ByteArray} {x3_1_4 : Bool} {e3_1_4 : List (List D)} {x3_1_5 : Bool} {e3_1_5 : List (List D)} {x3_1_6 : Bool} {e3_1_6 : List (List D)}
    (h0 : n13 < (↑(List.length ea) : Int))
    (h1 : n13 ≥ (↑(List.length eb) : Int))
    (h2 : (0 : Int) ≤ n13)
    (h3 : ea[n13.toNat]? =
  some
    [D.str s3_1_0, D.int IntKind.i64 n3_1_1, D.int IntKind.i64 n3_1_2, D.str s3_1_3, D.slice x3_1_4 e3_1_4 none,
      D.slice x3_1_5 e3_1_5 none, D.slice x3_1_6 e3_1_6 none]) :
    cf_at0 cF xa ea xb eb n13 (D.int IntKind.i64 (1 : Int)) [] :=
  have b0 : decide (n13 < (↑(List.length ea) : Int)) = true := decide_eq_true h0
  have b1 : decide (n13 ≥ (↑(List.length eb) : Int)) = true := decide_eq_true h1
  fin_loop (fin_ret (h := 0) (cf_ok cF xa ea xb eb s3_1_0 n3_1_1 n3_1_2 s3_1_3 x3_1_4 e3_1_4 x3_1_5 e3_1_5 x3_1_6 e3_1_6 (ByteArray.mk #[]) 0 0 (ByteArray.mk #[]) false [] false [] false []) (show outF (tyOf Try.prog) (fnAt Try.prog 67) 0 (cf_run cF xa ea xb eb s3_1_0 n3_1_1 n3_1_2 s3_1_3 x3_1_4 e3_1_4 x3_1_5 e3_1_5 x3_1_6 e3_1_6 (ByteArray.mk #[]) 0 0 (ByteArray.mk #[]) false [] false [] false [] (.code cf_l0) (.lp cf_l0 :: cf_k0) (cf_s0 cF xa ea xb eb n13) (.path [true, true])) = some (D.int IntKind.i64 (1 : Int), [],
    [decide (n13 ≥ (↑(List.length eb) : Int)) = true,
      (0 : Int) ≤ n13,
      ea[n13.toNat]? =
  some
    [D.str s3_1_0, D.int IntKind.i64 n3_1_1, D.int IntKind.i64 n3_1_2, D.str s3_1_3, D.slice x3_1_4 e3_1_4 none,
      D.slice x3_1_5 e3_1_5 none, D.slice x3_1_6 e3_1_6 none],
      decide (n13 < (↑(List.length ea) : Int)) = true]) by kernel_rfl)
    (all_cons.2 ⟨b1, all_cons.2 ⟨h2, all_cons.2 ⟨h3, all_cons.2 ⟨b0, all_nil.2 trivial⟩⟩⟩⟩))

theorem cf_0_1 {cF : Cs → Cs → Int} {xa : Bool} {ea : Es} {xb : Bool} {eb : Es} {n13 : Int} {s3_1_0 : ByteArray} {n3_1_1 : Int} {n3_1_2 : Int} {s3_1_3 : ByteArray} {x3_1_4 : Bool} {e3_1_4 : List (List D)} {x3_1_5 : Bool} {e3_1_5 : List (List D)} {x3_1_6 : Bool} {e3_1_6 : List (List D)} {s6_2_0 : ByteArray} {n6_2_1 : Int} {n6_2_2 : Int} {s6_2_3 : ByteArray} {x6_2_4 : Bool} {e6_2_4 : List (List D)} {x6_2_5 : Bool} {e6_2_5 : List (List D)} {x6_2_6 : Bool} {e6_2_6 : List (List D)}
    (h0 : n13 < (↑(List.length ea) : Int))
    (h1 : ¬ (n13 ≥ (↑(List.length eb) : Int)))
    (h2 : cF
  [D.str s3_1_0, D.int IntKind.i64 n3_1_1, D.int IntKind.i64 n3_1_2, D.str s3_1_3, D.slice x3_1_4 e3_1_4 none,
    D.slice x3_1_5 e3_1_5 none, D.slice x3_1_6 e3_1_6 none]
  [D.str s6_2_0, D.int IntKind.i64 n6_2_1, D.int IntKind.i64 n6_2_2, D.str s6_2_3, D.slice x6_2_4 e6_2_4 none,
    D.slice x6_2_5 e6_2_5 none, D.slice x6_2_6 e6_2_6 none] ≠ (0 : Int))
    (h3 : Ret Try.prog (tyOf Try.prog) (68 : Nat)
  [D.agg
      [D.str s3_1_0, D.int IntKind.i64 n3_1_1, D.int IntKind.i64 n3_1_2, D.str s3_1_3, D.slice x3_1_4 e3_1_4 none,
        D.slice x3_1_5 e3_1_5 none, D.slice x3_1_6 e3_1_6 none],
    D.agg
      [D.str s6_2_0, D.int IntKind.i64 n6_2_1, D.int IntKind.i64 n6_2_2, D.str s6_2_3, D.slice x6_2_4 e6_2_4 none,
        D.slice x6_2_5 e6_2_5 none, D.slice x6_2_6 e6_2_6 none]]
  []
  (D.int IntKind.i64
    (cF
      [D.str s3_1_0, D.int IntKind.i64 n3_1_1, D.int IntKind.i64 n3_1_2, D.str s3_1_3, D.slice x3_1_4 e3_1_4 none,
        D.slice x3_1_5 e3_1_5 none, D.slice x3_1_6 e3_1_6 none]
      [D.str s6_2_0, D.int IntKind.i64 n6_2_1, D.int IntKind.i64 n6_2_2, D.str s6_2_3, D.slice x6_2_4 e6_2_4 none,
        D.slice x6_2_5 e6_2_5 none, D.slice x6_2_6 e6_2_6 none]))
  [])
    (h4 : (0 : Int) ≤ n13)
    (h5 : eb[n13.toNat]? =
  some
    [D.str s6_2_0, D.int IntKind.i64 n6_2_1, D.int IntKind.i64 n6_2_2, D.str s6_2_3, D.slice x6_2_4 e6_2_4 none,
      D.slice x6_2_5 e6_2_5 none, D.slice x6_2_6 e6_2_6 none])
    (h6 : ea[n13.toNat]? =
  some
    [D.str s3_1_0, D.int IntKind.i64 n3_1_1, D.int IntKind.i64 n3_1_2, D.str s3_1_3, D.slice x3_1_4 e3_1_4 none,
      D.slice x3_1_5 e3_1_5 none, D.slice x3_1_6 e3_1_6 none]) :
    cf_at0 cF xa ea xb eb n13 (D.int IntKind.i64
  (cF
    [D.str s3_1_0, D.int IntKind.i64 n3_1_1, D.int IntKind.i64 n3_1_2, D.str s3_1_3, D.slice x3_1_4 e3_1_4 none,
      D.slice x3_1_5 e3_1_5 none, D.slice x3_1_6 e3_1_6 none]
    [D.str s6_2_0, D.int IntKind.i64 n6_2_1, D.int IntKind.i64 n6_2_2, D.str s6_2_3, D.slice x6_2_4 e6_2_4 none,
      D.slice x6_2_5 e6_2_5 none, D.slice x6_2_6 e6_2_6 none])) [] :=
  have b0 : decide (n13 < (↑(List.length ea) : Int)) = true := decide_eq_true h0
  have b1 : decide (n13 ≥ (↑(List.length eb) : Int)) = false := decide_eq_false h1
  have b2 : (cF
      [D.str s3_1_0, D.int IntKind.i64 n3_1_1, D.int IntKind.i64 n3_1_2, D.str s3_1_3, D.slice x3_1_4 e3_1_4 none,
        D.slice x3_1_5 e3_1_5 none, D.slice x3_1_6 e3_1_6 none]
      [D.str s6_2_0, D.int IntKind.i64 n6_2_1, D.int IntKind.i64 n6_2_2, D.str s6_2_3, D.slice x6_2_4 e6_2_4 none,
        D.slice x6_2_5 e6_2_5 none, D.slice x6_2_6 e6_2_6 none] !=
    (0 : Int)) =
  true := bne_iff_ne.2 h2
  fin_loop (fin_ret (h := 0) (cf_ok cF xa ea xb eb s3_1_0 n3_1_1 n3_1_2 s3_1_3 x3_1_4 e3_1_4 x3_1_5 e3_1_5 x3_1_6 e3_1_6 s6_2_0 n6_2_1 n6_2_2 s6_2_3 x6_2_4 e6_2_4 x6_2_5 e6_2_5 x6_2_6 e6_2_6) (show outF (tyOf Try.prog) (fnAt Try.prog 67) 0 (cf_run cF xa ea xb eb s3_1_0 n3_1_1 n3_1_2 s3_1_3 x3_1_4 e3_1_4 x3_1_5 e3_1_5 x3_1_6 e3_1_6 s6_2_0 n6_2_1 n6_2_2 s6_2_3 x6_2_4 e6_2_4 x6_2_5 e6_2_5 x6_2_6 e6_2_6 (.code cf_l0) (.lp cf_l0 :: cf_k0) (cf_s0 cF xa ea xb eb n13) (.path [true, false, true])) = some (D.int IntKind.i64
  (cF
    [D.str s3_1_0, D.int IntKind.i64 n3_1_1, D.int IntKind.i64 n3_1_2, D.str s3_1_3, D.slice x3_1_4 e3_1_4 none,
      D.slice x3_1_5 e3_1_5 none, D.slice x3_1_6 e3_1_6 none]
    [D.str s6_2_0, D.int IntKind.i64 n6_2_1, D.int IntKind.i64 n6_2_2, D.str s6_2_3, D.slice x6_2_4 e6_2_4 none,
      D.slice x6_2_5 e6_2_5 none, D.slice x6_2_6 e6_2_6 none]), [],
    [(cF
      [D.str s3_1_0, D.int IntKind.i64 n3_1_1, D.int IntKind.i64 n3_1_2, D.str s3_1_3, D.slice x3_1_4 e3_1_4 none,
        D.slice x3_1_5 e3_1_5 none, D.slice x3_1_6 e3_1_6 none]
      [D.str s6_2_0, D.int IntKind.i64 n6_2_1, D.int IntKind.i64 n6_2_2, D.str s6_2_3, D.slice x6_2_4 e6_2_4 none,
        D.slice x6_2_5 e6_2_5 none, D.slice x6_2_6 e6_2_6 none] !=
    (0 : Int)) =
  true,
      Ret Try.prog (tyOf Try.prog) (68 : Nat)
  [D.agg
      [D.str s3_1_0, D.int IntKind.i64 n3_1_1, D.int IntKind.i64 n3_1_2, D.str s3_1_3, D.slice x3_1_4 e3_1_4 none,
        D.slice x3_1_5 e3_1_5 none, D.slice x3_1_6 e3_1_6 none],
    D.agg
      [D.str s6_2_0, D.int IntKind.i64 n6_2_1, D.int IntKind.i64 n6_2_2, D.str s6_2_3, D.slice x6_2_4 e6_2_4 none,
        D.slice x6_2_5 e6_2_5 none, D.slice x6_2_6 e6_2_6 none]]
  []
  (D.int IntKind.i64
    (cF
      [D.str s3_1_0, D.int IntKind.i64 n3_1_1, D.int IntKind.i64 n3_1_2, D.str s3_1_3, D.slice x3_1_4 e3_1_4 none,
        D.slice x3_1_5 e3_1_5 none, D.slice x3_1_6 e3_1_6 none]
      [D.str s6_2_0, D.int IntKind.i64 n6_2_1, D.int IntKind.i64 n6_2_2, D.str s6_2_3, D.slice x6_2_4 e6_2_4 none,
        D.slice x6_2_5 e6_2_5 none, D.slice x6_2_6 e6_2_6 none]))
  [],
      (0 : Int) ≤ n13,
      eb[n13.toNat]? =
  some
    [D.str s6_2_0, D.int IntKind.i64 n6_2_1, D.int IntKind.i64 n6_2_2, D.str s6_2_3, D.slice x6_2_4 e6_2_4 none,
      D.slice x6_2_5 e6_2_5 none, D.slice x6_2_6 e6_2_6 none],
      decide (n13 ≥ (↑(List.length eb) : Int)) = false,
      (0 : Int) ≤ n13,
      ea[n13.toNat]? =
  some
    [D.str s3_1_0, D.int IntKind.i64 n3_1_1, D.int IntKind.i64 n3_1_2, D.str s3_1_3, D.slice x3_1_4 e3_1_4 none,
      D.slice x3_1_5 e3_1_5 none, D.slice x3_1_6 e3_1_6 none],
      decide (n13 < (↑(List.length ea) : Int)) = true]) by kernel_rfl)
    (all_cons.2 ⟨b2, all_cons.2 ⟨h3, all_cons.2 ⟨h4, all_cons.2 ⟨h5, all_cons.2 ⟨b1, all_cons.2 ⟨h4, all_cons.2 ⟨h6, all_cons.2 ⟨b0, all_nil.2 trivial⟩⟩⟩⟩⟩⟩⟩⟩))

theorem cf_0_2 {cF : Cs → Cs → Int} {xa : Bool} {ea : Es} {xb : Bool} {eb : Es} {n13 : Int} {s3_1_0 : ByteArray} {n3_1_1 : Int} {n3_1_2 : Int} {s3_1_3 : ByteArray} {x3_1_4 : Bool} {e3_1_4 : List (List D)} {x3_1_5 : Bool} {e3_1_5 : List (List D)} {x3_1_6 : Bool} {e3_1_6 : List (List D)} {s6_2_0 : ByteArray} {n6_2_1 : Int} {n6_2_2 : Int} {s6_2_3 : ByteArray} {x6_2_4 : Bool} {e6_2_4 : List (List D)} {x6_2_5 : Bool} {e6_2_5 : List (List D)} {x6_2_6 : Bool} {e6_2_6 : List (List D)} {r : D} {H1 : GD.Heap}
    (h0 : n13 < (↑(List.length ea) : Int))
    (h1 : ¬ (n13 ≥ (↑(List.length eb) : Int)))
    (h2 : cF
  [D.str s3_1_0, D.int IntKind.i64 n3_1_1, D.int IntKind.i64 n3_1_2, D.str s3_1_3, D.slice x3_1_4 e3_1_4 none,
    D.slice x3_1_5 e3_1_5 none, D.slice x3_1_6 e3_1_6 none]
  [D.str s6_2_0, D.int IntKind.i64 n6_2_1, D.int IntKind.i64 n6_2_2, D.str s6_2_3, D.slice x6_2_4 e6_2_4 none,
    D.slice x6_2_5 e6_2_5 none, D.slice x6_2_6 e6_2_6 none] = (0 : Int))
    (h3 : Ret Try.prog (tyOf Try.prog) (68 : Nat)
  [D.agg
      [D.str s3_1_0, D.int IntKind.i64 n3_1_1, D.int IntKind.i64 n3_1_2, D.str s3_1_3, D.slice x3_1_4 e3_1_4 none,
        D.slice x3_1_5 e3_1_5 none, D.slice x3_1_6 e3_1_6 none],
    D.agg
      [D.str s6_2_0, D.int IntKind.i64 n6_2_1, D.int IntKind.i64 n6_2_2, D.str s6_2_3, D.slice x6_2_4 e6_2_4 none,
        D.slice x6_2_5 e6_2_5 none, D.slice x6_2_6 e6_2_6 none]]
  []
  (D.int IntKind.i64
    (cF
      [D.str s3_1_0, D.int IntKind.i64 n3_1_1, D.int IntKind.i64 n3_1_2, D.str s3_1_3, D.slice x3_1_4 e3_1_4 none,
        D.slice x3_1_5 e3_1_5 none, D.slice x3_1_6 e3_1_6 none]
      [D.str s6_2_0, D.int IntKind.i64 n6_2_1, D.int IntKind.i64 n6_2_2, D.str s6_2_3, D.slice x6_2_4 e6_2_4 none,
        D.slice x6_2_5 e6_2_5 none, D.slice x6_2_6 e6_2_6 none]))
  [])
    (h4 : (0 : Int) ≤ n13)
    (h5 : eb[n13.toNat]? =
  some
    [D.str s6_2_0, D.int IntKind.i64 n6_2_1, D.int IntKind.i64 n6_2_2, D.str s6_2_3, D.slice x6_2_4 e6_2_4 none,
      D.slice x6_2_5 e6_2_5 none, D.slice x6_2_6 e6_2_6 none])
    (h6 : ea[n13.toNat]? =
  some
    [D.str s3_1_0, D.int IntKind.i64 n3_1_1, D.int IntKind.i64 n3_1_2, D.str s3_1_3, D.slice x3_1_4 e3_1_4 none,
      D.slice x3_1_5 e3_1_5 none, D.slice x3_1_6 e3_1_6 none])
    (g : cf_at0 cF xa ea xb eb (IntKind.i64.wrap (n13 + (1 : Int))) r H1) :
    cf_at0 cF xa ea xb eb n13 r H1 :=
  have b0 : decide (n13 < (↑(List.length ea) : Int)) = true := decide_eq_true h0
  have b1 : decide (n13 ≥ (↑(List.length eb) : Int)) = false := decide_eq_false h1
  have b2 : (cF
      [D.str s3_1_0, D.int IntKind.i64 n3_1_1, D.int IntKind.i64 n3_1_2, D.str s3_1_3, D.slice x3_1_4 e3_1_4 none,
        D.slice x3_1_5 e3_1_5 none, D.slice x3_1_6 e3_1_6 none]
      [D.str s6_2_0, D.int IntKind.i64 n6_2_1, D.int IntKind.i64 n6_2_2, D.str s6_2_3, D.slice x6_2_4 e6_2_4 none,
        D.slice x6_2_5 e6_2_5 none, D.slice x6_2_6 e6_2_6 none] !=
    (0 : Int)) =
  false := (by rw [bne, Bool.not_eq_false']; exact beq_iff_eq.2 h2)
  fin_loop (fin_stop (F := (fun _ => false)) (h := 0) (keep := [0, 1, 2, 11, 12, 13]) (cf_ok cF xa ea xb eb s3_1_0 n3_1_1 n3_1_2 s3_1_3 x3_1_4 e3_1_4 x3_1_5 e3_1_5 x3_1_6 e3_1_6 s6_2_0 n6_2_1 n6_2_2 s6_2_3 x6_2_4 e6_2_4 x6_2_5 e6_2_5 x6_2_6 e6_2_6) (show cutX (fun _ => false) [0, 1, 2, 11, 12, 13] 0 (cf_run cF xa ea xb eb s3_1_0 n3_1_1 n3_1_2 s3_1_3 x3_1_4 e3_1_4 x3_1_5 e3_1_5 x3_1_6 e3_1_6 s6_2_0 n6_2_1 n6_2_2 s6_2_3 x6_2_4 e6_2_4 x6_2_5 e6_2_5 x6_2_6 e6_2_6 (.code cf_l0) (.lp cf_l0 :: cf_k0) (cf_s0 cF xa ea xb eb n13) (.path [true, false, false])) = some (cf_l0, cf_k0, (cf_s0 cF xa ea xb eb (IntKind.i64.wrap (n13 + (1 : Int)))).env, (cf_s0 cF xa ea xb eb (IntKind.i64.wrap (n13 + (1 : Int)))).H,
    [(cF
      [D.str s3_1_0, D.int IntKind.i64 n3_1_1, D.int IntKind.i64 n3_1_2, D.str s3_1_3, D.slice x3_1_4 e3_1_4 none,
        D.slice x3_1_5 e3_1_5 none, D.slice x3_1_6 e3_1_6 none]
      [D.str s6_2_0, D.int IntKind.i64 n6_2_1, D.int IntKind.i64 n6_2_2, D.str s6_2_3, D.slice x6_2_4 e6_2_4 none,
        D.slice x6_2_5 e6_2_5 none, D.slice x6_2_6 e6_2_6 none] !=
    (0 : Int)) =
  false,
      Ret Try.prog (tyOf Try.prog) (68 : Nat)
  [D.agg
      [D.str s3_1_0, D.int IntKind.i64 n3_1_1, D.int IntKind.i64 n3_1_2, D.str s3_1_3, D.slice x3_1_4 e3_1_4 none,
        D.slice x3_1_5 e3_1_5 none, D.slice x3_1_6 e3_1_6 none],
    D.agg
      [D.str s6_2_0, D.int IntKind.i64 n6_2_1, D.int IntKind.i64 n6_2_2, D.str s6_2_3, D.slice x6_2_4 e6_2_4 none,
        D.slice x6_2_5 e6_2_5 none, D.slice x6_2_6 e6_2_6 none]]
  []
  (D.int IntKind.i64
    (cF
      [D.str s3_1_0, D.int IntKind.i64 n3_1_1, D.int IntKind.i64 n3_1_2, D.str s3_1_3, D.slice x3_1_4 e3_1_4 none,
        D.slice x3_1_5 e3_1_5 none, D.slice x3_1_6 e3_1_6 none]
      [D.str s6_2_0, D.int IntKind.i64 n6_2_1, D.int IntKind.i64 n6_2_2, D.str s6_2_3, D.slice x6_2_4 e6_2_4 none,
        D.slice x6_2_5 e6_2_5 none, D.slice x6_2_6 e6_2_6 none]))
  [],
      (0 : Int) ≤ n13,
      eb[n13.toNat]? =
  some
    [D.str s6_2_0, D.int IntKind.i64 n6_2_1, D.int IntKind.i64 n6_2_2, D.str s6_2_3, D.slice x6_2_4 e6_2_4 none,
      D.slice x6_2_5 e6_2_5 none, D.slice x6_2_6 e6_2_6 none],
      decide (n13 ≥ (↑(List.length eb) : Int)) = false,
      (0 : Int) ≤ n13,
      ea[n13.toNat]? =
  some
    [D.str s3_1_0, D.int IntKind.i64 n3_1_1, D.int IntKind.i64 n3_1_2, D.str s3_1_3, D.slice x3_1_4 e3_1_4 none,
      D.slice x3_1_5 e3_1_5 none, D.slice x3_1_6 e3_1_6 none],
      decide (n13 < (↑(List.length ea) : Int)) = true]) by kernel_rfl)
    (all_cons.2 ⟨b2, all_cons.2 ⟨h3, all_cons.2 ⟨h4, all_cons.2 ⟨h5, all_cons.2 ⟨b1, all_cons.2 ⟨h4, all_cons.2 ⟨h6, all_cons.2 ⟨b0, all_nil.2 trivial⟩⟩⟩⟩⟩⟩⟩⟩) (show (0 : Nat) ≤ 0 by decide) g)

theorem cf_0_3 {cF : Cs → Cs → Int} {xa : Bool} {ea : Es} {xb : Bool} {eb : Es} {n13 : Int}
    (h0 : ¬ (n13 < (↑(List.length ea) : Int)))
    (h1 : (↑(List.length ea) : Int) < (↑(List.length eb) : Int)) :
    cf_at0 cF xa ea xb eb n13 (D.int IntKind.i64 (-1 : Int)) [] :=
  have b0 : decide (n13 < (↑(List.length ea) : Int)) = false := decide_eq_false h0
  have b1 : decide ((↑(List.length ea) : Int) < (↑(List.length eb) : Int)) = true := decide_eq_true h1
  fin_loop (fin_ret (h := 0) (cf_ok cF xa ea xb eb (ByteArray.mk #[]) 0 0 (ByteArray.mk #[]) false [] false [] false [] (ByteArray.mk #[]) 0 0 (ByteArray.mk #[]) false [] false [] false []) (show outF (tyOf Try.prog) (fnAt Try.prog 67) 0 (cf_run cF xa ea xb eb (ByteArray.mk #[]) 0 0 (ByteArray.mk #[]) false [] false [] false [] (ByteArray.mk #[]) 0 0 (ByteArray.mk #[]) false [] false [] false [] (.code cf_l0) (.lp cf_l0 :: cf_k0) (cf_s0 cF xa ea xb eb n13) (.path [false, true])) = some (D.int IntKind.i64 (-1 : Int), [],
    [decide ((↑(List.length ea) : Int) < (↑(List.length eb) : Int)) = true,
      decide (n13 < (↑(List.length ea) : Int)) = false]) by kernel_rfl)
    (all_cons.2 ⟨b1, all_cons.2 ⟨b0, all_nil.2 trivial⟩⟩))

theorem cf_0_4 {cF : Cs → Cs → Int} {xa : Bool} {ea : Es} {xb : Bool} {eb : Es} {n13 : Int}
    (h0 : ¬ (n13 < (↑(List.length ea) : Int)))
    (h1 : ¬ ((↑(List.length ea) : Int) < (↑(List.length eb) : Int))) :
    cf_at0 cF xa ea xb eb n13 (D.int IntKind.i64 (0 : Int)) [] :=
  have b0 : decide (n13 < (↑(List.length ea) : Int)) = false := decide_eq_false h0
  have b1 : decide ((↑(List.length ea) : Int) < (↑(List.length eb) : Int)) = false := decide_eq_false h1
  fin_loop (fin_ret (h := 0) (cf_ok cF xa ea xb eb (ByteArray.mk #[]) 0 0 (ByteArray.mk #[]) false [] false [] false [] (ByteArray.mk #[]) 0 0 (ByteArray.mk #[]) false [] false [] false []) (show outF (tyOf Try.prog) (fnAt Try.prog 67) 0 (cf_run cF xa ea xb eb (ByteArray.mk #[]) 0 0 (ByteArray.mk #[]) false [] false [] false [] (ByteArray.mk #[]) 0 0 (ByteArray.mk #[]) false [] false [] false [] (.code cf_l0) (.lp cf_l0 :: cf_k0) (cf_s0 cF xa ea xb eb n13) (.path [false, false])) = some (D.int IntKind.i64 (0 : Int), [],
    [decide ((↑(List.length ea) : Int) < (↑(List.length eb) : Int)) = false,
      decide (n13 < (↑(List.length ea) : Int)) = false]) by kernel_rfl)
    (all_cons.2 ⟨b1, all_cons.2 ⟨b0, all_nil.2 trivial⟩⟩))


/-! ### function 68 -/
theorem fl_fn : Try.prog.funcs[(68 : Nat)]? = some (fnAt Try.prog 68) := by kernel_rfl
theorem fl_body : (fnAt Try.prog 68).body = some (bodyAt Try.prog 68) := by kernel_rfl
theorem fl_name : ((fnAt Try.prog 68).name == "runtime.NumGoroutine") = false := by kernel_rfl
noncomputable def fl_C (cV : Cs → Cs → Int) (nm : ByteArray) (k : Int) (n : Int) (s : ByteArray) (xb : Bool) (eb : Es) (xf : Bool) (ef : Es) (xl : Bool) (el : Es) (nm' : ByteArray) (k' : Int) (n' : Int) (s' : ByteArray) (xb' : Bool) (eb' : Es) (xf' : Bool) (ef' : Es) (xl' : Bool) (el' : Es) : Cf := cfg Try.prog (hintOf []) (tFl cV nm k n s xb eb xf ef xl el nm' k' n' s' xb' eb' xf' ef' xl' el') (fun g => match g with | 72 => true | _ => false) 2 true (fun _ => false)
theorem fl_ok (cV : Cs → Cs → Int) (nm : ByteArray) (k : Int) (n : Int) (s : ByteArray) (xb : Bool) (eb : Es) (xf : Bool) (ef : Es) (xl : Bool) (el : Es) (nm' : ByteArray) (k' : Int) (n' : Int) (s' : ByteArray) (xb' : Bool) (eb' : Es) (xf' : Bool) (ef' : Es) (xl' : Bool) (el' : Es) : CfOk (fl_C cV nm k n s xb eb xf ef xl el nm' k' n' s' xb' eb' xf' ef' xl' el') := cfg_ok (by kernel_rfl)
noncomputable def fl_run (cV : Cs → Cs → Int) (nm : ByteArray) (k : Int) (n : Int) (s : ByteArray) (xb : Bool) (eb : Es) (xf : Bool) (ef : Es) (xl : Bool) (el : Es) (nm' : ByteArray) (k' : Int) (n' : Int) (s' : ByteArray) (xb' : Bool) (eb' : Es) (xf' : Bool) (ef' : Es) (xl' : Bool) (el' : Es) (qcur : Cur) (qk : List It) (qs : St) (qor : GD.Or) := runE (fl_C cV nm k n s xb eb xf ef xl el nm' k' n' s' xb' eb' xf' ef' xl' el') (callE (fl_C cV nm k n s xb eb xf ef xl el nm' k' n' s' xb' eb' xf' ef' xl' el') 100000 10) 68 100000 qcur qk qs qor []

theorem fl_in_0 {cV : Cs → Cs → Int} {nm : ByteArray} {k : Int} {n : Int} {s : ByteArray} {xb : Bool} {eb : Es} {xf : Bool} {ef : Es} {xl : Bool} {el : Es} {nm' : ByteArray} {k' : Int} {n' : Int} {s' : ByteArray} {xb' : Bool} {eb' : Es} {xf' : Bool} {ef' : Es} {xl' : Bool} {el' : Es}
    (h0 : Ret Try.prog (tyOf Try.prog) (72 : Nat)
  [D.slice true
      [[D.int IntKind.i64 (sgnU (classU k) (classU k'))], [D.int IntKind.i64 (lexB nm nm')],
        [D.int IntKind.i64
            (cV
              [D.int IntKind.i64 k, D.int IntKind.i64 n, D.str s, D.slice xb eb none, D.slice xf ef none,
                D.slice xl el none]
              [D.int IntKind.i64 k', D.int IntKind.i64 n', D.str s', D.slice xb' eb' none, D.slice xf' ef' none,
                D.slice xl' el' none])]]
      none]
  []
  (D.int IntKind.i64
    (orE
      [[D.int IntKind.i64 (sgnU (classU k) (classU k'))], [D.int IntKind.i64 (lexB nm nm')],
        [D.int IntKind.i64
            (cV
              [D.int IntKind.i64 k, D.int IntKind.i64 n, D.str s, D.slice xb eb none, D.slice xf ef none,
                D.slice xl el none]
              [D.int IntKind.i64 k', D.int IntKind.i64 n', D.str s', D.slice xb' eb' none, D.slice xf' ef' none,
                D.slice xl' el' none])]]))
  [])
    (h1 : Ret Try.prog (tyOf Try.prog) (32 : Nat)
  [D.agg
      [D.int IntKind.i64 k, D.int IntKind.i64 n, D.str s, D.slice xb eb none, D.slice xf ef none, D.slice xl el none],
    D.agg
      [D.int IntKind.i64 k', D.int IntKind.i64 n', D.str s', D.slice xb' eb' none, D.slice xf' ef' none,
        D.slice xl' el' none]]
  []
  (D.int IntKind.i64
    (cV [D.int IntKind.i64 k, D.int IntKind.i64 n, D.str s, D.slice xb eb none, D.slice xf ef none, D.slice xl el none]
      [D.int IntKind.i64 k', D.int IntKind.i64 n', D.str s', D.slice xb' eb' none, D.slice xf' ef' none,
        D.slice xl' el' none]))
  []) :
    Ret Try.prog (tyOf Try.prog) 68 [D.agg
    [D.str nm, D.int IntKind.i64 k, D.int IntKind.i64 n, D.str s, D.slice xb eb none, D.slice xf ef none,
      D.slice xl el none],
  D.agg
    [D.str nm', D.int IntKind.i64 k', D.int IntKind.i64 n', D.str s', D.slice xb' eb' none, D.slice xf' ef' none,
      D.slice xl' el' none]] [] (D.int IntKind.i64
  (orE
    [[D.int IntKind.i64 (sgnU (classU k) (classU k'))], [D.int IntKind.i64 (lexB nm nm')],
      [D.int IntKind.i64
          (cV
            [D.int IntKind.i64 k, D.int IntKind.i64 n, D.str s, D.slice xb eb none, D.slice xf ef none,
              D.slice xl el none]
            [D.int IntKind.i64 k', D.int IntKind.i64 n', D.str s', D.slice xb' eb' none, D.slice xf' ef' none,
              D.slice xl' el' none])]])) [] :=
  fin_call fl_fn fl_body fl_name (fin_ret (h := 0) (fl_ok cV nm k n s xb eb xf ef xl el nm' k' n' s' xb' eb' xf' ef' xl' el') (show outF (tyOf Try.prog) (fnAt Try.prog 68) 0 (fl_run cV nm k n s xb eb xf ef xl el nm' k' n' s' xb' eb' xf' ef' xl' el' (.code (bodyAt Try.prog 68)) [] (beginE (fnAt Try.prog 68) [D.agg
    [D.str nm, D.int IntKind.i64 k, D.int IntKind.i64 n, D.str s, D.slice xb eb none, D.slice xf ef none,
      D.slice xl el none],
  D.agg
    [D.str nm', D.int IntKind.i64 k', D.int IntKind.i64 n', D.str s', D.slice xb' eb' none, D.slice xf' ef' none,
      D.slice xl' el' none]] []) (.path [])) = some (D.int IntKind.i64
  (orE
    [[D.int IntKind.i64 (sgnU (classU k) (classU k'))], [D.int IntKind.i64 (lexB nm nm')],
      [D.int IntKind.i64
          (cV
            [D.int IntKind.i64 k, D.int IntKind.i64 n, D.str s, D.slice xb eb none, D.slice xf ef none,
              D.slice xl el none]
            [D.int IntKind.i64 k', D.int IntKind.i64 n', D.str s', D.slice xb' eb' none, D.slice xf' ef' none,
              D.slice xl' el' none])]]), [],
    [Ret Try.prog (tyOf Try.prog) (72 : Nat)
  [D.slice true
      [[D.int IntKind.i64 (sgnU (classU k) (classU k'))], [D.int IntKind.i64 (lexB nm nm')],
        [D.int IntKind.i64
            (cV
              [D.int IntKind.i64 k, D.int IntKind.i64 n, D.str s, D.slice xb eb none, D.slice xf ef none,
                D.slice xl el none]
              [D.int IntKind.i64 k', D.int IntKind.i64 n', D.str s', D.slice xb' eb' none, D.slice xf' ef' none,
                D.slice xl' el' none])]]
      none]
  []
  (D.int IntKind.i64
    (orE
      [[D.int IntKind.i64 (sgnU (classU k) (classU k'))], [D.int IntKind.i64 (lexB nm nm')],
        [D.int IntKind.i64
            (cV
              [D.int IntKind.i64 k, D.int IntKind.i64 n, D.str s, D.slice xb eb none, D.slice xf ef none,
                D.slice xl el none]
              [D.int IntKind.i64 k', D.int IntKind.i64 n', D.str s', D.slice xb' eb' none, D.slice xf' ef' none,
                D.slice xl' el' none])]]))
  [],
      Ret Try.prog (tyOf Try.prog) (32 : Nat)
  [D.agg
      [D.int IntKind.i64 k, D.int IntKind.i64 n, D.str s, D.slice xb eb none, D.slice xf ef none, D.slice xl el none],
    D.agg
      [D.int IntKind.i64 k', D.int IntKind.i64 n', D.str s', D.slice xb' eb' none, D.slice xf' ef' none,
        D.slice xl' el' none]]
  []
  (D.int IntKind.i64
    (cV [D.int IntKind.i64 k, D.int IntKind.i64 n, D.str s, D.slice xb eb none, D.slice xf ef none, D.slice xl el none]
      [D.int IntKind.i64 k', D.int IntKind.i64 n', D.str s', D.slice xb' eb' none, D.slice xf' ef' none,
        D.slice xl' el' none]))
  [],
      Ret Try.prog (tyOf Try.prog) (65 : Nat) [D.str nm, D.str nm'] [] (D.int IntKind.i64 (lexB nm nm')) [],
      Ret Try.prog (tyOf Try.prog) (54 : Nat) [D.int IntKind.i64 (classU k), D.int IntKind.i64 (classU k')] []
  (D.int IntKind.i64 (sgnU (classU k) (classU k'))) [],
      Ret Try.prog (tyOf Try.prog) (34 : Nat) [D.int IntKind.i64 k'] [] (D.int IntKind.i64 (classU k')) [],
      Ret Try.prog (tyOf Try.prog) (34 : Nat) [D.int IntKind.i64 k] [] (D.int IntKind.i64 (classU k)) []]) by kernel_rfl)
    (all_cons.2 ⟨h0, all_cons.2 ⟨h1, all_cons.2 ⟨(cmp65 _ _), all_cons.2 ⟨(cmp54 _ _), all_cons.2 ⟨(cls34 _), all_cons.2 ⟨(cls34 _), all_nil.2 trivial⟩⟩⟩⟩⟩⟩))


/-! ### function 32 -/
theorem cv_fn : Try.prog.funcs[(32 : Nat)]? = some (fnAt Try.prog 32) := by kernel_rfl
theorem cv_body : (fnAt Try.prog 32).body = some (bodyAt Try.prog 32) := by kernel_rfl
theorem cv_name : ((fnAt Try.prog 32).name == "runtime.NumGoroutine") = false := by kernel_rfl
noncomputable def cv_C (cLs : Es → Es → Int) (cFs : Es → Es → Int) (k : Int) (n : Int) (s : ByteArray) (xb : Bool) (eb : Es) (xf : Bool) (ef : Es) (xl : Bool) (el : Es) (k' : Int) (n' : Int) (s' : ByteArray) (xb' : Bool) (eb' : Es) (xf' : Bool) (ef' : Es) (xl' : Bool) (el' : Es) : Cf := cfg Try.prog (hintOf []) (tV cLs cFs k n s xb eb xf ef xl el k' n' s' xb' eb' xf' ef' xl' el') (fun g => match g with | 72 => true | _ => false) 2 true (fun _ => false)
theorem cv_ok (cLs : Es → Es → Int) (cFs : Es → Es → Int) (k : Int) (n : Int) (s : ByteArray) (xb : Bool) (eb : Es) (xf : Bool) (ef : Es) (xl : Bool) (el : Es) (k' : Int) (n' : Int) (s' : ByteArray) (xb' : Bool) (eb' : Es) (xf' : Bool) (ef' : Es) (xl' : Bool) (el' : Es) : CfOk (cv_C cLs cFs k n s xb eb xf ef xl el k' n' s' xb' eb' xf' ef' xl' el') := cfg_ok (by kernel_rfl)
noncomputable def cv_run (cLs : Es → Es → Int) (cFs : Es → Es → Int) (k : Int) (n : Int) (s : ByteArray) (xb : Bool) (eb : Es) (xf : Bool) (ef : Es) (xl : Bool) (el : Es) (k' : Int) (n' : Int) (s' : ByteArray) (xb' : Bool) (eb' : Es) (xf' : Bool) (ef' : Es) (xl' : Bool) (el' : Es) (qcur : Cur) (qk : List It) (qs : St) (qor : GD.Or) := runE (cv_C cLs cFs k n s xb eb xf ef xl el k' n' s' xb' eb' xf' ef' xl' el') (callE (cv_C cLs cFs k n s xb eb xf ef xl el k' n' s' xb' eb' xf' ef' xl' el') 100000 10) 32 100000 qcur qk qs qor []

theorem cv_in_0 {cLs : Es → Es → Int} {cFs : Es → Es → Int} {k : Int} {n : Int} {s : ByteArray} {xb : Bool} {eb : Es} {xf : Bool} {ef : Es} {xl : Bool} {el : Es} {k' : Int} {n' : Int} {s' : ByteArray} {xb' : Bool} {eb' : Es} {xf' : Bool} {ef' : Es} {xl' : Bool} {el' : Es}
    (h0 : sgnU (classU k) (classU k') ≠ (0 : Int)) :
    Ret Try.prog (tyOf Try.prog) 32 [D.agg [D.int IntKind.i64 k, D.int IntKind.i64 n, D.str s, D.slice xb eb none, D.slice xf ef none, D.slice xl el none],
  D.agg
    [D.int IntKind.i64 k', D.int IntKind.i64 n', D.str s', D.slice xb' eb' none, D.slice xf' ef' none,
      D.slice xl' el' none]] [] (D.int IntKind.i64 (sgnU (classU k) (classU k'))) [] :=
  have b0 : (sgnU (classU k) (classU k') != (0 : Int)) = true := bne_iff_ne.2 h0
  fin_call cv_fn cv_body cv_name (fin_ret (h := 0) (cv_ok cLs cFs k n s xb eb xf ef xl el k' n' s' xb' eb' xf' ef' xl' el') (show outF (tyOf Try.prog) (fnAt Try.prog 32) 0 (cv_run cLs cFs k n s xb eb xf ef xl el k' n' s' xb' eb' xf' ef' xl' el' (.code (bodyAt Try.prog 32)) [] (beginE (fnAt Try.prog 32) [D.agg [D.int IntKind.i64 k, D.int IntKind.i64 n, D.str s, D.slice xb eb none, D.slice xf ef none, D.slice xl el none],
  D.agg
    [D.int IntKind.i64 k', D.int IntKind.i64 n', D.str s', D.slice xb' eb' none, D.slice xf' ef' none,
      D.slice xl' el' none]] []) (.path [true])) = some (D.int IntKind.i64 (sgnU (classU k) (classU k')), [],
    [(sgnU (classU k) (classU k') != (0 : Int)) = true,
      Ret Try.prog (tyOf Try.prog) (54 : Nat) [D.int IntKind.i64 (classU k), D.int IntKind.i64 (classU k')] []
  (D.int IntKind.i64 (sgnU (classU k) (classU k'))) [],
      Ret Try.prog (tyOf Try.prog) (34 : Nat) [D.int IntKind.i64 k'] [] (D.int IntKind.i64 (classU k')) [],
      Ret Try.prog (tyOf Try.prog) (34 : Nat) [D.int IntKind.i64 k] [] (D.int IntKind.i64 (classU k)) []]) by kernel_rfl)
    (all_cons.2 ⟨b0, all_cons.2 ⟨(cmp54 _ _), all_cons.2 ⟨(cls34 _), all_cons.2 ⟨(cls34 _), all_nil.2 trivial⟩⟩⟩⟩))

theorem cv_in_1 {cLs : Es → Es → Int} {cFs : Es → Es → Int} {k : Int} {n : Int} {s : ByteArray} {xb : Bool} {eb : Es} {xf : Bool} {ef : Es} {xl : Bool} {el : Es} {k' : Int} {n' : Int} {s' : ByteArray} {xb' : Bool} {eb' : Es} {xf' : Bool} {ef' : Es} {xl' : Bool} {el' : Es}
    (h0 : sgnU (classU k) (classU k') = (0 : Int))
    (h1 : k = (3 : Int)) :
    Ret Try.prog (tyOf Try.prog) 32 [D.agg [D.int IntKind.i64 k, D.int IntKind.i64 n, D.str s, D.slice xb eb none, D.slice xf ef none, D.slice xl el none],
  D.agg
    [D.int IntKind.i64 k', D.int IntKind.i64 n', D.str s', D.slice xb' eb' none, D.slice xf' ef' none,
      D.slice xl' el' none]] [] (D.int IntKind.i64 (sgnU n n')) [] :=
  have b0 : (sgnU (classU k) (classU k') != (0 : Int)) = false := (by rw [bne, Bool.not_eq_false']; exact beq_iff_eq.2 h0)
  have b1 : (k == (3 : Int)) = true := beq_iff_eq.2 h1
  fin_call cv_fn cv_body cv_name (fin_ret (h := 0) (cv_ok cLs cFs k n s xb eb xf ef xl el k' n' s' xb' eb' xf' ef' xl' el') (show outF (tyOf Try.prog) (fnAt Try.prog 32) 0 (cv_run cLs cFs k n s xb eb xf ef xl el k' n' s' xb' eb' xf' ef' xl' el' (.code (bodyAt Try.prog 32)) [] (beginE (fnAt Try.prog 32) [D.agg [D.int IntKind.i64 k, D.int IntKind.i64 n, D.str s, D.slice xb eb none, D.slice xf ef none, D.slice xl el none],
  D.agg
    [D.int IntKind.i64 k', D.int IntKind.i64 n', D.str s', D.slice xb' eb' none, D.slice xf' ef' none,
      D.slice xl' el' none]] []) (.path [false, true, true])) = some (D.int IntKind.i64 (sgnU n n'), [],
    [Ret Try.prog (tyOf Try.prog) (63 : Nat) [D.int IntKind.i64 n, D.int IntKind.i64 n'] [] (D.int IntKind.i64 (sgnU n n'))
  [],
      (k == (3 : Int)) = true,
      (k == (3 : Int)) = true,
      (sgnU (classU k) (classU k') != (0 : Int)) = false,
      Ret Try.prog (tyOf Try.prog) (54 : Nat) [D.int IntKind.i64 (classU k), D.int IntKind.i64 (classU k')] []
  (D.int IntKind.i64 (sgnU (classU k) (classU k'))) [],
      Ret Try.prog (tyOf Try.prog) (34 : Nat) [D.int IntKind.i64 k'] [] (D.int IntKind.i64 (classU k')) [],
      Ret Try.prog (tyOf Try.prog) (34 : Nat) [D.int IntKind.i64 k] [] (D.int IntKind.i64 (classU k)) []]) by kernel_rfl)
    (all_cons.2 ⟨(cmp63 _ _), all_cons.2 ⟨b1, all_cons.2 ⟨b1, all_cons.2 ⟨b0, all_cons.2 ⟨(cmp54 _ _), all_cons.2 ⟨(cls34 _), all_cons.2 ⟨(cls34 _), all_nil.2 trivial⟩⟩⟩⟩⟩⟩⟩))

theorem cv_in_2 {cLs : Es → Es → Int} {cFs : Es → Es → Int} {k : Int} {n : Int} {s : ByteArray} {xb : Bool} {eb : Es} {xf : Bool} {ef : Es} {xl : Bool} {el : Es} {k' : Int} {n' : Int} {s' : ByteArray} {xb' : Bool} {eb' : Es} {xf' : Bool} {ef' : Es} {xl' : Bool} {el' : Es}
    (h0 : sgnU (classU k) (classU k') = (0 : Int))
    (h1 : k ≠ (3 : Int))
    (h2 : k = (4 : Int)) :
    Ret Try.prog (tyOf Try.prog) 32 [D.agg [D.int IntKind.i64 k, D.int IntKind.i64 n, D.str s, D.slice xb eb none, D.slice xf ef none, D.slice xl el none],
  D.agg
    [D.int IntKind.i64 k', D.int IntKind.i64 n', D.str s', D.slice xb' eb' none, D.slice xf' ef' none,
      D.slice xl' el' none]] [] (D.int IntKind.i64 (sgnU n n')) [] :=
  have b0 : (sgnU (classU k) (classU k') != (0 : Int)) = false := (by rw [bne, Bool.not_eq_false']; exact beq_iff_eq.2 h0)
  have b1 : (k == (3 : Int)) = false := beq_eq_false_iff_ne.2 h1
  have b2 : (k == (4 : Int)) = true := beq_iff_eq.2 h2
  fin_call cv_fn cv_body cv_name (fin_ret (h := 0) (cv_ok cLs cFs k n s xb eb xf ef xl el k' n' s' xb' eb' xf' ef' xl' el') (show outF (tyOf Try.prog) (fnAt Try.prog 32) 0 (cv_run cLs cFs k n s xb eb xf ef xl el k' n' s' xb' eb' xf' ef' xl' el' (.code (bodyAt Try.prog 32)) [] (beginE (fnAt Try.prog 32) [D.agg [D.int IntKind.i64 k, D.int IntKind.i64 n, D.str s, D.slice xb eb none, D.slice xf ef none, D.slice xl el none],
  D.agg
    [D.int IntKind.i64 k', D.int IntKind.i64 n', D.str s', D.slice xb' eb' none, D.slice xf' ef' none,
      D.slice xl' el' none]] []) (.path [false, false, true, true])) = some (D.int IntKind.i64 (sgnU n n'), [],
    [Ret Try.prog (tyOf Try.prog) (63 : Nat) [D.int IntKind.i64 n, D.int IntKind.i64 n'] [] (D.int IntKind.i64 (sgnU n n'))
  [],
      (k == (4 : Int)) = true,
      (k == (4 : Int)) = true,
      (k == (3 : Int)) = false,
      (sgnU (classU k) (classU k') != (0 : Int)) = false,
      Ret Try.prog (tyOf Try.prog) (54 : Nat) [D.int IntKind.i64 (classU k), D.int IntKind.i64 (classU k')] []
  (D.int IntKind.i64 (sgnU (classU k) (classU k'))) [],
      Ret Try.prog (tyOf Try.prog) (34 : Nat) [D.int IntKind.i64 k'] [] (D.int IntKind.i64 (classU k')) [],
      Ret Try.prog (tyOf Try.prog) (34 : Nat) [D.int IntKind.i64 k] [] (D.int IntKind.i64 (classU k)) []]) by kernel_rfl)
    (all_cons.2 ⟨(cmp63 _ _), all_cons.2 ⟨b2, all_cons.2 ⟨b2, all_cons.2 ⟨b1, all_cons.2 ⟨b0, all_cons.2 ⟨(cmp54 _ _), all_cons.2 ⟨(cls34 _), all_cons.2 ⟨(cls34 _), all_nil.2 trivial⟩⟩⟩⟩⟩⟩⟩⟩))

theorem cv_in_3 {cLs : Es → Es → Int} {cFs : Es → Es → Int} {k : Int} {n : Int} {s : ByteArray} {xb : Bool} {eb : Es} {xf : Bool} {ef : Es} {xl : Bool} {el : Es} {k' : Int} {n' : Int} {s' : ByteArray} {xb' : Bool} {eb' : Es} {xf' : Bool} {ef' : Es} {xl' : Bool} {el' : Es}
    (h0 : sgnU (classU k) (classU k') = (0 : Int))
    (h1 : k ≠ (3 : Int))
    (h2 : k ≠ (4 : Int))
    (h3 : k = (10 : Int)) :
    Ret Try.prog (tyOf Try.prog) 32 [D.agg [D.int IntKind.i64 k, D.int IntKind.i64 n, D.str s, D.slice xb eb none, D.slice xf ef none, D.slice xl el none],
  D.agg
    [D.int IntKind.i64 k', D.int IntKind.i64 n', D.str s', D.slice xb' eb' none, D.slice xf' ef' none,
      D.slice xl' el' none]] [] (D.int IntKind.i64 (sgnU n n')) [] :=
  have b0 : (sgnU (classU k) (classU k') != (0 : Int)) = false := (by rw [bne, Bool.not_eq_false']; exact beq_iff_eq.2 h0)
  have b1 : (k == (3 : Int)) = false := beq_eq_false_iff_ne.2 h1
  have b2 : (k == (4 : Int)) = false := beq_eq_false_iff_ne.2 h2
  have b3 : (k == (10 : Int)) = true := beq_iff_eq.2 h3
  fin_call cv_fn cv_body cv_name (fin_ret (h := 0) (cv_ok cLs cFs k n s xb eb xf ef xl el k' n' s' xb' eb' xf' ef' xl' el') (show outF (tyOf Try.prog) (fnAt Try.prog 32) 0 (cv_run cLs cFs k n s xb eb xf ef xl el k' n' s' xb' eb' xf' ef' xl' el' (.code (bodyAt Try.prog 32)) [] (beginE (fnAt Try.prog 32) [D.agg [D.int IntKind.i64 k, D.int IntKind.i64 n, D.str s, D.slice xb eb none, D.slice xf ef none, D.slice xl el none],
  D.agg
    [D.int IntKind.i64 k', D.int IntKind.i64 n', D.str s', D.slice xb' eb' none, D.slice xf' ef' none,
      D.slice xl' el' none]] []) (.path [false, false, false, true, true])) = some (D.int IntKind.i64 (sgnU n n'), [],
    [Ret Try.prog (tyOf Try.prog) (63 : Nat) [D.int IntKind.i64 n, D.int IntKind.i64 n'] [] (D.int IntKind.i64 (sgnU n n'))
  [],
      (k == (10 : Int)) = true,
      (k == (10 : Int)) = true,
      (k == (4 : Int)) = false,
      (k == (3 : Int)) = false,
      (sgnU (classU k) (classU k') != (0 : Int)) = false,
      Ret Try.prog (tyOf Try.prog) (54 : Nat) [D.int IntKind.i64 (classU k), D.int IntKind.i64 (classU k')] []
  (D.int IntKind.i64 (sgnU (classU k) (classU k'))) [],
      Ret Try.prog (tyOf Try.prog) (34 : Nat) [D.int IntKind.i64 k'] [] (D.int IntKind.i64 (classU k')) [],
      Ret Try.prog (tyOf Try.prog) (34 : Nat) [D.int IntKind.i64 k] [] (D.int IntKind.i64 (classU k)) []]) by kernel_rfl)
    (all_cons.2 ⟨(cmp63 _ _), all_cons.2 ⟨b3, all_cons.2 ⟨b3, all_cons.2 ⟨b2, all_cons.2 ⟨b1, all_cons.2 ⟨b0, all_cons.2 ⟨(cmp54 _ _), all_cons.2 ⟨(cls34 _), all_cons.2 ⟨(cls34 _), all_nil.2 trivial⟩⟩⟩⟩⟩⟩⟩⟩⟩))

theorem cv_in_4 {cLs : Es → Es → Int} {cFs : Es → Es → Int} {k : Int} {n : Int} {s : ByteArray} {xb : Bool} {eb : Es} {xf : Bool} {ef : Es} {xl : Bool} {el : Es} {k' : Int} {n' : Int} {s' : ByteArray} {xb' : Bool} {eb' : Es} {xf' : Bool} {ef' : Es} {xl' : Bool} {el' : Es}
    (h0 : sgnU (classU k) (classU k') = (0 : Int))
    (h1 : k ≠ (3 : Int))
    (h2 : k ≠ (4 : Int))
    (h3 : k ≠ (10 : Int))
    (h4 : k = (11 : Int)) :
    Ret Try.prog (tyOf Try.prog) 32 [D.agg [D.int IntKind.i64 k, D.int IntKind.i64 n, D.str s, D.slice xb eb none, D.slice xf ef none, D.slice xl el none],
  D.agg
    [D.int IntKind.i64 k', D.int IntKind.i64 n', D.str s', D.slice xb' eb' none, D.slice xf' ef' none,
      D.slice xl' el' none]] [] (D.int IntKind.i64 (sgnU n n')) [] :=
  have b0 : (sgnU (classU k) (classU k') != (0 : Int)) = false := (by rw [bne, Bool.not_eq_false']; exact beq_iff_eq.2 h0)
  have b1 : (k == (3 : Int)) = false := beq_eq_false_iff_ne.2 h1
  have b2 : (k == (4 : Int)) = false := beq_eq_false_iff_ne.2 h2
  have b3 : (k == (10 : Int)) = false := beq_eq_false_iff_ne.2 h3
  have b4 : (k == (11 : Int)) = true := beq_iff_eq.2 h4
  fin_call cv_fn cv_body cv_name (fin_ret (h := 0) (cv_ok cLs cFs k n s xb eb xf ef xl el k' n' s' xb' eb' xf' ef' xl' el') (show outF (tyOf Try.prog) (fnAt Try.prog 32) 0 (cv_run cLs cFs k n s xb eb xf ef xl el k' n' s' xb' eb' xf' ef' xl' el' (.code (bodyAt Try.prog 32)) [] (beginE (fnAt Try.prog 32) [D.agg [D.int IntKind.i64 k, D.int IntKind.i64 n, D.str s, D.slice xb eb none, D.slice xf ef none, D.slice xl el none],
  D.agg
    [D.int IntKind.i64 k', D.int IntKind.i64 n', D.str s', D.slice xb' eb' none, D.slice xf' ef' none,
      D.slice xl' el' none]] []) (.path [false, false, false, false, true])) = some (D.int IntKind.i64 (sgnU n n'), [],
    [Ret Try.prog (tyOf Try.prog) (63 : Nat) [D.int IntKind.i64 n, D.int IntKind.i64 n'] [] (D.int IntKind.i64 (sgnU n n'))
  [],
      (k == (11 : Int)) = true,
      (k == (10 : Int)) = false,
      (k == (4 : Int)) = false,
      (k == (3 : Int)) = false,
      (sgnU (classU k) (classU k') != (0 : Int)) = false,
      Ret Try.prog (tyOf Try.prog) (54 : Nat) [D.int IntKind.i64 (classU k), D.int IntKind.i64 (classU k')] []
  (D.int IntKind.i64 (sgnU (classU k) (classU k'))) [],
      Ret Try.prog (tyOf Try.prog) (34 : Nat) [D.int IntKind.i64 k'] [] (D.int IntKind.i64 (classU k')) [],
      Ret Try.prog (tyOf Try.prog) (34 : Nat) [D.int IntKind.i64 k] [] (D.int IntKind.i64 (classU k)) []]) by kernel_rfl)
    (all_cons.2 ⟨(cmp63 _ _), all_cons.2 ⟨b4, all_cons.2 ⟨b3, all_cons.2 ⟨b2, all_cons.2 ⟨b1, all_cons.2 ⟨b0, all_cons.2 ⟨(cmp54 _ _), all_cons.2 ⟨(cls34 _), all_cons.2 ⟨(cls34 _), all_nil.2 trivial⟩⟩⟩⟩⟩⟩⟩⟩⟩))

theorem cv_in_5 {cLs : Es → Es → Int} {cFs : Es → Es → Int} {k : Int} {n : Int} {s : ByteArray} {xb : Bool} {eb : Es} {xf : Bool} {ef : Es} {xl : Bool} {el : Es} {k' : Int} {n' : Int} {s' : ByteArray} {xb' : Bool} {eb' : Es} {xf' : Bool} {ef' : Es} {xl' : Bool} {el' : Es}
    (h0 : sgnU (classU k) (classU k') = (0 : Int))
    (h1 : k ≠ (3 : Int))
    (h2 : k ≠ (4 : Int))
    (h3 : k ≠ (10 : Int))
    (h4 : k ≠ (11 : Int))
    (h5 : k = (5 : Int)) :
    Ret Try.prog (tyOf Try.prog) 32 [D.agg [D.int IntKind.i64 k, D.int IntKind.i64 n, D.str s, D.slice xb eb none, D.slice xf ef none, D.slice xl el none],
  D.agg
    [D.int IntKind.i64 k', D.int IntKind.i64 n', D.str s', D.slice xb' eb' none, D.slice xf' ef' none,
      D.slice xl' el' none]] [] (D.int IntKind.i64 (lexB s s')) [] :=
  have b0 : (sgnU (classU k) (classU k') != (0 : Int)) = false := (by rw [bne, Bool.not_eq_false']; exact beq_iff_eq.2 h0)
  have b1 : (k == (3 : Int)) = false := beq_eq_false_iff_ne.2 h1
  have b2 : (k == (4 : Int)) = false := beq_eq_false_iff_ne.2 h2
  have b3 : (k == (10 : Int)) = false := beq_eq_false_iff_ne.2 h3
  have b4 : (k == (11 : Int)) = false := beq_eq_false_iff_ne.2 h4
  have b5 : (k == (5 : Int)) = true := beq_iff_eq.2 h5
  fin_call cv_fn cv_body cv_name (fin_ret (h := 0) (cv_ok cLs cFs k n s xb eb xf ef xl el k' n' s' xb' eb' xf' ef' xl' el') (show outF (tyOf Try.prog) (fnAt Try.prog 32) 0 (cv_run cLs cFs k n s xb eb xf ef xl el k' n' s' xb' eb' xf' ef' xl' el' (.code (bodyAt Try.prog 32)) [] (beginE (fnAt Try.prog 32) [D.agg [D.int IntKind.i64 k, D.int IntKind.i64 n, D.str s, D.slice xb eb none, D.slice xf ef none, D.slice xl el none],
  D.agg
    [D.int IntKind.i64 k', D.int IntKind.i64 n', D.str s', D.slice xb' eb' none, D.slice xf' ef' none,
      D.slice xl' el' none]] []) (.path [false, false, false, false, false, true])) = some (D.int IntKind.i64 (lexB s s'), [],
    [Ret Try.prog (tyOf Try.prog) (65 : Nat) [D.str s, D.str s'] [] (D.int IntKind.i64 (lexB s s')) [],
      (k == (5 : Int)) = true,
      (k == (11 : Int)) = false,
      (k == (10 : Int)) = false,
      (k == (4 : Int)) = false,
      (k == (3 : Int)) = false,
      (sgnU (classU k) (classU k') != (0 : Int)) = false,
      Ret Try.prog (tyOf Try.prog) (54 : Nat) [D.int IntKind.i64 (classU k), D.int IntKind.i64 (classU k')] []
  (D.int IntKind.i64 (sgnU (classU k) (classU k'))) [],
      Ret Try.prog (tyOf Try.prog) (34 : Nat) [D.int IntKind.i64 k'] [] (D.int IntKind.i64 (classU k')) [],
      Ret Try.prog (tyOf Try.prog) (34 : Nat) [D.int IntKind.i64 k] [] (D.int IntKind.i64 (classU k)) []]) by kernel_rfl)
    (all_cons.2 ⟨(cmp65 _ _), all_cons.2 ⟨b5, all_cons.2 ⟨b4, all_cons.2 ⟨b3, all_cons.2 ⟨b2, all_cons.2 ⟨b1, all_cons.2 ⟨b0, all_cons.2 ⟨(cmp54 _ _), all_cons.2 ⟨(cls34 _), all_cons.2 ⟨(cls34 _), all_nil.2 trivial⟩⟩⟩⟩⟩⟩⟩⟩⟩⟩))

theorem cv_in_6 {cLs : Es → Es → Int} {cFs : Es → Es → Int} {k : Int} {n : Int} {s : ByteArray} {xb : Bool} {eb : Es} {xf : Bool} {ef : Es} {xl : Bool} {el : Es} {k' : Int} {n' : Int} {s' : ByteArray} {xb' : Bool} {eb' : Es} {xf' : Bool} {ef' : Es} {xl' : Bool} {el' : Es}
    (h0 : sgnU (classU k) (classU k') = (0 : Int))
    (h1 : k ≠ (3 : Int))
    (h2 : k ≠ (4 : Int))
    (h3 : k ≠ (10 : Int))
    (h4 : k ≠ (11 : Int))
    (h5 : k ≠ (5 : Int))
    (h6 : k = (6 : Int))
    (h7 : Ret Try.prog (tyOf Try.prog) (67 : Nat) [D.slice xf ef none, D.slice xf' ef' none, D.func (Fn.func (68 : Nat)) [] []] []
  (D.int IntKind.i64 (cFs ef ef')) []) :
    Ret Try.prog (tyOf Try.prog) 32 [D.agg [D.int IntKind.i64 k, D.int IntKind.i64 n, D.str s, D.slice xb eb none, D.slice xf ef none, D.slice xl el none],
  D.agg
    [D.int IntKind.i64 k', D.int IntKind.i64 n', D.str s', D.slice xb' eb' none, D.slice xf' ef' none,
      D.slice xl' el' none]] [] (D.int IntKind.i64 (cFs ef ef')) [] :=
  have b0 : (sgnU (classU k) (classU k') != (0 : Int)) = false := (by rw [bne, Bool.not_eq_false']; exact beq_iff_eq.2 h0)
  have b1 : (k == (3 : Int)) = false := beq_eq_false_iff_ne.2 h1
  have b2 : (k == (4 : Int)) = false := beq_eq_false_iff_ne.2 h2
  have b3 : (k == (10 : Int)) = false := beq_eq_false_iff_ne.2 h3
  have b4 : (k == (11 : Int)) = false := beq_eq_false_iff_ne.2 h4
  have b5 : (k == (5 : Int)) = false := beq_eq_false_iff_ne.2 h5
  have b6 : (k == (6 : Int)) = true := beq_iff_eq.2 h6
  fin_call cv_fn cv_body cv_name (fin_ret (h := 0) (cv_ok cLs cFs k n s xb eb xf ef xl el k' n' s' xb' eb' xf' ef' xl' el') (show outF (tyOf Try.prog) (fnAt Try.prog 32) 0 (cv_run cLs cFs k n s xb eb xf ef xl el k' n' s' xb' eb' xf' ef' xl' el' (.code (bodyAt Try.prog 32)) [] (beginE (fnAt Try.prog 32) [D.agg [D.int IntKind.i64 k, D.int IntKind.i64 n, D.str s, D.slice xb eb none, D.slice xf ef none, D.slice xl el none],
  D.agg
    [D.int IntKind.i64 k', D.int IntKind.i64 n', D.str s', D.slice xb' eb' none, D.slice xf' ef' none,
      D.slice xl' el' none]] []) (.path [false, false, false, false, false, false, true])) = some (D.int IntKind.i64 (cFs ef ef'), [],
    [Ret Try.prog (tyOf Try.prog) (67 : Nat) [D.slice xf ef none, D.slice xf' ef' none, D.func (Fn.func (68 : Nat)) [] []] []
  (D.int IntKind.i64 (cFs ef ef')) [],
      (k == (6 : Int)) = true,
      (k == (5 : Int)) = false,
      (k == (11 : Int)) = false,
      (k == (10 : Int)) = false,
      (k == (4 : Int)) = false,
      (k == (3 : Int)) = false,
      (sgnU (classU k) (classU k') != (0 : Int)) = false,
      Ret Try.prog (tyOf Try.prog) (54 : Nat) [D.int IntKind.i64 (classU k), D.int IntKind.i64 (classU k')] []
  (D.int IntKind.i64 (sgnU (classU k) (classU k'))) [],
      Ret Try.prog (tyOf Try.prog) (34 : Nat) [D.int IntKind.i64 k'] [] (D.int IntKind.i64 (classU k')) [],
      Ret Try.prog (tyOf Try.prog) (34 : Nat) [D.int IntKind.i64 k] [] (D.int IntKind.i64 (classU k)) []]) by kernel_rfl)
    (all_cons.2 ⟨h7, all_cons.2 ⟨b6, all_cons.2 ⟨b5, all_cons.2 ⟨b4, all_cons.2 ⟨b3, all_cons.2 ⟨b2, all_cons.2 ⟨b1, all_cons.2 ⟨b0, all_cons.2 ⟨(cmp54 _ _), all_cons.2 ⟨(cls34 _), all_cons.2 ⟨(cls34 _), all_nil.2 trivial⟩⟩⟩⟩⟩⟩⟩⟩⟩⟩⟩))

theorem cv_in_7 {cLs : Es → Es → Int} {cFs : Es → Es → Int} {k : Int} {n : Int} {s : ByteArray} {xb : Bool} {eb : Es} {xf : Bool} {ef : Es} {xl : Bool} {el : Es} {k' : Int} {n' : Int} {s' : ByteArray} {xb' : Bool} {eb' : Es} {xf' : Bool} {ef' : Es} {xl' : Bool} {el' : Es}
    (h0 : sgnU (classU k) (classU k') = (0 : Int))
    (h1 : k ≠ (3 : Int))
    (h2 : k ≠ (4 : Int))
    (h3 : k ≠ (10 : Int))
    (h4 : k ≠ (11 : Int))
    (h5 : k ≠ (5 : Int))
    (h6 : k ≠ (6 : Int))
    (h7 : k = (7 : Int))
    (h8 : Ret Try.prog (tyOf Try.prog) (70 : Nat) [D.slice xl el none, D.slice xl' el' none, D.func (Fn.func (32 : Nat)) [] []] []
  (D.int IntKind.i64 (cLs el el')) []) :
    Ret Try.prog (tyOf Try.prog) 32 [D.agg [D.int IntKind.i64 k, D.int IntKind.i64 n, D.str s, D.slice xb eb none, D.slice xf ef none, D.slice xl el none],
  D.agg
    [D.int IntKind.i64 k', D.int IntKind.i64 n', D.str s', D.slice xb' eb' none, D.slice xf' ef' none,
      D.slice xl' el' none]] [] (D.int IntKind.i64 (cLs el el')) [] :=
  have b0 : (sgnU (classU k) (classU k') != (0 : Int)) = false := (by rw [bne, Bool.not_eq_false']; exact beq_iff_eq.2 h0)
  have b1 : (k == (3 : Int)) = false := beq_eq_false_iff_ne.2 h1
  have b2 : (k == (4 : Int)) = false := beq_eq_false_iff_ne.2 h2
  have b3 : (k == (10 : Int)) = false := beq_eq_false_iff_ne.2 h3
  have b4 : (k == (11 : Int)) = false := beq_eq_false_iff_ne.2 h4
  have b5 : (k == (5 : Int)) = false := beq_eq_false_iff_ne.2 h5
  have b6 : (k == (6 : Int)) = false := beq_eq_false_iff_ne.2 h6
  have b7 : (k == (7 : Int)) = true := beq_iff_eq.2 h7
  fin_call cv_fn cv_body cv_name (fin_ret (h := 0) (cv_ok cLs cFs k n s xb eb xf ef xl el k' n' s' xb' eb' xf' ef' xl' el') (show outF (tyOf Try.prog) (fnAt Try.prog 32) 0 (cv_run cLs cFs k n s xb eb xf ef xl el k' n' s' xb' eb' xf' ef' xl' el' (.code (bodyAt Try.prog 32)) [] (beginE (fnAt Try.prog 32) [D.agg [D.int IntKind.i64 k, D.int IntKind.i64 n, D.str s, D.slice xb eb none, D.slice xf ef none, D.slice xl el none],
  D.agg
    [D.int IntKind.i64 k', D.int IntKind.i64 n', D.str s', D.slice xb' eb' none, D.slice xf' ef' none,
      D.slice xl' el' none]] []) (.path [false, false, false, false, false, false, false, true])) = some (D.int IntKind.i64 (cLs el el'), [],
    [Ret Try.prog (tyOf Try.prog) (70 : Nat) [D.slice xl el none, D.slice xl' el' none, D.func (Fn.func (32 : Nat)) [] []] []
  (D.int IntKind.i64 (cLs el el')) [],
      (k == (7 : Int)) = true,
      (k == (6 : Int)) = false,
      (k == (5 : Int)) = false,
      (k == (11 : Int)) = false,
      (k == (10 : Int)) = false,
      (k == (4 : Int)) = false,
      (k == (3 : Int)) = false,
      (sgnU (classU k) (classU k') != (0 : Int)) = false,
      Ret Try.prog (tyOf Try.prog) (54 : Nat) [D.int IntKind.i64 (classU k), D.int IntKind.i64 (classU k')] []
  (D.int IntKind.i64 (sgnU (classU k) (classU k'))) [],
      Ret Try.prog (tyOf Try.prog) (34 : Nat) [D.int IntKind.i64 k'] [] (D.int IntKind.i64 (classU k')) [],
      Ret Try.prog (tyOf Try.prog) (34 : Nat) [D.int IntKind.i64 k] [] (D.int IntKind.i64 (classU k)) []]) by kernel_rfl)
    (all_cons.2 ⟨h8, all_cons.2 ⟨b7, all_cons.2 ⟨b6, all_cons.2 ⟨b5, all_cons.2 ⟨b4, all_cons.2 ⟨b3, all_cons.2 ⟨b2, all_cons.2 ⟨b1, all_cons.2 ⟨b0, all_cons.2 ⟨(cmp54 _ _), all_cons.2 ⟨(cls34 _), all_cons.2 ⟨(cls34 _), all_nil.2 trivial⟩⟩⟩⟩⟩⟩⟩⟩⟩⟩⟩⟩))

theorem cv_in_8 {cLs : Es → Es → Int} {cFs : Es → Es → Int} {k : Int} {n : Int} {s : ByteArray} {xb : Bool} {eb : Es} {xf : Bool} {ef : Es} {xl : Bool} {el : Es} {k' : Int} {n' : Int} {s' : ByteArray} {xb' : Bool} {eb' : Es} {xf' : Bool} {ef' : Es} {xl' : Bool} {el' : Es}
    (h0 : sgnU (classU k) (classU k') = (0 : Int))
    (h1 : k ≠ (3 : Int))
    (h2 : k ≠ (4 : Int))
    (h3 : k ≠ (10 : Int))
    (h4 : k ≠ (11 : Int))
    (h5 : k ≠ (5 : Int))
    (h6 : k ≠ (6 : Int))
    (h7 : k ≠ (7 : Int))
    (h8 : k = (8 : Int))
    (h9 : Ret Try.prog (tyOf Try.prog) (72 : Nat)
  [D.slice true
      [[D.int IntKind.i64 (sgnU (↑(List.length eb) : Int) (↑(List.length eb') : Int))],
        [D.int IntKind.i64 (cbE eb eb')]]
      none]
  []
  (D.int IntKind.i64
    (orE
      [[D.int IntKind.i64 (sgnU (↑(List.length eb) : Int) (↑(List.length eb') : Int))],
        [D.int IntKind.i64 (cbE eb eb')]]))
  [])
    (h10 : Ret Try.prog (tyOf Try.prog) (73 : Nat) [D.slice xb eb none, D.slice xb' eb' none] [] (D.int IntKind.i64 (cbE eb eb'))
  []) :
    Ret Try.prog (tyOf Try.prog) 32 [D.agg [D.int IntKind.i64 k, D.int IntKind.i64 n, D.str s, D.slice xb eb none, D.slice xf ef none, D.slice xl el none],
  D.agg
    [D.int IntKind.i64 k', D.int IntKind.i64 n', D.str s', D.slice xb' eb' none, D.slice xf' ef' none,
      D.slice xl' el' none]] [] (D.int IntKind.i64
  (orE
    [[D.int IntKind.i64 (sgnU (↑(List.length eb) : Int) (↑(List.length eb') : Int))], [D.int IntKind.i64 (cbE eb eb')]])) [] :=
  have b0 : (sgnU (classU k) (classU k') != (0 : Int)) = false := (by rw [bne, Bool.not_eq_false']; exact beq_iff_eq.2 h0)
  have b1 : (k == (3 : Int)) = false := beq_eq_false_iff_ne.2 h1
  have b2 : (k == (4 : Int)) = false := beq_eq_false_iff_ne.2 h2
  have b3 : (k == (10 : Int)) = false := beq_eq_false_iff_ne.2 h3
  have b4 : (k == (11 : Int)) = false := beq_eq_false_iff_ne.2 h4
  have b5 : (k == (5 : Int)) = false := beq_eq_false_iff_ne.2 h5
  have b6 : (k == (6 : Int)) = false := beq_eq_false_iff_ne.2 h6
  have b7 : (k == (7 : Int)) = false := beq_eq_false_iff_ne.2 h7
  have b8 : (k == (8 : Int)) = true := beq_iff_eq.2 h8
  fin_call cv_fn cv_body cv_name (fin_ret (h := 0) (cv_ok cLs cFs k n s xb eb xf ef xl el k' n' s' xb' eb' xf' ef' xl' el') (show outF (tyOf Try.prog) (fnAt Try.prog 32) 0 (cv_run cLs cFs k n s xb eb xf ef xl el k' n' s' xb' eb' xf' ef' xl' el' (.code (bodyAt Try.prog 32)) [] (beginE (fnAt Try.prog 32) [D.agg [D.int IntKind.i64 k, D.int IntKind.i64 n, D.str s, D.slice xb eb none, D.slice xf ef none, D.slice xl el none],
  D.agg
    [D.int IntKind.i64 k', D.int IntKind.i64 n', D.str s', D.slice xb' eb' none, D.slice xf' ef' none,
      D.slice xl' el' none]] []) (.path [false, false, false, false, false, false, false, false, true])) = some (D.int IntKind.i64
  (orE
    [[D.int IntKind.i64 (sgnU (↑(List.length eb) : Int) (↑(List.length eb') : Int))], [D.int IntKind.i64 (cbE eb eb')]]), [],
    [Ret Try.prog (tyOf Try.prog) (72 : Nat)
  [D.slice true
      [[D.int IntKind.i64 (sgnU (↑(List.length eb) : Int) (↑(List.length eb') : Int))],
        [D.int IntKind.i64 (cbE eb eb')]]
      none]
  []
  (D.int IntKind.i64
    (orE
      [[D.int IntKind.i64 (sgnU (↑(List.length eb) : Int) (↑(List.length eb') : Int))],
        [D.int IntKind.i64 (cbE eb eb')]]))
  [],
      Ret Try.prog (tyOf Try.prog) (73 : Nat) [D.slice xb eb none, D.slice xb' eb' none] [] (D.int IntKind.i64 (cbE eb eb'))
  [],
      Ret Try.prog (tyOf Try.prog) (54 : Nat)
  [D.int IntKind.i64 (↑(List.length eb) : Int), D.int IntKind.i64 (↑(List.length eb') : Int)] []
  (D.int IntKind.i64 (sgnU (↑(List.length eb) : Int) (↑(List.length eb') : Int))) [],
      (k == (8 : Int)) = true,
      (k == (7 : Int)) = false,
      (k == (6 : Int)) = false,
      (k == (5 : Int)) = false,
      (k == (11 : Int)) = false,
      (k == (10 : Int)) = false,
      (k == (4 : Int)) = false,
      (k == (3 : Int)) = false,
      (sgnU (classU k) (classU k') != (0 : Int)) = false,
      Ret Try.prog (tyOf Try.prog) (54 : Nat) [D.int IntKind.i64 (classU k), D.int IntKind.i64 (classU k')] []
  (D.int IntKind.i64 (sgnU (classU k) (classU k'))) [],
      Ret Try.prog (tyOf Try.prog) (34 : Nat) [D.int IntKind.i64 k'] [] (D.int IntKind.i64 (classU k')) [],
      Ret Try.prog (tyOf Try.prog) (34 : Nat) [D.int IntKind.i64 k] [] (D.int IntKind.i64 (classU k)) []]) by kernel_rfl)
    (all_cons.2 ⟨h9, all_cons.2 ⟨h10, all_cons.2 ⟨(cmp54 _ _), all_cons.2 ⟨b8, all_cons.2 ⟨b7, all_cons.2 ⟨b6, all_cons.2 ⟨b5, all_cons.2 ⟨b4, all_cons.2 ⟨b3, all_cons.2 ⟨b2, all_cons.2 ⟨b1, all_cons.2 ⟨b0, all_cons.2 ⟨(cmp54 _ _), all_cons.2 ⟨(cls34 _), all_cons.2 ⟨(cls34 _), all_nil.2 trivial⟩⟩⟩⟩⟩⟩⟩⟩⟩⟩⟩⟩⟩⟩⟩))

theorem cv_in_9 {cLs : Es → Es → Int} {cFs : Es → Es → Int} {k : Int} {n : Int} {s : ByteArray} {xb : Bool} {eb : Es} {xf : Bool} {ef : Es} {xl : Bool} {el : Es} {k' : Int} {n' : Int} {s' : ByteArray} {xb' : Bool} {eb' : Es} {xf' : Bool} {ef' : Es} {xl' : Bool} {el' : Es}
    (h0 : sgnU (classU k) (classU k') = (0 : Int))
    (h1 : k ≠ (3 : Int))
    (h2 : k ≠ (4 : Int))
    (h3 : k ≠ (10 : Int))
    (h4 : k ≠ (11 : Int))
    (h5 : k ≠ (5 : Int))
    (h6 : k ≠ (6 : Int))
    (h7 : k ≠ (7 : Int))
    (h8 : k ≠ (8 : Int))
    (h9 : k = (9 : Int))
    (h10 : Ret Try.prog (tyOf Try.prog) (73 : Nat) [D.slice xb eb none, D.slice xb' eb' none] [] (D.int IntKind.i64 (cbE eb eb'))
  []) :
    Ret Try.prog (tyOf Try.prog) 32 [D.agg [D.int IntKind.i64 k, D.int IntKind.i64 n, D.str s, D.slice xb eb none, D.slice xf ef none, D.slice xl el none],
  D.agg
    [D.int IntKind.i64 k', D.int IntKind.i64 n', D.str s', D.slice xb' eb' none, D.slice xf' ef' none,
      D.slice xl' el' none]] [] (D.int IntKind.i64 (cbE eb eb')) [] :=
  have b0 : (sgnU (classU k) (classU k') != (0 : Int)) = false := (by rw [bne, Bool.not_eq_false']; exact beq_iff_eq.2 h0)
  have b1 : (k == (3 : Int)) = false := beq_eq_false_iff_ne.2 h1
  have b2 : (k == (4 : Int)) = false := beq_eq_false_iff_ne.2 h2
  have b3 : (k == (10 : Int)) = false := beq_eq_false_iff_ne.2 h3
  have b4 : (k == (11 : Int)) = false := beq_eq_false_iff_ne.2 h4
  have b5 : (k == (5 : Int)) = false := beq_eq_false_iff_ne.2 h5
  have b6 : (k == (6 : Int)) = false := beq_eq_false_iff_ne.2 h6
  have b7 : (k == (7 : Int)) = false := beq_eq_false_iff_ne.2 h7
  have b8 : (k == (8 : Int)) = false := beq_eq_false_iff_ne.2 h8
  have b9 : (k == (9 : Int)) = true := beq_iff_eq.2 h9
  fin_call cv_fn cv_body cv_name (fin_ret (h := 0) (cv_ok cLs cFs k n s xb eb xf ef xl el k' n' s' xb' eb' xf' ef' xl' el') (show outF (tyOf Try.prog) (fnAt Try.prog 32) 0 (cv_run cLs cFs k n s xb eb xf ef xl el k' n' s' xb' eb' xf' ef' xl' el' (.code (bodyAt Try.prog 32)) [] (beginE (fnAt Try.prog 32) [D.agg [D.int IntKind.i64 k, D.int IntKind.i64 n, D.str s, D.slice xb eb none, D.slice xf ef none, D.slice xl el none],
  D.agg
    [D.int IntKind.i64 k', D.int IntKind.i64 n', D.str s', D.slice xb' eb' none, D.slice xf' ef' none,
      D.slice xl' el' none]] []) (.path [false, false, false, false, false, false, false, false, false, true])) = some (D.int IntKind.i64 (cbE eb eb'), [],
    [Ret Try.prog (tyOf Try.prog) (73 : Nat) [D.slice xb eb none, D.slice xb' eb' none] [] (D.int IntKind.i64 (cbE eb eb'))
  [],
      (k == (9 : Int)) = true,
      (k == (8 : Int)) = false,
      (k == (7 : Int)) = false,
      (k == (6 : Int)) = false,
      (k == (5 : Int)) = false,
      (k == (11 : Int)) = false,
      (k == (10 : Int)) = false,
      (k == (4 : Int)) = false,
      (k == (3 : Int)) = false,
      (sgnU (classU k) (classU k') != (0 : Int)) = false,
      Ret Try.prog (tyOf Try.prog) (54 : Nat) [D.int IntKind.i64 (classU k), D.int IntKind.i64 (classU k')] []
  (D.int IntKind.i64 (sgnU (classU k) (classU k'))) [],
      Ret Try.prog (tyOf Try.prog) (34 : Nat) [D.int IntKind.i64 k'] [] (D.int IntKind.i64 (classU k')) [],
      Ret Try.prog (tyOf Try.prog) (34 : Nat) [D.int IntKind.i64 k] [] (D.int IntKind.i64 (classU k)) []]) by kernel_rfl)
    (all_cons.2 ⟨h10, all_cons.2 ⟨b9, all_cons.2 ⟨b8, all_cons.2 ⟨b7, all_cons.2 ⟨b6, all_cons.2 ⟨b5, all_cons.2 ⟨b4, all_cons.2 ⟨b3, all_cons.2 ⟨b2, all_cons.2 ⟨b1, all_cons.2 ⟨b0, all_cons.2 ⟨(cmp54 _ _), all_cons.2 ⟨(cls34 _), all_cons.2 ⟨(cls34 _), all_nil.2 trivial⟩⟩⟩⟩⟩⟩⟩⟩⟩⟩⟩⟩⟩⟩))

theorem cv_in_10 {cLs : Es → Es → Int} {cFs : Es → Es → Int} {k : Int} {n : Int} {s : ByteArray} {xb : Bool} {eb : Es} {xf : Bool} {ef : Es} {xl : Bool} {el : Es} {k' : Int} {n' : Int} {s' : ByteArray} {xb' : Bool} {eb' : Es} {xf' : Bool} {ef' : Es} {xl' : Bool} {el' : Es}
    (h0 : sgnU (classU k) (classU k') = (0 : Int))
    (h1 : k ≠ (3 : Int))
    (h2 : k ≠ (4 : Int))
    (h3 : k ≠ (10 : Int))
    (h4 : k ≠ (11 : Int))
    (h5 : k ≠ (5 : Int))
    (h6 : k ≠ (6 : Int))
    (h7 : k ≠ (7 : Int))
    (h8 : k ≠ (8 : Int))
    (h9 : k ≠ (9 : Int)) :
    Ret Try.prog (tyOf Try.prog) 32 [D.agg [D.int IntKind.i64 k, D.int IntKind.i64 n, D.str s, D.slice xb eb none, D.slice xf ef none, D.slice xl el none],
  D.agg
    [D.int IntKind.i64 k', D.int IntKind.i64 n', D.str s', D.slice xb' eb' none, D.slice xf' ef' none,
      D.slice xl' el' none]] [] (D.int IntKind.i64 (0 : Int)) [] :=
  have b0 : (sgnU (classU k) (classU k') != (0 : Int)) = false := (by rw [bne, Bool.not_eq_false']; exact beq_iff_eq.2 h0)
  have b1 : (k == (3 : Int)) = false := beq_eq_false_iff_ne.2 h1
  have b2 : (k == (4 : Int)) = false := beq_eq_false_iff_ne.2 h2
  have b3 : (k == (10 : Int)) = false := beq_eq_false_iff_ne.2 h3
  have b4 : (k == (11 : Int)) = false := beq_eq_false_iff_ne.2 h4
  have b5 : (k == (5 : Int)) = false := beq_eq_false_iff_ne.2 h5
  have b6 : (k == (6 : Int)) = false := beq_eq_false_iff_ne.2 h6
  have b7 : (k == (7 : Int)) = false := beq_eq_false_iff_ne.2 h7
  have b8 : (k == (8 : Int)) = false := beq_eq_false_iff_ne.2 h8
  have b9 : (k == (9 : Int)) = false := beq_eq_false_iff_ne.2 h9
  fin_call cv_fn cv_body cv_name (fin_ret (h := 0) (cv_ok cLs cFs k n s xb eb xf ef xl el k' n' s' xb' eb' xf' ef' xl' el') (show outF (tyOf Try.prog) (fnAt Try.prog 32) 0 (cv_run cLs cFs k n s xb eb xf ef xl el k' n' s' xb' eb' xf' ef' xl' el' (.code (bodyAt Try.prog 32)) [] (beginE (fnAt Try.prog 32) [D.agg [D.int IntKind.i64 k, D.int IntKind.i64 n, D.str s, D.slice xb eb none, D.slice xf ef none, D.slice xl el none],
  D.agg
    [D.int IntKind.i64 k', D.int IntKind.i64 n', D.str s', D.slice xb' eb' none, D.slice xf' ef' none,
      D.slice xl' el' none]] []) (.path [false, false, false, false, false, false, false, false, false, false])) = some (D.int IntKind.i64 (0 : Int), [],
    [(k == (9 : Int)) = false,
      (k == (8 : Int)) = false,
      (k == (7 : Int)) = false,
      (k == (6 : Int)) = false,
      (k == (5 : Int)) = false,
      (k == (11 : Int)) = false,
      (k == (10 : Int)) = false,
      (k == (4 : Int)) = false,
      (k == (3 : Int)) = false,
      (sgnU (classU k) (classU k') != (0 : Int)) = false,
      Ret Try.prog (tyOf Try.prog) (54 : Nat) [D.int IntKind.i64 (classU k), D.int IntKind.i64 (classU k')] []
  (D.int IntKind.i64 (sgnU (classU k) (classU k'))) [],
      Ret Try.prog (tyOf Try.prog) (34 : Nat) [D.int IntKind.i64 k'] [] (D.int IntKind.i64 (classU k')) [],
      Ret Try.prog (tyOf Try.prog) (34 : Nat) [D.int IntKind.i64 k] [] (D.int IntKind.i64 (classU k)) []]) by kernel_rfl)
    (all_cons.2 ⟨b9, all_cons.2 ⟨b8, all_cons.2 ⟨b7, all_cons.2 ⟨b6, all_cons.2 ⟨b5, all_cons.2 ⟨b4, all_cons.2 ⟨b3, all_cons.2 ⟨b2, all_cons.2 ⟨b1, all_cons.2 ⟨b0, all_cons.2 ⟨(cmp54 _ _), all_cons.2 ⟨(cls34 _), all_cons.2 ⟨(cls34 _), all_nil.2 trivial⟩⟩⟩⟩⟩⟩⟩⟩⟩⟩⟩⟩⟩))




/-! ### what comparing comes to -/
def lx (p q : Int) : Int := if p ≠ 0 then p else q
def kindOf : Cs → Int
  | .int _ k :: _ => k
  | _ => 0
mutual
def cmpV : Cs → Cs → Int
  | [.int _ k, .int _ n, .str s, .slice _ eb _, .slice _ ef _, .slice _ el _], [.int _ k', .int _ n', .str s', .slice _ eb' _, .slice _ ef' _, .slice _ el' _] =>
    lx (sgnU (classU k) (classU k'))
      (if k = 3 ∨ k = 4 ∨ k = 10 ∨ k = 11 then sgnU n n' else if k = 5 then lexB s s' else if k = 6 then cmpFs ef ef' else if k = 7 then cmpLs el el'
       else if k = 8 then lx (sgnU eb.length eb'.length) (cbE eb eb') else if k = 9 then cbE eb eb' else 0)
  | _, _ => 0
def cmpF : Cs → Cs → Int
  | .str nm :: a, .str nm' :: b => lx (sgnU (classU (kindOf a)) (classU (kindOf b))) (lx (lexB nm nm') (cmpV a b))
  | _, _ => 0
def cmpLs : Es → Es → Int
  | [], [] => 0
  | [], _ :: _ => -1
  | _ :: _, [] => 1
  | a :: r, b :: t => lx (cmpV a b) (cmpLs r t)
def cmpFs : Es → Es → Int
  | [], [] => 0
  | [], _ :: _ => -1
  | _ :: _, [] => 1
  | a :: r, b :: t => lx (cmpF a b) (cmpFs r t)
end

open valk in
theorem ls_ok (xa xb : Bool) (ea eb : Es) (la : ea.length ≤ maxLen) (ha : ∀ r ∈ ea, VS r) (hb : ∀ r ∈ eb, VS r) (ih : ∀ r ∈ ea, ∀ b, VS b → Ret P T 32 [.agg r, .agg b] [] (.int .i64 (cmpV r b)) []) :
    Ret P T 70 [.slice xa ea none, .slice xb eb none, .func (.func 32) [] []] [] (.int .i64 (cmpLs ea eb)) [] := by
  have key : ∀ (m i : Nat), i + m = ea.length → i ≤ eb.length → cl_at0 cmpV xa ea xb eb i (.int .i64 (cmpLs (ea.drop i) (eb.drop i))) [] := by
    intro m
    induction m with
    | zero =>
      intro i hi hie
      rw [List.drop_of_length_le (l := ea) (by omega)]
      by_cases h : i < eb.length
      · rw [List.drop_eq_getElem_cons h]
        simp only [cmpLs]
        exact cl_0_3 (by omega) (by omega)
      · rw [List.drop_of_length_le (by omega)]
        simp only [cmpLs]
        exact cl_0_4 (by omega) (by omega)
    | succ m ihm =>
      intro i hi hie
      have hlt : i < ea.length := by omega
      obtain ⟨ck, cn, cs, yb, cb, yf, cf, yl, cl, hrow⟩ := (ha _ (List.getElem_mem hlt)).get
      have hg : ea[((i : Int)).toNat]? = some (valk.val ck cn cs yb cb yf cf yl cl) := by rw [Int.toNat_natCast, List.getElem?_eq_getElem hlt, hrow]
      rw [List.drop_eq_getElem_cons hlt]
      by_cases h : i < eb.length
      · obtain ⟨dk, dn, ds, zb, db, zf, df, zl, dl, hrow'⟩ := (hb _ (List.getElem_mem h)).get
        have hg' : eb[((i : Int)).toNat]? = some (valk.val dk dn ds zb db zf df zl dl) := by rw [Int.toNat_natCast, List.getElem?_eq_getElem h, hrow']
        rw [List.drop_eq_getElem_cons h]
        have hc := ih _ (List.getElem_mem hlt) _ (hb _ (List.getElem_mem h))
        simp only [cmpLs, lx]
        rw [hrow, hrow'] at hc ⊢
        by_cases hz : cmpV (valk.val ck cn cs yb cb yf cf yl cl) (valk.val dk dn ds zb db zf df zl dl) = 0
        · rw [if_neg (by simpa using hz)]
          refine cl_0_2 (by omega) (by omega) hz hc (by omega) hg' hg ?_
          rw [up hlt la]
          exact ihm (i + 1) (by omega) (by omega)
        · rw [if_pos hz]
          exact cl_0_1 (by omega) (by omega) hz hc (by omega) hg' hg
      · rw [List.drop_of_length_le (l := eb) (by omega)]
        simp only [cmpLs]
        exact cl_0_0 (by omega) (by omega) (by omega) hg
  exact cl_in_0 (by simpa using key ea.length 0 (by omega) (by omega))

open valk in
theorem fs_ok (xa xb : Bool) (ea eb : Es) (la : ea.length ≤ maxLen) (ha : ∀ r ∈ ea, ∃ nm c, r = .str nm :: c ∧ VS c) (hb : ∀ r ∈ eb, ∃ nm c, r = .str nm :: c ∧ VS c)
    (ih : ∀ r ∈ ea, ∀ nm b, VS b → Ret P T 68 [.agg r, .agg (.str nm :: b)] [] (.int .i64 (cmpF r (.str nm :: b))) []) :
    Ret P T 67 [.slice xa ea none, .slice xb eb none, .func (.func 68) [] []] [] (.int .i64 (cmpFs ea eb)) [] := by
  have key : ∀ (m i : Nat), i + m = ea.length → i ≤ eb.length → cf_at0 cmpF xa ea xb eb i (.int .i64 (cmpFs (ea.drop i) (eb.drop i))) [] := by
    intro m
    induction m with
    | zero =>
      intro i hi hie
      rw [List.drop_of_length_le (l := ea) (by omega)]
      by_cases h : i < eb.length
      · rw [List.drop_eq_getElem_cons h]
        simp only [cmpFs]
        exact cf_0_3 (by omega) (by omega)
      · rw [List.drop_of_length_le (by omega)]
        simp only [cmpFs]
        exact cf_0_4 (by omega) (by omega)
    | succ m ihm =>
      intro i hi hie
      have hlt : i < ea.length := by omega
      obtain ⟨nm, c, hr, hv⟩ := ha _ (List.getElem_mem hlt)
      obtain ⟨ck, cn, cs, yb, cb, yf, cf, yl, cl, rfl⟩ := hv.get
      have hg : ea[((i : Int)).toNat]? = some (.str nm :: valk.val ck cn cs yb cb yf cf yl cl) := by rw [Int.toNat_natCast, List.getElem?_eq_getElem hlt, hr]
      rw [List.drop_eq_getElem_cons hlt]
      by_cases h : i < eb.length
      · obtain ⟨nm', c', hr', hv'⟩ := hb _ (List.getElem_mem h)
        have hc := ih _ (List.getElem_mem hlt) nm' _ hv'
        obtain ⟨dk, dn, ds, zb, db, zf, df, zl, dl, rfl⟩ := hv'.get
        have hg' : eb[((i : Int)).toNat]? = some (.str nm' :: valk.val dk dn ds zb db zf df zl dl) := by rw [Int.toNat_natCast, List.getElem?_eq_getElem h, hr']
        rw [List.drop_eq_getElem_cons h]
        simp only [cmpFs, lx]
        rw [hr] at hc ⊢
        rw [hr']
        by_cases hz : cmpF (.str nm :: valk.val ck cn cs yb cb yf cf yl cl) (.str nm' :: valk.val dk dn ds zb db zf df zl dl) = 0
        · rw [if_neg (by simpa using hz)]
          refine cf_0_2 (by omega) (by omega) hz hc (by omega) hg' hg ?_
          rw [up hlt la]
          exact ihm (i + 1) (by omega) (by omega)
        · rw [if_pos hz]
          exact cf_0_1 (by omega) (by omega) hz hc (by omega) hg' hg
      · rw [List.drop_of_length_le (l := eb) (by omega)]
        simp only [cmpFs]
        exact cf_0_0 (by omega) (by omega) (by omega) hg
  exact cf_in_0 (by simpa using key ea.length 0 (by omega) (by omega))

theorem lx3 (p q r : Int) : lx p (lx q r) = orE (ints [p, q, r]) := by
  simp only [lx, ints, List.map, orE]
  by_cases hp : p = 0 <;> by_cases hq : q = 0 <;> by_cases hr : r = 0 <;> simp [hp, hq, hr]
theorem lx2 (p q : Int) : lx p q = orE (ints [p, q]) := by
  simp only [lx, ints, List.map, orE]
  by_cases hp : p = 0 <;> by_cases hq : q = 0 <;> simp [hp, hq]

open valk in
theorem f_ok (nm nm' : ByteArray) (a b : Cs) (ha : VS a) (hb : VS b) (ih : Ret P T 32 [.agg a, .agg b] [] (.int .i64 (cmpV a b)) []) :
    Ret P T 68 [.agg (.str nm :: a), .agg (.str nm' :: b)] [] (.int .i64 (cmpF (.str nm :: a) (.str nm' :: b))) [] := by
  obtain ⟨ck, cn, cs, yb, cb, yf, cf, yl, cl, rfl⟩ := ha.get
  obtain ⟨dk, dn, ds, zb, db, zf, df, zl, dl, rfl⟩ := hb.get
  have e := @fl_in_0 cmpV nm ck cn cs yb cb yf cf yl cl nm' dk dn ds zb db zf df zl dl
  have h72 := or72 true [sgnU (classU ck) (classU dk), lexB nm nm', cmpV (valk.val ck cn cs yb cb yf cf yl cl) (valk.val dk dn ds zb db zf df zl dl)] (by show 3 ≤ maxLen; decide)
  have hr := e h72 ih
  have : cmpF (.str nm :: valk.val ck cn cs yb cb yf cf yl cl) (.str nm' :: valk.val dk dn ds zb db zf df zl dl) =
      orE (ints [sgnU (classU ck) (classU dk), lexB nm nm', cmpV (valk.val ck cn cs yb cb yf cf yl cl) (valk.val dk dn ds zb db zf df zl dl)]) := by
    rw [← lx3, cmpF]
    rfl
  rw [this]
  exact hr

open valk in
theorem bytes_rows {eb : Es} {bs : List Int} (h : eb = bs.map fun x => [D.int .u8 x]) : eb = rows bs := h

open valk in
/-- Compare hands back what comparing comes to. -/
theorem cmp32 {a : Cs} (ha : VS a) : ∀ {b : Cs}, VS b → Ret P T 32 [.agg a, .agg b] [] (.int .i64 (cmpV a b)) [] := by
  induction ha with
  | mk k n s xb eb xf ef xl el bs hk hn hs hb hb' lb lf ll nb nf nl hf hfv hl ihf ihl =>
    intro b hvb
    cases hvb with
    | mk k' n' s' xb' eb' xf' ef' xl' el' bs' hk' hn' hs' hb1 hb1' lb' lf' ll' nb' nf' nl' hf' hfv' hl' =>
      have eV : cmpV (valk.val k n s xb eb xf ef xl el) (valk.val k' n' s' xb' eb' xf' ef' xl' el') = lx (sgnU (classU k) (classU k'))
          (if k = 3 ∨ k = 4 ∨ k = 10 ∨ k = 11 then sgnU n n' else if k = 5 then lexB s s' else if k = 6 then cmpFs ef ef' else if k = 7 then cmpLs el el'
            else if k = 8 then lx (sgnU eb.length eb'.length) (cbE eb eb') else if k = 9 then cbE eb eb' else 0) := by
        unfold valk.val
        rw [cmpV]
      rw [eV]
      have hF : ∀ r ∈ ef', ∃ nm c, r = .str nm :: c ∧ VS c := fun r hr => by
        obtain ⟨nm, c, rfl, _⟩ := hf' r hr
        exact ⟨nm, c, rfl, hfv' nm c hr⟩
      have hF0 : ∀ r ∈ ef, ∃ nm c, r = .str nm :: c ∧ VS c := fun r hr => by
        obtain ⟨nm, c, rfl, _⟩ := hf r hr
        exact ⟨nm, c, rfl, hfv nm c hr⟩
      have hLs := ls_ok xl xl' el el' ll hl hl' (fun r hr b hb => ihl r hr hb)
      have hFs := fs_ok xf xf' ef ef' lf hF0 hF (fun r hr nm b hb => by
        obtain ⟨nm0, c, rfl, hc⟩ := hF0 r hr
        exact f_ok nm0 nm c b hc hb (ihf nm0 c hr hb))
      have h73 : Ret P T 73 [.slice xb eb none, .slice xb' eb' none] [] (.int .i64 (cbE eb eb')) [] := by
        rw [bytes_rows hb, bytes_rows hb1]
        exact byc73 xb xb' bs bs'
      by_cases h0 : sgnU (classU k) (classU k') = 0
      · unfold lx
        rw [if_neg (by simpa using h0)]
        by_cases h3 : k = 3
        · rw [if_pos (by omega)]; exact cv_in_1 (cLs := cmpLs) (cFs := cmpFs) h0 h3
        by_cases h4 : k = 4
        · rw [if_pos (by omega)]; exact cv_in_2 (cLs := cmpLs) (cFs := cmpFs) h0 h3 h4
        by_cases h10 : k = 10
        · rw [if_pos (by omega)]; exact cv_in_3 (cLs := cmpLs) (cFs := cmpFs) h0 h3 h4 h10
        by_cases h11 : k = 11
        · rw [if_pos (by omega)]; exact cv_in_4 (cLs := cmpLs) (cFs := cmpFs) h0 h3 h4 h10 h11
        rw [if_neg (by omega)]
        by_cases h5 : k = 5
        · rw [if_pos h5]; exact cv_in_5 (cLs := cmpLs) (cFs := cmpFs) h0 h3 h4 h10 h11 h5
        rw [if_neg h5]
        by_cases h6 : k = 6
        · rw [if_pos h6]; exact cv_in_6 (cLs := cmpLs) (cFs := cmpFs) h0 h3 h4 h10 h11 h5 h6 hFs
        rw [if_neg h6]
        by_cases h7 : k = 7
        · rw [if_pos h7]; exact cv_in_7 (cLs := cmpLs) (cFs := cmpFs) h0 h3 h4 h10 h11 h5 h6 h7 hLs
        rw [if_neg h7]
        by_cases h8 : k = 8
        · rw [if_pos h8]
          have h72 := or72 true [sgnU eb.length eb'.length, cbE eb eb'] (by show 2 ≤ maxLen; decide)
          have e := cv_in_8 (cLs := cmpLs) (cFs := cmpFs) (n := n) (s := s) (xf := xf) (ef := ef) (xl := xl) (el := el) (n' := n') (s' := s') (xf' := xf') (ef' := ef') (xl' := xl') (el' := el') h0 h3 h4 h10 h11 h5 h6 h7 h8 h72 h73
          have e2 := lx2 (sgnU eb.length eb'.length) (cbE eb eb')
          unfold lx at e2
          rw [e2]
          exact e
        rw [if_neg h8]
        by_cases h9 : k = 9
        · rw [if_pos h9]; exact cv_in_9 (cLs := cmpLs) (cFs := cmpFs) h0 h3 h4 h10 h11 h5 h6 h7 h8 h9 h73
        rw [if_neg h9]
        exact cv_in_10 (cLs := cmpLs) (cFs := cmpFs) h0 h3 h4 h10 h11 h5 h6 h7 h8 h9
      · unfold lx
        rw [if_pos h0]
        exact cv_in_0 (cLs := cmpLs) (cFs := cmpFs) h0

end Go.Proofs.Ytbkacmcijimbfaa.ordk
