/- The law DiskFails: the prefix's deeds, and the plan's word: roads. -/
import Derived.Test.YtifpbdhggooelaaDkA
namespace Go.Proofs.Ytifpbdhggooelaa.dsk
open Go Ytifpbdhggooelaa.GD
set_option linter.unusedVariables false
set_option linter.unusedSimpArgs false
set_option maxRecDepth 100000

def hOfg : Hint := .b false
def nilG : List D := [.slice false [] none]
def tabG (bb : Bool) (nn : Int) : Tab := fun k args H =>
  match k with
  | 62 => match args, H with | [.slice true [[.int .i64 w, .int .i64 kk]] (some 0), .agg [.int .i64 _, .int .i64 _]], [some (.tok 1 2)] => some (.bool bb, H) | _, _ => tNo k args H
  | 64 => match args, H with | [.slice true [[.int .i64 w, .int .i64 kk]] (some 0), .agg [.int .i64 _, .int .i64 _]], [some (.tok 1 2)] => some (.int .i64 nn, H) | _, _ => tNo k args H
  | _ => tNo k args H
def aNf (u : Unit) : List D × GD.Heap := ([.int .i64 64, .int .i64 40], [])
def tNf (u : Unit) : Tab := tNo
def aAf (u : Unit) : List D × GD.Heap := ([.ptr 0 0 0], [some (dk 40 0 0 0 0 nilG 2), some (.mp .i64 [] []), some frO])
def aWf (xs zs : Es) : List D × GD.Heap := ([.ptr 0 0 0, .int .i64 0, .view 4 0 64], [some (dk 40 1 1 0 1 nilG 3), some (.mp .i64 [0] [.view 2 0 64]), some (.row 1 xs), some frO, some (.row 1 zs)])
def tWf (xs zs : Es) : Tab := tNo
/-- The plan's faults: one. -/
def aIf (bb : Bool) (nn w kk a b : Int) : List D × GD.Heap := ([.slice true [[.int .i64 w, .int .i64 kk]] (some 0), .agg [.int .i64 a, .int .i64 b]], [some (.tok 1 2)])
def tIf (bb : Bool) (nn w kk a b : Int) : Tab := tabG bb nn
def pln (w kk : Int) : List D := [.slice true [[.int .i64 w, .int .i64 kk]] (some 4)]
def aPf (bb : Bool) (nn w kk hi op wr sn kd : Int) (ks : List Int) (xs : Es) : List D × GD.Heap := ([.agg (.ptr 0 0 0 :: pln w kk), .int .i64 kd], [some (dk 40 hi op wr sn (pln w kk) 3), some (.mp .i64 ks [.view 2 0 64]), some (.row 1 xs), some frO, some (.tok 1 2)])
def tPf (bb : Bool) (nn w kk hi op wr sn kd : Int) (ks : List Int) (xs : Es) : Tab := tabG bb nn

/-! ### function 37 -/
theorem nf_fn : Try.prog.funcs[(37 : Nat)]? = some (fnAt P 37) := by kernel_rfl
theorem nf_body : (fnAt P 37).body = some (bodyAt P 37) := by kernel_rfl
theorem nf_name : ((fnAt P 37).name == "runtime.NumGoroutine") = false := by kernel_rfl
noncomputable def nf_C (u : Unit) : Cf := cfg Try.prog (hintOf [((37 : Nat), (3 : Nat), (3 : Nat), hOfg)]) (tNf u) (fun _ => false) 2 true (fun z => Nat.beq 1 z)
theorem nf_ok (u : Unit) : CfOk (nf_C u) := cfg_ok (by kernel_rfl)
noncomputable def nf_run (u : Unit) (qcur : Cur) (qk : List It) (qs : St) (qor : GD.Or) := runE (nf_C u) (callE (nf_C u) 100000 10) 37 100000 qcur qk qs qor []

theorem nf_in_0 {u : Unit} (h0 : FlatEs [[D.slice true [] none]]) : Ret P T 37 [D.int .i64 (64 : Int), D.int .i64 (40 : Int)] [] (D.tuple [D.ptr 3 0 0, D.int .i64 (0 : Int)]) [some (HObj.mp IntKind.i64 [] []), some (HObj.tok (0 : Nat) (1 : Nat)), some (.row 1 [[D.slice true [] none]]), some (.row 9 [[D.int .i64 (64 : Int), D.int .i64 (40 : Int), D.mapp (0 : Nat), D.ptr 2 0 0, D.int .i64 (0 : Int), D.int .i64 (0 : Int), D.int .i64 (0 : Int), D.int .i64 (0 : Int), D.func (Fn.func (59 : Nat)) [D.agg [D.ptr 3 0 0, D.slice false [] none]] []]])] :=
  fin_call nf_fn nf_body nf_name (fr 37 4 (nf_ok u) (pth 24 12531451) (ac h0 (ac h0 (ac tru (ac (show false = false from rfl) (ac h0 (ac h0 (ac tru (ac tru (ac tru (ac tru (ac tru (ac tru (ac (show false = false from rfl) (ac (show false = false from rfl) (ac tru (ac tru (ac (show false = false from rfl) (ac tru (ac tru (ac (show false = false from rfl) (ac tru (ac tru (ac tru (ac tru (ac tru (ac (show false = false from rfl) (ac tru (ac tru an)))))))))))))))))))))))))))))


/-! ### function 38 -/
theorem af_fn : Try.prog.funcs[(38 : Nat)]? = some (fnAt P 38) := by kernel_rfl
theorem af_body : (fnAt P 38).body = some (bodyAt P 38) := by kernel_rfl
theorem af_name : ((fnAt P 38).name == "runtime.NumGoroutine") = false := by kernel_rfl
noncomputable def af_C (u : Unit) : Cf := cfg Try.prog (hintOf []) (tNf u) (fun _ => false) 2 true (fun z => Nat.beq 1 z)
theorem af_ok (u : Unit) : CfOk (af_C u) := cfg_ok (by kernel_rfl)
noncomputable def af_run (u : Unit) (qcur : Cur) (qk : List It) (qs : St) (qor : GD.Or) := runE (af_C u) (callE (af_C u) 100000 10) 38 100000 qcur qk qs qor []

theorem af_in_0 {u : Unit} (h0 : FlatEs [[D.slice true [] none]]) (h1 : Ret P T 59 [D.agg [D.ptr 0 0 0, D.slice false [] none], D.int .i64 (3 : Int)] [some (.row 9 [[D.int .i64 (64 : Int), D.int .i64 (40 : Int), D.mapp (1 : Nat), D.ptr 2 0 0, D.int .i64 (0 : Int), D.int .i64 (1 : Int), D.int .i64 (0 : Int), D.int .i64 (1 : Int), D.func (Fn.func (59 : Nat)) [D.agg [D.ptr 0 0 0, D.slice false [] none]] []]]), some (HObj.mp IntKind.i64 [] []), some (.row 1 [[D.slice true [] none]])] (D.bool false) [some (.row 9 [[D.int .i64 (64 : Int), D.int .i64 (40 : Int), D.mapp (1 : Nat), D.ptr 2 0 0, D.int .i64 (0 : Int), D.int .i64 (1 : Int), D.int .i64 (0 : Int), D.int .i64 (1 : Int), D.func (Fn.func (59 : Nat)) [D.agg [D.ptr 0 0 0, D.slice false [] none]] []]]), some (HObj.mp IntKind.i64 [] []), some (.row 1 [[D.slice true [] none]])]) : Ret P T 38 [D.ptr 0 0 0] [some (.row 9 [[D.int .i64 (64 : Int), D.int .i64 (40 : Int), D.mapp (1 : Nat), D.ptr 2 0 0, D.int .i64 (0 : Int), D.int .i64 (0 : Int), D.int .i64 (0 : Int), D.int .i64 (0 : Int), D.func (Fn.func (59 : Nat)) [D.agg [D.ptr 0 0 0, D.slice false [] none]] []]]), some (HObj.mp IntKind.i64 [] []), some (.row 1 [[D.slice true [] none]])] (D.tuple [D.int .i64 (0 : Int), D.int .i64 (0 : Int)]) [some (.row 9 [[D.int .i64 (64 : Int), D.int .i64 (40 : Int), D.mapp (1 : Nat), D.ptr 2 0 0, D.int .i64 (1 : Int), D.int .i64 (1 : Int), D.int .i64 (0 : Int), D.int .i64 (1 : Int), D.func (Fn.func (59 : Nat)) [D.agg [D.ptr 0 0 0, D.slice false [] none]] []]]), some (HObj.mp IntKind.i64 [(0 : Int)] [D.view 55 (0 : Nat) (64 : Nat)]), some (.row 1 [[D.slice true [] none]]), none, none, none, none, none, none, none, none, none, none, none, none, none, none, none, none, none, none, none, none, none, none, none, none, none, none, none, none, none, none, none, none, none, none, none, none, none, none, none, none, none, none, none, none, none, none, none, none, none, none, none, none, some (.row 1 (List.replicate (64 : Nat) [D.int .u8 (0 : Int)]))] :=
  fin_call af_fn af_body af_name (fr 38 56 (af_ok u) (pth 20 131007) (ac (show (0 : Int) ≤ (64 : Int) ∧ (64 : Int) ≤ (64 : Int) ∧ (↑(1 : Nat) : Int) * (64 : Int) ≤ (281474976710656 : Int) ∧ (64 : Int) ≤ (9223372036854775807 : Int) by decide) (ac (show false = false from rfl) (ac (show false = false from rfl) (ac (show false = false from rfl) (ac tru (ac tru (ac tru (ac tru (ac tru (ac tru (ac tru (ac tru (ac tru (ac tru (ac h0 (ac h0 (ac h1 (ac h0 (ac h0 (ac (show false = false from rfl) (ac h0 (ac h0 (ac tru (ac tru (ac tru (ac tru (ac tru (ac tru an)))))))))))))))))))))))))))))


/-! ### function 39 -/
theorem wf_fn : Try.prog.funcs[(39 : Nat)]? = some (fnAt P 39) := by kernel_rfl
theorem wf_body : (fnAt P 39).body = some (bodyAt P 39) := by kernel_rfl
theorem wf_name : ((fnAt P 39).name == "runtime.NumGoroutine") = false := by kernel_rfl
noncomputable def wf_C (xs zs : Es) : Cf := cfg Try.prog (hintOf [((51 : Nat), (3 : Nat), (0 : Nat), Hint.row), ((51 : Nat), (3 : Nat), (2 : Nat), hOfg)]) (tWf xs zs) (fun _ => false) 3 true (fun z => Nat.beq 1 z)
theorem wf_ok (xs zs : Es) : CfOk (wf_C xs zs) := cfg_ok (by kernel_rfl)
noncomputable def wf_run (xs zs : Es) (qcur : Cur) (qk : List It) (qs : St) (qor : GD.Or) := runE (wf_C xs zs) (callE (wf_C xs zs) 100000 10) 39 100000 qcur qk qs qor []

theorem wf_in_0 {xs zs : Es} (h0 : FlatEs zs) (h1 : FlatEs ([] ++ List.take (64 : Nat) zs)) (h2 : (List.take (64 : Nat) zs).length = (64 : Nat)) (h3 : (0 : Nat) = (0 : Nat) ∧ (0 : Nat) < (0 : Nat) + (List.take (64 : Nat) zs).length ∧ (0 : Nat) ≤ (0 : Nat) ∧ ((0 : Nat) + (List.take (64 : Nat) zs).length) * (1 : Nat) ≤ (140737488355328 : Nat) ∧ ((List.take (64 : Nat) zs).all fun c => c.length == (1 : Nat)) = true) (h4 : FlatEs xs) (h5 : FlatEs [[D.slice true [] none]]) (h6 : Ret P T 59 [D.agg [D.ptr 0 0 0, D.slice false [] none], D.int .i64 (2 : Int)] [some (.row 9 [[D.int .i64 (64 : Int), D.int .i64 (40 : Int), D.mapp (1 : Nat), D.ptr 3 0 0, D.int .i64 (1 : Int), D.int .i64 (2 : Int), D.int .i64 (0 : Int), D.int .i64 (2 : Int), D.func (Fn.func (59 : Nat)) [D.agg [D.ptr 0 0 0, D.slice false [] none]] []]]), some (HObj.mp IntKind.i64 [(0 : Int)] [D.view 2 (0 : Nat) (64 : Nat)]), some (.row 1 xs), some (.row 1 [[D.slice true [] none]])] (D.bool false) [some (.row 9 [[D.int .i64 (64 : Int), D.int .i64 (40 : Int), D.mapp (1 : Nat), D.ptr 3 0 0, D.int .i64 (1 : Int), D.int .i64 (2 : Int), D.int .i64 (0 : Int), D.int .i64 (2 : Int), D.func (Fn.func (59 : Nat)) [D.agg [D.ptr 0 0 0, D.slice false [] none]] []]]), some (HObj.mp IntKind.i64 [(0 : Int)] [D.view 2 (0 : Nat) (64 : Nat)]), some (.row 1 xs), some (.row 1 [[D.slice true [] none]])]) : Ret P T 39 [D.ptr 0 0 0, D.int .i64 (0 : Int), D.view 4 (0 : Nat) (64 : Nat)] [some (.row 9 [[D.int .i64 (64 : Int), D.int .i64 (40 : Int), D.mapp (1 : Nat), D.ptr 3 0 0, D.int .i64 (1 : Int), D.int .i64 (1 : Int), D.int .i64 (0 : Int), D.int .i64 (1 : Int), D.func (Fn.func (59 : Nat)) [D.agg [D.ptr 0 0 0, D.slice false [] none]] []]]), some (HObj.mp IntKind.i64 [(0 : Int)] [D.view 2 (0 : Nat) (64 : Nat)]), some (.row 1 xs), some (.row 1 [[D.slice true [] none]]), some (.row 1 zs)] (D.int .i64 (0 : Int)) [some (.row 9 [[D.int .i64 (64 : Int), D.int .i64 (40 : Int), D.mapp (1 : Nat), D.ptr 3 0 0, D.int .i64 (1 : Int), D.int .i64 (2 : Int), D.int .i64 (1 : Int), D.int .i64 (2 : Int), D.func (Fn.func (59 : Nat)) [D.agg [D.ptr 0 0 0, D.slice false [] none]] []]]), some (HObj.mp IntKind.i64 [(0 : Int)] [D.view 24 (0 : Nat) ((0 : Nat) + (List.take (64 : Nat) zs).length)]), some (.row 1 xs), some (.row 1 [[D.slice true [] none]]), some (.row 1 zs), none, none, none, none, none, none, none, none, none, none, none, none, none, none, none, none, none, none, some HObj.dead, some (.row 1 ([] ++ List.take (64 : Nat) zs))] :=
  fin_call wf_fn wf_body wf_name (fr 39 25 (wf_ok xs zs) (pth 11 63) (ac h0 (ac h0 (ac h1 (ac h2 (ac h3 (ac (show false = false from rfl) (ac (show false = false from rfl) (ac (show false = false from rfl) (ac (show false = false from rfl) (ac h4 (ac h5 (ac h4 (ac h5 (ac h6 (ac h4 (ac h5 (ac h4 (ac h5 (ac (show false = false from rfl) (ac h4 (ac h5 (ac h4 (ac h5 (ac tru (ac tru (ac tru (ac tru (ac tru (ac tru an))))))))))))))))))))))))))))))


/-! ### function 64 -/
theorem if_fn : Try.prog.funcs[(64 : Nat)]? = some (fnAt P 64) := by kernel_rfl
theorem if_body : (fnAt P 64).body = some (bodyAt P 64) := by kernel_rfl
theorem if_name : ((fnAt P 64).name == "runtime.NumGoroutine") = false := by kernel_rfl
noncomputable def if_C (bb : Bool) (nn w : Int) (kk a : Int) (b n4_3_0 n4_3_1 : Int) : Cf := cfg Try.prog (hintOf [((64 : Nat), (4 : Nat), (3 : Nat), Hint.c [D.int .i64 n4_3_0, D.int .i64 n4_3_1])]) (tIf bb nn w kk a b) (fun _ => false) 2 true (fun _ => false)
theorem if_ok (bb : Bool) (nn w : Int) (kk a : Int) (b n4_3_0 n4_3_1 : Int) : CfOk (if_C bb nn w kk a b n4_3_0 n4_3_1) := cfg_ok (by kernel_rfl)
noncomputable def if_run (bb : Bool) (nn w : Int) (kk a : Int) (b n4_3_0 n4_3_1 : Int) (qcur : Cur) (qk : List It) (qs : St) (qor : GD.Or) := runE (if_C bb nn w kk a b n4_3_0 n4_3_1) (callE (if_C bb nn w kk a b n4_3_0 n4_3_1) 100000 10) 64 100000 qcur qk qs qor []
noncomputable def if_l0 : Code := (loopAt Try.prog 64 0).1
noncomputable def if_k0 : List It := (loopAt Try.prog 64 0).2
/- loop 0: n8:=(0 : Int); -/
noncomputable def if_s0 (bb : Bool) (nn w : Int) (kk a : Int) (b n8 : Int) : St := ⟨envOf 19 [(0, D.slice true [[D.int .i64 w, D.int .i64 kk]] (some 0)), (3, D.ptr 1 0 0), (7, D.int .i64 (↑(1 : Nat) : Int)), (8, D.int .i64 n8)], [some (HObj.tok (1 : Nat) (2 : Nat)), some (.row 2 [[D.int .i64 a, D.int .i64 b]])]⟩
def if_at0 (bb : Bool) (nn w : Int) (kk a : Int) (b n8 : Int) (r : D) (H1 : GD.Heap) : Prop := GD.Fin Try.prog (tyOf Try.prog) (fnAt P 64) 1 (.code (.loop if_l0)) if_k0 (if_s0 bb nn w kk a b n8) r H1

theorem if_in_0 {bb : Bool} {nn w : Int} {kk a b : Int} {r : D} {H1 : GD.Heap} (g : if_at0 bb nn w kk a b ((0 : Int)) r H1) : Ret P T 64 [D.slice true [[D.int .i64 w, D.int .i64 kk]] (some 0), D.agg [D.int .i64 a, D.int .i64 b]] [some (HObj.tok (1 : Nat) (2 : Nat))] r H1 :=
  fin_call if_fn if_body if_name (fs (fun _ => false) 64 2 [0, 3, 7, 8] (if_ok bb nn w kk a b 0 0) (pth 0 0) an g)

theorem if_0_0 {bb : Bool} {nn w : Int} {kk a : Int} {b n8 : Int} {n4_3_0 n4_3_1 : Int} (h0 : n8 < (1 : Int)) (h1 : (a == n4_3_0 && b == n4_3_1) = true) (h2 : (0 : Int) ≤ n8) (h3 : [[D.int .i64 w, D.int .i64 kk]][n8.toNat]? = some [D.int .i64 n4_3_0, D.int .i64 n4_3_1]) (h4 : decide (n8 < (↑(1 : Nat) : Int)) = true) : if_at0 bb nn w kk a b n8 (D.int .i64 n8) [some (HObj.tok (1 : Nat) (2 : Nat))] :=
  have bq1 := h1
  fin_loop (fr 64 1 (if_ok bb nn w kk a b n4_3_0 n4_3_1) (pth 2 3) (ac bq1 (ac h2 (ac h3 (ac h4 an)))))

theorem if_0_1 {bb : Bool} {nn w : Int} {kk a : Int} {b n8 : Int} {n4_3_0 n4_3_1 : Int} {r : D} {H1 : GD.Heap} (h0 : n8 < (1 : Int)) (h1 : (a == n4_3_0 && b == n4_3_1) = false) (h2 : (0 : Int) ≤ n8) (h3 : [[D.int .i64 w, D.int .i64 kk]][n8.toNat]? = some [D.int .i64 n4_3_0, D.int .i64 n4_3_1]) (h4 : decide (n8 < (↑(1 : Nat) : Int)) = true) (g : if_at0 bb nn w kk a b (IntKind.i64.wrap (n8 + (1 : Int))) r H1) : if_at0 bb nn w kk a b n8 r H1 :=
  have bq1 := h1
  fin_loop (fs (fun _ => false) 64 2 [0, 3, 7, 8] (if_ok bb nn w kk a b n4_3_0 n4_3_1) (pth 2 1) (ac bq1 (ac h2 (ac h3 (ac h4 an)))) g)

theorem if_0_2 {bb : Bool} {nn w : Int} {kk a : Int} {b n8 : Int} (h0 : ¬ (n8 < (1 : Int))) (h1 : decide (n8 < (↑(1 : Nat) : Int)) = false) : if_at0 bb nn w kk a b n8 (D.int .i64 (-1 : Int)) [some (HObj.tok (1 : Nat) (2 : Nat))] :=
  fin_loop (fr 64 1 (if_ok bb nn w kk a b 0 0) (pth 1 0) (ac h1 an))


/-! ### function 62 -/
theorem cf_fn : Try.prog.funcs[(62 : Nat)]? = some (fnAt P 62) := by kernel_rfl
theorem cf_body : (fnAt P 62).body = some (bodyAt P 62) := by kernel_rfl
theorem cf_name : ((fnAt P 62).name == "runtime.NumGoroutine") = false := by kernel_rfl
noncomputable def cf_C (bb : Bool) (nn w : Int) (kk a b : Int) : Cf := cfg Try.prog (hintOf []) (tIf bb nn w kk a b) (fun _ => false) 2 true (fun _ => false)
theorem cf_ok (bb : Bool) (nn w : Int) (kk a b : Int) : CfOk (cf_C bb nn w kk a b) := cfg_ok (by kernel_rfl)
noncomputable def cf_run (bb : Bool) (nn w : Int) (kk a b : Int) (qcur : Cur) (qk : List It) (qs : St) (qor : GD.Or) := runE (cf_C bb nn w kk a b) (callE (cf_C bb nn w kk a b) 100000 10) 62 100000 qcur qk qs qor []

theorem cf_in_0 {bb : Bool} {nn w : Int} {kk a b : Int} (h0 : Ret P T 64 [D.slice true [[D.int .i64 w, D.int .i64 kk]] (some 0), D.agg [D.int .i64 a, D.int .i64 b]] [some (HObj.tok (1 : Nat) (2 : Nat))] (D.int .i64 nn) [some (HObj.tok (1 : Nat) (2 : Nat))]) : Ret P T 62 [D.slice true [[D.int .i64 w, D.int .i64 kk]] (some 0), D.agg [D.int .i64 a, D.int .i64 b]] [some (HObj.tok (1 : Nat) (2 : Nat))] (D.bool (decide (nn ≥ (0 : Int)))) [some (HObj.tok (1 : Nat) (2 : Nat))] :=
  fin_call cf_fn cf_body cf_name (fr 62 1 (cf_ok bb nn w kk a b) (pth 0 0) (ac h0 an))


/-! ### function 59 -/
theorem pf_fn : Try.prog.funcs[(59 : Nat)]? = some (fnAt P 59) := by kernel_rfl
theorem pf_body : (fnAt P 59).body = some (bodyAt P 59) := by kernel_rfl
theorem pf_name : ((fnAt P 59).name == "runtime.NumGoroutine") = false := by kernel_rfl
noncomputable def pf_C (bb : Bool) (nn w : Int) (kk hi : Int) (op wr : Int) (sn kd : Int) (ks : List Int) (xs : Es) : Cf := cfg Try.prog (hintOf []) (tPf bb nn w kk hi op wr sn kd ks xs) (fun _ => false) 2 true (fun z => Nat.beq 1 z)
theorem pf_ok (bb : Bool) (nn w : Int) (kk hi : Int) (op wr : Int) (sn kd : Int) (ks : List Int) (xs : Es) : CfOk (pf_C bb nn w kk hi op wr sn kd ks xs) := cfg_ok (by kernel_rfl)
noncomputable def pf_run (bb : Bool) (nn w : Int) (kk hi : Int) (op wr : Int) (sn kd : Int) (ks : List Int) (xs : Es) (qcur : Cur) (qk : List It) (qs : St) (qor : GD.Or) := runE (pf_C bb nn w kk hi op wr sn kd ks xs) (callE (pf_C bb nn w kk hi op wr sn kd ks xs) 100000 10) 59 100000 qcur qk qs qor []

theorem pf_in_0 {bb : Bool} {nn w : Int} {kk hi : Int} {op wr : Int} {sn kd : Int} {ks : List Int} {xs : Es} (h0 : Ret P T 62 [D.slice true [[D.int .i64 w, D.int .i64 kk]] (some 0), D.agg [D.int .i64 sn, D.int .i64 kd]] [some (HObj.tok (1 : Nat) (2 : Nat))] (D.bool bb) [some (HObj.tok (1 : Nat) (2 : Nat))]) : Ret P T 59 [D.agg [D.ptr 0 0 0, D.slice true [[D.int .i64 w, D.int .i64 kk]] (some 4)], D.int .i64 kd] [some (.row 9 [[D.int .i64 (64 : Int), D.int .i64 (40 : Int), D.mapp (1 : Nat), D.ptr 3 0 0, D.int .i64 hi, D.int .i64 op, D.int .i64 wr, D.int .i64 sn, D.func (Fn.func (59 : Nat)) [D.agg [D.ptr 0 0 0, D.slice true [[D.int .i64 w, D.int .i64 kk]] (some 4)]] []]]), some (HObj.mp IntKind.i64 ks [D.view 2 (0 : Nat) (64 : Nat)]), some (.row 1 xs), some (.row 1 [[D.slice true [] none]]), some (HObj.tok (1 : Nat) (2 : Nat))] (D.bool bb) [some (.row 9 [[D.int .i64 (64 : Int), D.int .i64 (40 : Int), D.mapp (1 : Nat), D.ptr 3 0 0, D.int .i64 hi, D.int .i64 op, D.int .i64 wr, D.int .i64 sn, D.func (Fn.func (59 : Nat)) [D.agg [D.ptr 0 0 0, D.slice true [[D.int .i64 w, D.int .i64 kk]] (some 4)]] []]]), some (HObj.mp IntKind.i64 ks [D.view 2 (0 : Nat) (64 : Nat)]), some (.row 1 xs), some (.row 1 [[D.slice true [] none]]), some (HObj.tok (1 : Nat) (2 : Nat))] :=
  fin_call pf_fn pf_body pf_name (fr 59 5 (pf_ok bb nn w kk hi op wr sn kd ks xs) (pth 0 0) (ac h0 an))



end Go.Proofs.Ytifpbdhggooelaa.dsk
