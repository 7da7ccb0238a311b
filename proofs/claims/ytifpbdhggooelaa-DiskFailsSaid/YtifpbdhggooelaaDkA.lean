/- The disk's deeds: Plan's faults, Turn: roads. -/
import Derived.Test.YtifpbdhggooelaaGd34
import Derived.Test.YtifpbdhggooelaaRows
namespace Go.Proofs.Ytifpbdhggooelaa.dsk
open Go Ytifpbdhggooelaa.GD
set_option linter.unusedVariables false
set_option linter.unusedSimpArgs false
set_option maxRecDepth 100000

abbrev Tab := FuncId → List D → GD.Heap → Option (D × GD.Heap)
abbrev Es := List (List D)
noncomputable abbrev P : Program := Try.prog
noncomputable abbrev T : Tys := tyOf Try.prog
/-- The disk itself: its pages' map is the next object. -/
def dk (most : Int) (hi op wr sn : Int) (pl : List D) (fr : Nat) : HObj := .row 9 [[.int .i64 64, .int .i64 most, .mapp 1, .ptr fr 0 0, .int .i64 hi, .int .i64 op, .int .i64 wr, .int .i64 sn, .func (.func 59) [.agg (.ptr 0 0 0 :: pl)] []]]
def frO : HObj := .row 1 [[.slice true [] none]]
def tNo : Tab := fun k args H =>
  match k with
  | 36 => match args, H with | [], [] => some (.bool true, []) | _, _ => none
  | 59 => match args with | [.agg [.ptr 0 0 0, .slice false [] none], .int .i64 _] => some (.bool false, H) | _ => none
  | 62 => match args, H with | [.slice false [] none, .agg [.int .i64 _, .int .i64 _]], [] => some (.bool false, []) | _, _ => none
  | 64 => match args, H with | [.slice false [] none, .agg [.int .i64 _, .int .i64 _]], [] => some (.int .i64 (-1), []) | _, _ => none
  | _ => none
def aIx (a b : Int) : List D × GD.Heap := ([.slice false [] none, .agg [.int .i64 a, .int .i64 b]], [])
def tIx (a b : Int) : Tab := tNo
def aP0 (most hi op wr sn kd : Int) : List D × GD.Heap := ([.agg [.ptr 0 0 0, .slice false [] none], .int .i64 kd], [some (dk most hi op wr sn [.slice false [] none] 2), some (.mp .i64 [] []), some frO])
def tP0 (most hi op wr sn kd : Int) : Tab := tNo
def aP1 (most hi op wr sn kd : Int) (xs : Es) (lx : Nat) : List D × GD.Heap := ([.agg [.ptr 0 0 0, .slice false [] none], .int .i64 kd], [some (dk most hi op wr sn [.slice false [] none] 3), some (.mp .i64 [0] [.view 2 0 lx]), some (.row 1 xs), some frO])
def tP1 (most hi op wr sn kd : Int) (xs : Es) (lx : Nat) : Tab := tNo
def aP2 (most hi op wr sn kd : Int) (xs ys : Es) (lx ly : Nat) : List D × GD.Heap := ([.agg [.ptr 0 0 0, .slice false [] none], .int .i64 kd], [some (dk most hi op wr sn [.slice false [] none] 4), some (.mp .i64 [0, 1] [.view 2 0 lx, .view 3 0 ly]), some (.row 1 xs), some (.row 1 ys), some frO])
def tP2 (most hi op wr sn kd : Int) (xs ys : Es) (lx ly : Nat) : Tab := tNo
/-- Turn: two pages. -/
def aTu (hi op wr sn : Int) (xs ys : Es) (lx ly : Nat) (bt mk : Int) : List D × GD.Heap :=
  ([.ptr 0 0 0, .int .i64 0, .int .i64 bt, .int .u32 mk], [some (dk 3 hi op wr sn [.slice false [] none] 4), some (.mp .i64 [0, 1] [.view 2 0 lx, .view 3 0 ly]), some (.row 1 xs), some (.row 1 ys), some frO])
def tTu (hi op wr sn : Int) (xs ys : Es) (lx ly : Nat) (bt mk : Int) : Tab := tNo
def aT2 (hi op wr sn : Int) (xs ys : Es) (lx ly : Nat) (bt mk : Int) : List D × GD.Heap :=
  ([.ptr 0 0 0, .int .i64 2, .int .i64 bt, .int .u32 mk], [some (dk 3 hi op wr sn [.slice false [] none] 4), some (.mp .i64 [0, 1] [.view 2 0 lx, .view 3 0 ly]), some (.row 1 xs), some (.row 1 ys), some frO])
def tT2 (hi op wr sn : Int) (xs ys : Es) (lx ly : Nat) (bt mk : Int) : Tab := tNo

/-! ### function 64 -/
theorem ix_fn : Try.prog.funcs[(64 : Nat)]? = some (fnAt P 64) := by kernel_rfl
theorem ix_body : (fnAt P 64).body = some (bodyAt P 64) := by kernel_rfl
theorem ix_name : ((fnAt P 64).name == "runtime.NumGoroutine") = false := by kernel_rfl
noncomputable def ix_C (a b : Int) (n4_3_0 n4_3_1 : Int) : Cf := cfg Try.prog (hintOf [((64 : Nat), (4 : Nat), (3 : Nat), Hint.c [D.int .i64 n4_3_0, D.int .i64 n4_3_1])]) (tIx a b) (fun _ => false) 2 true (fun _ => false)
theorem ix_ok (a b : Int) (n4_3_0 n4_3_1 : Int) : CfOk (ix_C a b n4_3_0 n4_3_1) := cfg_ok (by kernel_rfl)
noncomputable def ix_run (a b : Int) (n4_3_0 n4_3_1 : Int) (qcur : Cur) (qk : List It) (qs : St) (qor : GD.Or) := runE (ix_C a b n4_3_0 n4_3_1) (callE (ix_C a b n4_3_0 n4_3_1) 100000 10) 64 100000 qcur qk qs qor []
noncomputable def ix_l0 : Code := (loopAt Try.prog 64 0).1
noncomputable def ix_k0 : List It := (loopAt Try.prog 64 0).2
/- loop 0: n8:=(0 : Int); -/
noncomputable def ix_s0 (a b n8 : Int) : St := ⟨envOf 19 [(0, D.slice false [] none), (3, D.ptr 0 0 0), (7, D.int .i64 (0 : Int)), (8, D.int .i64 n8)], [some (.row 2 [[D.int .i64 a, D.int .i64 b]])]⟩
def ix_at0 (a b n8 : Int) (r : D) (H1 : GD.Heap) : Prop := GD.Fin Try.prog (tyOf Try.prog) (fnAt P 64) 0 (.code (.loop ix_l0)) ix_k0 (ix_s0 a b n8) r H1

theorem ix_in_0 {a b : Int} {r : D} {H1 : GD.Heap} (g : ix_at0 a b ((0 : Int)) r H1) : Ret P T 64 [D.slice false [] none, D.agg [D.int .i64 a, D.int .i64 b]] [] r H1 :=
  fin_call ix_fn ix_body ix_name (fs (fun _ => false) 64 1 [0, 3, 7, 8] (ix_ok a b 0 0) (pth 0 0) an g)

theorem ix_0_0 {a b : Int} {n8 n4_3_0 n4_3_1 : Int} (h0 : n8 < (0 : Int)) (h1 : (a == n4_3_0 && b == n4_3_1) = true) (h2 : (0 : Int) ≤ n8) (h3 : none = some [D.int .i64 n4_3_0, D.int .i64 n4_3_1]) : ix_at0 a b n8 (D.int .i64 n8) [] :=
  have bq0 := decide_eq_true h0
  have bq1 := h1
  fin_loop (fr 64 0 (ix_ok a b n4_3_0 n4_3_1) (pth 2 3) (ac bq1 (ac h2 (ac h3 (ac bq0 an)))))

theorem ix_0_1 {a b : Int} {n8 n4_3_0 n4_3_1 : Int} {r : D} {H1 : GD.Heap} (h0 : n8 < (0 : Int)) (h1 : (a == n4_3_0 && b == n4_3_1) = false) (h2 : (0 : Int) ≤ n8) (h3 : none = some [D.int .i64 n4_3_0, D.int .i64 n4_3_1]) (g : ix_at0 a b (IntKind.i64.wrap (n8 + (1 : Int))) r H1) : ix_at0 a b n8 r H1 :=
  have bq0 := decide_eq_true h0
  have bq1 := h1
  fin_loop (fs (fun _ => false) 64 1 [0, 3, 7, 8] (ix_ok a b n4_3_0 n4_3_1) (pth 2 1) (ac bq1 (ac h2 (ac h3 (ac bq0 an)))) g)

theorem ix_0_2 {a b n8 : Int} (h0 : ¬ (n8 < (0 : Int))) : ix_at0 a b n8 (D.int .i64 (-1 : Int)) [] :=
  have bq0 := decide_eq_false h0
  fin_loop (fr 64 0 (ix_ok a b 0 0) (pth 1 0) (ac bq0 an))


/-! ### function 62 -/
theorem cn_fn : Try.prog.funcs[(62 : Nat)]? = some (fnAt P 62) := by kernel_rfl
theorem cn_body : (fnAt P 62).body = some (bodyAt P 62) := by kernel_rfl
theorem cn_name : ((fnAt P 62).name == "runtime.NumGoroutine") = false := by kernel_rfl
noncomputable def cn_C (a b : Int) : Cf := cfg Try.prog (hintOf []) (tIx a b) (fun _ => false) 2 true (fun _ => false)
theorem cn_ok (a b : Int) : CfOk (cn_C a b) := cfg_ok (by kernel_rfl)
noncomputable def cn_run (a b : Int) (qcur : Cur) (qk : List It) (qs : St) (qor : GD.Or) := runE (cn_C a b) (callE (cn_C a b) 100000 10) 62 100000 qcur qk qs qor []

theorem cn_in_0 {a b : Int} (h0 : Ret P T 64 [D.slice false [] none, D.agg [D.int .i64 a, D.int .i64 b]] [] (D.int .i64 (-1 : Int)) []) : Ret P T 62 [D.slice false [] none, D.agg [D.int .i64 a, D.int .i64 b]] [] (D.bool false) [] :=
  fin_call cn_fn cn_body cn_name (fr 62 0 (cn_ok a b) (pth 0 0) (ac h0 an))


/-! ### function 59 -/
theorem pa_fn : Try.prog.funcs[(59 : Nat)]? = some (fnAt P 59) := by kernel_rfl
theorem pa_body : (fnAt P 59).body = some (bodyAt P 59) := by kernel_rfl
theorem pa_name : ((fnAt P 59).name == "runtime.NumGoroutine") = false := by kernel_rfl
noncomputable def pa_C (most hi : Int) (op wr : Int) (sn kd : Int) : Cf := cfg Try.prog (hintOf []) (tP0 most hi op wr sn kd) (fun _ => false) 2 true (fun z => Nat.beq 1 z)
theorem pa_ok (most hi : Int) (op wr : Int) (sn kd : Int) : CfOk (pa_C most hi op wr sn kd) := cfg_ok (by kernel_rfl)
noncomputable def pa_run (most hi : Int) (op wr : Int) (sn kd : Int) (qcur : Cur) (qk : List It) (qs : St) (qor : GD.Or) := runE (pa_C most hi op wr sn kd) (callE (pa_C most hi op wr sn kd) 100000 10) 59 100000 qcur qk qs qor []

theorem pa_in_0 {most hi : Int} {op wr : Int} {sn kd : Int} (h0 : Ret P T 62 [D.slice false [] none, D.agg [D.int .i64 sn, D.int .i64 kd]] [] (D.bool false) []) : Ret P T 59 [D.agg [D.ptr 0 0 0, D.slice false [] none], D.int .i64 kd] [some (.row 9 [[D.int .i64 (64 : Int), D.int .i64 most, D.mapp (1 : Nat), D.ptr 2 0 0, D.int .i64 hi, D.int .i64 op, D.int .i64 wr, D.int .i64 sn, D.func (Fn.func (59 : Nat)) [D.agg [D.ptr 0 0 0, D.slice false [] none]] []]]), some (HObj.mp IntKind.i64 [] []), some (.row 1 [[D.slice true [] none]])] (D.bool false) [some (.row 9 [[D.int .i64 (64 : Int), D.int .i64 most, D.mapp (1 : Nat), D.ptr 2 0 0, D.int .i64 hi, D.int .i64 op, D.int .i64 wr, D.int .i64 sn, D.func (Fn.func (59 : Nat)) [D.agg [D.ptr 0 0 0, D.slice false [] none]] []]]), some (HObj.mp IntKind.i64 [] []), some (.row 1 [[D.slice true [] none]])] :=
  fin_call pa_fn pa_body pa_name (fr 59 3 (pa_ok most hi op wr sn kd) (pth 0 0) (ac h0 an))


/-! ### function 59 -/
theorem pb_fn : Try.prog.funcs[(59 : Nat)]? = some (fnAt P 59) := by kernel_rfl
theorem pb_body : (fnAt P 59).body = some (bodyAt P 59) := by kernel_rfl
theorem pb_name : ((fnAt P 59).name == "runtime.NumGoroutine") = false := by kernel_rfl
noncomputable def pb_C (most hi : Int) (op wr : Int) (sn kd : Int) (xs : Es) (lx : Nat) : Cf := cfg Try.prog (hintOf []) (tP1 most hi op wr sn kd xs lx) (fun _ => false) 2 true (fun z => Nat.beq 1 z)
theorem pb_ok (most hi : Int) (op wr : Int) (sn kd : Int) (xs : Es) (lx : Nat) : CfOk (pb_C most hi op wr sn kd xs lx) := cfg_ok (by kernel_rfl)
noncomputable def pb_run (most hi : Int) (op wr : Int) (sn kd : Int) (xs : Es) (lx : Nat) (qcur : Cur) (qk : List It) (qs : St) (qor : GD.Or) := runE (pb_C most hi op wr sn kd xs lx) (callE (pb_C most hi op wr sn kd xs lx) 100000 10) 59 100000 qcur qk qs qor []

theorem pb_in_0 {most hi : Int} {op wr : Int} {sn kd : Int} {xs : Es} {lx : Nat} (h0 : Ret P T 62 [D.slice false [] none, D.agg [D.int .i64 sn, D.int .i64 kd]] [] (D.bool false) []) : Ret P T 59 [D.agg [D.ptr 0 0 0, D.slice false [] none], D.int .i64 kd] [some (.row 9 [[D.int .i64 (64 : Int), D.int .i64 most, D.mapp (1 : Nat), D.ptr 3 0 0, D.int .i64 hi, D.int .i64 op, D.int .i64 wr, D.int .i64 sn, D.func (Fn.func (59 : Nat)) [D.agg [D.ptr 0 0 0, D.slice false [] none]] []]]), some (HObj.mp IntKind.i64 [(0 : Int)] [D.view 2 (0 : Nat) lx]), some (.row 1 xs), some (.row 1 [[D.slice true [] none]])] (D.bool false) [some (.row 9 [[D.int .i64 (64 : Int), D.int .i64 most, D.mapp (1 : Nat), D.ptr 3 0 0, D.int .i64 hi, D.int .i64 op, D.int .i64 wr, D.int .i64 sn, D.func (Fn.func (59 : Nat)) [D.agg [D.ptr 0 0 0, D.slice false [] none]] []]]), some (HObj.mp IntKind.i64 [(0 : Int)] [D.view 2 (0 : Nat) lx]), some (.row 1 xs), some (.row 1 [[D.slice true [] none]])] :=
  fin_call pb_fn pb_body pb_name (fr 59 4 (pb_ok most hi op wr sn kd xs lx) (pth 0 0) (ac h0 an))


/-! ### function 59 -/
theorem pc_fn : Try.prog.funcs[(59 : Nat)]? = some (fnAt P 59) := by kernel_rfl
theorem pc_body : (fnAt P 59).body = some (bodyAt P 59) := by kernel_rfl
theorem pc_name : ((fnAt P 59).name == "runtime.NumGoroutine") = false := by kernel_rfl
noncomputable def pc_C (most hi : Int) (op wr : Int) (sn kd : Int) (xs ys : Es) (lx ly : Nat) : Cf := cfg Try.prog (hintOf []) (tP2 most hi op wr sn kd xs ys lx ly) (fun _ => false) 2 true (fun z => Nat.beq 1 z)
theorem pc_ok (most hi : Int) (op wr : Int) (sn kd : Int) (xs ys : Es) (lx ly : Nat) : CfOk (pc_C most hi op wr sn kd xs ys lx ly) := cfg_ok (by kernel_rfl)
noncomputable def pc_run (most hi : Int) (op wr : Int) (sn kd : Int) (xs ys : Es) (lx ly : Nat) (qcur : Cur) (qk : List It) (qs : St) (qor : GD.Or) := runE (pc_C most hi op wr sn kd xs ys lx ly) (callE (pc_C most hi op wr sn kd xs ys lx ly) 100000 10) 59 100000 qcur qk qs qor []

theorem pc_in_0 {most hi : Int} {op wr : Int} {sn kd : Int} {xs ys : Es} {lx ly : Nat} (h0 : Ret P T 62 [D.slice false [] none, D.agg [D.int .i64 sn, D.int .i64 kd]] [] (D.bool false) []) : Ret P T 59 [D.agg [D.ptr 0 0 0, D.slice false [] none], D.int .i64 kd] [some (.row 9 [[D.int .i64 (64 : Int), D.int .i64 most, D.mapp (1 : Nat), D.ptr 4 0 0, D.int .i64 hi, D.int .i64 op, D.int .i64 wr, D.int .i64 sn, D.func (Fn.func (59 : Nat)) [D.agg [D.ptr 0 0 0, D.slice false [] none]] []]]), some (HObj.mp IntKind.i64 [(0 : Int), (1 : Int)] [D.view 2 (0 : Nat) lx, D.view 3 (0 : Nat) ly]), some (.row 1 xs), some (.row 1 ys), some (.row 1 [[D.slice true [] none]])] (D.bool false) [some (.row 9 [[D.int .i64 (64 : Int), D.int .i64 most, D.mapp (1 : Nat), D.ptr 4 0 0, D.int .i64 hi, D.int .i64 op, D.int .i64 wr, D.int .i64 sn, D.func (Fn.func (59 : Nat)) [D.agg [D.ptr 0 0 0, D.slice false [] none]] []]]), some (HObj.mp IntKind.i64 [(0 : Int), (1 : Int)] [D.view 2 (0 : Nat) lx, D.view 3 (0 : Nat) ly]), some (.row 1 xs), some (.row 1 ys), some (.row 1 [[D.slice true [] none]])] :=
  fin_call pc_fn pc_body pc_name (fr 59 5 (pc_ok most hi op wr sn kd xs ys lx ly) (pth 0 0) (ac h0 an))


/-! ### function 44 -/
theorem tu_fn : Try.prog.funcs[(44 : Nat)]? = some (fnAt P 44) := by kernel_rfl
theorem tu_body : (fnAt P 44).body = some (bodyAt P 44) := by kernel_rfl
theorem tu_name : ((fnAt P 44).name == "runtime.NumGoroutine") = false := by kernel_rfl
noncomputable def tu_C (hi op : Int) (wr sn : Int) (xs ys : Es) (lx ly : Nat) (bt mk : Int) (n10_4 n10_15 : Int) : Cf := cfg Try.prog (hintOf [((44 : Nat), (10 : Nat), (4 : Nat), Hint.c [D.int .u8 n10_4]), ((44 : Nat), (10 : Nat), (15 : Nat), Hint.c [D.int .u8 n10_15])]) (tTu hi op wr sn xs ys lx ly bt mk) (fun _ => false) 2 true (fun z => Nat.beq 1 z)
theorem tu_ok (hi op : Int) (wr sn : Int) (xs ys : Es) (lx ly : Nat) (bt mk : Int) (n10_4 n10_15 : Int) : CfOk (tu_C hi op wr sn xs ys lx ly bt mk n10_4 n10_15) := cfg_ok (by kernel_rfl)
noncomputable def tu_run (hi op : Int) (wr sn : Int) (xs ys : Es) (lx ly : Nat) (bt mk : Int) (n10_4 n10_15 : Int) (qcur : Cur) (qk : List It) (qs : St) (qor : GD.Or) := runE (tu_C hi op wr sn xs ys lx ly bt mk n10_4 n10_15) (callE (tu_C hi op wr sn xs ys lx ly bt mk n10_4 n10_15) 100000 10) 44 100000 qcur qk qs qor []
noncomputable def tu_l0 : Code := (loopAt Try.prog 44 0).1
noncomputable def tu_k0 : List It := (loopAt Try.prog 44 0).2
/- loop 0: n44:=(0 : Int); eh:=xs; -/
noncomputable def tu_s0 (hi op : Int) (wr sn : Int) (xs ys : Es) (lx ly : Nat) (bt mk n44 : Int) (eh : List (List D)) : St := ⟨envOf 66 [(2, D.int .i64 bt), (3, D.int .u32 mk), (9, D.view 2 (0 : Nat) lx), (43, D.int .i64 (if IntKind.i64.wrap (IntKind.i64.wrap ((8 : Int) * (↑lx : Int)) - bt) < (32 : Int) then IntKind.i64.wrap (IntKind.i64.wrap ((8 : Int) * (↑lx : Int)) - bt) else (32 : Int))), (44, D.int .i64 n44)], [some (.row 9 [[D.int .i64 (64 : Int), D.int .i64 (3 : Int), D.mapp (1 : Nat), D.ptr 4 0 0, D.int .i64 hi, D.int .i64 op, D.int .i64 wr, D.int .i64 sn, D.func (Fn.func (59 : Nat)) [D.agg [D.ptr 0 0 0, D.slice false [] none]] []]]), some (HObj.mp IntKind.i64 [(0 : Int), (1 : Int)] [D.view 2 (0 : Nat) lx, D.view 3 (0 : Nat) ly]), some (.row 1 eh), some (.row 1 ys), some (.row 1 [[D.slice true [] none]])]⟩
def tu_at0 (hi op : Int) (wr sn : Int) (xs ys : Es) (lx ly : Nat) (bt mk n44 : Int) (eh : List (List D)) (r : D) (H1 : GD.Heap) : Prop := GD.Fin Try.prog (tyOf Try.prog) (fnAt P 44) 5 (.code (.loop tu_l0)) tu_k0 (tu_s0 hi op wr sn xs ys lx ly bt mk n44 eh) r H1

theorem tu_in_0 {hi op : Int} {wr sn : Int} {xs ys : Es} {lx ly : Nat} {bt mk : Int} (h0 : bt < (0 : Int)) (h1 : FlatEs xs) (h2 : FlatEs ys) (h3 : FlatEs [[D.slice true [] none]]) : Ret P T 44 [D.ptr 0 0 0, D.int .i64 (0 : Int), D.int .i64 bt, D.int .u32 mk] [some (.row 9 [[D.int .i64 (64 : Int), D.int .i64 (3 : Int), D.mapp (1 : Nat), D.ptr 4 0 0, D.int .i64 hi, D.int .i64 op, D.int .i64 wr, D.int .i64 sn, D.func (Fn.func (59 : Nat)) [D.agg [D.ptr 0 0 0, D.slice false [] none]] []]]), some (HObj.mp IntKind.i64 [(0 : Int), (1 : Int)] [D.view 2 (0 : Nat) lx, D.view 3 (0 : Nat) ly]), some (.row 1 xs), some (.row 1 ys), some (.row 1 [[D.slice true [] none]])] (D.bool false) [some (.row 9 [[D.int .i64 (64 : Int), D.int .i64 (3 : Int), D.mapp (1 : Nat), D.ptr 4 0 0, D.int .i64 hi, D.int .i64 op, D.int .i64 wr, D.int .i64 sn, D.func (Fn.func (59 : Nat)) [D.agg [D.ptr 0 0 0, D.slice false [] none]] []]]), some (HObj.mp IntKind.i64 [(0 : Int), (1 : Int)] [D.view 2 (0 : Nat) lx, D.view 3 (0 : Nat) ly]), some (.row 1 xs), some (.row 1 ys), some (.row 1 [[D.slice true [] none]])] :=
  have bq0 := decide_eq_true h0
  fin_call tu_fn tu_body tu_name (fr 44 5 (tu_ok hi op wr sn xs ys lx ly bt mk 0 0) (pth 17 98751) (ac tru (ac bq0 (ac (ktf bq0) (ac (ktf bq0) (ac (ktf bq0) (ac (ktf bq0) (ac (ktf bq0) (ac (show false = false from rfl) (ac tru (ac tru (ac (show false = false from rfl) (ac h1 (ac h2 (ac h3 (ac h1 (ac h2 (ac h3 (ac tru (ac tru (ac tru (ac tru (ac tru (ac tru an))))))))))))))))))))))))

theorem tu_in_1 {hi op : Int} {wr sn : Int} {xs ys : Es} {lx ly : Nat} {bt mk : Int} (h0 : ¬ (bt < (0 : Int))) (h1 : bt ≥ IntKind.i64.wrap ((8 : Int) * (↑lx : Int))) (h2 : FlatEs xs) (h3 : FlatEs ys) (h4 : FlatEs [[D.slice true [] none]]) : Ret P T 44 [D.ptr 0 0 0, D.int .i64 (0 : Int), D.int .i64 bt, D.int .u32 mk] [some (.row 9 [[D.int .i64 (64 : Int), D.int .i64 (3 : Int), D.mapp (1 : Nat), D.ptr 4 0 0, D.int .i64 hi, D.int .i64 op, D.int .i64 wr, D.int .i64 sn, D.func (Fn.func (59 : Nat)) [D.agg [D.ptr 0 0 0, D.slice false [] none]] []]]), some (HObj.mp IntKind.i64 [(0 : Int), (1 : Int)] [D.view 2 (0 : Nat) lx, D.view 3 (0 : Nat) ly]), some (.row 1 xs), some (.row 1 ys), some (.row 1 [[D.slice true [] none]])] (D.bool false) [some (.row 9 [[D.int .i64 (64 : Int), D.int .i64 (3 : Int), D.mapp (1 : Nat), D.ptr 4 0 0, D.int .i64 hi, D.int .i64 op, D.int .i64 wr, D.int .i64 sn, D.func (Fn.func (59 : Nat)) [D.agg [D.ptr 0 0 0, D.slice false [] none]] []]]), some (HObj.mp IntKind.i64 [(0 : Int), (1 : Int)] [D.view 2 (0 : Nat) lx, D.view 3 (0 : Nat) ly]), some (.row 1 xs), some (.row 1 ys), some (.row 1 [[D.slice true [] none]])] :=
  have bq0 := decide_eq_false h0
  have bq1 := decide_eq_true h1
  fin_call tu_fn tu_body tu_name (fr 44 5 (tu_ok hi op wr sn xs ys lx ly bt mk 0 0) (pth 17 97727) (ac bq1 (ac bq0 (ac (kff bq0) (ac (kff bq0) (ac (kff bq0) (ac (kff bq0) (ac (kff bq0) (ac (show false = false from rfl) (ac tru (ac tru (ac (show false = false from rfl) (ac h2 (ac h3 (ac h4 (ac h2 (ac h3 (ac h4 (ac tru (ac tru (ac tru (ac tru (ac tru (ac tru an))))))))))))))))))))))))

theorem tu_in_2 {hi op : Int} {wr sn : Int} {xs ys : Es} {lx ly : Nat} {bt mk : Int} {r : D} {H1 : GD.Heap} (h0 : ¬ (bt < (0 : Int))) (h1 : ¬ (bt ≥ IntKind.i64.wrap ((8 : Int) * (↑lx : Int)))) (h2 : FlatEs xs) (h3 : FlatEs ys) (h4 : FlatEs [[D.slice true [] none]]) (g : tu_at0 hi op wr sn xs ys lx ly bt mk ((0 : Int)) (xs) r H1) : Ret P T 44 [D.ptr 0 0 0, D.int .i64 (0 : Int), D.int .i64 bt, D.int .u32 mk] [some (.row 9 [[D.int .i64 (64 : Int), D.int .i64 (3 : Int), D.mapp (1 : Nat), D.ptr 4 0 0, D.int .i64 hi, D.int .i64 op, D.int .i64 wr, D.int .i64 sn, D.func (Fn.func (59 : Nat)) [D.agg [D.ptr 0 0 0, D.slice false [] none]] []]]), some (HObj.mp IntKind.i64 [(0 : Int), (1 : Int)] [D.view 2 (0 : Nat) lx, D.view 3 (0 : Nat) ly]), some (.row 1 xs), some (.row 1 ys), some (.row 1 [[D.slice true [] none]])] r H1 :=
  have bq0 := decide_eq_false h0
  have bq1 := decide_eq_false h1
  fin_call tu_fn tu_body tu_name (fpk (fun z => Nat.beq 1 z) 44 5 [2, 3, 9, 43, 44] [0, 1, 2, 3, 4] (tu_ok hi op wr sn xs ys lx ly bt mk 0 0) (pth 17 32191) (ac h2 (ac h3 (ac h4 (ac bq1 (ac bq0 (ac (kff bq0) (ac (kff bq0) (ac (kff bq0) (ac (kff bq0) (ac (kff bq0) (ac (show false = false from rfl) (ac tru (ac tru (ac (show false = false from rfl) (ac h2 (ac h3 (ac h4 (ac h2 (ac h3 (ac h4 (ac tru (ac tru (ac tru (ac tru (ac tru (ac tru an)))))))))))))))))))))))))) g)

theorem tu_0_0 {hi op : Int} {wr sn : Int} {xs ys : Es} {lx ly : Nat} {bt mk n44 : Int} {eh : List (List D)} {n10_4 n10_15 : Int} {r : D} {H1 : GD.Heap} (h0 : n44 < if IntKind.i64.wrap (IntKind.i64.wrap ((8 : Int) * (↑lx : Int)) - bt) < (32 : Int) then IntKind.i64.wrap (IntKind.i64.wrap ((8 : Int) * (↑lx : Int)) - bt) else (32 : Int)) (h1 : FlatEs (eh.set ((0 : Nat) + (IntKind.i64.wrap ((IntKind.i64.wrap (bt + n44)).tdiv (8 : Int))).toNat) [D.int .u8 (xorW IntKind.u8 n10_4 (shlW IntKind.u8 (IntKind.u8.wrap (andW IntKind.u32 (shrW IntKind.u32 mk n44) (1 : Int))) ((IntKind.i64.wrap (bt + n44)).tmod (8 : Int))))])) (h2 : FlatEs ys) (h3 : FlatEs [[D.slice true [] none]]) (h4 : eh[(0 : Nat) + (IntKind.i64.wrap ((IntKind.i64.wrap (bt + n44)).tdiv (8 : Int))).toNat]? = some [D.int .u8 n10_15]) (h5 : (0 : Int) ≤ IntKind.i64.wrap ((IntKind.i64.wrap (bt + n44)).tdiv (8 : Int)) ∧ IntKind.i64.wrap ((IntKind.i64.wrap (bt + n44)).tdiv (8 : Int)) < (↑lx : Int)) (h6 : (0 : Int) ≤ (IntKind.i64.wrap (bt + n44)).tmod (8 : Int)) (h7 : (0 : Int) ≤ n44) (h8 : eh[(0 : Nat) + (IntKind.i64.wrap ((IntKind.i64.wrap (bt + n44)).tdiv (8 : Int))).toNat]? = some [D.int .u8 n10_4]) (g : tu_at0 hi op wr sn xs ys lx ly bt mk (IntKind.i64.wrap (n44 + (1 : Int))) (eh.set ((0 : Nat) + (IntKind.i64.wrap ((IntKind.i64.wrap (bt + n44)).tdiv (8 : Int))).toNat) [D.int .u8 (xorW IntKind.u8 n10_4 (shlW IntKind.u8 (IntKind.u8.wrap (andW IntKind.u32 (shrW IntKind.u32 mk n44) (1 : Int))) ((IntKind.i64.wrap (bt + n44)).tmod (8 : Int))))]) r H1) : tu_at0 hi op wr sn xs ys lx ly bt mk n44 eh r H1 :=
  have bq0 := decide_eq_true h0
  fin_loop (fpk (fun z => Nat.beq 1 z) 44 5 [2, 3, 9, 43, 44] [0, 1, 2, 3, 4] (tu_ok hi op wr sn xs ys lx ly bt mk n10_4 n10_15) (pth 1 1) (ac h1 (ac h2 (ac h3 (ac h4 (ac h5 (ac h6 (ac (show (8 : Int) ≠ (0 : Int) by decide) (ac h7 (ac h8 (ac h5 (ac (show (8 : Int) ≠ (0 : Int) by decide) (ac bq0 an)))))))))))) g)

theorem tu_0_1 {hi op : Int} {wr sn : Int} {xs ys : Es} {lx ly : Nat} {bt mk n44 : Int} {eh : List (List D)} (h0 : ¬ (n44 < if IntKind.i64.wrap (IntKind.i64.wrap ((8 : Int) * (↑lx : Int)) - bt) < (32 : Int) then IntKind.i64.wrap (IntKind.i64.wrap ((8 : Int) * (↑lx : Int)) - bt) else (32 : Int))) : tu_at0 hi op wr sn xs ys lx ly bt mk n44 eh (D.bool true) [some (.row 9 [[D.int .i64 (64 : Int), D.int .i64 (3 : Int), D.mapp (1 : Nat), D.ptr 4 0 0, D.int .i64 hi, D.int .i64 op, D.int .i64 wr, D.int .i64 sn, D.func (Fn.func (59 : Nat)) [D.agg [D.ptr 0 0 0, D.slice false [] none]] []]]), some (HObj.mp IntKind.i64 [(0 : Int), (1 : Int)] [D.view 2 (0 : Nat) lx, D.view 3 (0 : Nat) ly]), some (.row 1 eh), some (.row 1 ys), some (.row 1 [[D.slice true [] none]])] :=
  have bq0 := decide_eq_false h0
  fin_loop (fr 44 5 (tu_ok hi op wr sn xs ys lx ly bt mk 0 0) (pth 1 0) (ac bq0 an))


/-! ### function 44 -/
theorem tw_fn : Try.prog.funcs[(44 : Nat)]? = some (fnAt P 44) := by kernel_rfl
theorem tw_body : (fnAt P 44).body = some (bodyAt P 44) := by kernel_rfl
theorem tw_name : ((fnAt P 44).name == "runtime.NumGoroutine") = false := by kernel_rfl
noncomputable def tw_C (hi op : Int) (wr sn : Int) (xs ys : Es) (lx ly : Nat) (bt mk : Int) (n10_3 n10_14 : Int) : Cf := cfg Try.prog (hintOf [((44 : Nat), (10 : Nat), (3 : Nat), Hint.c [D.int .u8 n10_3]), ((44 : Nat), (10 : Nat), (14 : Nat), Hint.c [D.int .u8 n10_14])]) (tT2 hi op wr sn xs ys lx ly bt mk) (fun _ => false) 2 true (fun z => Nat.beq 1 z)
theorem tw_ok (hi op : Int) (wr sn : Int) (xs ys : Es) (lx ly : Nat) (bt mk : Int) (n10_3 n10_14 : Int) : CfOk (tw_C hi op wr sn xs ys lx ly bt mk n10_3 n10_14) := cfg_ok (by kernel_rfl)
noncomputable def tw_run (hi op : Int) (wr sn : Int) (xs ys : Es) (lx ly : Nat) (bt mk : Int) (n10_3 n10_14 : Int) (qcur : Cur) (qk : List It) (qs : St) (qor : GD.Or) := runE (tw_C hi op wr sn xs ys lx ly bt mk n10_3 n10_14) (callE (tw_C hi op wr sn xs ys lx ly bt mk n10_3 n10_14) 100000 10) 44 100000 qcur qk qs qor []

theorem tw_in_0 {hi op : Int} {wr sn : Int} {xs ys : Es} {lx ly : Nat} {bt mk : Int} (h0 : FlatEs xs) (h1 : FlatEs ys) (h2 : FlatEs [[D.slice true [] none]]) : Ret P T 44 [D.ptr 0 0 0, D.int .i64 (2 : Int), D.int .i64 bt, D.int .u32 mk] [some (.row 9 [[D.int .i64 (64 : Int), D.int .i64 (3 : Int), D.mapp (1 : Nat), D.ptr 4 0 0, D.int .i64 hi, D.int .i64 op, D.int .i64 wr, D.int .i64 sn, D.func (Fn.func (59 : Nat)) [D.agg [D.ptr 0 0 0, D.slice false [] none]] []]]), some (HObj.mp IntKind.i64 [(0 : Int), (1 : Int)] [D.view 2 (0 : Nat) lx, D.view 3 (0 : Nat) ly]), some (.row 1 xs), some (.row 1 ys), some (.row 1 [[D.slice true [] none]])] (D.bool false) [some (.row 9 [[D.int .i64 (64 : Int), D.int .i64 (3 : Int), D.mapp (1 : Nat), D.ptr 4 0 0, D.int .i64 hi, D.int .i64 op, D.int .i64 wr, D.int .i64 sn, D.func (Fn.func (59 : Nat)) [D.agg [D.ptr 0 0 0, D.slice false [] none]] []]]), some (HObj.mp IntKind.i64 [(0 : Int), (1 : Int)] [D.view 2 (0 : Nat) lx, D.view 3 (0 : Nat) ly]), some (.row 1 xs), some (.row 1 ys), some (.row 1 [[D.slice true [] none]])] :=
  fin_call tw_fn tw_body tw_name (fr 44 5 (tw_ok hi op wr sn xs ys lx ly bt mk 0 0) (pth 17 98879) (ac tru (ac tru (ac (show false = false from rfl) (ac (show false = false from rfl) (ac (show false = false from rfl) (ac (show false = false from rfl) (ac (show false = false from rfl) (ac tru (ac (show false = false from rfl) (ac (show false = false from rfl) (ac (show false = false from rfl) (ac h0 (ac h1 (ac h2 (ac h0 (ac h1 (ac h2 (ac tru (ac tru (ac tru (ac tru (ac tru (ac tru an))))))))))))))))))))))))



end Go.Proofs.Ytifpbdhggooelaa.dsk
