/- The disk's deeds with numbers that are free and pages by symbolic keys: roads. -/
import Derived.Test.YtifpbdhggooelaaHpC
namespace Go.Proofs.Ytifpbdhggooelaa.dsk
open Go Ytifpbdhggooelaa.GD
set_option linter.unusedVariables false
set_option linter.unusedSimpArgs false
set_option maxRecDepth 100000

def z64 : Es := List.replicate 64 [.int .u8 0]
/-- The disk itself ('fr': the variable of the free numbers). -/
def dkH (most : Int) (hi op wr sn : Int) (fr : Nat) : HObj := .row 9 [[.int .i64 64, .int .i64 most, .mapp 1, .ptr fr 0 0, .int .i64 hi, .int .i64 op, .int .i64 wr, .int .i64 sn, .func (.func 59) [.agg [.ptr 0 0 0, .slice false [] none]] []]]
def cellAt (o len : Nat) : HObj := .row 1 [[.view o 0 len]]
/-- A disk: no page is looked at. -/
def d0 (most hi op wr sn : Int) (ks : List Int) (len : Nat) (es : Es) : GD.Heap := [some (dkH most hi op wr sn 2), some (.mp .i64 ks []), some (cellAt 3 len), some (.row 1 es)]
/-- A disk: the last page is known. -/
def d1 (most hi op wr sn : Int) (ks : List Int) (k : Int) (pg : Es) (len : Nat) (es : Es) : GD.Heap := [some (dkH most hi op wr sn 3), some (.mp .i64 (ks ++ [k]) [.view 2 0 64]), some (.row 1 pg), some (cellAt 4 len), some (.row 1 es)]
def tNo : Tab := fun k args H =>
  match k with
  | 36 => match args, H with | [], [] => some (.bool true, []) | _, _ => none
  | 59 => match args with | [.agg [.ptr 0 0 0, .slice false [] none], .int .i64 _] => some (.bool false, H) | _ => none
  | 62 => match args, H with | [.slice false [] none, .agg [.int .i64 _, .int .i64 _]], [] => some (.bool false, []) | _, _ => none
  | 64 => match args, H with | [.slice false [] none, .agg [.int .i64 _, .int .i64 _]], [] => some (.int .i64 (-1), []) | _, _ => none
  | _ => none
def aIx (a b : Int) : List D × GD.Heap := ([.slice false [] none, .agg [.int .i64 a, .int .i64 b]], [])
def tIx (a b : Int) : Tab := tNo
def aQ0 (most hi op wr sn : Int) (ks : List Int) (len : Nat) (es : Es) (kd : Int) : List D × GD.Heap := ([.agg [.ptr 0 0 0, .slice false [] none], .int .i64 kd], d0 most hi op wr sn ks len es)
def tQ0 (most hi op wr sn : Int) (ks : List Int) (len : Nat) (es : Es) (kd : Int) : Tab := tNo
def aQ1 (most hi op wr sn : Int) (ks : List Int) (k : Int) (pg : Es) (len : Nat) (es : Es) (kd : Int) : List D × GD.Heap := ([.agg [.ptr 0 0 0, .slice false [] none], .int .i64 kd], d1 most hi op wr sn ks k pg len es)
def tQ1 (most hi op wr sn : Int) (ks : List Int) (k : Int) (pg : Es) (len : Nat) (es : Es) (kd : Int) : Tab := tNo
def aNw (most : Int) : List D × GD.Heap := ([.int .i64 64, .int .i64 most], [])
def tNw (most : Int) : Tab := tNo
/-- Alloc: heap.Pop hands back v and leaves e2. -/
def aAl (v : Int) (e2 : Es) (most hi op wr sn : Int) (ks : List Int) (len : Nat) (es : Es) : List D × GD.Heap := ([.ptr 0 0 0], d0 most hi op wr sn ks len es)
def tAl (v : Int) (e2 : Es) (most hi op wr sn : Int) (ks : List Int) (len : Nat) (es : Es) : Tab := fun k args H =>
  match k with
  | 57 => match args, H with | [.iface 84 (.ptr 0 0 0)], [some (.row 1 [[.view 1 0 ln]]), some (.row 1 e)] => some (.iface 3 (.int .i64 v), [some (.row 1 [[.view 1 0 (ln - 1)]]), some (.row 1 e2)]) | _, _ => none
  | _ => tNo k args H
/-- Free: heap.Push leaves e2. -/
def aFr (e2 : Es) (x : Int) (most hi op wr sn : Int) (ks : List Int) (len : Nat) (es : Es) : List D × GD.Heap := ([.ptr 0 0 0, .int .i64 x], d0 most hi op wr sn ks len es)
def tFr (e2 : Es) (x : Int) (most hi op wr sn : Int) (ks : List Int) (len : Nat) (es : Es) : Tab := fun k args H =>
  match k with
  | 60 => match args, H with | [.iface 84 (.ptr 0 0 0), .iface 3 (.int .i64 y)], [some (.row 1 [[.view 1 0 ln]]), some (.row 1 e)] => some (.tuple [], [some (.row 1 [[.view 9 0 (ln + 1)]]), some .dead, none, none, none, none, none, none, some (.tok 1 1), some (.row 1 e2)]) | _, _ => none
  | _ => tNo k args H
def aLk (most hi op wr sn : Int) (ks : List Int) (k : Int) (pg : Es) (len : Nat) (es : Es) : List D × GD.Heap := ([.ptr 0 0 0, .int .i64 k], d1 most hi op wr sn ks k pg len es)
def tLk (most hi op wr sn : Int) (ks : List Int) (k : Int) (pg : Es) (len : Nat) (es : Es) : Tab := tNo
def aWr (most hi op wr sn : Int) (ks : List Int) (k : Int) (pg zs : Es) (len : Nat) (es : Es) : List D × GD.Heap := ([.ptr 0 0 0, .int .i64 k, .view 5 0 64], d1 most hi op wr sn ks k pg len es ++ [some (.row 1 zs)])
def tWr (most hi op wr sn : Int) (ks : List Int) (k : Int) (pg zs : Es) (len : Nat) (es : Es) : Tab := tNo
def hOn : Hint := .b true

/-! ### function 64 -/
theorem ix_fn : Try.prog.funcs[(64 : Nat)]? = some (fnAt P 64) := by kernel_rfl
theorem ix_body : (fnAt P 64).body = some (bodyAt P 64) := by kernel_rfl
theorem ix_name : ((fnAt P 64).name == "runtime.NumGoroutine") = false := by kernel_rfl
noncomputable def ix_C (a b : Int) (n4_3_0 n4_3_1 : Int) : Cf := cfg Try.prog (hintOf [((64 : Nat), (4 : Nat), (3 : Nat), Hint.c [D.int .i64 n4_3_0, D.int .i64 n4_3_1])]) (tIx a b) (fun _ => false) 2 true (fun _ => false)
theorem ix_ok (a b : Int) (n4_3_0 n4_3_1 : Int) : CfOk (ix_C a b n4_3_0 n4_3_1) := cfg_ok (by kernel_rfl)
noncomputable def ix_run (a b : Int) (n4_3_0 n4_3_1 : Int) (qcur : Cur) (qk : List It) (qs : St) (qor : GD.Or) := runE (ix_C a b n4_3_0 n4_3_1) (callE (ix_C a b n4_3_0 n4_3_1) 100000 10) 64 100000 qcur qk qs qor []
noncomputable def ix_l0 : Code := (loopAt Try.prog 64 0).1
noncomputable def ix_k0 : List It := (loopAt Try.prog 64 0).2
/- loop 0: n8:=(0 : Int); -/
noncomputable def ix_s0 (a b n8 : Int) : St := ⟨envOf 19 [(0, D.slice false [] none), (3, D.ptr 0 0 0), (7, D.int .i64 (0 : Int)), (8, D.int .i64 n8)], [some (.row 2 [[D.int .i64 a, D.int .i64 b]])]⟩
def ix_at0 (a b n8 : Int) (r : D) (H1 : GD.Heap) : Prop := GD.Fin Try.prog (tyOf Try.prog) (fnAt P 64) 0 (.code (.loop ix_l0)) ix_k0 (ix_s0 a b n8) r H1

theorem ix_in_0 {a b : Int} {r : D} {H1 : GD.Heap} (g : ix_at0 a b ((0 : Int)) r H1) : Ret P T 64 [D.slice false [] none, D.agg [D.int .i64 a, D.int .i64 b]] [] r H1 :=
  fin_call ix_fn ix_body ix_name (fs (fun _ => false) 64 1 [0, 3, 7, 8] (ix_ok a b 0 0) (pth 0 0) an g)

theorem ix_0_0 {a b : Int} {n8 n4_3_0 n4_3_1 : Int} (h0 : n8 < (0 : Int)) (h1 : (a == n4_3_0 && b == n4_3_1) = true) (h2 : (0 : Int) ≤ n8) (h3 : none = some [D.int .i64 n4_3_0, D.int .i64 n4_3_1]) : ix_at0 a b n8 (D.int .i64 n8) [] :=
  have bq0 := decide_eq_true h0
  have bq1 := h1
  fin_loop (fr 64 0 (ix_ok a b n4_3_0 n4_3_1) (pth 2 3) (ac bq1 (ac h2 (ac h3 (ac bq0 an)))))

theorem ix_0_1 {a b : Int} {n8 n4_3_0 n4_3_1 : Int} {r : D} {H1 : GD.Heap} (h0 : n8 < (0 : Int)) (h1 : (a == n4_3_0 && b == n4_3_1) = false) (h2 : (0 : Int) ≤ n8) (h3 : none = some [D.int .i64 n4_3_0, D.int .i64 n4_3_1]) (g : ix_at0 a b (IntKind.i64.wrap (n8 + (1 : Int))) r H1) : ix_at0 a b n8 r H1 :=
  have bq0 := decide_eq_true h0
  have bq1 := h1
  fin_loop (fs (fun _ => false) 64 1 [0, 3, 7, 8] (ix_ok a b n4_3_0 n4_3_1) (pth 2 1) (ac bq1 (ac h2 (ac h3 (ac bq0 an)))) g)

theorem ix_0_2 {a b n8 : Int} (h0 : ¬ (n8 < (0 : Int))) : ix_at0 a b n8 (D.int .i64 (-1 : Int)) [] :=
  have bq0 := decide_eq_false h0
  fin_loop (fr 64 0 (ix_ok a b 0 0) (pth 1 0) (ac bq0 an))


/-! ### function 62 -/
theorem cn_fn : Try.prog.funcs[(62 : Nat)]? = some (fnAt P 62) := by kernel_rfl
theorem cn_body : (fnAt P 62).body = some (bodyAt P 62) := by kernel_rfl
theorem cn_name : ((fnAt P 62).name == "runtime.NumGoroutine") = false := by kernel_rfl
noncomputable def cn_C (a b : Int) : Cf := cfg Try.prog (hintOf []) (tIx a b) (fun _ => false) 2 true (fun _ => false)
theorem cn_ok (a b : Int) : CfOk (cn_C a b) := cfg_ok (by kernel_rfl)
noncomputable def cn_run (a b : Int) (qcur : Cur) (qk : List It) (qs : St) (qor : GD.Or) := runE (cn_C a b) (callE (cn_C a b) 100000 10) 62 100000 qcur qk qs qor []

theorem cn_in_0 {a b : Int} (h0 : Ret P T 64 [D.slice false [] none, D.agg [D.int .i64 a, D.int .i64 b]] [] (D.int .i64 (-1 : Int)) []) : Ret P T 62 [D.slice false [] none, D.agg [D.int .i64 a, D.int .i64 b]] [] (D.bool false) [] :=
  fin_call cn_fn cn_body cn_name (fr 62 0 (cn_ok a b) (pth 0 0) (ac h0 an))


/-! ### function 59 -/
theorem qa_fn : Try.prog.funcs[(59 : Nat)]? = some (fnAt P 59) := by kernel_rfl
theorem qa_body : (fnAt P 59).body = some (bodyAt P 59) := by kernel_rfl
theorem qa_name : ((fnAt P 59).name == "runtime.NumGoroutine") = false := by kernel_rfl
noncomputable def qa_C (most hi : Int) (op wr sn : Int) (ks : List Int) (len : Nat) (es : Es) (kd : Int) : Cf := cfg Try.prog (hintOf []) (tQ0 most hi op wr sn ks len es kd) (fun _ => false) 2 true (fun z => Nat.beq 1 z || Nat.beq 3145729 z)
theorem qa_ok (most hi : Int) (op wr sn : Int) (ks : List Int) (len : Nat) (es : Es) (kd : Int) : CfOk (qa_C most hi op wr sn ks len es kd) := cfg_ok (by kernel_rfl)
noncomputable def qa_run (most hi : Int) (op wr sn : Int) (ks : List Int) (len : Nat) (es : Es) (kd : Int) (qcur : Cur) (qk : List It) (qs : St) (qor : GD.Or) := runE (qa_C most hi op wr sn ks len es kd) (callE (qa_C most hi op wr sn ks len es kd) 100000 10) 59 100000 qcur qk qs qor []

theorem qa_in_0 {most hi : Int} {op wr sn : Int} {ks : List Int} {len : Nat} {es : Es} {kd : Int} (h0 : Ret P T 62 [D.slice false [] none, D.agg [D.int .i64 sn, D.int .i64 kd]] [] (D.bool false) []) : Ret P T 59 [D.agg [D.ptr 0 0 0, D.slice false [] none], D.int .i64 kd] [some (.row 9 [[D.int .i64 (64 : Int), D.int .i64 most, D.mapp (1 : Nat), D.ptr 2 0 0, D.int .i64 hi, D.int .i64 op, D.int .i64 wr, D.int .i64 sn, D.func (Fn.func (59 : Nat)) [D.agg [D.ptr 0 0 0, D.slice false [] none]] []]]), some (HObj.mp IntKind.i64 ks []), some (.row 1 [[D.view 3 (0 : Nat) len]]), some (.row 1 es)] (D.bool false) [some (.row 9 [[D.int .i64 (64 : Int), D.int .i64 most, D.mapp (1 : Nat), D.ptr 2 0 0, D.int .i64 hi, D.int .i64 op, D.int .i64 wr, D.int .i64 sn, D.func (Fn.func (59 : Nat)) [D.agg [D.ptr 0 0 0, D.slice false [] none]] []]]), some (HObj.mp IntKind.i64 ks []), some (.row 1 [[D.view 3 (0 : Nat) len]]), some (.row 1 es)] :=
  fin_call qa_fn qa_body qa_name (fr 59 4 (qa_ok most hi op wr sn ks len es kd) (pth 0 0) (ac h0 an))


/-! ### function 59 -/
theorem qb_fn : Try.prog.funcs[(59 : Nat)]? = some (fnAt P 59) := by kernel_rfl
theorem qb_body : (fnAt P 59).body = some (bodyAt P 59) := by kernel_rfl
theorem qb_name : ((fnAt P 59).name == "runtime.NumGoroutine") = false := by kernel_rfl
noncomputable def qb_C (most hi : Int) (op wr sn : Int) (ks : List Int) (k : Int) (pg : Es) (len : Nat) (es : Es) (kd : Int) : Cf := cfg Try.prog (hintOf []) (tQ1 most hi op wr sn ks k pg len es kd) (fun _ => false) 2 true (fun z => Nat.beq 1 z || Nat.beq 4194305 z)
theorem qb_ok (most hi : Int) (op wr sn : Int) (ks : List Int) (k : Int) (pg : Es) (len : Nat) (es : Es) (kd : Int) : CfOk (qb_C most hi op wr sn ks k pg len es kd) := cfg_ok (by kernel_rfl)
noncomputable def qb_run (most hi : Int) (op wr sn : Int) (ks : List Int) (k : Int) (pg : Es) (len : Nat) (es : Es) (kd : Int) (qcur : Cur) (qk : List It) (qs : St) (qor : GD.Or) := runE (qb_C most hi op wr sn ks k pg len es kd) (callE (qb_C most hi op wr sn ks k pg len es kd) 100000 10) 59 100000 qcur qk qs qor []

theorem qb_in_0 {most hi : Int} {op wr sn : Int} {ks : List Int} {k : Int} {pg : Es} {len : Nat} {es : Es} {kd : Int} (h0 : Ret P T 62 [D.slice false [] none, D.agg [D.int .i64 sn, D.int .i64 kd]] [] (D.bool false) []) : Ret P T 59 [D.agg [D.ptr 0 0 0, D.slice false [] none], D.int .i64 kd] [some (.row 9 [[D.int .i64 (64 : Int), D.int .i64 most, D.mapp (1 : Nat), D.ptr 3 0 0, D.int .i64 hi, D.int .i64 op, D.int .i64 wr, D.int .i64 sn, D.func (Fn.func (59 : Nat)) [D.agg [D.ptr 0 0 0, D.slice false [] none]] []]]), some (HObj.mp IntKind.i64 (ks ++ [k]) [D.view 2 (0 : Nat) (64 : Nat)]), some (.row 1 pg), some (.row 1 [[D.view 4 (0 : Nat) len]]), some (.row 1 es)] (D.bool false) [some (.row 9 [[D.int .i64 (64 : Int), D.int .i64 most, D.mapp (1 : Nat), D.ptr 3 0 0, D.int .i64 hi, D.int .i64 op, D.int .i64 wr, D.int .i64 sn, D.func (Fn.func (59 : Nat)) [D.agg [D.ptr 0 0 0, D.slice false [] none]] []]]), some (HObj.mp IntKind.i64 (ks ++ [k]) [D.view 2 (0 : Nat) (64 : Nat)]), some (.row 1 pg), some (.row 1 [[D.view 4 (0 : Nat) len]]), some (.row 1 es)] :=
  fin_call qb_fn qb_body qb_name (fr 59 5 (qb_ok most hi op wr sn ks k pg len es kd) (pth 0 0) (ac h0 an))


/-! ### function 37 -/
theorem nw_fn : Try.prog.funcs[(37 : Nat)]? = some (fnAt P 37) := by kernel_rfl
theorem nw_body : (fnAt P 37).body = some (bodyAt P 37) := by kernel_rfl
theorem nw_name : ((fnAt P 37).name == "runtime.NumGoroutine") = false := by kernel_rfl
noncomputable def nw_C (most : Int) : Cf := cfg Try.prog (hintOf [((37 : Nat), (3 : Nat), (3 : Nat), Hint.row)]) (tNw most) (fun _ => false) 2 true (fun _ => false)
theorem nw_ok (most : Int) : CfOk (nw_C most) := cfg_ok (by kernel_rfl)
noncomputable def nw_run (most : Int) (qcur : Cur) (qk : List It) (qs : St) (qor : GD.Or) := runE (nw_C most) (callE (nw_C most) 100000 10) 37 100000 qcur qk qs qor []

theorem nw_in_0 {most : Int} (h0 : most < (0 : Int)) : Ret P T 37 [D.int .i64 (64 : Int), D.int .i64 most] [] (D.tuple [D.pnil, D.int .i64 (1 : Int)]) [] :=
  have bq0 := decide_eq_true h0
  fin_call nw_fn nw_body nw_name (fr 37 0 (nw_ok most) (pth 16 50939) (ac tru (ac bq0 (ac (ktf bq0) (ac (ktf bq0) (ac (show false = false from rfl) (ac tru (ac tru (ac (show false = false from rfl) (ac tru (ac tru (ac tru (ac tru (ac tru (ac (show false = false from rfl) (ac tru (ac tru an)))))))))))))))))

theorem nw_in_1 {most : Int} (h0 : ¬ (most < (0 : Int))) (h1 : most > (16384 : Int)) : Ret P T 37 [D.int .i64 (64 : Int), D.int .i64 most] [] (D.tuple [D.pnil, D.int .i64 (1 : Int)]) [] :=
  have bq0 := decide_eq_false h0
  have bq1 := decide_eq_true h1
  fin_call nw_fn nw_body nw_name (fr 37 0 (nw_ok most) (pth 16 46843) (ac bq1 (ac bq0 (ac (kff bq0) (ac (kff bq0) (ac (show false = false from rfl) (ac tru (ac tru (ac (show false = false from rfl) (ac tru (ac tru (ac tru (ac tru (ac tru (ac (show false = false from rfl) (ac tru (ac tru an)))))))))))))))))

theorem nw_in_2 {most : Int} (h0 : ¬ (most < (0 : Int))) (h1 : ¬ (most > (16384 : Int))) : Ret P T 37 [D.int .i64 (64 : Int), D.int .i64 most] [] (D.tuple [D.ptr 3 0 0, D.int .i64 (0 : Int)]) [some (HObj.mp IntKind.i64 [] []), some (.row 1 []), some (.row 1 [[D.view 1 (0 : Nat) (0 : Nat)]]), some (.row 9 [[D.int .i64 (64 : Int), D.int .i64 most, D.mapp (0 : Nat), D.ptr 2 0 0, D.int .i64 (0 : Int), D.int .i64 (0 : Int), D.int .i64 (0 : Int), D.int .i64 (0 : Int), D.func (Fn.func (59 : Nat)) [D.agg [D.ptr 3 0 0, D.slice false [] none]] []]])] :=
  have bq0 := decide_eq_false h0
  have bq1 := decide_eq_false h1
  fin_call nw_fn nw_body nw_name (fr 37 4 (nw_ok most) (pth 24 12531451) (ac tru (ac (show false = false from rfl) (ac tru (ac tru (ac tru (ac tru (ac tru (ac tru (ac bq1 (ac bq0 (ac (kff bq0) (ac (kff bq0) (ac (show false = false from rfl) (ac tru (ac tru (ac (show false = false from rfl) (ac tru (ac tru (ac tru (ac tru (ac tru (ac (show false = false from rfl) (ac tru (ac tru an)))))))))))))))))))))))))


/-! ### function 38 -/
theorem al_fn : Try.prog.funcs[(38 : Nat)]? = some (fnAt P 38) := by kernel_rfl
theorem al_body : (fnAt P 38).body = some (bodyAt P 38) := by kernel_rfl
theorem al_name : ((fnAt P 38).name == "runtime.NumGoroutine") = false := by kernel_rfl
noncomputable def al_C (v : Int) (e2 : Es) (most hi : Int) (op wr sn : Int) (ks : List Int) (len : Nat) (es : Es) : Cf := cfg Try.prog (hintOf [((38 : Nat), (10 : Nat), (10 : Nat), hOff)]) (tAl v e2 most hi op wr sn ks len es) (fun _ => false) 1 true (fun z => Nat.beq 1 z || Nat.beq 3145729 z)
theorem al_ok (v : Int) (e2 : Es) (most hi : Int) (op wr sn : Int) (ks : List Int) (len : Nat) (es : Es) : CfOk (al_C v e2 most hi op wr sn ks len es) := cfg_ok (by kernel_rfl)
noncomputable def al_run (v : Int) (e2 : Es) (most hi : Int) (op wr sn : Int) (ks : List Int) (len : Nat) (es : Es) (qcur : Cur) (qk : List It) (qs : St) (qor : GD.Or) := runE (al_C v e2 most hi op wr sn ks len es) (callE (al_C v e2 most hi op wr sn ks len es) 100000 10) 38 100000 qcur qk qs qor []

theorem al_in_0 {v : Int} {e2 : Es} {most hi : Int} {op wr sn : Int} {ks : List Int} {len : Nat} {es : Es} (h0 : (↑ks.length : Int) ≥ most) (h1 : FlatEs es) (h2 : Ret P T 59 [D.agg [D.ptr 0 0 0, D.slice false [] none], D.int .i64 (3 : Int)] [some (.row 9 [[D.int .i64 (64 : Int), D.int .i64 most, D.mapp (1 : Nat), D.ptr 2 0 0, D.int .i64 hi, D.int .i64 (IntKind.i64.wrap (op + (1 : Int))), D.int .i64 wr, D.int .i64 (IntKind.i64.wrap (sn + (1 : Int))), D.func (Fn.func (59 : Nat)) [D.agg [D.ptr 0 0 0, D.slice false [] none]] []]]), some (HObj.mp IntKind.i64 ks []), some (.row 1 [[D.view 3 (0 : Nat) len]]), some (.row 1 es)] (D.bool false) [some (.row 9 [[D.int .i64 (64 : Int), D.int .i64 most, D.mapp (1 : Nat), D.ptr 2 0 0, D.int .i64 hi, D.int .i64 (IntKind.i64.wrap (op + (1 : Int))), D.int .i64 wr, D.int .i64 (IntKind.i64.wrap (sn + (1 : Int))), D.func (Fn.func (59 : Nat)) [D.agg [D.ptr 0 0 0, D.slice false [] none]] []]]), some (HObj.mp IntKind.i64 ks []), some (.row 1 [[D.view 3 (0 : Nat) len]]), some (.row 1 es)]) : Ret P T 38 [D.ptr 0 0 0] [some (.row 9 [[D.int .i64 (64 : Int), D.int .i64 most, D.mapp (1 : Nat), D.ptr 2 0 0, D.int .i64 hi, D.int .i64 op, D.int .i64 wr, D.int .i64 sn, D.func (Fn.func (59 : Nat)) [D.agg [D.ptr 0 0 0, D.slice false [] none]] []]]), some (HObj.mp IntKind.i64 ks []), some (.row 1 [[D.view 3 (0 : Nat) len]]), some (.row 1 es)] (D.tuple [D.int .i64 (0 : Int), D.int .i64 (17 : Int)]) [some (.row 9 [[D.int .i64 (64 : Int), D.int .i64 most, D.mapp (1 : Nat), D.ptr 2 0 0, D.int .i64 hi, D.int .i64 (IntKind.i64.wrap (op + (1 : Int))), D.int .i64 wr, D.int .i64 (IntKind.i64.wrap (sn + (1 : Int))), D.func (Fn.func (59 : Nat)) [D.agg [D.ptr 0 0 0, D.slice false [] none]] []]]), some (HObj.mp IntKind.i64 ks []), some (.row 1 [[D.view 3 (0 : Nat) len]]), some (.row 1 es)] :=
  have bq0 := decide_eq_true h0
  fin_call al_fn al_body al_name (fr 38 4 (al_ok v e2 most hi op wr sn ks len es) (pth 19 393151) (ac bq0 (ac (show false = false from rfl) (ac tru (ac tru (ac tru (ac tru (ac tru (ac tru (ac tru (ac tru (ac tru (ac tru (ac h1 (ac h1 (ac h2 (ac h1 (ac h1 (ac (show false = false from rfl) (ac h1 (ac h1 (ac tru (ac tru (ac tru (ac tru (ac tru (ac tru an)))))))))))))))))))))))))))

theorem al_in_1 {v : Int} {e2 : Es} {most hi : Int} {op wr sn : Int} {ks : List Int} {len : Nat} {es : Es} (h0 : ¬ ((↑ks.length : Int) ≥ most)) (h1 : (↑len : Int) > (0 : Int)) (h2 : findI ks v (0 : Nat) = none) (h3 : FlatEs es) (h4 : FlatEs e2) (h5 : Ret P T 57 [D.iface (84 : Nat) (D.ptr 0 0 0)] [some (.row 1 [[D.view 1 (0 : Nat) len]]), some (.row 1 es)] (D.iface (3 : Nat) (D.int .i64 v)) [some (.row 1 [[D.view 1 (0 : Nat) (len - (1 : Nat))]]), some (.row 1 e2)]) (h6 : Ret P T 59 [D.agg [D.ptr 0 0 0, D.slice false [] none], D.int .i64 (3 : Int)] [some (.row 9 [[D.int .i64 (64 : Int), D.int .i64 most, D.mapp (1 : Nat), D.ptr 2 0 0, D.int .i64 hi, D.int .i64 (IntKind.i64.wrap (op + (1 : Int))), D.int .i64 wr, D.int .i64 (IntKind.i64.wrap (sn + (1 : Int))), D.func (Fn.func (59 : Nat)) [D.agg [D.ptr 0 0 0, D.slice false [] none]] []]]), some (HObj.mp IntKind.i64 ks []), some (.row 1 [[D.view 3 (0 : Nat) len]]), some (.row 1 es)] (D.bool false) [some (.row 9 [[D.int .i64 (64 : Int), D.int .i64 most, D.mapp (1 : Nat), D.ptr 2 0 0, D.int .i64 hi, D.int .i64 (IntKind.i64.wrap (op + (1 : Int))), D.int .i64 wr, D.int .i64 (IntKind.i64.wrap (sn + (1 : Int))), D.func (Fn.func (59 : Nat)) [D.agg [D.ptr 0 0 0, D.slice false [] none]] []]]), some (HObj.mp IntKind.i64 ks []), some (.row 1 [[D.view 3 (0 : Nat) len]]), some (.row 1 es)]) : Ret P T 38 [D.ptr 0 0 0] [some (.row 9 [[D.int .i64 (64 : Int), D.int .i64 most, D.mapp (1 : Nat), D.ptr 2 0 0, D.int .i64 hi, D.int .i64 op, D.int .i64 wr, D.int .i64 sn, D.func (Fn.func (59 : Nat)) [D.agg [D.ptr 0 0 0, D.slice false [] none]] []]]), some (HObj.mp IntKind.i64 ks []), some (.row 1 [[D.view 3 (0 : Nat) len]]), some (.row 1 es)] (D.tuple [D.int .i64 v, D.int .i64 (0 : Int)]) [some (.row 9 [[D.int .i64 (64 : Int), D.int .i64 most, D.mapp (1 : Nat), D.ptr 2 0 0, D.int .i64 hi, D.int .i64 (IntKind.i64.wrap (op + (1 : Int))), D.int .i64 wr, D.int .i64 (IntKind.i64.wrap (sn + (1 : Int))), D.func (Fn.func (59 : Nat)) [D.agg [D.ptr 0 0 0, D.slice false [] none]] []]]), some (HObj.mp IntKind.i64 (ks ++ [v]) [D.view 30 (0 : Nat) (64 : Nat)]), some (.row 1 [[D.view 3 (0 : Nat) (len - (1 : Nat))]]), some (.row 1 e2), none, none, none, none, none, none, none, none, none, none, none, none, none, none, none, none, none, none, none, none, none, none, none, none, none, none, some (.row 1 (List.replicate (64 : Nat) [D.int .u8 (0 : Int)]))] :=
  have bq0 := decide_eq_false h0
  have bq1 := decide_eq_true h1
  fin_call al_fn al_body al_name (fr 38 31 (al_ok v e2 most hi op wr sn ks len es) (pth 20 655295) (ac h2 (ac (show (0 : Int) ≤ (64 : Int) ∧ (64 : Int) ≤ (64 : Int) ∧ (↑(1 : Nat) : Int) * (64 : Int) ≤ (281474976710656 : Int) ∧ (64 : Int) ≤ (9223372036854775807 : Int) by decide) (ac h3 (ac h4 (ac h5 (ac bq1 (ac h3 (ac h3 (ac bq0 (ac (show false = false from rfl) (ac tru (ac tru (ac tru (ac tru (ac tru (ac tru (ac tru (ac tru (ac tru (ac tru (ac h3 (ac h3 (ac h6 (ac h3 (ac h3 (ac (show false = false from rfl) (ac h3 (ac h3 (ac tru (ac tru (ac tru (ac tru (ac tru (ac tru an)))))))))))))))))))))))))))))))))))

theorem al_in_2 {v : Int} {e2 : Es} {most hi : Int} {op wr sn : Int} {ks : List Int} {len : Nat} {es : Es} (h0 : ¬ ((↑ks.length : Int) ≥ most)) (h1 : ¬ ((↑len : Int) > (0 : Int))) (h2 : findI ks hi (0 : Nat) = none) (h3 : FlatEs es) (h4 : Ret P T 59 [D.agg [D.ptr 0 0 0, D.slice false [] none], D.int .i64 (3 : Int)] [some (.row 9 [[D.int .i64 (64 : Int), D.int .i64 most, D.mapp (1 : Nat), D.ptr 2 0 0, D.int .i64 hi, D.int .i64 (IntKind.i64.wrap (op + (1 : Int))), D.int .i64 wr, D.int .i64 (IntKind.i64.wrap (sn + (1 : Int))), D.func (Fn.func (59 : Nat)) [D.agg [D.ptr 0 0 0, D.slice false [] none]] []]]), some (HObj.mp IntKind.i64 ks []), some (.row 1 [[D.view 3 (0 : Nat) len]]), some (.row 1 es)] (D.bool false) [some (.row 9 [[D.int .i64 (64 : Int), D.int .i64 most, D.mapp (1 : Nat), D.ptr 2 0 0, D.int .i64 hi, D.int .i64 (IntKind.i64.wrap (op + (1 : Int))), D.int .i64 wr, D.int .i64 (IntKind.i64.wrap (sn + (1 : Int))), D.func (Fn.func (59 : Nat)) [D.agg [D.ptr 0 0 0, D.slice false [] none]] []]]), some (HObj.mp IntKind.i64 ks []), some (.row 1 [[D.view 3 (0 : Nat) len]]), some (.row 1 es)]) : Ret P T 38 [D.ptr 0 0 0] [some (.row 9 [[D.int .i64 (64 : Int), D.int .i64 most, D.mapp (1 : Nat), D.ptr 2 0 0, D.int .i64 hi, D.int .i64 op, D.int .i64 wr, D.int .i64 sn, D.func (Fn.func (59 : Nat)) [D.agg [D.ptr 0 0 0, D.slice false [] none]] []]]), some (HObj.mp IntKind.i64 ks []), some (.row 1 [[D.view 3 (0 : Nat) len]]), some (.row 1 es)] (D.tuple [D.int .i64 hi, D.int .i64 (0 : Int)]) [some (.row 9 [[D.int .i64 (64 : Int), D.int .i64 most, D.mapp (1 : Nat), D.ptr 2 0 0, D.int .i64 (IntKind.i64.wrap (hi + (1 : Int))), D.int .i64 (IntKind.i64.wrap (op + (1 : Int))), D.int .i64 wr, D.int .i64 (IntKind.i64.wrap (sn + (1 : Int))), D.func (Fn.func (59 : Nat)) [D.agg [D.ptr 0 0 0, D.slice false [] none]] []]]), some (HObj.mp IntKind.i64 (ks ++ [hi]) [D.view 30 (0 : Nat) (64 : Nat)]), some (.row 1 [[D.view 3 (0 : Nat) len]]), some (.row 1 es), none, none, none, none, none, none, none, none, none, none, none, none, none, none, none, none, none, none, none, none, none, none, none, none, none, none, some (.row 1 (List.replicate (64 : Nat) [D.int .u8 (0 : Int)]))] :=
  have bq0 := decide_eq_false h0
  have bq1 := decide_eq_false h1
  fin_call al_fn al_body al_name (fr 38 31 (al_ok v e2 most hi op wr sn ks len es) (pth 20 131007) (ac h2 (ac (show (0 : Int) ≤ (64 : Int) ∧ (64 : Int) ≤ (64 : Int) ∧ (↑(1 : Nat) : Int) * (64 : Int) ≤ (281474976710656 : Int) ∧ (64 : Int) ≤ (9223372036854775807 : Int) by decide) (ac bq1 (ac h3 (ac h3 (ac bq0 (ac (show false = false from rfl) (ac tru (ac tru (ac tru (ac tru (ac tru (ac tru (ac tru (ac tru (ac tru (ac tru (ac h3 (ac h3 (ac h4 (ac h3 (ac h3 (ac (show false = false from rfl) (ac h3 (ac h3 (ac tru (ac tru (ac tru (ac tru (ac tru (ac tru an))))))))))))))))))))))))))))))))


/-! ### function 45 -/
theorem fn_fn : Try.prog.funcs[(45 : Nat)]? = some (fnAt P 45) := by kernel_rfl
theorem fn_body : (fnAt P 45).body = some (bodyAt P 45) := by kernel_rfl
theorem fn_name : ((fnAt P 45).name == "runtime.NumGoroutine") = false := by kernel_rfl
noncomputable def fn_C (e2 : Es) (x most : Int) (hi op : Int) (wr sn : Int) (ks : List Int) (len : Nat) (es : Es) : Cf := cfg Try.prog (hintOf [((45 : Nat), (4 : Nat), (5 : Nat), hOff)]) (tFr e2 x most hi op wr sn ks len es) (fun _ => false) 2 true (fun z => Nat.beq 1 z || Nat.beq 3145729 z)
theorem fn_ok (e2 : Es) (x most : Int) (hi op : Int) (wr sn : Int) (ks : List Int) (len : Nat) (es : Es) : CfOk (fn_C e2 x most hi op wr sn ks len es) := cfg_ok (by kernel_rfl)
noncomputable def fn_run (e2 : Es) (x most : Int) (hi op : Int) (wr sn : Int) (ks : List Int) (len : Nat) (es : Es) (qcur : Cur) (qk : List It) (qs : St) (qor : GD.Or) := runE (fn_C e2 x most hi op wr sn ks len es) (callE (fn_C e2 x most hi op wr sn ks len es) 100000 10) 45 100000 qcur qk qs qor []

theorem fn_in_0 {e2 : Es} {x most : Int} {hi op : Int} {wr sn : Int} {ks : List Int} {len : Nat} {es : Es} (h0 : findI ks x (0 : Nat) = none) (h1 : FlatEs es) : Ret P T 45 [D.ptr 0 0 0, D.int .i64 x] [some (.row 9 [[D.int .i64 (64 : Int), D.int .i64 most, D.mapp (1 : Nat), D.ptr 2 0 0, D.int .i64 hi, D.int .i64 op, D.int .i64 wr, D.int .i64 sn, D.func (Fn.func (59 : Nat)) [D.agg [D.ptr 0 0 0, D.slice false [] none]] []]]), some (HObj.mp IntKind.i64 ks []), some (.row 1 [[D.view 3 (0 : Nat) len]]), some (.row 1 es)] (D.int .i64 (20 : Int)) [some (.row 9 [[D.int .i64 (64 : Int), D.int .i64 most, D.mapp (1 : Nat), D.ptr 2 0 0, D.int .i64 hi, D.int .i64 (IntKind.i64.wrap (op + (1 : Int))), D.int .i64 wr, D.int .i64 (IntKind.i64.wrap (sn + (1 : Int))), D.func (Fn.func (59 : Nat)) [D.agg [D.ptr 0 0 0, D.slice false [] none]] []]]), some (HObj.mp IntKind.i64 ks []), some (.row 1 [[D.view 3 (0 : Nat) len]]), some (.row 1 es)] :=
  fin_call fn_fn fn_body fn_name (fr 45 4 (fn_ok e2 x most hi op wr sn ks len es) (pth 8 191) (ac tru (ac h0 (ac h1 (ac h1 (ac (show false = false from rfl) (ac h1 (ac h1 (ac tru (ac tru (ac tru (ac tru (ac tru (ac tru an))))))))))))))


/-! ### function 45 -/
theorem fy_fn : Try.prog.funcs[(45 : Nat)]? = some (fnAt P 45) := by kernel_rfl
theorem fy_body : (fnAt P 45).body = some (bodyAt P 45) := by kernel_rfl
theorem fy_name : ((fnAt P 45).name == "runtime.NumGoroutine") = false := by kernel_rfl
noncomputable def fy_C (e2 : Es) (x most : Int) (hi op : Int) (wr sn : Int) (ks : List Int) (len : Nat) (es : Es) : Cf := cfg Try.prog (hintOf [((45 : Nat), (4 : Nat), (5 : Nat), Hint.row), ((45 : Nat), (7 : Nat), (5 : Nat), Hint.row)]) (tFr e2 x most hi op wr sn ks len es) (fun _ => false) 2 true (fun z => Nat.beq 1 z || Nat.beq 3145729 z)
theorem fy_ok (e2 : Es) (x most : Int) (hi op : Int) (wr sn : Int) (ks : List Int) (len : Nat) (es : Es) : CfOk (fy_C e2 x most hi op wr sn ks len es) := cfg_ok (by kernel_rfl)
noncomputable def fy_run (e2 : Es) (x most : Int) (hi op : Int) (wr sn : Int) (ks : List Int) (len : Nat) (es : Es) (qcur : Cur) (qk : List It) (qs : St) (qor : GD.Or) := runE (fy_C e2 x most hi op wr sn ks len es) (callE (fy_C e2 x most hi op wr sn ks len es) 100000 10) 45 100000 qcur qk qs qor []

theorem fy_in_0 {e2 : Es} {x most : Int} {hi op : Int} {wr sn : Int} {ks : List Int} {len : Nat} {es : Es} (h0 : FlatEs es) (h1 : FlatEs e2) (h2 : Ret P T 60 [D.iface (84 : Nat) (D.ptr 0 0 0), D.iface (3 : Nat) (D.int .i64 x)] [some (.row 1 [[D.view 1 (0 : Nat) len]]), some (.row 1 es)] (D.tuple []) [some (.row 1 [[D.view 9 (0 : Nat) (len + (1 : Nat))]]), some HObj.dead, none, none, none, none, none, none, some (HObj.tok (1 : Nat) (1 : Nat)), some (.row 1 e2)]) (h3 : findI ks x (0 : Nat) ≠ none) : Ret P T 45 [D.ptr 0 0 0, D.int .i64 x] [some (.row 9 [[D.int .i64 (64 : Int), D.int .i64 most, D.mapp (1 : Nat), D.ptr 2 0 0, D.int .i64 hi, D.int .i64 op, D.int .i64 wr, D.int .i64 sn, D.func (Fn.func (59 : Nat)) [D.agg [D.ptr 0 0 0, D.slice false [] none]] []]]), some (HObj.mp IntKind.i64 ks []), some (.row 1 [[D.view 3 (0 : Nat) len]]), some (.row 1 es)] (D.int .i64 (0 : Int)) [some (.row 9 [[D.int .i64 (64 : Int), D.int .i64 most, D.mapp (1 : Nat), D.ptr 2 0 0, D.int .i64 hi, D.int .i64 (IntKind.i64.wrap (op + (1 : Int))), D.int .i64 wr, D.int .i64 (IntKind.i64.wrap (sn + (1 : Int))), D.func (Fn.func (59 : Nat)) [D.agg [D.ptr 0 0 0, D.slice false [] none]] []]]), some (HObj.mp IntKind.i64 (delK ks x) []), some (.row 1 [[D.view 11 (0 : Nat) (len + (1 : Nat))]]), some HObj.dead, none, none, none, none, none, none, some (HObj.tok (1 : Nat) (1 : Nat)), some (.row 1 e2)] :=
  fin_call fy_fn fy_body fy_name (fr 45 12 (fy_ok e2 x most hi op wr sn ks len es) (pth 8 63) (ac h0 (ac h1 (ac h2 (ac h3 (ac (show false = false from rfl) (ac h3 (ac h0 (ac h0 (ac (show false = false from rfl) (ac h0 (ac h0 (ac tru (ac tru (ac tru (ac tru (ac tru (ac tru an))))))))))))))))))


/-! ### function 42 -/
theorem lk_fn : Try.prog.funcs[(42 : Nat)]? = some (fnAt P 42) := by kernel_rfl
theorem lk_body : (fnAt P 42).body = some (bodyAt P 42) := by kernel_rfl
theorem lk_name : ((fnAt P 42).name == "runtime.NumGoroutine") = false := by kernel_rfl
noncomputable def lk_C (most hi : Int) (op wr sn : Int) (ks : List Int) (k : Int) (pg : Es) (len : Nat) (es : Es) : Cf := cfg Try.prog (hintOf [((42 : Nat), (3 : Nat), (5 : Nat), hOn), ((51 : Nat), (3 : Nat), (0 : Nat), Hint.row), ((51 : Nat), (3 : Nat), (2 : Nat), hOff)]) (tLk most hi op wr sn ks k pg len es) (fun _ => false) 1 true (fun z => Nat.beq 1 z || Nat.beq 4194305 z)
theorem lk_ok (most hi : Int) (op wr sn : Int) (ks : List Int) (k : Int) (pg : Es) (len : Nat) (es : Es) : CfOk (lk_C most hi op wr sn ks k pg len es) := cfg_ok (by kernel_rfl)
noncomputable def lk_run (most hi : Int) (op wr sn : Int) (ks : List Int) (k : Int) (pg : Es) (len : Nat) (es : Es) (qcur : Cur) (qk : List It) (qs : St) (qor : GD.Or) := runE (lk_C most hi op wr sn ks k pg len es) (callE (lk_C most hi op wr sn ks k pg len es) 100000 10) 42 100000 qcur qk qs qor []

theorem lk_in_0 {most hi : Int} {op wr sn : Int} {ks : List Int} {k : Int} {pg : Es} {len : Nat} {es : Es} (h0 : FlatEs pg) (h1 : FlatEs ([] ++ List.take (64 : Nat) pg)) (h2 : (List.take (64 : Nat) pg).length = (64 : Nat)) (h3 : (0 : Nat) = (0 : Nat) ∧ (0 : Nat) < (0 : Nat) + (List.take (64 : Nat) pg).length ∧ (0 : Nat) ≤ (0 : Nat) ∧ ((0 : Nat) + (List.take (64 : Nat) pg).length) * (1 : Nat) ≤ (140737488355328 : Nat) ∧ ((List.take (64 : Nat) pg).all fun c => c.length == (1 : Nat)) = true) (h4 : findI (ks ++ [k]) k (0 : Nat) = some ((ks ++ [k]).length - (1 : Nat))) (h5 : FlatEs es) : Ret P T 42 [D.ptr 0 0 0, D.int .i64 k] [some (.row 9 [[D.int .i64 (64 : Int), D.int .i64 most, D.mapp (1 : Nat), D.ptr 3 0 0, D.int .i64 hi, D.int .i64 op, D.int .i64 wr, D.int .i64 sn, D.func (Fn.func (59 : Nat)) [D.agg [D.ptr 0 0 0, D.slice false [] none]] []]]), some (HObj.mp IntKind.i64 (ks ++ [k]) [D.view 2 (0 : Nat) (64 : Nat)]), some (.row 1 pg), some (.row 1 [[D.view 4 (0 : Nat) len]]), some (.row 1 es)] (D.tuple [D.view 6 (0 : Nat) ((0 : Nat) + (List.take (64 : Nat) pg).length), D.bool true]) [some (.row 9 [[D.int .i64 (64 : Int), D.int .i64 most, D.mapp (1 : Nat), D.ptr 3 0 0, D.int .i64 hi, D.int .i64 op, D.int .i64 wr, D.int .i64 sn, D.func (Fn.func (59 : Nat)) [D.agg [D.ptr 0 0 0, D.slice false [] none]] []]]), some (HObj.mp IntKind.i64 (ks ++ [k]) [D.view 2 (0 : Nat) (64 : Nat)]), some (.row 1 pg), some (.row 1 [[D.view 4 (0 : Nat) len]]), some (.row 1 es), some HObj.dead, some (.row 1 ([] ++ List.take (64 : Nat) pg))] :=
  fin_call lk_fn lk_body lk_name (fr 42 7 (lk_ok most hi op wr sn ks k pg len es) (pth 8 63) (ac h0 (ac h0 (ac h1 (ac h2 (ac h3 (ac (show false = false from rfl) (ac h4 (ac (show false = false from rfl) (ac h0 (ac h5 (ac h0 (ac h5 (ac tru (ac tru (ac tru (ac tru (ac tru (ac tru an)))))))))))))))))))


/-! ### function 39 -/
theorem wt_fn : Try.prog.funcs[(39 : Nat)]? = some (fnAt P 39) := by kernel_rfl
theorem wt_body : (fnAt P 39).body = some (bodyAt P 39) := by kernel_rfl
theorem wt_name : ((fnAt P 39).name == "runtime.NumGoroutine") = false := by kernel_rfl
noncomputable def wt_C (most hi : Int) (op wr sn : Int) (ks : List Int) (k : Int) (pg zs : Es) (len : Nat) (es : Es) : Cf := cfg Try.prog (hintOf [((39 : Nat), (4 : Nat), (5 : Nat), Hint.row), ((39 : Nat), (11 : Nat), (7 : Nat), Hint.row), ((51 : Nat), (3 : Nat), (0 : Nat), Hint.row), ((51 : Nat), (3 : Nat), (2 : Nat), hOff)]) (tWr most hi op wr sn ks k pg zs len es) (fun _ => false) 3 true (fun z => Nat.beq 1 z || Nat.beq 4194305 z)
theorem wt_ok (most hi : Int) (op wr sn : Int) (ks : List Int) (k : Int) (pg zs : Es) (len : Nat) (es : Es) : CfOk (wt_C most hi op wr sn ks k pg zs len es) := cfg_ok (by kernel_rfl)
noncomputable def wt_run (most hi : Int) (op wr sn : Int) (ks : List Int) (k : Int) (pg zs : Es) (len : Nat) (es : Es) (qcur : Cur) (qk : List It) (qs : St) (qor : GD.Or) := runE (wt_C most hi op wr sn ks k pg zs len es) (callE (wt_C most hi op wr sn ks k pg zs len es) 100000 10) 39 100000 qcur qk qs qor []

theorem wt_in_0 {most hi : Int} {op wr sn : Int} {ks : List Int} {k : Int} {pg zs : Es} {len : Nat} {es : Es} (h0 : findI (ks ++ [k]) k (0 : Nat) ≠ none) (h1 : FlatEs zs) (h2 : FlatEs ([] ++ List.take (64 : Nat) zs)) (h3 : (List.take (64 : Nat) zs).length = (64 : Nat)) (h4 : (0 : Nat) = (0 : Nat) ∧ (0 : Nat) < (0 : Nat) + (List.take (64 : Nat) zs).length ∧ (0 : Nat) ≤ (0 : Nat) ∧ ((0 : Nat) + (List.take (64 : Nat) zs).length) * (1 : Nat) ≤ (140737488355328 : Nat) ∧ ((List.take (64 : Nat) zs).all fun c => c.length == (1 : Nat)) = true) (h5 : FlatEs pg) (h6 : FlatEs es) (h7 : Ret P T 59 [D.agg [D.ptr 0 0 0, D.slice false [] none], D.int .i64 (2 : Int)] [some (.row 9 [[D.int .i64 (64 : Int), D.int .i64 most, D.mapp (1 : Nat), D.ptr 3 0 0, D.int .i64 hi, D.int .i64 (IntKind.i64.wrap (op + (1 : Int))), D.int .i64 wr, D.int .i64 (IntKind.i64.wrap (sn + (1 : Int))), D.func (Fn.func (59 : Nat)) [D.agg [D.ptr 0 0 0, D.slice false [] none]] []]]), some (HObj.mp IntKind.i64 (ks ++ [k]) [D.view 2 (0 : Nat) (64 : Nat)]), some (.row 1 pg), some (.row 1 [[D.view 4 (0 : Nat) len]]), some (.row 1 es)] (D.bool false) [some (.row 9 [[D.int .i64 (64 : Int), D.int .i64 most, D.mapp (1 : Nat), D.ptr 3 0 0, D.int .i64 hi, D.int .i64 (IntKind.i64.wrap (op + (1 : Int))), D.int .i64 wr, D.int .i64 (IntKind.i64.wrap (sn + (1 : Int))), D.func (Fn.func (59 : Nat)) [D.agg [D.ptr 0 0 0, D.slice false [] none]] []]]), some (HObj.mp IntKind.i64 (ks ++ [k]) [D.view 2 (0 : Nat) (64 : Nat)]), some (.row 1 pg), some (.row 1 [[D.view 4 (0 : Nat) len]]), some (.row 1 es)]) : Ret P T 39 [D.ptr 0 0 0, D.int .i64 k, D.view 5 (0 : Nat) (64 : Nat)] [some (.row 9 [[D.int .i64 (64 : Int), D.int .i64 most, D.mapp (1 : Nat), D.ptr 3 0 0, D.int .i64 hi, D.int .i64 op, D.int .i64 wr, D.int .i64 sn, D.func (Fn.func (59 : Nat)) [D.agg [D.ptr 0 0 0, D.slice false [] none]] []]]), some (HObj.mp IntKind.i64 (ks ++ [k]) [D.view 2 (0 : Nat) (64 : Nat)]), some (.row 1 pg), some (.row 1 [[D.view 4 (0 : Nat) len]]), some (.row 1 es), some (.row 1 zs)] (D.int .i64 (0 : Int)) [some (.row 9 [[D.int .i64 (64 : Int), D.int .i64 most, D.mapp (1 : Nat), D.ptr 3 0 0, D.int .i64 hi, D.int .i64 (IntKind.i64.wrap (op + (1 : Int))), D.int .i64 (IntKind.i64.wrap (wr + (1 : Int))), D.int .i64 (IntKind.i64.wrap (sn + (1 : Int))), D.func (Fn.func (59 : Nat)) [D.agg [D.ptr 0 0 0, D.slice false [] none]] []]]), some (HObj.mp IntKind.i64 (ks ++ [k]) []), some (.row 1 pg), some (.row 1 [[D.view 4 (0 : Nat) len]]), some (.row 1 es), some (.row 1 zs)] :=
  fin_call wt_fn wt_body wt_name (fr 39 6 (wt_ok most hi op wr sn ks k pg zs len es) (pth 11 63) (ac h0 (ac h1 (ac h1 (ac h2 (ac h3 (ac h4 (ac (show false = false from rfl) (ac (show false = false from rfl) (ac (show false = false from rfl) (ac (show false = false from rfl) (ac h5 (ac h6 (ac h5 (ac h6 (ac h7 (ac h0 (ac h5 (ac h6 (ac h5 (ac h6 (ac (show false = false from rfl) (ac h5 (ac h6 (ac h5 (ac h6 (ac tru (ac tru (ac tru (ac tru (ac tru (ac tru an))))))))))))))))))))))))))))))))



end Go.Proofs.Ytifpbdhggooelaa.dsk
