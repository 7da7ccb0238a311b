/- Paths: a field by its name; roads. -/
import Derived.Test.YtlccdfilbiipmaaDoorPwA
namespace Go.Proofs.YtlccdfilbiipmaaDoor.ordk
open Go YtlccdfilbiipmaaDoor.GD
set_option linter.unusedVariables false
set_option linter.unusedSimpArgs false
set_option maxRecDepth 100000

def tabG (ix : Es → ByteArray → Int) : Tab := fun k args H =>
  match k with
  | 46 => match args, H with | [.slice _ es none, .func (.func 47) [] [.sptr [.str nm]]], [] => some (.int .i64 (ix es nm), []) | _, _ => none
  | 39 => match args, H with | [.agg [.int .i64 k, n, s, b, .slice _ es none, l], .str nm], [] => some (.int .i64 (if k = 6 then ix es nm else -1), []) | _, _ => none
  | _ => none
def aIx (ix : Es → ByteArray → Int) (xf : Bool) (ef : Es) (nm : ByteArray) : List D × GD.Heap := ([.slice xf ef none, .func (.func 47) [] [.sptr [.str nm]]], [])
def tIx (ix : Es → ByteArray → Int) (xf : Bool) (ef : Es) (nm : ByteArray) : Tab := t0
def aGt (ix : Es → ByteArray → Int) (k n : Int) (s : ByteArray) (xb : Bool) (eb : Es) (xf : Bool) (ef : Es) (xl : Bool) (el : Es) (nm : ByteArray) : List D × GD.Heap := ([.agg [.int .i64 k, .int .i64 n, .str s, .slice xb eb none, .slice xf ef none, .slice xl el none], .str nm], [])
def tGt (ix : Es → ByteArray → Int) (k n : Int) (s : ByteArray) (xb : Bool) (eb : Es) (xf : Bool) (ef : Es) (xl : Bool) (el : Es) (nm : ByteArray) : Tab := tabG ix

/-! ### function 39 -/
theorem bat_fn : Tryd.prog.funcs[(39 : Nat)]? = some (fnAt P 39) := by kernel_rfl
theorem bat_body : (fnAt P 39).body = some (bodyAt P 39) := by kernel_rfl
theorem bat_name : ((fnAt P 39).name == "runtime.NumGoroutine") = false := by kernel_rfl
noncomputable def bat_C (ix : Es → ByteArray → Int) (k n : Int) (s : ByteArray) (xb : Bool) (eb : Es) (xf : Bool) (ef : Es) (xl : Bool) (el : Es) (nm : ByteArray) : Cf := cfg Tryd.prog (hintOf [((39 : Nat), (0 : Nat), (0 : Nat), Hint.tok), ((39 : Nat), (0 : Nat), (1 : Nat), Hint.tok)]) (tGt ix k n s xb eb xf ef xl el nm) (fun _ => false) 2 true (fun _ => false)
theorem bat_ok (ix : Es → ByteArray → Int) (k n : Int) (s : ByteArray) (xb : Bool) (eb : Es) (xf : Bool) (ef : Es) (xl : Bool) (el : Es) (nm : ByteArray) : CfOk (bat_C ix k n s xb eb xf ef xl el nm) := cfg_ok (by kernel_rfl)
noncomputable def bat_run (ix : Es → ByteArray → Int) (k n : Int) (s : ByteArray) (xb : Bool) (eb : Es) (xf : Bool) (ef : Es) (xl : Bool) (el : Es) (nm : ByteArray) (qcur : Cur) (qk : List It) (qs : St) (qor : GD.Or) := runE (bat_C ix k n s xb eb xf ef xl el nm) (callE (bat_C ix k n s xb eb xf ef xl el nm) 100000 10) 39 100000 qcur qk qs qor []

theorem bat_in_0 {ix : Es → ByteArray → Int} {k n : Int} {s : ByteArray} {xb : Bool} {eb : Es} {xf : Bool} {ef : Es} {xl : Bool} {el : Es} {nm : ByteArray} (h0 : k ≠ (6 : Int)) : Ret P T 39 [D.agg (valk.val k n s xb eb xf ef xl el), D.str nm] [] (D.int .i64 (-1 : Int)) [] :=
  have bq0 : (k != (6 : Int)) = true := bne_iff_ne.2 h0
  fin_call bat_fn bat_body bat_name (fr 39 0 (bat_ok ix k n s xb eb xf ef xl el nm) (pth 1 1) (ac bq0 an))

theorem bat_in_1 {ix : Es → ByteArray → Int} {k n : Int} {s : ByteArray} {xb : Bool} {eb : Es} {xf : Bool} {ef : Es} {xl : Bool} {el : Es} {nm : ByteArray} (h0 : k = (6 : Int)) (h1 : Ret P T 46 [D.slice xf ef none, D.func (Fn.func (47 : Nat)) [] [D.sptr [D.str nm]]] [] (D.int .i64 (ix ef nm)) []) : Ret P T 39 [D.agg (valk.val k n s xb eb xf ef xl el), D.str nm] [] (D.int .i64 (ix ef nm)) [] :=
  have bq0 : (k != (6 : Int)) = false := (by rw [bne, Bool.not_eq_false']; exact beq_iff_eq.2 h0)
  fin_call bat_fn bat_body bat_name (fr 39 0 (bat_ok ix k n s xb eb xf ef xl el nm) (pth 1 0) (ac h1 (ac bq0 an)))


/-! ### function 46 -/
theorem bix_fn : Tryd.prog.funcs[(46 : Nat)]? = some (fnAt P 46) := by kernel_rfl
theorem bix_body : (fnAt P 46).body = some (bodyAt P 46) := by kernel_rfl
theorem bix_name : ((fnAt P 46).name == "runtime.NumGoroutine") = false := by kernel_rfl
noncomputable def bix_C (ix : Es → ByteArray → Int) (xf : Bool) (ef : Es) (nm s4_3_0 : ByteArray) (n4_3_1 n4_3_2 : Int) (s4_3_3 : ByteArray) (x4_3_4 : Bool) (e4_3_4 : List (List D)) (x4_3_5 : Bool) (e4_3_5 : List (List D)) (x4_3_6 : Bool) (e4_3_6 : List (List D)) : Cf := cfg Tryd.prog (hintOf [((46 : Nat), (4 : Nat), (3 : Nat), Hint.c (D.str s4_3_0 :: valk.val n4_3_1 n4_3_2 s4_3_3 x4_3_4 e4_3_4 x4_3_5 e4_3_5 x4_3_6 e4_3_6))]) (tIx ix xf ef nm) (fun _ => false) 2 true (fun _ => false)
theorem bix_ok (ix : Es → ByteArray → Int) (xf : Bool) (ef : Es) (nm s4_3_0 : ByteArray) (n4_3_1 n4_3_2 : Int) (s4_3_3 : ByteArray) (x4_3_4 : Bool) (e4_3_4 : List (List D)) (x4_3_5 : Bool) (e4_3_5 : List (List D)) (x4_3_6 : Bool) (e4_3_6 : List (List D)) : CfOk (bix_C ix xf ef nm s4_3_0 n4_3_1 n4_3_2 s4_3_3 x4_3_4 e4_3_4 x4_3_5 e4_3_5 x4_3_6 e4_3_6) := cfg_ok (by kernel_rfl)
noncomputable def bix_run (ix : Es → ByteArray → Int) (xf : Bool) (ef : Es) (nm s4_3_0 : ByteArray) (n4_3_1 n4_3_2 : Int) (s4_3_3 : ByteArray) (x4_3_4 : Bool) (e4_3_4 : List (List D)) (x4_3_5 : Bool) (e4_3_5 : List (List D)) (x4_3_6 : Bool) (e4_3_6 : List (List D)) (qcur : Cur) (qk : List It) (qs : St) (qor : GD.Or) := runE (bix_C ix xf ef nm s4_3_0 n4_3_1 n4_3_2 s4_3_3 x4_3_4 e4_3_4 x4_3_5 e4_3_5 x4_3_6 e4_3_6) (callE (bix_C ix xf ef nm s4_3_0 n4_3_1 n4_3_2 s4_3_3 x4_3_4 e4_3_4 x4_3_5 e4_3_5 x4_3_6 e4_3_6) 100000 10) 46 100000 qcur qk qs qor []
noncomputable def bix_l0 : Code := (loopAt Tryd.prog 46 0).1
noncomputable def bix_k0 : List It := (loopAt Tryd.prog 46 0).2
/- loop 0: n8:=(0 : Int); -/
noncomputable def bix_s0 (ix : Es → ByteArray → Int) (xf : Bool) (ef : Es) (nm : ByteArray) (n8 : Int) : St := ⟨envOf 19 [(0, D.slice xf ef none), (1, D.func (Fn.func (47 : Nat)) [] [D.sptr [D.str nm]]), (7, D.int .i64 (↑(List.length ef) : Int)), (8, D.int .i64 n8)], []⟩
def bix_at0 (ix : Es → ByteArray → Int) (xf : Bool) (ef : Es) (nm : ByteArray) (n8 : Int) (r : D) (H1 : GD.Heap) : Prop := GD.Fin Tryd.prog (tyOf Tryd.prog) (fnAt P 46) 0 (.code (.loop bix_l0)) bix_k0 (bix_s0 ix xf ef nm n8) r H1

theorem bix_in_0 {ix : Es → ByteArray → Int} {xf : Bool} {ef : Es} {nm : ByteArray} {r : D} {H1 : GD.Heap} (g : bix_at0 ix xf ef nm ((0 : Int)) r H1) : Ret P T 46 [D.slice xf ef none, D.func (Fn.func (47 : Nat)) [] [D.sptr [D.str nm]]] [] r H1 :=
  fin_call bix_fn bix_body bix_name (fs (fun _ => false) 46 0 [0, 1, 7, 8] (bix_ok ix xf ef nm bE 0 0 bE false [] false [] false []) (pth 0 0) an g)

theorem bix_0_0 {ix : Es → ByteArray → Int} {xf : Bool} {ef : Es} {nm : ByteArray} {n8 : Int} {s4_3_0 : ByteArray} {n4_3_1 n4_3_2 : Int} {s4_3_3 : ByteArray} {x4_3_4 : Bool} {e4_3_4 : List (List D)} {x4_3_5 : Bool} {e4_3_5 : List (List D)} {x4_3_6 : Bool} {e4_3_6 : List (List D)} (h0 : n8 < (↑(List.length ef) : Int)) (h1 : s4_3_0.toList = nm.toList) (h2 : (0 : Int) ≤ n8) (h3 : ef[n8.toNat]? = some (D.str s4_3_0 :: valk.val n4_3_1 n4_3_2 s4_3_3 x4_3_4 e4_3_4 x4_3_5 e4_3_5 x4_3_6 e4_3_6)) : bix_at0 ix xf ef nm n8 (D.int .i64 n8) [] :=
  have bq0 := decide_eq_true h0
  have bq1 := beq_iff_eq.2 h1
  fin_loop (fr 46 0 (bix_ok ix xf ef nm s4_3_0 n4_3_1 n4_3_2 s4_3_3 x4_3_4 e4_3_4 x4_3_5 e4_3_5 x4_3_6 e4_3_6) (pth 2 3) (ac bq1 (ac h2 (ac h3 (ac bq0 an)))))

theorem bix_0_1 {ix : Es → ByteArray → Int} {xf : Bool} {ef : Es} {nm : ByteArray} {n8 : Int} {s4_3_0 : ByteArray} {n4_3_1 n4_3_2 : Int} {s4_3_3 : ByteArray} {x4_3_4 : Bool} {e4_3_4 : List (List D)} {x4_3_5 : Bool} {e4_3_5 : List (List D)} {x4_3_6 : Bool} {e4_3_6 : List (List D)} {r : D} {H1 : GD.Heap} (h0 : n8 < (↑(List.length ef) : Int)) (h1 : s4_3_0.toList ≠ nm.toList) (h2 : (0 : Int) ≤ n8) (h3 : ef[n8.toNat]? = some (D.str s4_3_0 :: valk.val n4_3_1 n4_3_2 s4_3_3 x4_3_4 e4_3_4 x4_3_5 e4_3_5 x4_3_6 e4_3_6)) (g : bix_at0 ix xf ef nm (IntKind.i64.wrap (n8 + (1 : Int))) r H1) : bix_at0 ix xf ef nm n8 r H1 :=
  have bq0 := decide_eq_true h0
  have bq1 := beq_eq_false_iff_ne.2 h1
  fin_loop (fs (fun _ => false) 46 0 [0, 1, 7, 8] (bix_ok ix xf ef nm s4_3_0 n4_3_1 n4_3_2 s4_3_3 x4_3_4 e4_3_4 x4_3_5 e4_3_5 x4_3_6 e4_3_6) (pth 2 1) (ac bq1 (ac h2 (ac h3 (ac bq0 an)))) g)

theorem bix_0_2 {ix : Es → ByteArray → Int} {xf : Bool} {ef : Es} {nm : ByteArray} {n8 : Int} (h0 : ¬ (n8 < (↑(List.length ef) : Int))) : bix_at0 ix xf ef nm n8 (D.int .i64 (-1 : Int)) [] :=
  have bq0 := decide_eq_false h0
  fin_loop (fr 46 0 (bix_ok ix xf ef nm bE 0 0 bE false [] false [] false []) (pth 1 0) (ac bq0 an))


/-! ### function 30 -/
theorem bget_fn : Tryd.prog.funcs[(30 : Nat)]? = some (fnAt P 30) := by kernel_rfl
theorem bget_body : (fnAt P 30).body = some (bodyAt P 30) := by kernel_rfl
theorem bget_name : ((fnAt P 30).name == "runtime.NumGoroutine") = false := by kernel_rfl
noncomputable def bget_C (ix : Es → ByteArray → Int) (k n : Int) (s : ByteArray) (xb : Bool) (eb : Es) (xf : Bool) (ef : Es) (xl : Bool) (el : Es) (nm s4_3_0 : ByteArray) (n4_3_1 n4_3_2 : Int) (s4_3_3 : ByteArray) (x4_3_4 : Bool) (e4_3_4 : List (List D)) (x4_3_5 : Bool) (e4_3_5 : List (List D)) (x4_3_6 : Bool) (e4_3_6 : List (List D)) : Cf := cfg Tryd.prog (hintOf [((30 : Nat), (4 : Nat), (3 : Nat), Hint.c (D.str s4_3_0 :: valk.val n4_3_1 n4_3_2 s4_3_3 x4_3_4 e4_3_4 x4_3_5 e4_3_5 x4_3_6 e4_3_6))]) (tGt ix k n s xb eb xf ef xl el nm) (fun _ => false) 2 true (fun _ => false)
theorem bget_ok (ix : Es → ByteArray → Int) (k n : Int) (s : ByteArray) (xb : Bool) (eb : Es) (xf : Bool) (ef : Es) (xl : Bool) (el : Es) (nm s4_3_0 : ByteArray) (n4_3_1 n4_3_2 : Int) (s4_3_3 : ByteArray) (x4_3_4 : Bool) (e4_3_4 : List (List D)) (x4_3_5 : Bool) (e4_3_5 : List (List D)) (x4_3_6 : Bool) (e4_3_6 : List (List D)) : CfOk (bget_C ix k n s xb eb xf ef xl el nm s4_3_0 n4_3_1 n4_3_2 s4_3_3 x4_3_4 e4_3_4 x4_3_5 e4_3_5 x4_3_6 e4_3_6) := cfg_ok (by kernel_rfl)
noncomputable def bget_run (ix : Es → ByteArray → Int) (k n : Int) (s : ByteArray) (xb : Bool) (eb : Es) (xf : Bool) (ef : Es) (xl : Bool) (el : Es) (nm s4_3_0 : ByteArray) (n4_3_1 n4_3_2 : Int) (s4_3_3 : ByteArray) (x4_3_4 : Bool) (e4_3_4 : List (List D)) (x4_3_5 : Bool) (e4_3_5 : List (List D)) (x4_3_6 : Bool) (e4_3_6 : List (List D)) (qcur : Cur) (qk : List It) (qs : St) (qor : GD.Or) := runE (bget_C ix k n s xb eb xf ef xl el nm s4_3_0 n4_3_1 n4_3_2 s4_3_3 x4_3_4 e4_3_4 x4_3_5 e4_3_5 x4_3_6 e4_3_6) (callE (bget_C ix k n s xb eb xf ef xl el nm s4_3_0 n4_3_1 n4_3_2 s4_3_3 x4_3_4 e4_3_4 x4_3_5 e4_3_5 x4_3_6 e4_3_6) 100000 10) 30 100000 qcur qk qs qor []

theorem bget_in_0 {ix : Es → ByteArray → Int} {k n : Int} {s : ByteArray} {xb : Bool} {eb : Es} {xf : Bool} {ef : Es} {xl : Bool} {el : Es} {nm : ByteArray} (h0 : (if k = (6 : Int) then ix ef nm else (-1 : Int)) < (0 : Int)) (h1 : Ret P T 39 [D.agg (valk.val k n s xb eb xf ef xl el), D.str nm] [] (D.int .i64 (if k = (6 : Int) then ix ef nm else (-1 : Int))) []) : Ret P T 30 [D.agg (valk.val k n s xb eb xf ef xl el), D.str nm] [] (D.agg (valk.val (0 : Int) (0 : Int) bE false [] false [] false [])) [] :=
  have bq0 := decide_eq_true h0
  fin_call bget_fn bget_body bget_name (fr 30 0 (bget_ok ix k n s xb eb xf ef xl el nm bE 0 0 bE false [] false [] false []) (pth 1 1) (ac bq0 (ac h1 an)))

theorem bget_in_1 {ix : Es → ByteArray → Int} {k n : Int} {s : ByteArray} {xb : Bool} {eb : Es} {xf : Bool} {ef : Es} {xl : Bool} {el : Es} {nm s4_3_0 : ByteArray} {n4_3_1 n4_3_2 : Int} {s4_3_3 : ByteArray} {x4_3_4 : Bool} {e4_3_4 : List (List D)} {x4_3_5 : Bool} {e4_3_5 : List (List D)} {x4_3_6 : Bool} {e4_3_6 : List (List D)} (h0 : ¬ ((if k = (6 : Int) then ix ef nm else (-1 : Int)) < (0 : Int))) (h1 : (0 : Int) ≤ if k = (6 : Int) then ix ef nm else (-1 : Int)) (h2 : ef[(if k = (6 : Int) then ix ef nm else (-1 : Int)).toNat]? = some (D.str s4_3_0 :: valk.val n4_3_1 n4_3_2 s4_3_3 x4_3_4 e4_3_4 x4_3_5 e4_3_5 x4_3_6 e4_3_6)) (h3 : Ret P T 39 [D.agg (valk.val k n s xb eb xf ef xl el), D.str nm] [] (D.int .i64 (if k = (6 : Int) then ix ef nm else (-1 : Int))) []) : Ret P T 30 [D.agg (valk.val k n s xb eb xf ef xl el), D.str nm] [] (D.agg (valk.val n4_3_1 n4_3_2 s4_3_3 x4_3_4 e4_3_4 x4_3_5 e4_3_5 x4_3_6 e4_3_6)) [] :=
  have bq0 := decide_eq_false h0
  fin_call bget_fn bget_body bget_name (fr 30 0 (bget_ok ix k n s xb eb xf ef xl el nm s4_3_0 n4_3_1 n4_3_2 s4_3_3 x4_3_4 e4_3_4 x4_3_5 e4_3_5 x4_3_6 e4_3_6) (pth 1 0) (ac h1 (ac h2 (ac bq0 (ac h3 an)))))


/-! ### function 22 -/
theorem rfi_fn : Tryd.prog.funcs[(22 : Nat)]? = some (fnAt P 22) := by kernel_rfl
theorem rfi_body : (fnAt P 22).body = some (bodyAt P 22) := by kernel_rfl
theorem rfi_name : ((fnAt P 22).name == "runtime.NumGoroutine") = false := by kernel_rfl
noncomputable def rfi_C (ix : Es → ByteArray → Int) (k n : Int) (s : ByteArray) (xb : Bool) (eb : Es) (xf : Bool) (ef : Es) (xl : Bool) (el : Es) (nm s4_3_0 : ByteArray) (n4_3_1 n4_3_2 : Int) (s4_3_3 : ByteArray) (x4_3_4 : Bool) (e4_3_4 : List (List D)) (x4_3_5 : Bool) (e4_3_5 : List (List D)) (x4_3_6 : Bool) (e4_3_6 : List (List D)) (s5_3_0 : ByteArray) (n5_3_1 n5_3_2 : Int) (s5_3_3 : ByteArray) (x5_3_4 : Bool) (e5_3_4 : List (List D)) (x5_3_5 : Bool) (e5_3_5 : List (List D)) (x5_3_6 : Bool) (e5_3_6 : List (List D)) : Cf := cfg Tryd.prog (hintOf [((22 : Nat), (4 : Nat), (3 : Nat), Hint.c (D.str s4_3_0 :: valk.val n4_3_1 n4_3_2 s4_3_3 x4_3_4 e4_3_4 x4_3_5 e4_3_5 x4_3_6 e4_3_6)), ((22 : Nat), (5 : Nat), (3 : Nat), Hint.c (D.str s5_3_0 :: valk.val n5_3_1 n5_3_2 s5_3_3 x5_3_4 e5_3_4 x5_3_5 e5_3_5 x5_3_6 e5_3_6))]) (tGt ix k n s xb eb xf ef xl el nm) (fun _ => false) 2 true (fun _ => false)
theorem rfi_ok (ix : Es → ByteArray → Int) (k n : Int) (s : ByteArray) (xb : Bool) (eb : Es) (xf : Bool) (ef : Es) (xl : Bool) (el : Es) (nm s4_3_0 : ByteArray) (n4_3_1 n4_3_2 : Int) (s4_3_3 : ByteArray) (x4_3_4 : Bool) (e4_3_4 : List (List D)) (x4_3_5 : Bool) (e4_3_5 : List (List D)) (x4_3_6 : Bool) (e4_3_6 : List (List D)) (s5_3_0 : ByteArray) (n5_3_1 n5_3_2 : Int) (s5_3_3 : ByteArray) (x5_3_4 : Bool) (e5_3_4 : List (List D)) (x5_3_5 : Bool) (e5_3_5 : List (List D)) (x5_3_6 : Bool) (e5_3_6 : List (List D)) : CfOk (rfi_C ix k n s xb eb xf ef xl el nm s4_3_0 n4_3_1 n4_3_2 s4_3_3 x4_3_4 e4_3_4 x4_3_5 e4_3_5 x4_3_6 e4_3_6 s5_3_0 n5_3_1 n5_3_2 s5_3_3 x5_3_4 e5_3_4 x5_3_5 e5_3_5 x5_3_6 e5_3_6) := cfg_ok (by kernel_rfl)
noncomputable def rfi_run (ix : Es → ByteArray → Int) (k n : Int) (s : ByteArray) (xb : Bool) (eb : Es) (xf : Bool) (ef : Es) (xl : Bool) (el : Es) (nm s4_3_0 : ByteArray) (n4_3_1 n4_3_2 : Int) (s4_3_3 : ByteArray) (x4_3_4 : Bool) (e4_3_4 : List (List D)) (x4_3_5 : Bool) (e4_3_5 : List (List D)) (x4_3_6 : Bool) (e4_3_6 : List (List D)) (s5_3_0 : ByteArray) (n5_3_1 n5_3_2 : Int) (s5_3_3 : ByteArray) (x5_3_4 : Bool) (e5_3_4 : List (List D)) (x5_3_5 : Bool) (e5_3_5 : List (List D)) (x5_3_6 : Bool) (e5_3_6 : List (List D)) (qcur : Cur) (qk : List It) (qs : St) (qor : GD.Or) := runE (rfi_C ix k n s xb eb xf ef xl el nm s4_3_0 n4_3_1 n4_3_2 s4_3_3 x4_3_4 e4_3_4 x4_3_5 e4_3_5 x4_3_6 e4_3_6 s5_3_0 n5_3_1 n5_3_2 s5_3_3 x5_3_4 e5_3_4 x5_3_5 e5_3_5 x5_3_6 e5_3_6) (callE (rfi_C ix k n s xb eb xf ef xl el nm s4_3_0 n4_3_1 n4_3_2 s4_3_3 x4_3_4 e4_3_4 x4_3_5 e4_3_5 x4_3_6 e4_3_6 s5_3_0 n5_3_1 n5_3_2 s5_3_3 x5_3_4 e5_3_4 x5_3_5 e5_3_5 x5_3_6 e5_3_6) 100000 10) 22 100000 qcur qk qs qor []
noncomputable def rfi_l0 : Code := (loopAt Tryd.prog 22 0).1
noncomputable def rfi_k0 : List It := (loopAt Tryd.prog 22 0).2
/- loop 0: n5:=(0 : Int); -/
noncomputable def rfi_s0 (ix : Es → ByteArray → Int) (k n : Int) (s : ByteArray) (xb : Bool) (eb : Es) (xf : Bool) (ef : Es) (xl : Bool) (el : Es) (nm : ByteArray) (n5 : Int) : St := ⟨envOf 33 [(1, D.str nm), (2, D.ptr 0 0 0), (4, D.ptr 1 0 0), (5, D.int .i64 n5)], [some (.row 6 [(valk.val k n s xb eb xf ef xl el)]), some (.row 6 [(valk.val (0 : Int) (0 : Int) bE false [] false [] false [])])]⟩
def rfi_at0 (ix : Es → ByteArray → Int) (k n : Int) (s : ByteArray) (xb : Bool) (eb : Es) (xf : Bool) (ef : Es) (xl : Bool) (el : Es) (nm : ByteArray) (n5 : Int) (r : D) (H1 : GD.Heap) : Prop := GD.Fin Tryd.prog (tyOf Tryd.prog) (fnAt P 22) 0 (.code (.loop rfi_l0)) rfi_k0 (rfi_s0 ix k n s xb eb xf ef xl el nm n5) r H1

theorem rfi_in_0 {ix : Es → ByteArray → Int} {k n : Int} {s : ByteArray} {xb : Bool} {eb : Es} {xf : Bool} {ef : Es} {xl : Bool} {el : Es} {nm : ByteArray} {r : D} {H1 : GD.Heap} (g : rfi_at0 ix k n s xb eb xf ef xl el nm ((0 : Int)) r H1) : Ret P T 22 [D.agg (valk.val k n s xb eb xf ef xl el), D.str nm] [] r H1 :=
  fin_call rfi_fn rfi_body rfi_name (fs (fun _ => false) 22 2 [1, 2, 4, 5] (rfi_ok ix k n s xb eb xf ef xl el nm bE 0 0 bE false [] false [] false [] bE 0 0 bE false [] false [] false []) (pth 0 0) an g)

theorem rfi_0_0 {ix : Es → ByteArray → Int} {k n : Int} {s : ByteArray} {xb : Bool} {eb : Es} {xf : Bool} {ef : Es} {xl : Bool} {el : Es} {nm : ByteArray} {n5 : Int} {s4_3_0 : ByteArray} {n4_3_1 n4_3_2 : Int} {s4_3_3 : ByteArray} {x4_3_4 : Bool} {e4_3_4 : List (List D)} {x4_3_5 : Bool} {e4_3_5 : List (List D)} {x4_3_6 : Bool} {e4_3_6 : List (List D)} {s5_3_0 : ByteArray} {n5_3_1 n5_3_2 : Int} {s5_3_3 : ByteArray} {x5_3_4 : Bool} {e5_3_4 : List (List D)} {x5_3_5 : Bool} {e5_3_5 : List (List D)} {x5_3_6 : Bool} {e5_3_6 : List (List D)} (h0 : n5 < (↑(List.length ef) : Int)) (h1 : k = (6 : Int)) (h2 : s4_3_0.toList = nm.toList) (h3 : (0 : Int) ≤ n5) (h4 : ef[n5.toNat]? = some (D.str s5_3_0 :: valk.val n5_3_1 n5_3_2 s5_3_3 x5_3_4 e5_3_4 x5_3_5 e5_3_5 x5_3_6 e5_3_6)) (h5 : ef[n5.toNat]? = some (D.str s4_3_0 :: valk.val n4_3_1 n4_3_2 s4_3_3 x4_3_4 e4_3_4 x4_3_5 e4_3_5 x4_3_6 e4_3_6)) : rfi_at0 ix k n s xb eb xf ef xl el nm n5 (D.agg (valk.val n5_3_1 n5_3_2 s5_3_3 x5_3_4 e5_3_4 x5_3_5 e5_3_5 x5_3_6 e5_3_6)) [] :=
  have bq0 := decide_eq_true h0
  have bq1 := beq_iff_eq.2 h1
  have bq2 := beq_iff_eq.2 h2
  fin_loop (fr 22 0 (rfi_ok ix k n s xb eb xf ef xl el nm s4_3_0 n4_3_1 n4_3_2 s4_3_3 x4_3_4 e4_3_4 x4_3_5 e4_3_5 x4_3_6 e4_3_6 s5_3_0 n5_3_1 n5_3_2 s5_3_3 x5_3_4 e5_3_4 x5_3_5 e5_3_5 x5_3_6 e5_3_6) (pth 6 63) (ac h3 (ac h4 (ac bq2 (ac h3 (ac h5 (ac bq1 (ac bq0 (ac (ktt bq0) (ac (ktt bq0) (ac (ktt bq0) an)))))))))))

theorem rfi_0_1 {ix : Es → ByteArray → Int} {k n : Int} {s : ByteArray} {xb : Bool} {eb : Es} {xf : Bool} {ef : Es} {xl : Bool} {el : Es} {nm : ByteArray} {n5 : Int} {s4_3_0 : ByteArray} {n4_3_1 n4_3_2 : Int} {s4_3_3 : ByteArray} {x4_3_4 : Bool} {e4_3_4 : List (List D)} {x4_3_5 : Bool} {e4_3_5 : List (List D)} {x4_3_6 : Bool} {e4_3_6 : List (List D)} {r : D} {H1 : GD.Heap} (h0 : n5 < (↑(List.length ef) : Int)) (h1 : k = (6 : Int)) (h2 : s4_3_0.toList ≠ nm.toList) (h3 : (0 : Int) ≤ n5) (h4 : ef[n5.toNat]? = some (D.str s4_3_0 :: valk.val n4_3_1 n4_3_2 s4_3_3 x4_3_4 e4_3_4 x4_3_5 e4_3_5 x4_3_6 e4_3_6)) (g : rfi_at0 ix k n s xb eb xf ef xl el nm (IntKind.i64.wrap (n5 + (1 : Int))) r H1) : rfi_at0 ix k n s xb eb xf ef xl el nm n5 r H1 :=
  have bq0 := decide_eq_true h0
  have bq1 := beq_iff_eq.2 h1
  have bq2 := beq_eq_false_iff_ne.2 h2
  fin_loop (fs (fun _ => false) 22 2 [1, 2, 4, 5] (rfi_ok ix k n s xb eb xf ef xl el nm s4_3_0 n4_3_1 n4_3_2 s4_3_3 x4_3_4 e4_3_4 x4_3_5 e4_3_5 x4_3_6 e4_3_6 bE 0 0 bE false [] false [] false []) (pth 6 31) (ac bq2 (ac h3 (ac h4 (ac bq1 (ac bq0 (ac (ktt bq0) (ac (ktt bq0) (ac (ktt bq0) an)))))))) g)

theorem rfi_0_2 {ix : Es → ByteArray → Int} {k n : Int} {s : ByteArray} {xb : Bool} {eb : Es} {xf : Bool} {ef : Es} {xl : Bool} {el : Es} {nm : ByteArray} {n5 : Int} (h0 : n5 < (↑(List.length ef) : Int)) (h1 : k ≠ (6 : Int)) : rfi_at0 ix k n s xb eb xf ef xl el nm n5 (D.agg (valk.val (0 : Int) (0 : Int) bE false [] false [] false [])) [] :=
  have bq0 := decide_eq_true h0
  have bq1 := beq_eq_false_iff_ne.2 h1
  fin_loop (fr 22 0 (rfi_ok ix k n s xb eb xf ef xl el nm bE 0 0 bE false [] false [] false [] bE 0 0 bE false [] false [] false []) (pth 5 15) (ac bq1 (ac bq0 (ac (ktt bq0) (ac (ktt bq0) (ac (ktt bq0) an))))))

theorem rfi_0_3 {ix : Es → ByteArray → Int} {k n : Int} {s : ByteArray} {xb : Bool} {eb : Es} {xf : Bool} {ef : Es} {xl : Bool} {el : Es} {nm : ByteArray} {n5 : Int} (h0 : ¬ (n5 < (↑(List.length ef) : Int))) : rfi_at0 ix k n s xb eb xf ef xl el nm n5 (D.agg (valk.val (0 : Int) (0 : Int) bE false [] false [] false [])) [] :=
  have bq0 := decide_eq_false h0
  fin_loop (fr 22 0 (rfi_ok ix k n s xb eb xf ef xl el nm bE 0 0 bE false [] false [] false [] bE 0 0 bE false [] false [] false []) (pth 5 0) (ac (show false = false from rfl) (ac bq0 (ac (kft bq0) (ac (kft bq0) (ac (kft bq0) an))))))



end Go.Proofs.YtlccdfilbiipmaaDoor.ordk
