/- Keys: the writer's small functions; roads. -/
import Derived.Test.YtlccdfilbiipmaaKvA
import Derived.Test.YtlccdfilbiipmaaValKitK
namespace Go.Proofs.Ytlccdfilbiipmaa.ordk
open Go Ytlccdfilbiipmaa.GD
set_option linter.unusedVariables false
set_option linter.unusedSimpArgs false
set_option maxRecDepth 100000

def wrH (nn : Bool) (b : Es) (tn : Int) (dp : Bool) (n : Nat) : GD.Heap := [some (.row 3 [[.slice nn b (some 1), .int .u8 tn, .bool dp]]), some (.tok n 1)]
def aPut (xl : Bool) (l : Es) (nn : Bool) (b : Es) (tn : Int) (dp : Bool) (nt : Nat) : List D × GD.Heap := ([.ptr 0 0 0, .slice xl l none], [some (.row 3 [[.slice nn b (some 1), .int .u8 tn, .bool dp]]), some (.tok nt 1)])
def tPut (xl : Bool) (l : Es) (nn : Bool) (b : Es) (tn : Int) (dp : Bool) (nt : Nat) : Tab := t0
def aPutT (xl : Bool) (l : Es) (nn : Bool) (b : Es) (tn : Int) (dp : Bool) (nt nl : Nat) : List D × GD.Heap := ([.ptr 0 0 0, .slice xl l (some 2)], [some (.row 3 [[.slice nn b (some 1), .int .u8 tn, .bool dp]]), some (.tok nt 1), some (.tok nl 1)])
def tPutT (xl : Bool) (l : Es) (nn : Bool) (b : Es) (tn : Int) (dp : Bool) (nt nl : Nat) : Tab := t0
/-- Bytes as they are written. -/
def turnC (tn : Int) (l : Es) : Es := l.map fun r => match r with | [.int .u8 n] => [.int .u8 (xorW .u8 n tn)] | x => x
def putH (l : Es) (nn : Bool) (b : Es) (tn : Int) (dp : Bool) (n : Nat) : GD.Heap := [some (.row 3 [[.slice (nn || !l.isEmpty) (b ++ turnC tn l) (some 1), .int .u8 tn, .bool dp]]), some (.tok (n + l.length) 1)]
/-- put appends. -/
def tabW (cl : Int → Int) (nmE : Int → Es) (txE : ByteArray → Es) : Tab := fun k args H =>
  match k with
  | 29 => match args, H with
    | [.ptr 0 0 0, .slice _ l none], [some (.row 3 [[.slice nn b (some 1), .int .u8 tn, .bool dp]]), some (.tok n 1)] => some (.tuple [], [some (.row 3 [[.slice (nn || !l.isEmpty) (b ++ turnC tn l) (some 1), .int .u8 tn, .bool dp]]), some (.tok (n + l.length) 1)])
    | [.ptr 0 0 0, .slice _ l (some 2)], [some (.row 3 [[.slice nn b (some 1), .int .u8 tn, .bool dp]]), some (.tok n 1), some (.tok m 1)] => some (.tuple [], [some (.row 3 [[.slice (nn || !l.isEmpty) (b ++ turnC tn l) (some 1), .int .u8 tn, .bool dp]]), some (.tok (n + l.length) 1), some (.tok m 1)])
    | _, _ => none
  | 35 => match args, H with | [.int .i64 k], [] => some (.int .i64 (cl k), []) | _, _ => none
  | _ => none
def aCls (cl : Int → Int) (nmE : Int → Es) (txE : ByteArray → Es) (k : Int) (nn : Bool) (b : Es) (tn : Int) (dp : Bool) (nt : Nat) : List D × GD.Heap := ([.ptr 0 0 0, .int .i64 k], [some (.row 3 [[.slice nn b (some 1), .int .u8 tn, .bool dp]]), some (.tok nt 1)])
def tCls (cl : Int → Int) (nmE : Int → Es) (txE : ByteArray → Es) (k : Int) (nn : Bool) (b : Es) (tn : Int) (dp : Bool) (nt : Nat) : Tab := tabW cl nmE txE
def aTxt (cl : Int → Int) (nmE : Int → Es) (txE : ByteArray → Es) (s : ByteArray) (nn : Bool) (b : Es) (tn : Int) (dp : Bool) (nt : Nat) : List D × GD.Heap := ([.ptr 0 0 0, .str s], [some (.row 3 [[.slice nn b (some 1), .int .u8 tn, .bool dp]]), some (.tok nt 1)])
def tTxt (cl : Int → Int) (nmE : Int → Es) (txE : ByteArray → Es) (s : ByteArray) (nn : Bool) (b : Es) (tn : Int) (dp : Bool) (nt : Nat) : Tab := tabW cl nmE txE

/-! ### function 29 -/
theorem put_fn : Try.prog.funcs[(29 : Nat)]? = some (fnAt P 29) := by kernel_rfl
theorem put_body : (fnAt P 29).body = some (bodyAt P 29) := by kernel_rfl
theorem put_name : ((fnAt P 29).name == "runtime.NumGoroutine") = false := by kernel_rfl
noncomputable def put_C (xl : Bool) (l : Es) (nn : Bool) (b : Es) (tn : Int) (dp : Bool) (nt : Nat) (n2_0 : Int) : Cf := cfg Try.prog (hintOf [((29 : Nat), (2 : Nat), (0 : Nat), Hint.c [D.int .u8 n2_0])]) (tPut xl l nn b tn dp nt) (fun _ => false) 2 true (fun _ => false)
theorem put_ok (xl : Bool) (l : Es) (nn : Bool) (b : Es) (tn : Int) (dp : Bool) (nt : Nat) (n2_0 : Int) : CfOk (put_C xl l nn b tn dp nt n2_0) := cfg_ok (by kernel_rfl)
noncomputable def put_run (xl : Bool) (l : Es) (nn : Bool) (b : Es) (tn : Int) (dp : Bool) (nt : Nat) (n2_0 : Int) (qcur : Cur) (qk : List It) (qs : St) (qor : GD.Or) := runE (put_C xl l nn b tn dp nt n2_0) (callE (put_C xl l nn b tn dp nt n2_0) 100000 10) 29 100000 qcur qk qs qor []
noncomputable def put_l0 : Code := (loopAt Try.prog 29 0).1
noncomputable def put_k0 : List It := (loopAt Try.prog 29 0).2
/- loop 0: n8:=(0 : Int); xh:=nn; eh:=b; kh:=nt; -/
noncomputable def put_s0 (xl : Bool) (l : Es) (nn : Bool) (b : Es) (tn : Int) (dp : Bool) (nt : Nat) (n8 : Int) (xh : Bool) (eh : List (List D)) (kh : Nat) : St := ⟨envOf 28 [(0, D.ptr 0 0 0), (6, D.slice xl l none), (7, D.int .i64 (↑(List.length l) : Int)), (8, D.int .i64 n8)], [some (.row 3 [[D.slice xh eh (some 1), D.int .u8 tn, D.bool dp]]), some (HObj.tok kh (1 : Nat))]⟩
def put_at0 (xl : Bool) (l : Es) (nn : Bool) (b : Es) (tn : Int) (dp : Bool) (nt : Nat) (n8 : Int) (xh : Bool) (eh : List (List D)) (kh : Nat) (r : D) (H1 : GD.Heap) : Prop := GD.Fin Try.prog (tyOf Try.prog) (fnAt P 29) 2 (.code (.loop put_l0)) put_k0 (put_s0 xl l nn b tn dp nt n8 xh eh kh) r H1

theorem put_in_0 {xl : Bool} {l : Es} {nn : Bool} {b : Es} {tn : Int} {dp : Bool} {nt : Nat} {r : D} {H1 : GD.Heap} (g : put_at0 xl l nn b tn dp nt ((0 : Int)) (nn) (b) (nt) r H1) : Ret P T 29 [D.ptr 0 0 0, D.slice xl l none] [some (.row 3 [[D.slice nn b (some 1), D.int .u8 tn, D.bool dp]]), some (HObj.tok nt (1 : Nat))] r H1 :=
  fin_call put_fn put_body put_name (fs (fun _ => false) 29 2 [0, 6, 7, 8] (put_ok xl l nn b tn dp nt 0) (pth 0 0) an g)

theorem put_0_0 {xl : Bool} {l : Es} {nn : Bool} {b : Es} {tn : Int} {dp : Bool} {nt : Nat} {n8 : Int} {xh : Bool} {eh : List (List D)} {kh : Nat} {n2_0 : Int} {r : D} {H1 : GD.Heap} (h0 : n8 < (↑(List.length l) : Int)) (h1 : eh.length = kh ∧ (eh.length + (1 : Nat)) * (1 : Nat) ≤ (140737488355328 : Nat) ∧ true = true) (h2 : (0 : Int) ≤ n8) (h3 : l[n8.toNat]? = some [D.int .u8 n2_0]) (g : put_at0 xl l nn b tn dp nt (IntKind.i64.wrap (n8 + (1 : Int))) (xh || true) (eh ++ [[D.int .u8 (xorW IntKind.u8 n2_0 tn)]]) (kh + (1 : Nat)) r H1) : put_at0 xl l nn b tn dp nt n8 xh eh kh r H1 :=
  have bq0 := decide_eq_true h0
  fin_loop (fs (fun _ => false) 29 2 [0, 6, 7, 8] (put_ok xl l nn b tn dp nt n2_0) (pth 1 1) (ac h1 (ac h2 (ac h3 (ac bq0 an)))) g)

theorem put_0_1 {xl : Bool} {l : Es} {nn : Bool} {b : Es} {tn : Int} {dp : Bool} {nt : Nat} {n8 : Int} {xh : Bool} {eh : List (List D)} {kh : Nat} (h0 : ¬ (n8 < (↑(List.length l) : Int))) : put_at0 xl l nn b tn dp nt n8 xh eh kh (D.tuple []) [some (.row 3 [[D.slice xh eh (some 1), D.int .u8 tn, D.bool dp]]), some (HObj.tok kh (1 : Nat))] :=
  have bq0 := decide_eq_false h0
  fin_loop (fr 29 2 (put_ok xl l nn b tn dp nt 0) (pth 1 0) (ac bq0 an))


/-! ### function 29 -/
theorem putT_fn : Try.prog.funcs[(29 : Nat)]? = some (fnAt P 29) := by kernel_rfl
theorem putT_body : (fnAt P 29).body = some (bodyAt P 29) := by kernel_rfl
theorem putT_name : ((fnAt P 29).name == "runtime.NumGoroutine") = false := by kernel_rfl
noncomputable def putT_C (xl : Bool) (l : Es) (nn : Bool) (b : Es) (tn : Int) (dp : Bool) (nt nl : Nat) (n2_0 : Int) : Cf := cfg Try.prog (hintOf [((29 : Nat), (2 : Nat), (0 : Nat), Hint.c [D.int .u8 n2_0])]) (tPutT xl l nn b tn dp nt nl) (fun _ => false) 2 true (fun _ => false)
theorem putT_ok (xl : Bool) (l : Es) (nn : Bool) (b : Es) (tn : Int) (dp : Bool) (nt nl : Nat) (n2_0 : Int) : CfOk (putT_C xl l nn b tn dp nt nl n2_0) := cfg_ok (by kernel_rfl)
noncomputable def putT_run (xl : Bool) (l : Es) (nn : Bool) (b : Es) (tn : Int) (dp : Bool) (nt nl : Nat) (n2_0 : Int) (qcur : Cur) (qk : List It) (qs : St) (qor : GD.Or) := runE (putT_C xl l nn b tn dp nt nl n2_0) (callE (putT_C xl l nn b tn dp nt nl n2_0) 100000 10) 29 100000 qcur qk qs qor []
noncomputable def putT_l0 : Code := (loopAt Try.prog 29 0).1
noncomputable def putT_k0 : List It := (loopAt Try.prog 29 0).2
/- loop 0: n8:=(0 : Int); xh:=nn; eh:=b; kh:=nt; -/
noncomputable def putT_s0 (xl : Bool) (l : Es) (nn : Bool) (b : Es) (tn : Int) (dp : Bool) (nt nl : Nat) (n8 : Int) (xh : Bool) (eh : List (List D)) (kh : Nat) : St := ⟨envOf 28 [(0, D.ptr 0 0 0), (6, D.slice xl l (some 2)), (7, D.int .i64 (↑(List.length l) : Int)), (8, D.int .i64 n8)], [some (.row 3 [[D.slice xh eh (some 1), D.int .u8 tn, D.bool dp]]), some (HObj.tok kh (1 : Nat)), some (HObj.tok nl (1 : Nat))]⟩
def putT_at0 (xl : Bool) (l : Es) (nn : Bool) (b : Es) (tn : Int) (dp : Bool) (nt nl : Nat) (n8 : Int) (xh : Bool) (eh : List (List D)) (kh : Nat) (r : D) (H1 : GD.Heap) : Prop := GD.Fin Try.prog (tyOf Try.prog) (fnAt P 29) 3 (.code (.loop putT_l0)) putT_k0 (putT_s0 xl l nn b tn dp nt nl n8 xh eh kh) r H1

theorem putT_in_0 {xl : Bool} {l : Es} {nn : Bool} {b : Es} {tn : Int} {dp : Bool} {nt nl : Nat} {r : D} {H1 : GD.Heap} (g : putT_at0 xl l nn b tn dp nt nl ((0 : Int)) (nn) (b) (nt) r H1) : Ret P T 29 [D.ptr 0 0 0, D.slice xl l (some 2)] [some (.row 3 [[D.slice nn b (some 1), D.int .u8 tn, D.bool dp]]), some (HObj.tok nt (1 : Nat)), some (HObj.tok nl (1 : Nat))] r H1 :=
  fin_call putT_fn putT_body putT_name (fs (fun _ => false) 29 3 [0, 6, 7, 8] (putT_ok xl l nn b tn dp nt nl 0) (pth 0 0) an g)

theorem putT_0_0 {xl : Bool} {l : Es} {nn : Bool} {b : Es} {tn : Int} {dp : Bool} {nt nl : Nat} {n8 : Int} {xh : Bool} {eh : List (List D)} {kh : Nat} {n2_0 : Int} {r : D} {H1 : GD.Heap} (h0 : n8 < (↑(List.length l) : Int)) (h1 : eh.length = kh ∧ (eh.length + (1 : Nat)) * (1 : Nat) ≤ (140737488355328 : Nat) ∧ true = true) (h2 : (0 : Int) ≤ n8) (h3 : l[n8.toNat]? = some [D.int .u8 n2_0]) (g : putT_at0 xl l nn b tn dp nt nl (IntKind.i64.wrap (n8 + (1 : Int))) (xh || true) (eh ++ [[D.int .u8 (xorW IntKind.u8 n2_0 tn)]]) (kh + (1 : Nat)) r H1) : putT_at0 xl l nn b tn dp nt nl n8 xh eh kh r H1 :=
  have bq0 := decide_eq_true h0
  fin_loop (fs (fun _ => false) 29 3 [0, 6, 7, 8] (putT_ok xl l nn b tn dp nt nl n2_0) (pth 1 1) (ac h1 (ac h2 (ac h3 (ac bq0 an)))) g)

theorem putT_0_1 {xl : Bool} {l : Es} {nn : Bool} {b : Es} {tn : Int} {dp : Bool} {nt nl : Nat} {n8 : Int} {xh : Bool} {eh : List (List D)} {kh : Nat} (h0 : ¬ (n8 < (↑(List.length l) : Int))) : putT_at0 xl l nn b tn dp nt nl n8 xh eh kh (D.tuple []) [some (.row 3 [[D.slice xh eh (some 1), D.int .u8 tn, D.bool dp]]), some (HObj.tok kh (1 : Nat)), some (HObj.tok nl (1 : Nat))] :=
  have bq0 := decide_eq_false h0
  fin_loop (fr 29 3 (putT_ok xl l nn b tn dp nt nl 0) (pth 1 0) (ac bq0 an))


/-! ### function 26 -/
theorem kcl_fn : Try.prog.funcs[(26 : Nat)]? = some (fnAt P 26) := by kernel_rfl
theorem kcl_body : (fnAt P 26).body = some (bodyAt P 26) := by kernel_rfl
theorem kcl_name : ((fnAt P 26).name == "runtime.NumGoroutine") = false := by kernel_rfl
noncomputable def kcl_C (cl : Int → Int) (nmE : Int → Es) (txE : ByteArray → Es) (k : Int) (nn : Bool) (b : Es) (tn : Int) (dp : Bool) (nt : Nat) : Cf := cfg Try.prog (hintOf []) (tCls cl nmE txE k nn b tn dp nt) (fun _ => false) 2 true (fun _ => false)
theorem kcl_ok (cl : Int → Int) (nmE : Int → Es) (txE : ByteArray → Es) (k : Int) (nn : Bool) (b : Es) (tn : Int) (dp : Bool) (nt : Nat) : CfOk (kcl_C cl nmE txE k nn b tn dp nt) := cfg_ok (by kernel_rfl)
noncomputable def kcl_run (cl : Int → Int) (nmE : Int → Es) (txE : ByteArray → Es) (k : Int) (nn : Bool) (b : Es) (tn : Int) (dp : Bool) (nt : Nat) (qcur : Cur) (qk : List It) (qs : St) (qor : GD.Or) := runE (kcl_C cl nmE txE k nn b tn dp nt) (callE (kcl_C cl nmE txE k nn b tn dp nt) 100000 10) 26 100000 qcur qk qs qor []

theorem kcl_in_0 {cl : Int → Int} {nmE : Int → Es} {txE : ByteArray → Es} {k : Int} {nn : Bool} {b : Es} {tn : Int} {dp : Bool} {nt : Nat} (h0 : Ret P T 29 [D.ptr 0 0 0, D.slice true [[D.int .u8 (IntKind.u8.wrap (IntKind.i64.wrap (cl k + (1 : Int))))]] (some 2)] [some (.row 3 [[D.slice nn b (some 1), D.int .u8 tn, D.bool dp]]), some (HObj.tok nt (1 : Nat)), some (HObj.tok (1 : Nat) (1 : Nat))] (D.tuple []) [some (.row 3 [[D.slice (nn || true) (b ++ [[D.int .u8 (xorW IntKind.u8 (IntKind.u8.wrap (IntKind.i64.wrap (cl k + (1 : Int)))) tn)]]) (some 1), D.int .u8 tn, D.bool dp]]), some (HObj.tok (nt + (1 : Nat)) (1 : Nat)), some (HObj.tok (1 : Nat) (1 : Nat))]) (h1 : Ret P T 35 [D.int .i64 k] [] (D.int .i64 (cl k)) []) : Ret P T 26 [D.ptr 0 0 0, D.int .i64 k] [some (.row 3 [[D.slice nn b (some 1), D.int .u8 tn, D.bool dp]]), some (HObj.tok nt (1 : Nat))] (D.tuple []) [some (.row 3 [[D.slice (nn || true) (b ++ [[D.int .u8 (xorW IntKind.u8 (IntKind.u8.wrap (IntKind.i64.wrap (cl k + (1 : Int)))) tn)]]) (some 1), D.int .u8 tn, D.bool dp]]), some (HObj.tok (nt + (1 : Nat)) (1 : Nat))] :=
  fin_call kcl_fn kcl_body kcl_name (fr 26 2 (kcl_ok cl nmE txE k nn b tn dp nt) (pth 0 0) (ac h0 (ac h1 an)))


/-! ### function 27 -/
theorem knu_fn : Try.prog.funcs[(27 : Nat)]? = some (fnAt P 27) := by kernel_rfl
theorem knu_body : (fnAt P 27).body = some (bodyAt P 27) := by kernel_rfl
theorem knu_name : ((fnAt P 27).name == "runtime.NumGoroutine") = false := by kernel_rfl
noncomputable def knu_C (cl : Int → Int) (nmE : Int → Es) (txE : ByteArray → Es) (k : Int) (nn : Bool) (b : Es) (tn : Int) (dp : Bool) (nt : Nat) : Cf := cfg Try.prog (hintOf []) (tCls cl nmE txE k nn b tn dp nt) (fun _ => false) 2 true (fun _ => false)
theorem knu_ok (cl : Int → Int) (nmE : Int → Es) (txE : ByteArray → Es) (k : Int) (nn : Bool) (b : Es) (tn : Int) (dp : Bool) (nt : Nat) : CfOk (knu_C cl nmE txE k nn b tn dp nt) := cfg_ok (by kernel_rfl)
noncomputable def knu_run (cl : Int → Int) (nmE : Int → Es) (txE : ByteArray → Es) (k : Int) (nn : Bool) (b : Es) (tn : Int) (dp : Bool) (nt : Nat) (qcur : Cur) (qk : List It) (qs : St) (qor : GD.Or) := runE (knu_C cl nmE txE k nn b tn dp nt) (callE (knu_C cl nmE txE k nn b tn dp nt) 100000 10) 27 100000 qcur qk qs qor []
noncomputable def knu_l0 : Code := (loopAt Try.prog 27 0).1
noncomputable def knu_k0 : List It := (loopAt Try.prog 27 0).2
/- loop 0: n5:=(56 : Int); xh:=nn; eh:=b; kh:=nt; -/
noncomputable def knu_s0 (cl : Int → Int) (nmE : Int → Es) (txE : ByteArray → Es) (k : Int) (nn : Bool) (b : Es) (tn : Int) (dp : Bool) (nt : Nat) (n5 : Int) (xh : Bool) (eh : List (List D)) (kh : Nat) : St := ⟨envOf 20 [(0, D.ptr 0 0 0), (4, D.int .u64 (IntKind.u64.wrap (↑(BitVec.ofInt IntKind.u64.bits (IntKind.u64.wrap k) ^^^ BitVec.ofInt IntKind.u64.bits (9223372036854775808 : Int)).toNat : Int))), (5, D.int .i64 n5)], [some (.row 3 [[D.slice xh eh (some 1), D.int .u8 tn, D.bool dp]]), some (HObj.tok kh (1 : Nat))]⟩
def knu_at0 (cl : Int → Int) (nmE : Int → Es) (txE : ByteArray → Es) (k : Int) (nn : Bool) (b : Es) (tn : Int) (dp : Bool) (nt : Nat) (n5 : Int) (xh : Bool) (eh : List (List D)) (kh : Nat) (r : D) (H1 : GD.Heap) : Prop := GD.Fin Try.prog (tyOf Try.prog) (fnAt P 27) 2 (.code (.loop knu_l0)) knu_k0 (knu_s0 cl nmE txE k nn b tn dp nt n5 xh eh kh) r H1

theorem knu_in_0 {cl : Int → Int} {nmE : Int → Es} {txE : ByteArray → Es} {k : Int} {nn : Bool} {b : Es} {tn : Int} {dp : Bool} {nt : Nat} {r : D} {H1 : GD.Heap} (g : knu_at0 cl nmE txE k nn b tn dp nt ((56 : Int)) (nn) (b) (nt) r H1) : Ret P T 27 [D.ptr 0 0 0, D.int .i64 k] [some (.row 3 [[D.slice nn b (some 1), D.int .u8 tn, D.bool dp]]), some (HObj.tok nt (1 : Nat))] r H1 :=
  fin_call knu_fn knu_body knu_name (fs (fun _ => false) 27 2 [0, 4, 5] (knu_ok cl nmE txE k nn b tn dp nt) (pth 0 0) an g)

theorem knu_0_0 {cl : Int → Int} {nmE : Int → Es} {txE : ByteArray → Es} {k : Int} {nn : Bool} {b : Es} {tn : Int} {dp : Bool} {nt : Nat} {n5 : Int} {xh : Bool} {eh : List (List D)} {kh : Nat} {r : D} {H1 : GD.Heap} (h0 : n5 ≥ (0 : Int)) (h1 : Ret P T 29 [D.ptr 0 0 0, D.slice true [[D.int .u8 (IntKind.u8.wrap (shrW IntKind.u64 (xorW IntKind.u64 (IntKind.u64.wrap k) (9223372036854775808 : Int)) n5))]] (some 2)] [some (.row 3 [[D.slice xh eh (some 1), D.int .u8 tn, D.bool dp]]), some (HObj.tok kh (1 : Nat)), some (HObj.tok (1 : Nat) (1 : Nat))] (D.tuple []) [some (.row 3 [[D.slice (xh || true) (eh ++ [[D.int .u8 (xorW IntKind.u8 (IntKind.u8.wrap (shrW IntKind.u64 (xorW IntKind.u64 (IntKind.u64.wrap k) (9223372036854775808 : Int)) n5)) tn)]]) (some 1), D.int .u8 tn, D.bool dp]]), some (HObj.tok (kh + (1 : Nat)) (1 : Nat)), some (HObj.tok (1 : Nat) (1 : Nat))]) (h2 : (0 : Int) ≤ n5) (g : knu_at0 cl nmE txE k nn b tn dp nt (IntKind.i64.wrap (n5 - (8 : Int))) (xh || true) (eh ++ [[D.int .u8 (xorW IntKind.u8 (IntKind.u8.wrap (shrW IntKind.u64 (xorW IntKind.u64 (IntKind.u64.wrap k) (9223372036854775808 : Int)) n5)) tn)]]) (kh + (1 : Nat)) r H1) : knu_at0 cl nmE txE k nn b tn dp nt n5 xh eh kh r H1 :=
  have bq0 := decide_eq_true h0
  fin_loop (fs (fun _ => false) 27 2 [0, 4, 5] (knu_ok cl nmE txE k nn b tn dp nt) (pth 1 1) (ac h1 (ac h2 (ac bq0 an))) g)

theorem knu_0_1 {cl : Int → Int} {nmE : Int → Es} {txE : ByteArray → Es} {k : Int} {nn : Bool} {b : Es} {tn : Int} {dp : Bool} {nt : Nat} {n5 : Int} {xh : Bool} {eh : List (List D)} {kh : Nat} (h0 : ¬ (n5 ≥ (0 : Int))) : knu_at0 cl nmE txE k nn b tn dp nt n5 xh eh kh (D.tuple []) [some (.row 3 [[D.slice xh eh (some 1), D.int .u8 tn, D.bool dp]]), some (HObj.tok kh (1 : Nat))] :=
  have bq0 := decide_eq_false h0
  fin_loop (fr 27 2 (knu_ok cl nmE txE k nn b tn dp nt) (pth 1 0) (ac bq0 an))


/-! ### function 28 -/
theorem ktx_fn : Try.prog.funcs[(28 : Nat)]? = some (fnAt P 28) := by kernel_rfl
theorem ktx_body : (fnAt P 28).body = some (bodyAt P 28) := by kernel_rfl
theorem ktx_name : ((fnAt P 28).name == "runtime.NumGoroutine") = false := by kernel_rfl
noncomputable def ktx_C (cl : Int → Int) (nmE : Int → Es) (txE : ByteArray → Es) (s : ByteArray) (nn : Bool) (b : Es) (tn : Int) (dp : Bool) (nt : Nat) : Cf := cfg Try.prog (hintOf []) (tTxt cl nmE txE s nn b tn dp nt) (fun _ => false) 2 true (fun _ => false)
theorem ktx_ok (cl : Int → Int) (nmE : Int → Es) (txE : ByteArray → Es) (s : ByteArray) (nn : Bool) (b : Es) (tn : Int) (dp : Bool) (nt : Nat) : CfOk (ktx_C cl nmE txE s nn b tn dp nt) := cfg_ok (by kernel_rfl)
noncomputable def ktx_run (cl : Int → Int) (nmE : Int → Es) (txE : ByteArray → Es) (s : ByteArray) (nn : Bool) (b : Es) (tn : Int) (dp : Bool) (nt : Nat) (qcur : Cur) (qk : List It) (qs : St) (qor : GD.Or) := runE (ktx_C cl nmE txE s nn b tn dp nt) (callE (ktx_C cl nmE txE s nn b tn dp nt) 100000 10) 28 100000 qcur qk qs qor []
noncomputable def ktx_l0 : Code := (loopAt Try.prog 28 0).1
noncomputable def ktx_k0 : List It := (loopAt Try.prog 28 0).2
/- loop 0: n7:=(0 : Int); xh:=nn; eh:=b; kh:=nt; -/
noncomputable def ktx_s0 (cl : Int → Int) (nmE : Int → Es) (txE : ByteArray → Es) (s : ByteArray) (nn : Bool) (b : Es) (tn : Int) (dp : Bool) (nt : Nat) (n7 : Int) (xh : Bool) (eh : List (List D)) (kh : Nat) : St := ⟨envOf 27 [(0, D.ptr 0 0 0), (1, D.str s), (6, D.int .i64 (↑s.size : Int)), (7, D.int .i64 n7)], [some (.row 3 [[D.slice xh eh (some 1), D.int .u8 tn, D.bool dp]]), some (HObj.tok kh (1 : Nat))]⟩
def ktx_at0 (cl : Int → Int) (nmE : Int → Es) (txE : ByteArray → Es) (s : ByteArray) (nn : Bool) (b : Es) (tn : Int) (dp : Bool) (nt : Nat) (n7 : Int) (xh : Bool) (eh : List (List D)) (kh : Nat) (r : D) (H1 : GD.Heap) : Prop := GD.Fin Try.prog (tyOf Try.prog) (fnAt P 28) 2 (.code (.loop ktx_l0)) ktx_k0 (ktx_s0 cl nmE txE s nn b tn dp nt n7 xh eh kh) r H1

theorem ktx_in_0 {cl : Int → Int} {nmE : Int → Es} {txE : ByteArray → Es} {s : ByteArray} {nn : Bool} {b : Es} {tn : Int} {dp : Bool} {nt : Nat} {r : D} {H1 : GD.Heap} (g : ktx_at0 cl nmE txE s nn b tn dp nt ((0 : Int)) (nn) (b) (nt) r H1) : Ret P T 28 [D.ptr 0 0 0, D.str s] [some (.row 3 [[D.slice nn b (some 1), D.int .u8 tn, D.bool dp]]), some (HObj.tok nt (1 : Nat))] r H1 :=
  fin_call ktx_fn ktx_body ktx_name (fs (fun _ => false) 28 2 [0, 1, 6, 7] (ktx_ok cl nmE txE s nn b tn dp nt) (pth 0 0) an g)

theorem ktx_0_0 {cl : Int → Int} {nmE : Int → Es} {txE : ByteArray → Es} {s : ByteArray} {nn : Bool} {b : Es} {tn : Int} {dp : Bool} {nt : Nat} {n7 : Int} {xh : Bool} {eh : List (List D)} {kh : Nat} {r : D} {H1 : GD.Heap} (h0 : n7 < (↑s.size : Int)) (h1 : (↑(s.data.getD n7.toNat (0 : UInt8)).toNat : Int) = (0 : Int)) (h2 : Ret P T 29 [D.ptr 0 0 0, D.slice true [[D.int .u8 (255 : Int)]] (some 2)] [some (.row 3 [[D.slice (xh || true) (eh ++ [[D.int .u8 (xorW IntKind.u8 (↑(s.data.getD n7.toNat (0 : UInt8)).toNat : Int) tn)]]) (some 1), D.int .u8 tn, D.bool dp]]), some (HObj.tok (kh + (1 : Nat)) (1 : Nat)), some (HObj.tok (1 : Nat) (1 : Nat))] (D.tuple []) [some (.row 3 [[D.slice (xh || true || true) (eh ++ [[D.int .u8 (xorW IntKind.u8 (↑(s.data.getD n7.toNat (0 : UInt8)).toNat : Int) tn)]] ++ [[D.int .u8 (xorW IntKind.u8 (255 : Int) tn)]]) (some 1), D.int .u8 tn, D.bool dp]]), some (HObj.tok (kh + (1 : Nat) + (1 : Nat)) (1 : Nat)), some (HObj.tok (1 : Nat) (1 : Nat))]) (h3 : (0 : Int) ≤ n7 ∧ n7 < (↑s.size : Int)) (h4 : Ret P T 29 [D.ptr 0 0 0, D.slice true [[D.int .u8 (↑(s.data.getD n7.toNat (0 : UInt8)).toNat : Int)]] (some 2)] [some (.row 3 [[D.slice xh eh (some 1), D.int .u8 tn, D.bool dp]]), some (HObj.tok kh (1 : Nat)), some (HObj.tok (1 : Nat) (1 : Nat))] (D.tuple []) [some (.row 3 [[D.slice (xh || true) (eh ++ [[D.int .u8 (xorW IntKind.u8 (↑(s.data.getD n7.toNat (0 : UInt8)).toNat : Int) tn)]]) (some 1), D.int .u8 tn, D.bool dp]]), some (HObj.tok (kh + (1 : Nat)) (1 : Nat)), some (HObj.tok (1 : Nat) (1 : Nat))]) (g : ktx_at0 cl nmE txE s nn b tn dp nt (IntKind.i64.wrap (n7 + (1 : Int))) (xh || true || true) (eh ++ [[D.int .u8 (xorW IntKind.u8 (↑(s.data.getD n7.toNat (0 : UInt8)).toNat : Int) tn)]] ++ [[D.int .u8 (xorW IntKind.u8 (255 : Int) tn)]]) (kh + (1 : Nat) + (1 : Nat)) r H1) : ktx_at0 cl nmE txE s nn b tn dp nt n7 xh eh kh r H1 :=
  have bq0 := decide_eq_true h0
  have bq1 := beq_iff_eq.2 h1
  fin_loop (fs (fun _ => false) 28 2 [0, 1, 6, 7] (ktx_ok cl nmE txE s nn b tn dp nt) (pth 2 3) (ac h2 (ac bq1 (ac h3 (ac h4 (ac h3 (ac bq0 an)))))) g)

theorem ktx_0_1 {cl : Int → Int} {nmE : Int → Es} {txE : ByteArray → Es} {s : ByteArray} {nn : Bool} {b : Es} {tn : Int} {dp : Bool} {nt : Nat} {n7 : Int} {xh : Bool} {eh : List (List D)} {kh : Nat} {r : D} {H1 : GD.Heap} (h0 : n7 < (↑s.size : Int)) (h1 : (↑(s.data.getD n7.toNat (0 : UInt8)).toNat : Int) ≠ (0 : Int)) (h2 : (0 : Int) ≤ n7 ∧ n7 < (↑s.size : Int)) (h3 : Ret P T 29 [D.ptr 0 0 0, D.slice true [[D.int .u8 (↑(s.data.getD n7.toNat (0 : UInt8)).toNat : Int)]] (some 2)] [some (.row 3 [[D.slice xh eh (some 1), D.int .u8 tn, D.bool dp]]), some (HObj.tok kh (1 : Nat)), some (HObj.tok (1 : Nat) (1 : Nat))] (D.tuple []) [some (.row 3 [[D.slice (xh || true) (eh ++ [[D.int .u8 (xorW IntKind.u8 (↑(s.data.getD n7.toNat (0 : UInt8)).toNat : Int) tn)]]) (some 1), D.int .u8 tn, D.bool dp]]), some (HObj.tok (kh + (1 : Nat)) (1 : Nat)), some (HObj.tok (1 : Nat) (1 : Nat))]) (g : ktx_at0 cl nmE txE s nn b tn dp nt (IntKind.i64.wrap (n7 + (1 : Int))) (xh || true) (eh ++ [[D.int .u8 (xorW IntKind.u8 (↑(s.data.getD n7.toNat (0 : UInt8)).toNat : Int) tn)]]) (kh + (1 : Nat)) r H1) : ktx_at0 cl nmE txE s nn b tn dp nt n7 xh eh kh r H1 :=
  have bq0 := decide_eq_true h0
  have bq1 := beq_eq_false_iff_ne.2 h1
  fin_loop (fs (fun _ => false) 28 2 [0, 1, 6, 7] (ktx_ok cl nmE txE s nn b tn dp nt) (pth 2 1) (ac bq1 (ac h2 (ac h3 (ac h2 (ac bq0 an))))) g)

theorem ktx_0_2 {cl : Int → Int} {nmE : Int → Es} {txE : ByteArray → Es} {s : ByteArray} {nn : Bool} {b : Es} {tn : Int} {dp : Bool} {nt : Nat} {n7 : Int} {xh : Bool} {eh : List (List D)} {kh : Nat} (h0 : ¬ (n7 < (↑s.size : Int))) (h1 : Ret P T 29 [D.ptr 0 0 0, D.slice true [[D.int .u8 (0 : Int)], [D.int .u8 (0 : Int)]] (some 2)] [some (.row 3 [[D.slice xh eh (some 1), D.int .u8 tn, D.bool dp]]), some (HObj.tok kh (1 : Nat)), some (HObj.tok (2 : Nat) (1 : Nat))] (D.tuple []) [some (.row 3 [[D.slice (xh || true) (eh ++ [[D.int .u8 (xorW IntKind.u8 (0 : Int) tn)], [D.int .u8 (xorW IntKind.u8 (0 : Int) tn)]]) (some 1), D.int .u8 tn, D.bool dp]]), some (HObj.tok (kh + (2 : Nat)) (1 : Nat)), some (HObj.tok (2 : Nat) (1 : Nat))]) : ktx_at0 cl nmE txE s nn b tn dp nt n7 xh eh kh (D.tuple []) [some (.row 3 [[D.slice (xh || true) (eh ++ [[D.int .u8 (xorW IntKind.u8 (0 : Int) tn)], [D.int .u8 (xorW IntKind.u8 (0 : Int) tn)]]) (some 1), D.int .u8 tn, D.bool dp]]), some (HObj.tok (kh + (2 : Nat)) (1 : Nat))] :=
  have bq0 := decide_eq_false h0
  fin_loop (fr 28 2 (ktx_ok cl nmE txE s nn b tn dp nt) (pth 1 0) (ac h1 (ac bq0 an)))



end Go.Proofs.Ytlccdfilbiipmaa.ordk
