/- What may stand in a document: small functions. -/
import Derived.Test.YtlccdfilbiipmaaDoorPwU
namespace Go.Proofs.YtlccdfilbiipmaaDoor.ordk
open Go YtlccdfilbiipmaaDoor.GD
set_option linter.unusedVariables false
set_option linter.unusedSimpArgs false
set_option maxRecDepth 100000

def aNm (u8 : ByteArray → Bool) (s : ByteArray) : List D × GD.Heap := ([.str s], [])
def tNm (u8 : ByteArray → Bool) (s : ByteArray) : Tab := fun k args H =>
  match k with
  | 31 => match args, H with | [.str s], [] => some (.bool (u8 s), []) | _, _ => none
  | _ => none
def aBr (k n : Int) (s : ByteArray) (xb : Bool) (eb : Es) (xf : Bool) (ef : Es) (xl : Bool) (el : Es) (bn bs bb bf bl : Bool) : List D × GD.Heap :=
  ([.agg [.int .i64 k, .int .i64 n, .str s, .slice xb eb none, .slice xf ef none, .slice xl el none], .bool bn, .bool bs, .bool bb, .bool bf, .bool bl], [])
def tBr (k n : Int) (s : ByteArray) (xb : Bool) (eb : Es) (xf : Bool) (ef : Es) (xl : Bool) (el : Es) (bn bs bb bf bl : Bool) : Tab := t0

/-! ### function 41 -/
theorem nm_fn : Tryd.prog.funcs[(21 : Nat)]? = some (fnAt P 21) := by kernel_rfl
theorem nm_body : (fnAt P 21).body = some (bodyAt P 21) := by kernel_rfl
theorem nm_name : ((fnAt P 21).name == "runtime.NumGoroutine") = false := by kernel_rfl
noncomputable def nm_C (u8 : ByteArray → Bool) (s : ByteArray) : Cf := cfg Tryd.prog (hintOf []) (tNm u8 s) (fun _ => false) 2 true (fun _ => false)
theorem nm_ok (u8 : ByteArray → Bool) (s : ByteArray) : CfOk (nm_C u8 s) := cfg_ok (by kernel_rfl)
noncomputable def nm_run (u8 : ByteArray → Bool) (s : ByteArray) (qcur : Cur) (qk : List It) (qs : St) (qor : GD.Or) := runE (nm_C u8 s) (callE (nm_C u8 s) 100000 10) 21 100000 qcur qk qs qor []
noncomputable def nm_l0 : Code := (loopAt Tryd.prog 21 0).1
noncomputable def nm_k0 : List It := (loopAt Tryd.prog 21 0).2
/- loop 0: n3:=(0 : Int); -/
noncomputable def nm_s0 (u8 : ByteArray → Bool) (s : ByteArray) (n3 : Int) : St := ⟨envOf 21 [(0, D.str s), (3, D.int .i64 n3)], []⟩
def nm_at0 (u8 : ByteArray → Bool) (s : ByteArray) (n3 : Int) (r : D) (H1 : GD.Heap) : Prop := GD.Fin Tryd.prog (tyOf Tryd.prog) (fnAt P 21) 0 (.code (.loop nm_l0)) nm_k0 (nm_s0 u8 s n3) r H1

theorem nm_in_0 {u8 : ByteArray → Bool} {s : ByteArray} {r : D} {H1 : GD.Heap} (g : nm_at0 u8 s ((0 : Int)) r H1) : Ret P T 21 [D.str s] [] r H1 :=
  fin_call nm_fn nm_body nm_name (fs (fun _ => false) 21 0 [0, 3] (nm_ok u8 s) (pth 0 0) an g)

theorem nm_0_0 {u8 : ByteArray → Bool} {s : ByteArray} {n3 : Int} (h0 : n3 < (↑s.size : Int)) (h1 : (↑(s.data.getD n3.toNat (0 : UInt8)).toNat : Int) = (0 : Int)) (h2 : (0 : Int) ≤ n3 ∧ n3 < (↑s.size : Int)) : nm_at0 u8 s n3 (D.bool false) [] :=
  have bq0 := decide_eq_true h0
  have bq1 := beq_iff_eq.2 h1
  fin_loop (fr 21 0 (nm_ok u8 s) (pth 2 3) (ac bq1 (ac h2 (ac bq0 an))))

theorem nm_0_1 {u8 : ByteArray → Bool} {s : ByteArray} {n3 : Int} {r : D} {H1 : GD.Heap} (h0 : n3 < (↑s.size : Int)) (h1 : (↑(s.data.getD n3.toNat (0 : UInt8)).toNat : Int) ≠ (0 : Int)) (h2 : (0 : Int) ≤ n3 ∧ n3 < (↑s.size : Int)) (g : nm_at0 u8 s (IntKind.i64.wrap (n3 + (1 : Int))) r H1) : nm_at0 u8 s n3 r H1 :=
  have bq0 := decide_eq_true h0
  have bq1 := beq_eq_false_iff_ne.2 h1
  fin_loop (fs (fun _ => false) 21 0 [0, 3] (nm_ok u8 s) (pth 2 1) (ac bq1 (ac h2 (ac bq0 an))) g)

theorem nm_0_2 {u8 : ByteArray → Bool} {s : ByteArray} {n3 : Int} (h0 : ¬ (n3 < (↑s.size : Int))) (h1 : (↑s.size : Int) ≤ (120 : Int)) (h2 : Ret P T 31 [D.str s] [] (D.bool (u8 s)) []) : nm_at0 u8 s n3 (D.bool (u8 s)) [] :=
  have bq0 := decide_eq_false h0
  have bq1 := decide_eq_true h1
  fin_loop (fr 21 0 (nm_ok u8 s) (pth 4 14) (ac bq1 (ac h2 (ac (ktt bq1) (ac (ktt bq1) (ac bq0 an))))))

theorem nm_0_3 {u8 : ByteArray → Bool} {s : ByteArray} {n3 : Int} (h0 : ¬ (n3 < (↑s.size : Int))) (h1 : ¬ ((↑s.size : Int) ≤ (120 : Int))) : nm_at0 u8 s n3 (D.bool false) [] :=
  have bq0 := decide_eq_false h0
  have bq1 := decide_eq_false h1
  fin_loop (fr 21 0 (nm_ok u8 s) (pth 4 0) (ac bq1 (ac (kft bq1) (ac (kft bq1) (ac bq0 an)))))



/-! ### function 37 -/
theorem num_fn : Tryd.prog.funcs[(54 : Nat)]? = some (fnAt P 54) := by kernel_rfl
theorem num_body : (fnAt P 54).body = some (bodyAt P 54) := by kernel_rfl
theorem num_name : ((fnAt P 54).name == "runtime.NumGoroutine") = false := by kernel_rfl
noncomputable def num_C (x y : Int) : Cf := cfg Tryd.prog (hintOf []) (t2 x y) (fun _ => false) 2 true (fun _ => false)
theorem num_ok (x y : Int) : CfOk (num_C x y) := cfg_ok (by kernel_rfl)
noncomputable def num_run (x y : Int) (qcur : Cur) (qk : List It) (qs : St) (qor : GD.Or) := runE (num_C x y) (callE (num_C x y) 100000 10) 54 100000 qcur qk qs qor []
noncomputable def num_l0 : Code := (loopAt Tryd.prog 54 0).1
noncomputable def num_k0 : List It := (loopAt Tryd.prog 54 0).2
/- loop 0: x5:=false; e5:=[]; n6:=(0 : Int); kh:=(0 : Nat); -/
noncomputable def num_s0 (x y : Int) (x5 : Bool) (e5 : List (List D)) (n6 : Int) (kh : Nat) : St := ⟨envOf 23 [(0, D.int .i64 x), (1, D.int .i64 y), (5, D.slice x5 e5 (some 0)), (6, D.int .i64 n6)], [some (HObj.tok kh (1 : Nat))]⟩
def num_at0 (x y : Int) (x5 : Bool) (e5 : List (List D)) (n6 : Int) (kh : Nat) (r : D) (H1 : GD.Heap) : Prop := GD.Fin Tryd.prog (tyOf Tryd.prog) (fnAt P 54) 0 (.code (.loop num_l0)) num_k0 (num_s0 x y x5 e5 n6 kh) r H1

theorem num_in_0 {x y : Int} {r : D} {H1 : GD.Heap} (g : num_at0 x y (false) ([]) ((0 : Int)) ((0 : Nat)) r H1) : Ret P T 54 [D.int .i64 x, D.int .i64 y] [] r H1 :=
  fin_call num_fn num_body num_name (fst (fun _ => false) 54 0 [0, 1, 5, 6] (num_ok x y) (pth 0 0) an ((num_s0 x y (false) ([]) ((0 : Int)) ((0 : Nat))).env.set 5 (.slice false [] none)) ((num_s0 x y (false) ([]) ((0 : Int)) ((0 : Nat))).H.take 0) (fin_toks [(5, 1)] (by kernel_rfl) (by kernel_rfl) g))

theorem num_0_0 {x y : Int} {x5 : Bool} {e5 : List (List D)} {n6 : Int} {kh : Nat} {r : D} {H1 : GD.Heap} (h0 : n6 < y) (h1 : e5.length = kh ∧ (e5.length + (1 : Nat)) * (1 : Nat) ≤ (140737488355328 : Nat) ∧ true = true) (h2 : (0 : Int) ≤ IntKind.u64.wrap (IntKind.i64.wrap ((8 : Int) * n6))) (g : num_at0 x y (x5 || true) (e5 ++ [[D.int .u8 (IntKind.u8.wrap (shrW IntKind.u64 (IntKind.u64.wrap x) (IntKind.u64.wrap (IntKind.i64.wrap ((8 : Int) * n6)))))]]) (IntKind.i64.wrap (n6 + (1 : Int))) (kh + (1 : Nat)) r H1) : num_at0 x y x5 e5 n6 kh r H1 :=
  have bq0 := decide_eq_true h0
  fin_loop (fs (fun _ => false) 54 1 [0, 1, 5, 6] (num_ok x y) (pth 1 1) (ac h1 (ac h2 (ac bq0 an))) g)

theorem num_0_1 {x y : Int} {x5 : Bool} {e5 : List (List D)} {n6 : Int} {kh : Nat} (h0 : ¬ (n6 < y)) : num_at0 x y x5 e5 n6 kh (D.slice x5 e5 (some 0)) [some (HObj.tok kh (1 : Nat))] :=
  have bq0 := decide_eq_false h0
  fin_loop (fr 54 1 (num_ok x y) (pth 1 0) (ac bq0 an))



/-! ### function 40 -/
theorem dg_fn : Tryd.prog.funcs[(56 : Nat)]? = some (fnAt P 56) := by kernel_rfl
theorem dg_body : (fnAt P 56).body = some (bodyAt P 56) := by kernel_rfl
theorem dg_name : ((fnAt P 56).name == "runtime.NumGoroutine") = false := by kernel_rfl
noncomputable def dg_C (k : Int) : Cf := cfg Tryd.prog (hintOf []) (t1 k) (fun _ => false) 2 true (fun _ => false)
theorem dg_ok (k : Int) : CfOk (dg_C k) := cfg_ok (by kernel_rfl)
noncomputable def dg_run (k : Int) (qcur : Cur) (qk : List It) (qs : St) (qor : GD.Or) := runE (dg_C k) (callE (dg_C k) 100000 10) 56 100000 qcur qk qs qor []
noncomputable def dg_l0 : Code := (loopAt Tryd.prog 56 0).1
noncomputable def dg_k0 : List It := (loopAt Tryd.prog 56 0).2
/- loop 0: n0:=k; s3:=bE; -/
noncomputable def dg_s0 (k n0 : Int) (s3 : ByteArray) : St := ⟨envOf 17 [(0, D.int .i64 n0), (3, D.str s3)], []⟩
def dg_at0 (k n0 : Int) (s3 : ByteArray) (r : D) (H1 : GD.Heap) : Prop := GD.Fin Tryd.prog (tyOf Tryd.prog) (fnAt P 56) 0 (.code (.loop dg_l0)) dg_k0 (dg_s0 k n0 s3) r H1

theorem dg_in_0 {k : Int} {r : D} {H1 : GD.Heap} (g : dg_at0 k (k) (bE) r H1) : Ret P T 56 [D.int .i64 k] [] r H1 :=
  fin_call dg_fn dg_body dg_name (fs (fun _ => false) 56 0 [0, 3] (dg_ok k) (pth 0 0) an g)

theorem dg_0_0 {k n0 : Int} {s3 : ByteArray} (h0 : IntKind.i64.wrap (n0.tdiv (10 : Int)) = (0 : Int)) (h1 : (↑((1 : Nat) + s3.size) : Int) ≤ (9223372036854775807 : Int)) (h2 : [[D.int .u8 (IntKind.u8.wrap ((48 : Int) + IntKind.u8.wrap (n0.tmod (10 : Int))))]].all isByteC = true) : dg_at0 k n0 s3 (D.str (bytesOf [[D.int .u8 (IntKind.u8.wrap ((48 : Int) + IntKind.u8.wrap (n0.tmod (10 : Int))))]] ++ s3)) [] :=
  have bq0 := beq_iff_eq.2 h0
  fin_loop (fr 56 0 (dg_ok k) (pth 1 1) (ac bq0 (ac (show (10 : Int) ≠ (0 : Int) by decide) (ac h1 (ac h2 (ac (show (10 : Int) ≠ (0 : Int) by decide) an))))))

theorem dg_0_1 {k n0 : Int} {s3 : ByteArray} {r : D} {H1 : GD.Heap} (h0 : IntKind.i64.wrap (n0.tdiv (10 : Int)) ≠ (0 : Int)) (h1 : (↑((1 : Nat) + s3.size) : Int) ≤ (9223372036854775807 : Int)) (h2 : [[D.int .u8 (IntKind.u8.wrap ((48 : Int) + IntKind.u8.wrap (n0.tmod (10 : Int))))]].all isByteC = true) (g : dg_at0 k (IntKind.i64.wrap (n0.tdiv (10 : Int))) (bytesOf [[D.int .u8 (IntKind.u8.wrap ((48 : Int) + IntKind.u8.wrap (n0.tmod (10 : Int))))]] ++ s3) r H1) : dg_at0 k n0 s3 r H1 :=
  have bq0 := beq_eq_false_iff_ne.2 h0
  fin_loop (fs (fun _ => false) 56 0 [0, 3] (dg_ok k) (pth 1 0) (ac bq0 (ac (show (10 : Int) ≠ (0 : Int) by decide) (ac h1 (ac h2 (ac (show (10 : Int) ≠ (0 : Int) by decide) an))))) g)



/-! ### function 42 -/
theorem cod_fn : Tryd.prog.funcs[(61 : Nat)]? = some (fnAt P 61) := by kernel_rfl
theorem cod_body : (fnAt P 61).body = some (bodyAt P 61) := by kernel_rfl
theorem cod_name : ((fnAt P 61).name == "runtime.NumGoroutine") = false := by kernel_rfl
noncomputable def cod_C (k : Int) : Cf := cfg Tryd.prog (hintOf []) (t1 k) (fun _ => false) 2 true (fun _ => false)
theorem cod_ok (k : Int) : CfOk (cod_C k) := cfg_ok (by kernel_rfl)
noncomputable def cod_run (k : Int) (qcur : Cur) (qk : List It) (qs : St) (qor : GD.Or) := runE (cod_C k) (callE (cod_C k) 100000 10) 61 100000 qcur qk qs qor []

theorem cod_in_0 {k : Int} (h0 : k = (1 : Int)) : Ret P T 61 [D.int .i64 k] [] (D.int .u8 (255 : Int)) [] :=
  have bq0 := beq_iff_eq.2 h0
  fin_call cod_fn cod_body cod_name (fr 61 0 (cod_ok k) (pth 1 1) (ac bq0 an))

theorem cod_in_1 {k : Int} (h0 : k ≠ (1 : Int)) (h1 : k = (2 : Int)) : Ret P T 61 [D.int .i64 k] [] (D.int .u8 (10 : Int)) [] :=
  have bq0 := beq_eq_false_iff_ne.2 h0
  have bq1 := beq_iff_eq.2 h1
  fin_call cod_fn cod_body cod_name (fr 61 0 (cod_ok k) (pth 2 2) (ac bq1 (ac bq0 an)))

theorem cod_in_2 {k : Int} (h0 : k ≠ (1 : Int)) (h1 : k ≠ (2 : Int)) (h2 : k = (3 : Int)) : Ret P T 61 [D.int .i64 k] [] (D.int .u8 (16 : Int)) [] :=
  have bq0 := beq_eq_false_iff_ne.2 h0
  have bq1 := beq_eq_false_iff_ne.2 h1
  have bq2 := beq_iff_eq.2 h2
  fin_call cod_fn cod_body cod_name (fr 61 0 (cod_ok k) (pth 3 4) (ac bq2 (ac bq1 (ac bq0 an))))

theorem cod_in_3 {k : Int} (h0 : k ≠ (1 : Int)) (h1 : k ≠ (2 : Int)) (h2 : k ≠ (3 : Int)) (h3 : k = (4 : Int)) : Ret P T 61 [D.int .i64 k] [] (D.int .u8 (18 : Int)) [] :=
  have bq0 := beq_eq_false_iff_ne.2 h0
  have bq1 := beq_eq_false_iff_ne.2 h1
  have bq2 := beq_eq_false_iff_ne.2 h2
  have bq3 := beq_iff_eq.2 h3
  fin_call cod_fn cod_body cod_name (fr 61 0 (cod_ok k) (pth 4 8) (ac bq3 (ac bq2 (ac bq1 (ac bq0 an)))))

theorem cod_in_4 {k : Int} (h0 : k ≠ (1 : Int)) (h1 : k ≠ (2 : Int)) (h2 : k ≠ (3 : Int)) (h3 : k ≠ (4 : Int)) (h4 : k = (5 : Int)) : Ret P T 61 [D.int .i64 k] [] (D.int .u8 (2 : Int)) [] :=
  have bq0 := beq_eq_false_iff_ne.2 h0
  have bq1 := beq_eq_false_iff_ne.2 h1
  have bq2 := beq_eq_false_iff_ne.2 h2
  have bq3 := beq_eq_false_iff_ne.2 h3
  have bq4 := beq_iff_eq.2 h4
  fin_call cod_fn cod_body cod_name (fr 61 0 (cod_ok k) (pth 5 16) (ac bq4 (ac bq3 (ac bq2 (ac bq1 (ac bq0 an))))))

theorem cod_in_5 {k : Int} (h0 : k ≠ (1 : Int)) (h1 : k ≠ (2 : Int)) (h2 : k ≠ (3 : Int)) (h3 : k ≠ (4 : Int)) (h4 : k ≠ (5 : Int)) (h5 : k = (6 : Int)) : Ret P T 61 [D.int .i64 k] [] (D.int .u8 (3 : Int)) [] :=
  have bq0 := beq_eq_false_iff_ne.2 h0
  have bq1 := beq_eq_false_iff_ne.2 h1
  have bq2 := beq_eq_false_iff_ne.2 h2
  have bq3 := beq_eq_false_iff_ne.2 h3
  have bq4 := beq_eq_false_iff_ne.2 h4
  have bq5 := beq_iff_eq.2 h5
  fin_call cod_fn cod_body cod_name (fr 61 0 (cod_ok k) (pth 6 32) (ac bq5 (ac bq4 (ac bq3 (ac bq2 (ac bq1 (ac bq0 an)))))))

theorem cod_in_6 {k : Int} (h0 : k ≠ (1 : Int)) (h1 : k ≠ (2 : Int)) (h2 : k ≠ (3 : Int)) (h3 : k ≠ (4 : Int)) (h4 : k ≠ (5 : Int)) (h5 : k ≠ (6 : Int)) (h6 : k = (7 : Int)) : Ret P T 61 [D.int .i64 k] [] (D.int .u8 (4 : Int)) [] :=
  have bq0 := beq_eq_false_iff_ne.2 h0
  have bq1 := beq_eq_false_iff_ne.2 h1
  have bq2 := beq_eq_false_iff_ne.2 h2
  have bq3 := beq_eq_false_iff_ne.2 h3
  have bq4 := beq_eq_false_iff_ne.2 h4
  have bq5 := beq_eq_false_iff_ne.2 h5
  have bq6 := beq_iff_eq.2 h6
  fin_call cod_fn cod_body cod_name (fr 61 0 (cod_ok k) (pth 7 64) (ac bq6 (ac bq5 (ac bq4 (ac bq3 (ac bq2 (ac bq1 (ac bq0 an))))))))

theorem cod_in_7 {k : Int} (h0 : k ≠ (1 : Int)) (h1 : k ≠ (2 : Int)) (h2 : k ≠ (3 : Int)) (h3 : k ≠ (4 : Int)) (h4 : k ≠ (5 : Int)) (h5 : k ≠ (6 : Int)) (h6 : k ≠ (7 : Int)) (h7 : k = (8 : Int)) : Ret P T 61 [D.int .i64 k] [] (D.int .u8 (5 : Int)) [] :=
  have bq0 := beq_eq_false_iff_ne.2 h0
  have bq1 := beq_eq_false_iff_ne.2 h1
  have bq2 := beq_eq_false_iff_ne.2 h2
  have bq3 := beq_eq_false_iff_ne.2 h3
  have bq4 := beq_eq_false_iff_ne.2 h4
  have bq5 := beq_eq_false_iff_ne.2 h5
  have bq6 := beq_eq_false_iff_ne.2 h6
  have bq7 := beq_iff_eq.2 h7
  fin_call cod_fn cod_body cod_name (fr 61 0 (cod_ok k) (pth 8 128) (ac bq7 (ac bq6 (ac bq5 (ac bq4 (ac bq3 (ac bq2 (ac bq1 (ac bq0 an)))))))))

theorem cod_in_8 {k : Int} (h0 : k ≠ (1 : Int)) (h1 : k ≠ (2 : Int)) (h2 : k ≠ (3 : Int)) (h3 : k ≠ (4 : Int)) (h4 : k ≠ (5 : Int)) (h5 : k ≠ (6 : Int)) (h6 : k ≠ (7 : Int)) (h7 : k ≠ (8 : Int)) (h8 : k = (9 : Int)) : Ret P T 61 [D.int .i64 k] [] (D.int .u8 (7 : Int)) [] :=
  have bq0 := beq_eq_false_iff_ne.2 h0
  have bq1 := beq_eq_false_iff_ne.2 h1
  have bq2 := beq_eq_false_iff_ne.2 h2
  have bq3 := beq_eq_false_iff_ne.2 h3
  have bq4 := beq_eq_false_iff_ne.2 h4
  have bq5 := beq_eq_false_iff_ne.2 h5
  have bq6 := beq_eq_false_iff_ne.2 h6
  have bq7 := beq_eq_false_iff_ne.2 h7
  have bq8 := beq_iff_eq.2 h8
  fin_call cod_fn cod_body cod_name (fr 61 0 (cod_ok k) (pth 9 256) (ac bq8 (ac bq7 (ac bq6 (ac bq5 (ac bq4 (ac bq3 (ac bq2 (ac bq1 (ac bq0 an))))))))))

theorem cod_in_9 {k : Int} (h0 : k ≠ (1 : Int)) (h1 : k ≠ (2 : Int)) (h2 : k ≠ (3 : Int)) (h3 : k ≠ (4 : Int)) (h4 : k ≠ (5 : Int)) (h5 : k ≠ (6 : Int)) (h6 : k ≠ (7 : Int)) (h7 : k ≠ (8 : Int)) (h8 : k ≠ (9 : Int)) (h9 : k = (10 : Int)) : Ret P T 61 [D.int .i64 k] [] (D.int .u8 (8 : Int)) [] :=
  have bq0 := beq_eq_false_iff_ne.2 h0
  have bq1 := beq_eq_false_iff_ne.2 h1
  have bq2 := beq_eq_false_iff_ne.2 h2
  have bq3 := beq_eq_false_iff_ne.2 h3
  have bq4 := beq_eq_false_iff_ne.2 h4
  have bq5 := beq_eq_false_iff_ne.2 h5
  have bq6 := beq_eq_false_iff_ne.2 h6
  have bq7 := beq_eq_false_iff_ne.2 h7
  have bq8 := beq_eq_false_iff_ne.2 h8
  have bq9 := beq_iff_eq.2 h9
  fin_call cod_fn cod_body cod_name (fr 61 0 (cod_ok k) (pth 10 512) (ac bq9 (ac bq8 (ac bq7 (ac bq6 (ac bq5 (ac bq4 (ac bq3 (ac bq2 (ac bq1 (ac bq0 an)))))))))))

theorem cod_in_10 {k : Int} (h0 : k ≠ (1 : Int)) (h1 : k ≠ (2 : Int)) (h2 : k ≠ (3 : Int)) (h3 : k ≠ (4 : Int)) (h4 : k ≠ (5 : Int)) (h5 : k ≠ (6 : Int)) (h6 : k ≠ (7 : Int)) (h7 : k ≠ (8 : Int)) (h8 : k ≠ (9 : Int)) (h9 : k ≠ (10 : Int)) (h10 : k = (11 : Int)) : Ret P T 61 [D.int .i64 k] [] (D.int .u8 (9 : Int)) [] :=
  have bq0 := beq_eq_false_iff_ne.2 h0
  have bq1 := beq_eq_false_iff_ne.2 h1
  have bq2 := beq_eq_false_iff_ne.2 h2
  have bq3 := beq_eq_false_iff_ne.2 h3
  have bq4 := beq_eq_false_iff_ne.2 h4
  have bq5 := beq_eq_false_iff_ne.2 h5
  have bq6 := beq_eq_false_iff_ne.2 h6
  have bq7 := beq_eq_false_iff_ne.2 h7
  have bq8 := beq_eq_false_iff_ne.2 h8
  have bq9 := beq_eq_false_iff_ne.2 h9
  have bq10 := beq_iff_eq.2 h10
  fin_call cod_fn cod_body cod_name (fr 61 0 (cod_ok k) (pth 11 1024) (ac bq10 (ac bq9 (ac bq8 (ac bq7 (ac bq6 (ac bq5 (ac bq4 (ac bq3 (ac bq2 (ac bq1 (ac bq0 an))))))))))))

theorem cod_in_11 {k : Int} (h0 : k ≠ (1 : Int)) (h1 : k ≠ (2 : Int)) (h2 : k ≠ (3 : Int)) (h3 : k ≠ (4 : Int)) (h4 : k ≠ (5 : Int)) (h5 : k ≠ (6 : Int)) (h6 : k ≠ (7 : Int)) (h7 : k ≠ (8 : Int)) (h8 : k ≠ (9 : Int)) (h9 : k ≠ (10 : Int)) (h10 : k ≠ (11 : Int)) (h11 : k = (12 : Int)) : Ret P T 61 [D.int .i64 k] [] (D.int .u8 (127 : Int)) [] :=
  have bq0 := beq_eq_false_iff_ne.2 h0
  have bq1 := beq_eq_false_iff_ne.2 h1
  have bq2 := beq_eq_false_iff_ne.2 h2
  have bq3 := beq_eq_false_iff_ne.2 h3
  have bq4 := beq_eq_false_iff_ne.2 h4
  have bq5 := beq_eq_false_iff_ne.2 h5
  have bq6 := beq_eq_false_iff_ne.2 h6
  have bq7 := beq_eq_false_iff_ne.2 h7
  have bq8 := beq_eq_false_iff_ne.2 h8
  have bq9 := beq_eq_false_iff_ne.2 h9
  have bq10 := beq_eq_false_iff_ne.2 h10
  have bq11 := beq_iff_eq.2 h11
  fin_call cod_fn cod_body cod_name (fr 61 0 (cod_ok k) (pth 12 2048) (ac bq11 (ac bq10 (ac bq9 (ac bq8 (ac bq7 (ac bq6 (ac bq5 (ac bq4 (ac bq3 (ac bq2 (ac bq1 (ac bq0 an)))))))))))))

theorem cod_in_12 {k : Int} (h0 : k ≠ (1 : Int)) (h1 : k ≠ (2 : Int)) (h2 : k ≠ (3 : Int)) (h3 : k ≠ (4 : Int)) (h4 : k ≠ (5 : Int)) (h5 : k ≠ (6 : Int)) (h6 : k ≠ (7 : Int)) (h7 : k ≠ (8 : Int)) (h8 : k ≠ (9 : Int)) (h9 : k ≠ (10 : Int)) (h10 : k ≠ (11 : Int)) (h11 : k ≠ (12 : Int)) : Ret P T 61 [D.int .i64 k] [] (D.int .u8 (0 : Int)) [] :=
  have bq0 := beq_eq_false_iff_ne.2 h0
  have bq1 := beq_eq_false_iff_ne.2 h1
  have bq2 := beq_eq_false_iff_ne.2 h2
  have bq3 := beq_eq_false_iff_ne.2 h3
  have bq4 := beq_eq_false_iff_ne.2 h4
  have bq5 := beq_eq_false_iff_ne.2 h5
  have bq6 := beq_eq_false_iff_ne.2 h6
  have bq7 := beq_eq_false_iff_ne.2 h7
  have bq8 := beq_eq_false_iff_ne.2 h8
  have bq9 := beq_eq_false_iff_ne.2 h9
  have bq10 := beq_eq_false_iff_ne.2 h10
  have bq11 := beq_eq_false_iff_ne.2 h11
  fin_call cod_fn cod_body cod_name (fr 61 0 (cod_ok k) (pth 12 0) (ac bq11 (ac bq10 (ac bq9 (ac bq8 (ac bq7 (ac bq6 (ac bq5 (ac bq4 (ac bq3 (ac bq2 (ac bq1 (ac bq0 an)))))))))))))



/-! ### function 36 -/
theorem bar_fn : Tryd.prog.funcs[(53 : Nat)]? = some (fnAt P 53) := by kernel_rfl
theorem bar_body : (fnAt P 53).body = some (bodyAt P 53) := by kernel_rfl
theorem bar_name : ((fnAt P 53).name == "runtime.NumGoroutine") = false := by kernel_rfl
noncomputable def bar_C (k n : Int) (s : ByteArray) (xb : Bool) (eb : Es) (xf : Bool) (ef : Es) (xl : Bool) (el : Es) (bn bs : Bool) (bb bf bl : Bool) : Cf := cfg Tryd.prog (hintOf []) (tBr k n s xb eb xf ef xl el bn bs bb bf bl) (fun _ => false) 2 true (fun _ => false)
theorem bar_ok (k n : Int) (s : ByteArray) (xb : Bool) (eb : Es) (xf : Bool) (ef : Es) (xl : Bool) (el : Es) (bn bs : Bool) (bb bf bl : Bool) : CfOk (bar_C k n s xb eb xf ef xl el bn bs bb bf bl) := cfg_ok (by kernel_rfl)
noncomputable def bar_run (k n : Int) (s : ByteArray) (xb : Bool) (eb : Es) (xf : Bool) (ef : Es) (xl : Bool) (el : Es) (bn bs : Bool) (bb bf bl : Bool) (qcur : Cur) (qk : List It) (qs : St) (qor : GD.Or) := runE (bar_C k n s xb eb xf ef xl el bn bs bb bf bl) (callE (bar_C k n s xb eb xf ef xl el bn bs bb bf bl) 100000 10) 53 100000 qcur qk qs qor []

theorem bar_in_0 {k n : Int} {s : ByteArray} {xb : Bool} {eb : Es} {xf : Bool} {ef : Es} {xl : Bool} {el : Es} {bn bs : Bool} {bb bf bl : Bool} (h0 : bn = true) (h1 : bs = true) (h2 : bb = true) (h3 : bf = true) (h4 : bl = true) : Ret P T 53 [D.agg (valk.val k n s xb eb xf ef xl el), D.bool bn, D.bool bs, D.bool bb, D.bool bf, D.bool bl] [] (D.bool true) [] :=
  have bq0 := h0
  have bq1 := h1
  have bq2 := h2
  have bq3 := h3
  have bq4 := h4
  fin_call bar_fn bar_body bar_name (fr 53 0 (bar_ok k n s xb eb xf ef xl el bn bs bb bf bl) (pth 39 485205229112) (ac tru (ac bq4 (ac tru (ac (ktf bq4) (ac (ktf bq4) (ac (ktf bq4) (ac (ktf bq4) (ac tru (ac tru (ac tru (ac bq3 (ac tru (ac (ktf bq3) (ac (ktf bq3) (ac (ktf bq3) (ac (ktf bq3) (ac tru (ac tru (ac tru (ac bq2 (ac tru (ac (ktf bq2) (ac (ktf bq2) (ac (ktf bq2) (ac (ktf bq2) (ac tru (ac tru (ac tru (ac bq1 (ac tru (ac (ktf bq1) (ac (ktf bq1) (ac (ktf bq1) (ac tru (ac tru (ac bq0 (ac (ktf bq0) (ac (ktf bq0) (ac (ktf bq0) an))))))))))))))))))))))))))))))))))))))))

theorem bar_in_1 {k n : Int} {s : ByteArray} {xb : Bool} {eb : Es} {xf : Bool} {ef : Es} {xl : Bool} {el : Es} {bn bs : Bool} {bb bf bl : Bool} (h0 : bn = true) (h1 : bs = true) (h2 : bb = true) (h3 : bf = true) (h4 : bl = false) : Ret P T 53 [D.agg (valk.val k n s xb eb xf ef xl el), D.bool bn, D.bool bs, D.bool bb, D.bool bf, D.bool bl] [] (D.bool ((↑(List.length el) : Int) == (0 : Int))) [] :=
  have bq0 := h0
  have bq1 := h1
  have bq2 := h2
  have bq3 := h3
  have bq4 := h4
  fin_call bar_fn bar_body bar_name (fr 53 0 (bar_ok k n s xb eb xf ef xl el bn bs bb bf bl) (pth 39 412190785080) (ac tru (ac bq4 (ac tru (ac (kff bq4) (ac (kff bq4) (ac (kff bq4) (ac (kff bq4) (ac tru (ac tru (ac tru (ac bq3 (ac tru (ac (ktf bq3) (ac (ktf bq3) (ac (ktf bq3) (ac (ktf bq3) (ac tru (ac tru (ac tru (ac bq2 (ac tru (ac (ktf bq2) (ac (ktf bq2) (ac (ktf bq2) (ac (ktf bq2) (ac tru (ac tru (ac tru (ac bq1 (ac tru (ac (ktf bq1) (ac (ktf bq1) (ac (ktf bq1) (ac tru (ac tru (ac bq0 (ac (ktf bq0) (ac (ktf bq0) (ac (ktf bq0) an))))))))))))))))))))))))))))))))))))))))

theorem bar_in_2 {k n : Int} {s : ByteArray} {xb : Bool} {eb : Es} {xf : Bool} {ef : Es} {xl : Bool} {el : Es} {bn bs : Bool} {bb bf bl : Bool} (h0 : bn = true) (h1 : bs = true) (h2 : bb = true) (h3 : bf = false) (h4 : (↑(List.length ef) : Int) = (0 : Int)) (h5 : bl = true) : Ret P T 53 [D.agg (valk.val k n s xb eb xf ef xl el), D.bool bn, D.bool bs, D.bool bb, D.bool bf, D.bool bl] [] (D.bool true) [] :=
  have bq0 := h0
  have bq1 := h1
  have bq2 := h2
  have bq3 := h3
  have bq4 := beq_iff_eq.2 h4
  have bq5 := h5
  fin_call bar_fn bar_body bar_name (fr 53 0 (bar_ok k n s xb eb xf ef xl el bn bs bb bf bl) (pth 39 485062622776) (ac bq4 (ac bq5 (ac (ktt bq4) (ac (ktf bq5) (ac (ktf bq5) (ac (ktf bq5) (ac (ktf bq5) (ac (ktt bq4) (ac (ktt bq4) (ac tru (ac bq3 (ac tru (ac (kff bq3) (ac (kff bq3) (ac (kff bq3) (ac (kff bq3) (ac tru (ac tru (ac tru (ac bq2 (ac tru (ac (ktf bq2) (ac (ktf bq2) (ac (ktf bq2) (ac (ktf bq2) (ac tru (ac tru (ac tru (ac bq1 (ac tru (ac (ktf bq1) (ac (ktf bq1) (ac (ktf bq1) (ac tru (ac tru (ac bq0 (ac (ktf bq0) (ac (ktf bq0) (ac (ktf bq0) an))))))))))))))))))))))))))))))))))))))))

theorem bar_in_3 {k n : Int} {s : ByteArray} {xb : Bool} {eb : Es} {xf : Bool} {ef : Es} {xl : Bool} {el : Es} {bn bs : Bool} {bb bf bl : Bool} (h0 : bn = true) (h1 : bs = true) (h2 : bb = true) (h3 : bf = false) (h4 : (↑(List.length ef) : Int) = (0 : Int)) (h5 : bl = false) : Ret P T 53 [D.agg (valk.val k n s xb eb xf ef xl el), D.bool bn, D.bool bs, D.bool bb, D.bool bf, D.bool bl] [] (D.bool ((↑(List.length el) : Int) == (0 : Int))) [] :=
  have bq0 := h0
  have bq1 := h1
  have bq2 := h2
  have bq3 := h3
  have bq4 := beq_iff_eq.2 h4
  have bq5 := h5
  fin_call bar_fn bar_body bar_name (fr 53 0 (bar_ok k n s xb eb xf ef xl el bn bs bb bf bl) (pth 39 412048178744) (ac bq4 (ac bq5 (ac (ktt bq4) (ac (kff bq5) (ac (kff bq5) (ac (kff bq5) (ac (kff bq5) (ac (ktt bq4) (ac (ktt bq4) (ac tru (ac bq3 (ac tru (ac (kff bq3) (ac (kff bq3) (ac (kff bq3) (ac (kff bq3) (ac tru (ac tru (ac tru (ac bq2 (ac tru (ac (ktf bq2) (ac (ktf bq2) (ac (ktf bq2) (ac (ktf bq2) (ac tru (ac tru (ac tru (ac bq1 (ac tru (ac (ktf bq1) (ac (ktf bq1) (ac (ktf bq1) (ac tru (ac tru (ac bq0 (ac (ktf bq0) (ac (ktf bq0) (ac (ktf bq0) an))))))))))))))))))))))))))))))))))))))))

theorem bar_in_4 {k n : Int} {s : ByteArray} {xb : Bool} {eb : Es} {xf : Bool} {ef : Es} {xl : Bool} {el : Es} {bn bs : Bool} {bb bf bl : Bool} (h0 : bn = true) (h1 : bs = true) (h2 : bb = true) (h3 : bf = false) (h4 : (↑(List.length ef) : Int) ≠ (0 : Int)) : Ret P T 53 [D.agg (valk.val k n s xb eb xf ef xl el), D.bool bn, D.bool bs, D.bool bb, D.bool bf, D.bool bl] [] (D.bool false) [] :=
  have bq0 := h0
  have bq1 := h1
  have bq2 := h2
  have bq3 := h3
  have bq4 := beq_eq_false_iff_ne.2 h4
  fin_call bar_fn bar_body bar_name (fr 53 0 (bar_ok k n s xb eb xf ef xl el bn bs bb bf bl) (pth 34 805060152) (ac bq4 (ac (kft bq4) (ac (kft bq4) (ac (kft bq4) (ac tru (ac bq3 (ac tru (ac (kff bq3) (ac (kff bq3) (ac (kff bq3) (ac (kff bq3) (ac tru (ac tru (ac tru (ac bq2 (ac tru (ac (ktf bq2) (ac (ktf bq2) (ac (ktf bq2) (ac (ktf bq2) (ac tru (ac tru (ac tru (ac bq1 (ac tru (ac (ktf bq1) (ac (ktf bq1) (ac (ktf bq1) (ac tru (ac tru (ac bq0 (ac (ktf bq0) (ac (ktf bq0) (ac (ktf bq0) an)))))))))))))))))))))))))))))))))))

theorem bar_in_5 {k n : Int} {s : ByteArray} {xb : Bool} {eb : Es} {xf : Bool} {ef : Es} {xl : Bool} {el : Es} {bn bs : Bool} {bb bf bl : Bool} (h0 : bn = true) (h1 : bs = true) (h2 : bb = false) (h3 : (↑(List.length eb) : Int) = (0 : Int)) (h4 : bf = true) (h5 : bl = true) : Ret P T 53 [D.agg (valk.val k n s xb eb xf ef xl el), D.bool bn, D.bool bs, D.bool bb, D.bool bf, D.bool bl] [] (D.bool true) [] :=
  have bq0 := h0
  have bq1 := h1
  have bq2 := h2
  have bq3 := beq_iff_eq.2 h3
  have bq4 := h4
  have bq5 := h5
  fin_call bar_fn bar_body bar_name (fr 53 0 (bar_ok k n s xb eb xf ef xl el bn bs bb bf bl) (pth 39 485204950584) (ac tru (ac bq5 (ac tru (ac (ktf bq5) (ac (ktf bq5) (ac (ktf bq5) (ac (ktf bq5) (ac tru (ac tru (ac bq3 (ac bq4 (ac (ktt bq3) (ac (ktf bq4) (ac (ktf bq4) (ac (ktf bq4) (ac (ktf bq4) (ac (ktt bq3) (ac (ktt bq3) (ac tru (ac bq2 (ac tru (ac (kff bq2) (ac (kff bq2) (ac (kff bq2) (ac (kff bq2) (ac tru (ac tru (ac tru (ac bq1 (ac tru (ac (ktf bq1) (ac (ktf bq1) (ac (ktf bq1) (ac tru (ac tru (ac bq0 (ac (ktf bq0) (ac (ktf bq0) (ac (ktf bq0) an))))))))))))))))))))))))))))))))))))))))

theorem bar_in_6 {k n : Int} {s : ByteArray} {xb : Bool} {eb : Es} {xf : Bool} {ef : Es} {xl : Bool} {el : Es} {bn bs : Bool} {bb bf bl : Bool} (h0 : bn = true) (h1 : bs = true) (h2 : bb = false) (h3 : (↑(List.length eb) : Int) = (0 : Int)) (h4 : bf = true) (h5 : bl = false) : Ret P T 53 [D.agg (valk.val k n s xb eb xf ef xl el), D.bool bn, D.bool bs, D.bool bb, D.bool bf, D.bool bl] [] (D.bool ((↑(List.length el) : Int) == (0 : Int))) [] :=
  have bq0 := h0
  have bq1 := h1
  have bq2 := h2
  have bq3 := beq_iff_eq.2 h3
  have bq4 := h4
  have bq5 := h5
  fin_call bar_fn bar_body bar_name (fr 53 0 (bar_ok k n s xb eb xf ef xl el bn bs bb bf bl) (pth 39 412190506552) (ac tru (ac bq5 (ac tru (ac (kff bq5) (ac (kff bq5) (ac (kff bq5) (ac (kff bq5) (ac tru (ac tru (ac bq3 (ac bq4 (ac (ktt bq3) (ac (ktf bq4) (ac (ktf bq4) (ac (ktf bq4) (ac (ktf bq4) (ac (ktt bq3) (ac (ktt bq3) (ac tru (ac bq2 (ac tru (ac (kff bq2) (ac (kff bq2) (ac (kff bq2) (ac (kff bq2) (ac tru (ac tru (ac tru (ac bq1 (ac tru (ac (ktf bq1) (ac (ktf bq1) (ac (ktf bq1) (ac tru (ac tru (ac bq0 (ac (ktf bq0) (ac (ktf bq0) (ac (ktf bq0) an))))))))))))))))))))))))))))))))))))))))

theorem bar_in_7 {k n : Int} {s : ByteArray} {xb : Bool} {eb : Es} {xf : Bool} {ef : Es} {xl : Bool} {el : Es} {bn bs : Bool} {bb bf bl : Bool} (h0 : bn = true) (h1 : bs = true) (h2 : bb = false) (h3 : (↑(List.length eb) : Int) = (0 : Int)) (h4 : bf = false) (h5 : (↑(List.length ef) : Int) = (0 : Int)) (h6 : bl = true) : Ret P T 53 [D.agg (valk.val k n s xb eb xf ef xl el), D.bool bn, D.bool bs, D.bool bb, D.bool bf, D.bool bl] [] (D.bool true) [] :=
  have bq0 := h0
  have bq1 := h1
  have bq2 := h2
  have bq3 := beq_iff_eq.2 h3
  have bq4 := h4
  have bq5 := beq_iff_eq.2 h5
  have bq6 := h6
  fin_call bar_fn bar_body bar_name (fr 53 0 (bar_ok k n s xb eb xf ef xl el bn bs bb bf bl) (pth 39 485062344248) (ac bq5 (ac bq6 (ac (ktt bq5) (ac (ktf bq6) (ac (ktf bq6) (ac (ktf bq6) (ac (ktf bq6) (ac (ktt bq5) (ac (ktt bq5) (ac bq3 (ac bq4 (ac (ktt bq3) (ac (kff bq4) (ac (kff bq4) (ac (kff bq4) (ac (kff bq4) (ac (ktt bq3) (ac (ktt bq3) (ac tru (ac bq2 (ac tru (ac (kff bq2) (ac (kff bq2) (ac (kff bq2) (ac (kff bq2) (ac tru (ac tru (ac tru (ac bq1 (ac tru (ac (ktf bq1) (ac (ktf bq1) (ac (ktf bq1) (ac tru (ac tru (ac bq0 (ac (ktf bq0) (ac (ktf bq0) (ac (ktf bq0) an))))))))))))))))))))))))))))))))))))))))

theorem bar_in_8 {k n : Int} {s : ByteArray} {xb : Bool} {eb : Es} {xf : Bool} {ef : Es} {xl : Bool} {el : Es} {bn bs : Bool} {bb bf bl : Bool} (h0 : bn = true) (h1 : bs = true) (h2 : bb = false) (h3 : (↑(List.length eb) : Int) = (0 : Int)) (h4 : bf = false) (h5 : (↑(List.length ef) : Int) = (0 : Int)) (h6 : bl = false) : Ret P T 53 [D.agg (valk.val k n s xb eb xf ef xl el), D.bool bn, D.bool bs, D.bool bb, D.bool bf, D.bool bl] [] (D.bool ((↑(List.length el) : Int) == (0 : Int))) [] :=
  have bq0 := h0
  have bq1 := h1
  have bq2 := h2
  have bq3 := beq_iff_eq.2 h3
  have bq4 := h4
  have bq5 := beq_iff_eq.2 h5
  have bq6 := h6
  fin_call bar_fn bar_body bar_name (fr 53 0 (bar_ok k n s xb eb xf ef xl el bn bs bb bf bl) (pth 39 412047900216) (ac bq5 (ac bq6 (ac (ktt bq5) (ac (kff bq6) (ac (kff bq6) (ac (kff bq6) (ac (kff bq6) (ac (ktt bq5) (ac (ktt bq5) (ac bq3 (ac bq4 (ac (ktt bq3) (ac (kff bq4) (ac (kff bq4) (ac (kff bq4) (ac (kff bq4) (ac (ktt bq3) (ac (ktt bq3) (ac tru (ac bq2 (ac tru (ac (kff bq2) (ac (kff bq2) (ac (kff bq2) (ac (kff bq2) (ac tru (ac tru (ac tru (ac bq1 (ac tru (ac (ktf bq1) (ac (ktf bq1) (ac (ktf bq1) (ac tru (ac tru (ac bq0 (ac (ktf bq0) (ac (ktf bq0) (ac (ktf bq0) an))))))))))))))))))))))))))))))))))))))))

theorem bar_in_9 {k n : Int} {s : ByteArray} {xb : Bool} {eb : Es} {xf : Bool} {ef : Es} {xl : Bool} {el : Es} {bn bs : Bool} {bb bf bl : Bool} (h0 : bn = true) (h1 : bs = true) (h2 : bb = false) (h3 : (↑(List.length eb) : Int) = (0 : Int)) (h4 : bf = false) (h5 : (↑(List.length ef) : Int) ≠ (0 : Int)) : Ret P T 53 [D.agg (valk.val k n s xb eb xf ef xl el), D.bool bn, D.bool bs, D.bool bb, D.bool bf, D.bool bl] [] (D.bool false) [] :=
  have bq0 := h0
  have bq1 := h1
  have bq2 := h2
  have bq3 := beq_iff_eq.2 h3
  have bq4 := h4
  have bq5 := beq_eq_false_iff_ne.2 h5
  fin_call bar_fn bar_body bar_name (fr 53 0 (bar_ok k n s xb eb xf ef xl el bn bs bb bf bl) (pth 34 804781624) (ac bq5 (ac (kft bq5) (ac (kft bq5) (ac (kft bq5) (ac bq3 (ac bq4 (ac (ktt bq3) (ac (kff bq4) (ac (kff bq4) (ac (kff bq4) (ac (kff bq4) (ac (ktt bq3) (ac (ktt bq3) (ac tru (ac bq2 (ac tru (ac (kff bq2) (ac (kff bq2) (ac (kff bq2) (ac (kff bq2) (ac tru (ac tru (ac tru (ac bq1 (ac tru (ac (ktf bq1) (ac (ktf bq1) (ac (ktf bq1) (ac tru (ac tru (ac bq0 (ac (ktf bq0) (ac (ktf bq0) (ac (ktf bq0) an)))))))))))))))))))))))))))))))))))

theorem bar_in_10 {k n : Int} {s : ByteArray} {xb : Bool} {eb : Es} {xf : Bool} {ef : Es} {xl : Bool} {el : Es} {bn bs : Bool} {bb bf bl : Bool} (h0 : bn = true) (h1 : bs = true) (h2 : bb = false) (h3 : (↑(List.length eb) : Int) ≠ (0 : Int)) : Ret P T 53 [D.agg (valk.val k n s xb eb xf ef xl el), D.bool bn, D.bool bs, D.bool bb, D.bool bf, D.bool bl] [] (D.bool false) [] :=
  have bq0 := h0
  have bq1 := h1
  have bq2 := h2
  have bq3 := beq_eq_false_iff_ne.2 h3
  fin_call bar_fn bar_body bar_name (fr 53 0 (bar_ok k n s xb eb xf ef xl el bn bs bb bf bl) (pth 29 1572408) (ac (show false = false from rfl) (ac (show false = false from rfl) (ac (show false = false from rfl) (ac (show false = false from rfl) (ac bq3 (ac (kft bq3) (ac (kft bq3) (ac (kft bq3) (ac tru (ac bq2 (ac tru (ac (kff bq2) (ac (kff bq2) (ac (kff bq2) (ac (kff bq2) (ac tru (ac tru (ac tru (ac bq1 (ac tru (ac (ktf bq1) (ac (ktf bq1) (ac (ktf bq1) (ac tru (ac tru (ac bq0 (ac (ktf bq0) (ac (ktf bq0) (ac (ktf bq0) an))))))))))))))))))))))))))))))

theorem bar_in_11 {k n : Int} {s : ByteArray} {xb : Bool} {eb : Es} {xf : Bool} {ef : Es} {xl : Bool} {el : Es} {bn bs : Bool} {bb bf bl : Bool} (h0 : bn = true) (h1 : bs = false) (h2 : s.toList = bE.toList) (h3 : bb = true) (h4 : bf = true) (h5 : bl = true) : Ret P T 53 [D.agg (valk.val k n s xb eb xf ef xl el), D.bool bn, D.bool bs, D.bool bb, D.bool bf, D.bool bl] [] (D.bool true) [] :=
  have bq0 := h0
  have bq1 := h1
  have bq2 := beq_iff_eq.2 h2
  have bq3 := h3
  have bq4 := h4
  have bq5 := h5
  fin_call bar_fn bar_body bar_name (fr 53 0 (bar_ok k n s xb eb xf ef xl el bn bs bb bf bl) (pth 39 485205228536) (ac tru (ac bq5 (ac tru (ac (ktf bq5) (ac (ktf bq5) (ac (ktf bq5) (ac (ktf bq5) (ac tru (ac tru (ac tru (ac bq4 (ac tru (ac (ktf bq4) (ac (ktf bq4) (ac (ktf bq4) (ac (ktf bq4) (ac tru (ac tru (ac bq2 (ac bq3 (ac (ktt bq2) (ac (ktf bq3) (ac (ktf bq3) (ac (ktf bq3) (ac (ktf bq3) (ac (ktt bq2) (ac (ktt bq2) (ac tru (ac bq1 (ac tru (ac (kff bq1) (ac (kff bq1) (ac (kff bq1) (ac tru (ac tru (ac bq0 (ac (ktf bq0) (ac (ktf bq0) (ac (ktf bq0) an))))))))))))))))))))))))))))))))))))))))

theorem bar_in_12 {k n : Int} {s : ByteArray} {xb : Bool} {eb : Es} {xf : Bool} {ef : Es} {xl : Bool} {el : Es} {bn bs : Bool} {bb bf bl : Bool} (h0 : bn = true) (h1 : bs = false) (h2 : s.toList = bE.toList) (h3 : bb = true) (h4 : bf = true) (h5 : bl = false) : Ret P T 53 [D.agg (valk.val k n s xb eb xf ef xl el), D.bool bn, D.bool bs, D.bool bb, D.bool bf, D.bool bl] [] (D.bool ((↑(List.length el) : Int) == (0 : Int))) [] :=
  have bq0 := h0
  have bq1 := h1
  have bq2 := beq_iff_eq.2 h2
  have bq3 := h3
  have bq4 := h4
  have bq5 := h5
  fin_call bar_fn bar_body bar_name (fr 53 0 (bar_ok k n s xb eb xf ef xl el bn bs bb bf bl) (pth 39 412190784504) (ac tru (ac bq5 (ac tru (ac (kff bq5) (ac (kff bq5) (ac (kff bq5) (ac (kff bq5) (ac tru (ac tru (ac tru (ac bq4 (ac tru (ac (ktf bq4) (ac (ktf bq4) (ac (ktf bq4) (ac (ktf bq4) (ac tru (ac tru (ac bq2 (ac bq3 (ac (ktt bq2) (ac (ktf bq3) (ac (ktf bq3) (ac (ktf bq3) (ac (ktf bq3) (ac (ktt bq2) (ac (ktt bq2) (ac tru (ac bq1 (ac tru (ac (kff bq1) (ac (kff bq1) (ac (kff bq1) (ac tru (ac tru (ac bq0 (ac (ktf bq0) (ac (ktf bq0) (ac (ktf bq0) an))))))))))))))))))))))))))))))))))))))))

theorem bar_in_13 {k n : Int} {s : ByteArray} {xb : Bool} {eb : Es} {xf : Bool} {ef : Es} {xl : Bool} {el : Es} {bn bs : Bool} {bb bf bl : Bool} (h0 : bn = true) (h1 : bs = false) (h2 : s.toList = bE.toList) (h3 : bb = true) (h4 : bf = false) (h5 : (↑(List.length ef) : Int) = (0 : Int)) (h6 : bl = true) : Ret P T 53 [D.agg (valk.val k n s xb eb xf ef xl el), D.bool bn, D.bool bs, D.bool bb, D.bool bf, D.bool bl] [] (D.bool true) [] :=
  have bq0 := h0
  have bq1 := h1
  have bq2 := beq_iff_eq.2 h2
  have bq3 := h3
  have bq4 := h4
  have bq5 := beq_iff_eq.2 h5
  have bq6 := h6
  fin_call bar_fn bar_body bar_name (fr 53 0 (bar_ok k n s xb eb xf ef xl el bn bs bb bf bl) (pth 39 485062622200) (ac bq5 (ac bq6 (ac (ktt bq5) (ac (ktf bq6) (ac (ktf bq6) (ac (ktf bq6) (ac (ktf bq6) (ac (ktt bq5) (ac (ktt bq5) (ac tru (ac bq4 (ac tru (ac (kff bq4) (ac (kff bq4) (ac (kff bq4) (ac (kff bq4) (ac tru (ac tru (ac bq2 (ac bq3 (ac (ktt bq2) (ac (ktf bq3) (ac (ktf bq3) (ac (ktf bq3) (ac (ktf bq3) (ac (ktt bq2) (ac (ktt bq2) (ac tru (ac bq1 (ac tru (ac (kff bq1) (ac (kff bq1) (ac (kff bq1) (ac tru (ac tru (ac bq0 (ac (ktf bq0) (ac (ktf bq0) (ac (ktf bq0) an))))))))))))))))))))))))))))))))))))))))

theorem bar_in_14 {k n : Int} {s : ByteArray} {xb : Bool} {eb : Es} {xf : Bool} {ef : Es} {xl : Bool} {el : Es} {bn bs : Bool} {bb bf bl : Bool} (h0 : bn = true) (h1 : bs = false) (h2 : s.toList = bE.toList) (h3 : bb = true) (h4 : bf = false) (h5 : (↑(List.length ef) : Int) = (0 : Int)) (h6 : bl = false) : Ret P T 53 [D.agg (valk.val k n s xb eb xf ef xl el), D.bool bn, D.bool bs, D.bool bb, D.bool bf, D.bool bl] [] (D.bool ((↑(List.length el) : Int) == (0 : Int))) [] :=
  have bq0 := h0
  have bq1 := h1
  have bq2 := beq_iff_eq.2 h2
  have bq3 := h3
  have bq4 := h4
  have bq5 := beq_iff_eq.2 h5
  have bq6 := h6
  fin_call bar_fn bar_body bar_name (fr 53 0 (bar_ok k n s xb eb xf ef xl el bn bs bb bf bl) (pth 39 412048178168) (ac bq5 (ac bq6 (ac (ktt bq5) (ac (kff bq6) (ac (kff bq6) (ac (kff bq6) (ac (kff bq6) (ac (ktt bq5) (ac (ktt bq5) (ac tru (ac bq4 (ac tru (ac (kff bq4) (ac (kff bq4) (ac (kff bq4) (ac (kff bq4) (ac tru (ac tru (ac bq2 (ac bq3 (ac (ktt bq2) (ac (ktf bq3) (ac (ktf bq3) (ac (ktf bq3) (ac (ktf bq3) (ac (ktt bq2) (ac (ktt bq2) (ac tru (ac bq1 (ac tru (ac (kff bq1) (ac (kff bq1) (ac (kff bq1) (ac tru (ac tru (ac bq0 (ac (ktf bq0) (ac (ktf bq0) (ac (ktf bq0) an))))))))))))))))))))))))))))))))))))))))

theorem bar_in_15 {k n : Int} {s : ByteArray} {xb : Bool} {eb : Es} {xf : Bool} {ef : Es} {xl : Bool} {el : Es} {bn bs : Bool} {bb bf bl : Bool} (h0 : bn = true) (h1 : bs = false) (h2 : s.toList = bE.toList) (h3 : bb = true) (h4 : bf = false) (h5 : (↑(List.length ef) : Int) ≠ (0 : Int)) : Ret P T 53 [D.agg (valk.val k n s xb eb xf ef xl el), D.bool bn, D.bool bs, D.bool bb, D.bool bf, D.bool bl] [] (D.bool false) [] :=
  have bq0 := h0
  have bq1 := h1
  have bq2 := beq_iff_eq.2 h2
  have bq3 := h3
  have bq4 := h4
  have bq5 := beq_eq_false_iff_ne.2 h5
  fin_call bar_fn bar_body bar_name (fr 53 0 (bar_ok k n s xb eb xf ef xl el bn bs bb bf bl) (pth 34 805059576) (ac bq5 (ac (kft bq5) (ac (kft bq5) (ac (kft bq5) (ac tru (ac bq4 (ac tru (ac (kff bq4) (ac (kff bq4) (ac (kff bq4) (ac (kff bq4) (ac tru (ac tru (ac bq2 (ac bq3 (ac (ktt bq2) (ac (ktf bq3) (ac (ktf bq3) (ac (ktf bq3) (ac (ktf bq3) (ac (ktt bq2) (ac (ktt bq2) (ac tru (ac bq1 (ac tru (ac (kff bq1) (ac (kff bq1) (ac (kff bq1) (ac tru (ac tru (ac bq0 (ac (ktf bq0) (ac (ktf bq0) (ac (ktf bq0) an)))))))))))))))))))))))))))))))))))

theorem bar_in_16 {k n : Int} {s : ByteArray} {xb : Bool} {eb : Es} {xf : Bool} {ef : Es} {xl : Bool} {el : Es} {bn bs : Bool} {bb bf bl : Bool} (h0 : bn = true) (h1 : bs = false) (h2 : s.toList = bE.toList) (h3 : bb = false) (h4 : (↑(List.length eb) : Int) = (0 : Int)) (h5 : bf = true) (h6 : bl = true) : Ret P T 53 [D.agg (valk.val k n s xb eb xf ef xl el), D.bool bn, D.bool bs, D.bool bb, D.bool bf, D.bool bl] [] (D.bool true) [] :=
  have bq0 := h0
  have bq1 := h1
  have bq2 := beq_iff_eq.2 h2
  have bq3 := h3
  have bq4 := beq_iff_eq.2 h4
  have bq5 := h5
  have bq6 := h6
  fin_call bar_fn bar_body bar_name (fr 53 0 (bar_ok k n s xb eb xf ef xl el bn bs bb bf bl) (pth 39 485204950008) (ac tru (ac bq6 (ac tru (ac (ktf bq6) (ac (ktf bq6) (ac (ktf bq6) (ac (ktf bq6) (ac tru (ac tru (ac bq4 (ac bq5 (ac (ktt bq4) (ac (ktf bq5) (ac (ktf bq5) (ac (ktf bq5) (ac (ktf bq5) (ac (ktt bq4) (ac (ktt bq4) (ac bq2 (ac bq3 (ac (ktt bq2) (ac (kff bq3) (ac (kff bq3) (ac (kff bq3) (ac (kff bq3) (ac (ktt bq2) (ac (ktt bq2) (ac tru (ac bq1 (ac tru (ac (kff bq1) (ac (kff bq1) (ac (kff bq1) (ac tru (ac tru (ac bq0 (ac (ktf bq0) (ac (ktf bq0) (ac (ktf bq0) an))))))))))))))))))))))))))))))))))))))))

theorem bar_in_17 {k n : Int} {s : ByteArray} {xb : Bool} {eb : Es} {xf : Bool} {ef : Es} {xl : Bool} {el : Es} {bn bs : Bool} {bb bf bl : Bool} (h0 : bn = true) (h1 : bs = false) (h2 : s.toList = bE.toList) (h3 : bb = false) (h4 : (↑(List.length eb) : Int) = (0 : Int)) (h5 : bf = true) (h6 : bl = false) : Ret P T 53 [D.agg (valk.val k n s xb eb xf ef xl el), D.bool bn, D.bool bs, D.bool bb, D.bool bf, D.bool bl] [] (D.bool ((↑(List.length el) : Int) == (0 : Int))) [] :=
  have bq0 := h0
  have bq1 := h1
  have bq2 := beq_iff_eq.2 h2
  have bq3 := h3
  have bq4 := beq_iff_eq.2 h4
  have bq5 := h5
  have bq6 := h6
  fin_call bar_fn bar_body bar_name (fr 53 0 (bar_ok k n s xb eb xf ef xl el bn bs bb bf bl) (pth 39 412190505976) (ac tru (ac bq6 (ac tru (ac (kff bq6) (ac (kff bq6) (ac (kff bq6) (ac (kff bq6) (ac tru (ac tru (ac bq4 (ac bq5 (ac (ktt bq4) (ac (ktf bq5) (ac (ktf bq5) (ac (ktf bq5) (ac (ktf bq5) (ac (ktt bq4) (ac (ktt bq4) (ac bq2 (ac bq3 (ac (ktt bq2) (ac (kff bq3) (ac (kff bq3) (ac (kff bq3) (ac (kff bq3) (ac (ktt bq2) (ac (ktt bq2) (ac tru (ac bq1 (ac tru (ac (kff bq1) (ac (kff bq1) (ac (kff bq1) (ac tru (ac tru (ac bq0 (ac (ktf bq0) (ac (ktf bq0) (ac (ktf bq0) an))))))))))))))))))))))))))))))))))))))))

theorem bar_in_18 {k n : Int} {s : ByteArray} {xb : Bool} {eb : Es} {xf : Bool} {ef : Es} {xl : Bool} {el : Es} {bn bs : Bool} {bb bf bl : Bool} (h0 : bn = true) (h1 : bs = false) (h2 : s.toList = bE.toList) (h3 : bb = false) (h4 : (↑(List.length eb) : Int) = (0 : Int)) (h5 : bf = false) (h6 : (↑(List.length ef) : Int) = (0 : Int)) (h7 : bl = true) : Ret P T 53 [D.agg (valk.val k n s xb eb xf ef xl el), D.bool bn, D.bool bs, D.bool bb, D.bool bf, D.bool bl] [] (D.bool true) [] :=
  have bq0 := h0
  have bq1 := h1
  have bq2 := beq_iff_eq.2 h2
  have bq3 := h3
  have bq4 := beq_iff_eq.2 h4
  have bq5 := h5
  have bq6 := beq_iff_eq.2 h6
  have bq7 := h7
  fin_call bar_fn bar_body bar_name (fr 53 0 (bar_ok k n s xb eb xf ef xl el bn bs bb bf bl) (pth 39 485062343672) (ac bq6 (ac bq7 (ac (ktt bq6) (ac (ktf bq7) (ac (ktf bq7) (ac (ktf bq7) (ac (ktf bq7) (ac (ktt bq6) (ac (ktt bq6) (ac bq4 (ac bq5 (ac (ktt bq4) (ac (kff bq5) (ac (kff bq5) (ac (kff bq5) (ac (kff bq5) (ac (ktt bq4) (ac (ktt bq4) (ac bq2 (ac bq3 (ac (ktt bq2) (ac (kff bq3) (ac (kff bq3) (ac (kff bq3) (ac (kff bq3) (ac (ktt bq2) (ac (ktt bq2) (ac tru (ac bq1 (ac tru (ac (kff bq1) (ac (kff bq1) (ac (kff bq1) (ac tru (ac tru (ac bq0 (ac (ktf bq0) (ac (ktf bq0) (ac (ktf bq0) an))))))))))))))))))))))))))))))))))))))))

theorem bar_in_19 {k n : Int} {s : ByteArray} {xb : Bool} {eb : Es} {xf : Bool} {ef : Es} {xl : Bool} {el : Es} {bn bs : Bool} {bb bf bl : Bool} (h0 : bn = true) (h1 : bs = false) (h2 : s.toList = bE.toList) (h3 : bb = false) (h4 : (↑(List.length eb) : Int) = (0 : Int)) (h5 : bf = false) (h6 : (↑(List.length ef) : Int) = (0 : Int)) (h7 : bl = false) : Ret P T 53 [D.agg (valk.val k n s xb eb xf ef xl el), D.bool bn, D.bool bs, D.bool bb, D.bool bf, D.bool bl] [] (D.bool ((↑(List.length el) : Int) == (0 : Int))) [] :=
  have bq0 := h0
  have bq1 := h1
  have bq2 := beq_iff_eq.2 h2
  have bq3 := h3
  have bq4 := beq_iff_eq.2 h4
  have bq5 := h5
  have bq6 := beq_iff_eq.2 h6
  have bq7 := h7
  fin_call bar_fn bar_body bar_name (fr 53 0 (bar_ok k n s xb eb xf ef xl el bn bs bb bf bl) (pth 39 412047899640) (ac bq6 (ac bq7 (ac (ktt bq6) (ac (kff bq7) (ac (kff bq7) (ac (kff bq7) (ac (kff bq7) (ac (ktt bq6) (ac (ktt bq6) (ac bq4 (ac bq5 (ac (ktt bq4) (ac (kff bq5) (ac (kff bq5) (ac (kff bq5) (ac (kff bq5) (ac (ktt bq4) (ac (ktt bq4) (ac bq2 (ac bq3 (ac (ktt bq2) (ac (kff bq3) (ac (kff bq3) (ac (kff bq3) (ac (kff bq3) (ac (ktt bq2) (ac (ktt bq2) (ac tru (ac bq1 (ac tru (ac (kff bq1) (ac (kff bq1) (ac (kff bq1) (ac tru (ac tru (ac bq0 (ac (ktf bq0) (ac (ktf bq0) (ac (ktf bq0) an))))))))))))))))))))))))))))))))))))))))

theorem bar_in_20 {k n : Int} {s : ByteArray} {xb : Bool} {eb : Es} {xf : Bool} {ef : Es} {xl : Bool} {el : Es} {bn bs : Bool} {bb bf bl : Bool} (h0 : bn = true) (h1 : bs = false) (h2 : s.toList = bE.toList) (h3 : bb = false) (h4 : (↑(List.length eb) : Int) = (0 : Int)) (h5 : bf = false) (h6 : (↑(List.length ef) : Int) ≠ (0 : Int)) : Ret P T 53 [D.agg (valk.val k n s xb eb xf ef xl el), D.bool bn, D.bool bs, D.bool bb, D.bool bf, D.bool bl] [] (D.bool false) [] :=
  have bq0 := h0
  have bq1 := h1
  have bq2 := beq_iff_eq.2 h2
  have bq3 := h3
  have bq4 := beq_iff_eq.2 h4
  have bq5 := h5
  have bq6 := beq_eq_false_iff_ne.2 h6
  fin_call bar_fn bar_body bar_name (fr 53 0 (bar_ok k n s xb eb xf ef xl el bn bs bb bf bl) (pth 34 804781048) (ac bq6 (ac (kft bq6) (ac (kft bq6) (ac (kft bq6) (ac bq4 (ac bq5 (ac (ktt bq4) (ac (kff bq5) (ac (kff bq5) (ac (kff bq5) (ac (kff bq5) (ac (ktt bq4) (ac (ktt bq4) (ac bq2 (ac bq3 (ac (ktt bq2) (ac (kff bq3) (ac (kff bq3) (ac (kff bq3) (ac (kff bq3) (ac (ktt bq2) (ac (ktt bq2) (ac tru (ac bq1 (ac tru (ac (kff bq1) (ac (kff bq1) (ac (kff bq1) (ac tru (ac tru (ac bq0 (ac (ktf bq0) (ac (ktf bq0) (ac (ktf bq0) an)))))))))))))))))))))))))))))))))))

theorem bar_in_21 {k n : Int} {s : ByteArray} {xb : Bool} {eb : Es} {xf : Bool} {ef : Es} {xl : Bool} {el : Es} {bn bs : Bool} {bb bf bl : Bool} (h0 : bn = true) (h1 : bs = false) (h2 : s.toList = bE.toList) (h3 : bb = false) (h4 : (↑(List.length eb) : Int) ≠ (0 : Int)) : Ret P T 53 [D.agg (valk.val k n s xb eb xf ef xl el), D.bool bn, D.bool bs, D.bool bb, D.bool bf, D.bool bl] [] (D.bool false) [] :=
  have bq0 := h0
  have bq1 := h1
  have bq2 := beq_iff_eq.2 h2
  have bq3 := h3
  have bq4 := beq_eq_false_iff_ne.2 h4
  fin_call bar_fn bar_body bar_name (fr 53 0 (bar_ok k n s xb eb xf ef xl el bn bs bb bf bl) (pth 29 1571832) (ac (show false = false from rfl) (ac (show false = false from rfl) (ac (show false = false from rfl) (ac (show false = false from rfl) (ac bq4 (ac (kft bq4) (ac (kft bq4) (ac (kft bq4) (ac bq2 (ac bq3 (ac (ktt bq2) (ac (kff bq3) (ac (kff bq3) (ac (kff bq3) (ac (kff bq3) (ac (ktt bq2) (ac (ktt bq2) (ac tru (ac bq1 (ac tru (ac (kff bq1) (ac (kff bq1) (ac (kff bq1) (ac tru (ac tru (ac bq0 (ac (ktf bq0) (ac (ktf bq0) (ac (ktf bq0) an))))))))))))))))))))))))))))))

theorem bar_in_22 {k n : Int} {s : ByteArray} {xb : Bool} {eb : Es} {xf : Bool} {ef : Es} {xl : Bool} {el : Es} {bn bs : Bool} {bb bf bl : Bool} (h0 : bn = true) (h1 : bs = false) (h2 : s.toList ≠ bE.toList) : Ret P T 53 [D.agg (valk.val k n s xb eb xf ef xl el), D.bool bn, D.bool bs, D.bool bb, D.bool bf, D.bool bl] [] (D.bool false) [] :=
  have bq0 := h0
  have bq1 := h1
  have bq2 := beq_eq_false_iff_ne.2 h2
  fin_call bar_fn bar_body bar_name (fr 53 0 (bar_ok k n s xb eb xf ef xl el bn bs bb bf bl) (pth 24 3064) (ac (show false = false from rfl) (ac (show false = false from rfl) (ac (show false = false from rfl) (ac (show false = false from rfl) (ac (show false = false from rfl) (ac (show false = false from rfl) (ac (show false = false from rfl) (ac (show false = false from rfl) (ac bq2 (ac (kft bq2) (ac (kft bq2) (ac (kft bq2) (ac tru (ac bq1 (ac tru (ac (kff bq1) (ac (kff bq1) (ac (kff bq1) (ac tru (ac tru (ac bq0 (ac (ktf bq0) (ac (ktf bq0) (ac (ktf bq0) an)))))))))))))))))))))))))

theorem bar_in_23 {k n : Int} {s : ByteArray} {xb : Bool} {eb : Es} {xf : Bool} {ef : Es} {xl : Bool} {el : Es} {bn bs : Bool} {bb bf bl : Bool} (h0 : bn = false) (h1 : n = (0 : Int)) (h2 : bs = true) (h3 : bb = true) (h4 : bf = true) (h5 : bl = true) : Ret P T 53 [D.agg (valk.val k n s xb eb xf ef xl el), D.bool bn, D.bool bs, D.bool bb, D.bool bf, D.bool bl] [] (D.bool true) [] :=
  have bq0 := h0
  have bq1 := beq_iff_eq.2 h1
  have bq2 := h2
  have bq3 := h3
  have bq4 := h4
  have bq5 := h5
  fin_call bar_fn bar_body bar_name (fr 53 0 (bar_ok k n s xb eb xf ef xl el bn bs bb bf bl) (pth 39 485205229111) (ac tru (ac bq5 (ac tru (ac (ktf bq5) (ac (ktf bq5) (ac (ktf bq5) (ac (ktf bq5) (ac tru (ac tru (ac tru (ac bq4 (ac tru (ac (ktf bq4) (ac (ktf bq4) (ac (ktf bq4) (ac (ktf bq4) (ac tru (ac tru (ac tru (ac bq3 (ac tru (ac (ktf bq3) (ac (ktf bq3) (ac (ktf bq3) (ac (ktf bq3) (ac tru (ac tru (ac bq1 (ac bq2 (ac (ktt bq1) (ac (ktf bq2) (ac (ktf bq2) (ac (ktf bq2) (ac (ktt bq1) (ac (ktt bq1) (ac bq0 (ac (kff bq0) (ac (kff bq0) (ac (kff bq0) an))))))))))))))))))))))))))))))))))))))))

theorem bar_in_24 {k n : Int} {s : ByteArray} {xb : Bool} {eb : Es} {xf : Bool} {ef : Es} {xl : Bool} {el : Es} {bn bs : Bool} {bb bf bl : Bool} (h0 : bn = false) (h1 : n = (0 : Int)) (h2 : bs = true) (h3 : bb = true) (h4 : bf = true) (h5 : bl = false) : Ret P T 53 [D.agg (valk.val k n s xb eb xf ef xl el), D.bool bn, D.bool bs, D.bool bb, D.bool bf, D.bool bl] [] (D.bool ((↑(List.length el) : Int) == (0 : Int))) [] :=
  have bq0 := h0
  have bq1 := beq_iff_eq.2 h1
  have bq2 := h2
  have bq3 := h3
  have bq4 := h4
  have bq5 := h5
  fin_call bar_fn bar_body bar_name (fr 53 0 (bar_ok k n s xb eb xf ef xl el bn bs bb bf bl) (pth 39 412190785079) (ac tru (ac bq5 (ac tru (ac (kff bq5) (ac (kff bq5) (ac (kff bq5) (ac (kff bq5) (ac tru (ac tru (ac tru (ac bq4 (ac tru (ac (ktf bq4) (ac (ktf bq4) (ac (ktf bq4) (ac (ktf bq4) (ac tru (ac tru (ac tru (ac bq3 (ac tru (ac (ktf bq3) (ac (ktf bq3) (ac (ktf bq3) (ac (ktf bq3) (ac tru (ac tru (ac bq1 (ac bq2 (ac (ktt bq1) (ac (ktf bq2) (ac (ktf bq2) (ac (ktf bq2) (ac (ktt bq1) (ac (ktt bq1) (ac bq0 (ac (kff bq0) (ac (kff bq0) (ac (kff bq0) an))))))))))))))))))))))))))))))))))))))))

theorem bar_in_25 {k n : Int} {s : ByteArray} {xb : Bool} {eb : Es} {xf : Bool} {ef : Es} {xl : Bool} {el : Es} {bn bs : Bool} {bb bf bl : Bool} (h0 : bn = false) (h1 : n = (0 : Int)) (h2 : bs = true) (h3 : bb = true) (h4 : bf = false) (h5 : (↑(List.length ef) : Int) = (0 : Int)) (h6 : bl = true) : Ret P T 53 [D.agg (valk.val k n s xb eb xf ef xl el), D.bool bn, D.bool bs, D.bool bb, D.bool bf, D.bool bl] [] (D.bool true) [] :=
  have bq0 := h0
  have bq1 := beq_iff_eq.2 h1
  have bq2 := h2
  have bq3 := h3
  have bq4 := h4
  have bq5 := beq_iff_eq.2 h5
  have bq6 := h6
  fin_call bar_fn bar_body bar_name (fr 53 0 (bar_ok k n s xb eb xf ef xl el bn bs bb bf bl) (pth 39 485062622775) (ac bq5 (ac bq6 (ac (ktt bq5) (ac (ktf bq6) (ac (ktf bq6) (ac (ktf bq6) (ac (ktf bq6) (ac (ktt bq5) (ac (ktt bq5) (ac tru (ac bq4 (ac tru (ac (kff bq4) (ac (kff bq4) (ac (kff bq4) (ac (kff bq4) (ac tru (ac tru (ac tru (ac bq3 (ac tru (ac (ktf bq3) (ac (ktf bq3) (ac (ktf bq3) (ac (ktf bq3) (ac tru (ac tru (ac bq1 (ac bq2 (ac (ktt bq1) (ac (ktf bq2) (ac (ktf bq2) (ac (ktf bq2) (ac (ktt bq1) (ac (ktt bq1) (ac bq0 (ac (kff bq0) (ac (kff bq0) (ac (kff bq0) an))))))))))))))))))))))))))))))))))))))))

theorem bar_in_26 {k n : Int} {s : ByteArray} {xb : Bool} {eb : Es} {xf : Bool} {ef : Es} {xl : Bool} {el : Es} {bn bs : Bool} {bb bf bl : Bool} (h0 : bn = false) (h1 : n = (0 : Int)) (h2 : bs = true) (h3 : bb = true) (h4 : bf = false) (h5 : (↑(List.length ef) : Int) = (0 : Int)) (h6 : bl = false) : Ret P T 53 [D.agg (valk.val k n s xb eb xf ef xl el), D.bool bn, D.bool bs, D.bool bb, D.bool bf, D.bool bl] [] (D.bool ((↑(List.length el) : Int) == (0 : Int))) [] :=
  have bq0 := h0
  have bq1 := beq_iff_eq.2 h1
  have bq2 := h2
  have bq3 := h3
  have bq4 := h4
  have bq5 := beq_iff_eq.2 h5
  have bq6 := h6
  fin_call bar_fn bar_body bar_name (fr 53 0 (bar_ok k n s xb eb xf ef xl el bn bs bb bf bl) (pth 39 412048178743) (ac bq5 (ac bq6 (ac (ktt bq5) (ac (kff bq6) (ac (kff bq6) (ac (kff bq6) (ac (kff bq6) (ac (ktt bq5) (ac (ktt bq5) (ac tru (ac bq4 (ac tru (ac (kff bq4) (ac (kff bq4) (ac (kff bq4) (ac (kff bq4) (ac tru (ac tru (ac tru (ac bq3 (ac tru (ac (ktf bq3) (ac (ktf bq3) (ac (ktf bq3) (ac (ktf bq3) (ac tru (ac tru (ac bq1 (ac bq2 (ac (ktt bq1) (ac (ktf bq2) (ac (ktf bq2) (ac (ktf bq2) (ac (ktt bq1) (ac (ktt bq1) (ac bq0 (ac (kff bq0) (ac (kff bq0) (ac (kff bq0) an))))))))))))))))))))))))))))))))))))))))

theorem bar_in_27 {k n : Int} {s : ByteArray} {xb : Bool} {eb : Es} {xf : Bool} {ef : Es} {xl : Bool} {el : Es} {bn bs : Bool} {bb bf bl : Bool} (h0 : bn = false) (h1 : n = (0 : Int)) (h2 : bs = true) (h3 : bb = true) (h4 : bf = false) (h5 : (↑(List.length ef) : Int) ≠ (0 : Int)) : Ret P T 53 [D.agg (valk.val k n s xb eb xf ef xl el), D.bool bn, D.bool bs, D.bool bb, D.bool bf, D.bool bl] [] (D.bool false) [] :=
  have bq0 := h0
  have bq1 := beq_iff_eq.2 h1
  have bq2 := h2
  have bq3 := h3
  have bq4 := h4
  have bq5 := beq_eq_false_iff_ne.2 h5
  fin_call bar_fn bar_body bar_name (fr 53 0 (bar_ok k n s xb eb xf ef xl el bn bs bb bf bl) (pth 34 805060151) (ac bq5 (ac (kft bq5) (ac (kft bq5) (ac (kft bq5) (ac tru (ac bq4 (ac tru (ac (kff bq4) (ac (kff bq4) (ac (kff bq4) (ac (kff bq4) (ac tru (ac tru (ac tru (ac bq3 (ac tru (ac (ktf bq3) (ac (ktf bq3) (ac (ktf bq3) (ac (ktf bq3) (ac tru (ac tru (ac bq1 (ac bq2 (ac (ktt bq1) (ac (ktf bq2) (ac (ktf bq2) (ac (ktf bq2) (ac (ktt bq1) (ac (ktt bq1) (ac bq0 (ac (kff bq0) (ac (kff bq0) (ac (kff bq0) an)))))))))))))))))))))))))))))))))))

theorem bar_in_28 {k n : Int} {s : ByteArray} {xb : Bool} {eb : Es} {xf : Bool} {ef : Es} {xl : Bool} {el : Es} {bn bs : Bool} {bb bf bl : Bool} (h0 : bn = false) (h1 : n = (0 : Int)) (h2 : bs = true) (h3 : bb = false) (h4 : (↑(List.length eb) : Int) = (0 : Int)) (h5 : bf = true) (h6 : bl = true) : Ret P T 53 [D.agg (valk.val k n s xb eb xf ef xl el), D.bool bn, D.bool bs, D.bool bb, D.bool bf, D.bool bl] [] (D.bool true) [] :=
  have bq0 := h0
  have bq1 := beq_iff_eq.2 h1
  have bq2 := h2
  have bq3 := h3
  have bq4 := beq_iff_eq.2 h4
  have bq5 := h5
  have bq6 := h6
  fin_call bar_fn bar_body bar_name (fr 53 0 (bar_ok k n s xb eb xf ef xl el bn bs bb bf bl) (pth 39 485204950583) (ac tru (ac bq6 (ac tru (ac (ktf bq6) (ac (ktf bq6) (ac (ktf bq6) (ac (ktf bq6) (ac tru (ac tru (ac bq4 (ac bq5 (ac (ktt bq4) (ac (ktf bq5) (ac (ktf bq5) (ac (ktf bq5) (ac (ktf bq5) (ac (ktt bq4) (ac (ktt bq4) (ac tru (ac bq3 (ac tru (ac (kff bq3) (ac (kff bq3) (ac (kff bq3) (ac (kff bq3) (ac tru (ac tru (ac bq1 (ac bq2 (ac (ktt bq1) (ac (ktf bq2) (ac (ktf bq2) (ac (ktf bq2) (ac (ktt bq1) (ac (ktt bq1) (ac bq0 (ac (kff bq0) (ac (kff bq0) (ac (kff bq0) an))))))))))))))))))))))))))))))))))))))))

theorem bar_in_29 {k n : Int} {s : ByteArray} {xb : Bool} {eb : Es} {xf : Bool} {ef : Es} {xl : Bool} {el : Es} {bn bs : Bool} {bb bf bl : Bool} (h0 : bn = false) (h1 : n = (0 : Int)) (h2 : bs = true) (h3 : bb = false) (h4 : (↑(List.length eb) : Int) = (0 : Int)) (h5 : bf = true) (h6 : bl = false) : Ret P T 53 [D.agg (valk.val k n s xb eb xf ef xl el), D.bool bn, D.bool bs, D.bool bb, D.bool bf, D.bool bl] [] (D.bool ((↑(List.length el) : Int) == (0 : Int))) [] :=
  have bq0 := h0
  have bq1 := beq_iff_eq.2 h1
  have bq2 := h2
  have bq3 := h3
  have bq4 := beq_iff_eq.2 h4
  have bq5 := h5
  have bq6 := h6
  fin_call bar_fn bar_body bar_name (fr 53 0 (bar_ok k n s xb eb xf ef xl el bn bs bb bf bl) (pth 39 412190506551) (ac tru (ac bq6 (ac tru (ac (kff bq6) (ac (kff bq6) (ac (kff bq6) (ac (kff bq6) (ac tru (ac tru (ac bq4 (ac bq5 (ac (ktt bq4) (ac (ktf bq5) (ac (ktf bq5) (ac (ktf bq5) (ac (ktf bq5) (ac (ktt bq4) (ac (ktt bq4) (ac tru (ac bq3 (ac tru (ac (kff bq3) (ac (kff bq3) (ac (kff bq3) (ac (kff bq3) (ac tru (ac tru (ac bq1 (ac bq2 (ac (ktt bq1) (ac (ktf bq2) (ac (ktf bq2) (ac (ktf bq2) (ac (ktt bq1) (ac (ktt bq1) (ac bq0 (ac (kff bq0) (ac (kff bq0) (ac (kff bq0) an))))))))))))))))))))))))))))))))))))))))

theorem bar_in_30 {k n : Int} {s : ByteArray} {xb : Bool} {eb : Es} {xf : Bool} {ef : Es} {xl : Bool} {el : Es} {bn bs : Bool} {bb bf bl : Bool} (h0 : bn = false) (h1 : n = (0 : Int)) (h2 : bs = true) (h3 : bb = false) (h4 : (↑(List.length eb) : Int) = (0 : Int)) (h5 : bf = false) (h6 : (↑(List.length ef) : Int) = (0 : Int)) (h7 : bl = true) : Ret P T 53 [D.agg (valk.val k n s xb eb xf ef xl el), D.bool bn, D.bool bs, D.bool bb, D.bool bf, D.bool bl] [] (D.bool true) [] :=
  have bq0 := h0
  have bq1 := beq_iff_eq.2 h1
  have bq2 := h2
  have bq3 := h3
  have bq4 := beq_iff_eq.2 h4
  have bq5 := h5
  have bq6 := beq_iff_eq.2 h6
  have bq7 := h7
  fin_call bar_fn bar_body bar_name (fr 53 0 (bar_ok k n s xb eb xf ef xl el bn bs bb bf bl) (pth 39 485062344247) (ac bq6 (ac bq7 (ac (ktt bq6) (ac (ktf bq7) (ac (ktf bq7) (ac (ktf bq7) (ac (ktf bq7) (ac (ktt bq6) (ac (ktt bq6) (ac bq4 (ac bq5 (ac (ktt bq4) (ac (kff bq5) (ac (kff bq5) (ac (kff bq5) (ac (kff bq5) (ac (ktt bq4) (ac (ktt bq4) (ac tru (ac bq3 (ac tru (ac (kff bq3) (ac (kff bq3) (ac (kff bq3) (ac (kff bq3) (ac tru (ac tru (ac bq1 (ac bq2 (ac (ktt bq1) (ac (ktf bq2) (ac (ktf bq2) (ac (ktf bq2) (ac (ktt bq1) (ac (ktt bq1) (ac bq0 (ac (kff bq0) (ac (kff bq0) (ac (kff bq0) an))))))))))))))))))))))))))))))))))))))))

theorem bar_in_31 {k n : Int} {s : ByteArray} {xb : Bool} {eb : Es} {xf : Bool} {ef : Es} {xl : Bool} {el : Es} {bn bs : Bool} {bb bf bl : Bool} (h0 : bn = false) (h1 : n = (0 : Int)) (h2 : bs = true) (h3 : bb = false) (h4 : (↑(List.length eb) : Int) = (0 : Int)) (h5 : bf = false) (h6 : (↑(List.length ef) : Int) = (0 : Int)) (h7 : bl = false) : Ret P T 53 [D.agg (valk.val k n s xb eb xf ef xl el), D.bool bn, D.bool bs, D.bool bb, D.bool bf, D.bool bl] [] (D.bool ((↑(List.length el) : Int) == (0 : Int))) [] :=
  have bq0 := h0
  have bq1 := beq_iff_eq.2 h1
  have bq2 := h2
  have bq3 := h3
  have bq4 := beq_iff_eq.2 h4
  have bq5 := h5
  have bq6 := beq_iff_eq.2 h6
  have bq7 := h7
  fin_call bar_fn bar_body bar_name (fr 53 0 (bar_ok k n s xb eb xf ef xl el bn bs bb bf bl) (pth 39 412047900215) (ac bq6 (ac bq7 (ac (ktt bq6) (ac (kff bq7) (ac (kff bq7) (ac (kff bq7) (ac (kff bq7) (ac (ktt bq6) (ac (ktt bq6) (ac bq4 (ac bq5 (ac (ktt bq4) (ac (kff bq5) (ac (kff bq5) (ac (kff bq5) (ac (kff bq5) (ac (ktt bq4) (ac (ktt bq4) (ac tru (ac bq3 (ac tru (ac (kff bq3) (ac (kff bq3) (ac (kff bq3) (ac (kff bq3) (ac tru (ac tru (ac bq1 (ac bq2 (ac (ktt bq1) (ac (ktf bq2) (ac (ktf bq2) (ac (ktf bq2) (ac (ktt bq1) (ac (ktt bq1) (ac bq0 (ac (kff bq0) (ac (kff bq0) (ac (kff bq0) an))))))))))))))))))))))))))))))))))))))))

theorem bar_in_32 {k n : Int} {s : ByteArray} {xb : Bool} {eb : Es} {xf : Bool} {ef : Es} {xl : Bool} {el : Es} {bn bs : Bool} {bb bf bl : Bool} (h0 : bn = false) (h1 : n = (0 : Int)) (h2 : bs = true) (h3 : bb = false) (h4 : (↑(List.length eb) : Int) = (0 : Int)) (h5 : bf = false) (h6 : (↑(List.length ef) : Int) ≠ (0 : Int)) : Ret P T 53 [D.agg (valk.val k n s xb eb xf ef xl el), D.bool bn, D.bool bs, D.bool bb, D.bool bf, D.bool bl] [] (D.bool false) [] :=
  have bq0 := h0
  have bq1 := beq_iff_eq.2 h1
  have bq2 := h2
  have bq3 := h3
  have bq4 := beq_iff_eq.2 h4
  have bq5 := h5
  have bq6 := beq_eq_false_iff_ne.2 h6
  fin_call bar_fn bar_body bar_name (fr 53 0 (bar_ok k n s xb eb xf ef xl el bn bs bb bf bl) (pth 34 804781623) (ac bq6 (ac (kft bq6) (ac (kft bq6) (ac (kft bq6) (ac bq4 (ac bq5 (ac (ktt bq4) (ac (kff bq5) (ac (kff bq5) (ac (kff bq5) (ac (kff bq5) (ac (ktt bq4) (ac (ktt bq4) (ac tru (ac bq3 (ac tru (ac (kff bq3) (ac (kff bq3) (ac (kff bq3) (ac (kff bq3) (ac tru (ac tru (ac bq1 (ac bq2 (ac (ktt bq1) (ac (ktf bq2) (ac (ktf bq2) (ac (ktf bq2) (ac (ktt bq1) (ac (ktt bq1) (ac bq0 (ac (kff bq0) (ac (kff bq0) (ac (kff bq0) an)))))))))))))))))))))))))))))))))))

theorem bar_in_33 {k n : Int} {s : ByteArray} {xb : Bool} {eb : Es} {xf : Bool} {ef : Es} {xl : Bool} {el : Es} {bn bs : Bool} {bb bf bl : Bool} (h0 : bn = false) (h1 : n = (0 : Int)) (h2 : bs = true) (h3 : bb = false) (h4 : (↑(List.length eb) : Int) ≠ (0 : Int)) : Ret P T 53 [D.agg (valk.val k n s xb eb xf ef xl el), D.bool bn, D.bool bs, D.bool bb, D.bool bf, D.bool bl] [] (D.bool false) [] :=
  have bq0 := h0
  have bq1 := beq_iff_eq.2 h1
  have bq2 := h2
  have bq3 := h3
  have bq4 := beq_eq_false_iff_ne.2 h4
  fin_call bar_fn bar_body bar_name (fr 53 0 (bar_ok k n s xb eb xf ef xl el bn bs bb bf bl) (pth 29 1572407) (ac (show false = false from rfl) (ac (show false = false from rfl) (ac (show false = false from rfl) (ac (show false = false from rfl) (ac bq4 (ac (kft bq4) (ac (kft bq4) (ac (kft bq4) (ac tru (ac bq3 (ac tru (ac (kff bq3) (ac (kff bq3) (ac (kff bq3) (ac (kff bq3) (ac tru (ac tru (ac bq1 (ac bq2 (ac (ktt bq1) (ac (ktf bq2) (ac (ktf bq2) (ac (ktf bq2) (ac (ktt bq1) (ac (ktt bq1) (ac bq0 (ac (kff bq0) (ac (kff bq0) (ac (kff bq0) an))))))))))))))))))))))))))))))

theorem bar_in_34 {k n : Int} {s : ByteArray} {xb : Bool} {eb : Es} {xf : Bool} {ef : Es} {xl : Bool} {el : Es} {bn bs : Bool} {bb bf bl : Bool} (h0 : bn = false) (h1 : n = (0 : Int)) (h2 : bs = false) (h3 : s.toList = bE.toList) (h4 : bb = true) (h5 : bf = true) (h6 : bl = true) : Ret P T 53 [D.agg (valk.val k n s xb eb xf ef xl el), D.bool bn, D.bool bs, D.bool bb, D.bool bf, D.bool bl] [] (D.bool true) [] :=
  have bq0 := h0
  have bq1 := beq_iff_eq.2 h1
  have bq2 := h2
  have bq3 := beq_iff_eq.2 h3
  have bq4 := h4
  have bq5 := h5
  have bq6 := h6
  fin_call bar_fn bar_body bar_name (fr 53 0 (bar_ok k n s xb eb xf ef xl el bn bs bb bf bl) (pth 39 485205228535) (ac tru (ac bq6 (ac tru (ac (ktf bq6) (ac (ktf bq6) (ac (ktf bq6) (ac (ktf bq6) (ac tru (ac tru (ac tru (ac bq5 (ac tru (ac (ktf bq5) (ac (ktf bq5) (ac (ktf bq5) (ac (ktf bq5) (ac tru (ac tru (ac bq3 (ac bq4 (ac (ktt bq3) (ac (ktf bq4) (ac (ktf bq4) (ac (ktf bq4) (ac (ktf bq4) (ac (ktt bq3) (ac (ktt bq3) (ac bq1 (ac bq2 (ac (ktt bq1) (ac (kff bq2) (ac (kff bq2) (ac (kff bq2) (ac (ktt bq1) (ac (ktt bq1) (ac bq0 (ac (kff bq0) (ac (kff bq0) (ac (kff bq0) an))))))))))))))))))))))))))))))))))))))))

theorem bar_in_35 {k n : Int} {s : ByteArray} {xb : Bool} {eb : Es} {xf : Bool} {ef : Es} {xl : Bool} {el : Es} {bn bs : Bool} {bb bf bl : Bool} (h0 : bn = false) (h1 : n = (0 : Int)) (h2 : bs = false) (h3 : s.toList = bE.toList) (h4 : bb = true) (h5 : bf = true) (h6 : bl = false) : Ret P T 53 [D.agg (valk.val k n s xb eb xf ef xl el), D.bool bn, D.bool bs, D.bool bb, D.bool bf, D.bool bl] [] (D.bool ((↑(List.length el) : Int) == (0 : Int))) [] :=
  have bq0 := h0
  have bq1 := beq_iff_eq.2 h1
  have bq2 := h2
  have bq3 := beq_iff_eq.2 h3
  have bq4 := h4
  have bq5 := h5
  have bq6 := h6
  fin_call bar_fn bar_body bar_name (fr 53 0 (bar_ok k n s xb eb xf ef xl el bn bs bb bf bl) (pth 39 412190784503) (ac tru (ac bq6 (ac tru (ac (kff bq6) (ac (kff bq6) (ac (kff bq6) (ac (kff bq6) (ac tru (ac tru (ac tru (ac bq5 (ac tru (ac (ktf bq5) (ac (ktf bq5) (ac (ktf bq5) (ac (ktf bq5) (ac tru (ac tru (ac bq3 (ac bq4 (ac (ktt bq3) (ac (ktf bq4) (ac (ktf bq4) (ac (ktf bq4) (ac (ktf bq4) (ac (ktt bq3) (ac (ktt bq3) (ac bq1 (ac bq2 (ac (ktt bq1) (ac (kff bq2) (ac (kff bq2) (ac (kff bq2) (ac (ktt bq1) (ac (ktt bq1) (ac bq0 (ac (kff bq0) (ac (kff bq0) (ac (kff bq0) an))))))))))))))))))))))))))))))))))))))))

theorem bar_in_36 {k n : Int} {s : ByteArray} {xb : Bool} {eb : Es} {xf : Bool} {ef : Es} {xl : Bool} {el : Es} {bn bs : Bool} {bb bf bl : Bool} (h0 : bn = false) (h1 : n = (0 : Int)) (h2 : bs = false) (h3 : s.toList = bE.toList) (h4 : bb = true) (h5 : bf = false) (h6 : (↑(List.length ef) : Int) = (0 : Int)) (h7 : bl = true) : Ret P T 53 [D.agg (valk.val k n s xb eb xf ef xl el), D.bool bn, D.bool bs, D.bool bb, D.bool bf, D.bool bl] [] (D.bool true) [] :=
  have bq0 := h0
  have bq1 := beq_iff_eq.2 h1
  have bq2 := h2
  have bq3 := beq_iff_eq.2 h3
  have bq4 := h4
  have bq5 := h5
  have bq6 := beq_iff_eq.2 h6
  have bq7 := h7
  fin_call bar_fn bar_body bar_name (fr 53 0 (bar_ok k n s xb eb xf ef xl el bn bs bb bf bl) (pth 39 485062622199) (ac bq6 (ac bq7 (ac (ktt bq6) (ac (ktf bq7) (ac (ktf bq7) (ac (ktf bq7) (ac (ktf bq7) (ac (ktt bq6) (ac (ktt bq6) (ac tru (ac bq5 (ac tru (ac (kff bq5) (ac (kff bq5) (ac (kff bq5) (ac (kff bq5) (ac tru (ac tru (ac bq3 (ac bq4 (ac (ktt bq3) (ac (ktf bq4) (ac (ktf bq4) (ac (ktf bq4) (ac (ktf bq4) (ac (ktt bq3) (ac (ktt bq3) (ac bq1 (ac bq2 (ac (ktt bq1) (ac (kff bq2) (ac (kff bq2) (ac (kff bq2) (ac (ktt bq1) (ac (ktt bq1) (ac bq0 (ac (kff bq0) (ac (kff bq0) (ac (kff bq0) an))))))))))))))))))))))))))))))))))))))))

theorem bar_in_37 {k n : Int} {s : ByteArray} {xb : Bool} {eb : Es} {xf : Bool} {ef : Es} {xl : Bool} {el : Es} {bn bs : Bool} {bb bf bl : Bool} (h0 : bn = false) (h1 : n = (0 : Int)) (h2 : bs = false) (h3 : s.toList = bE.toList) (h4 : bb = true) (h5 : bf = false) (h6 : (↑(List.length ef) : Int) = (0 : Int)) (h7 : bl = false) : Ret P T 53 [D.agg (valk.val k n s xb eb xf ef xl el), D.bool bn, D.bool bs, D.bool bb, D.bool bf, D.bool bl] [] (D.bool ((↑(List.length el) : Int) == (0 : Int))) [] :=
  have bq0 := h0
  have bq1 := beq_iff_eq.2 h1
  have bq2 := h2
  have bq3 := beq_iff_eq.2 h3
  have bq4 := h4
  have bq5 := h5
  have bq6 := beq_iff_eq.2 h6
  have bq7 := h7
  fin_call bar_fn bar_body bar_name (fr 53 0 (bar_ok k n s xb eb xf ef xl el bn bs bb bf bl) (pth 39 412048178167) (ac bq6 (ac bq7 (ac (ktt bq6) (ac (kff bq7) (ac (kff bq7) (ac (kff bq7) (ac (kff bq7) (ac (ktt bq6) (ac (ktt bq6) (ac tru (ac bq5 (ac tru (ac (kff bq5) (ac (kff bq5) (ac (kff bq5) (ac (kff bq5) (ac tru (ac tru (ac bq3 (ac bq4 (ac (ktt bq3) (ac (ktf bq4) (ac (ktf bq4) (ac (ktf bq4) (ac (ktf bq4) (ac (ktt bq3) (ac (ktt bq3) (ac bq1 (ac bq2 (ac (ktt bq1) (ac (kff bq2) (ac (kff bq2) (ac (kff bq2) (ac (ktt bq1) (ac (ktt bq1) (ac bq0 (ac (kff bq0) (ac (kff bq0) (ac (kff bq0) an))))))))))))))))))))))))))))))))))))))))

theorem bar_in_38 {k n : Int} {s : ByteArray} {xb : Bool} {eb : Es} {xf : Bool} {ef : Es} {xl : Bool} {el : Es} {bn bs : Bool} {bb bf bl : Bool} (h0 : bn = false) (h1 : n = (0 : Int)) (h2 : bs = false) (h3 : s.toList = bE.toList) (h4 : bb = true) (h5 : bf = false) (h6 : (↑(List.length ef) : Int) ≠ (0 : Int)) : Ret P T 53 [D.agg (valk.val k n s xb eb xf ef xl el), D.bool bn, D.bool bs, D.bool bb, D.bool bf, D.bool bl] [] (D.bool false) [] :=
  have bq0 := h0
  have bq1 := beq_iff_eq.2 h1
  have bq2 := h2
  have bq3 := beq_iff_eq.2 h3
  have bq4 := h4
  have bq5 := h5
  have bq6 := beq_eq_false_iff_ne.2 h6
  fin_call bar_fn bar_body bar_name (fr 53 0 (bar_ok k n s xb eb xf ef xl el bn bs bb bf bl) (pth 34 805059575) (ac bq6 (ac (kft bq6) (ac (kft bq6) (ac (kft bq6) (ac tru (ac bq5 (ac tru (ac (kff bq5) (ac (kff bq5) (ac (kff bq5) (ac (kff bq5) (ac tru (ac tru (ac bq3 (ac bq4 (ac (ktt bq3) (ac (ktf bq4) (ac (ktf bq4) (ac (ktf bq4) (ac (ktf bq4) (ac (ktt bq3) (ac (ktt bq3) (ac bq1 (ac bq2 (ac (ktt bq1) (ac (kff bq2) (ac (kff bq2) (ac (kff bq2) (ac (ktt bq1) (ac (ktt bq1) (ac bq0 (ac (kff bq0) (ac (kff bq0) (ac (kff bq0) an)))))))))))))))))))))))))))))))))))

theorem bar_in_39 {k n : Int} {s : ByteArray} {xb : Bool} {eb : Es} {xf : Bool} {ef : Es} {xl : Bool} {el : Es} {bn bs : Bool} {bb bf bl : Bool} (h0 : bn = false) (h1 : n = (0 : Int)) (h2 : bs = false) (h3 : s.toList = bE.toList) (h4 : bb = false) (h5 : (↑(List.length eb) : Int) = (0 : Int)) (h6 : bf = true) (h7 : bl = true) : Ret P T 53 [D.agg (valk.val k n s xb eb xf ef xl el), D.bool bn, D.bool bs, D.bool bb, D.bool bf, D.bool bl] [] (D.bool true) [] :=
  have bq0 := h0
  have bq1 := beq_iff_eq.2 h1
  have bq2 := h2
  have bq3 := beq_iff_eq.2 h3
  have bq4 := h4
  have bq5 := beq_iff_eq.2 h5
  have bq6 := h6
  have bq7 := h7
  fin_call bar_fn bar_body bar_name (fr 53 0 (bar_ok k n s xb eb xf ef xl el bn bs bb bf bl) (pth 39 485204950007) (ac tru (ac bq7 (ac tru (ac (ktf bq7) (ac (ktf bq7) (ac (ktf bq7) (ac (ktf bq7) (ac tru (ac tru (ac bq5 (ac bq6 (ac (ktt bq5) (ac (ktf bq6) (ac (ktf bq6) (ac (ktf bq6) (ac (ktf bq6) (ac (ktt bq5) (ac (ktt bq5) (ac bq3 (ac bq4 (ac (ktt bq3) (ac (kff bq4) (ac (kff bq4) (ac (kff bq4) (ac (kff bq4) (ac (ktt bq3) (ac (ktt bq3) (ac bq1 (ac bq2 (ac (ktt bq1) (ac (kff bq2) (ac (kff bq2) (ac (kff bq2) (ac (ktt bq1) (ac (ktt bq1) (ac bq0 (ac (kff bq0) (ac (kff bq0) (ac (kff bq0) an))))))))))))))))))))))))))))))))))))))))

theorem bar_in_40 {k n : Int} {s : ByteArray} {xb : Bool} {eb : Es} {xf : Bool} {ef : Es} {xl : Bool} {el : Es} {bn bs : Bool} {bb bf bl : Bool} (h0 : bn = false) (h1 : n = (0 : Int)) (h2 : bs = false) (h3 : s.toList = bE.toList) (h4 : bb = false) (h5 : (↑(List.length eb) : Int) = (0 : Int)) (h6 : bf = true) (h7 : bl = false) : Ret P T 53 [D.agg (valk.val k n s xb eb xf ef xl el), D.bool bn, D.bool bs, D.bool bb, D.bool bf, D.bool bl] [] (D.bool ((↑(List.length el) : Int) == (0 : Int))) [] :=
  have bq0 := h0
  have bq1 := beq_iff_eq.2 h1
  have bq2 := h2
  have bq3 := beq_iff_eq.2 h3
  have bq4 := h4
  have bq5 := beq_iff_eq.2 h5
  have bq6 := h6
  have bq7 := h7
  fin_call bar_fn bar_body bar_name (fr 53 0 (bar_ok k n s xb eb xf ef xl el bn bs bb bf bl) (pth 39 412190505975) (ac tru (ac bq7 (ac tru (ac (kff bq7) (ac (kff bq7) (ac (kff bq7) (ac (kff bq7) (ac tru (ac tru (ac bq5 (ac bq6 (ac (ktt bq5) (ac (ktf bq6) (ac (ktf bq6) (ac (ktf bq6) (ac (ktf bq6) (ac (ktt bq5) (ac (ktt bq5) (ac bq3 (ac bq4 (ac (ktt bq3) (ac (kff bq4) (ac (kff bq4) (ac (kff bq4) (ac (kff bq4) (ac (ktt bq3) (ac (ktt bq3) (ac bq1 (ac bq2 (ac (ktt bq1) (ac (kff bq2) (ac (kff bq2) (ac (kff bq2) (ac (ktt bq1) (ac (ktt bq1) (ac bq0 (ac (kff bq0) (ac (kff bq0) (ac (kff bq0) an))))))))))))))))))))))))))))))))))))))))

theorem bar_in_41 {k n : Int} {s : ByteArray} {xb : Bool} {eb : Es} {xf : Bool} {ef : Es} {xl : Bool} {el : Es} {bn bs : Bool} {bb bf bl : Bool} (h0 : bn = false) (h1 : n = (0 : Int)) (h2 : bs = false) (h3 : s.toList = bE.toList) (h4 : bb = false) (h5 : (↑(List.length eb) : Int) = (0 : Int)) (h6 : bf = false) (h7 : (↑(List.length ef) : Int) = (0 : Int)) (h8 : bl = true) : Ret P T 53 [D.agg (valk.val k n s xb eb xf ef xl el), D.bool bn, D.bool bs, D.bool bb, D.bool bf, D.bool bl] [] (D.bool true) [] :=
  have bq0 := h0
  have bq1 := beq_iff_eq.2 h1
  have bq2 := h2
  have bq3 := beq_iff_eq.2 h3
  have bq4 := h4
  have bq5 := beq_iff_eq.2 h5
  have bq6 := h6
  have bq7 := beq_iff_eq.2 h7
  have bq8 := h8
  fin_call bar_fn bar_body bar_name (fr 53 0 (bar_ok k n s xb eb xf ef xl el bn bs bb bf bl) (pth 39 485062343671) (ac bq7 (ac bq8 (ac (ktt bq7) (ac (ktf bq8) (ac (ktf bq8) (ac (ktf bq8) (ac (ktf bq8) (ac (ktt bq7) (ac (ktt bq7) (ac bq5 (ac bq6 (ac (ktt bq5) (ac (kff bq6) (ac (kff bq6) (ac (kff bq6) (ac (kff bq6) (ac (ktt bq5) (ac (ktt bq5) (ac bq3 (ac bq4 (ac (ktt bq3) (ac (kff bq4) (ac (kff bq4) (ac (kff bq4) (ac (kff bq4) (ac (ktt bq3) (ac (ktt bq3) (ac bq1 (ac bq2 (ac (ktt bq1) (ac (kff bq2) (ac (kff bq2) (ac (kff bq2) (ac (ktt bq1) (ac (ktt bq1) (ac bq0 (ac (kff bq0) (ac (kff bq0) (ac (kff bq0) an))))))))))))))))))))))))))))))))))))))))

theorem bar_in_42 {k n : Int} {s : ByteArray} {xb : Bool} {eb : Es} {xf : Bool} {ef : Es} {xl : Bool} {el : Es} {bn bs : Bool} {bb bf bl : Bool} (h0 : bn = false) (h1 : n = (0 : Int)) (h2 : bs = false) (h3 : s.toList = bE.toList) (h4 : bb = false) (h5 : (↑(List.length eb) : Int) = (0 : Int)) (h6 : bf = false) (h7 : (↑(List.length ef) : Int) = (0 : Int)) (h8 : bl = false) : Ret P T 53 [D.agg (valk.val k n s xb eb xf ef xl el), D.bool bn, D.bool bs, D.bool bb, D.bool bf, D.bool bl] [] (D.bool ((↑(List.length el) : Int) == (0 : Int))) [] :=
  have bq0 := h0
  have bq1 := beq_iff_eq.2 h1
  have bq2 := h2
  have bq3 := beq_iff_eq.2 h3
  have bq4 := h4
  have bq5 := beq_iff_eq.2 h5
  have bq6 := h6
  have bq7 := beq_iff_eq.2 h7
  have bq8 := h8
  fin_call bar_fn bar_body bar_name (fr 53 0 (bar_ok k n s xb eb xf ef xl el bn bs bb bf bl) (pth 39 412047899639) (ac bq7 (ac bq8 (ac (ktt bq7) (ac (kff bq8) (ac (kff bq8) (ac (kff bq8) (ac (kff bq8) (ac (ktt bq7) (ac (ktt bq7) (ac bq5 (ac bq6 (ac (ktt bq5) (ac (kff bq6) (ac (kff bq6) (ac (kff bq6) (ac (kff bq6) (ac (ktt bq5) (ac (ktt bq5) (ac bq3 (ac bq4 (ac (ktt bq3) (ac (kff bq4) (ac (kff bq4) (ac (kff bq4) (ac (kff bq4) (ac (ktt bq3) (ac (ktt bq3) (ac bq1 (ac bq2 (ac (ktt bq1) (ac (kff bq2) (ac (kff bq2) (ac (kff bq2) (ac (ktt bq1) (ac (ktt bq1) (ac bq0 (ac (kff bq0) (ac (kff bq0) (ac (kff bq0) an))))))))))))))))))))))))))))))))))))))))

theorem bar_in_43 {k n : Int} {s : ByteArray} {xb : Bool} {eb : Es} {xf : Bool} {ef : Es} {xl : Bool} {el : Es} {bn bs : Bool} {bb bf bl : Bool} (h0 : bn = false) (h1 : n = (0 : Int)) (h2 : bs = false) (h3 : s.toList = bE.toList) (h4 : bb = false) (h5 : (↑(List.length eb) : Int) = (0 : Int)) (h6 : bf = false) (h7 : (↑(List.length ef) : Int) ≠ (0 : Int)) : Ret P T 53 [D.agg (valk.val k n s xb eb xf ef xl el), D.bool bn, D.bool bs, D.bool bb, D.bool bf, D.bool bl] [] (D.bool false) [] :=
  have bq0 := h0
  have bq1 := beq_iff_eq.2 h1
  have bq2 := h2
  have bq3 := beq_iff_eq.2 h3
  have bq4 := h4
  have bq5 := beq_iff_eq.2 h5
  have bq6 := h6
  have bq7 := beq_eq_false_iff_ne.2 h7
  fin_call bar_fn bar_body bar_name (fr 53 0 (bar_ok k n s xb eb xf ef xl el bn bs bb bf bl) (pth 34 804781047) (ac bq7 (ac (kft bq7) (ac (kft bq7) (ac (kft bq7) (ac bq5 (ac bq6 (ac (ktt bq5) (ac (kff bq6) (ac (kff bq6) (ac (kff bq6) (ac (kff bq6) (ac (ktt bq5) (ac (ktt bq5) (ac bq3 (ac bq4 (ac (ktt bq3) (ac (kff bq4) (ac (kff bq4) (ac (kff bq4) (ac (kff bq4) (ac (ktt bq3) (ac (ktt bq3) (ac bq1 (ac bq2 (ac (ktt bq1) (ac (kff bq2) (ac (kff bq2) (ac (kff bq2) (ac (ktt bq1) (ac (ktt bq1) (ac bq0 (ac (kff bq0) (ac (kff bq0) (ac (kff bq0) an)))))))))))))))))))))))))))))))))))

theorem bar_in_44 {k n : Int} {s : ByteArray} {xb : Bool} {eb : Es} {xf : Bool} {ef : Es} {xl : Bool} {el : Es} {bn bs : Bool} {bb bf bl : Bool} (h0 : bn = false) (h1 : n = (0 : Int)) (h2 : bs = false) (h3 : s.toList = bE.toList) (h4 : bb = false) (h5 : (↑(List.length eb) : Int) ≠ (0 : Int)) : Ret P T 53 [D.agg (valk.val k n s xb eb xf ef xl el), D.bool bn, D.bool bs, D.bool bb, D.bool bf, D.bool bl] [] (D.bool false) [] :=
  have bq0 := h0
  have bq1 := beq_iff_eq.2 h1
  have bq2 := h2
  have bq3 := beq_iff_eq.2 h3
  have bq4 := h4
  have bq5 := beq_eq_false_iff_ne.2 h5
  fin_call bar_fn bar_body bar_name (fr 53 0 (bar_ok k n s xb eb xf ef xl el bn bs bb bf bl) (pth 29 1571831) (ac (show false = false from rfl) (ac (show false = false from rfl) (ac (show false = false from rfl) (ac (show false = false from rfl) (ac bq5 (ac (kft bq5) (ac (kft bq5) (ac (kft bq5) (ac bq3 (ac bq4 (ac (ktt bq3) (ac (kff bq4) (ac (kff bq4) (ac (kff bq4) (ac (kff bq4) (ac (ktt bq3) (ac (ktt bq3) (ac bq1 (ac bq2 (ac (ktt bq1) (ac (kff bq2) (ac (kff bq2) (ac (kff bq2) (ac (ktt bq1) (ac (ktt bq1) (ac bq0 (ac (kff bq0) (ac (kff bq0) (ac (kff bq0) an))))))))))))))))))))))))))))))

theorem bar_in_45 {k n : Int} {s : ByteArray} {xb : Bool} {eb : Es} {xf : Bool} {ef : Es} {xl : Bool} {el : Es} {bn bs : Bool} {bb bf bl : Bool} (h0 : bn = false) (h1 : n = (0 : Int)) (h2 : bs = false) (h3 : s.toList ≠ bE.toList) : Ret P T 53 [D.agg (valk.val k n s xb eb xf ef xl el), D.bool bn, D.bool bs, D.bool bb, D.bool bf, D.bool bl] [] (D.bool false) [] :=
  have bq0 := h0
  have bq1 := beq_iff_eq.2 h1
  have bq2 := h2
  have bq3 := beq_eq_false_iff_ne.2 h3
  fin_call bar_fn bar_body bar_name (fr 53 0 (bar_ok k n s xb eb xf ef xl el bn bs bb bf bl) (pth 24 3063) (ac (show false = false from rfl) (ac (show false = false from rfl) (ac (show false = false from rfl) (ac (show false = false from rfl) (ac (show false = false from rfl) (ac (show false = false from rfl) (ac (show false = false from rfl) (ac (show false = false from rfl) (ac bq3 (ac (kft bq3) (ac (kft bq3) (ac (kft bq3) (ac bq1 (ac bq2 (ac (ktt bq1) (ac (kff bq2) (ac (kff bq2) (ac (kff bq2) (ac (ktt bq1) (ac (ktt bq1) (ac bq0 (ac (kff bq0) (ac (kff bq0) (ac (kff bq0) an)))))))))))))))))))))))))

theorem bar_in_46 {k n : Int} {s : ByteArray} {xb : Bool} {eb : Es} {xf : Bool} {ef : Es} {xl : Bool} {el : Es} {bn bs : Bool} {bb bf bl : Bool} (h0 : bn = false) (h1 : n ≠ (0 : Int)) : Ret P T 53 [D.agg (valk.val k n s xb eb xf ef xl el), D.bool bn, D.bool bs, D.bool bb, D.bool bf, D.bool bl] [] (D.bool false) [] :=
  have bq0 := h0
  have bq1 := beq_eq_false_iff_ne.2 h1
  fin_call bar_fn bar_body bar_name (fr 53 0 (bar_ok k n s xb eb xf ef xl el bn bs bb bf bl) (pth 20 7) (ac (show false = false from rfl) (ac (show false = false from rfl) (ac (show false = false from rfl) (ac (show false = false from rfl) (ac (show false = false from rfl) (ac (show false = false from rfl) (ac (show false = false from rfl) (ac (show false = false from rfl) (ac (show false = false from rfl) (ac (show false = false from rfl) (ac (show false = false from rfl) (ac (show false = false from rfl) (ac bq1 (ac (kft bq1) (ac (kft bq1) (ac (kft bq1) (ac bq0 (ac (kff bq0) (ac (kff bq0) (ac (kff bq0) an)))))))))))))))))))))



def bareB (bn bs bb bf bl : Bool) : Cs → Bool
  | [.int _ k, .int _ n, .str s, .slice _ eb _, .slice _ ef _, .slice _ el _] =>
    (bn || n == (0 : Int)) && ((bs || s.toList == (ByteArray.mk #[]).toList) && ((bb || ((List.length eb : Nat) : Int) == (0 : Int)) && ((bf || ((List.length ef : Nat) : Int) == (0 : Int)) && (bl || ((List.length el : Nat) : Int) == (0 : Int)))))
  | _ => false
theorem bare36 (k n : Int) (s : ByteArray) (xb : Bool) (eb : Es) (xf : Bool) (ef : Es) (xl : Bool) (el : Es) (bn bs bb bf bl : Bool) :
    Ret P T 53 [.agg (valk.val k n s xb eb xf ef xl el), .bool bn, .bool bs, .bool bb, .bool bf, .bool bl] [] (.bool (bareB bn bs bb bf bl (valk.val k n s xb eb xf ef xl el))) [] := by
  cases bn with
  | true =>
    cases bs with
    | true =>
      cases bb with
      | true =>
        cases bf with
        | true =>
          cases bl with
          | true =>
            rw [show bareB true true true true true (valk.val k n s xb eb xf ef xl el) = true by simp only [bareB, valk.val, Bool.true_or, Bool.false_or, Bool.true_and, Bool.false_and]]
            exact bar_in_0 rfl rfl rfl rfl rfl
          | false =>
            rw [show bareB true true true true false (valk.val k n s xb eb xf ef xl el) = (((List.length el : Nat) : Int) == (0 : Int)) by simp only [bareB, valk.val, Bool.true_or, Bool.false_or, Bool.true_and, Bool.false_and]]
            exact bar_in_1 rfl rfl rfl rfl rfl
        | false =>
          by_cases c3 : ((List.length ef : Nat) : Int) = (0 : Int)
          · have q3 : (((List.length ef : Nat) : Int) == (0 : Int)) = true := beq_iff_eq.2 c3
            cases bl with
            | true =>
              rw [show bareB true true true false true (valk.val k n s xb eb xf ef xl el) = true by simp only [bareB, valk.val, Bool.true_or, Bool.false_or, Bool.true_and, Bool.false_and, q3]]
              exact bar_in_2 rfl rfl rfl rfl c3 rfl
            | false =>
              rw [show bareB true true true false false (valk.val k n s xb eb xf ef xl el) = (((List.length el : Nat) : Int) == (0 : Int)) by simp only [bareB, valk.val, Bool.true_or, Bool.false_or, Bool.true_and, Bool.false_and, q3]]
              exact bar_in_3 rfl rfl rfl rfl c3 rfl
          · have q3 : (((List.length ef : Nat) : Int) == (0 : Int)) = false := beq_eq_false_iff_ne.2 c3
            rw [show bareB true true true false bl (valk.val k n s xb eb xf ef xl el) = false by simp only [bareB, valk.val, Bool.true_or, Bool.false_or, Bool.true_and, Bool.false_and, q3]]
            exact bar_in_4 rfl rfl rfl rfl c3
      | false =>
        by_cases c2 : ((List.length eb : Nat) : Int) = (0 : Int)
        · have q2 : (((List.length eb : Nat) : Int) == (0 : Int)) = true := beq_iff_eq.2 c2
          cases bf with
          | true =>
            cases bl with
            | true =>
              rw [show bareB true true false true true (valk.val k n s xb eb xf ef xl el) = true by simp only [bareB, valk.val, Bool.true_or, Bool.false_or, Bool.true_and, Bool.false_and, q2]]
              exact bar_in_5 rfl rfl rfl c2 rfl rfl
            | false =>
              rw [show bareB true true false true false (valk.val k n s xb eb xf ef xl el) = (((List.length el : Nat) : Int) == (0 : Int)) by simp only [bareB, valk.val, Bool.true_or, Bool.false_or, Bool.true_and, Bool.false_and, q2]]
              exact bar_in_6 rfl rfl rfl c2 rfl rfl
          | false =>
            by_cases c3 : ((List.length ef : Nat) : Int) = (0 : Int)
            · have q3 : (((List.length ef : Nat) : Int) == (0 : Int)) = true := beq_iff_eq.2 c3
              cases bl with
              | true =>
                rw [show bareB true true false false true (valk.val k n s xb eb xf ef xl el) = true by simp only [bareB, valk.val, Bool.true_or, Bool.false_or, Bool.true_and, Bool.false_and, q2, q3]]
                exact bar_in_7 rfl rfl rfl c2 rfl c3 rfl
              | false =>
                rw [show bareB true true false false false (valk.val k n s xb eb xf ef xl el) = (((List.length el : Nat) : Int) == (0 : Int)) by simp only [bareB, valk.val, Bool.true_or, Bool.false_or, Bool.true_and, Bool.false_and, q2, q3]]
                exact bar_in_8 rfl rfl rfl c2 rfl c3 rfl
            · have q3 : (((List.length ef : Nat) : Int) == (0 : Int)) = false := beq_eq_false_iff_ne.2 c3
              rw [show bareB true true false false bl (valk.val k n s xb eb xf ef xl el) = false by simp only [bareB, valk.val, Bool.true_or, Bool.false_or, Bool.true_and, Bool.false_and, q2, q3]]
              exact bar_in_9 rfl rfl rfl c2 rfl c3
        · have q2 : (((List.length eb : Nat) : Int) == (0 : Int)) = false := beq_eq_false_iff_ne.2 c2
          rw [show bareB true true false bf bl (valk.val k n s xb eb xf ef xl el) = false by simp only [bareB, valk.val, Bool.true_or, Bool.false_or, Bool.true_and, Bool.false_and, q2]]
          exact bar_in_10 rfl rfl rfl c2
    | false =>
      by_cases c1 : s.toList = (ByteArray.mk #[]).toList
      · have q1 : (s.toList == (ByteArray.mk #[]).toList) = true := beq_iff_eq.2 c1
        cases bb with
        | true =>
          cases bf with
          | true =>
            cases bl with
            | true =>
              rw [show bareB true false true true true (valk.val k n s xb eb xf ef xl el) = true by simp only [bareB, valk.val, Bool.true_or, Bool.false_or, Bool.true_and, Bool.false_and, q1]]
              exact bar_in_11 rfl rfl c1 rfl rfl rfl
            | false =>
              rw [show bareB true false true true false (valk.val k n s xb eb xf ef xl el) = (((List.length el : Nat) : Int) == (0 : Int)) by simp only [bareB, valk.val, Bool.true_or, Bool.false_or, Bool.true_and, Bool.false_and, q1]]
              exact bar_in_12 rfl rfl c1 rfl rfl rfl
          | false =>
            by_cases c3 : ((List.length ef : Nat) : Int) = (0 : Int)
            · have q3 : (((List.length ef : Nat) : Int) == (0 : Int)) = true := beq_iff_eq.2 c3
              cases bl with
              | true =>
                rw [show bareB true false true false true (valk.val k n s xb eb xf ef xl el) = true by simp only [bareB, valk.val, Bool.true_or, Bool.false_or, Bool.true_and, Bool.false_and, q1, q3]]
                exact bar_in_13 rfl rfl c1 rfl rfl c3 rfl
              | false =>
                rw [show bareB true false true false false (valk.val k n s xb eb xf ef xl el) = (((List.length el : Nat) : Int) == (0 : Int)) by simp only [bareB, valk.val, Bool.true_or, Bool.false_or, Bool.true_and, Bool.false_and, q1, q3]]
                exact bar_in_14 rfl rfl c1 rfl rfl c3 rfl
            · have q3 : (((List.length ef : Nat) : Int) == (0 : Int)) = false := beq_eq_false_iff_ne.2 c3
              rw [show bareB true false true false bl (valk.val k n s xb eb xf ef xl el) = false by simp only [bareB, valk.val, Bool.true_or, Bool.false_or, Bool.true_and, Bool.false_and, q1, q3]]
              exact bar_in_15 rfl rfl c1 rfl rfl c3
        | false =>
          by_cases c2 : ((List.length eb : Nat) : Int) = (0 : Int)
          · have q2 : (((List.length eb : Nat) : Int) == (0 : Int)) = true := beq_iff_eq.2 c2
            cases bf with
            | true =>
              cases bl with
              | true =>
                rw [show bareB true false false true true (valk.val k n s xb eb xf ef xl el) = true by simp only [bareB, valk.val, Bool.true_or, Bool.false_or, Bool.true_and, Bool.false_and, q1, q2]]
                exact bar_in_16 rfl rfl c1 rfl c2 rfl rfl
              | false =>
                rw [show bareB true false false true false (valk.val k n s xb eb xf ef xl el) = (((List.length el : Nat) : Int) == (0 : Int)) by simp only [bareB, valk.val, Bool.true_or, Bool.false_or, Bool.true_and, Bool.false_and, q1, q2]]
                exact bar_in_17 rfl rfl c1 rfl c2 rfl rfl
            | false =>
              by_cases c3 : ((List.length ef : Nat) : Int) = (0 : Int)
              · have q3 : (((List.length ef : Nat) : Int) == (0 : Int)) = true := beq_iff_eq.2 c3
                cases bl with
                | true =>
                  rw [show bareB true false false false true (valk.val k n s xb eb xf ef xl el) = true by simp only [bareB, valk.val, Bool.true_or, Bool.false_or, Bool.true_and, Bool.false_and, q1, q2, q3]]
                  exact bar_in_18 rfl rfl c1 rfl c2 rfl c3 rfl
                | false =>
                  rw [show bareB true false false false false (valk.val k n s xb eb xf ef xl el) = (((List.length el : Nat) : Int) == (0 : Int)) by simp only [bareB, valk.val, Bool.true_or, Bool.false_or, Bool.true_and, Bool.false_and, q1, q2, q3]]
                  exact bar_in_19 rfl rfl c1 rfl c2 rfl c3 rfl
              · have q3 : (((List.length ef : Nat) : Int) == (0 : Int)) = false := beq_eq_false_iff_ne.2 c3
                rw [show bareB true false false false bl (valk.val k n s xb eb xf ef xl el) = false by simp only [bareB, valk.val, Bool.true_or, Bool.false_or, Bool.true_and, Bool.false_and, q1, q2, q3]]
                exact bar_in_20 rfl rfl c1 rfl c2 rfl c3
          · have q2 : (((List.length eb : Nat) : Int) == (0 : Int)) = false := beq_eq_false_iff_ne.2 c2
            rw [show bareB true false false bf bl (valk.val k n s xb eb xf ef xl el) = false by simp only [bareB, valk.val, Bool.true_or, Bool.false_or, Bool.true_and, Bool.false_and, q1, q2]]
            exact bar_in_21 rfl rfl c1 rfl c2
      · have q1 : (s.toList == (ByteArray.mk #[]).toList) = false := beq_eq_false_iff_ne.2 c1
        rw [show bareB true false bb bf bl (valk.val k n s xb eb xf ef xl el) = false by simp only [bareB, valk.val, Bool.true_or, Bool.false_or, Bool.true_and, Bool.false_and, q1]]
        exact bar_in_22 rfl rfl c1
  | false =>
    by_cases c0 : n = (0 : Int)
    · have q0 : (n == (0 : Int)) = true := beq_iff_eq.2 c0
      cases bs with
      | true =>
        cases bb with
        | true =>
          cases bf with
          | true =>
            cases bl with
            | true =>
              rw [show bareB false true true true true (valk.val k n s xb eb xf ef xl el) = true by simp only [bareB, valk.val, Bool.true_or, Bool.false_or, Bool.true_and, Bool.false_and, q0]]
              exact bar_in_23 rfl c0 rfl rfl rfl rfl
            | false =>
              rw [show bareB false true true true false (valk.val k n s xb eb xf ef xl el) = (((List.length el : Nat) : Int) == (0 : Int)) by simp only [bareB, valk.val, Bool.true_or, Bool.false_or, Bool.true_and, Bool.false_and, q0]]
              exact bar_in_24 rfl c0 rfl rfl rfl rfl
          | false =>
            by_cases c3 : ((List.length ef : Nat) : Int) = (0 : Int)
            · have q3 : (((List.length ef : Nat) : Int) == (0 : Int)) = true := beq_iff_eq.2 c3
              cases bl with
              | true =>
                rw [show bareB false true true false true (valk.val k n s xb eb xf ef xl el) = true by simp only [bareB, valk.val, Bool.true_or, Bool.false_or, Bool.true_and, Bool.false_and, q0, q3]]
                exact bar_in_25 rfl c0 rfl rfl rfl c3 rfl
              | false =>
                rw [show bareB false true true false false (valk.val k n s xb eb xf ef xl el) = (((List.length el : Nat) : Int) == (0 : Int)) by simp only [bareB, valk.val, Bool.true_or, Bool.false_or, Bool.true_and, Bool.false_and, q0, q3]]
                exact bar_in_26 rfl c0 rfl rfl rfl c3 rfl
            · have q3 : (((List.length ef : Nat) : Int) == (0 : Int)) = false := beq_eq_false_iff_ne.2 c3
              rw [show bareB false true true false bl (valk.val k n s xb eb xf ef xl el) = false by simp only [bareB, valk.val, Bool.true_or, Bool.false_or, Bool.true_and, Bool.false_and, q0, q3]]
              exact bar_in_27 rfl c0 rfl rfl rfl c3
        | false =>
          by_cases c2 : ((List.length eb : Nat) : Int) = (0 : Int)
          · have q2 : (((List.length eb : Nat) : Int) == (0 : Int)) = true := beq_iff_eq.2 c2
            cases bf with
            | true =>
              cases bl with
              | true =>
                rw [show bareB false true false true true (valk.val k n s xb eb xf ef xl el) = true by simp only [bareB, valk.val, Bool.true_or, Bool.false_or, Bool.true_and, Bool.false_and, q0, q2]]
                exact bar_in_28 rfl c0 rfl rfl c2 rfl rfl
              | false =>
                rw [show bareB false true false true false (valk.val k n s xb eb xf ef xl el) = (((List.length el : Nat) : Int) == (0 : Int)) by simp only [bareB, valk.val, Bool.true_or, Bool.false_or, Bool.true_and, Bool.false_and, q0, q2]]
                exact bar_in_29 rfl c0 rfl rfl c2 rfl rfl
            | false =>
              by_cases c3 : ((List.length ef : Nat) : Int) = (0 : Int)
              · have q3 : (((List.length ef : Nat) : Int) == (0 : Int)) = true := beq_iff_eq.2 c3
                cases bl with
                | true =>
                  rw [show bareB false true false false true (valk.val k n s xb eb xf ef xl el) = true by simp only [bareB, valk.val, Bool.true_or, Bool.false_or, Bool.true_and, Bool.false_and, q0, q2, q3]]
                  exact bar_in_30 rfl c0 rfl rfl c2 rfl c3 rfl
                | false =>
                  rw [show bareB false true false false false (valk.val k n s xb eb xf ef xl el) = (((List.length el : Nat) : Int) == (0 : Int)) by simp only [bareB, valk.val, Bool.true_or, Bool.false_or, Bool.true_and, Bool.false_and, q0, q2, q3]]
                  exact bar_in_31 rfl c0 rfl rfl c2 rfl c3 rfl
              · have q3 : (((List.length ef : Nat) : Int) == (0 : Int)) = false := beq_eq_false_iff_ne.2 c3
                rw [show bareB false true false false bl (valk.val k n s xb eb xf ef xl el) = false by simp only [bareB, valk.val, Bool.true_or, Bool.false_or, Bool.true_and, Bool.false_and, q0, q2, q3]]
                exact bar_in_32 rfl c0 rfl rfl c2 rfl c3
          · have q2 : (((List.length eb : Nat) : Int) == (0 : Int)) = false := beq_eq_false_iff_ne.2 c2
            rw [show bareB false true false bf bl (valk.val k n s xb eb xf ef xl el) = false by simp only [bareB, valk.val, Bool.true_or, Bool.false_or, Bool.true_and, Bool.false_and, q0, q2]]
            exact bar_in_33 rfl c0 rfl rfl c2
      | false =>
        by_cases c1 : s.toList = (ByteArray.mk #[]).toList
        · have q1 : (s.toList == (ByteArray.mk #[]).toList) = true := beq_iff_eq.2 c1
          cases bb with
          | true =>
            cases bf with
            | true =>
              cases bl with
              | true =>
                rw [show bareB false false true true true (valk.val k n s xb eb xf ef xl el) = true by simp only [bareB, valk.val, Bool.true_or, Bool.false_or, Bool.true_and, Bool.false_and, q0, q1]]
                exact bar_in_34 rfl c0 rfl c1 rfl rfl rfl
              | false =>
                rw [show bareB false false true true false (valk.val k n s xb eb xf ef xl el) = (((List.length el : Nat) : Int) == (0 : Int)) by simp only [bareB, valk.val, Bool.true_or, Bool.false_or, Bool.true_and, Bool.false_and, q0, q1]]
                exact bar_in_35 rfl c0 rfl c1 rfl rfl rfl
            | false =>
              by_cases c3 : ((List.length ef : Nat) : Int) = (0 : Int)
              · have q3 : (((List.length ef : Nat) : Int) == (0 : Int)) = true := beq_iff_eq.2 c3
                cases bl with
                | true =>
                  rw [show bareB false false true false true (valk.val k n s xb eb xf ef xl el) = true by simp only [bareB, valk.val, Bool.true_or, Bool.false_or, Bool.true_and, Bool.false_and, q0, q1, q3]]
                  exact bar_in_36 rfl c0 rfl c1 rfl rfl c3 rfl
                | false =>
                  rw [show bareB false false true false false (valk.val k n s xb eb xf ef xl el) = (((List.length el : Nat) : Int) == (0 : Int)) by simp only [bareB, valk.val, Bool.true_or, Bool.false_or, Bool.true_and, Bool.false_and, q0, q1, q3]]
                  exact bar_in_37 rfl c0 rfl c1 rfl rfl c3 rfl
              · have q3 : (((List.length ef : Nat) : Int) == (0 : Int)) = false := beq_eq_false_iff_ne.2 c3
                rw [show bareB false false true false bl (valk.val k n s xb eb xf ef xl el) = false by simp only [bareB, valk.val, Bool.true_or, Bool.false_or, Bool.true_and, Bool.false_and, q0, q1, q3]]
                exact bar_in_38 rfl c0 rfl c1 rfl rfl c3
          | false =>
            by_cases c2 : ((List.length eb : Nat) : Int) = (0 : Int)
            · have q2 : (((List.length eb : Nat) : Int) == (0 : Int)) = true := beq_iff_eq.2 c2
              cases bf with
              | true =>
                cases bl with
                | true =>
                  rw [show bareB false false false true true (valk.val k n s xb eb xf ef xl el) = true by simp only [bareB, valk.val, Bool.true_or, Bool.false_or, Bool.true_and, Bool.false_and, q0, q1, q2]]
                  exact bar_in_39 rfl c0 rfl c1 rfl c2 rfl rfl
                | false =>
                  rw [show bareB false false false true false (valk.val k n s xb eb xf ef xl el) = (((List.length el : Nat) : Int) == (0 : Int)) by simp only [bareB, valk.val, Bool.true_or, Bool.false_or, Bool.true_and, Bool.false_and, q0, q1, q2]]
                  exact bar_in_40 rfl c0 rfl c1 rfl c2 rfl rfl
              | false =>
                by_cases c3 : ((List.length ef : Nat) : Int) = (0 : Int)
                · have q3 : (((List.length ef : Nat) : Int) == (0 : Int)) = true := beq_iff_eq.2 c3
                  cases bl with
                  | true =>
                    rw [show bareB false false false false true (valk.val k n s xb eb xf ef xl el) = true by simp only [bareB, valk.val, Bool.true_or, Bool.false_or, Bool.true_and, Bool.false_and, q0, q1, q2, q3]]
                    exact bar_in_41 rfl c0 rfl c1 rfl c2 rfl c3 rfl
                  | false =>
                    rw [show bareB false false false false false (valk.val k n s xb eb xf ef xl el) = (((List.length el : Nat) : Int) == (0 : Int)) by simp only [bareB, valk.val, Bool.true_or, Bool.false_or, Bool.true_and, Bool.false_and, q0, q1, q2, q3]]
                    exact bar_in_42 rfl c0 rfl c1 rfl c2 rfl c3 rfl
                · have q3 : (((List.length ef : Nat) : Int) == (0 : Int)) = false := beq_eq_false_iff_ne.2 c3
                  rw [show bareB false false false false bl (valk.val k n s xb eb xf ef xl el) = false by simp only [bareB, valk.val, Bool.true_or, Bool.false_or, Bool.true_and, Bool.false_and, q0, q1, q2, q3]]
                  exact bar_in_43 rfl c0 rfl c1 rfl c2 rfl c3
            · have q2 : (((List.length eb : Nat) : Int) == (0 : Int)) = false := beq_eq_false_iff_ne.2 c2
              rw [show bareB false false false bf bl (valk.val k n s xb eb xf ef xl el) = false by simp only [bareB, valk.val, Bool.true_or, Bool.false_or, Bool.true_and, Bool.false_and, q0, q1, q2]]
              exact bar_in_44 rfl c0 rfl c1 rfl c2
        · have q1 : (s.toList == (ByteArray.mk #[]).toList) = false := beq_eq_false_iff_ne.2 c1
          rw [show bareB false false bb bf bl (valk.val k n s xb eb xf ef xl el) = false by simp only [bareB, valk.val, Bool.true_or, Bool.false_or, Bool.true_and, Bool.false_and, q0, q1]]
          exact bar_in_45 rfl c0 rfl c1
    · have q0 : (n == (0 : Int)) = false := beq_eq_false_iff_ne.2 c0
      rw [show bareB false bs bb bf bl (valk.val k n s xb eb xf ef xl el) = false by simp only [bareB, valk.val, Bool.true_or, Bool.false_or, Bool.true_and, Bool.false_and, q0]]
      exact bar_in_46 rfl c0

/-- A number's bytes, the lowest first. -/
def byteAt (n : Int) (i : Nat) : Int := IntKind.u8.wrap (shrW IntKind.u64 (IntKind.u64.wrap n) (IntKind.u64.wrap (IntKind.i64.wrap ((8 : Int) * (i : Int)))))
def nums (n : Int) (w : Nat) : List Int := (List.range w).map (byteAt n)
theorem num_loop (n : Int) (w : Nat) (hw : w ≤ 8) : ∀ (m i : Nat) (x : Bool), i + m = w → (0 < i → x = true) → num_at0 n w x (rows ((List.range i).map (byteAt n))) (i : Int) i (.slice (x || decide (0 < m)) (rows (nums n w)) (some 0)) [some (.tok w 1)] := by
  intro m
  induction m with
  | zero =>
    intro i x hi hx
    have : i = w := by omega
    subst this
    simp only [Nat.lt_irrefl, decide_false, Bool.or_false]
    exact num_0_1 (by omega)
  | succ m ih =>
    intro i x hi hx
    have w1 : IntKind.i64.wrap ((i : Int) + 1) = ((i + 1 : Nat) : Int) := by rw [wrap_i64 (by omega)]; omega
    have w8 : IntKind.i64.wrap ((8 : Int) * (i : Int)) = 8 * (i : Int) := wrap_i64 (by omega)
    have u8 : IntKind.u64.wrap (8 * (i : Int)) = 8 * (i : Int) := by
      have hs : IntKind.u64.signed = false := rfl
      have hb : (2 ^ IntKind.u64.bits : Int) = 18446744073709551616 := by decide
      unfold IntKind.wrap
      simp only [hs, hb, Bool.false_and, Bool.false_eq_true, if_false]
      omega
    have g := ih (i + 1) true (by omega) (fun _ => rfl)
    rw [← w1, List.range_succ, List.map_append, rows, List.map_append] at g
    refine num_0_0 (by omega) ⟨by simp [rows], by simp [rows]; omega, rfl⟩ (by rw [w8, u8]; omega) ?_
    simp only [Bool.or_true, Bool.true_or, decide_true, Nat.zero_lt_succ] at g ⊢
    exact g
theorem num37 (n : Int) (w : Nat) (h0 : 0 < w) (hw : w ≤ 8) : Ret P T 54 [.int .i64 n, .int .i64 w] [] (.slice true (rows (nums n w)) (some 0)) [some (.tok w 1)] := by
  refine num_in_0 ?_
  have := num_loop n w hw w 0 false (by omega) (fun h => by omega)
  simpa [nums, rows, h0] using this

/-- The digits of a number. -/
theorem dig_byte (n : Int) : 0 ≤ IntKind.u8.wrap ((48 : Int) + IntKind.u8.wrap (n.tmod (10 : Int))) ∧ IntKind.u8.wrap ((48 : Int) + IntKind.u8.wrap (n.tmod (10 : Int))) < 256 := by
  have hs : IntKind.u8.signed = false := rfl
  have hb : (2 ^ IntKind.u8.bits : Int) = 256 := by decide
  generalize IntKind.u8.wrap (n.tmod (10 : Int)) = x
  unfold IntKind.wrap
  simp only [hs, hb, Bool.false_and, Bool.false_eq_true, if_false]
  omega
theorem pow10_le {a b : Nat} (h : a ≤ b) : (10 : Int) ^ a ≤ 10 ^ b := by
  have := Nat.pow_le_pow_right (n := 10) (by decide) h
  have e : ∀ k : Nat, (10 : Int) ^ k = ((10 ^ k : Nat) : Int) := fun k => by simp
  rw [e, e]
  omega
theorem dg_loop (k : Int) : ∀ (m : Nat) (n : Int) (s : ByteArray), m ≤ 18 → 0 ≤ n → n < 10 ^ (m + 1) → s.size + m + 1 ≤ 100 → ∃ t : ByteArray, t.size ≤ 100 ∧ dg_at0 k n s (.str t) [] := by
  intro m
  induction m with
  | zero =>
    intro n s hm h0 h1 hs
    have e1 : n.tdiv 10 = 0 := by rw [Int.tdiv_eq_ediv_of_nonneg h0]; omega
    have h1s : (GD.bytesOf [[D.int IntKind.u8 (IntKind.u8.wrap ((48 : Int) + IntKind.u8.wrap (n.tmod (10 : Int))))]]).size = 1 := rfl
    have hb : [[D.int IntKind.u8 (IntKind.u8.wrap ((48 : Int) + IntKind.u8.wrap (n.tmod (10 : Int))))]].all isByteC = true := by have := dig_byte n; simpa [isByteC] using this
    refine ⟨GD.bytesOf [[D.int IntKind.u8 (IntKind.u8.wrap ((48 : Int) + IntKind.u8.wrap (n.tmod (10 : Int))))]] ++ s, ?_, dg_0_0 (by rw [e1]; decide) (by omega) hb⟩
    rw [ByteArray.size_append]
    omega
  | succ m ih =>
    intro n s hm h0 h1 hs
    have ed : n.tdiv 10 = n / 10 := Int.tdiv_eq_ediv_of_nonneg h0
    have hlt : n / 10 < 10 ^ (m + 1) := by
      rw [Int.pow_succ] at h1
      omega
    have h18 : (10 : Int) ^ (m + 1) ≤ 10 ^ 18 := pow10_le (by omega)
    have h18' : (10 : Int) ^ 18 = 1000000000000000000 := by decide
    have ew : IntKind.i64.wrap (n.tdiv 10) = n / 10 := by rw [ed]; exact wrap_i64 (by omega)
    have hb : [[D.int IntKind.u8 (IntKind.u8.wrap ((48 : Int) + IntKind.u8.wrap (n.tmod (10 : Int))))]].all isByteC = true := by have := dig_byte n; simpa [isByteC] using this
    have h1s : (GD.bytesOf [[D.int IntKind.u8 (IntKind.u8.wrap ((48 : Int) + IntKind.u8.wrap (n.tmod (10 : Int))))]]).size = 1 := rfl
    by_cases hz : n / 10 = 0
    · refine ⟨GD.bytesOf [[D.int IntKind.u8 (IntKind.u8.wrap ((48 : Int) + IntKind.u8.wrap (n.tmod (10 : Int))))]] ++ s, ?_, dg_0_0 (by rw [ew]; exact hz) (by omega) hb⟩
      rw [ByteArray.size_append]
      omega
    · obtain ⟨t, ht, g⟩ := ih (n / 10) (GD.bytesOf [[D.int IntKind.u8 (IntKind.u8.wrap ((48 : Int) + IntKind.u8.wrap (n.tmod (10 : Int))))]] ++ s) (by omega) (by omega) hlt (by rw [ByteArray.size_append]; omega)
      rw [← ew] at g
      exact ⟨t, ht, dg_0_1 (by rw [ew]; exact hz) (by omega) hb g⟩
theorem dig40 (n : Int) (h0 : 0 ≤ n) (h1 : n < 1000000000000000000) : ∃ t : ByteArray, t.size ≤ 100 ∧ Ret P T 56 [.int .i64 n] [] (.str t) [] := by
  obtain ⟨t, ht, g⟩ := dg_loop n 18 n (ByteArray.mk #[]) (by omega) h0 (Int.lt_of_lt_of_le h1 (by decide)) (by decide)
  exact ⟨t, ht, dg_in_0 g⟩

/-- A name that may be. -/
theorem name_loop (u8 : ByteArray → Bool) (s : ByteArray) (hs : s.size ≤ maxLen) (hu : Ret P T 31 [.str s] [] (.bool (u8 s)) []) : ∀ (m i : Nat), i + m = s.size → ∃ b, (b = true → s.size ≤ 120) ∧ nm_at0 u8 s i (.bool b) [] := by
  have hmx : maxLen ≤ 9223372036854775807 := by decide
  intro m
  induction m with
  | zero =>
    intro i hi
    by_cases h : (s.size : Int) ≤ 120
    · exact ⟨u8 s, fun _ => by omega, nm_0_2 (by omega) h hu⟩
    · exact ⟨false, (fun h => by cases h), nm_0_3 (by omega) h⟩
  | succ m ih =>
    intro i hi
    obtain ⟨b, hb, g⟩ := ih (i + 1) (by omega)
    have w1 : IntKind.i64.wrap ((i : Int) + 1) = ((i + 1 : Nat) : Int) := by rw [wrap_i64 (by omega)]; omega
    rw [← w1] at g
    by_cases h : ((s.data.getD ((i : Int)).toNat (0 : UInt8)).toNat : Int) = 0
    · exact ⟨false, (fun h => by cases h), nm_0_0 (by omega) h (by omega)⟩
    · exact ⟨b, hb, nm_0_1 (by omega) h (by omega) g⟩
theorem name41 (s : ByteArray) (hs : s.size ≤ maxLen) : ∃ b, (b = true → s.size ≤ 120) ∧ Ret P T 21 [.str s] [] (.bool b) [] := by
  obtain ⟨v, hv⟩ := utf38 s hs
  obtain ⟨b, hb, g⟩ := name_loop (fun _ => v) s hs hv s.size 0 (by omega)
  exact ⟨b, hb, nm_in_0 g⟩

/-- A kind's code is a byte. -/
theorem code42 (k : Int) : ∃ c : Int, (0 ≤ c ∧ c ≤ 255) ∧ Ret P T 61 [.int .i64 k] [] (.int .u8 c) [] := by
  by_cases h0 : k = (1 : Int)
  · exact ⟨_, by decide, cod_in_0 h0⟩
  by_cases h1 : k = (2 : Int)
  · exact ⟨_, by decide, cod_in_1 h0 h1⟩
  by_cases h2 : k = (3 : Int)
  · exact ⟨_, by decide, cod_in_2 h0 h1 h2⟩
  by_cases h3 : k = (4 : Int)
  · exact ⟨_, by decide, cod_in_3 h0 h1 h2 h3⟩
  by_cases h4 : k = (5 : Int)
  · exact ⟨_, by decide, cod_in_4 h0 h1 h2 h3 h4⟩
  by_cases h5 : k = (6 : Int)
  · exact ⟨_, by decide, cod_in_5 h0 h1 h2 h3 h4 h5⟩
  by_cases h6 : k = (7 : Int)
  · exact ⟨_, by decide, cod_in_6 h0 h1 h2 h3 h4 h5 h6⟩
  by_cases h7 : k = (8 : Int)
  · exact ⟨_, by decide, cod_in_7 h0 h1 h2 h3 h4 h5 h6 h7⟩
  by_cases h8 : k = (9 : Int)
  · exact ⟨_, by decide, cod_in_8 h0 h1 h2 h3 h4 h5 h6 h7 h8⟩
  by_cases h9 : k = (10 : Int)
  · exact ⟨_, by decide, cod_in_9 h0 h1 h2 h3 h4 h5 h6 h7 h8 h9⟩
  by_cases h10 : k = (11 : Int)
  · exact ⟨_, by decide, cod_in_10 h0 h1 h2 h3 h4 h5 h6 h7 h8 h9 h10⟩
  by_cases h11 : k = (12 : Int)
  · exact ⟨_, by decide, cod_in_11 h0 h1 h2 h3 h4 h5 h6 h7 h8 h9 h10 h11⟩
  exact ⟨_, by decide, cod_in_12 h0 h1 h2 h3 h4 h5 h6 h7 h8 h9 h10 h11⟩

end Go.Proofs.YtlccdfilbiipmaaDoor.ordk
