/- Ranks, signs, texts: what they come to. -/
import Derived.Test.YtlccdfilbiipmaaRows
import Derived.Test.YtlccdfilbiipmaaGd33
namespace Go.Proofs.Ytlccdfilbiipmaa.ordk
open Go Ytlccdfilbiipmaa.GD
set_option linter.unusedVariables false
set_option linter.unusedSimpArgs false
set_option maxRecDepth 100000

abbrev Es := List (List D)
abbrev Tab := FuncId → List D → GD.Heap → Option (D × GD.Heap)
noncomputable abbrev P : Program := Try.prog
noncomputable abbrev T : Tys := tyOf Try.prog
def t0 : Tab := fun _ _ _ => none
def a1 (k : Int) : List D × GD.Heap := ([.int .i64 k], [])
def t1 (k : Int) : Tab := t0
def a2 (x y : Int) : List D × GD.Heap := ([.int .i64 x, .int .i64 y], [])
def t2 (x y : Int) : Tab := t0
def as2 (x y : ByteArray) : List D × GD.Heap := ([.str x, .str y], [])
def ts2 (x y : ByteArray) : Tab := t0
/-! ### function 35 -/
theorem cls_fn : Try.prog.funcs[(35 : Nat)]? = some (fnAt P 35) := by kernel_rfl
theorem cls_body : (fnAt P 35).body = some (bodyAt P 35) := by kernel_rfl
theorem cls_name : ((fnAt P 35).name == "runtime.NumGoroutine") = false := by kernel_rfl
noncomputable def cls_C (k : Int) : Cf := cfg Try.prog (hintOf []) (t1 k) (fun _ => false) 2 true (fun _ => false)
theorem cls_ok (k : Int) : CfOk (cls_C k) := cfg_ok (by kernel_rfl)
noncomputable def cls_run (k : Int) (qcur : Cur) (qk : List It) (qs : St) (qor : GD.Or) := runE (cls_C k) (callE (cls_C k) 100000 10) 35 100000 qcur qk qs qor []

theorem cls_in_0 {k : Int} (h0 : k = (0 : Int)) : Ret P T 35 [D.int .i64 k] [] (D.int .i64 k) [] :=
  have bq0 := beq_iff_eq.2 h0
  fin_call cls_fn cls_body cls_name (fr 35 0 (cls_ok k) (pth 2 3) (ac bq0 (ac bq0 an)))

theorem cls_in_1 {k : Int} (h0 : k ≠ (0 : Int)) (h1 : k = (1 : Int)) : Ret P T 35 [D.int .i64 k] [] (D.int .i64 k) [] :=
  have bq0 := beq_eq_false_iff_ne.2 h0
  have bq1 := beq_iff_eq.2 h1
  fin_call cls_fn cls_body cls_name (fr 35 0 (cls_ok k) (pth 3 6) (ac bq1 (ac bq1 (ac bq0 an))))

theorem cls_in_2 {k : Int} (h0 : k ≠ (0 : Int)) (h1 : k ≠ (1 : Int)) (h2 : k = (2 : Int)) : Ret P T 35 [D.int .i64 k] [] (D.int .i64 k) [] :=
  have bq0 := beq_eq_false_iff_ne.2 h0
  have bq1 := beq_eq_false_iff_ne.2 h1
  have bq2 := beq_iff_eq.2 h2
  fin_call cls_fn cls_body cls_name (fr 35 0 (cls_ok k) (pth 3 4) (ac bq2 (ac bq1 (ac bq0 an))))

theorem cls_in_3 {k : Int} (h0 : k ≠ (0 : Int)) (h1 : k ≠ (1 : Int)) (h2 : k ≠ (2 : Int)) (h3 : k = (3 : Int)) : Ret P T 35 [D.int .i64 k] [] (D.int .i64 (3 : Int)) [] :=
  have bq0 := beq_eq_false_iff_ne.2 h0
  have bq1 := beq_eq_false_iff_ne.2 h1
  have bq2 := beq_eq_false_iff_ne.2 h2
  have bq3 := beq_iff_eq.2 h3
  fin_call cls_fn cls_body cls_name (fr 35 0 (cls_ok k) (pth 5 24) (ac bq3 (ac bq3 (ac bq2 (ac bq1 (ac bq0 an))))))

theorem cls_in_4 {k : Int} (h0 : k ≠ (0 : Int)) (h1 : k ≠ (1 : Int)) (h2 : k ≠ (2 : Int)) (h3 : k ≠ (3 : Int)) (h4 : k = (4 : Int)) : Ret P T 35 [D.int .i64 k] [] (D.int .i64 (3 : Int)) [] :=
  have bq0 := beq_eq_false_iff_ne.2 h0
  have bq1 := beq_eq_false_iff_ne.2 h1
  have bq2 := beq_eq_false_iff_ne.2 h2
  have bq3 := beq_eq_false_iff_ne.2 h3
  have bq4 := beq_iff_eq.2 h4
  fin_call cls_fn cls_body cls_name (fr 35 0 (cls_ok k) (pth 5 16) (ac bq4 (ac bq3 (ac bq2 (ac bq1 (ac bq0 an))))))

theorem cls_in_5 {k : Int} (h0 : k ≠ (0 : Int)) (h1 : k ≠ (1 : Int)) (h2 : k ≠ (2 : Int)) (h3 : k ≠ (3 : Int)) (h4 : k ≠ (4 : Int)) (h5 : k = (5 : Int)) : Ret P T 35 [D.int .i64 k] [] (D.int .i64 (IntKind.i64.wrap (k - (1 : Int)))) [] :=
  have bq0 := beq_eq_false_iff_ne.2 h0
  have bq1 := beq_eq_false_iff_ne.2 h1
  have bq2 := beq_eq_false_iff_ne.2 h2
  have bq3 := beq_eq_false_iff_ne.2 h3
  have bq4 := beq_eq_false_iff_ne.2 h4
  have bq5 := beq_iff_eq.2 h5
  fin_call cls_fn cls_body cls_name (fr 35 0 (cls_ok k) (pth 7 96) (ac bq5 (ac bq5 (ac bq4 (ac bq3 (ac bq2 (ac bq1 (ac bq0 an))))))))

theorem cls_in_6 {k : Int} (h0 : k ≠ (0 : Int)) (h1 : k ≠ (1 : Int)) (h2 : k ≠ (2 : Int)) (h3 : k ≠ (3 : Int)) (h4 : k ≠ (4 : Int)) (h5 : k ≠ (5 : Int)) (h6 : k = (6 : Int)) : Ret P T 35 [D.int .i64 k] [] (D.int .i64 (IntKind.i64.wrap (k - (1 : Int)))) [] :=
  have bq0 := beq_eq_false_iff_ne.2 h0
  have bq1 := beq_eq_false_iff_ne.2 h1
  have bq2 := beq_eq_false_iff_ne.2 h2
  have bq3 := beq_eq_false_iff_ne.2 h3
  have bq4 := beq_eq_false_iff_ne.2 h4
  have bq5 := beq_eq_false_iff_ne.2 h5
  have bq6 := beq_iff_eq.2 h6
  fin_call cls_fn cls_body cls_name (fr 35 0 (cls_ok k) (pth 8 192) (ac bq6 (ac bq6 (ac bq5 (ac bq4 (ac bq3 (ac bq2 (ac bq1 (ac bq0 an)))))))))

theorem cls_in_7 {k : Int} (h0 : k ≠ (0 : Int)) (h1 : k ≠ (1 : Int)) (h2 : k ≠ (2 : Int)) (h3 : k ≠ (3 : Int)) (h4 : k ≠ (4 : Int)) (h5 : k ≠ (5 : Int)) (h6 : k ≠ (6 : Int)) (h7 : k = (7 : Int)) : Ret P T 35 [D.int .i64 k] [] (D.int .i64 (IntKind.i64.wrap (k - (1 : Int)))) [] :=
  have bq0 := beq_eq_false_iff_ne.2 h0
  have bq1 := beq_eq_false_iff_ne.2 h1
  have bq2 := beq_eq_false_iff_ne.2 h2
  have bq3 := beq_eq_false_iff_ne.2 h3
  have bq4 := beq_eq_false_iff_ne.2 h4
  have bq5 := beq_eq_false_iff_ne.2 h5
  have bq6 := beq_eq_false_iff_ne.2 h6
  have bq7 := beq_iff_eq.2 h7
  fin_call cls_fn cls_body cls_name (fr 35 0 (cls_ok k) (pth 9 384) (ac bq7 (ac bq7 (ac bq6 (ac bq5 (ac bq4 (ac bq3 (ac bq2 (ac bq1 (ac bq0 an))))))))))

theorem cls_in_8 {k : Int} (h0 : k ≠ (0 : Int)) (h1 : k ≠ (1 : Int)) (h2 : k ≠ (2 : Int)) (h3 : k ≠ (3 : Int)) (h4 : k ≠ (4 : Int)) (h5 : k ≠ (5 : Int)) (h6 : k ≠ (6 : Int)) (h7 : k ≠ (7 : Int)) (h8 : k = (8 : Int)) : Ret P T 35 [D.int .i64 k] [] (D.int .i64 (IntKind.i64.wrap (k - (1 : Int)))) [] :=
  have bq0 := beq_eq_false_iff_ne.2 h0
  have bq1 := beq_eq_false_iff_ne.2 h1
  have bq2 := beq_eq_false_iff_ne.2 h2
  have bq3 := beq_eq_false_iff_ne.2 h3
  have bq4 := beq_eq_false_iff_ne.2 h4
  have bq5 := beq_eq_false_iff_ne.2 h5
  have bq6 := beq_eq_false_iff_ne.2 h6
  have bq7 := beq_eq_false_iff_ne.2 h7
  have bq8 := beq_iff_eq.2 h8
  fin_call cls_fn cls_body cls_name (fr 35 0 (cls_ok k) (pth 10 768) (ac bq8 (ac bq8 (ac bq7 (ac bq6 (ac bq5 (ac bq4 (ac bq3 (ac bq2 (ac bq1 (ac bq0 an)))))))))))

theorem cls_in_9 {k : Int} (h0 : k ≠ (0 : Int)) (h1 : k ≠ (1 : Int)) (h2 : k ≠ (2 : Int)) (h3 : k ≠ (3 : Int)) (h4 : k ≠ (4 : Int)) (h5 : k ≠ (5 : Int)) (h6 : k ≠ (6 : Int)) (h7 : k ≠ (7 : Int)) (h8 : k ≠ (8 : Int)) (h9 : k = (9 : Int)) : Ret P T 35 [D.int .i64 k] [] (D.int .i64 (IntKind.i64.wrap (k - (1 : Int)))) [] :=
  have bq0 := beq_eq_false_iff_ne.2 h0
  have bq1 := beq_eq_false_iff_ne.2 h1
  have bq2 := beq_eq_false_iff_ne.2 h2
  have bq3 := beq_eq_false_iff_ne.2 h3
  have bq4 := beq_eq_false_iff_ne.2 h4
  have bq5 := beq_eq_false_iff_ne.2 h5
  have bq6 := beq_eq_false_iff_ne.2 h6
  have bq7 := beq_eq_false_iff_ne.2 h7
  have bq8 := beq_eq_false_iff_ne.2 h8
  have bq9 := beq_iff_eq.2 h9
  fin_call cls_fn cls_body cls_name (fr 35 0 (cls_ok k) (pth 11 1536) (ac bq9 (ac bq9 (ac bq8 (ac bq7 (ac bq6 (ac bq5 (ac bq4 (ac bq3 (ac bq2 (ac bq1 (ac bq0 an))))))))))))

theorem cls_in_10 {k : Int} (h0 : k ≠ (0 : Int)) (h1 : k ≠ (1 : Int)) (h2 : k ≠ (2 : Int)) (h3 : k ≠ (3 : Int)) (h4 : k ≠ (4 : Int)) (h5 : k ≠ (5 : Int)) (h6 : k ≠ (6 : Int)) (h7 : k ≠ (7 : Int)) (h8 : k ≠ (8 : Int)) (h9 : k ≠ (9 : Int)) (h10 : k = (10 : Int)) : Ret P T 35 [D.int .i64 k] [] (D.int .i64 (IntKind.i64.wrap (k - (1 : Int)))) [] :=
  have bq0 := beq_eq_false_iff_ne.2 h0
  have bq1 := beq_eq_false_iff_ne.2 h1
  have bq2 := beq_eq_false_iff_ne.2 h2
  have bq3 := beq_eq_false_iff_ne.2 h3
  have bq4 := beq_eq_false_iff_ne.2 h4
  have bq5 := beq_eq_false_iff_ne.2 h5
  have bq6 := beq_eq_false_iff_ne.2 h6
  have bq7 := beq_eq_false_iff_ne.2 h7
  have bq8 := beq_eq_false_iff_ne.2 h8
  have bq9 := beq_eq_false_iff_ne.2 h9
  have bq10 := beq_iff_eq.2 h10
  fin_call cls_fn cls_body cls_name (fr 35 0 (cls_ok k) (pth 12 3072) (ac bq10 (ac bq10 (ac bq9 (ac bq8 (ac bq7 (ac bq6 (ac bq5 (ac bq4 (ac bq3 (ac bq2 (ac bq1 (ac bq0 an)))))))))))))

theorem cls_in_11 {k : Int} (h0 : k ≠ (0 : Int)) (h1 : k ≠ (1 : Int)) (h2 : k ≠ (2 : Int)) (h3 : k ≠ (3 : Int)) (h4 : k ≠ (4 : Int)) (h5 : k ≠ (5 : Int)) (h6 : k ≠ (6 : Int)) (h7 : k ≠ (7 : Int)) (h8 : k ≠ (8 : Int)) (h9 : k ≠ (9 : Int)) (h10 : k ≠ (10 : Int)) (h11 : k = (11 : Int)) : Ret P T 35 [D.int .i64 k] [] (D.int .i64 (IntKind.i64.wrap (k - (1 : Int)))) [] :=
  have bq0 := beq_eq_false_iff_ne.2 h0
  have bq1 := beq_eq_false_iff_ne.2 h1
  have bq2 := beq_eq_false_iff_ne.2 h2
  have bq3 := beq_eq_false_iff_ne.2 h3
  have bq4 := beq_eq_false_iff_ne.2 h4
  have bq5 := beq_eq_false_iff_ne.2 h5
  have bq6 := beq_eq_false_iff_ne.2 h6
  have bq7 := beq_eq_false_iff_ne.2 h7
  have bq8 := beq_eq_false_iff_ne.2 h8
  have bq9 := beq_eq_false_iff_ne.2 h9
  have bq10 := beq_eq_false_iff_ne.2 h10
  have bq11 := beq_iff_eq.2 h11
  fin_call cls_fn cls_body cls_name (fr 35 0 (cls_ok k) (pth 13 6144) (ac bq11 (ac bq11 (ac bq10 (ac bq9 (ac bq8 (ac bq7 (ac bq6 (ac bq5 (ac bq4 (ac bq3 (ac bq2 (ac bq1 (ac bq0 an))))))))))))))

theorem cls_in_12 {k : Int} (h0 : k ≠ (0 : Int)) (h1 : k ≠ (1 : Int)) (h2 : k ≠ (2 : Int)) (h3 : k ≠ (3 : Int)) (h4 : k ≠ (4 : Int)) (h5 : k ≠ (5 : Int)) (h6 : k ≠ (6 : Int)) (h7 : k ≠ (7 : Int)) (h8 : k ≠ (8 : Int)) (h9 : k ≠ (9 : Int)) (h10 : k ≠ (10 : Int)) (h11 : k ≠ (11 : Int)) (h12 : k = (12 : Int)) : Ret P T 35 [D.int .i64 k] [] (D.int .i64 (IntKind.i64.wrap (k - (1 : Int)))) [] :=
  have bq0 := beq_eq_false_iff_ne.2 h0
  have bq1 := beq_eq_false_iff_ne.2 h1
  have bq2 := beq_eq_false_iff_ne.2 h2
  have bq3 := beq_eq_false_iff_ne.2 h3
  have bq4 := beq_eq_false_iff_ne.2 h4
  have bq5 := beq_eq_false_iff_ne.2 h5
  have bq6 := beq_eq_false_iff_ne.2 h6
  have bq7 := beq_eq_false_iff_ne.2 h7
  have bq8 := beq_eq_false_iff_ne.2 h8
  have bq9 := beq_eq_false_iff_ne.2 h9
  have bq10 := beq_eq_false_iff_ne.2 h10
  have bq11 := beq_eq_false_iff_ne.2 h11
  have bq12 := beq_iff_eq.2 h12
  fin_call cls_fn cls_body cls_name (fr 35 0 (cls_ok k) (pth 13 4096) (ac bq12 (ac bq11 (ac bq10 (ac bq9 (ac bq8 (ac bq7 (ac bq6 (ac bq5 (ac bq4 (ac bq3 (ac bq2 (ac bq1 (ac bq0 an))))))))))))))

theorem cls_in_13 {k : Int} (h0 : k ≠ (0 : Int)) (h1 : k ≠ (1 : Int)) (h2 : k ≠ (2 : Int)) (h3 : k ≠ (3 : Int)) (h4 : k ≠ (4 : Int)) (h5 : k ≠ (5 : Int)) (h6 : k ≠ (6 : Int)) (h7 : k ≠ (7 : Int)) (h8 : k ≠ (8 : Int)) (h9 : k ≠ (9 : Int)) (h10 : k ≠ (10 : Int)) (h11 : k ≠ (11 : Int)) (h12 : k ≠ (12 : Int)) : Ret P T 35 [D.int .i64 k] [] (D.int .i64 (-1 : Int)) [] :=
  have bq0 := beq_eq_false_iff_ne.2 h0
  have bq1 := beq_eq_false_iff_ne.2 h1
  have bq2 := beq_eq_false_iff_ne.2 h2
  have bq3 := beq_eq_false_iff_ne.2 h3
  have bq4 := beq_eq_false_iff_ne.2 h4
  have bq5 := beq_eq_false_iff_ne.2 h5
  have bq6 := beq_eq_false_iff_ne.2 h6
  have bq7 := beq_eq_false_iff_ne.2 h7
  have bq8 := beq_eq_false_iff_ne.2 h8
  have bq9 := beq_eq_false_iff_ne.2 h9
  have bq10 := beq_eq_false_iff_ne.2 h10
  have bq11 := beq_eq_false_iff_ne.2 h11
  have bq12 := beq_eq_false_iff_ne.2 h12
  fin_call cls_fn cls_body cls_name (fr 35 0 (cls_ok k) (pth 13 0) (ac bq12 (ac bq11 (ac bq10 (ac bq9 (ac bq8 (ac bq7 (ac bq6 (ac bq5 (ac bq4 (ac bq3 (ac bq2 (ac bq1 (ac bq0 an))))))))))))))


/-! ### function 31 -/
theorem clsR_fn : Try.prog.funcs[(31 : Nat)]? = some (fnAt P 31) := by kernel_rfl
theorem clsR_body : (fnAt P 31).body = some (bodyAt P 31) := by kernel_rfl
theorem clsR_name : ((fnAt P 31).name == "runtime.NumGoroutine") = false := by kernel_rfl
noncomputable def clsR_C (k : Int) : Cf := cfg Try.prog (hintOf []) (t1 k) (fun _ => false) 2 true (fun _ => false)
theorem clsR_ok (k : Int) : CfOk (clsR_C k) := cfg_ok (by kernel_rfl)
noncomputable def clsR_run (k : Int) (qcur : Cur) (qk : List It) (qs : St) (qor : GD.Or) := runE (clsR_C k) (callE (clsR_C k) 100000 10) 31 100000 qcur qk qs qor []

theorem clsR_in_0 {k : Int} (h0 : k < (0 : Int)) : Ret P T 31 [D.int .i64 k] [] (D.int .i64 (-1 : Int)) [] :=
  have bq0 := decide_eq_true h0
  fin_call clsR_fn clsR_body clsR_name (fr 31 0 (clsR_ok k) (pth 4 12) (ac tru (ac bq0 (ac (ktf bq0) (ac (ktf bq0) an)))))

theorem clsR_in_1 {k : Int} (h0 : ¬ (k < (0 : Int))) (h1 : k > (12 : Int)) : Ret P T 31 [D.int .i64 k] [] (D.int .i64 (-1 : Int)) [] :=
  have bq0 := decide_eq_false h0
  have bq1 := decide_eq_true h1
  fin_call clsR_fn clsR_body clsR_name (fr 31 0 (clsR_ok k) (pth 4 11) (ac bq1 (ac bq0 (ac (kff bq0) (ac (kff bq0) an)))))

theorem clsR_in_2 {k : Int} (h0 : ¬ (k < (0 : Int))) (h1 : ¬ (k > (12 : Int))) (h2 : k ≤ (3 : Int)) : Ret P T 31 [D.int .i64 k] [] (D.int .i64 k) [] :=
  have bq0 := decide_eq_false h0
  have bq1 := decide_eq_false h1
  have bq2 := decide_eq_true h2
  fin_call clsR_fn clsR_body clsR_name (fr 31 0 (clsR_ok k) (pth 5 19) (ac bq2 (ac bq1 (ac bq0 (ac (kff bq0) (ac (kff bq0) an))))))

theorem clsR_in_3 {k : Int} (h0 : ¬ (k < (0 : Int))) (h1 : ¬ (k > (12 : Int))) (h2 : ¬ (k ≤ (3 : Int))) : Ret P T 31 [D.int .i64 k] [] (D.int .i64 (IntKind.i64.wrap (k - (1 : Int)))) [] :=
  have bq0 := decide_eq_false h0
  have bq1 := decide_eq_false h1
  have bq2 := decide_eq_false h2
  fin_call clsR_fn clsR_body clsR_name (fr 31 0 (clsR_ok k) (pth 5 3) (ac bq2 (ac bq1 (ac bq0 (ac (kff bq0) (ac (kff bq0) an))))))


/-! ### function 30 -/
theorem sgn_fn : Try.prog.funcs[(30 : Nat)]? = some (fnAt P 30) := by kernel_rfl
theorem sgn_body : (fnAt P 30).body = some (bodyAt P 30) := by kernel_rfl
theorem sgn_name : ((fnAt P 30).name == "runtime.NumGoroutine") = false := by kernel_rfl
noncomputable def sgn_C (x y : Int) : Cf := cfg Try.prog (hintOf []) (t2 x y) (fun _ => false) 2 true (fun _ => false)
theorem sgn_ok (x y : Int) : CfOk (sgn_C x y) := cfg_ok (by kernel_rfl)
noncomputable def sgn_run (x y : Int) (qcur : Cur) (qk : List It) (qs : St) (qor : GD.Or) := runE (sgn_C x y) (callE (sgn_C x y) 100000 10) 30 100000 qcur qk qs qor []

theorem sgn_in_0 {x y : Int} (h0 : x < y) : Ret P T 30 [D.int .i64 x, D.int .i64 y] [] (D.int .i64 (-1 : Int)) [] :=
  have bq0 := decide_eq_true h0
  fin_call sgn_fn sgn_body sgn_name (fr 30 0 (sgn_ok x y) (pth 1 1) (ac bq0 an))

theorem sgn_in_1 {x y : Int} (h0 : ¬ (x < y)) (h1 : x > y) : Ret P T 30 [D.int .i64 x, D.int .i64 y] [] (D.int .i64 (1 : Int)) [] :=
  have bq0 := decide_eq_false h0
  have bq1 := decide_eq_true h1
  fin_call sgn_fn sgn_body sgn_name (fr 30 0 (sgn_ok x y) (pth 2 2) (ac bq1 (ac bq0 an)))

theorem sgn_in_2 {x y : Int} (h0 : ¬ (x < y)) (h1 : ¬ (x > y)) : Ret P T 30 [D.int .i64 x, D.int .i64 y] [] (D.int .i64 (0 : Int)) [] :=
  have bq0 := decide_eq_false h0
  have bq1 := decide_eq_false h1
  fin_call sgn_fn sgn_body sgn_name (fr 30 0 (sgn_ok x y) (pth 2 0) (ac bq1 (ac bq0 an)))


/-! ### function 32 -/
theorem txt_fn : Try.prog.funcs[(32 : Nat)]? = some (fnAt P 32) := by kernel_rfl
theorem txt_body : (fnAt P 32).body = some (bodyAt P 32) := by kernel_rfl
theorem txt_name : ((fnAt P 32).name == "runtime.NumGoroutine") = false := by kernel_rfl
noncomputable def txt_C (x y : ByteArray) : Cf := cfg Try.prog (hintOf []) (ts2 x y) (fun _ => false) 2 true (fun _ => false)
theorem txt_ok (x y : ByteArray) : CfOk (txt_C x y) := cfg_ok (by kernel_rfl)
noncomputable def txt_run (x y : ByteArray) (qcur : Cur) (qk : List It) (qs : St) (qor : GD.Or) := runE (txt_C x y) (callE (txt_C x y) 100000 10) 32 100000 qcur qk qs qor []
noncomputable def txt_l0 : Code := (loopAt Try.prog 32 0).1
noncomputable def txt_k0 : List It := (loopAt Try.prog 32 0).2
/- loop 0: n5:=(0 : Int); -/
noncomputable def txt_s0 (x y : ByteArray) (n5 : Int) : St := ⟨envOf 39 [(0, D.str x), (1, D.str y), (5, D.int .i64 n5)], []⟩
def txt_at0 (x y : ByteArray) (n5 : Int) (r : D) (H1 : GD.Heap) : Prop := GD.Fin Try.prog (tyOf Try.prog) (fnAt P 32) 0 (.code (.loop txt_l0)) txt_k0 (txt_s0 x y n5) r H1

theorem txt_in_0 {x y : ByteArray} {r : D} {H1 : GD.Heap} (g : txt_at0 x y ((0 : Int)) r H1) : Ret P T 32 [D.str x, D.str y] [] r H1 :=
  fin_call txt_fn txt_body txt_name (fs (fun _ => false) 32 0 [0, 1, 5] (txt_ok x y) (pth 0 0) an g)

theorem txt_0_0 {x y : ByteArray} {n5 : Int} (h0 : n5 < (↑x.size : Int)) (h1 : n5 < (↑y.size : Int)) (h2 : (↑(x.data.getD n5.toNat (0 : UInt8)).toNat : Int) ≠ (↑(y.data.getD n5.toNat (0 : UInt8)).toNat : Int)) (h3 : IntKind.i64.wrap (↑(x.data.getD n5.toNat (0 : UInt8)).toNat : Int) < IntKind.i64.wrap (↑(y.data.getD n5.toNat (0 : UInt8)).toNat : Int)) (h4 : (0 : Int) ≤ n5 ∧ n5 < (↑y.size : Int)) (h5 : (0 : Int) ≤ n5 ∧ n5 < (↑x.size : Int)) : txt_at0 x y n5 (D.int .i64 (-1 : Int)) [] :=
  have bq0 := decide_eq_true h0
  have bq1 := decide_eq_true h1
  have bq2 : ((↑(x.data.getD n5.toNat (0 : UInt8)).toNat : Int) != (↑(y.data.getD n5.toNat (0 : UInt8)).toNat : Int)) = true := bne_iff_ne.2 h2
  have bq3 := decide_eq_true h3
  fin_loop (fr 32 0 (txt_ok x y) (pth 8 255) (ac bq3 (ac h4 (ac h5 (ac bq2 (ac h4 (ac h5 (ac bq1 (ac bq0 (ac (ktt bq0) (ac (ktt bq0) (ac (ktt bq0) (ac (ktt bq0) an)))))))))))))

theorem txt_0_1 {x y : ByteArray} {n5 : Int} (h0 : n5 < (↑x.size : Int)) (h1 : n5 < (↑y.size : Int)) (h2 : (↑(x.data.getD n5.toNat (0 : UInt8)).toNat : Int) ≠ (↑(y.data.getD n5.toNat (0 : UInt8)).toNat : Int)) (h3 : ¬ (IntKind.i64.wrap (↑(x.data.getD n5.toNat (0 : UInt8)).toNat : Int) < IntKind.i64.wrap (↑(y.data.getD n5.toNat (0 : UInt8)).toNat : Int))) (h4 : IntKind.i64.wrap (↑(x.data.getD n5.toNat (0 : UInt8)).toNat : Int) > IntKind.i64.wrap (↑(y.data.getD n5.toNat (0 : UInt8)).toNat : Int)) (h5 : (0 : Int) ≤ n5 ∧ n5 < (↑y.size : Int)) (h6 : (0 : Int) ≤ n5 ∧ n5 < (↑x.size : Int)) : txt_at0 x y n5 (D.int .i64 (1 : Int)) [] :=
  have bq0 := decide_eq_true h0
  have bq1 := decide_eq_true h1
  have bq2 : ((↑(x.data.getD n5.toNat (0 : UInt8)).toNat : Int) != (↑(y.data.getD n5.toNat (0 : UInt8)).toNat : Int)) = true := bne_iff_ne.2 h2
  have bq3 := decide_eq_false h3
  have bq4 := decide_eq_true h4
  fin_loop (fr 32 0 (txt_ok x y) (pth 9 383) (ac bq4 (ac bq3 (ac h5 (ac h6 (ac bq2 (ac h5 (ac h6 (ac bq1 (ac bq0 (ac (ktt bq0) (ac (ktt bq0) (ac (ktt bq0) (ac (ktt bq0) an))))))))))))))

theorem txt_0_2 {x y : ByteArray} {n5 : Int} (h0 : n5 < (↑x.size : Int)) (h1 : n5 < (↑y.size : Int)) (h2 : (↑(x.data.getD n5.toNat (0 : UInt8)).toNat : Int) ≠ (↑(y.data.getD n5.toNat (0 : UInt8)).toNat : Int)) (h3 : ¬ (IntKind.i64.wrap (↑(x.data.getD n5.toNat (0 : UInt8)).toNat : Int) < IntKind.i64.wrap (↑(y.data.getD n5.toNat (0 : UInt8)).toNat : Int))) (h4 : ¬ (IntKind.i64.wrap (↑(x.data.getD n5.toNat (0 : UInt8)).toNat : Int) > IntKind.i64.wrap (↑(y.data.getD n5.toNat (0 : UInt8)).toNat : Int))) (h5 : (0 : Int) ≤ n5 ∧ n5 < (↑y.size : Int)) (h6 : (0 : Int) ≤ n5 ∧ n5 < (↑x.size : Int)) : txt_at0 x y n5 (D.int .i64 (0 : Int)) [] :=
  have bq0 := decide_eq_true h0
  have bq1 := decide_eq_true h1
  have bq2 : ((↑(x.data.getD n5.toNat (0 : UInt8)).toNat : Int) != (↑(y.data.getD n5.toNat (0 : UInt8)).toNat : Int)) = true := bne_iff_ne.2 h2
  have bq3 := decide_eq_false h3
  have bq4 := decide_eq_false h4
  fin_loop (fr 32 0 (txt_ok x y) (pth 9 127) (ac bq4 (ac bq3 (ac h5 (ac h6 (ac bq2 (ac h5 (ac h6 (ac bq1 (ac bq0 (ac (ktt bq0) (ac (ktt bq0) (ac (ktt bq0) (ac (ktt bq0) an))))))))))))))

theorem txt_0_3 {x y : ByteArray} {n5 : Int} {r : D} {H1 : GD.Heap} (h0 : n5 < (↑x.size : Int)) (h1 : n5 < (↑y.size : Int)) (h2 : (↑(x.data.getD n5.toNat (0 : UInt8)).toNat : Int) = (↑(y.data.getD n5.toNat (0 : UInt8)).toNat : Int)) (h3 : (0 : Int) ≤ n5 ∧ n5 < (↑y.size : Int)) (h4 : (0 : Int) ≤ n5 ∧ n5 < (↑x.size : Int)) (g : txt_at0 x y (IntKind.i64.wrap (n5 + (1 : Int))) r H1) : txt_at0 x y n5 r H1 :=
  have bq0 := decide_eq_true h0
  have bq1 := decide_eq_true h1
  have bq2 : ((↑(x.data.getD n5.toNat (0 : UInt8)).toNat : Int) != (↑(y.data.getD n5.toNat (0 : UInt8)).toNat : Int)) = false := (by rw [bne, Bool.not_eq_false']; exact beq_iff_eq.2 h2)
  fin_loop (fs (fun _ => false) 32 0 [0, 1, 5] (txt_ok x y) (pth 7 63) (ac bq2 (ac h3 (ac h4 (ac bq1 (ac bq0 (ac (ktt bq0) (ac (ktt bq0) (ac (ktt bq0) (ac (ktt bq0) an))))))))) g)

theorem txt_0_4 {x y : ByteArray} {n5 : Int} (h0 : n5 < (↑x.size : Int)) (h1 : ¬ (n5 < (↑y.size : Int))) (h2 : (↑x.size : Int) < (↑y.size : Int)) : txt_at0 x y n5 (D.int .i64 (-1 : Int)) [] :=
  have bq0 := decide_eq_true h0
  have bq1 := decide_eq_false h1
  have bq2 := decide_eq_true h2
  fin_loop (fr 32 0 (txt_ok x y) (pth 7 95) (ac bq2 (ac bq1 (ac bq0 (ac (ktt bq0) (ac (ktt bq0) (ac (ktt bq0) (ac (ktt bq0) an))))))))

theorem txt_0_5 {x y : ByteArray} {n5 : Int} (h0 : n5 < (↑x.size : Int)) (h1 : ¬ (n5 < (↑y.size : Int))) (h2 : ¬ ((↑x.size : Int) < (↑y.size : Int))) (h3 : (↑x.size : Int) > (↑y.size : Int)) : txt_at0 x y n5 (D.int .i64 (1 : Int)) [] :=
  have bq0 := decide_eq_true h0
  have bq1 := decide_eq_false h1
  have bq2 := decide_eq_false h2
  have bq3 := decide_eq_true h3
  fin_loop (fr 32 0 (txt_ok x y) (pth 8 159) (ac bq3 (ac bq2 (ac bq1 (ac bq0 (ac (ktt bq0) (ac (ktt bq0) (ac (ktt bq0) (ac (ktt bq0) an)))))))))

theorem txt_0_6 {x y : ByteArray} {n5 : Int} (h0 : n5 < (↑x.size : Int)) (h1 : ¬ (n5 < (↑y.size : Int))) (h2 : ¬ ((↑x.size : Int) < (↑y.size : Int))) (h3 : ¬ ((↑x.size : Int) > (↑y.size : Int))) : txt_at0 x y n5 (D.int .i64 (0 : Int)) [] :=
  have bq0 := decide_eq_true h0
  have bq1 := decide_eq_false h1
  have bq2 := decide_eq_false h2
  have bq3 := decide_eq_false h3
  fin_loop (fr 32 0 (txt_ok x y) (pth 8 31) (ac bq3 (ac bq2 (ac bq1 (ac bq0 (ac (ktt bq0) (ac (ktt bq0) (ac (ktt bq0) (ac (ktt bq0) an)))))))))

theorem txt_0_7 {x y : ByteArray} {n5 : Int} (h0 : ¬ (n5 < (↑x.size : Int))) (h1 : (↑x.size : Int) < (↑y.size : Int)) : txt_at0 x y n5 (D.int .i64 (-1 : Int)) [] :=
  have bq0 := decide_eq_false h0
  have bq1 := decide_eq_true h1
  fin_loop (fr 32 0 (txt_ok x y) (pth 7 64) (ac bq1 (ac (show false = false from rfl) (ac bq0 (ac (kft bq0) (ac (kft bq0) (ac (kft bq0) (ac (kft bq0) an))))))))

theorem txt_0_8 {x y : ByteArray} {n5 : Int} (h0 : ¬ (n5 < (↑x.size : Int))) (h1 : ¬ ((↑x.size : Int) < (↑y.size : Int))) (h2 : (↑x.size : Int) > (↑y.size : Int)) : txt_at0 x y n5 (D.int .i64 (1 : Int)) [] :=
  have bq0 := decide_eq_false h0
  have bq1 := decide_eq_false h1
  have bq2 := decide_eq_true h2
  fin_loop (fr 32 0 (txt_ok x y) (pth 8 128) (ac bq2 (ac bq1 (ac (show false = false from rfl) (ac bq0 (ac (kft bq0) (ac (kft bq0) (ac (kft bq0) (ac (kft bq0) an)))))))))

theorem txt_0_9 {x y : ByteArray} {n5 : Int} (h0 : ¬ (n5 < (↑x.size : Int))) (h1 : ¬ ((↑x.size : Int) < (↑y.size : Int))) (h2 : ¬ ((↑x.size : Int) > (↑y.size : Int))) : txt_at0 x y n5 (D.int .i64 (0 : Int)) [] :=
  have bq0 := decide_eq_false h0
  have bq1 := decide_eq_false h1
  have bq2 := decide_eq_false h2
  fin_loop (fr 32 0 (txt_ok x y) (pth 8 0) (ac bq2 (ac bq1 (ac (show false = false from rfl) (ac bq0 (ac (kft bq0) (ac (kft bq0) (ac (kft bq0) (ac (kft bq0) an)))))))))


/-! ### what they come to -/
def classU (k : Int) : Int := if k < 0 ∨ 12 < k then -1 else if k ≤ 2 then k else if k ≤ 4 then 3 else k - 1
def sgnU (x y : Int) : Int := if x < y then -1 else if x > y then 1 else 0
def lexB (x y : ByteArray) : Int := Lib.compareBytes x.toList y.toList
def orE : Es → Int
  | [] => 0
  | [.int .i64 n] :: r => if n = 0 then orE r else n
  | _ :: _ => 0
theorem cls34 (k : Int) : Ret P T 35 [.int .i64 k] [] (.int .i64 (classU k)) [] := by
  have w : ∀ m : Int, 0 ≤ m → m ≤ 20 → IntKind.i64.wrap (m - 1) = m - 1 := fun m h1 h2 => wrap_i64 (by omega)
  unfold classU
  by_cases h0 : k = 0
  · subst h0; exact cls_in_0 rfl
  by_cases h1 : k = 1
  · subst h1; exact cls_in_1 h0 rfl
  by_cases h2 : k = 2
  · subst h2; exact cls_in_2 h0 h1 rfl
  by_cases h3 : k = 3
  · subst h3; exact cls_in_3 h0 h1 h2 rfl
  by_cases h4 : k = 4
  · subst h4; exact cls_in_4 h0 h1 h2 h3 rfl
  by_cases h5 : k = 5
  · subst h5; exact cls_in_5 h0 h1 h2 h3 h4 rfl
  by_cases h6 : k = 6
  · subst h6; exact cls_in_6 h0 h1 h2 h3 h4 h5 rfl
  by_cases h7 : k = 7
  · subst h7; exact cls_in_7 h0 h1 h2 h3 h4 h5 h6 rfl
  by_cases h8 : k = 8
  · subst h8; exact cls_in_8 h0 h1 h2 h3 h4 h5 h6 h7 rfl
  by_cases h9 : k = 9
  · subst h9; exact cls_in_9 h0 h1 h2 h3 h4 h5 h6 h7 h8 rfl
  by_cases h10 : k = 10
  · subst h10; exact cls_in_10 h0 h1 h2 h3 h4 h5 h6 h7 h8 h9 rfl
  by_cases h11 : k = 11
  · subst h11; exact cls_in_11 h0 h1 h2 h3 h4 h5 h6 h7 h8 h9 h10 rfl
  by_cases h12 : k = 12
  · subst h12; exact cls_in_12 h0 h1 h2 h3 h4 h5 h6 h7 h8 h9 h10 h11 rfl
  rw [if_pos (by omega)]
  exact cls_in_13 h0 h1 h2 h3 h4 h5 h6 h7 h8 h9 h10 h11 h12
theorem sgn56 (x y : Int) : Ret P T 30 [.int .i64 x, .int .i64 y] [] (.int .i64 (sgnU x y)) [] := by
  unfold sgnU
  by_cases h : x < y
  · rw [if_pos h]; exact sgn_in_0 h
  · rw [if_neg h]
    by_cases h' : x > y
    · rw [if_pos h']; exact sgn_in_1 h h'
    · rw [if_neg h']; exact sgn_in_2 h h'
/-! ### texts -/
theorem less_lex : ∀ x y : List UInt8, (Op.bytesLess x y = true ↔ Lib.compareBytes x y = -1) ∧ (x = y ↔ Lib.compareBytes x y = 0)
  | [], [] => by simp [Op.bytesLess, Lib.compareBytes]
  | [], _ :: _ => by simp [Op.bytesLess, Lib.compareBytes]
  | _ :: _, [] => by simp [Op.bytesLess, Lib.compareBytes]
  | a :: x, b :: y => by
    obtain ⟨h1, h2⟩ := less_lex x y
    simp only [Op.bytesLess, Lib.compareBytes]
    by_cases hab : a < b
    · have : a ≠ b := fun e => by subst e; exact absurd hab (UInt8.lt_irrefl a)
      simp [hab, this]
    · by_cases hba : b < a
      · have : a ≠ b := fun e => by subst e; exact absurd hba (UInt8.lt_irrefl a)
        simp [hab, hba, this]
      · have e : a = b := by
          have h1 : ¬ a.toNat < b.toNat := fun h => hab (UInt8.lt_iff_toNat_lt.2 h)
          have h2 : ¬ b.toNat < a.toNat := fun h => hba (UInt8.lt_iff_toNat_lt.2 h)
          exact UInt8.toNat_inj.1 (by omega)
        subst e
        simp [hab, h1, ← h2]
theorem lex_range : ∀ x y : List UInt8, Lib.compareBytes x y = -1 ∨ Lib.compareBytes x y = 0 ∨ Lib.compareBytes x y = 1
  | [], [] => .inr (.inl rfl)
  | [], _ :: _ => .inl rfl
  | _ :: _, [] => .inr (.inr rfl)
  | a :: x, b :: y => by
    simp only [Lib.compareBytes]
    split
    · exact .inl rfl
    · split
      · exact .inr (.inr rfl)
      · exact lex_range x y
theorem up {i n : Nat} (h : i < n) (hn : n ≤ maxLen) : IntKind.i64.wrap ((i : Int) + 1) = ((i + 1 : Nat) : Int) := by
  have : maxLen ≤ 9223372036854775807 := by decide
  rw [wrap_i64 (by omega)]
  omega
/-! ### cmp.Or -/
def ints (l : List Int) : Es := l.map fun n => [D.int .i64 n]
/-! ### bytes.Compare -/
def byteL (es : Es) : List UInt8 := Lib.bytesOf (es.map fun r => match r with | [.int .u8 n] => n | _ => 0)
def rows (l : List Int) : Es := l.map fun x => [D.int .u8 x]
theorem byteNums_rows' : ∀ l : List Int, byteNums (rows l) = some l
  | [] => rfl
  | x :: l => by
    show (byteNums (rows l)).map (x :: ·) = _
    rw [byteNums_rows' l]
    rfl
theorem byteL_rows (l : List Int) : byteL (rows l) = Lib.bytesOf l := by
  unfold byteL rows
  rw [List.map_map]
  congr 1
  exact List.map_id' l
def cbE (a b : Es) : Int := Lib.compareBytes (byteL a) (byteL b)
theorem cls35 (k : Int) : Ret P T 31 [.int .i64 k] [] (.int .i64 (classU k)) [] := by
  unfold classU
  by_cases h0 : k < 0
  · rw [if_pos (by omega)]; exact clsR_in_0 h0
  · by_cases h1 : k > 12
    · rw [if_pos (by omega)]; exact clsR_in_1 h0 h1
    · rw [if_neg (by omega)]
      by_cases h2 : k ≤ 3
      · have e := clsR_in_2 h0 h1 h2
        by_cases h3 : k ≤ 2
        · rw [if_pos h3]; exact e
        · rw [if_neg h3, if_pos (by omega)]
          obtain rfl : k = 3 := by omega
          exact e
      · have e := clsR_in_3 h0 h1 h2
        rw [if_neg (by omega)]
        rw [wrap_i64 (by omega)] at e
        by_cases h3 : k ≤ 4
        · rw [if_pos h3]
          obtain rfl : k = 4 := by omega
          exact e
        · rw [if_neg h3]; exact e
/-! ### the reference's texts -/
theorem getD_list (x : ByteArray) (i : Nat) : x.data.getD i 0 = x.toList.getD i 0 := by
  rw [Lib.toList_data, List.getD_eq_getElem?_getD, Array.getD_eq_getD_getElem?, Array.getElem?_toList]
theorem size_list (x : ByteArray) : x.size = x.toList.length := by
  rw [Lib.toList_data, Array.length_toList]
  rfl
theorem u8w (b : UInt8) : IntKind.i64.wrap (b.toNat : Int) = (b.toNat : Int) := by
  have := b.toNat_lt
  exact wrap_i64 (by omega)
theorem txt57 (x y : ByteArray) (hx : x.size ≤ maxLen) : Ret P T 32 [.str x, .str y] [] (.int .i64 (lexB x y)) [] := by
  have hX := size_list x
  have hY := size_list y
  have key : ∀ (m i : Nat), i + m = x.size → i ≤ y.size → txt_at0 x y i (.int .i64 (Lib.compareBytes (x.toList.drop i) (y.toList.drop i))) [] := by
    intro m
    induction m with
    | zero =>
      intro i hi hie
      rw [List.drop_of_length_le (l := x.toList) (by omega)]
      by_cases h : i < y.size
      · rw [List.drop_eq_getElem_cons (l := y.toList) (by omega)]
        exact txt_0_7 (by omega) (by omega)
      · rw [List.drop_of_length_le (l := y.toList) (by omega)]
        exact txt_0_9 (by omega) (by omega) (by omega)
    | succ m ih =>
      intro i hi hie
      have hlt : i < x.toList.length := by omega
      rw [List.drop_eq_getElem_cons hlt]
      have gx : (x.data.getD ((i : Int)).toNat 0) = x.toList[i] := by rw [Int.toNat_natCast, getD_list, List.getD_eq_getElem?_getD, List.getElem?_eq_getElem hlt]; rfl
      by_cases h : i < y.size
      · have hlt' : i < y.toList.length := by omega
        have gy : (y.data.getD ((i : Int)).toNat 0) = y.toList[i] := by rw [Int.toNat_natCast, getD_list, List.getD_eq_getElem?_getD, List.getElem?_eq_getElem hlt']; rfl
        rw [List.drop_eq_getElem_cons hlt']
        simp only [Lib.compareBytes]
        have e0 := @txt_0_0 x y i
        have e1 := @txt_0_1 x y i
        have e3 := @txt_0_3 x y i
        simp only [gx, gy, u8w] at e0 e1 e3
        by_cases hl : x.toList[i] < y.toList[i]
        · rw [if_pos hl]
          have := UInt8.lt_iff_toNat_lt.1 hl
          exact e0 (by omega) (by omega) (by omega) (by omega) (by omega) (by omega)
        · rw [if_neg hl]
          have hl' : ¬ x.toList[i].toNat < y.toList[i].toNat := fun h => hl (UInt8.lt_iff_toNat_lt.2 h)
          by_cases hg : y.toList[i] < x.toList[i]
          · rw [if_pos hg]
            have := UInt8.lt_iff_toNat_lt.1 hg
            exact e1 (by omega) (by omega) (by omega) (by omega) (by omega) (by omega) (by omega)
          · rw [if_neg hg]
            have hg' : ¬ y.toList[i].toNat < x.toList[i].toNat := fun h => hg (UInt8.lt_iff_toNat_lt.2 h)
            have hup : IntKind.i64.wrap ((i : Int) + 1) = ((i + 1 : Nat) : Int) := up (n := x.size) (by omega) hx
            rw [hup] at e3
            exact e3 (by omega) (by omega) (by omega) (by omega) (by omega) (ih (i + 1) (by omega) (by omega))
      · rw [List.drop_of_length_le (l := y.toList) (by omega)]
        exact txt_0_5 (by omega) (by omega) (by omega) (by omega)
  exact txt_in_0 (by simpa [lexB] using key x.size 0 (by omega) (by omega))

end Go.Proofs.Ytlccdfilbiipmaa.ordk
