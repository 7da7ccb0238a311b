/- The order of values: roads of the small functions. -/
import Derived.Test.YtbkacmcijimbfaaRows
import Derived.Test.YtbkacmcijimbfaaGd32
namespace Go.Proofs.Ytbkacmcijimbfaa.ordk
open Go Ytbkacmcijimbfaa.GD
set_option linter.unusedVariables false
set_option linter.unusedSimpArgs false
set_option maxRecDepth 100000

abbrev Es := List (List D)
abbrev Tab := FuncId → List D → GD.Heap → Option (D × GD.Heap)
noncomputable abbrev P : Program := Try.prog
noncomputable abbrev T : Tys := tyOf Try.prog
def t0 : Tab := fun _ _ _ => none
def a1 (k : Int) : List D × GD.Heap := ([.int .i64 k], [])
def t1 (k : Int) : Tab := t0
def a2 (x y : Int) : List D × GD.Heap := ([.int .i64 x, .int .i64 y], [])
def t2 (x y : Int) : Tab := t0
def as2 (x y : ByteArray) : List D × GD.Heap := ([.str x, .str y], [])
def ts2 (x y : ByteArray) : Tab := t0
def aOr (xb : Bool) (es : Es) : List D × GD.Heap := ([.slice xb es none], [])
def tOr (xb : Bool) (es : Es) : Tab := t0
def aBy (cb : Es → Es → Int) (xa : Bool) (ea : Es) (xb : Bool) (eb : Es) : List D × GD.Heap := ([.slice xa ea none, .slice xb eb none], [])
def tBy (cb : Es → Es → Int) (xa : Bool) (ea : Es) (xb : Bool) (eb : Es) : Tab := t0
def xBy (cb : Es → Es → Int) (xa : Bool) (ea : Es) (xb : Bool) (eb : Es) : FuncId → List D → Option D := fun k args =>
  match k with
  | 78 => match args with | [.slice _ a _, .slice _ b _] => some (.int .i64 (cb a b)) | _ => none
  | _ => none

/-! ### function 34 -/
theorem cls_fn : Try.prog.funcs[(34 : Nat)]? = some (fnAt Try.prog 34) := by kernel_rfl
theorem cls_body : (fnAt Try.prog 34).body = some (bodyAt Try.prog 34) := by kernel_rfl
theorem cls_name : ((fnAt Try.prog 34).name == "runtime.NumGoroutine") = false := by kernel_rfl
noncomputable def cls_C (k : Int) : Cf := cfg Try.prog (hintOf []) (t1 k) (fun _ => false) 2 true (fun _ => false)
theorem cls_ok (k : Int) : CfOk (cls_C k) := cfg_ok (by kernel_rfl)
noncomputable def cls_run (k : Int) (qcur : Cur) (qk : List It) (qs : St) (qor : GD.Or) := runE (cls_C k) (callE (cls_C k) 100000 10) 34 100000 qcur qk qs qor []

theorem cls_in_0 {k : Int}
    (h0 : k = (0 : Int)) :
    Ret Try.prog (tyOf Try.prog) 34 [D.int IntKind.i64 k] [] (D.int IntKind.i64 k) [] :=
  have b0 : (k == (0 : Int)) = true := beq_iff_eq.2 h0
  fin_call cls_fn cls_body cls_name (fin_ret (h := 0) (cls_ok k) (show outF (tyOf Try.prog) (fnAt Try.prog 34) 0 (cls_run k (.code (bodyAt Try.prog 34)) [] (beginE (fnAt Try.prog 34) [D.int IntKind.i64 k] []) (.path [true, true])) = some (D.int IntKind.i64 k, [],
    [(k == (0 : Int)) = true,
      (k == (0 : Int)) = true]) by kernel_rfl)
    (all_cons.2 ⟨b0, all_cons.2 ⟨b0, all_nil.2 trivial⟩⟩))

theorem cls_in_1 {k : Int}
    (h0 : k ≠ (0 : Int))
    (h1 : k = (1 : Int)) :
    Ret Try.prog (tyOf Try.prog) 34 [D.int IntKind.i64 k] [] (D.int IntKind.i64 k) [] :=
  have b0 : (k == (0 : Int)) = false := beq_eq_false_iff_ne.2 h0
  have b1 : (k == (1 : Int)) = true := beq_iff_eq.2 h1
  fin_call cls_fn cls_body cls_name (fin_ret (h := 0) (cls_ok k) (show outF (tyOf Try.prog) (fnAt Try.prog 34) 0 (cls_run k (.code (bodyAt Try.prog 34)) [] (beginE (fnAt Try.prog 34) [D.int IntKind.i64 k] []) (.path [false, true, true])) = some (D.int IntKind.i64 k, [],
    [(k == (1 : Int)) = true,
      (k == (1 : Int)) = true,
      (k == (0 : Int)) = false]) by kernel_rfl)
    (all_cons.2 ⟨b1, all_cons.2 ⟨b1, all_cons.2 ⟨b0, all_nil.2 trivial⟩⟩⟩))

theorem cls_in_2 {k : Int}
    (h0 : k ≠ (0 : Int))
    (h1 : k ≠ (1 : Int))
    (h2 : k = (2 : Int)) :
    Ret Try.prog (tyOf Try.prog) 34 [D.int IntKind.i64 k] [] (D.int IntKind.i64 k) [] :=
  have b0 : (k == (0 : Int)) = false := beq_eq_false_iff_ne.2 h0
  have b1 : (k == (1 : Int)) = false := beq_eq_false_iff_ne.2 h1
  have b2 : (k == (2 : Int)) = true := beq_iff_eq.2 h2
  fin_call cls_fn cls_body cls_name (fin_ret (h := 0) (cls_ok k) (show outF (tyOf Try.prog) (fnAt Try.prog 34) 0 (cls_run k (.code (bodyAt Try.prog 34)) [] (beginE (fnAt Try.prog 34) [D.int IntKind.i64 k] []) (.path [false, false, true])) = some (D.int IntKind.i64 k, [],
    [(k == (2 : Int)) = true,
      (k == (1 : Int)) = false,
      (k == (0 : Int)) = false]) by kernel_rfl)
    (all_cons.2 ⟨b2, all_cons.2 ⟨b1, all_cons.2 ⟨b0, all_nil.2 trivial⟩⟩⟩))

theorem cls_in_3 {k : Int}
    (h0 : k ≠ (0 : Int))
    (h1 : k ≠ (1 : Int))
    (h2 : k ≠ (2 : Int))
    (h3 : k = (3 : Int)) :
    Ret Try.prog (tyOf Try.prog) 34 [D.int IntKind.i64 k] [] (D.int IntKind.i64 (3 : Int)) [] :=
  have b0 : (k == (0 : Int)) = false := beq_eq_false_iff_ne.2 h0
  have b1 : (k == (1 : Int)) = false := beq_eq_false_iff_ne.2 h1
  have b2 : (k == (2 : Int)) = false := beq_eq_false_iff_ne.2 h2
  have b3 : (k == (3 : Int)) = true := beq_iff_eq.2 h3
  fin_call cls_fn cls_body cls_name (fin_ret (h := 0) (cls_ok k) (show outF (tyOf Try.prog) (fnAt Try.prog 34) 0 (cls_run k (.code (bodyAt Try.prog 34)) [] (beginE (fnAt Try.prog 34) [D.int IntKind.i64 k] []) (.path [false, false, false, true, true])) = some (D.int IntKind.i64 (3 : Int), [],
    [(k == (3 : Int)) = true,
      (k == (3 : Int)) = true,
      (k == (2 : Int)) = false,
      (k == (1 : Int)) = false,
      (k == (0 : Int)) = false]) by kernel_rfl)
    (all_cons.2 ⟨b3, all_cons.2 ⟨b3, all_cons.2 ⟨b2, all_cons.2 ⟨b1, all_cons.2 ⟨b0, all_nil.2 trivial⟩⟩⟩⟩⟩))

theorem cls_in_4 {k : Int}
    (h0 : k ≠ (0 : Int))
    (h1 : k ≠ (1 : Int))
    (h2 : k ≠ (2 : Int))
    (h3 : k ≠ (3 : Int))
    (h4 : k = (4 : Int)) :
    Ret Try.prog (tyOf Try.prog) 34 [D.int IntKind.i64 k] [] (D.int IntKind.i64 (3 : Int)) [] :=
  have b0 : (k == (0 : Int)) = false := beq_eq_false_iff_ne.2 h0
  have b1 : (k == (1 : Int)) = false := beq_eq_false_iff_ne.2 h1
  have b2 : (k == (2 : Int)) = false := beq_eq_false_iff_ne.2 h2
  have b3 : (k == (3 : Int)) = false := beq_eq_false_iff_ne.2 h3
  have b4 : (k == (4 : Int)) = true := beq_iff_eq.2 h4
  fin_call cls_fn cls_body cls_name (fin_ret (h := 0) (cls_ok k) (show outF (tyOf Try.prog) (fnAt Try.prog 34) 0 (cls_run k (.code (bodyAt Try.prog 34)) [] (beginE (fnAt Try.prog 34) [D.int IntKind.i64 k] []) (.path [false, false, false, false, true])) = some (D.int IntKind.i64 (3 : Int), [],
    [(k == (4 : Int)) = true,
      (k == (3 : Int)) = false,
      (k == (2 : Int)) = false,
      (k == (1 : Int)) = false,
      (k == (0 : Int)) = false]) by kernel_rfl)
    (all_cons.2 ⟨b4, all_cons.2 ⟨b3, all_cons.2 ⟨b2, all_cons.2 ⟨b1, all_cons.2 ⟨b0, all_nil.2 trivial⟩⟩⟩⟩⟩))

theorem cls_in_5 {k : Int}
    (h0 : k ≠ (0 : Int))
    (h1 : k ≠ (1 : Int))
    (h2 : k ≠ (2 : Int))
    (h3 : k ≠ (3 : Int))
    (h4 : k ≠ (4 : Int))
    (h5 : k = (5 : Int)) :
    Ret Try.prog (tyOf Try.prog) 34 [D.int IntKind.i64 k] [] (D.int IntKind.i64 (IntKind.i64.wrap (k - (1 : Int)))) [] :=
  have b0 : (k == (0 : Int)) = false := beq_eq_false_iff_ne.2 h0
  have b1 : (k == (1 : Int)) = false := beq_eq_false_iff_ne.2 h1
  have b2 : (k == (2 : Int)) = false := beq_eq_false_iff_ne.2 h2
  have b3 : (k == (3 : Int)) = false := beq_eq_false_iff_ne.2 h3
  have b4 : (k == (4 : Int)) = false := beq_eq_false_iff_ne.2 h4
  have b5 : (k == (5 : Int)) = true := beq_iff_eq.2 h5
  fin_call cls_fn cls_body cls_name (fin_ret (h := 0) (cls_ok k) (show outF (tyOf Try.prog) (fnAt Try.prog 34) 0 (cls_run k (.code (bodyAt Try.prog 34)) [] (beginE (fnAt Try.prog 34) [D.int IntKind.i64 k] []) (.path [false, false, false, false, false, true, true])) = some (D.int IntKind.i64 (IntKind.i64.wrap (k - (1 : Int))), [],
    [(k == (5 : Int)) = true,
      (k == (5 : Int)) = true,
      (k == (4 : Int)) = false,
      (k == (3 : Int)) = false,
      (k == (2 : Int)) = false,
      (k == (1 : Int)) = false,
      (k == (0 : Int)) = false]) by kernel_rfl)
    (all_cons.2 ⟨b5, all_cons.2 ⟨b5, all_cons.2 ⟨b4, all_cons.2 ⟨b3, all_cons.2 ⟨b2, all_cons.2 ⟨b1, all_cons.2 ⟨b0, all_nil.2 trivial⟩⟩⟩⟩⟩⟩⟩))

theorem cls_in_6 {k : Int}
    (h0 : k ≠ (0 : Int))
    (h1 : k ≠ (1 : Int))
    (h2 : k ≠ (2 : Int))
    (h3 : k ≠ (3 : Int))
    (h4 : k ≠ (4 : Int))
    (h5 : k ≠ (5 : Int))
    (h6 : k = (6 : Int)) :
    Ret Try.prog (tyOf Try.prog) 34 [D.int IntKind.i64 k] [] (D.int IntKind.i64 (IntKind.i64.wrap (k - (1 : Int)))) [] :=
  have b0 : (k == (0 : Int)) = false := beq_eq_false_iff_ne.2 h0
  have b1 : (k == (1 : Int)) = false := beq_eq_false_iff_ne.2 h1
  have b2 : (k == (2 : Int)) = false := beq_eq_false_iff_ne.2 h2
  have b3 : (k == (3 : Int)) = false := beq_eq_false_iff_ne.2 h3
  have b4 : (k == (4 : Int)) = false := beq_eq_false_iff_ne.2 h4
  have b5 : (k == (5 : Int)) = false := beq_eq_false_iff_ne.2 h5
  have b6 : (k == (6 : Int)) = true := beq_iff_eq.2 h6
  fin_call cls_fn cls_body cls_name (fin_ret (h := 0) (cls_ok k) (show outF (tyOf Try.prog) (fnAt Try.prog 34) 0 (cls_run k (.code (bodyAt Try.prog 34)) [] (beginE (fnAt Try.prog 34) [D.int IntKind.i64 k] []) (.path [false, false, false, false, false, false, true, true])) = some (D.int IntKind.i64 (IntKind.i64.wrap (k - (1 : Int))), [],
    [(k == (6 : Int)) = true,
      (k == (6 : Int)) = true,
      (k == (5 : Int)) = false,
      (k == (4 : Int)) = false,
      (k == (3 : Int)) = false,
      (k == (2 : Int)) = false,
      (k == (1 : Int)) = false,
      (k == (0 : Int)) = false]) by kernel_rfl)
    (all_cons.2 ⟨b6, all_cons.2 ⟨b6, all_cons.2 ⟨b5, all_cons.2 ⟨b4, all_cons.2 ⟨b3, all_cons.2 ⟨b2, all_cons.2 ⟨b1, all_cons.2 ⟨b0, all_nil.2 trivial⟩⟩⟩⟩⟩⟩⟩⟩))

theorem cls_in_7 {k : Int}
    (h0 : k ≠ (0 : Int))
    (h1 : k ≠ (1 : Int))
    (h2 : k ≠ (2 : Int))
    (h3 : k ≠ (3 : Int))
    (h4 : k ≠ (4 : Int))
    (h5 : k ≠ (5 : Int))
    (h6 : k ≠ (6 : Int))
    (h7 : k = (7 : Int)) :
    Ret Try.prog (tyOf Try.prog) 34 [D.int IntKind.i64 k] [] (D.int IntKind.i64 (IntKind.i64.wrap (k - (1 : Int)))) [] :=
  have b0 : (k == (0 : Int)) = false := beq_eq_false_iff_ne.2 h0
  have b1 : (k == (1 : Int)) = false := beq_eq_false_iff_ne.2 h1
  have b2 : (k == (2 : Int)) = false := beq_eq_false_iff_ne.2 h2
  have b3 : (k == (3 : Int)) = false := beq_eq_false_iff_ne.2 h3
  have b4 : (k == (4 : Int)) = false := beq_eq_false_iff_ne.2 h4
  have b5 : (k == (5 : Int)) = false := beq_eq_false_iff_ne.2 h5
  have b6 : (k == (6 : Int)) = false := beq_eq_false_iff_ne.2 h6
  have b7 : (k == (7 : Int)) = true := beq_iff_eq.2 h7
  fin_call cls_fn cls_body cls_name (fin_ret (h := 0) (cls_ok k) (show outF (tyOf Try.prog) (fnAt Try.prog 34) 0 (cls_run k (.code (bodyAt Try.prog 34)) [] (beginE (fnAt Try.prog 34) [D.int IntKind.i64 k] []) (.path [false, false, false, false, false, false, false, true, true])) = some (D.int IntKind.i64 (IntKind.i64.wrap (k - (1 : Int))), [],
    [(k == (7 : Int)) = true,
      (k == (7 : Int)) = true,
      (k == (6 : Int)) = false,
      (k == (5 : Int)) = false,
      (k == (4 : Int)) = false,
      (k == (3 : Int)) = false,
      (k == (2 : Int)) = false,
      (k == (1 : Int)) = false,
      (k == (0 : Int)) = false]) by kernel_rfl)
    (all_cons.2 ⟨b7, all_cons.2 ⟨b7, all_cons.2 ⟨b6, all_cons.2 ⟨b5, all_cons.2 ⟨b4, all_cons.2 ⟨b3, all_cons.2 ⟨b2, all_cons.2 ⟨b1, all_cons.2 ⟨b0, all_nil.2 trivial⟩⟩⟩⟩⟩⟩⟩⟩⟩))

theorem cls_in_8 {k : Int}
    (h0 : k ≠ (0 : Int))
    (h1 : k ≠ (1 : Int))
    (h2 : k ≠ (2 : Int))
    (h3 : k ≠ (3 : Int))
    (h4 : k ≠ (4 : Int))
    (h5 : k ≠ (5 : Int))
    (h6 : k ≠ (6 : Int))
    (h7 : k ≠ (7 : Int))
    (h8 : k = (8 : Int)) :
    Ret Try.prog (tyOf Try.prog) 34 [D.int IntKind.i64 k] [] (D.int IntKind.i64 (IntKind.i64.wrap (k - (1 : Int)))) [] :=
  have b0 : (k == (0 : Int)) = false := beq_eq_false_iff_ne.2 h0
  have b1 : (k == (1 : Int)) = false := beq_eq_false_iff_ne.2 h1
  have b2 : (k == (2 : Int)) = false := beq_eq_false_iff_ne.2 h2
  have b3 : (k == (3 : Int)) = false := beq_eq_false_iff_ne.2 h3
  have b4 : (k == (4 : Int)) = false := beq_eq_false_iff_ne.2 h4
  have b5 : (k == (5 : Int)) = false := beq_eq_false_iff_ne.2 h5
  have b6 : (k == (6 : Int)) = false := beq_eq_false_iff_ne.2 h6
  have b7 : (k == (7 : Int)) = false := beq_eq_false_iff_ne.2 h7
  have b8 : (k == (8 : Int)) = true := beq_iff_eq.2 h8
  fin_call cls_fn cls_body cls_name (fin_ret (h := 0) (cls_ok k) (show outF (tyOf Try.prog) (fnAt Try.prog 34) 0 (cls_run k (.code (bodyAt Try.prog 34)) [] (beginE (fnAt Try.prog 34) [D.int IntKind.i64 k] []) (.path [false, false, false, false, false, false, false, false, true, true])) = some (D.int IntKind.i64 (IntKind.i64.wrap (k - (1 : Int))), [],
    [(k == (8 : Int)) = true,
      (k == (8 : Int)) = true,
      (k == (7 : Int)) = false,
      (k == (6 : Int)) = false,
      (k == (5 : Int)) = false,
      (k == (4 : Int)) = false,
      (k == (3 : Int)) = false,
      (k == (2 : Int)) = false,
      (k == (1 : Int)) = false,
      (k == (0 : Int)) = false]) by kernel_rfl)
    (all_cons.2 ⟨b8, all_cons.2 ⟨b8, all_cons.2 ⟨b7, all_cons.2 ⟨b6, all_cons.2 ⟨b5, all_cons.2 ⟨b4, all_cons.2 ⟨b3, all_cons.2 ⟨b2, all_cons.2 ⟨b1, all_cons.2 ⟨b0, all_nil.2 trivial⟩⟩⟩⟩⟩⟩⟩⟩⟩⟩))

theorem cls_in_9 {k : Int}
    (h0 : k ≠ (0 : Int))
    (h1 : k ≠ (1 : Int))
    (h2 : k ≠ (2 : Int))
    (h3 : k ≠ (3 : Int))
    (h4 : k ≠ (4 : Int))
    (h5 : k ≠ (5 : Int))
    (h6 : k ≠ (6 : Int))
    (h7 : k ≠ (7 : Int))
    (h8 : k ≠ (8 : Int))
    (h9 : k = (9 : Int)) :
    Ret Try.prog (tyOf Try.prog) 34 [D.int IntKind.i64 k] [] (D.int IntKind.i64 (IntKind.i64.wrap (k - (1 : Int)))) [] :=
  have b0 : (k == (0 : Int)) = false := beq_eq_false_iff_ne.2 h0
  have b1 : (k == (1 : Int)) = false := beq_eq_false_iff_ne.2 h1
  have b2 : (k == (2 : Int)) = false := beq_eq_false_iff_ne.2 h2
  have b3 : (k == (3 : Int)) = false := beq_eq_false_iff_ne.2 h3
  have b4 : (k == (4 : Int)) = false := beq_eq_false_iff_ne.2 h4
  have b5 : (k == (5 : Int)) = false := beq_eq_false_iff_ne.2 h5
  have b6 : (k == (6 : Int)) = false := beq_eq_false_iff_ne.2 h6
  have b7 : (k == (7 : Int)) = false := beq_eq_false_iff_ne.2 h7
  have b8 : (k == (8 : Int)) = false := beq_eq_false_iff_ne.2 h8
  have b9 : (k == (9 : Int)) = true := beq_iff_eq.2 h9
  fin_call cls_fn cls_body cls_name (fin_ret (h := 0) (cls_ok k) (show outF (tyOf Try.prog) (fnAt Try.prog 34) 0 (cls_run k (.code (bodyAt Try.prog 34)) [] (beginE (fnAt Try.prog 34) [D.int IntKind.i64 k] []) (.path [false, false, false, false, false, false, false, false, false, true, true])) = some (D.int IntKind.i64 (IntKind.i64.wrap (k - (1 : Int))), [],
    [(k == (9 : Int)) = true,
      (k == (9 : Int)) = true,
      (k == (8 : Int)) = false,
      (k == (7 : Int)) = false,
      (k == (6 : Int)) = false,
      (k == (5 : Int)) = false,
      (k == (4 : Int)) = false,
      (k == (3 : Int)) = false,
      (k == (2 : Int)) = false,
      (k == (1 : Int)) = false,
      (k == (0 : Int)) = false]) by kernel_rfl)
    (all_cons.2 ⟨b9, all_cons.2 ⟨b9, all_cons.2 ⟨b8, all_cons.2 ⟨b7, all_cons.2 ⟨b6, all_cons.2 ⟨b5, all_cons.2 ⟨b4, all_cons.2 ⟨b3, all_cons.2 ⟨b2, all_cons.2 ⟨b1, all_cons.2 ⟨b0, all_nil.2 trivial⟩⟩⟩⟩⟩⟩⟩⟩⟩⟩⟩))

theorem cls_in_10 {k : Int}
    (h0 : k ≠ (0 : Int))
    (h1 : k ≠ (1 : Int))
    (h2 : k ≠ (2 : Int))
    (h3 : k ≠ (3 : Int))
    (h4 : k ≠ (4 : Int))
    (h5 : k ≠ (5 : Int))
    (h6 : k ≠ (6 : Int))
    (h7 : k ≠ (7 : Int))
    (h8 : k ≠ (8 : Int))
    (h9 : k ≠ (9 : Int))
    (h10 : k = (10 : Int)) :
    Ret Try.prog (tyOf Try.prog) 34 [D.int IntKind.i64 k] [] (D.int IntKind.i64 (IntKind.i64.wrap (k - (1 : Int)))) [] :=
  have b0 : (k == (0 : Int)) = false := beq_eq_false_iff_ne.2 h0
  have b1 : (k == (1 : Int)) = false := beq_eq_false_iff_ne.2 h1
  have b2 : (k == (2 : Int)) = false := beq_eq_false_iff_ne.2 h2
  have b3 : (k == (3 : Int)) = false := beq_eq_false_iff_ne.2 h3
  have b4 : (k == (4 : Int)) = false := beq_eq_false_iff_ne.2 h4
  have b5 : (k == (5 : Int)) = false := beq_eq_false_iff_ne.2 h5
  have b6 : (k == (6 : Int)) = false := beq_eq_false_iff_ne.2 h6
  have b7 : (k == (7 : Int)) = false := beq_eq_false_iff_ne.2 h7
  have b8 : (k == (8 : Int)) = false := beq_eq_false_iff_ne.2 h8
  have b9 : (k == (9 : Int)) = false := beq_eq_false_iff_ne.2 h9
  have b10 : (k == (10 : Int)) = true := beq_iff_eq.2 h10
  fin_call cls_fn cls_body cls_name (fin_ret (h := 0) (cls_ok k) (show outF (tyOf Try.prog) (fnAt Try.prog 34) 0 (cls_run k (.code (bodyAt Try.prog 34)) [] (beginE (fnAt Try.prog 34) [D.int IntKind.i64 k] []) (.path [false, false, false, false, false, false, false, false, false, false, true, true])) = some (D.int IntKind.i64 (IntKind.i64.wrap (k - (1 : Int))), [],
    [(k == (10 : Int)) = true,
      (k == (10 : Int)) = true,
      (k == (9 : Int)) = false,
      (k == (8 : Int)) = false,
      (k == (7 : Int)) = false,
      (k == (6 : Int)) = false,
      (k == (5 : Int)) = false,
      (k == (4 : Int)) = false,
      (k == (3 : Int)) = false,
      (k == (2 : Int)) = false,
      (k == (1 : Int)) = false,
      (k == (0 : Int)) = false]) by kernel_rfl)
    (all_cons.2 ⟨b10, all_cons.2 ⟨b10, all_cons.2 ⟨b9, all_cons.2 ⟨b8, all_cons.2 ⟨b7, all_cons.2 ⟨b6, all_cons.2 ⟨b5, all_cons.2 ⟨b4, all_cons.2 ⟨b3, all_cons.2 ⟨b2, all_cons.2 ⟨b1, all_cons.2 ⟨b0, all_nil.2 trivial⟩⟩⟩⟩⟩⟩⟩⟩⟩⟩⟩⟩))

theorem cls_in_11 {k : Int}
    (h0 : k ≠ (0 : Int))
    (h1 : k ≠ (1 : Int))
    (h2 : k ≠ (2 : Int))
    (h3 : k ≠ (3 : Int))
    (h4 : k ≠ (4 : Int))
    (h5 : k ≠ (5 : Int))
    (h6 : k ≠ (6 : Int))
    (h7 : k ≠ (7 : Int))
    (h8 : k ≠ (8 : Int))
    (h9 : k ≠ (9 : Int))
    (h10 : k ≠ (10 : Int))
    (h11 : k = (11 : Int)) :
    Ret Try.prog (tyOf Try.prog) 34 [D.int IntKind.i64 k] [] (D.int IntKind.i64 (IntKind.i64.wrap (k - (1 : Int)))) [] :=
  have b0 : (k == (0 : Int)) = false := beq_eq_false_iff_ne.2 h0
  have b1 : (k == (1 : Int)) = false := beq_eq_false_iff_ne.2 h1
  have b2 : (k == (2 : Int)) = false := beq_eq_false_iff_ne.2 h2
  have b3 : (k == (3 : Int)) = false := beq_eq_false_iff_ne.2 h3
  have b4 : (k == (4 : Int)) = false := beq_eq_false_iff_ne.2 h4
  have b5 : (k == (5 : Int)) = false := beq_eq_false_iff_ne.2 h5
  have b6 : (k == (6 : Int)) = false := beq_eq_false_iff_ne.2 h6
  have b7 : (k == (7 : Int)) = false := beq_eq_false_iff_ne.2 h7
  have b8 : (k == (8 : Int)) = false := beq_eq_false_iff_ne.2 h8
  have b9 : (k == (9 : Int)) = false := beq_eq_false_iff_ne.2 h9
  have b10 : (k == (10 : Int)) = false := beq_eq_false_iff_ne.2 h10
  have b11 : (k == (11 : Int)) = true := beq_iff_eq.2 h11
  fin_call cls_fn cls_body cls_name (fin_ret (h := 0) (cls_ok k) (show outF (tyOf Try.prog) (fnAt Try.prog 34) 0 (cls_run k (.code (bodyAt Try.prog 34)) [] (beginE (fnAt Try.prog 34) [D.int IntKind.i64 k] []) (.path [false, false, false, false, false, false, false, false, false, false, false, true, true])) = some (D.int IntKind.i64 (IntKind.i64.wrap (k - (1 : Int))), [],
    [(k == (11 : Int)) = true,
      (k == (11 : Int)) = true,
      (k == (10 : Int)) = false,
      (k == (9 : Int)) = false,
      (k == (8 : Int)) = false,
      (k == (7 : Int)) = false,
      (k == (6 : Int)) = false,
      (k == (5 : Int)) = false,
      (k == (4 : Int)) = false,
      (k == (3 : Int)) = false,
      (k == (2 : Int)) = false,
      (k == (1 : Int)) = false,
      (k == (0 : Int)) = false]) by kernel_rfl)
    (all_cons.2 ⟨b11, all_cons.2 ⟨b11, all_cons.2 ⟨b10, all_cons.2 ⟨b9, all_cons.2 ⟨b8, all_cons.2 ⟨b7, all_cons.2 ⟨b6, all_cons.2 ⟨b5, all_cons.2 ⟨b4, all_cons.2 ⟨b3, all_cons.2 ⟨b2, all_cons.2 ⟨b1, all_cons.2 ⟨b0, all_nil.2 trivial⟩⟩⟩⟩⟩⟩⟩⟩⟩⟩⟩⟩⟩))

theorem cls_in_12 {k : Int}
    (h0 : k ≠ (0 : Int))
    (h1 : k ≠ (1 : Int))
    (h2 : k ≠ (2 : Int))
    (h3 : k ≠ (3 : Int))
    (h4 : k ≠ (4 : Int))
    (h5 : k ≠ (5 : Int))
    (h6 : k ≠ (6 : Int))
    (h7 : k ≠ (7 : Int))
    (h8 : k ≠ (8 : Int))
    (h9 : k ≠ (9 : Int))
    (h10 : k ≠ (10 : Int))
    (h11 : k ≠ (11 : Int))
    (h12 : k = (12 : Int)) :
    Ret Try.prog (tyOf Try.prog) 34 [D.int IntKind.i64 k] [] (D.int IntKind.i64 (IntKind.i64.wrap (k - (1 : Int)))) [] :=
  have b0 : (k == (0 : Int)) = false := beq_eq_false_iff_ne.2 h0
  have b1 : (k == (1 : Int)) = false := beq_eq_false_iff_ne.2 h1
  have b2 : (k == (2 : Int)) = false := beq_eq_false_iff_ne.2 h2
  have b3 : (k == (3 : Int)) = false := beq_eq_false_iff_ne.2 h3
  have b4 : (k == (4 : Int)) = false := beq_eq_false_iff_ne.2 h4
  have b5 : (k == (5 : Int)) = false := beq_eq_false_iff_ne.2 h5
  have b6 : (k == (6 : Int)) = false := beq_eq_false_iff_ne.2 h6
  have b7 : (k == (7 : Int)) = false := beq_eq_false_iff_ne.2 h7
  have b8 : (k == (8 : Int)) = false := beq_eq_false_iff_ne.2 h8
  have b9 : (k == (9 : Int)) = false := beq_eq_false_iff_ne.2 h9
  have b10 : (k == (10 : Int)) = false := beq_eq_false_iff_ne.2 h10
  have b11 : (k == (11 : Int)) = false := beq_eq_false_iff_ne.2 h11
  have b12 : (k == (12 : Int)) = true := beq_iff_eq.2 h12
  fin_call cls_fn cls_body cls_name (fin_ret (h := 0) (cls_ok k) (show outF (tyOf Try.prog) (fnAt Try.prog 34) 0 (cls_run k (.code (bodyAt Try.prog 34)) [] (beginE (fnAt Try.prog 34) [D.int IntKind.i64 k] []) (.path [false, false, false, false, false, false, false, false, false, false, false, false, true])) = some (D.int IntKind.i64 (IntKind.i64.wrap (k - (1 : Int))), [],
    [(k == (12 : Int)) = true,
      (k == (11 : Int)) = false,
      (k == (10 : Int)) = false,
      (k == (9 : Int)) = false,
      (k == (8 : Int)) = false,
      (k == (7 : Int)) = false,
      (k == (6 : Int)) = false,
      (k == (5 : Int)) = false,
      (k == (4 : Int)) = false,
      (k == (3 : Int)) = false,
      (k == (2 : Int)) = false,
      (k == (1 : Int)) = false,
      (k == (0 : Int)) = false]) by kernel_rfl)
    (all_cons.2 ⟨b12, all_cons.2 ⟨b11, all_cons.2 ⟨b10, all_cons.2 ⟨b9, all_cons.2 ⟨b8, all_cons.2 ⟨b7, all_cons.2 ⟨b6, all_cons.2 ⟨b5, all_cons.2 ⟨b4, all_cons.2 ⟨b3, all_cons.2 ⟨b2, all_cons.2 ⟨b1, all_cons.2 ⟨b0, all_nil.2 trivial⟩⟩⟩⟩⟩⟩⟩⟩⟩⟩⟩⟩⟩))

theorem cls_in_13 {k : Int}
    (h0 : k ≠ (0 : Int))
    (h1 : k ≠ (1 : Int))
    (h2 : k ≠ (2 : Int))
    (h3 : k ≠ (3 : Int))
    (h4 : k ≠ (4 : Int))
    (h5 : k ≠ (5 : Int))
    (h6 : k ≠ (6 : Int))
    (h7 : k ≠ (7 : Int))
    (h8 : k ≠ (8 : Int))
    (h9 : k ≠ (9 : Int))
    (h10 : k ≠ (10 : Int))
    (h11 : k ≠ (11 : Int))
    (h12 : k ≠ (12 : Int)) :
    Ret Try.prog (tyOf Try.prog) 34 [D.int IntKind.i64 k] [] (D.int IntKind.i64 (-1 : Int)) [] :=
  have b0 : (k == (0 : Int)) = false := beq_eq_false_iff_ne.2 h0
  have b1 : (k == (1 : Int)) = false := beq_eq_false_iff_ne.2 h1
  have b2 : (k == (2 : Int)) = false := beq_eq_false_iff_ne.2 h2
  have b3 : (k == (3 : Int)) = false := beq_eq_false_iff_ne.2 h3
  have b4 : (k == (4 : Int)) = false := beq_eq_false_iff_ne.2 h4
  have b5 : (k == (5 : Int)) = false := beq_eq_false_iff_ne.2 h5
  have b6 : (k == (6 : Int)) = false := beq_eq_false_iff_ne.2 h6
  have b7 : (k == (7 : Int)) = false := beq_eq_false_iff_ne.2 h7
  have b8 : (k == (8 : Int)) = false := beq_eq_false_iff_ne.2 h8
  have b9 : (k == (9 : Int)) = false := beq_eq_false_iff_ne.2 h9
  have b10 : (k == (10 : Int)) = false := beq_eq_false_iff_ne.2 h10
  have b11 : (k == (11 : Int)) = false := beq_eq_false_iff_ne.2 h11
  have b12 : (k == (12 : Int)) = false := beq_eq_false_iff_ne.2 h12
  fin_call cls_fn cls_body cls_name (fin_ret (h := 0) (cls_ok k) (show outF (tyOf Try.prog) (fnAt Try.prog 34) 0 (cls_run k (.code (bodyAt Try.prog 34)) [] (beginE (fnAt Try.prog 34) [D.int IntKind.i64 k] []) (.path [false, false, false, false, false, false, false, false, false, false, false, false, false])) = some (D.int IntKind.i64 (-1 : Int), [],
    [(k == (12 : Int)) = false,
      (k == (11 : Int)) = false,
      (k == (10 : Int)) = false,
      (k == (9 : Int)) = false,
      (k == (8 : Int)) = false,
      (k == (7 : Int)) = false,
      (k == (6 : Int)) = false,
      (k == (5 : Int)) = false,
      (k == (4 : Int)) = false,
      (k == (3 : Int)) = false,
      (k == (2 : Int)) = false,
      (k == (1 : Int)) = false,
      (k == (0 : Int)) = false]) by kernel_rfl)
    (all_cons.2 ⟨b12, all_cons.2 ⟨b11, all_cons.2 ⟨b10, all_cons.2 ⟨b9, all_cons.2 ⟨b8, all_cons.2 ⟨b7, all_cons.2 ⟨b6, all_cons.2 ⟨b5, all_cons.2 ⟨b4, all_cons.2 ⟨b3, all_cons.2 ⟨b2, all_cons.2 ⟨b1, all_cons.2 ⟨b0, all_nil.2 trivial⟩⟩⟩⟩⟩⟩⟩⟩⟩⟩⟩⟩⟩))


/-! ### function 35 -/
theorem clsR_fn : Try.prog.funcs[(35 : Nat)]? = some (fnAt Try.prog 35) := by kernel_rfl
theorem clsR_body : (fnAt Try.prog 35).body = some (bodyAt Try.prog 35) := by kernel_rfl
theorem clsR_name : ((fnAt Try.prog 35).name == "runtime.NumGoroutine") = false := by kernel_rfl
noncomputable def clsR_C (k : Int) : Cf := cfg Try.prog (hintOf []) (t1 k) (fun _ => false) 2 true (fun _ => false)
theorem clsR_ok (k : Int) : CfOk (clsR_C k) := cfg_ok (by kernel_rfl)
noncomputable def clsR_run (k : Int) (qcur : Cur) (qk : List It) (qs : St) (qor : GD.Or) := runE (clsR_C k) (callE (clsR_C k) 100000 10) 35 100000 qcur qk qs qor []

theorem clsR_in_0 {k : Int}
    (h0 : k < (0 : Int)) :
    Ret Try.prog (tyOf Try.prog) 35 [D.int IntKind.i64 k] [] (D.int IntKind.i64 (-1 : Int)) [] :=
  have b0 : decide (k < (0 : Int)) = true := decide_eq_true h0
  fin_call clsR_fn clsR_body clsR_name (fin_ret (h := 0) (clsR_ok k) (show outF (tyOf Try.prog) (fnAt Try.prog 35) 0 (clsR_run k (.code (bodyAt Try.prog 35)) [] (beginE (fnAt Try.prog 35) [D.int IntKind.i64 k] []) (.path [false, false, true, true])) = some (D.int IntKind.i64 (-1 : Int), [],
    [true = true,
      decide (k < (0 : Int)) = true,
      (decide (k < (0 : Int)) == false) = false,
      (decide (k < (0 : Int)) == false) = false]) by kernel_rfl)
    (all_cons.2 ⟨rfl, all_cons.2 ⟨b0, all_cons.2 ⟨(by rw [b0]; rfl), all_cons.2 ⟨(by rw [b0]; rfl), all_nil.2 trivial⟩⟩⟩⟩))

theorem clsR_in_1 {k : Int}
    (h0 : ¬ (k < (0 : Int)))
    (h1 : k > (12 : Int)) :
    Ret Try.prog (tyOf Try.prog) 35 [D.int IntKind.i64 k] [] (D.int IntKind.i64 (-1 : Int)) [] :=
  have b0 : decide (k < (0 : Int)) = false := decide_eq_false h0
  have b1 : decide (k > (12 : Int)) = true := decide_eq_true h1
  fin_call clsR_fn clsR_body clsR_name (fin_ret (h := 0) (clsR_ok k) (show outF (tyOf Try.prog) (fnAt Try.prog 35) 0 (clsR_run k (.code (bodyAt Try.prog 35)) [] (beginE (fnAt Try.prog 35) [D.int IntKind.i64 k] []) (.path [true, true, false, true])) = some (D.int IntKind.i64 (-1 : Int), [],
    [decide (k > (12 : Int)) = true,
      decide (k < (0 : Int)) = false,
      (decide (k < (0 : Int)) == false) = true,
      (decide (k < (0 : Int)) == false) = true]) by kernel_rfl)
    (all_cons.2 ⟨b1, all_cons.2 ⟨b0, all_cons.2 ⟨(by rw [b0]; rfl), all_cons.2 ⟨(by rw [b0]; rfl), all_nil.2 trivial⟩⟩⟩⟩))

theorem clsR_in_2 {k : Int}
    (h0 : ¬ (k < (0 : Int)))
    (h1 : ¬ (k > (12 : Int)))
    (h2 : k ≤ (3 : Int)) :
    Ret Try.prog (tyOf Try.prog) 35 [D.int IntKind.i64 k] [] (D.int IntKind.i64 k) [] :=
  have b0 : decide (k < (0 : Int)) = false := decide_eq_false h0
  have b1 : decide (k > (12 : Int)) = false := decide_eq_false h1
  have b2 : decide (k ≤ (3 : Int)) = true := decide_eq_true h2
  fin_call clsR_fn clsR_body clsR_name (fin_ret (h := 0) (clsR_ok k) (show outF (tyOf Try.prog) (fnAt Try.prog 35) 0 (clsR_run k (.code (bodyAt Try.prog 35)) [] (beginE (fnAt Try.prog 35) [D.int IntKind.i64 k] []) (.path [true, true, false, false, true])) = some (D.int IntKind.i64 k, [],
    [decide (k ≤ (3 : Int)) = true,
      decide (k > (12 : Int)) = false,
      decide (k < (0 : Int)) = false,
      (decide (k < (0 : Int)) == false) = true,
      (decide (k < (0 : Int)) == false) = true]) by kernel_rfl)
    (all_cons.2 ⟨b2, all_cons.2 ⟨b1, all_cons.2 ⟨b0, all_cons.2 ⟨(by rw [b0]; rfl), all_cons.2 ⟨(by rw [b0]; rfl), all_nil.2 trivial⟩⟩⟩⟩⟩))

theorem clsR_in_3 {k : Int}
    (h0 : ¬ (k < (0 : Int)))
    (h1 : ¬ (k > (12 : Int)))
    (h2 : ¬ (k ≤ (3 : Int))) :
    Ret Try.prog (tyOf Try.prog) 35 [D.int IntKind.i64 k] [] (D.int IntKind.i64 (IntKind.i64.wrap (k - (1 : Int)))) [] :=
  have b0 : decide (k < (0 : Int)) = false := decide_eq_false h0
  have b1 : decide (k > (12 : Int)) = false := decide_eq_false h1
  have b2 : decide (k ≤ (3 : Int)) = false := decide_eq_false h2
  fin_call clsR_fn clsR_body clsR_name (fin_ret (h := 0) (clsR_ok k) (show outF (tyOf Try.prog) (fnAt Try.prog 35) 0 (clsR_run k (.code (bodyAt Try.prog 35)) [] (beginE (fnAt Try.prog 35) [D.int IntKind.i64 k] []) (.path [true, true, false, false, false])) = some (D.int IntKind.i64 (IntKind.i64.wrap (k - (1 : Int))), [],
    [decide (k ≤ (3 : Int)) = false,
      decide (k > (12 : Int)) = false,
      decide (k < (0 : Int)) = false,
      (decide (k < (0 : Int)) == false) = true,
      (decide (k < (0 : Int)) == false) = true]) by kernel_rfl)
    (all_cons.2 ⟨b2, all_cons.2 ⟨b1, all_cons.2 ⟨b0, all_cons.2 ⟨(by rw [b0]; rfl), all_cons.2 ⟨(by rw [b0]; rfl), all_nil.2 trivial⟩⟩⟩⟩⟩))


/-! ### function 54 -/
theorem cmpI_fn : Try.prog.funcs[(54 : Nat)]? = some (fnAt Try.prog 54) := by kernel_rfl
theorem cmpI_body : (fnAt Try.prog 54).body = some (bodyAt Try.prog 54) := by kernel_rfl
theorem cmpI_name : ((fnAt Try.prog 54).name == "runtime.NumGoroutine") = false := by kernel_rfl
noncomputable def cmpI_C (x : Int) (y : Int) : Cf := cfg Try.prog (hintOf []) (t2 x y) (fun _ => false) 2 true (fun _ => false)
theorem cmpI_ok (x : Int) (y : Int) : CfOk (cmpI_C x y) := cfg_ok (by kernel_rfl)
noncomputable def cmpI_run (x : Int) (y : Int) (qcur : Cur) (qk : List It) (qs : St) (qor : GD.Or) := runE (cmpI_C x y) (callE (cmpI_C x y) 100000 10) 54 100000 qcur qk qs qor []

theorem cmpI_in_0 {x : Int} {y : Int}
    (h0 : x < y) :
    Ret Try.prog (tyOf Try.prog) 54 [D.int IntKind.i64 x, D.int IntKind.i64 y] [] (D.int IntKind.i64 (-1 : Int)) [] :=
  have b0 : decide (x < y) = true := decide_eq_true h0
  fin_call cmpI_fn cmpI_body cmpI_name (fin_ret (h := 0) (cmpI_ok x y) (show outF (tyOf Try.prog) (fnAt Try.prog 54) 0 (cmpI_run x y (.code (bodyAt Try.prog 54)) [] (beginE (fnAt Try.prog 54) [D.int IntKind.i64 x, D.int IntKind.i64 y] []) (.path [false, false, true])) = some (D.int IntKind.i64 (-1 : Int), [],
    [decide (x < y) = true,
      (y != y) = false,
      (x != x) = false]) by kernel_rfl)
    (all_cons.2 ⟨b0, all_cons.2 ⟨(by simp), all_cons.2 ⟨(by simp), all_nil.2 trivial⟩⟩⟩))

theorem cmpI_in_1 {x : Int} {y : Int}
    (h0 : ¬ (x < y))
    (h1 : x > y) :
    Ret Try.prog (tyOf Try.prog) 54 [D.int IntKind.i64 x, D.int IntKind.i64 y] [] (D.int IntKind.i64 (1 : Int)) [] :=
  have b0 : decide (x < y) = false := decide_eq_false h0
  have b1 : decide (x > y) = true := decide_eq_true h1
  fin_call cmpI_fn cmpI_body cmpI_name (fin_ret (h := 0) (cmpI_ok x y) (show outF (tyOf Try.prog) (fnAt Try.prog 54) 0 (cmpI_run x y (.code (bodyAt Try.prog 54)) [] (beginE (fnAt Try.prog 54) [D.int IntKind.i64 x, D.int IntKind.i64 y] []) (.path [false, false, false, true])) = some (D.int IntKind.i64 (1 : Int), [],
    [decide (x > y) = true,
      decide (x < y) = false,
      (y != y) = false,
      (x != x) = false]) by kernel_rfl)
    (all_cons.2 ⟨b1, all_cons.2 ⟨b0, all_cons.2 ⟨(by simp), all_cons.2 ⟨(by simp), all_nil.2 trivial⟩⟩⟩⟩))

theorem cmpI_in_2 {x : Int} {y : Int}
    (h0 : ¬ (x < y))
    (h1 : ¬ (x > y)) :
    Ret Try.prog (tyOf Try.prog) 54 [D.int IntKind.i64 x, D.int IntKind.i64 y] [] (D.int IntKind.i64 (0 : Int)) [] :=
  have b0 : decide (x < y) = false := decide_eq_false h0
  have b1 : decide (x > y) = false := decide_eq_false h1
  fin_call cmpI_fn cmpI_body cmpI_name (fin_ret (h := 0) (cmpI_ok x y) (show outF (tyOf Try.prog) (fnAt Try.prog 54) 0 (cmpI_run x y (.code (bodyAt Try.prog 54)) [] (beginE (fnAt Try.prog 54) [D.int IntKind.i64 x, D.int IntKind.i64 y] []) (.path [false, false, false, false])) = some (D.int IntKind.i64 (0 : Int), [],
    [decide (x > y) = false,
      decide (x < y) = false,
      (y != y) = false,
      (x != x) = false]) by kernel_rfl)
    (all_cons.2 ⟨b1, all_cons.2 ⟨b0, all_cons.2 ⟨(by simp), all_cons.2 ⟨(by simp), all_nil.2 trivial⟩⟩⟩⟩))


/-! ### function 63 -/
theorem cmpJ_fn : Try.prog.funcs[(63 : Nat)]? = some (fnAt Try.prog 63) := by kernel_rfl
theorem cmpJ_body : (fnAt Try.prog 63).body = some (bodyAt Try.prog 63) := by kernel_rfl
theorem cmpJ_name : ((fnAt Try.prog 63).name == "runtime.NumGoroutine") = false := by kernel_rfl
noncomputable def cmpJ_C (x : Int) (y : Int) : Cf := cfg Try.prog (hintOf []) (t2 x y) (fun _ => false) 2 true (fun _ => false)
theorem cmpJ_ok (x : Int) (y : Int) : CfOk (cmpJ_C x y) := cfg_ok (by kernel_rfl)
noncomputable def cmpJ_run (x : Int) (y : Int) (qcur : Cur) (qk : List It) (qs : St) (qor : GD.Or) := runE (cmpJ_C x y) (callE (cmpJ_C x y) 100000 10) 63 100000 qcur qk qs qor []

theorem cmpJ_in_0 {x : Int} {y : Int}
    (h0 : x < y) :
    Ret Try.prog (tyOf Try.prog) 63 [D.int IntKind.i64 x, D.int IntKind.i64 y] [] (D.int IntKind.i64 (-1 : Int)) [] :=
  have b0 : decide (x < y) = true := decide_eq_true h0
  fin_call cmpJ_fn cmpJ_body cmpJ_name (fin_ret (h := 0) (cmpJ_ok x y) (show outF (tyOf Try.prog) (fnAt Try.prog 63) 0 (cmpJ_run x y (.code (bodyAt Try.prog 63)) [] (beginE (fnAt Try.prog 63) [D.int IntKind.i64 x, D.int IntKind.i64 y] []) (.path [false, false, true])) = some (D.int IntKind.i64 (-1 : Int), [],
    [decide (x < y) = true,
      (y != y) = false,
      (x != x) = false]) by kernel_rfl)
    (all_cons.2 ⟨b0, all_cons.2 ⟨(by simp), all_cons.2 ⟨(by simp), all_nil.2 trivial⟩⟩⟩))

theorem cmpJ_in_1 {x : Int} {y : Int}
    (h0 : ¬ (x < y))
    (h1 : x > y) :
    Ret Try.prog (tyOf Try.prog) 63 [D.int IntKind.i64 x, D.int IntKind.i64 y] [] (D.int IntKind.i64 (1 : Int)) [] :=
  have b0 : decide (x < y) = false := decide_eq_false h0
  have b1 : decide (x > y) = true := decide_eq_true h1
  fin_call cmpJ_fn cmpJ_body cmpJ_name (fin_ret (h := 0) (cmpJ_ok x y) (show outF (tyOf Try.prog) (fnAt Try.prog 63) 0 (cmpJ_run x y (.code (bodyAt Try.prog 63)) [] (beginE (fnAt Try.prog 63) [D.int IntKind.i64 x, D.int IntKind.i64 y] []) (.path [false, false, false, true])) = some (D.int IntKind.i64 (1 : Int), [],
    [decide (x > y) = true,
      decide (x < y) = false,
      (y != y) = false,
      (x != x) = false]) by kernel_rfl)
    (all_cons.2 ⟨b1, all_cons.2 ⟨b0, all_cons.2 ⟨(by simp), all_cons.2 ⟨(by simp), all_nil.2 trivial⟩⟩⟩⟩))

theorem cmpJ_in_2 {x : Int} {y : Int}
    (h0 : ¬ (x < y))
    (h1 : ¬ (x > y)) :
    Ret Try.prog (tyOf Try.prog) 63 [D.int IntKind.i64 x, D.int IntKind.i64 y] [] (D.int IntKind.i64 (0 : Int)) [] :=
  have b0 : decide (x < y) = false := decide_eq_false h0
  have b1 : decide (x > y) = false := decide_eq_false h1
  fin_call cmpJ_fn cmpJ_body cmpJ_name (fin_ret (h := 0) (cmpJ_ok x y) (show outF (tyOf Try.prog) (fnAt Try.prog 63) 0 (cmpJ_run x y (.code (bodyAt Try.prog 63)) [] (beginE (fnAt Try.prog 63) [D.int IntKind.i64 x, D.int IntKind.i64 y] []) (.path [false, false, false, false])) = some (D.int IntKind.i64 (0 : Int), [],
    [decide (x > y) = false,
      decide (x < y) = false,
      (y != y) = false,
      (x != x) = false]) by kernel_rfl)
    (all_cons.2 ⟨b1, all_cons.2 ⟨b0, all_cons.2 ⟨(by simp), all_cons.2 ⟨(by simp), all_nil.2 trivial⟩⟩⟩⟩))


/-! ### function 65 -/
theorem cmpS_fn : Try.prog.funcs[(65 : Nat)]? = some (fnAt Try.prog 65) := by kernel_rfl
theorem cmpS_body : (fnAt Try.prog 65).body = some (bodyAt Try.prog 65) := by kernel_rfl
theorem cmpS_name : ((fnAt Try.prog 65).name == "runtime.NumGoroutine") = false := by kernel_rfl
noncomputable def cmpS_C (x : ByteArray) (y : ByteArray) : Cf := cfg Try.prog (hintOf []) (ts2 x y) (fun _ => false) 2 true (fun _ => false)
theorem cmpS_ok (x : ByteArray) (y : ByteArray) : CfOk (cmpS_C x y) := cfg_ok (by kernel_rfl)
noncomputable def cmpS_run (x : ByteArray) (y : ByteArray) (qcur : Cur) (qk : List It) (qs : St) (qor : GD.Or) := runE (cmpS_C x y) (callE (cmpS_C x y) 100000 10) 65 100000 qcur qk qs qor []

theorem cmpS_in_0 {x : ByteArray} {y : ByteArray}
    (h0 : Op.bytesLess x.toList y.toList = true) :
    Ret Try.prog (tyOf Try.prog) 65 [D.str x, D.str y] [] (D.int IntKind.i64 (-1 : Int)) [] :=
  have b0 : Op.bytesLess x.toList y.toList = true := h0
  fin_call cmpS_fn cmpS_body cmpS_name (fin_ret (h := 0) (cmpS_ok x y) (show outF (tyOf Try.prog) (fnAt Try.prog 65) 0 (cmpS_run x y (.code (bodyAt Try.prog 65)) [] (beginE (fnAt Try.prog 65) [D.str x, D.str y] []) (.path [false, false, true])) = some (D.int IntKind.i64 (-1 : Int), [],
    [Op.bytesLess x.toList y.toList = true,
      (!y.toList == y.toList) = false,
      (!x.toList == x.toList) = false]) by kernel_rfl)
    (all_cons.2 ⟨b0, all_cons.2 ⟨(by simp), all_cons.2 ⟨(by simp), all_nil.2 trivial⟩⟩⟩))

theorem cmpS_in_1 {x : ByteArray} {y : ByteArray}
    (h0 : Op.bytesLess x.toList y.toList = false)
    (h1 : (Op.bytesLess x.toList y.toList || x.toList == y.toList) = true) :
    Ret Try.prog (tyOf Try.prog) 65 [D.str x, D.str y] [] (D.int IntKind.i64 (0 : Int)) [] :=
  have b0 : Op.bytesLess x.toList y.toList = false := h0
  have b1 : (Op.bytesLess x.toList y.toList || x.toList == y.toList) = true := h1
  fin_call cmpS_fn cmpS_body cmpS_name (fin_ret (h := 0) (cmpS_ok x y) (show outF (tyOf Try.prog) (fnAt Try.prog 65) 0 (cmpS_run x y (.code (bodyAt Try.prog 65)) [] (beginE (fnAt Try.prog 65) [D.str x, D.str y] []) (.path [false, false, false, false])) = some (D.int IntKind.i64 (0 : Int), [],
    [(!(Op.bytesLess x.toList y.toList || x.toList == y.toList)) = false,
      Op.bytesLess x.toList y.toList = false,
      (!y.toList == y.toList) = false,
      (!x.toList == x.toList) = false]) by kernel_rfl)
    (all_cons.2 ⟨(by rw [b1]; rfl), all_cons.2 ⟨b0, all_cons.2 ⟨(by simp), all_cons.2 ⟨(by simp), all_nil.2 trivial⟩⟩⟩⟩))

theorem cmpS_in_2 {x : ByteArray} {y : ByteArray}
    (h0 : Op.bytesLess x.toList y.toList = false)
    (h1 : (Op.bytesLess x.toList y.toList || x.toList == y.toList) = false) :
    Ret Try.prog (tyOf Try.prog) 65 [D.str x, D.str y] [] (D.int IntKind.i64 (1 : Int)) [] :=
  have b0 : Op.bytesLess x.toList y.toList = false := h0
  have b1 : (Op.bytesLess x.toList y.toList || x.toList == y.toList) = false := h1
  fin_call cmpS_fn cmpS_body cmpS_name (fin_ret (h := 0) (cmpS_ok x y) (show outF (tyOf Try.prog) (fnAt Try.prog 65) 0 (cmpS_run x y (.code (bodyAt Try.prog 65)) [] (beginE (fnAt Try.prog 65) [D.str x, D.str y] []) (.path [false, false, false, true])) = some (D.int IntKind.i64 (1 : Int), [],
    [(!(Op.bytesLess x.toList y.toList || x.toList == y.toList)) = true,
      Op.bytesLess x.toList y.toList = false,
      (!y.toList == y.toList) = false,
      (!x.toList == x.toList) = false]) by kernel_rfl)
    (all_cons.2 ⟨(by rw [b1]; rfl), all_cons.2 ⟨b0, all_cons.2 ⟨(by simp), all_cons.2 ⟨(by simp), all_nil.2 trivial⟩⟩⟩⟩))


/-! ### function 56 -/
theorem sgn_fn : Try.prog.funcs[(56 : Nat)]? = some (fnAt Try.prog 56) := by kernel_rfl
theorem sgn_body : (fnAt Try.prog 56).body = some (bodyAt Try.prog 56) := by kernel_rfl
theorem sgn_name : ((fnAt Try.prog 56).name == "runtime.NumGoroutine") = false := by kernel_rfl
noncomputable def sgn_C (x : Int) (y : Int) : Cf := cfg Try.prog (hintOf []) (t2 x y) (fun _ => false) 2 true (fun _ => false)
theorem sgn_ok (x : Int) (y : Int) : CfOk (sgn_C x y) := cfg_ok (by kernel_rfl)
noncomputable def sgn_run (x : Int) (y : Int) (qcur : Cur) (qk : List It) (qs : St) (qor : GD.Or) := runE (sgn_C x y) (callE (sgn_C x y) 100000 10) 56 100000 qcur qk qs qor []

theorem sgn_in_0 {x : Int} {y : Int}
    (h0 : x < y) :
    Ret Try.prog (tyOf Try.prog) 56 [D.int IntKind.i64 x, D.int IntKind.i64 y] [] (D.int IntKind.i64 (-1 : Int)) [] :=
  have b0 : decide (x < y) = true := decide_eq_true h0
  fin_call sgn_fn sgn_body sgn_name (fin_ret (h := 0) (sgn_ok x y) (show outF (tyOf Try.prog) (fnAt Try.prog 56) 0 (sgn_run x y (.code (bodyAt Try.prog 56)) [] (beginE (fnAt Try.prog 56) [D.int IntKind.i64 x, D.int IntKind.i64 y] []) (.path [true])) = some (D.int IntKind.i64 (-1 : Int), [],
    [decide (x < y) = true]) by kernel_rfl)
    (all_cons.2 ⟨b0, all_nil.2 trivial⟩))

theorem sgn_in_1 {x : Int} {y : Int}
    (h0 : ¬ (x < y))
    (h1 : x > y) :
    Ret Try.prog (tyOf Try.prog) 56 [D.int IntKind.i64 x, D.int IntKind.i64 y] [] (D.int IntKind.i64 (1 : Int)) [] :=
  have b0 : decide (x < y) = false := decide_eq_false h0
  have b1 : decide (x > y) = true := decide_eq_true h1
  fin_call sgn_fn sgn_body sgn_name (fin_ret (h := 0) (sgn_ok x y) (show outF (tyOf Try.prog) (fnAt Try.prog 56) 0 (sgn_run x y (.code (bodyAt Try.prog 56)) [] (beginE (fnAt Try.prog 56) [D.int IntKind.i64 x, D.int IntKind.i64 y] []) (.path [false, true])) = some (D.int IntKind.i64 (1 : Int), [],
    [decide (x > y) = true,
      decide (x < y) = false]) by kernel_rfl)
    (all_cons.2 ⟨b1, all_cons.2 ⟨b0, all_nil.2 trivial⟩⟩))

theorem sgn_in_2 {x : Int} {y : Int}
    (h0 : ¬ (x < y))
    (h1 : ¬ (x > y)) :
    Ret Try.prog (tyOf Try.prog) 56 [D.int IntKind.i64 x, D.int IntKind.i64 y] [] (D.int IntKind.i64 (0 : Int)) [] :=
  have b0 : decide (x < y) = false := decide_eq_false h0
  have b1 : decide (x > y) = false := decide_eq_false h1
  fin_call sgn_fn sgn_body sgn_name (fin_ret (h := 0) (sgn_ok x y) (show outF (tyOf Try.prog) (fnAt Try.prog 56) 0 (sgn_run x y (.code (bodyAt Try.prog 56)) [] (beginE (fnAt Try.prog 56) [D.int IntKind.i64 x, D.int IntKind.i64 y] []) (.path [false, false])) = some (D.int IntKind.i64 (0 : Int), [],
    [decide (x > y) = false,
      decide (x < y) = false]) by kernel_rfl)
    (all_cons.2 ⟨b1, all_cons.2 ⟨b0, all_nil.2 trivial⟩⟩))


/-! ### function 57 -/
theorem txt_fn : Try.prog.funcs[(57 : Nat)]? = some (fnAt Try.prog 57) := by kernel_rfl
theorem txt_body : (fnAt Try.prog 57).body = some (bodyAt Try.prog 57) := by kernel_rfl
theorem txt_name : ((fnAt Try.prog 57).name == "runtime.NumGoroutine") = false := by kernel_rfl
noncomputable def txt_C (x : ByteArray) (y : ByteArray) : Cf := cfg Try.prog (hintOf []) (ts2 x y) (fun _ => false) 2 true (fun _ => false)
theorem txt_ok (x : ByteArray) (y : ByteArray) : CfOk (txt_C x y) := cfg_ok (by kernel_rfl)
noncomputable def txt_run (x : ByteArray) (y : ByteArray) (qcur : Cur) (qk : List It) (qs : St) (qor : GD.Or) := runE (txt_C x y) (callE (txt_C x y) 100000 10) 57 100000 qcur qk qs qor []
noncomputable def txt_l0 : Code := (loopAt Try.prog 57 0).1
noncomputable def txt_k0 : List It := (loopAt Try.prog 57 0).2
/- loop 0: n5:=(0 : Int); -/
noncomputable def txt_s0 (x : ByteArray) (y : ByteArray) (n5 : Int) : St := ⟨envOf 39 [(0, D.str x), (1, D.str y), (5, D.int IntKind.i64 n5)], []⟩
def txt_at0 (x : ByteArray) (y : ByteArray) (n5 : Int) (r : D) (H1 : GD.Heap) : Prop := GD.Fin Try.prog (tyOf Try.prog) (fnAt Try.prog 57) 0 (.code (.loop txt_l0)) txt_k0 (txt_s0 x y n5) r H1

theorem txt_in_0 {x : ByteArray} {y : ByteArray} {r : D} {H1 : GD.Heap}
    (g : txt_at0 x y ((0 : Int)) r H1) :
    Ret Try.prog (tyOf Try.prog) 57 [D.str x, D.str y] [] r H1 :=
  fin_call txt_fn txt_body txt_name (fin_stop (F := (fun _ => false)) (h := 0) (keep := [0, 1, 5]) (txt_ok x y) (show cutX (fun _ => false) [0, 1, 5] 0 (txt_run x y (.code (bodyAt Try.prog 57)) [] (beginE (fnAt Try.prog 57) [D.str x, D.str y] []) (.path [])) = some (txt_l0, txt_k0, (txt_s0 x y ((0 : Int))).env, (txt_s0 x y ((0 : Int))).H,
    []) by kernel_rfl)
    (all_nil.2 trivial) (show (0 : Nat) ≤ 0 by decide) g)

theorem txt_0_0 {x : ByteArray} {y : ByteArray} {n5 : Int}
    (h0 : n5 < (↑x.size : Int))
    (h1 : n5 < (↑y.size : Int))
    (h2 : (↑(x.data.getD n5.toNat (0 : UInt8)).toNat : Int) ≠ (↑(y.data.getD n5.toNat (0 : UInt8)).toNat : Int))
    (h3 : IntKind.i64.wrap (↑(x.data.getD n5.toNat (0 : UInt8)).toNat : Int) <
  IntKind.i64.wrap (↑(y.data.getD n5.toNat (0 : UInt8)).toNat : Int))
    (h4 : (0 : Int) ≤ n5 ∧ n5 < (↑y.size : Int))
    (h5 : (0 : Int) ≤ n5 ∧ n5 < (↑x.size : Int)) :
    txt_at0 x y n5 (D.int IntKind.i64 (-1 : Int)) [] :=
  have b0 : decide (n5 < (↑x.size : Int)) = true := decide_eq_true h0
  have b1 : decide (n5 < (↑y.size : Int)) = true := decide_eq_true h1
  have b2 : ((↑(x.data.getD n5.toNat (0 : UInt8)).toNat : Int) != (↑(y.data.getD n5.toNat (0 : UInt8)).toNat : Int)) = true := bne_iff_ne.2 h2
  have b3 : decide
    (IntKind.i64.wrap (↑(x.data.getD n5.toNat (0 : UInt8)).toNat : Int) <
      IntKind.i64.wrap (↑(y.data.getD n5.toNat (0 : UInt8)).toNat : Int)) =
  true := decide_eq_true h3
  fin_loop (fin_ret (h := 0) (txt_ok x y) (show outF (tyOf Try.prog) (fnAt Try.prog 57) 0 (txt_run x y (.code txt_l0) (.lp txt_l0 :: txt_k0) (txt_s0 x y n5) (.path [true, true, true, true, true, true, true, true])) = some (D.int IntKind.i64 (-1 : Int), [],
    [decide
    (IntKind.i64.wrap (↑(x.data.getD n5.toNat (0 : UInt8)).toNat : Int) <
      IntKind.i64.wrap (↑(y.data.getD n5.toNat (0 : UInt8)).toNat : Int)) =
  true,
      (0 : Int) ≤ n5 ∧ n5 < (↑y.size : Int),
      (0 : Int) ≤ n5 ∧ n5 < (↑x.size : Int),
      ((↑(x.data.getD n5.toNat (0 : UInt8)).toNat : Int) != (↑(y.data.getD n5.toNat (0 : UInt8)).toNat : Int)) = true,
      (0 : Int) ≤ n5 ∧ n5 < (↑y.size : Int),
      (0 : Int) ≤ n5 ∧ n5 < (↑x.size : Int),
      decide (n5 < (↑y.size : Int)) = true,
      decide (n5 < (↑x.size : Int)) = true,
      (decide (n5 < (↑x.size : Int)) == true) = true,
      (decide (n5 < (↑x.size : Int)) == true) = true,
      (decide (n5 < (↑x.size : Int)) == true) = true,
      (decide (n5 < (↑x.size : Int)) == true) = true]) by kernel_rfl)
    (all_cons.2 ⟨b3, all_cons.2 ⟨h4, all_cons.2 ⟨h5, all_cons.2 ⟨b2, all_cons.2 ⟨h4, all_cons.2 ⟨h5, all_cons.2 ⟨b1, all_cons.2 ⟨b0, all_cons.2 ⟨(by rw [b0]; rfl), all_cons.2 ⟨(by rw [b0]; rfl), all_cons.2 ⟨(by rw [b0]; rfl), all_cons.2 ⟨(by rw [b0]; rfl), all_nil.2 trivial⟩⟩⟩⟩⟩⟩⟩⟩⟩⟩⟩⟩))

theorem txt_0_1 {x : ByteArray} {y : ByteArray} {n5 : Int}
    (h0 : n5 < (↑x.size : Int))
    (h1 : n5 < (↑y.size : Int))
    (h2 : (↑(x.data.getD n5.toNat (0 : UInt8)).toNat : Int) ≠ (↑(y.data.getD n5.toNat (0 : UInt8)).toNat : Int))
    (h3 : ¬ (IntKind.i64.wrap (↑(x.data.getD n5.toNat (0 : UInt8)).toNat : Int) <
  IntKind.i64.wrap (↑(y.data.getD n5.toNat (0 : UInt8)).toNat : Int)))
    (h4 : IntKind.i64.wrap (↑(x.data.getD n5.toNat (0 : UInt8)).toNat : Int) >
  IntKind.i64.wrap (↑(y.data.getD n5.toNat (0 : UInt8)).toNat : Int))
    (h5 : (0 : Int) ≤ n5 ∧ n5 < (↑y.size : Int))
    (h6 : (0 : Int) ≤ n5 ∧ n5 < (↑x.size : Int)) :
    txt_at0 x y n5 (D.int IntKind.i64 (1 : Int)) [] :=
  have b0 : decide (n5 < (↑x.size : Int)) = true := decide_eq_true h0
  have b1 : decide (n5 < (↑y.size : Int)) = true := decide_eq_true h1
  have b2 : ((↑(x.data.getD n5.toNat (0 : UInt8)).toNat : Int) != (↑(y.data.getD n5.toNat (0 : UInt8)).toNat : Int)) = true := bne_iff_ne.2 h2
  have b3 : decide
    (IntKind.i64.wrap (↑(x.data.getD n5.toNat (0 : UInt8)).toNat : Int) <
      IntKind.i64.wrap (↑(y.data.getD n5.toNat (0 : UInt8)).toNat : Int)) =
  false := decide_eq_false h3
  have b4 : decide
    (IntKind.i64.wrap (↑(x.data.getD n5.toNat (0 : UInt8)).toNat : Int) >
      IntKind.i64.wrap (↑(y.data.getD n5.toNat (0 : UInt8)).toNat : Int)) =
  true := decide_eq_true h4
  fin_loop (fin_ret (h := 0) (txt_ok x y) (show outF (tyOf Try.prog) (fnAt Try.prog 57) 0 (txt_run x y (.code txt_l0) (.lp txt_l0 :: txt_k0) (txt_s0 x y n5) (.path [true, true, true, true, true, true, true, false, true])) = some (D.int IntKind.i64 (1 : Int), [],
    [decide
    (IntKind.i64.wrap (↑(x.data.getD n5.toNat (0 : UInt8)).toNat : Int) >
      IntKind.i64.wrap (↑(y.data.getD n5.toNat (0 : UInt8)).toNat : Int)) =
  true,
      decide
    (IntKind.i64.wrap (↑(x.data.getD n5.toNat (0 : UInt8)).toNat : Int) <
      IntKind.i64.wrap (↑(y.data.getD n5.toNat (0 : UInt8)).toNat : Int)) =
  false,
      (0 : Int) ≤ n5 ∧ n5 < (↑y.size : Int),
      (0 : Int) ≤ n5 ∧ n5 < (↑x.size : Int),
      ((↑(x.data.getD n5.toNat (0 : UInt8)).toNat : Int) != (↑(y.data.getD n5.toNat (0 : UInt8)).toNat : Int)) = true,
      (0 : Int) ≤ n5 ∧ n5 < (↑y.size : Int),
      (0 : Int) ≤ n5 ∧ n5 < (↑x.size : Int),
      decide (n5 < (↑y.size : Int)) = true,
      decide (n5 < (↑x.size : Int)) = true,
      (decide (n5 < (↑x.size : Int)) == true) = true,
      (decide (n5 < (↑x.size : Int)) == true) = true,
      (decide (n5 < (↑x.size : Int)) == true) = true,
      (decide (n5 < (↑x.size : Int)) == true) = true]) by kernel_rfl)
    (all_cons.2 ⟨b4, all_cons.2 ⟨b3, all_cons.2 ⟨h5, all_cons.2 ⟨h6, all_cons.2 ⟨b2, all_cons.2 ⟨h5, all_cons.2 ⟨h6, all_cons.2 ⟨b1, all_cons.2 ⟨b0, all_cons.2 ⟨(by rw [b0]; rfl), all_cons.2 ⟨(by rw [b0]; rfl), all_cons.2 ⟨(by rw [b0]; rfl), all_cons.2 ⟨(by rw [b0]; rfl), all_nil.2 trivial⟩⟩⟩⟩⟩⟩⟩⟩⟩⟩⟩⟩⟩))

theorem txt_0_2 {x : ByteArray} {y : ByteArray} {n5 : Int}
    (h0 : n5 < (↑x.size : Int))
    (h1 : n5 < (↑y.size : Int))
    (h2 : (↑(x.data.getD n5.toNat (0 : UInt8)).toNat : Int) ≠ (↑(y.data.getD n5.toNat (0 : UInt8)).toNat : Int))
    (h3 : ¬ (IntKind.i64.wrap (↑(x.data.getD n5.toNat (0 : UInt8)).toNat : Int) <
  IntKind.i64.wrap (↑(y.data.getD n5.toNat (0 : UInt8)).toNat : Int)))
    (h4 : ¬ (IntKind.i64.wrap (↑(x.data.getD n5.toNat (0 : UInt8)).toNat : Int) >
  IntKind.i64.wrap (↑(y.data.getD n5.toNat (0 : UInt8)).toNat : Int)))
    (h5 : (0 : Int) ≤ n5 ∧ n5 < (↑y.size : Int))
    (h6 : (0 : Int) ≤ n5 ∧ n5 < (↑x.size : Int)) :
    txt_at0 x y n5 (D.int IntKind.i64 (0 : Int)) [] :=
  have b0 : decide (n5 < (↑x.size : Int)) = true := decide_eq_true h0
  have b1 : decide (n5 < (↑y.size : Int)) = true := decide_eq_true h1
  have b2 : ((↑(x.data.getD n5.toNat (0 : UInt8)).toNat : Int) != (↑(y.data.getD n5.toNat (0 : UInt8)).toNat : Int)) = true := bne_iff_ne.2 h2
  have b3 : decide
    (IntKind.i64.wrap (↑(x.data.getD n5.toNat (0 : UInt8)).toNat : Int) <
      IntKind.i64.wrap (↑(y.data.getD n5.toNat (0 : UInt8)).toNat : Int)) =
  false := decide_eq_false h3
  have b4 : decide
    (IntKind.i64.wrap (↑(x.data.getD n5.toNat (0 : UInt8)).toNat : Int) >
      IntKind.i64.wrap (↑(y.data.getD n5.toNat (0 : UInt8)).toNat : Int)) =
  false := decide_eq_false h4
  fin_loop (fin_ret (h := 0) (txt_ok x y) (show outF (tyOf Try.prog) (fnAt Try.prog 57) 0 (txt_run x y (.code txt_l0) (.lp txt_l0 :: txt_k0) (txt_s0 x y n5) (.path [true, true, true, true, true, true, true, false, false])) = some (D.int IntKind.i64 (0 : Int), [],
    [decide
    (IntKind.i64.wrap (↑(x.data.getD n5.toNat (0 : UInt8)).toNat : Int) >
      IntKind.i64.wrap (↑(y.data.getD n5.toNat (0 : UInt8)).toNat : Int)) =
  false,
      decide
    (IntKind.i64.wrap (↑(x.data.getD n5.toNat (0 : UInt8)).toNat : Int) <
      IntKind.i64.wrap (↑(y.data.getD n5.toNat (0 : UInt8)).toNat : Int)) =
  false,
      (0 : Int) ≤ n5 ∧ n5 < (↑y.size : Int),
      (0 : Int) ≤ n5 ∧ n5 < (↑x.size : Int),
      ((↑(x.data.getD n5.toNat (0 : UInt8)).toNat : Int) != (↑(y.data.getD n5.toNat (0 : UInt8)).toNat : Int)) = true,
      (0 : Int) ≤ n5 ∧ n5 < (↑y.size : Int),
      (0 : Int) ≤ n5 ∧ n5 < (↑x.size : Int),
      decide (n5 < (↑y.size : Int)) = true,
      decide (n5 < (↑x.size : Int)) = true,
      (decide (n5 < (↑x.size : Int)) == true) = true,
      (decide (n5 < (↑x.size : Int)) == true) = true,
      (decide (n5 < (↑x.size : Int)) == true) = true,
      (decide (n5 < (↑x.size : Int)) == true) = true]) by kernel_rfl)
    (all_cons.2 ⟨b4, all_cons.2 ⟨b3, all_cons.2 ⟨h5, all_cons.2 ⟨h6, all_cons.2 ⟨b2, all_cons.2 ⟨h5, all_cons.2 ⟨h6, all_cons.2 ⟨b1, all_cons.2 ⟨b0, all_cons.2 ⟨(by rw [b0]; rfl), all_cons.2 ⟨(by rw [b0]; rfl), all_cons.2 ⟨(by rw [b0]; rfl), all_cons.2 ⟨(by rw [b0]; rfl), all_nil.2 trivial⟩⟩⟩⟩⟩⟩⟩⟩⟩⟩⟩⟩⟩))

theorem txt_0_3 {x : ByteArray} {y : ByteArray} {n5 : Int} {r : D} {H1 : GD.Heap}
    (h0 : n5 < (↑x.size : Int))
    (h1 : n5 < (↑y.size : Int))
    (h2 : (↑(x.data.getD n5.toNat (0 : UInt8)).toNat : Int) = (↑(y.data.getD n5.toNat (0 : UInt8)).toNat : Int))
    (h3 : (0 : Int) ≤ n5 ∧ n5 < (↑y.size : Int))
    (h4 : (0 : Int) ≤ n5 ∧ n5 < (↑x.size : Int))
    (g : txt_at0 x y (IntKind.i64.wrap (n5 + (1 : Int))) r H1) :
    txt_at0 x y n5 r H1 :=
  have b0 : decide (n5 < (↑x.size : Int)) = true := decide_eq_true h0
  have b1 : decide (n5 < (↑y.size : Int)) = true := decide_eq_true h1
  have b2 : ((↑(x.data.getD n5.toNat (0 : UInt8)).toNat : Int) != (↑(y.data.getD n5.toNat (0 : UInt8)).toNat : Int)) = false := (by rw [bne, Bool.not_eq_false']; exact beq_iff_eq.2 h2)
  fin_loop (fin_stop (F := (fun _ => false)) (h := 0) (keep := [0, 1, 5]) (txt_ok x y) (show cutX (fun _ => false) [0, 1, 5] 0 (txt_run x y (.code txt_l0) (.lp txt_l0 :: txt_k0) (txt_s0 x y n5) (.path [true, true, true, true, true, true, false])) = some (txt_l0, txt_k0, (txt_s0 x y (IntKind.i64.wrap (n5 + (1 : Int)))).env, (txt_s0 x y (IntKind.i64.wrap (n5 + (1 : Int)))).H,
    [((↑(x.data.getD n5.toNat (0 : UInt8)).toNat : Int) != (↑(y.data.getD n5.toNat (0 : UInt8)).toNat : Int)) = false,
      (0 : Int) ≤ n5 ∧ n5 < (↑y.size : Int),
      (0 : Int) ≤ n5 ∧ n5 < (↑x.size : Int),
      decide (n5 < (↑y.size : Int)) = true,
      decide (n5 < (↑x.size : Int)) = true,
      (decide (n5 < (↑x.size : Int)) == true) = true,
      (decide (n5 < (↑x.size : Int)) == true) = true,
      (decide (n5 < (↑x.size : Int)) == true) = true,
      (decide (n5 < (↑x.size : Int)) == true) = true]) by kernel_rfl)
    (all_cons.2 ⟨b2, all_cons.2 ⟨h3, all_cons.2 ⟨h4, all_cons.2 ⟨b1, all_cons.2 ⟨b0, all_cons.2 ⟨(by rw [b0]; rfl), all_cons.2 ⟨(by rw [b0]; rfl), all_cons.2 ⟨(by rw [b0]; rfl), all_cons.2 ⟨(by rw [b0]; rfl), all_nil.2 trivial⟩⟩⟩⟩⟩⟩⟩⟩⟩) (show (0 : Nat) ≤ 0 by decide) g)

theorem txt_0_4 {x : ByteArray} {y : ByteArray} {n5 : Int}
    (h0 : n5 < (↑x.size : Int))
    (h1 : ¬ (n5 < (↑y.size : Int)))
    (h2 : (↑x.size : Int) < (↑y.size : Int)) :
    txt_at0 x y n5 (D.int IntKind.i64 (-1 : Int)) [] :=
  have b0 : decide (n5 < (↑x.size : Int)) = true := decide_eq_true h0
  have b1 : decide (n5 < (↑y.size : Int)) = false := decide_eq_false h1
  have b2 : decide ((↑x.size : Int) < (↑y.size : Int)) = true := decide_eq_true h2
  fin_loop (fin_ret (h := 0) (txt_ok x y) (show outF (tyOf Try.prog) (fnAt Try.prog 57) 0 (txt_run x y (.code txt_l0) (.lp txt_l0 :: txt_k0) (txt_s0 x y n5) (.path [true, true, true, true, true, false, true])) = some (D.int IntKind.i64 (-1 : Int), [],
    [decide ((↑x.size : Int) < (↑y.size : Int)) = true,
      decide (n5 < (↑y.size : Int)) = false,
      decide (n5 < (↑x.size : Int)) = true,
      (decide (n5 < (↑x.size : Int)) == true) = true,
      (decide (n5 < (↑x.size : Int)) == true) = true,
      (decide (n5 < (↑x.size : Int)) == true) = true,
      (decide (n5 < (↑x.size : Int)) == true) = true]) by kernel_rfl)
    (all_cons.2 ⟨b2, all_cons.2 ⟨b1, all_cons.2 ⟨b0, all_cons.2 ⟨(by rw [b0]; rfl), all_cons.2 ⟨(by rw [b0]; rfl), all_cons.2 ⟨(by rw [b0]; rfl), all_cons.2 ⟨(by rw [b0]; rfl), all_nil.2 trivial⟩⟩⟩⟩⟩⟩⟩))

theorem txt_0_5 {x : ByteArray} {y : ByteArray} {n5 : Int}
    (h0 : n5 < (↑x.size : Int))
    (h1 : ¬ (n5 < (↑y.size : Int)))
    (h2 : ¬ ((↑x.size : Int) < (↑y.size : Int)))
    (h3 : (↑x.size : Int) > (↑y.size : Int)) :
    txt_at0 x y n5 (D.int IntKind.i64 (1 : Int)) [] :=
  have b0 : decide (n5 < (↑x.size : Int)) = true := decide_eq_true h0
  have b1 : decide (n5 < (↑y.size : Int)) = false := decide_eq_false h1
  have b2 : decide ((↑x.size : Int) < (↑y.size : Int)) = false := decide_eq_false h2
  have b3 : decide ((↑x.size : Int) > (↑y.size : Int)) = true := decide_eq_true h3
  fin_loop (fin_ret (h := 0) (txt_ok x y) (show outF (tyOf Try.prog) (fnAt Try.prog 57) 0 (txt_run x y (.code txt_l0) (.lp txt_l0 :: txt_k0) (txt_s0 x y n5) (.path [true, true, true, true, true, false, false, true])) = some (D.int IntKind.i64 (1 : Int), [],
    [decide ((↑x.size : Int) > (↑y.size : Int)) = true,
      decide ((↑x.size : Int) < (↑y.size : Int)) = false,
      decide (n5 < (↑y.size : Int)) = false,
      decide (n5 < (↑x.size : Int)) = true,
      (decide (n5 < (↑x.size : Int)) == true) = true,
      (decide (n5 < (↑x.size : Int)) == true) = true,
      (decide (n5 < (↑x.size : Int)) == true) = true,
      (decide (n5 < (↑x.size : Int)) == true) = true]) by kernel_rfl)
    (all_cons.2 ⟨b3, all_cons.2 ⟨b2, all_cons.2 ⟨b1, all_cons.2 ⟨b0, all_cons.2 ⟨(by rw [b0]; rfl), all_cons.2 ⟨(by rw [b0]; rfl), all_cons.2 ⟨(by rw [b0]; rfl), all_cons.2 ⟨(by rw [b0]; rfl), all_nil.2 trivial⟩⟩⟩⟩⟩⟩⟩⟩))

theorem txt_0_6 {x : ByteArray} {y : ByteArray} {n5 : Int}
    (h0 : n5 < (↑x.size : Int))
    (h1 : ¬ (n5 < (↑y.size : Int)))
    (h2 : ¬ ((↑x.size : Int) < (↑y.size : Int)))
    (h3 : ¬ ((↑x.size : Int) > (↑y.size : Int))) :
    txt_at0 x y n5 (D.int IntKind.i64 (0 : Int)) [] :=
  have b0 : decide (n5 < (↑x.size : Int)) = true := decide_eq_true h0
  have b1 : decide (n5 < (↑y.size : Int)) = false := decide_eq_false h1
  have b2 : decide ((↑x.size : Int) < (↑y.size : Int)) = false := decide_eq_false h2
  have b3 : decide ((↑x.size : Int) > (↑y.size : Int)) = false := decide_eq_false h3
  fin_loop (fin_ret (h := 0) (txt_ok x y) (show outF (tyOf Try.prog) (fnAt Try.prog 57) 0 (txt_run x y (.code txt_l0) (.lp txt_l0 :: txt_k0) (txt_s0 x y n5) (.path [true, true, true, true, true, false, false, false])) = some (D.int IntKind.i64 (0 : Int), [],
    [decide ((↑x.size : Int) > (↑y.size : Int)) = false,
      decide ((↑x.size : Int) < (↑y.size : Int)) = false,
      decide (n5 < (↑y.size : Int)) = false,
      decide (n5 < (↑x.size : Int)) = true,
      (decide (n5 < (↑x.size : Int)) == true) = true,
      (decide (n5 < (↑x.size : Int)) == true) = true,
      (decide (n5 < (↑x.size : Int)) == true) = true,
      (decide (n5 < (↑x.size : Int)) == true) = true]) by kernel_rfl)
    (all_cons.2 ⟨b3, all_cons.2 ⟨b2, all_cons.2 ⟨b1, all_cons.2 ⟨b0, all_cons.2 ⟨(by rw [b0]; rfl), all_cons.2 ⟨(by rw [b0]; rfl), all_cons.2 ⟨(by rw [b0]; rfl), all_cons.2 ⟨(by rw [b0]; rfl), all_nil.2 trivial⟩⟩⟩⟩⟩⟩⟩⟩))

theorem txt_0_7 {x : ByteArray} {y : ByteArray} {n5 : Int}
    (h0 : ¬ (n5 < (↑x.size : Int)))
    (h1 : (↑x.size : Int) < (↑y.size : Int)) :
    txt_at0 x y n5 (D.int IntKind.i64 (-1 : Int)) [] :=
  have b0 : decide (n5 < (↑x.size : Int)) = false := decide_eq_false h0
  have b1 : decide ((↑x.size : Int) < (↑y.size : Int)) = true := decide_eq_true h1
  fin_loop (fin_ret (h := 0) (txt_ok x y) (show outF (tyOf Try.prog) (fnAt Try.prog 57) 0 (txt_run x y (.code txt_l0) (.lp txt_l0 :: txt_k0) (txt_s0 x y n5) (.path [false, false, false, false, false, false, true])) = some (D.int IntKind.i64 (-1 : Int), [],
    [decide ((↑x.size : Int) < (↑y.size : Int)) = true,
      false = false,
      decide (n5 < (↑x.size : Int)) = false,
      (decide (n5 < (↑x.size : Int)) == true) = false,
      (decide (n5 < (↑x.size : Int)) == true) = false,
      (decide (n5 < (↑x.size : Int)) == true) = false,
      (decide (n5 < (↑x.size : Int)) == true) = false]) by kernel_rfl)
    (all_cons.2 ⟨b1, all_cons.2 ⟨rfl, all_cons.2 ⟨b0, all_cons.2 ⟨(by rw [b0]; rfl), all_cons.2 ⟨(by rw [b0]; rfl), all_cons.2 ⟨(by rw [b0]; rfl), all_cons.2 ⟨(by rw [b0]; rfl), all_nil.2 trivial⟩⟩⟩⟩⟩⟩⟩))

theorem txt_0_8 {x : ByteArray} {y : ByteArray} {n5 : Int}
    (h0 : ¬ (n5 < (↑x.size : Int)))
    (h1 : ¬ ((↑x.size : Int) < (↑y.size : Int)))
    (h2 : (↑x.size : Int) > (↑y.size : Int)) :
    txt_at0 x y n5 (D.int IntKind.i64 (1 : Int)) [] :=
  have b0 : decide (n5 < (↑x.size : Int)) = false := decide_eq_false h0
  have b1 : decide ((↑x.size : Int) < (↑y.size : Int)) = false := decide_eq_false h1
  have b2 : decide ((↑x.size : Int) > (↑y.size : Int)) = true := decide_eq_true h2
  fin_loop (fin_ret (h := 0) (txt_ok x y) (show outF (tyOf Try.prog) (fnAt Try.prog 57) 0 (txt_run x y (.code txt_l0) (.lp txt_l0 :: txt_k0) (txt_s0 x y n5) (.path [false, false, false, false, false, false, false, true])) = some (D.int IntKind.i64 (1 : Int), [],
    [decide ((↑x.size : Int) > (↑y.size : Int)) = true,
      decide ((↑x.size : Int) < (↑y.size : Int)) = false,
      false = false,
      decide (n5 < (↑x.size : Int)) = false,
      (decide (n5 < (↑x.size : Int)) == true) = false,
      (decide (n5 < (↑x.size : Int)) == true) = false,
      (decide (n5 < (↑x.size : Int)) == true) = false,
      (decide (n5 < (↑x.size : Int)) == true) = false]) by kernel_rfl)
    (all_cons.2 ⟨b2, all_cons.2 ⟨b1, all_cons.2 ⟨rfl, all_cons.2 ⟨b0, all_cons.2 ⟨(by rw [b0]; rfl), all_cons.2 ⟨(by rw [b0]; rfl), all_cons.2 ⟨(by rw [b0]; rfl), all_cons.2 ⟨(by rw [b0]; rfl), all_nil.2 trivial⟩⟩⟩⟩⟩⟩⟩⟩))

theorem txt_0_9 {x : ByteArray} {y : ByteArray} {n5 : Int}
    (h0 : ¬ (n5 < (↑x.size : Int)))
    (h1 : ¬ ((↑x.size : Int) < (↑y.size : Int)))
    (h2 : ¬ ((↑x.size : Int) > (↑y.size : Int))) :
    txt_at0 x y n5 (D.int IntKind.i64 (0 : Int)) [] :=
  have b0 : decide (n5 < (↑x.size : Int)) = false := decide_eq_false h0
  have b1 : decide ((↑x.size : Int) < (↑y.size : Int)) = false := decide_eq_false h1
  have b2 : decide ((↑x.size : Int) > (↑y.size : Int)) = false := decide_eq_false h2
  fin_loop (fin_ret (h := 0) (txt_ok x y) (show outF (tyOf Try.prog) (fnAt Try.prog 57) 0 (txt_run x y (.code txt_l0) (.lp txt_l0 :: txt_k0) (txt_s0 x y n5) (.path [false, false, false, false, false, false, false, false])) = some (D.int IntKind.i64 (0 : Int), [],
    [decide ((↑x.size : Int) > (↑y.size : Int)) = false,
      decide ((↑x.size : Int) < (↑y.size : Int)) = false,
      false = false,
      decide (n5 < (↑x.size : Int)) = false,
      (decide (n5 < (↑x.size : Int)) == true) = false,
      (decide (n5 < (↑x.size : Int)) == true) = false,
      (decide (n5 < (↑x.size : Int)) == true) = false,
      (decide (n5 < (↑x.size : Int)) == true) = false]) by kernel_rfl)
    (all_cons.2 ⟨b2, all_cons.2 ⟨b1, all_cons.2 ⟨rfl, all_cons.2 ⟨b0, all_cons.2 ⟨(by rw [b0]; rfl), all_cons.2 ⟨(by rw [b0]; rfl), all_cons.2 ⟨(by rw [b0]; rfl), all_cons.2 ⟨(by rw [b0]; rfl), all_nil.2 trivial⟩⟩⟩⟩⟩⟩⟩⟩))


/-! ### function 72 -/
theorem orc_fn : Try.prog.funcs[(72 : Nat)]? = some (fnAt Try.prog 72) := by kernel_rfl
theorem orc_body : (fnAt Try.prog 72).body = some (bodyAt Try.prog 72) := by kernel_rfl
theorem orc_name : ((fnAt Try.prog 72).name == "runtime.NumGoroutine") = false := by kernel_rfl
noncomputable def orc_C (xb : Bool) (es : Es) (n4_0 : Int) : Cf := cfg Try.prog (hintOf [((72 : Nat), (4 : Nat), (0 : Nat), Hint.c [D.int IntKind.i64 n4_0])]) (tOr xb es) (fun _ => false) 2 true (fun _ => false)
theorem orc_ok (xb : Bool) (es : Es) (n4_0 : Int) : CfOk (orc_C xb es n4_0) := cfg_ok (by kernel_rfl)
noncomputable def orc_run (xb : Bool) (es : Es) (n4_0 : Int) (qcur : Cur) (qk : List It) (qs : St) (qor : GD.Or) := runE (orc_C xb es n4_0) (callE (orc_C xb es n4_0) 100000 10) 72 100000 qcur qk qs qor []
noncomputable def orc_l0 : Code := (loopAt Try.prog 72 0).1
noncomputable def orc_k0 : List It := (loopAt Try.prog 72 0).2
/- loop 0: n8:=(0 : Int); -/
noncomputable def orc_s0 (xb : Bool) (es : Es) (n8 : Int) : St := ⟨envOf 18 [(3, D.int IntKind.i64 (0 : Int)), (6, D.slice xb es none), (7, D.int IntKind.i64 (↑(List.length es) : Int)), (8, D.int IntKind.i64 n8)], []⟩
def orc_at0 (xb : Bool) (es : Es) (n8 : Int) (r : D) (H1 : GD.Heap) : Prop := GD.Fin Try.prog (tyOf Try.prog) (fnAt Try.prog 72) 0 (.code (.loop orc_l0)) orc_k0 (orc_s0 xb es n8) r H1

theorem orc_in_0 {xb : Bool} {es : Es} {r : D} {H1 : GD.Heap}
    (g : orc_at0 xb es ((0 : Int)) r H1) :
    Ret Try.prog (tyOf Try.prog) 72 [D.slice xb es none] [] r H1 :=
  fin_call orc_fn orc_body orc_name (fin_stop (F := (fun _ => false)) (h := 0) (keep := [3, 6, 7, 8]) (orc_ok xb es 0) (show cutX (fun _ => false) [3, 6, 7, 8] 0 (orc_run xb es 0 (.code (bodyAt Try.prog 72)) [] (beginE (fnAt Try.prog 72) [D.slice xb es none] []) (.path [])) = some (orc_l0, orc_k0, (orc_s0 xb es ((0 : Int))).env, (orc_s0 xb es ((0 : Int))).H,
    []) by kernel_rfl)
    (all_nil.2 trivial) (show (0 : Nat) ≤ 0 by decide) g)

theorem orc_0_0 {xb : Bool} {es : Es} {n8 : Int} {n4_0 : Int}
    (h0 : n8 < (↑(List.length es) : Int))
    (h1 : n4_0 ≠ (0 : Int))
    (h2 : (0 : Int) ≤ n8)
    (h3 : es[n8.toNat]? = some [D.int IntKind.i64 n4_0]) :
    orc_at0 xb es n8 (D.int IntKind.i64 n4_0) [] :=
  have b0 : decide (n8 < (↑(List.length es) : Int)) = true := decide_eq_true h0
  have b1 : (n4_0 != (0 : Int)) = true := bne_iff_ne.2 h1
  fin_loop (fin_ret (h := 0) (orc_ok xb es n4_0) (show outF (tyOf Try.prog) (fnAt Try.prog 72) 0 (orc_run xb es n4_0 (.code orc_l0) (.lp orc_l0 :: orc_k0) (orc_s0 xb es n8) (.path [true, true])) = some (D.int IntKind.i64 n4_0, [],
    [(n4_0 != (0 : Int)) = true,
      (0 : Int) ≤ n8,
      es[n8.toNat]? = some [D.int IntKind.i64 n4_0],
      decide (n8 < (↑(List.length es) : Int)) = true]) by kernel_rfl)
    (all_cons.2 ⟨b1, all_cons.2 ⟨h2, all_cons.2 ⟨h3, all_cons.2 ⟨b0, all_nil.2 trivial⟩⟩⟩⟩))

theorem orc_0_1 {xb : Bool} {es : Es} {n8 : Int} {n4_0 : Int} {r : D} {H1 : GD.Heap}
    (h0 : n8 < (↑(List.length es) : Int))
    (h1 : n4_0 = (0 : Int))
    (h2 : (0 : Int) ≤ n8)
    (h3 : es[n8.toNat]? = some [D.int IntKind.i64 n4_0])
    (g : orc_at0 xb es (IntKind.i64.wrap (n8 + (1 : Int))) r H1) :
    orc_at0 xb es n8 r H1 :=
  have b0 : decide (n8 < (↑(List.length es) : Int)) = true := decide_eq_true h0
  have b1 : (n4_0 != (0 : Int)) = false := (by rw [bne, Bool.not_eq_false']; exact beq_iff_eq.2 h1)
  fin_loop (fin_stop (F := (fun _ => false)) (h := 0) (keep := [3, 6, 7, 8]) (orc_ok xb es n4_0) (show cutX (fun _ => false) [3, 6, 7, 8] 0 (orc_run xb es n4_0 (.code orc_l0) (.lp orc_l0 :: orc_k0) (orc_s0 xb es n8) (.path [true, false])) = some (orc_l0, orc_k0, (orc_s0 xb es (IntKind.i64.wrap (n8 + (1 : Int)))).env, (orc_s0 xb es (IntKind.i64.wrap (n8 + (1 : Int)))).H,
    [(n4_0 != (0 : Int)) = false,
      (0 : Int) ≤ n8,
      es[n8.toNat]? = some [D.int IntKind.i64 n4_0],
      decide (n8 < (↑(List.length es) : Int)) = true]) by kernel_rfl)
    (all_cons.2 ⟨b1, all_cons.2 ⟨h2, all_cons.2 ⟨h3, all_cons.2 ⟨b0, all_nil.2 trivial⟩⟩⟩⟩) (show (0 : Nat) ≤ 0 by decide) g)

theorem orc_0_2 {xb : Bool} {es : Es} {n8 : Int}
    (h0 : ¬ (n8 < (↑(List.length es) : Int))) :
    orc_at0 xb es n8 (D.int IntKind.i64 (0 : Int)) [] :=
  have b0 : decide (n8 < (↑(List.length es) : Int)) = false := decide_eq_false h0
  fin_loop (fin_ret (h := 0) (orc_ok xb es 0) (show outF (tyOf Try.prog) (fnAt Try.prog 72) 0 (orc_run xb es 0 (.code orc_l0) (.lp orc_l0 :: orc_k0) (orc_s0 xb es n8) (.path [false])) = some (D.int IntKind.i64 (0 : Int), [],
    [decide (n8 < (↑(List.length es) : Int)) = false]) by kernel_rfl)
    (all_cons.2 ⟨b0, all_nil.2 trivial⟩))


/-! ### function 73 -/
theorem byc_fn : Try.prog.funcs[(73 : Nat)]? = some (fnAt Try.prog 73) := by kernel_rfl
theorem byc_body : (fnAt Try.prog 73).body = some (bodyAt Try.prog 73) := by kernel_rfl
theorem byc_name : ((fnAt Try.prog 73).name == "runtime.NumGoroutine") = false := by kernel_rfl
noncomputable def byc_C (cb : Es → Es → Int) (xa : Bool) (ea : Es) (xb : Bool) (eb : Es) : Cf := cfg Try.prog (hintOf []) (tBy cb xa ea xb eb) (fun _ => false) 2 true (fun _ => false) (xBy cb xa ea xb eb)
theorem byc_ok (cb : Es → Es → Int) (xa : Bool) (ea : Es) (xb : Bool) (eb : Es) : CfOk (byc_C cb xa ea xb eb) := cfg_ok (by kernel_rfl)
noncomputable def byc_run (cb : Es → Es → Int) (xa : Bool) (ea : Es) (xb : Bool) (eb : Es) (qcur : Cur) (qk : List It) (qs : St) (qor : GD.Or) := runE (byc_C cb xa ea xb eb) (callE (byc_C cb xa ea xb eb) 100000 10) 73 100000 qcur qk qs qor []

theorem byc_in_0 {cb : Es → Es → Int} {xa : Bool} {ea : Es} {xb : Bool} {eb : Es}
    (h0 : ExtOk Try.prog (78 : Nat) [D.slice xa ea none, D.slice xb eb none] (D.int IntKind.i64 (cb ea eb))) :
    Ret Try.prog (tyOf Try.prog) 73 [D.slice xa ea none, D.slice xb eb none] [] (D.int IntKind.i64 (cb ea eb)) [] :=
  fin_call byc_fn byc_body byc_name (fin_ret (h := 0) (byc_ok cb xa ea xb eb) (show outF (tyOf Try.prog) (fnAt Try.prog 73) 0 (byc_run cb xa ea xb eb (.code (bodyAt Try.prog 73)) [] (beginE (fnAt Try.prog 73) [D.slice xa ea none, D.slice xb eb none] []) (.path [])) = some (D.int IntKind.i64 (cb ea eb), [],
    [ExtOk Try.prog (78 : Nat) [D.slice xa ea none, D.slice xb eb none] (D.int IntKind.i64 (cb ea eb))]) by kernel_rfl)
    (all_cons.2 ⟨h0, all_nil.2 trivial⟩))




/-! ### what they come to -/
def classU (k : Int) : Int := if k < 0 ∨ 12 < k then -1 else if k ≤ 2 then k else if k ≤ 4 then 3 else k - 1
def sgnU (x y : Int) : Int := if x < y then -1 else if x > y then 1 else 0
def lexB (x y : ByteArray) : Int := Lib.compareBytes x.toList y.toList
def orE : Es → Int
  | [] => 0
  | [.int .i64 n] :: r => if n = 0 then orE r else n
  | _ :: _ => 0

theorem cls34 (k : Int) : Ret P T 34 [.int .i64 k] [] (.int .i64 (classU k)) [] := by
  have w : ∀ m : Int, 0 ≤ m → m ≤ 20 → IntKind.i64.wrap (m - 1) = m - 1 := fun m h1 h2 => wrap_i64 (by omega)
  unfold classU
  by_cases h0 : k = 0
  · subst h0; exact cls_in_0 rfl
  by_cases h1 : k = 1
  · subst h1; exact cls_in_1 h0 rfl
  by_cases h2 : k = 2
  · subst h2; exact cls_in_2 h0 h1 rfl
  by_cases h3 : k = 3
  · subst h3; exact cls_in_3 h0 h1 h2 rfl
  by_cases h4 : k = 4
  · subst h4; exact cls_in_4 h0 h1 h2 h3 rfl
  by_cases h5 : k = 5
  · subst h5; exact cls_in_5 h0 h1 h2 h3 h4 rfl
  by_cases h6 : k = 6
  · subst h6; exact cls_in_6 h0 h1 h2 h3 h4 h5 rfl
  by_cases h7 : k = 7
  · subst h7; exact cls_in_7 h0 h1 h2 h3 h4 h5 h6 rfl
  by_cases h8 : k = 8
  · subst h8; exact cls_in_8 h0 h1 h2 h3 h4 h5 h6 h7 rfl
  by_cases h9 : k = 9
  · subst h9; exact cls_in_9 h0 h1 h2 h3 h4 h5 h6 h7 h8 rfl
  by_cases h10 : k = 10
  · subst h10; exact cls_in_10 h0 h1 h2 h3 h4 h5 h6 h7 h8 h9 rfl
  by_cases h11 : k = 11
  · subst h11; exact cls_in_11 h0 h1 h2 h3 h4 h5 h6 h7 h8 h9 h10 rfl
  by_cases h12 : k = 12
  · subst h12; exact cls_in_12 h0 h1 h2 h3 h4 h5 h6 h7 h8 h9 h10 h11 rfl
  rw [if_pos (by omega)]
  exact cls_in_13 h0 h1 h2 h3 h4 h5 h6 h7 h8 h9 h10 h11 h12
theorem sgn56 (x y : Int) : Ret P T 56 [.int .i64 x, .int .i64 y] [] (.int .i64 (sgnU x y)) [] := by
  unfold sgnU
  by_cases h : x < y
  · rw [if_pos h]; exact sgn_in_0 h
  · rw [if_neg h]
    by_cases h' : x > y
    · rw [if_pos h']; exact sgn_in_1 h h'
    · rw [if_neg h']; exact sgn_in_2 h h'

/-! ### texts -/
theorem less_lex : ∀ x y : List UInt8, (Op.bytesLess x y = true ↔ Lib.compareBytes x y = -1) ∧ (x = y ↔ Lib.compareBytes x y = 0)
  | [], [] => by simp [Op.bytesLess, Lib.compareBytes]
  | [], _ :: _ => by simp [Op.bytesLess, Lib.compareBytes]
  | _ :: _, [] => by simp [Op.bytesLess, Lib.compareBytes]
  | a :: x, b :: y => by
    obtain ⟨h1, h2⟩ := less_lex x y
    simp only [Op.bytesLess, Lib.compareBytes]
    by_cases hab : a < b
    · have : a ≠ b := fun e => by subst e; exact absurd hab (UInt8.lt_irrefl a)
      simp [hab, this]
    · by_cases hba : b < a
      · have : a ≠ b := fun e => by subst e; exact absurd hba (UInt8.lt_irrefl a)
        simp [hab, hba, this]
      · have e : a = b := by
          have h1 : ¬ a.toNat < b.toNat := fun h => hab (UInt8.lt_iff_toNat_lt.2 h)
          have h2 : ¬ b.toNat < a.toNat := fun h => hba (UInt8.lt_iff_toNat_lt.2 h)
          exact UInt8.toNat_inj.1 (by omega)
        subst e
        simp [hab, h1, ← h2]
theorem lex_range : ∀ x y : List UInt8, Lib.compareBytes x y = -1 ∨ Lib.compareBytes x y = 0 ∨ Lib.compareBytes x y = 1
  | [], [] => .inr (.inl rfl)
  | [], _ :: _ => .inl rfl
  | _ :: _, [] => .inr (.inr rfl)
  | a :: x, b :: y => by
    simp only [Lib.compareBytes]
    split
    · exact .inl rfl
    · split
      · exact .inr (.inr rfl)
      · exact lex_range x y
theorem cmp65 (x y : ByteArray) : Ret P T 65 [.str x, .str y] [] (.int .i64 (lexB x y)) [] := by
  obtain ⟨h1, h2⟩ := less_lex x.toList y.toList
  unfold lexB
  rcases lex_range x.toList y.toList with h | h | h
  · rw [h]; exact cmpS_in_0 (h1.2 h)
  · rw [h]
    have hl : Op.bytesLess x.toList y.toList = false := by
      cases hb : Op.bytesLess x.toList y.toList with
      | false => rfl
      | true => rw [h1.1 hb] at h; cases h
    exact cmpS_in_1 hl (by rw [hl, h2.2 h]; simp)
  · rw [h]
    have hl : Op.bytesLess x.toList y.toList = false := by
      cases hb : Op.bytesLess x.toList y.toList with
      | false => rfl
      | true => rw [h1.1 hb] at h; cases h
    have hne : x.toList ≠ y.toList := fun e => by rw [h2.1 e] at h; cases h
    exact cmpS_in_2 hl (by rw [hl]; simpa using hne)
theorem cmp54 (x y : Int) : Ret P T 54 [.int .i64 x, .int .i64 y] [] (.int .i64 (sgnU x y)) [] := by
  unfold sgnU
  by_cases h : x < y
  · rw [if_pos h]; exact cmpI_in_0 h
  · rw [if_neg h]
    by_cases h' : x > y
    · rw [if_pos h']; exact cmpI_in_1 h h'
    · rw [if_neg h']; exact cmpI_in_2 h h'
theorem cmp63 (x y : Int) : Ret P T 63 [.int .i64 x, .int .i64 y] [] (.int .i64 (sgnU x y)) [] := by
  unfold sgnU
  by_cases h : x < y
  · rw [if_pos h]; exact cmpJ_in_0 h
  · rw [if_neg h]
    by_cases h' : x > y
    · rw [if_pos h']; exact cmpJ_in_1 h h'
    · rw [if_neg h']; exact cmpJ_in_2 h h'

theorem up {i n : Nat} (h : i < n) (hn : n ≤ maxLen) : IntKind.i64.wrap ((i : Int) + 1) = ((i + 1 : Nat) : Int) := by
  have : maxLen ≤ 9223372036854775807 := by decide
  rw [wrap_i64 (by omega)]
  omega

/-! ### cmp.Or -/
def ints (l : List Int) : Es := l.map fun n => [D.int .i64 n]
theorem or72 (xb : Bool) (l : List Int) (hl : l.length ≤ maxLen) : Ret P T 72 [.slice xb (ints l) none] [] (.int .i64 (orE (ints l))) [] := by
  have key : ∀ (m i : Nat), i + m = l.length → orc_at0 xb (ints l) i (.int .i64 (orE (ints (l.drop i)))) [] := by
    intro m
    induction m with
    | zero =>
      intro i hi
      rw [List.drop_of_length_le (by omega)]
      exact orc_0_2 (by simp [ints]; omega)
    | succ m ih =>
      intro i hi
      have hlt : i < l.length := by omega
      have hg : (ints l)[i]? = some [.int .i64 l[i]] := by simp [ints, List.getElem?_map, List.getElem?_eq_getElem hlt]
      rw [List.drop_eq_getElem_cons hlt]
      have e : orE (ints (l[i] :: l.drop (i + 1))) = if l[i] = 0 then orE (ints (l.drop (i + 1))) else l[i] := rfl
      rw [e]
      by_cases h : l[i] = 0
      · rw [if_pos h]
        refine orc_0_1 (n4_0 := l[i]) (by simp [ints]; omega) h (by omega) (by simpa using hg) ?_
        rw [up hlt hl]
        exact ih (i + 1) (by omega)
      · rw [if_neg h]
        exact orc_0_0 (n4_0 := l[i]) (by simp [ints]; omega) h (by omega) (by simpa using hg)
  exact orc_in_0 (by simpa using key l.length 0 (by omega))

/-! ### bytes.Compare -/
def byteL (es : Es) : List UInt8 := Lib.bytesOf (es.map fun r => match r with | [.int .u8 n] => n | _ => 0)
def rows (l : List Int) : Es := l.map fun x => [D.int .u8 x]
theorem byteNums_rows' : ∀ l : List Int, byteNums (rows l) = some l
  | [] => rfl
  | x :: l => by
    show (byteNums (rows l)).map (x :: ·) = _
    rw [byteNums_rows' l]
    rfl
theorem byteL_rows (l : List Int) : byteL (rows l) = Lib.bytesOf l := by
  unfold byteL rows
  rw [List.map_map]
  congr 1
  exact List.map_id' l
def cbE (a b : Es) : Int := Lib.compareBytes (byteL a) (byteL b)
theorem ext78 (xa xb : Bool) (a b : List Int) : ExtOk Try.prog 78 [.slice xa (rows a) none, .slice xb (rows b) none] (.int .i64 (cbE (rows a) (rows b))) := by
  refine extE_ok ?_
  have h1 : extE Try.prog 78 [.slice xa (rows a) none, .slice xb (rows b) none] = extN "internal/bytealg.Compare" [.slice xa (rows a) none, .slice xb (rows b) none] := by kernel_rfl
  rw [h1]
  unfold extN
  rw [if_pos (by decide)]
  simp only [GD.bytesD, byteNums_rows', Option.map_some]
  unfold cbE
  rw [byteL_rows, byteL_rows]
theorem byc73 (xa xb : Bool) (a b : List Int) : Ret P T 73 [.slice xa (rows a) none, .slice xb (rows b) none] [] (.int .i64 (cbE (rows a) (rows b))) [] :=
  @byc_in_0 cbE xa (rows a) xb (rows b) (ext78 xa xb a b)


theorem cls35 (k : Int) : Ret P T 35 [.int .i64 k] [] (.int .i64 (classU k)) [] := by
  unfold classU
  by_cases h0 : k < 0
  · rw [if_pos (by omega)]; exact clsR_in_0 h0
  · by_cases h1 : k > 12
    · rw [if_pos (by omega)]; exact clsR_in_1 h0 h1
    · rw [if_neg (by omega)]
      by_cases h2 : k ≤ 3
      · have e := clsR_in_2 h0 h1 h2
        by_cases h3 : k ≤ 2
        · rw [if_pos h3]; exact e
        · rw [if_neg h3, if_pos (by omega)]
          obtain rfl : k = 3 := by omega
          exact e
      · have e := clsR_in_3 h0 h1 h2
        rw [if_neg (by omega)]
        rw [wrap_i64 (by omega)] at e
        by_cases h3 : k ≤ 4
        · rw [if_pos h3]
          obtain rfl : k = 4 := by omega
          exact e
        · rw [if_neg h3]; exact e

/-! ### the reference's texts -/
theorem getD_list (x : ByteArray) (i : Nat) : x.data.getD i 0 = x.toList.getD i 0 := by
  rw [Lib.toList_data, List.getD_eq_getElem?_getD, Array.getD_eq_getD_getElem?, Array.getElem?_toList]
theorem size_list (x : ByteArray) : x.size = x.toList.length := by
  rw [Lib.toList_data, Array.length_toList]
  rfl
theorem u8w (b : UInt8) : IntKind.i64.wrap (b.toNat : Int) = (b.toNat : Int) := by
  have := b.toNat_lt
  exact wrap_i64 (by omega)

theorem txt57 (x y : ByteArray) (hx : x.size ≤ maxLen) : Ret P T 57 [.str x, .str y] [] (.int .i64 (lexB x y)) [] := by
  have hX := size_list x
  have hY := size_list y
  have key : ∀ (m i : Nat), i + m = x.size → i ≤ y.size → txt_at0 x y i (.int .i64 (Lib.compareBytes (x.toList.drop i) (y.toList.drop i))) [] := by
    intro m
    induction m with
    | zero =>
      intro i hi hie
      rw [List.drop_of_length_le (l := x.toList) (by omega)]
      by_cases h : i < y.size
      · rw [List.drop_eq_getElem_cons (l := y.toList) (by omega)]
        exact txt_0_7 (by omega) (by omega)
      · rw [List.drop_of_length_le (l := y.toList) (by omega)]
        exact txt_0_9 (by omega) (by omega) (by omega)
    | succ m ih =>
      intro i hi hie
      have hlt : i < x.toList.length := by omega
      rw [List.drop_eq_getElem_cons hlt]
      have gx : (x.data.getD ((i : Int)).toNat 0) = x.toList[i] := by rw [Int.toNat_natCast, getD_list, List.getD_eq_getElem?_getD, List.getElem?_eq_getElem hlt]; rfl
      by_cases h : i < y.size
      · have hlt' : i < y.toList.length := by omega
        have gy : (y.data.getD ((i : Int)).toNat 0) = y.toList[i] := by rw [Int.toNat_natCast, getD_list, List.getD_eq_getElem?_getD, List.getElem?_eq_getElem hlt']; rfl
        rw [List.drop_eq_getElem_cons hlt']
        simp only [Lib.compareBytes]
        have e0 := @txt_0_0 x y i
        have e1 := @txt_0_1 x y i
        have e3 := @txt_0_3 x y i
        simp only [gx, gy, u8w] at e0 e1 e3
        by_cases hl : x.toList[i] < y.toList[i]
        · rw [if_pos hl]
          have := UInt8.lt_iff_toNat_lt.1 hl
          exact e0 (by omega) (by omega) (by omega) (by omega) (by omega) (by omega)
        · rw [if_neg hl]
          have hl' : ¬ x.toList[i].toNat < y.toList[i].toNat := fun h => hl (UInt8.lt_iff_toNat_lt.2 h)
          by_cases hg : y.toList[i] < x.toList[i]
          · rw [if_pos hg]
            have := UInt8.lt_iff_toNat_lt.1 hg
            exact e1 (by omega) (by omega) (by omega) (by omega) (by omega) (by omega) (by omega)
          · rw [if_neg hg]
            have hg' : ¬ y.toList[i].toNat < x.toList[i].toNat := fun h => hg (UInt8.lt_iff_toNat_lt.2 h)
            have hup : IntKind.i64.wrap ((i : Int) + 1) = ((i + 1 : Nat) : Int) := up (n := x.size) (by omega) hx
            rw [hup] at e3
            exact e3 (by omega) (by omega) (by omega) (by omega) (by omega) (ih (i + 1) (by omega) (by omega))
      · rw [List.drop_of_length_le (l := y.toList) (by omega)]
        exact txt_0_5 (by omega) (by omega) (by omega) (by omega)
  exact txt_in_0 (by simpa [lexB] using key x.size 0 (by omega) (by omega))

end Go.Proofs.Ytbkacmcijimbfaa.ordk
