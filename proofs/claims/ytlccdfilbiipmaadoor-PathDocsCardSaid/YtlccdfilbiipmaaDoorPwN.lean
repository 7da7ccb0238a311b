/- What may stand in a document: a value's own bytes; roads. -/
import Derived.Test.YtlccdfilbiipmaaDoorPwM
namespace Go.Proofs.YtlccdfilbiipmaaDoor.ordk
open Go YtlccdfilbiipmaaDoor.GD
set_option linter.unusedVariables false
set_option linter.unusedSimpArgs false
set_option maxRecDepth 100000

def tabO (br : Bool → Bool → Bool → Bool → Bool → Cs → Bool) (u8 : ByteArray → Bool) (nmE : Int → Int → Es) (dg : Int → ByteArray) (fx : Es → Int → Bool) (fe : Es → Int → Es) (fo : Es → Int → Bool) : Tab := fun k args H =>
  match k with
  | 53 => match args, H with | [.agg v, .bool a, .bool b, .bool c, .bool d, .bool e], [] => some (.bool (br a b c d e v), []) | _, _ => none
  | 31 => match args, H with | [.str s], [] => some (.bool (u8 s), []) | _, _ => none
  | 54 => match args, H with | [.int .i64 n, .int .i64 w], [] => some (.slice true (nmE n w) (some 0), [some (.tok w.toNat 1)]) | _, _ => none
  | 56 => match args, H with | [.int .i64 n], [] => some (.str (dg n), []) | _, _ => none
  | 55 => match args, H with
    | [.slice _ es none, .int .i64 d], [] => some (.tuple [.slice (fx es d) (fe es d) none, .bool (fo es d)], [])
    | [.slice _ es (some 0), .int .i64 d], [some (.tok n 7)] => some (.tuple [.slice (fx es d) (fe es d) none, .bool (fo es d)], [some (.tok n 7)])
    | _, _ => none
  | _ => none
def aOwn (br : Bool → Bool → Bool → Bool → Bool → Cs → Bool) (u8 : ByteArray → Bool) (nmE : Int → Int → Es) (dg : Int → ByteArray) (fx : Es → Int → Bool) (fe : Es → Int → Es) (fo : Es → Int → Bool) (k n : Int) (s : ByteArray) (xb : Bool) (eb : Es) (xf : Bool) (ef : Es) (xl : Bool) (el : Es) (dp : Int) : List D × GD.Heap :=
  ([.agg [.int .i64 k, .int .i64 n, .str s, .slice xb eb none, .slice xf ef none, .slice xl el none], .int .i64 dp], [])
def tOwn (br : Bool → Bool → Bool → Bool → Bool → Cs → Bool) (u8 : ByteArray → Bool) (nmE : Int → Int → Es) (dg : Int → ByteArray) (fx : Es → Int → Bool) (fe : Es → Int → Es) (fo : Es → Int → Bool) (k n : Int) (s : ByteArray) (xb : Bool) (eb : Es) (xf : Bool) (ef : Es) (xl : Bool) (el : Es) (dp : Int) : Tab := tabO br u8 nmE dg fx fe fo

/-! ### function 33 -/
theorem own_fn : Tryd.prog.funcs[(45 : Nat)]? = some (fnAt P 45) := by kernel_rfl
theorem own_body : (fnAt P 45).body = some (bodyAt P 45) := by kernel_rfl
theorem own_name : ((fnAt P 45).name == "runtime.NumGoroutine") = false := by kernel_rfl
noncomputable def own_C (br : Bool → Bool → Bool → Bool → Bool → Cs → Bool) (u8 : ByteArray → Bool) (nmE : Int → Int → Es) (dg : Int → ByteArray) (fx : Es → Int → Bool) (fe : Es → Int → Es) (fo : Es → Int → Bool) (k n : Int) (s : ByteArray) (xb : Bool) (eb : Es) (xf : Bool) (ef : Es) (xl : Bool) (el : Es) (dp n34_6_0 n34_6_1 : Int) (s34_6_2 : ByteArray) (x34_6_3 : Bool) (e34_6_3 : List (List D)) (x34_6_4 : Bool) (e34_6_4 : List (List D)) (x34_6_5 : Bool) (e34_6_5 : List (List D)) : Cf := cfg Tryd.prog (hintOf [((45 : Nat), (34 : Nat), (6 : Nat), Hint.c (valk.val n34_6_0 n34_6_1 s34_6_2 x34_6_3 e34_6_3 x34_6_4 e34_6_4 x34_6_5 e34_6_5)), ((45 : Nat), (0 : Nat), (0 : Nat), Hint.tok)]) (tOwn br u8 nmE dg fx fe fo k n s xb eb xf ef xl el dp) (fun _ => false) 2 true (fun _ => false)
theorem own_ok (br : Bool → Bool → Bool → Bool → Bool → Cs → Bool) (u8 : ByteArray → Bool) (nmE : Int → Int → Es) (dg : Int → ByteArray) (fx : Es → Int → Bool) (fe : Es → Int → Es) (fo : Es → Int → Bool) (k n : Int) (s : ByteArray) (xb : Bool) (eb : Es) (xf : Bool) (ef : Es) (xl : Bool) (el : Es) (dp n34_6_0 n34_6_1 : Int) (s34_6_2 : ByteArray) (x34_6_3 : Bool) (e34_6_3 : List (List D)) (x34_6_4 : Bool) (e34_6_4 : List (List D)) (x34_6_5 : Bool) (e34_6_5 : List (List D)) : CfOk (own_C br u8 nmE dg fx fe fo k n s xb eb xf ef xl el dp n34_6_0 n34_6_1 s34_6_2 x34_6_3 e34_6_3 x34_6_4 e34_6_4 x34_6_5 e34_6_5) := cfg_ok (by kernel_rfl)
noncomputable def own_run (br : Bool → Bool → Bool → Bool → Bool → Cs → Bool) (u8 : ByteArray → Bool) (nmE : Int → Int → Es) (dg : Int → ByteArray) (fx : Es → Int → Bool) (fe : Es → Int → Es) (fo : Es → Int → Bool) (k n : Int) (s : ByteArray) (xb : Bool) (eb : Es) (xf : Bool) (ef : Es) (xl : Bool) (el : Es) (dp n34_6_0 n34_6_1 : Int) (s34_6_2 : ByteArray) (x34_6_3 : Bool) (e34_6_3 : List (List D)) (x34_6_4 : Bool) (e34_6_4 : List (List D)) (x34_6_5 : Bool) (e34_6_5 : List (List D)) (qcur : Cur) (qk : List It) (qs : St) (qor : GD.Or) := runE (own_C br u8 nmE dg fx fe fo k n s xb eb xf ef xl el dp n34_6_0 n34_6_1 s34_6_2 x34_6_3 e34_6_3 x34_6_4 e34_6_4 x34_6_5 e34_6_5) (callE (own_C br u8 nmE dg fx fe fo k n s xb eb xf ef xl el dp n34_6_0 n34_6_1 s34_6_2 x34_6_3 e34_6_3 x34_6_4 e34_6_4 x34_6_5 e34_6_5) 100000 10) 45 100000 qcur qk qs qor []
noncomputable def own_l0 : Code := (loopAt Tryd.prog 45 0).1
noncomputable def own_k0 : List It := (loopAt Tryd.prog 45 0).2
/- loop 0: x6:=false; e6:=[]; n7:=(0 : Int); kh:=(0 : Nat); -/
noncomputable def own_s0 (br : Bool → Bool → Bool → Bool → Bool → Cs → Bool) (u8 : ByteArray → Bool) (nmE : Int → Int → Es) (dg : Int → ByteArray) (fx : Es → Int → Bool) (fe : Es → Int → Es) (fo : Es → Int → Bool) (k n : Int) (s : ByteArray) (xb : Bool) (eb : Es) (xf : Bool) (ef : Es) (xl : Bool) (el : Es) (dp : Int) (x6 : Bool) (e6 : List (List D)) (n7 : Int) (kh : Nat) : St := ⟨envOf 163 [(1, D.int .i64 dp), (2, D.sptr (valk.val k n s xb eb xf ef xl el)), (6, D.slice x6 e6 (some 0)), (7, D.int .i64 n7)], [some (HObj.tok kh (7 : Nat))]⟩
def own_at0 (br : Bool → Bool → Bool → Bool → Bool → Cs → Bool) (u8 : ByteArray → Bool) (nmE : Int → Int → Es) (dg : Int → ByteArray) (fx : Es → Int → Bool) (fe : Es → Int → Es) (fo : Es → Int → Bool) (k n : Int) (s : ByteArray) (xb : Bool) (eb : Es) (xf : Bool) (ef : Es) (xl : Bool) (el : Es) (dp : Int) (x6 : Bool) (e6 : List (List D)) (n7 : Int) (kh : Nat) (r : D) (H1 : GD.Heap) : Prop := GD.Fin Tryd.prog (tyOf Tryd.prog) (fnAt P 45) 0 (.code (.loop own_l0)) own_k0 (own_s0 br u8 nmE dg fx fe fo k n s xb eb xf ef xl el dp x6 e6 n7 kh) r H1

theorem own_in_0 {br : Bool → Bool → Bool → Bool → Bool → Cs → Bool} {u8 : ByteArray → Bool} {nmE : Int → Int → Es} {dg : Int → ByteArray} {fx : Es → Int → Bool} {fe : Es → Int → Es} {fo : Es → Int → Bool} {k n : Int} {s : ByteArray} {xb : Bool} {eb : Es} {xf : Bool} {ef : Es} {xl : Bool} {el : Es} {dp : Int} (h0 : k = (1 : Int)) (h1 : Ret P T 53 [D.agg (valk.val k n s xb eb xf ef xl el), D.bool false, D.bool false, D.bool false, D.bool false, D.bool false] [] (D.bool (br false false false false false (valk.val k n s xb eb xf ef xl el))) []) : Ret P T 45 [D.agg (valk.val k n s xb eb xf ef xl el), D.int .i64 dp] [] (D.tuple [D.slice false [] none, D.bool (br false false false false false (valk.val k n s xb eb xf ef xl el))]) [] :=
  have bq0 := beq_iff_eq.2 h0
  fin_call own_fn own_body own_name (fr 45 0 (own_ok br u8 nmE dg fx fe fo k n s xb eb xf ef xl el dp 0 0 bE false [] false [] false []) (pth 2 3) (ac h1 (ac bq0 (ac bq0 an))))

theorem own_in_1 {br : Bool → Bool → Bool → Bool → Bool → Cs → Bool} {u8 : ByteArray → Bool} {nmE : Int → Int → Es} {dg : Int → ByteArray} {fx : Es → Int → Bool} {fe : Es → Int → Es} {fo : Es → Int → Bool} {k n : Int} {s : ByteArray} {xb : Bool} {eb : Es} {xf : Bool} {ef : Es} {xl : Bool} {el : Es} {dp : Int} (h0 : k ≠ (1 : Int)) (h1 : k = (2 : Int)) (h2 : Ret P T 53 [D.agg (valk.val k n s xb eb xf ef xl el), D.bool false, D.bool false, D.bool false, D.bool false, D.bool false] [] (D.bool (br false false false false false (valk.val k n s xb eb xf ef xl el))) []) : Ret P T 45 [D.agg (valk.val k n s xb eb xf ef xl el), D.int .i64 dp] [] (D.tuple [D.slice false [] none, D.bool (br false false false false false (valk.val k n s xb eb xf ef xl el))]) [] :=
  have bq0 := beq_eq_false_iff_ne.2 h0
  have bq1 := beq_iff_eq.2 h1
  fin_call own_fn own_body own_name (fr 45 0 (own_ok br u8 nmE dg fx fe fo k n s xb eb xf ef xl el dp 0 0 bE false [] false [] false []) (pth 3 6) (ac h2 (ac bq1 (ac bq1 (ac bq0 an)))))

theorem own_in_2 {br : Bool → Bool → Bool → Bool → Bool → Cs → Bool} {u8 : ByteArray → Bool} {nmE : Int → Int → Es} {dg : Int → ByteArray} {fx : Es → Int → Bool} {fe : Es → Int → Es} {fo : Es → Int → Bool} {k n : Int} {s : ByteArray} {xb : Bool} {eb : Es} {xf : Bool} {ef : Es} {xl : Bool} {el : Es} {dp : Int} (h0 : k ≠ (1 : Int)) (h1 : k ≠ (2 : Int)) (h2 : k = (12 : Int)) (h3 : Ret P T 53 [D.agg (valk.val k n s xb eb xf ef xl el), D.bool false, D.bool false, D.bool false, D.bool false, D.bool false] [] (D.bool (br false false false false false (valk.val k n s xb eb xf ef xl el))) []) : Ret P T 45 [D.agg (valk.val k n s xb eb xf ef xl el), D.int .i64 dp] [] (D.tuple [D.slice false [] none, D.bool (br false false false false false (valk.val k n s xb eb xf ef xl el))]) [] :=
  have bq0 := beq_eq_false_iff_ne.2 h0
  have bq1 := beq_eq_false_iff_ne.2 h1
  have bq2 := beq_iff_eq.2 h2
  fin_call own_fn own_body own_name (fr 45 0 (own_ok br u8 nmE dg fx fe fo k n s xb eb xf ef xl el dp 0 0 bE false [] false [] false []) (pth 3 4) (ac h3 (ac bq2 (ac bq1 (ac bq0 an)))))

theorem own_in_3 {br : Bool → Bool → Bool → Bool → Bool → Cs → Bool} {u8 : ByteArray → Bool} {nmE : Int → Int → Es} {dg : Int → ByteArray} {fx : Es → Int → Bool} {fe : Es → Int → Es} {fo : Es → Int → Bool} {k n : Int} {s : ByteArray} {xb : Bool} {eb : Es} {xf : Bool} {ef : Es} {xl : Bool} {el : Es} {dp : Int} (h0 : k ≠ (1 : Int)) (h1 : k ≠ (2 : Int)) (h2 : k ≠ (12 : Int)) (h3 : k = (3 : Int)) (h4 : br true false false false false (valk.val k n s xb eb xf ef xl el) = true) (h5 : n ≥ (-2147483648 : Int)) (h6 : Ret P T 53 [D.agg (valk.val k n s xb eb xf ef xl el), D.bool true, D.bool false, D.bool false, D.bool false, D.bool false] [] (D.bool (br true false false false false (valk.val k n s xb eb xf ef xl el))) []) (h7 : Ret P T 54 [D.int .i64 n, D.int .i64 (4 : Int)] [] (D.slice true (nmE n (4 : Int)) (some 0)) [some (HObj.tok (4 : Nat) (1 : Nat))]) : Ret P T 45 [D.agg (valk.val k n s xb eb xf ef xl el), D.int .i64 dp] [] (D.tuple [D.slice true (nmE n (4 : Int)) (some 4), D.bool (decide (n < (2147483648 : Int)))]) [none, none, none, none, some (HObj.tok (4 : Nat) (1 : Nat))] :=
  have bq0 := beq_eq_false_iff_ne.2 h0
  have bq1 := beq_eq_false_iff_ne.2 h1
  have bq2 := beq_eq_false_iff_ne.2 h2
  have bq3 := beq_iff_eq.2 h3
  have bq4 := h4
  have bq5 := decide_eq_true h5
  fin_call own_fn own_body own_name (fr 45 5 (own_ok br u8 nmE dg fx fe fo k n s xb eb xf ef xl el dp 0 0 bE false [] false [] false []) (pth 12 4088) (ac bq5 (ac (ktt bq5) (ac (ktt bq5) (ac (ktt bq5) (ac bq4 (ac (ktt bq4) (ac (ktt bq4) (ac (ktt bq4) (ac h6 (ac h7 (ac bq3 (ac bq2 (ac bq1 (ac bq0 an)))))))))))))))

theorem own_in_4 {br : Bool → Bool → Bool → Bool → Bool → Cs → Bool} {u8 : ByteArray → Bool} {nmE : Int → Int → Es} {dg : Int → ByteArray} {fx : Es → Int → Bool} {fe : Es → Int → Es} {fo : Es → Int → Bool} {k n : Int} {s : ByteArray} {xb : Bool} {eb : Es} {xf : Bool} {ef : Es} {xl : Bool} {el : Es} {dp : Int} (h0 : k ≠ (1 : Int)) (h1 : k ≠ (2 : Int)) (h2 : k ≠ (12 : Int)) (h3 : k = (3 : Int)) (h4 : br true false false false false (valk.val k n s xb eb xf ef xl el) = true) (h5 : ¬ (n ≥ (-2147483648 : Int))) (h6 : Ret P T 53 [D.agg (valk.val k n s xb eb xf ef xl el), D.bool true, D.bool false, D.bool false, D.bool false, D.bool false] [] (D.bool (br true false false false false (valk.val k n s xb eb xf ef xl el))) []) (h7 : Ret P T 54 [D.int .i64 n, D.int .i64 (4 : Int)] [] (D.slice true (nmE n (4 : Int)) (some 0)) [some (HObj.tok (4 : Nat) (1 : Nat))]) : Ret P T 45 [D.agg (valk.val k n s xb eb xf ef xl el), D.int .i64 dp] [] (D.tuple [D.slice true (nmE n (4 : Int)) (some 4), D.bool false]) [none, none, none, none, some (HObj.tok (4 : Nat) (1 : Nat))] :=
  have bq0 := beq_eq_false_iff_ne.2 h0
  have bq1 := beq_eq_false_iff_ne.2 h1
  have bq2 := beq_eq_false_iff_ne.2 h2
  have bq3 := beq_iff_eq.2 h3
  have bq4 := h4
  have bq5 := decide_eq_false h5
  fin_call own_fn own_body own_name (fr 45 5 (own_ok br u8 nmE dg fx fe fo k n s xb eb xf ef xl el dp 0 0 bE false [] false [] false []) (pth 12 248) (ac bq5 (ac (kft bq5) (ac (kft bq5) (ac (kft bq5) (ac bq4 (ac (ktt bq4) (ac (ktt bq4) (ac (ktt bq4) (ac h6 (ac h7 (ac bq3 (ac bq2 (ac bq1 (ac bq0 an)))))))))))))))

theorem own_in_5 {br : Bool → Bool → Bool → Bool → Bool → Cs → Bool} {u8 : ByteArray → Bool} {nmE : Int → Int → Es} {dg : Int → ByteArray} {fx : Es → Int → Bool} {fe : Es → Int → Es} {fo : Es → Int → Bool} {k n : Int} {s : ByteArray} {xb : Bool} {eb : Es} {xf : Bool} {ef : Es} {xl : Bool} {el : Es} {dp : Int} (h0 : k ≠ (1 : Int)) (h1 : k ≠ (2 : Int)) (h2 : k ≠ (12 : Int)) (h3 : k = (3 : Int)) (h4 : br true false false false false (valk.val k n s xb eb xf ef xl el) = false) (h5 : Ret P T 53 [D.agg (valk.val k n s xb eb xf ef xl el), D.bool true, D.bool false, D.bool false, D.bool false, D.bool false] [] (D.bool (br true false false false false (valk.val k n s xb eb xf ef xl el))) []) (h6 : Ret P T 54 [D.int .i64 n, D.int .i64 (4 : Int)] [] (D.slice true (nmE n (4 : Int)) (some 0)) [some (HObj.tok (4 : Nat) (1 : Nat))]) : Ret P T 45 [D.agg (valk.val k n s xb eb xf ef xl el), D.int .i64 dp] [] (D.tuple [D.slice true (nmE n (4 : Int)) (some 4), D.bool false]) [none, none, none, none, some (HObj.tok (4 : Nat) (1 : Nat))] :=
  have bq0 := beq_eq_false_iff_ne.2 h0
  have bq1 := beq_eq_false_iff_ne.2 h1
  have bq2 := beq_eq_false_iff_ne.2 h2
  have bq3 := beq_iff_eq.2 h3
  have bq4 := h4
  fin_call own_fn own_body own_name (fr 45 5 (own_ok br u8 nmE dg fx fe fo k n s xb eb xf ef xl el dp 0 0 bE false [] false [] false []) (pth 12 8) (ac (show false = false from rfl) (ac (show false = false from rfl) (ac (show false = false from rfl) (ac (show false = false from rfl) (ac bq4 (ac (kft bq4) (ac (kft bq4) (ac (kft bq4) (ac h5 (ac h6 (ac bq3 (ac bq2 (ac bq1 (ac bq0 an)))))))))))))))

theorem own_in_6 {br : Bool → Bool → Bool → Bool → Bool → Cs → Bool} {u8 : ByteArray → Bool} {nmE : Int → Int → Es} {dg : Int → ByteArray} {fx : Es → Int → Bool} {fe : Es → Int → Es} {fo : Es → Int → Bool} {k n : Int} {s : ByteArray} {xb : Bool} {eb : Es} {xf : Bool} {ef : Es} {xl : Bool} {el : Es} {dp : Int} (h0 : k ≠ (1 : Int)) (h1 : k ≠ (2 : Int)) (h2 : k ≠ (12 : Int)) (h3 : k ≠ (3 : Int)) (h4 : k = (4 : Int)) (h5 : Ret P T 53 [D.agg (valk.val k n s xb eb xf ef xl el), D.bool true, D.bool false, D.bool false, D.bool false, D.bool false] [] (D.bool (br true false false false false (valk.val k n s xb eb xf ef xl el))) []) (h6 : Ret P T 54 [D.int .i64 n, D.int .i64 (8 : Int)] [] (D.slice true (nmE n (8 : Int)) (some 0)) [some (HObj.tok (8 : Nat) (1 : Nat))]) : Ret P T 45 [D.agg (valk.val k n s xb eb xf ef xl el), D.int .i64 dp] [] (D.tuple [D.slice true (nmE n (8 : Int)) (some 4), D.bool (br true false false false false (valk.val k n s xb eb xf ef xl el))]) [none, none, none, none, some (HObj.tok (8 : Nat) (1 : Nat))] :=
  have bq0 := beq_eq_false_iff_ne.2 h0
  have bq1 := beq_eq_false_iff_ne.2 h1
  have bq2 := beq_eq_false_iff_ne.2 h2
  have bq3 := beq_eq_false_iff_ne.2 h3
  have bq4 := beq_iff_eq.2 h4
  fin_call own_fn own_body own_name (fr 45 5 (own_ok br u8 nmE dg fx fe fo k n s xb eb xf ef xl el dp 0 0 bE false [] false [] false []) (pth 6 48) (ac h5 (ac h6 (ac bq4 (ac bq4 (ac bq3 (ac bq2 (ac bq1 (ac bq0 an)))))))))

theorem own_in_7 {br : Bool → Bool → Bool → Bool → Bool → Cs → Bool} {u8 : ByteArray → Bool} {nmE : Int → Int → Es} {dg : Int → ByteArray} {fx : Es → Int → Bool} {fe : Es → Int → Es} {fo : Es → Int → Bool} {k n : Int} {s : ByteArray} {xb : Bool} {eb : Es} {xf : Bool} {ef : Es} {xl : Bool} {el : Es} {dp : Int} (h0 : k ≠ (1 : Int)) (h1 : k ≠ (2 : Int)) (h2 : k ≠ (12 : Int)) (h3 : k ≠ (3 : Int)) (h4 : k ≠ (4 : Int)) (h5 : k = (11 : Int)) (h6 : Ret P T 53 [D.agg (valk.val k n s xb eb xf ef xl el), D.bool true, D.bool false, D.bool false, D.bool false, D.bool false] [] (D.bool (br true false false false false (valk.val k n s xb eb xf ef xl el))) []) (h7 : Ret P T 54 [D.int .i64 n, D.int .i64 (8 : Int)] [] (D.slice true (nmE n (8 : Int)) (some 0)) [some (HObj.tok (8 : Nat) (1 : Nat))]) : Ret P T 45 [D.agg (valk.val k n s xb eb xf ef xl el), D.int .i64 dp] [] (D.tuple [D.slice true (nmE n (8 : Int)) (some 4), D.bool (br true false false false false (valk.val k n s xb eb xf ef xl el))]) [none, none, none, none, some (HObj.tok (8 : Nat) (1 : Nat))] :=
  have bq0 := beq_eq_false_iff_ne.2 h0
  have bq1 := beq_eq_false_iff_ne.2 h1
  have bq2 := beq_eq_false_iff_ne.2 h2
  have bq3 := beq_eq_false_iff_ne.2 h3
  have bq4 := beq_eq_false_iff_ne.2 h4
  have bq5 := beq_iff_eq.2 h5
  fin_call own_fn own_body own_name (fr 45 5 (own_ok br u8 nmE dg fx fe fo k n s xb eb xf ef xl el dp 0 0 bE false [] false [] false []) (pth 6 32) (ac h6 (ac h7 (ac bq5 (ac bq4 (ac bq3 (ac bq2 (ac bq1 (ac bq0 an)))))))))

theorem own_in_8 {br : Bool → Bool → Bool → Bool → Bool → Cs → Bool} {u8 : ByteArray → Bool} {nmE : Int → Int → Es} {dg : Int → ByteArray} {fx : Es → Int → Bool} {fe : Es → Int → Es} {fo : Es → Int → Bool} {k n : Int} {s : ByteArray} {xb : Bool} {eb : Es} {xf : Bool} {ef : Es} {xl : Bool} {el : Es} {dp : Int} (h0 : k ≠ (1 : Int)) (h1 : k ≠ (2 : Int)) (h2 : k ≠ (12 : Int)) (h3 : k ≠ (3 : Int)) (h4 : k ≠ (4 : Int)) (h5 : k ≠ (11 : Int)) (h6 : k = (10 : Int)) (h7 : br true false false false false (valk.val k n s xb eb xf ef xl el) = true) (h8 : n = (0 : Int)) (h9 : Ret P T 53 [D.agg (valk.val k n s xb eb xf ef xl el), D.bool true, D.bool false, D.bool false, D.bool false, D.bool false] [] (D.bool (br true false false false false (valk.val k n s xb eb xf ef xl el))) []) (h10 : Ret P T 54 [D.int .i64 n, D.int .i64 (1 : Int)] [] (D.slice true (nmE n (1 : Int)) (some 0)) [some (HObj.tok (1 : Nat) (1 : Nat))]) : Ret P T 45 [D.agg (valk.val k n s xb eb xf ef xl el), D.int .i64 dp] [] (D.tuple [D.slice true (nmE n (1 : Int)) (some 4), D.bool true]) [none, none, none, none, some (HObj.tok (1 : Nat) (1 : Nat))] :=
  have bq0 := beq_eq_false_iff_ne.2 h0
  have bq1 := beq_eq_false_iff_ne.2 h1
  have bq2 := beq_eq_false_iff_ne.2 h2
  have bq3 := beq_eq_false_iff_ne.2 h3
  have bq4 := beq_eq_false_iff_ne.2 h4
  have bq5 := beq_eq_false_iff_ne.2 h5
  have bq6 := beq_iff_eq.2 h6
  have bq7 := h7
  have bq8 := beq_iff_eq.2 h8
  fin_call own_fn own_body own_name (fr 45 5 (own_ok br u8 nmE dg fx fe fo k n s xb eb xf ef xl el dp 0 0 bE false [] false [] false []) (pth 17 116672) (ac bq7 (ac bq8 (ac (ktt bq7) (ac (ktf bq8) (ac (ktf bq8) (ac (ktf bq8) (ac (ktt bq7) (ac (ktt bq7) (ac (ktt bq7) (ac (ktt bq7) (ac h9 (ac h10 (ac bq6 (ac bq5 (ac bq4 (ac bq3 (ac bq2 (ac bq1 (ac bq0 an))))))))))))))))))))

theorem own_in_9 {br : Bool → Bool → Bool → Bool → Bool → Cs → Bool} {u8 : ByteArray → Bool} {nmE : Int → Int → Es} {dg : Int → ByteArray} {fx : Es → Int → Bool} {fe : Es → Int → Es} {fo : Es → Int → Bool} {k n : Int} {s : ByteArray} {xb : Bool} {eb : Es} {xf : Bool} {ef : Es} {xl : Bool} {el : Es} {dp : Int} (h0 : k ≠ (1 : Int)) (h1 : k ≠ (2 : Int)) (h2 : k ≠ (12 : Int)) (h3 : k ≠ (3 : Int)) (h4 : k ≠ (4 : Int)) (h5 : k ≠ (11 : Int)) (h6 : k = (10 : Int)) (h7 : br true false false false false (valk.val k n s xb eb xf ef xl el) = true) (h8 : n ≠ (0 : Int)) (h9 : Ret P T 53 [D.agg (valk.val k n s xb eb xf ef xl el), D.bool true, D.bool false, D.bool false, D.bool false, D.bool false] [] (D.bool (br true false false false false (valk.val k n s xb eb xf ef xl el))) []) (h10 : Ret P T 54 [D.int .i64 n, D.int .i64 (1 : Int)] [] (D.slice true (nmE n (1 : Int)) (some 0)) [some (HObj.tok (1 : Nat) (1 : Nat))]) : Ret P T 45 [D.agg (valk.val k n s xb eb xf ef xl el), D.int .i64 dp] [] (D.tuple [D.slice true (nmE n (1 : Int)) (some 4), D.bool (n == (1 : Int))]) [none, none, none, none, some (HObj.tok (1 : Nat) (1 : Nat))] :=
  have bq0 := beq_eq_false_iff_ne.2 h0
  have bq1 := beq_eq_false_iff_ne.2 h1
  have bq2 := beq_eq_false_iff_ne.2 h2
  have bq3 := beq_eq_false_iff_ne.2 h3
  have bq4 := beq_eq_false_iff_ne.2 h4
  have bq5 := beq_eq_false_iff_ne.2 h5
  have bq6 := beq_iff_eq.2 h6
  have bq7 := h7
  have bq8 := beq_eq_false_iff_ne.2 h8
  fin_call own_fn own_body own_name (fr 45 5 (own_ok br u8 nmE dg fx fe fo k n s xb eb xf ef xl el dp 0 0 bE false [] false [] false []) (pth 17 98240) (ac bq7 (ac bq8 (ac (ktt bq7) (ac (kff bq8) (ac (kff bq8) (ac (kff bq8) (ac (ktt bq7) (ac (ktt bq7) (ac (ktt bq7) (ac (ktt bq7) (ac h9 (ac h10 (ac bq6 (ac bq5 (ac bq4 (ac bq3 (ac bq2 (ac bq1 (ac bq0 an))))))))))))))))))))

theorem own_in_10 {br : Bool → Bool → Bool → Bool → Bool → Cs → Bool} {u8 : ByteArray → Bool} {nmE : Int → Int → Es} {dg : Int → ByteArray} {fx : Es → Int → Bool} {fe : Es → Int → Es} {fo : Es → Int → Bool} {k n : Int} {s : ByteArray} {xb : Bool} {eb : Es} {xf : Bool} {ef : Es} {xl : Bool} {el : Es} {dp : Int} (h0 : k ≠ (1 : Int)) (h1 : k ≠ (2 : Int)) (h2 : k ≠ (12 : Int)) (h3 : k ≠ (3 : Int)) (h4 : k ≠ (4 : Int)) (h5 : k ≠ (11 : Int)) (h6 : k = (10 : Int)) (h7 : br true false false false false (valk.val k n s xb eb xf ef xl el) = false) (h8 : Ret P T 53 [D.agg (valk.val k n s xb eb xf ef xl el), D.bool true, D.bool false, D.bool false, D.bool false, D.bool false] [] (D.bool (br true false false false false (valk.val k n s xb eb xf ef xl el))) []) (h9 : Ret P T 54 [D.int .i64 n, D.int .i64 (1 : Int)] [] (D.slice true (nmE n (1 : Int)) (some 0)) [some (HObj.tok (1 : Nat) (1 : Nat))]) : Ret P T 45 [D.agg (valk.val k n s xb eb xf ef xl el), D.int .i64 dp] [] (D.tuple [D.slice true (nmE n (1 : Int)) (some 4), D.bool false]) [none, none, none, none, some (HObj.tok (1 : Nat) (1 : Nat))] :=
  have bq0 := beq_eq_false_iff_ne.2 h0
  have bq1 := beq_eq_false_iff_ne.2 h1
  have bq2 := beq_eq_false_iff_ne.2 h2
  have bq3 := beq_eq_false_iff_ne.2 h3
  have bq4 := beq_eq_false_iff_ne.2 h4
  have bq5 := beq_eq_false_iff_ne.2 h5
  have bq6 := beq_iff_eq.2 h6
  have bq7 := h7
  fin_call own_fn own_body own_name (fr 45 5 (own_ok br u8 nmE dg fx fe fo k n s xb eb xf ef xl el dp 0 0 bE false [] false [] false []) (pth 13 64) (ac bq7 (ac (kft bq7) (ac (kft bq7) (ac (kft bq7) (ac (kft bq7) (ac (kft bq7) (ac h8 (ac h9 (ac bq6 (ac bq5 (ac bq4 (ac bq3 (ac bq2 (ac bq1 (ac bq0 an))))))))))))))))

theorem own_in_11 {br : Bool → Bool → Bool → Bool → Bool → Cs → Bool} {u8 : ByteArray → Bool} {nmE : Int → Int → Es} {dg : Int → ByteArray} {fx : Es → Int → Bool} {fe : Es → Int → Es} {fo : Es → Int → Bool} {k n : Int} {s : ByteArray} {xb : Bool} {eb : Es} {xf : Bool} {ef : Es} {xl : Bool} {el : Es} {dp : Int} (h0 : k ≠ (1 : Int)) (h1 : k ≠ (2 : Int)) (h2 : k ≠ (12 : Int)) (h3 : k ≠ (3 : Int)) (h4 : k ≠ (4 : Int)) (h5 : k ≠ (11 : Int)) (h6 : k ≠ (10 : Int)) (h7 : k = (5 : Int)) (h8 : (↑s.size : Int) > (65536 : Int)) : Ret P T 45 [D.agg (valk.val k n s xb eb xf ef xl el), D.int .i64 dp] [] (D.tuple [D.slice false [] none, D.bool false]) [] :=
  have bq0 := beq_eq_false_iff_ne.2 h0
  have bq1 := beq_eq_false_iff_ne.2 h1
  have bq2 := beq_eq_false_iff_ne.2 h2
  have bq3 := beq_eq_false_iff_ne.2 h3
  have bq4 := beq_eq_false_iff_ne.2 h4
  have bq5 := beq_eq_false_iff_ne.2 h5
  have bq6 := beq_eq_false_iff_ne.2 h6
  have bq7 := beq_iff_eq.2 h7
  have bq8 := decide_eq_true h8
  fin_call own_fn own_body own_name (fr 45 0 (own_ok br u8 nmE dg fx fe fo k n s xb eb xf ef xl el dp 0 0 bE false [] false [] false []) (pth 9 384) (ac bq8 (ac bq7 (ac bq6 (ac bq5 (ac bq4 (ac bq3 (ac bq2 (ac bq1 (ac bq0 an))))))))))

theorem own_in_12 {br : Bool → Bool → Bool → Bool → Bool → Cs → Bool} {u8 : ByteArray → Bool} {nmE : Int → Int → Es} {dg : Int → ByteArray} {fx : Es → Int → Bool} {fe : Es → Int → Es} {fo : Es → Int → Bool} {k n : Int} {s : ByteArray} {xb : Bool} {eb : Es} {xf : Bool} {ef : Es} {xl : Bool} {el : Es} {dp : Int} (h0 : k ≠ (1 : Int)) (h1 : k ≠ (2 : Int)) (h2 : k ≠ (12 : Int)) (h3 : k ≠ (3 : Int)) (h4 : k ≠ (4 : Int)) (h5 : k ≠ (11 : Int)) (h6 : k ≠ (10 : Int)) (h7 : k = (5 : Int)) (h8 : ¬ ((↑s.size : Int) > (65536 : Int))) (h9 : br false true false false false (valk.val k n s xb eb xf ef xl el) = true) (h10 : Ret P T 31 [D.str s] [] (D.bool (u8 s)) []) (h11 : Ret P T 53 [D.agg (valk.val k n s xb eb xf ef xl el), D.bool false, D.bool true, D.bool false, D.bool false, D.bool false] [] (D.bool (br false true false false false (valk.val k n s xb eb xf ef xl el))) []) (h12 : (nmE (IntKind.i64.wrap ((↑s.size : Int) + (1 : Int))) (4 : Int) ++ List.map byteC s.data.toList).length = (4 : Nat) + (List.map byteC s.data.toList).length ∧ ((nmE (IntKind.i64.wrap ((↑s.size : Int) + (1 : Int))) (4 : Int) ++ List.map byteC s.data.toList).length + (1 : Nat)) * (1 : Nat) ≤ (140737488355328 : Nat) ∧ true = true) (h13 : List.length (nmE (IntKind.i64.wrap ((↑s.size : Int) + (1 : Int))) (4 : Int)) = (4 : Nat) ∧ (List.length (nmE (IntKind.i64.wrap ((↑s.size : Int) + (1 : Int))) (4 : Int)) + (List.map byteC s.data.toList).length) * (1 : Nat) ≤ (140737488355328 : Nat) ∧ ((List.map byteC s.data.toList).all fun c => c.length == (1 : Nat)) = true) (h14 : Ret P T 54 [D.int .i64 (IntKind.i64.wrap ((↑s.size : Int) + (1 : Int))), D.int .i64 (4 : Int)] [] (D.slice true (nmE (IntKind.i64.wrap ((↑s.size : Int) + (1 : Int))) (4 : Int)) (some 0)) [some (HObj.tok (4 : Nat) (1 : Nat))]) : Ret P T 45 [D.agg (valk.val k n s xb eb xf ef xl el), D.int .i64 dp] [] (D.tuple [D.slice true (nmE (IntKind.i64.wrap ((↑s.size : Int) + (1 : Int))) (4 : Int) ++ List.map byteC s.data.toList ++ [[D.int .u8 (0 : Int)]]) (some 8), D.bool (u8 s)]) [none, none, none, none, none, none, none, none, some (HObj.tok ((4 : Nat) + (List.map byteC s.data.toList).length + (1 : Nat)) (1 : Nat))] :=
  have bq0 := beq_eq_false_iff_ne.2 h0
  have bq1 := beq_eq_false_iff_ne.2 h1
  have bq2 := beq_eq_false_iff_ne.2 h2
  have bq3 := beq_eq_false_iff_ne.2 h3
  have bq4 := beq_eq_false_iff_ne.2 h4
  have bq5 := beq_eq_false_iff_ne.2 h5
  have bq6 := beq_eq_false_iff_ne.2 h6
  have bq7 := beq_iff_eq.2 h7
  have bq8 := decide_eq_false h8
  have bq9 := h9
  fin_call own_fn own_body own_name (fr 45 9 (own_ok br u8 nmE dg fx fe fo k n s xb eb xf ef xl el dp 0 0 bE false [] false [] false []) (pth 13 7808) (ac bq9 (ac h10 (ac (ktt bq9) (ac (ktt bq9) (ac (ktt bq9) (ac h11 (ac h12 (ac h13 (ac h14 (ac bq8 (ac bq7 (ac bq6 (ac bq5 (ac bq4 (ac bq3 (ac bq2 (ac bq1 (ac bq0 an)))))))))))))))))))

theorem own_in_13 {br : Bool → Bool → Bool → Bool → Bool → Cs → Bool} {u8 : ByteArray → Bool} {nmE : Int → Int → Es} {dg : Int → ByteArray} {fx : Es → Int → Bool} {fe : Es → Int → Es} {fo : Es → Int → Bool} {k n : Int} {s : ByteArray} {xb : Bool} {eb : Es} {xf : Bool} {ef : Es} {xl : Bool} {el : Es} {dp : Int} (h0 : k ≠ (1 : Int)) (h1 : k ≠ (2 : Int)) (h2 : k ≠ (12 : Int)) (h3 : k ≠ (3 : Int)) (h4 : k ≠ (4 : Int)) (h5 : k ≠ (11 : Int)) (h6 : k ≠ (10 : Int)) (h7 : k = (5 : Int)) (h8 : ¬ ((↑s.size : Int) > (65536 : Int))) (h9 : br false true false false false (valk.val k n s xb eb xf ef xl el) = false) (h10 : Ret P T 53 [D.agg (valk.val k n s xb eb xf ef xl el), D.bool false, D.bool true, D.bool false, D.bool false, D.bool false] [] (D.bool (br false true false false false (valk.val k n s xb eb xf ef xl el))) []) (h11 : (nmE (IntKind.i64.wrap ((↑s.size : Int) + (1 : Int))) (4 : Int) ++ List.map byteC s.data.toList).length = (4 : Nat) + (List.map byteC s.data.toList).length ∧ ((nmE (IntKind.i64.wrap ((↑s.size : Int) + (1 : Int))) (4 : Int) ++ List.map byteC s.data.toList).length + (1 : Nat)) * (1 : Nat) ≤ (140737488355328 : Nat) ∧ true = true) (h12 : List.length (nmE (IntKind.i64.wrap ((↑s.size : Int) + (1 : Int))) (4 : Int)) = (4 : Nat) ∧ (List.length (nmE (IntKind.i64.wrap ((↑s.size : Int) + (1 : Int))) (4 : Int)) + (List.map byteC s.data.toList).length) * (1 : Nat) ≤ (140737488355328 : Nat) ∧ ((List.map byteC s.data.toList).all fun c => c.length == (1 : Nat)) = true) (h13 : Ret P T 54 [D.int .i64 (IntKind.i64.wrap ((↑s.size : Int) + (1 : Int))), D.int .i64 (4 : Int)] [] (D.slice true (nmE (IntKind.i64.wrap ((↑s.size : Int) + (1 : Int))) (4 : Int)) (some 0)) [some (HObj.tok (4 : Nat) (1 : Nat))]) : Ret P T 45 [D.agg (valk.val k n s xb eb xf ef xl el), D.int .i64 dp] [] (D.tuple [D.slice true (nmE (IntKind.i64.wrap ((↑s.size : Int) + (1 : Int))) (4 : Int) ++ List.map byteC s.data.toList ++ [[D.int .u8 (0 : Int)]]) (some 8), D.bool false]) [none, none, none, none, none, none, none, none, some (HObj.tok ((4 : Nat) + (List.map byteC s.data.toList).length + (1 : Nat)) (1 : Nat))] :=
  have bq0 := beq_eq_false_iff_ne.2 h0
  have bq1 := beq_eq_false_iff_ne.2 h1
  have bq2 := beq_eq_false_iff_ne.2 h2
  have bq3 := beq_eq_false_iff_ne.2 h3
  have bq4 := beq_eq_false_iff_ne.2 h4
  have bq5 := beq_eq_false_iff_ne.2 h5
  have bq6 := beq_eq_false_iff_ne.2 h6
  have bq7 := beq_iff_eq.2 h7
  have bq8 := decide_eq_false h8
  have bq9 := h9
  fin_call own_fn own_body own_name (fr 45 9 (own_ok br u8 nmE dg fx fe fo k n s xb eb xf ef xl el dp 0 0 bE false [] false [] false []) (pth 13 128) (ac bq9 (ac (kft bq9) (ac (kft bq9) (ac (kft bq9) (ac h10 (ac h11 (ac h12 (ac h13 (ac bq8 (ac bq7 (ac bq6 (ac bq5 (ac bq4 (ac bq3 (ac bq2 (ac bq1 (ac bq0 an))))))))))))))))))

theorem own_in_14 {br : Bool → Bool → Bool → Bool → Bool → Cs → Bool} {u8 : ByteArray → Bool} {nmE : Int → Int → Es} {dg : Int → ByteArray} {fx : Es → Int → Bool} {fe : Es → Int → Es} {fo : Es → Int → Bool} {k n : Int} {s : ByteArray} {xb : Bool} {eb : Es} {xf : Bool} {ef : Es} {xl : Bool} {el : Es} {dp : Int} (h0 : k ≠ (1 : Int)) (h1 : k ≠ (2 : Int)) (h2 : k ≠ (12 : Int)) (h3 : k ≠ (3 : Int)) (h4 : k ≠ (4 : Int)) (h5 : k ≠ (11 : Int)) (h6 : k ≠ (10 : Int)) (h7 : k ≠ (5 : Int)) (h8 : k = (8 : Int)) (h9 : (↑(List.length eb) : Int) > (65536 : Int)) : Ret P T 45 [D.agg (valk.val k n s xb eb xf ef xl el), D.int .i64 dp] [] (D.tuple [D.slice false [] none, D.bool false]) [] :=
  have bq0 := beq_eq_false_iff_ne.2 h0
  have bq1 := beq_eq_false_iff_ne.2 h1
  have bq2 := beq_eq_false_iff_ne.2 h2
  have bq3 := beq_eq_false_iff_ne.2 h3
  have bq4 := beq_eq_false_iff_ne.2 h4
  have bq5 := beq_eq_false_iff_ne.2 h5
  have bq6 := beq_eq_false_iff_ne.2 h6
  have bq7 := beq_eq_false_iff_ne.2 h7
  have bq8 := beq_iff_eq.2 h8
  have bq9 := decide_eq_true h9
  fin_call own_fn own_body own_name (fr 45 0 (own_ok br u8 nmE dg fx fe fo k n s xb eb xf ef xl el dp 0 0 bE false [] false [] false []) (pth 10 768) (ac bq9 (ac bq8 (ac bq7 (ac bq6 (ac bq5 (ac bq4 (ac bq3 (ac bq2 (ac bq1 (ac bq0 an)))))))))))

theorem own_in_15 {br : Bool → Bool → Bool → Bool → Bool → Cs → Bool} {u8 : ByteArray → Bool} {nmE : Int → Int → Es} {dg : Int → ByteArray} {fx : Es → Int → Bool} {fe : Es → Int → Es} {fo : Es → Int → Bool} {k n : Int} {s : ByteArray} {xb : Bool} {eb : Es} {xf : Bool} {ef : Es} {xl : Bool} {el : Es} {dp : Int} (h0 : k ≠ (1 : Int)) (h1 : k ≠ (2 : Int)) (h2 : k ≠ (12 : Int)) (h3 : k ≠ (3 : Int)) (h4 : k ≠ (4 : Int)) (h5 : k ≠ (11 : Int)) (h6 : k ≠ (10 : Int)) (h7 : k ≠ (5 : Int)) (h8 : k = (8 : Int)) (h9 : ¬ ((↑(List.length eb) : Int) > (65536 : Int))) (h10 : Ret P T 53 [D.agg (valk.val k n s xb eb xf ef xl el), D.bool false, D.bool false, D.bool true, D.bool false, D.bool false] [] (D.bool (br false false true false false (valk.val k n s xb eb xf ef xl el))) []) (h11 : (nmE (↑(List.length eb) : Int) (4 : Int) ++ [[D.int .u8 (0 : Int)]]).length = (5 : Nat) ∧ ((nmE (↑(List.length eb) : Int) (4 : Int) ++ [[D.int .u8 (0 : Int)]]).length + List.length eb) * (1 : Nat) ≤ (140737488355328 : Nat) ∧ (List.all eb fun c => c.length == (1 : Nat)) = true) (h12 : List.length (nmE (↑(List.length eb) : Int) (4 : Int)) = (4 : Nat) ∧ (List.length (nmE (↑(List.length eb) : Int) (4 : Int)) + (1 : Nat)) * (1 : Nat) ≤ (140737488355328 : Nat) ∧ true = true) (h13 : Ret P T 54 [D.int .i64 (↑(List.length eb) : Int), D.int .i64 (4 : Int)] [] (D.slice true (nmE (↑(List.length eb) : Int) (4 : Int)) (some 0)) [some (HObj.tok (4 : Nat) (1 : Nat))]) : Ret P T 45 [D.agg (valk.val k n s xb eb xf ef xl el), D.int .i64 dp] [] (D.tuple [D.slice true (nmE (↑(List.length eb) : Int) (4 : Int) ++ [[D.int .u8 (0 : Int)]] ++ eb) (some 6), D.bool (br false false true false false (valk.val k n s xb eb xf ef xl el))]) [none, none, none, none, none, none, some (HObj.tok ((5 : Nat) + List.length eb) (1 : Nat))] :=
  have bq0 := beq_eq_false_iff_ne.2 h0
  have bq1 := beq_eq_false_iff_ne.2 h1
  have bq2 := beq_eq_false_iff_ne.2 h2
  have bq3 := beq_eq_false_iff_ne.2 h3
  have bq4 := beq_eq_false_iff_ne.2 h4
  have bq5 := beq_eq_false_iff_ne.2 h5
  have bq6 := beq_eq_false_iff_ne.2 h6
  have bq7 := beq_eq_false_iff_ne.2 h7
  have bq8 := beq_iff_eq.2 h8
  have bq9 := decide_eq_false h9
  fin_call own_fn own_body own_name (fr 45 7 (own_ok br u8 nmE dg fx fe fo k n s xb eb xf ef xl el dp 0 0 bE false [] false [] false []) (pth 10 256) (ac h10 (ac h11 (ac h12 (ac h13 (ac bq9 (ac bq8 (ac bq7 (ac bq6 (ac bq5 (ac bq4 (ac bq3 (ac bq2 (ac bq1 (ac bq0 an)))))))))))))))

theorem own_in_16 {br : Bool → Bool → Bool → Bool → Bool → Cs → Bool} {u8 : ByteArray → Bool} {nmE : Int → Int → Es} {dg : Int → ByteArray} {fx : Es → Int → Bool} {fe : Es → Int → Es} {fo : Es → Int → Bool} {k n : Int} {s : ByteArray} {xb : Bool} {eb : Es} {xf : Bool} {ef : Es} {xl : Bool} {el : Es} {dp : Int} (h0 : k ≠ (1 : Int)) (h1 : k ≠ (2 : Int)) (h2 : k ≠ (12 : Int)) (h3 : k ≠ (3 : Int)) (h4 : k ≠ (4 : Int)) (h5 : k ≠ (11 : Int)) (h6 : k ≠ (10 : Int)) (h7 : k ≠ (5 : Int)) (h8 : k ≠ (8 : Int)) (h9 : k = (9 : Int)) (h10 : br false false true false false (valk.val k n s xb eb xf ef xl el) = true) (h11 : Ret P T 53 [D.agg (valk.val k n s xb eb xf ef xl el), D.bool false, D.bool false, D.bool true, D.bool false, D.bool false] [] (D.bool (br false false true false false (valk.val k n s xb eb xf ef xl el))) []) : Ret P T 45 [D.agg (valk.val k n s xb eb xf ef xl el), D.int .i64 dp] [] (D.tuple [D.slice xb eb none, D.bool ((↑(List.length eb) : Int) == (12 : Int))]) [] :=
  have bq0 := beq_eq_false_iff_ne.2 h0
  have bq1 := beq_eq_false_iff_ne.2 h1
  have bq2 := beq_eq_false_iff_ne.2 h2
  have bq3 := beq_eq_false_iff_ne.2 h3
  have bq4 := beq_eq_false_iff_ne.2 h4
  have bq5 := beq_eq_false_iff_ne.2 h5
  have bq6 := beq_eq_false_iff_ne.2 h6
  have bq7 := beq_eq_false_iff_ne.2 h7
  have bq8 := beq_eq_false_iff_ne.2 h8
  have bq9 := beq_iff_eq.2 h9
  have bq10 := h10
  fin_call own_fn own_body own_name (fr 45 0 (own_ok br u8 nmE dg fx fe fo k n s xb eb xf ef xl el dp 0 0 bE false [] false [] false []) (pth 15 32256) (ac bq10 (ac (ktt bq10) (ac (ktt bq10) (ac (ktt bq10) (ac (ktt bq10) (ac h11 (ac bq9 (ac bq8 (ac bq7 (ac bq6 (ac bq5 (ac bq4 (ac bq3 (ac bq2 (ac bq1 (ac bq0 an)))))))))))))))))

theorem own_in_17 {br : Bool → Bool → Bool → Bool → Bool → Cs → Bool} {u8 : ByteArray → Bool} {nmE : Int → Int → Es} {dg : Int → ByteArray} {fx : Es → Int → Bool} {fe : Es → Int → Es} {fo : Es → Int → Bool} {k n : Int} {s : ByteArray} {xb : Bool} {eb : Es} {xf : Bool} {ef : Es} {xl : Bool} {el : Es} {dp : Int} (h0 : k ≠ (1 : Int)) (h1 : k ≠ (2 : Int)) (h2 : k ≠ (12 : Int)) (h3 : k ≠ (3 : Int)) (h4 : k ≠ (4 : Int)) (h5 : k ≠ (11 : Int)) (h6 : k ≠ (10 : Int)) (h7 : k ≠ (5 : Int)) (h8 : k ≠ (8 : Int)) (h9 : k = (9 : Int)) (h10 : br false false true false false (valk.val k n s xb eb xf ef xl el) = false) (h11 : Ret P T 53 [D.agg (valk.val k n s xb eb xf ef xl el), D.bool false, D.bool false, D.bool true, D.bool false, D.bool false] [] (D.bool (br false false true false false (valk.val k n s xb eb xf ef xl el))) []) : Ret P T 45 [D.agg (valk.val k n s xb eb xf ef xl el), D.int .i64 dp] [] (D.tuple [D.slice xb eb none, D.bool false]) [] :=
  have bq0 := beq_eq_false_iff_ne.2 h0
  have bq1 := beq_eq_false_iff_ne.2 h1
  have bq2 := beq_eq_false_iff_ne.2 h2
  have bq3 := beq_eq_false_iff_ne.2 h3
  have bq4 := beq_eq_false_iff_ne.2 h4
  have bq5 := beq_eq_false_iff_ne.2 h5
  have bq6 := beq_eq_false_iff_ne.2 h6
  have bq7 := beq_eq_false_iff_ne.2 h7
  have bq8 := beq_eq_false_iff_ne.2 h8
  have bq9 := beq_iff_eq.2 h9
  have bq10 := h10
  fin_call own_fn own_body own_name (fr 45 0 (own_ok br u8 nmE dg fx fe fo k n s xb eb xf ef xl el dp 0 0 bE false [] false [] false []) (pth 15 512) (ac bq10 (ac (kft bq10) (ac (kft bq10) (ac (kft bq10) (ac (kft bq10) (ac h11 (ac bq9 (ac bq8 (ac bq7 (ac bq6 (ac bq5 (ac bq4 (ac bq3 (ac bq2 (ac bq1 (ac bq0 an)))))))))))))))))

theorem own_in_18 {br : Bool → Bool → Bool → Bool → Bool → Cs → Bool} {u8 : ByteArray → Bool} {nmE : Int → Int → Es} {dg : Int → ByteArray} {fx : Es → Int → Bool} {fe : Es → Int → Es} {fo : Es → Int → Bool} {k n : Int} {s : ByteArray} {xb : Bool} {eb : Es} {xf : Bool} {ef : Es} {xl : Bool} {el : Es} {dp : Int} (h0 : k ≠ (1 : Int)) (h1 : k ≠ (2 : Int)) (h2 : k ≠ (12 : Int)) (h3 : k ≠ (3 : Int)) (h4 : k ≠ (4 : Int)) (h5 : k ≠ (11 : Int)) (h6 : k ≠ (10 : Int)) (h7 : k ≠ (5 : Int)) (h8 : k ≠ (8 : Int)) (h9 : k ≠ (9 : Int)) (h10 : k = (6 : Int)) (h11 : br false false false true false (valk.val k n s xb eb xf ef xl el) = true) (h12 : dp > (32 : Int)) (h13 : Ret P T 53 [D.agg (valk.val k n s xb eb xf ef xl el), D.bool false, D.bool false, D.bool false, D.bool true, D.bool false] [] (D.bool (br false false false true false (valk.val k n s xb eb xf ef xl el))) []) : Ret P T 45 [D.agg (valk.val k n s xb eb xf ef xl el), D.int .i64 dp] [] (D.tuple [D.slice false [] none, D.bool false]) [] :=
  have bq0 := beq_eq_false_iff_ne.2 h0
  have bq1 := beq_eq_false_iff_ne.2 h1
  have bq2 := beq_eq_false_iff_ne.2 h2
  have bq3 := beq_eq_false_iff_ne.2 h3
  have bq4 := beq_eq_false_iff_ne.2 h4
  have bq5 := beq_eq_false_iff_ne.2 h5
  have bq6 := beq_eq_false_iff_ne.2 h6
  have bq7 := beq_eq_false_iff_ne.2 h7
  have bq8 := beq_eq_false_iff_ne.2 h8
  have bq9 := beq_eq_false_iff_ne.2 h9
  have bq10 := beq_iff_eq.2 h10
  have bq11 := h11
  have bq12 := decide_eq_true h12
  fin_call own_fn own_body own_name (fr 45 0 (own_ok br u8 nmE dg fx fe fo k n s xb eb xf ef xl el dp 0 0 bE false [] false [] false []) (pth 15 23552) (ac bq12 (ac (nb0 bq11) (ac (kff (nb0 bq11)) (ac (kff (nb0 bq11)) (ac h13 (ac bq10 (ac bq9 (ac bq8 (ac bq7 (ac bq6 (ac bq5 (ac bq4 (ac bq3 (ac bq2 (ac bq1 (ac bq0 an)))))))))))))))))

theorem own_in_19 {br : Bool → Bool → Bool → Bool → Bool → Cs → Bool} {u8 : ByteArray → Bool} {nmE : Int → Int → Es} {dg : Int → ByteArray} {fx : Es → Int → Bool} {fe : Es → Int → Es} {fo : Es → Int → Bool} {k n : Int} {s : ByteArray} {xb : Bool} {eb : Es} {xf : Bool} {ef : Es} {xl : Bool} {el : Es} {dp : Int} (h0 : k ≠ (1 : Int)) (h1 : k ≠ (2 : Int)) (h2 : k ≠ (12 : Int)) (h3 : k ≠ (3 : Int)) (h4 : k ≠ (4 : Int)) (h5 : k ≠ (11 : Int)) (h6 : k ≠ (10 : Int)) (h7 : k ≠ (5 : Int)) (h8 : k ≠ (8 : Int)) (h9 : k ≠ (9 : Int)) (h10 : k = (6 : Int)) (h11 : br false false false true false (valk.val k n s xb eb xf ef xl el) = true) (h12 : ¬ (dp > (32 : Int))) (h13 : Ret P T 55 [D.slice xf ef none, D.int .i64 dp] [] (D.tuple [D.slice (fx ef dp) (fe ef dp) none, D.bool (fo ef dp)]) []) (h14 : Ret P T 53 [D.agg (valk.val k n s xb eb xf ef xl el), D.bool false, D.bool false, D.bool false, D.bool true, D.bool false] [] (D.bool (br false false false true false (valk.val k n s xb eb xf ef xl el))) []) : Ret P T 45 [D.agg (valk.val k n s xb eb xf ef xl el), D.int .i64 dp] [] (D.tuple [D.slice (fx ef dp) (fe ef dp) none, D.bool (fo ef dp)]) [] :=
  have bq0 := beq_eq_false_iff_ne.2 h0
  have bq1 := beq_eq_false_iff_ne.2 h1
  have bq2 := beq_eq_false_iff_ne.2 h2
  have bq3 := beq_eq_false_iff_ne.2 h3
  have bq4 := beq_eq_false_iff_ne.2 h4
  have bq5 := beq_eq_false_iff_ne.2 h5
  have bq6 := beq_eq_false_iff_ne.2 h6
  have bq7 := beq_eq_false_iff_ne.2 h7
  have bq8 := beq_eq_false_iff_ne.2 h8
  have bq9 := beq_eq_false_iff_ne.2 h9
  have bq10 := beq_iff_eq.2 h10
  have bq11 := h11
  have bq12 := decide_eq_false h12
  fin_call own_fn own_body own_name (fr 45 0 (own_ok br u8 nmE dg fx fe fo k n s xb eb xf ef xl el dp 0 0 bE false [] false [] false []) (pth 15 7168) (ac h13 (ac bq12 (ac (nb0 bq11) (ac (kff (nb0 bq11)) (ac (kff (nb0 bq11)) (ac h14 (ac bq10 (ac bq9 (ac bq8 (ac bq7 (ac bq6 (ac bq5 (ac bq4 (ac bq3 (ac bq2 (ac bq1 (ac bq0 an))))))))))))))))))

theorem own_in_20 {br : Bool → Bool → Bool → Bool → Bool → Cs → Bool} {u8 : ByteArray → Bool} {nmE : Int → Int → Es} {dg : Int → ByteArray} {fx : Es → Int → Bool} {fe : Es → Int → Es} {fo : Es → Int → Bool} {k n : Int} {s : ByteArray} {xb : Bool} {eb : Es} {xf : Bool} {ef : Es} {xl : Bool} {el : Es} {dp : Int} (h0 : k ≠ (1 : Int)) (h1 : k ≠ (2 : Int)) (h2 : k ≠ (12 : Int)) (h3 : k ≠ (3 : Int)) (h4 : k ≠ (4 : Int)) (h5 : k ≠ (11 : Int)) (h6 : k ≠ (10 : Int)) (h7 : k ≠ (5 : Int)) (h8 : k ≠ (8 : Int)) (h9 : k ≠ (9 : Int)) (h10 : k = (6 : Int)) (h11 : br false false false true false (valk.val k n s xb eb xf ef xl el) = false) (h12 : Ret P T 53 [D.agg (valk.val k n s xb eb xf ef xl el), D.bool false, D.bool false, D.bool false, D.bool true, D.bool false] [] (D.bool (br false false false true false (valk.val k n s xb eb xf ef xl el))) []) : Ret P T 45 [D.agg (valk.val k n s xb eb xf ef xl el), D.int .i64 dp] [] (D.tuple [D.slice false [] none, D.bool false]) [] :=
  have bq0 := beq_eq_false_iff_ne.2 h0
  have bq1 := beq_eq_false_iff_ne.2 h1
  have bq2 := beq_eq_false_iff_ne.2 h2
  have bq3 := beq_eq_false_iff_ne.2 h3
  have bq4 := beq_eq_false_iff_ne.2 h4
  have bq5 := beq_eq_false_iff_ne.2 h5
  have bq6 := beq_eq_false_iff_ne.2 h6
  have bq7 := beq_eq_false_iff_ne.2 h7
  have bq8 := beq_eq_false_iff_ne.2 h8
  have bq9 := beq_eq_false_iff_ne.2 h9
  have bq10 := beq_iff_eq.2 h10
  have bq11 := h11
  fin_call own_fn own_body own_name (fr 45 0 (own_ok br u8 nmE dg fx fe fo k n s xb eb xf ef xl el dp 0 0 bE false [] false [] false []) (pth 15 25600) (ac tru (ac (nb1 bq11) (ac (ktf (nb1 bq11)) (ac (ktf (nb1 bq11)) (ac h12 (ac bq10 (ac bq9 (ac bq8 (ac bq7 (ac bq6 (ac bq5 (ac bq4 (ac bq3 (ac bq2 (ac bq1 (ac bq0 an)))))))))))))))))

theorem own_in_21 {br : Bool → Bool → Bool → Bool → Bool → Cs → Bool} {u8 : ByteArray → Bool} {nmE : Int → Int → Es} {dg : Int → ByteArray} {fx : Es → Int → Bool} {fe : Es → Int → Es} {fo : Es → Int → Bool} {k n : Int} {s : ByteArray} {xb : Bool} {eb : Es} {xf : Bool} {ef : Es} {xl : Bool} {el : Es} {dp : Int} (h0 : k ≠ (1 : Int)) (h1 : k ≠ (2 : Int)) (h2 : k ≠ (12 : Int)) (h3 : k ≠ (3 : Int)) (h4 : k ≠ (4 : Int)) (h5 : k ≠ (11 : Int)) (h6 : k ≠ (10 : Int)) (h7 : k ≠ (5 : Int)) (h8 : k ≠ (8 : Int)) (h9 : k ≠ (9 : Int)) (h10 : k ≠ (6 : Int)) (h11 : k = (7 : Int)) (h12 : br false false false false true (valk.val k n s xb eb xf ef xl el) = true) (h13 : dp > (32 : Int)) (h14 : Ret P T 53 [D.agg (valk.val k n s xb eb xf ef xl el), D.bool false, D.bool false, D.bool false, D.bool false, D.bool true] [] (D.bool (br false false false false true (valk.val k n s xb eb xf ef xl el))) []) : Ret P T 45 [D.agg (valk.val k n s xb eb xf ef xl el), D.int .i64 dp] [] (D.tuple [D.slice false [] none, D.bool false]) [] :=
  have bq0 := beq_eq_false_iff_ne.2 h0
  have bq1 := beq_eq_false_iff_ne.2 h1
  have bq2 := beq_eq_false_iff_ne.2 h2
  have bq3 := beq_eq_false_iff_ne.2 h3
  have bq4 := beq_eq_false_iff_ne.2 h4
  have bq5 := beq_eq_false_iff_ne.2 h5
  have bq6 := beq_eq_false_iff_ne.2 h6
  have bq7 := beq_eq_false_iff_ne.2 h7
  have bq8 := beq_eq_false_iff_ne.2 h8
  have bq9 := beq_eq_false_iff_ne.2 h9
  have bq10 := beq_eq_false_iff_ne.2 h10
  have bq11 := beq_iff_eq.2 h11
  have bq12 := h12
  have bq13 := decide_eq_true h13
  fin_call own_fn own_body own_name (fr 45 0 (own_ok br u8 nmE dg fx fe fo k n s xb eb xf ef xl el dp 0 0 bE false [] false [] false []) (pth 21 1587200) (ac tru (ac bq13 (ac (ktf bq13) (ac (ktf bq13) (ac (ktf bq13) (ac (ktf bq13) (ac (nb0 bq12) (ac (kff (nb0 bq12)) (ac (kff (nb0 bq12)) (ac h14 (ac bq11 (ac bq10 (ac bq9 (ac bq8 (ac bq7 (ac bq6 (ac bq5 (ac bq4 (ac bq3 (ac bq2 (ac bq1 (ac bq0 an)))))))))))))))))))))))

theorem own_in_22 {br : Bool → Bool → Bool → Bool → Bool → Cs → Bool} {u8 : ByteArray → Bool} {nmE : Int → Int → Es} {dg : Int → ByteArray} {fx : Es → Int → Bool} {fe : Es → Int → Es} {fo : Es → Int → Bool} {k n : Int} {s : ByteArray} {xb : Bool} {eb : Es} {xf : Bool} {ef : Es} {xl : Bool} {el : Es} {dp : Int} (h0 : k ≠ (1 : Int)) (h1 : k ≠ (2 : Int)) (h2 : k ≠ (12 : Int)) (h3 : k ≠ (3 : Int)) (h4 : k ≠ (4 : Int)) (h5 : k ≠ (11 : Int)) (h6 : k ≠ (10 : Int)) (h7 : k ≠ (5 : Int)) (h8 : k ≠ (8 : Int)) (h9 : k ≠ (9 : Int)) (h10 : k ≠ (6 : Int)) (h11 : k = (7 : Int)) (h12 : br false false false false true (valk.val k n s xb eb xf ef xl el) = true) (h13 : ¬ (dp > (32 : Int))) (h14 : (↑(List.length el) : Int) > (65536 : Int)) (h15 : Ret P T 53 [D.agg (valk.val k n s xb eb xf ef xl el), D.bool false, D.bool false, D.bool false, D.bool false, D.bool true] [] (D.bool (br false false false false true (valk.val k n s xb eb xf ef xl el))) []) : Ret P T 45 [D.agg (valk.val k n s xb eb xf ef xl el), D.int .i64 dp] [] (D.tuple [D.slice false [] none, D.bool false]) [] :=
  have bq0 := beq_eq_false_iff_ne.2 h0
  have bq1 := beq_eq_false_iff_ne.2 h1
  have bq2 := beq_eq_false_iff_ne.2 h2
  have bq3 := beq_eq_false_iff_ne.2 h3
  have bq4 := beq_eq_false_iff_ne.2 h4
  have bq5 := beq_eq_false_iff_ne.2 h5
  have bq6 := beq_eq_false_iff_ne.2 h6
  have bq7 := beq_eq_false_iff_ne.2 h7
  have bq8 := beq_eq_false_iff_ne.2 h8
  have bq9 := beq_eq_false_iff_ne.2 h9
  have bq10 := beq_eq_false_iff_ne.2 h10
  have bq11 := beq_iff_eq.2 h11
  have bq12 := h12
  have bq13 := decide_eq_false h13
  have bq14 := decide_eq_true h14
  fin_call own_fn own_body own_name (fr 45 0 (own_ok br u8 nmE dg fx fe fo k n s xb eb xf ef xl el dp 0 0 bE false [] false [] false []) (pth 21 1554432) (ac bq14 (ac bq13 (ac (kff bq13) (ac (kff bq13) (ac (kff bq13) (ac (kff bq13) (ac (nb0 bq12) (ac (kff (nb0 bq12)) (ac (kff (nb0 bq12)) (ac h15 (ac bq11 (ac bq10 (ac bq9 (ac bq8 (ac bq7 (ac bq6 (ac bq5 (ac bq4 (ac bq3 (ac bq2 (ac bq1 (ac bq0 an)))))))))))))))))))))))

theorem own_in_23 {br : Bool → Bool → Bool → Bool → Bool → Cs → Bool} {u8 : ByteArray → Bool} {nmE : Int → Int → Es} {dg : Int → ByteArray} {fx : Es → Int → Bool} {fe : Es → Int → Es} {fo : Es → Int → Bool} {k n : Int} {s : ByteArray} {xb : Bool} {eb : Es} {xf : Bool} {ef : Es} {xl : Bool} {el : Es} {dp : Int} {r : D} {H1 : GD.Heap} (h0 : k ≠ (1 : Int)) (h1 : k ≠ (2 : Int)) (h2 : k ≠ (12 : Int)) (h3 : k ≠ (3 : Int)) (h4 : k ≠ (4 : Int)) (h5 : k ≠ (11 : Int)) (h6 : k ≠ (10 : Int)) (h7 : k ≠ (5 : Int)) (h8 : k ≠ (8 : Int)) (h9 : k ≠ (9 : Int)) (h10 : k ≠ (6 : Int)) (h11 : k = (7 : Int)) (h12 : br false false false false true (valk.val k n s xb eb xf ef xl el) = true) (h13 : ¬ (dp > (32 : Int))) (h14 : ¬ ((↑(List.length el) : Int) > (65536 : Int))) (h15 : Ret P T 53 [D.agg (valk.val k n s xb eb xf ef xl el), D.bool false, D.bool false, D.bool false, D.bool false, D.bool true] [] (D.bool (br false false false false true (valk.val k n s xb eb xf ef xl el))) []) (g : own_at0 br u8 nmE dg fx fe fo k n s xb eb xf ef xl el dp (false) ([]) ((0 : Int)) ((0 : Nat)) r H1) : Ret P T 45 [D.agg (valk.val k n s xb eb xf ef xl el), D.int .i64 dp] [] r H1 :=
  have bq0 := beq_eq_false_iff_ne.2 h0
  have bq1 := beq_eq_false_iff_ne.2 h1
  have bq2 := beq_eq_false_iff_ne.2 h2
  have bq3 := beq_eq_false_iff_ne.2 h3
  have bq4 := beq_eq_false_iff_ne.2 h4
  have bq5 := beq_eq_false_iff_ne.2 h5
  have bq6 := beq_eq_false_iff_ne.2 h6
  have bq7 := beq_eq_false_iff_ne.2 h7
  have bq8 := beq_eq_false_iff_ne.2 h8
  have bq9 := beq_eq_false_iff_ne.2 h9
  have bq10 := beq_eq_false_iff_ne.2 h10
  have bq11 := beq_iff_eq.2 h11
  have bq12 := h12
  have bq13 := decide_eq_false h13
  have bq14 := decide_eq_false h14
  fin_call own_fn own_body own_name (fst (fun _ => false) 45 0 [1, 2, 6, 7] (own_ok br u8 nmE dg fx fe fo k n s xb eb xf ef xl el dp 0 0 bE false [] false [] false []) (pth 21 505856) (ac bq14 (ac bq13 (ac (kff bq13) (ac (kff bq13) (ac (kff bq13) (ac (kff bq13) (ac (nb0 bq12) (ac (kff (nb0 bq12)) (ac (kff (nb0 bq12)) (ac h15 (ac bq11 (ac bq10 (ac bq9 (ac bq8 (ac bq7 (ac bq6 (ac bq5 (ac bq4 (ac bq3 (ac bq2 (ac bq1 (ac bq0 an)))))))))))))))))))))) ((own_s0 br u8 nmE dg fx fe fo k n s xb eb xf ef xl el dp (false) ([]) ((0 : Int)) ((0 : Nat))).env.set 6 (.slice false [] none)) ((own_s0 br u8 nmE dg fx fe fo k n s xb eb xf ef xl el dp (false) ([]) ((0 : Int)) ((0 : Nat))).H.take 0) (fin_toks [(6, 7)] (by kernel_rfl) (by kernel_rfl) g))

theorem own_in_24 {br : Bool → Bool → Bool → Bool → Bool → Cs → Bool} {u8 : ByteArray → Bool} {nmE : Int → Int → Es} {dg : Int → ByteArray} {fx : Es → Int → Bool} {fe : Es → Int → Es} {fo : Es → Int → Bool} {k n : Int} {s : ByteArray} {xb : Bool} {eb : Es} {xf : Bool} {ef : Es} {xl : Bool} {el : Es} {dp : Int} (h0 : k ≠ (1 : Int)) (h1 : k ≠ (2 : Int)) (h2 : k ≠ (12 : Int)) (h3 : k ≠ (3 : Int)) (h4 : k ≠ (4 : Int)) (h5 : k ≠ (11 : Int)) (h6 : k ≠ (10 : Int)) (h7 : k ≠ (5 : Int)) (h8 : k ≠ (8 : Int)) (h9 : k ≠ (9 : Int)) (h10 : k ≠ (6 : Int)) (h11 : k = (7 : Int)) (h12 : br false false false false true (valk.val k n s xb eb xf ef xl el) = false) (h13 : Ret P T 53 [D.agg (valk.val k n s xb eb xf ef xl el), D.bool false, D.bool false, D.bool false, D.bool false, D.bool true] [] (D.bool (br false false false false true (valk.val k n s xb eb xf ef xl el))) []) : Ret P T 45 [D.agg (valk.val k n s xb eb xf ef xl el), D.int .i64 dp] [] (D.tuple [D.slice false [] none, D.bool false]) [] :=
  have bq0 := beq_eq_false_iff_ne.2 h0
  have bq1 := beq_eq_false_iff_ne.2 h1
  have bq2 := beq_eq_false_iff_ne.2 h2
  have bq3 := beq_eq_false_iff_ne.2 h3
  have bq4 := beq_eq_false_iff_ne.2 h4
  have bq5 := beq_eq_false_iff_ne.2 h5
  have bq6 := beq_eq_false_iff_ne.2 h6
  have bq7 := beq_eq_false_iff_ne.2 h7
  have bq8 := beq_eq_false_iff_ne.2 h8
  have bq9 := beq_eq_false_iff_ne.2 h9
  have bq10 := beq_eq_false_iff_ne.2 h10
  have bq11 := beq_iff_eq.2 h11
  have bq12 := h12
  fin_call own_fn own_body own_name (fr 45 0 (own_ok br u8 nmE dg fx fe fo k n s xb eb xf ef xl el dp 0 0 bE false [] false [] false []) (pth 21 1591296) (ac tru (ac tru (ac (show false = false from rfl) (ac (show false = false from rfl) (ac (show false = false from rfl) (ac (show false = false from rfl) (ac (nb1 bq12) (ac (ktf (nb1 bq12)) (ac (ktf (nb1 bq12)) (ac h13 (ac bq11 (ac bq10 (ac bq9 (ac bq8 (ac bq7 (ac bq6 (ac bq5 (ac bq4 (ac bq3 (ac bq2 (ac bq1 (ac bq0 an)))))))))))))))))))))))

theorem own_in_25 {br : Bool → Bool → Bool → Bool → Bool → Cs → Bool} {u8 : ByteArray → Bool} {nmE : Int → Int → Es} {dg : Int → ByteArray} {fx : Es → Int → Bool} {fe : Es → Int → Es} {fo : Es → Int → Bool} {k n : Int} {s : ByteArray} {xb : Bool} {eb : Es} {xf : Bool} {ef : Es} {xl : Bool} {el : Es} {dp : Int} (h0 : k ≠ (1 : Int)) (h1 : k ≠ (2 : Int)) (h2 : k ≠ (12 : Int)) (h3 : k ≠ (3 : Int)) (h4 : k ≠ (4 : Int)) (h5 : k ≠ (11 : Int)) (h6 : k ≠ (10 : Int)) (h7 : k ≠ (5 : Int)) (h8 : k ≠ (8 : Int)) (h9 : k ≠ (9 : Int)) (h10 : k ≠ (6 : Int)) (h11 : k ≠ (7 : Int)) : Ret P T 45 [D.agg (valk.val k n s xb eb xf ef xl el), D.int .i64 dp] [] (D.tuple [D.slice false [] none, D.bool false]) [] :=
  have bq0 := beq_eq_false_iff_ne.2 h0
  have bq1 := beq_eq_false_iff_ne.2 h1
  have bq2 := beq_eq_false_iff_ne.2 h2
  have bq3 := beq_eq_false_iff_ne.2 h3
  have bq4 := beq_eq_false_iff_ne.2 h4
  have bq5 := beq_eq_false_iff_ne.2 h5
  have bq6 := beq_eq_false_iff_ne.2 h6
  have bq7 := beq_eq_false_iff_ne.2 h7
  have bq8 := beq_eq_false_iff_ne.2 h8
  have bq9 := beq_eq_false_iff_ne.2 h9
  have bq10 := beq_eq_false_iff_ne.2 h10
  have bq11 := beq_eq_false_iff_ne.2 h11
  fin_call own_fn own_body own_name (fr 45 0 (own_ok br u8 nmE dg fx fe fo k n s xb eb xf ef xl el dp 0 0 bE false [] false [] false []) (pth 12 0) (ac bq11 (ac bq10 (ac bq9 (ac bq8 (ac bq7 (ac bq6 (ac bq5 (ac bq4 (ac bq3 (ac bq2 (ac bq1 (ac bq0 an)))))))))))))

theorem own_0_0 {br : Bool → Bool → Bool → Bool → Bool → Cs → Bool} {u8 : ByteArray → Bool} {nmE : Int → Int → Es} {dg : Int → ByteArray} {fx : Es → Int → Bool} {fe : Es → Int → Es} {fo : Es → Int → Bool} {k n : Int} {s : ByteArray} {xb : Bool} {eb : Es} {xf : Bool} {ef : Es} {xl : Bool} {el : Es} {dp : Int} {x6 : Bool} {e6 : List (List D)} {n7 : Int} {kh : Nat} {n34_6_0 n34_6_1 : Int} {s34_6_2 : ByteArray} {x34_6_3 : Bool} {e34_6_3 : List (List D)} {x34_6_4 : Bool} {e34_6_4 : List (List D)} {x34_6_5 : Bool} {e34_6_5 : List (List D)} {r : D} {H1 : GD.Heap} (h0 : n7 < (↑(List.length el) : Int)) (h1 : e6.length = kh ∧ (e6.length + (1 : Nat)) * (120 : Nat) ≤ (140737488355328 : Nat) ∧ true = true) (h2 : (0 : Int) ≤ n7) (h3 : el[n7.toNat]? = some (valk.val n34_6_0 n34_6_1 s34_6_2 x34_6_3 e34_6_3 x34_6_4 e34_6_4 x34_6_5 e34_6_5)) (h4 : Ret P T 56 [D.int .i64 n7] [] (D.str (dg n7)) []) (g : own_at0 br u8 nmE dg fx fe fo k n s xb eb xf ef xl el dp (x6 || true) (e6 ++ [(D.str (dg n7) :: valk.val n34_6_0 n34_6_1 s34_6_2 x34_6_3 e34_6_3 x34_6_4 e34_6_4 x34_6_5 e34_6_5)]) (IntKind.i64.wrap (n7 + (1 : Int))) (kh + (1 : Nat)) r H1) : own_at0 br u8 nmE dg fx fe fo k n s xb eb xf ef xl el dp x6 e6 n7 kh r H1 :=
  have bq0 := decide_eq_true h0
  fin_loop (fs (fun _ => false) 45 1 [1, 2, 6, 7] (own_ok br u8 nmE dg fx fe fo k n s xb eb xf ef xl el dp n34_6_0 n34_6_1 s34_6_2 x34_6_3 e34_6_3 x34_6_4 e34_6_4 x34_6_5 e34_6_5) (pth 1 1) (ac h1 (ac h2 (ac h3 (ac h4 (ac bq0 an))))) g)

theorem own_0_1 {br : Bool → Bool → Bool → Bool → Bool → Cs → Bool} {u8 : ByteArray → Bool} {nmE : Int → Int → Es} {dg : Int → ByteArray} {fx : Es → Int → Bool} {fe : Es → Int → Es} {fo : Es → Int → Bool} {k n : Int} {s : ByteArray} {xb : Bool} {eb : Es} {xf : Bool} {ef : Es} {xl : Bool} {el : Es} {dp : Int} {x6 : Bool} {e6 : List (List D)} {n7 : Int} {kh : Nat} (h0 : ¬ (n7 < (↑(List.length el) : Int))) (h1 : Ret P T 55 [D.slice x6 e6 (some 0), D.int .i64 dp] [some (HObj.tok kh (7 : Nat))] (D.tuple [D.slice (fx e6 dp) (fe e6 dp) none, D.bool (fo e6 dp)]) [some (HObj.tok kh (7 : Nat))]) : own_at0 br u8 nmE dg fx fe fo k n s xb eb xf ef xl el dp x6 e6 n7 kh (D.tuple [D.slice (fx e6 dp) (fe e6 dp) none, D.bool (fo e6 dp)]) [] :=
  have bq0 := decide_eq_false h0
  fin_loop (fr 45 0 (own_ok br u8 nmE dg fx fe fo k n s xb eb xf ef xl el dp 0 0 bE false [] false [] false []) (pth 1 0) (ac h1 (ac bq0 an)))



end Go.Proofs.YtlccdfilbiipmaaDoor.ordk
