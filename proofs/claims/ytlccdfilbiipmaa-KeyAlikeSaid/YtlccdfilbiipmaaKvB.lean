/- One order of all values, as a law; the document's own Compare comes to it; whether a list is few. -/
import Derived.Test.YtlccdfilbiipmaaKvA
import Derived.Test.YtlccdfilbiipmaaValKitK
namespace Go.Proofs.Ytlccdfilbiipmaa.ordk
open Go Ytlccdfilbiipmaa.GD
set_option linter.unusedVariables false
set_option linter.unusedSimpArgs false
set_option maxRecDepth 100000

abbrev Cs := List D
def val (k n : Int) (s : ByteArray) (xb : Bool) (eb : Es) (xf : Bool) (ef : Es) (xl : Bool) (el : Es) : Cs := valk.val k n s xb eb xf ef xl el
variable (cV : Cs → Cs → Int) (cF : Cs → Cs → Int) (cLs cFs : Es → Es → Int)
def tabC : Tab := fun k args H =>
  match k with
  | 35 => match args, H with | [.int .i64 k], [] => some (.int .i64 (classU k), []) | _, _ => none
  | 31 => match args, H with | [.int .i64 k], [] => some (.int .i64 (classU k), []) | _, _ => none
  | 99954 => match args, H with | [.int .i64 x, .int .i64 y], [] => some (.int .i64 (sgnU x y), []) | _, _ => none
  | 99963 => match args, H with | [.int .i64 x, .int .i64 y], [] => some (.int .i64 (sgnU x y), []) | _, _ => none
  | 30 => match args, H with | [.int .i64 x, .int .i64 y], [] => some (.int .i64 (sgnU x y), []) | _, _ => none
  | 99965 => match args, H with | [.str x, .str y], [] => some (.int .i64 (lexB x y), []) | _, _ => none
  | 32 => match args, H with | [.str x, .str y], [] => some (.int .i64 (lexB x y), []) | _, _ => none
  | 99972 => match args, H with | [.slice _ es none], [] => some (.int .i64 (orE es), []) | _, _ => none
  | 99973 => match args, H with | [.slice _ a none, .slice _ b none], [] => some (.int .i64 (cbE a b), []) | _, _ => none
  | 99967 => match args, H with | [.slice _ a none, .slice _ b none, _], [] => some (.int .i64 (cFs a b), []) | _, _ => none
  | 99970 => match args, H with | [.slice _ a none, .slice _ b none, _], [] => some (.int .i64 (cLs a b), []) | _, _ => none
  | 99968 => match args, H with | [.agg a, .agg b], [] => some (.int .i64 (cF a b), []) | _, _ => none
  | 99932 => match args, H with | [.agg a, .agg b], [] => some (.int .i64 (cV a b), []) | _, _ => none
  | 22 => match args, H with | [.agg a, .agg b], [] => some (.int .i64 (cV a b), []) | _, _ => none
  | _ => none
def aRv (cV : Cs → Cs → Int) (k n : Int) (s : ByteArray) (xb : Bool) (eb : Es) (xf : Bool) (ef : Es) (xl : Bool) (el : Es) (k' n' : Int) (s' : ByteArray) (xb' : Bool) (eb' : Es) (xf' : Bool) (ef' : Es) (xl' : Bool) (el' : Es) : List D × GD.Heap :=
  ([.agg (val k n s xb eb xf ef xl el), .agg (val k' n' s' xb' eb' xf' ef' xl' el')], [])
def tRv (cV : Cs → Cs → Int) (k n : Int) (s : ByteArray) (xb : Bool) (eb : Es) (xf : Bool) (ef : Es) (xl : Bool) (el : Es) (k' n' : Int) (s' : ByteArray) (xb' : Bool) (eb' : Es) (xf' : Bool) (ef' : Es) (xl' : Bool) (el' : Es) : Tab :=
  tabC cV (fun _ _ => 0) (fun _ _ => 0) (fun _ _ => 0)
/-! ### what comparing comes to -/
def lx (p q : Int) : Int := if p ≠ 0 then p else q
def kindOf : Cs → Int
  | .int _ k :: _ => k
  | _ => 0
mutual
def cmpV : Cs → Cs → Int
  | [.int _ k, .int _ n, .str s, .slice _ eb _, .slice _ ef _, .slice _ el _], [.int _ k', .int _ n', .str s', .slice _ eb' _, .slice _ ef' _, .slice _ el' _] =>
    lx (sgnU (classU k) (classU k'))
      (if k = 3 ∨ k = 4 ∨ k = 10 ∨ k = 11 then sgnU n n' else if k = 5 then lexB s s' else if k = 6 then cmpFs ef ef' else if k = 7 then cmpLs el el'
       else if k = 8 then lx (sgnU eb.length eb'.length) (cbE eb eb') else if k = 9 then cbE eb eb' else 0)
  | _, _ => 0
def cmpF : Cs → Cs → Int
  | .str nm :: a, .str nm' :: b => lx (sgnU (classU (kindOf a)) (classU (kindOf b))) (lx (lexB nm nm') (cmpV a b))
  | _, _ => 0
def cmpLs : Es → Es → Int
  | [], [] => 0
  | [], _ :: _ => -1
  | _ :: _, [] => 1
  | a :: r, b :: t => lx (cmpV a b) (cmpLs r t)
def cmpFs : Es → Es → Int
  | [], [] => 0
  | [], _ :: _ => -1
  | _ :: _, [] => 1
  | a :: r, b :: t => lx (cmpF a b) (cmpFs r t)
end
open valk in
theorem bytes_rows {eb : Es} {bs : List Int} (h : eb = bs.map fun x => [D.int .u8 x]) : eb = rows bs := h
def aFew (smB : Cs → Bool) (wtE : Cs → Int → Int) (xb : Bool) (es : Es) : List D × GD.Heap := ([.slice xb es none], [])
def tFew (smB : Cs → Bool) (wtE : Cs → Int → Int) (xb : Bool) (es : Es) : Tab := fun k args H =>
  match k with
  | 24 => match args, H with | [.agg c], [] => some (.bool (smB c), []) | _, _ => none
  | 25 => match args, H with | [.agg c, .int .i64 m], [] => some (.int .i64 (wtE c m), []) | _, _ => none
  | _ => none
/-! ### function 22 -/
theorem rv_fn : Try.prog.funcs[(22 : Nat)]? = some (fnAt P 22) := by kernel_rfl
theorem rv_body : (fnAt P 22).body = some (bodyAt P 22) := by kernel_rfl
theorem rv_name : ((fnAt P 22).name == "runtime.NumGoroutine") = false := by kernel_rfl
noncomputable def rv_C (cV : Cs → Cs → Int) (k n : Int) (s : ByteArray) (xb : Bool) (eb : Es) (xf : Bool) (ef : Es) (xl : Bool) (el : Es) (k' n' : Int) (s' : ByteArray) (xb' : Bool) (eb' : Es) (xf' : Bool) (ef' : Es) (xl' : Bool) (el' : Es) (s23_3_0 : ByteArray) (n23_3_1 n23_3_2 : Int) (s23_3_3 : ByteArray) (x23_3_4 : Bool) (e23_3_4 : List (List D)) (x23_3_5 : Bool) (e23_3_5 : List (List D)) (x23_3_6 : Bool) (e23_3_6 : List (List D)) (s23_8_0 : ByteArray) (n23_8_1 n23_8_2 : Int) (s23_8_3 : ByteArray) (x23_8_4 : Bool) (e23_8_4 : List (List D)) (x23_8_5 : Bool) (e23_8_5 : List (List D)) (x23_8_6 : Bool) (e23_8_6 : List (List D)) (n36_3_0 n36_3_1 : Int) (s36_3_2 : ByteArray) (x36_3_3 : Bool) (e36_3_3 : List (List D)) (x36_3_4 : Bool) (e36_3_4 : List (List D)) (x36_3_5 : Bool) (e36_3_5 : List (List D)) (n36_8_0 n36_8_1 : Int) (s36_8_2 : ByteArray) (x36_8_3 : Bool) (e36_8_3 : List (List D)) (x36_8_4 : Bool) (e36_8_4 : List (List D)) (x36_8_5 : Bool) (e36_8_5 : List (List D)) : Cf := cfg Try.prog (hintOf [((22 : Nat), (23 : Nat), (3 : Nat), Hint.c (D.str s23_3_0 :: valk.val n23_3_1 n23_3_2 s23_3_3 x23_3_4 e23_3_4 x23_3_5 e23_3_5 x23_3_6 e23_3_6)), ((22 : Nat), (23 : Nat), (8 : Nat), Hint.c (D.str s23_8_0 :: valk.val n23_8_1 n23_8_2 s23_8_3 x23_8_4 e23_8_4 x23_8_5 e23_8_5 x23_8_6 e23_8_6)), ((22 : Nat), (36 : Nat), (3 : Nat), Hint.c (valk.val n36_3_0 n36_3_1 s36_3_2 x36_3_3 e36_3_3 x36_3_4 e36_3_4 x36_3_5 e36_3_5)), ((22 : Nat), (36 : Nat), (8 : Nat), Hint.c (valk.val n36_8_0 n36_8_1 s36_8_2 x36_8_3 e36_8_3 x36_8_4 e36_8_4 x36_8_5 e36_8_5))]) (tRv cV k n s xb eb xf ef xl el k' n' s' xb' eb' xf' ef' xl' el') (fun _ => false) 2 true (fun _ => false)
theorem rv_ok (cV : Cs → Cs → Int) (k n : Int) (s : ByteArray) (xb : Bool) (eb : Es) (xf : Bool) (ef : Es) (xl : Bool) (el : Es) (k' n' : Int) (s' : ByteArray) (xb' : Bool) (eb' : Es) (xf' : Bool) (ef' : Es) (xl' : Bool) (el' : Es) (s23_3_0 : ByteArray) (n23_3_1 n23_3_2 : Int) (s23_3_3 : ByteArray) (x23_3_4 : Bool) (e23_3_4 : List (List D)) (x23_3_5 : Bool) (e23_3_5 : List (List D)) (x23_3_6 : Bool) (e23_3_6 : List (List D)) (s23_8_0 : ByteArray) (n23_8_1 n23_8_2 : Int) (s23_8_3 : ByteArray) (x23_8_4 : Bool) (e23_8_4 : List (List D)) (x23_8_5 : Bool) (e23_8_5 : List (List D)) (x23_8_6 : Bool) (e23_8_6 : List (List D)) (n36_3_0 n36_3_1 : Int) (s36_3_2 : ByteArray) (x36_3_3 : Bool) (e36_3_3 : List (List D)) (x36_3_4 : Bool) (e36_3_4 : List (List D)) (x36_3_5 : Bool) (e36_3_5 : List (List D)) (n36_8_0 n36_8_1 : Int) (s36_8_2 : ByteArray) (x36_8_3 : Bool) (e36_8_3 : List (List D)) (x36_8_4 : Bool) (e36_8_4 : List (List D)) (x36_8_5 : Bool) (e36_8_5 : List (List D)) : CfOk (rv_C cV k n s xb eb xf ef xl el k' n' s' xb' eb' xf' ef' xl' el' s23_3_0 n23_3_1 n23_3_2 s23_3_3 x23_3_4 e23_3_4 x23_3_5 e23_3_5 x23_3_6 e23_3_6 s23_8_0 n23_8_1 n23_8_2 s23_8_3 x23_8_4 e23_8_4 x23_8_5 e23_8_5 x23_8_6 e23_8_6 n36_3_0 n36_3_1 s36_3_2 x36_3_3 e36_3_3 x36_3_4 e36_3_4 x36_3_5 e36_3_5 n36_8_0 n36_8_1 s36_8_2 x36_8_3 e36_8_3 x36_8_4 e36_8_4 x36_8_5 e36_8_5) := cfg_ok (by kernel_rfl)
noncomputable def rv_run (cV : Cs → Cs → Int) (k n : Int) (s : ByteArray) (xb : Bool) (eb : Es) (xf : Bool) (ef : Es) (xl : Bool) (el : Es) (k' n' : Int) (s' : ByteArray) (xb' : Bool) (eb' : Es) (xf' : Bool) (ef' : Es) (xl' : Bool) (el' : Es) (s23_3_0 : ByteArray) (n23_3_1 n23_3_2 : Int) (s23_3_3 : ByteArray) (x23_3_4 : Bool) (e23_3_4 : List (List D)) (x23_3_5 : Bool) (e23_3_5 : List (List D)) (x23_3_6 : Bool) (e23_3_6 : List (List D)) (s23_8_0 : ByteArray) (n23_8_1 n23_8_2 : Int) (s23_8_3 : ByteArray) (x23_8_4 : Bool) (e23_8_4 : List (List D)) (x23_8_5 : Bool) (e23_8_5 : List (List D)) (x23_8_6 : Bool) (e23_8_6 : List (List D)) (n36_3_0 n36_3_1 : Int) (s36_3_2 : ByteArray) (x36_3_3 : Bool) (e36_3_3 : List (List D)) (x36_3_4 : Bool) (e36_3_4 : List (List D)) (x36_3_5 : Bool) (e36_3_5 : List (List D)) (n36_8_0 n36_8_1 : Int) (s36_8_2 : ByteArray) (x36_8_3 : Bool) (e36_8_3 : List (List D)) (x36_8_4 : Bool) (e36_8_4 : List (List D)) (x36_8_5 : Bool) (e36_8_5 : List (List D)) (qcur : Cur) (qk : List It) (qs : St) (qor : GD.Or) := runE (rv_C cV k n s xb eb xf ef xl el k' n' s' xb' eb' xf' ef' xl' el' s23_3_0 n23_3_1 n23_3_2 s23_3_3 x23_3_4 e23_3_4 x23_3_5 e23_3_5 x23_3_6 e23_3_6 s23_8_0 n23_8_1 n23_8_2 s23_8_3 x23_8_4 e23_8_4 x23_8_5 e23_8_5 x23_8_6 e23_8_6 n36_3_0 n36_3_1 s36_3_2 x36_3_3 e36_3_3 x36_3_4 e36_3_4 x36_3_5 e36_3_5 n36_8_0 n36_8_1 s36_8_2 x36_8_3 e36_8_3 x36_8_4 e36_8_4 x36_8_5 e36_8_5) (callE (rv_C cV k n s xb eb xf ef xl el k' n' s' xb' eb' xf' ef' xl' el' s23_3_0 n23_3_1 n23_3_2 s23_3_3 x23_3_4 e23_3_4 x23_3_5 e23_3_5 x23_3_6 e23_3_6 s23_8_0 n23_8_1 n23_8_2 s23_8_3 x23_8_4 e23_8_4 x23_8_5 e23_8_5 x23_8_6 e23_8_6 n36_3_0 n36_3_1 s36_3_2 x36_3_3 e36_3_3 x36_3_4 e36_3_4 x36_3_5 e36_3_5 n36_8_0 n36_8_1 s36_8_2 x36_8_3 e36_8_3 x36_8_4 e36_8_4 x36_8_5 e36_8_5) 100000 10) 22 100000 qcur qk qs qor []
noncomputable def rv_l0 : Code := (loopAt Try.prog 22 0).1
noncomputable def rv_k0 : List It := (loopAt Try.prog 22 0).2
noncomputable def rv_l1 : Code := (loopAt Try.prog 22 1).1
noncomputable def rv_k1 : List It := (loopAt Try.prog 22 1).2
/- loop 0: n6:=(0 : Int); -/
noncomputable def rv_s0 (cV : Cs → Cs → Int) (k n : Int) (s : ByteArray) (xb : Bool) (eb : Es) (xf : Bool) (ef : Es) (xl : Bool) (el : Es) (k' n' : Int) (s' : ByteArray) (xb' : Bool) (eb' : Es) (xf' : Bool) (ef' : Es) (xl' : Bool) (el' : Es) (n6 : Int) : St := ⟨envOf 163 [(2, D.ptr 0 0 0), (3, D.ptr 1 0 0), (6, D.int .i64 n6)], [some (.row 6 [(valk.val k n s xb eb xf ef xl el)]), some (.row 6 [(valk.val k' n' s' xb' eb' xf' ef' xl' el')])]⟩
def rv_at0 (cV : Cs → Cs → Int) (k n : Int) (s : ByteArray) (xb : Bool) (eb : Es) (xf : Bool) (ef : Es) (xl : Bool) (el : Es) (k' n' : Int) (s' : ByteArray) (xb' : Bool) (eb' : Es) (xf' : Bool) (ef' : Es) (xl' : Bool) (el' : Es) (n6 : Int) (r : D) (H1 : GD.Heap) : Prop := GD.Fin Try.prog (tyOf Try.prog) (fnAt P 22) 0 (.code (.loop rv_l0)) rv_k0 (rv_s0 cV k n s xb eb xf ef xl el k' n' s' xb' eb' xf' ef' xl' el' n6) r H1
/- loop 1: n9:=(0 : Int); -/
noncomputable def rv_s1 (cV : Cs → Cs → Int) (k n : Int) (s : ByteArray) (xb : Bool) (eb : Es) (xf : Bool) (ef : Es) (xl : Bool) (el : Es) (k' n' : Int) (s' : ByteArray) (xb' : Bool) (eb' : Es) (xf' : Bool) (ef' : Es) (xl' : Bool) (el' : Es) (n9 : Int) : St := ⟨envOf 163 [(2, D.ptr 0 0 0), (3, D.ptr 1 0 0), (9, D.int .i64 n9)], [some (.row 6 [(valk.val k n s xb eb xf ef xl el)]), some (.row 6 [(valk.val k' n' s' xb' eb' xf' ef' xl' el')])]⟩
def rv_at1 (cV : Cs → Cs → Int) (k n : Int) (s : ByteArray) (xb : Bool) (eb : Es) (xf : Bool) (ef : Es) (xl : Bool) (el : Es) (k' n' : Int) (s' : ByteArray) (xb' : Bool) (eb' : Es) (xf' : Bool) (ef' : Es) (xl' : Bool) (el' : Es) (n9 : Int) (r : D) (H1 : GD.Heap) : Prop := GD.Fin Try.prog (tyOf Try.prog) (fnAt P 22) 0 (.code (.loop rv_l1)) rv_k1 (rv_s1 cV k n s xb eb xf ef xl el k' n' s' xb' eb' xf' ef' xl' el' n9) r H1

theorem rv_in_0 {cV : Cs → Cs → Int} {k n : Int} {s : ByteArray} {xb : Bool} {eb : Es} {xf : Bool} {ef : Es} {xl : Bool} {el : Es} {k' n' : Int} {s' : ByteArray} {xb' : Bool} {eb' : Es} {xf' : Bool} {ef' : Es} {xl' : Bool} {el' : Es} (h0 : sgnU (classU k) (classU k') ≠ (0 : Int)) : Ret P T 22 [D.agg (valk.val k n s xb eb xf ef xl el), D.agg (valk.val k' n' s' xb' eb' xf' ef' xl' el')] [] (D.int .i64 (sgnU (classU k) (classU k'))) [] :=
  have bq0 : (sgnU (classU k) (classU k') != (0 : Int)) = true := bne_iff_ne.2 h0
  fin_call rv_fn rv_body rv_name (fr 22 0 (rv_ok cV k n s xb eb xf ef xl el k' n' s' xb' eb' xf' ef' xl' el' bE 0 0 bE false [] false [] false [] bE 0 0 bE false [] false [] false [] 0 0 bE false [] false [] false [] 0 0 bE false [] false [] false []) (pth 1 1) (ac bq0 (ac (show Ret P T 30 [D.int .i64 (classU k), D.int .i64 (classU k')] [] (D.int .i64 (sgnU (classU k) (classU k'))) [] from (sgn56 _ _)) (ac (show Ret P T 31 [D.int .i64 k'] [] (D.int .i64 (classU k')) [] from (cls35 _)) (ac (show Ret P T 31 [D.int .i64 k] [] (D.int .i64 (classU k)) [] from (cls35 _)) an)))))

theorem rv_in_1 {cV : Cs → Cs → Int} {k n : Int} {s : ByteArray} {xb : Bool} {eb : Es} {xf : Bool} {ef : Es} {xl : Bool} {el : Es} {k' n' : Int} {s' : ByteArray} {xb' : Bool} {eb' : Es} {xf' : Bool} {ef' : Es} {xl' : Bool} {el' : Es} (h0 : sgnU (classU k) (classU k') = (0 : Int)) (h1 : k = (3 : Int)) : Ret P T 22 [D.agg (valk.val k n s xb eb xf ef xl el), D.agg (valk.val k' n' s' xb' eb' xf' ef' xl' el')] [] (D.int .i64 (sgnU n n')) [] :=
  have bq0 : (sgnU (classU k) (classU k') != (0 : Int)) = false := (by rw [bne, Bool.not_eq_false']; exact beq_iff_eq.2 h0)
  have bq1 := beq_iff_eq.2 h1
  fin_call rv_fn rv_body rv_name (fr 22 0 (rv_ok cV k n s xb eb xf ef xl el k' n' s' xb' eb' xf' ef' xl' el' bE 0 0 bE false [] false [] false [] bE 0 0 bE false [] false [] false [] 0 0 bE false [] false [] false [] 0 0 bE false [] false [] false []) (pth 3 6) (ac (show Ret P T 30 [D.int .i64 n, D.int .i64 n'] [] (D.int .i64 (sgnU n n')) [] from (sgn56 _ _)) (ac bq1 (ac bq1 (ac bq0 (ac (show Ret P T 30 [D.int .i64 (classU k), D.int .i64 (classU k')] [] (D.int .i64 (sgnU (classU k) (classU k'))) [] from (sgn56 _ _)) (ac (show Ret P T 31 [D.int .i64 k'] [] (D.int .i64 (classU k')) [] from (cls35 _)) (ac (show Ret P T 31 [D.int .i64 k] [] (D.int .i64 (classU k)) [] from (cls35 _)) an))))))))

theorem rv_in_2 {cV : Cs → Cs → Int} {k n : Int} {s : ByteArray} {xb : Bool} {eb : Es} {xf : Bool} {ef : Es} {xl : Bool} {el : Es} {k' n' : Int} {s' : ByteArray} {xb' : Bool} {eb' : Es} {xf' : Bool} {ef' : Es} {xl' : Bool} {el' : Es} (h0 : sgnU (classU k) (classU k') = (0 : Int)) (h1 : k ≠ (3 : Int)) (h2 : k = (4 : Int)) : Ret P T 22 [D.agg (valk.val k n s xb eb xf ef xl el), D.agg (valk.val k' n' s' xb' eb' xf' ef' xl' el')] [] (D.int .i64 (sgnU n n')) [] :=
  have bq0 : (sgnU (classU k) (classU k') != (0 : Int)) = false := (by rw [bne, Bool.not_eq_false']; exact beq_iff_eq.2 h0)
  have bq1 := beq_eq_false_iff_ne.2 h1
  have bq2 := beq_iff_eq.2 h2
  fin_call rv_fn rv_body rv_name (fr 22 0 (rv_ok cV k n s xb eb xf ef xl el k' n' s' xb' eb' xf' ef' xl' el' bE 0 0 bE false [] false [] false [] bE 0 0 bE false [] false [] false [] 0 0 bE false [] false [] false [] 0 0 bE false [] false [] false []) (pth 4 12) (ac (show Ret P T 30 [D.int .i64 n, D.int .i64 n'] [] (D.int .i64 (sgnU n n')) [] from (sgn56 _ _)) (ac bq2 (ac bq2 (ac bq1 (ac bq0 (ac (show Ret P T 30 [D.int .i64 (classU k), D.int .i64 (classU k')] [] (D.int .i64 (sgnU (classU k) (classU k'))) [] from (sgn56 _ _)) (ac (show Ret P T 31 [D.int .i64 k'] [] (D.int .i64 (classU k')) [] from (cls35 _)) (ac (show Ret P T 31 [D.int .i64 k] [] (D.int .i64 (classU k)) [] from (cls35 _)) an)))))))))

theorem rv_in_3 {cV : Cs → Cs → Int} {k n : Int} {s : ByteArray} {xb : Bool} {eb : Es} {xf : Bool} {ef : Es} {xl : Bool} {el : Es} {k' n' : Int} {s' : ByteArray} {xb' : Bool} {eb' : Es} {xf' : Bool} {ef' : Es} {xl' : Bool} {el' : Es} (h0 : sgnU (classU k) (classU k') = (0 : Int)) (h1 : k ≠ (3 : Int)) (h2 : k ≠ (4 : Int)) (h3 : k = (10 : Int)) : Ret P T 22 [D.agg (valk.val k n s xb eb xf ef xl el), D.agg (valk.val k' n' s' xb' eb' xf' ef' xl' el')] [] (D.int .i64 (sgnU n n')) [] :=
  have bq0 : (sgnU (classU k) (classU k') != (0 : Int)) = false := (by rw [bne, Bool.not_eq_false']; exact beq_iff_eq.2 h0)
  have bq1 := beq_eq_false_iff_ne.2 h1
  have bq2 := beq_eq_false_iff_ne.2 h2
  have bq3 := beq_iff_eq.2 h3
  fin_call rv_fn rv_body rv_name (fr 22 0 (rv_ok cV k n s xb eb xf ef xl el k' n' s' xb' eb' xf' ef' xl' el' bE 0 0 bE false [] false [] false [] bE 0 0 bE false [] false [] false [] 0 0 bE false [] false [] false [] 0 0 bE false [] false [] false []) (pth 5 24) (ac (show Ret P T 30 [D.int .i64 n, D.int .i64 n'] [] (D.int .i64 (sgnU n n')) [] from (sgn56 _ _)) (ac bq3 (ac bq3 (ac bq2 (ac bq1 (ac bq0 (ac (show Ret P T 30 [D.int .i64 (classU k), D.int .i64 (classU k')] [] (D.int .i64 (sgnU (classU k) (classU k'))) [] from (sgn56 _ _)) (ac (show Ret P T 31 [D.int .i64 k'] [] (D.int .i64 (classU k')) [] from (cls35 _)) (ac (show Ret P T 31 [D.int .i64 k] [] (D.int .i64 (classU k)) [] from (cls35 _)) an))))))))))

theorem rv_in_4 {cV : Cs → Cs → Int} {k n : Int} {s : ByteArray} {xb : Bool} {eb : Es} {xf : Bool} {ef : Es} {xl : Bool} {el : Es} {k' n' : Int} {s' : ByteArray} {xb' : Bool} {eb' : Es} {xf' : Bool} {ef' : Es} {xl' : Bool} {el' : Es} (h0 : sgnU (classU k) (classU k') = (0 : Int)) (h1 : k ≠ (3 : Int)) (h2 : k ≠ (4 : Int)) (h3 : k ≠ (10 : Int)) (h4 : k = (11 : Int)) : Ret P T 22 [D.agg (valk.val k n s xb eb xf ef xl el), D.agg (valk.val k' n' s' xb' eb' xf' ef' xl' el')] [] (D.int .i64 (sgnU n n')) [] :=
  have bq0 : (sgnU (classU k) (classU k') != (0 : Int)) = false := (by rw [bne, Bool.not_eq_false']; exact beq_iff_eq.2 h0)
  have bq1 := beq_eq_false_iff_ne.2 h1
  have bq2 := beq_eq_false_iff_ne.2 h2
  have bq3 := beq_eq_false_iff_ne.2 h3
  have bq4 := beq_iff_eq.2 h4
  fin_call rv_fn rv_body rv_name (fr 22 0 (rv_ok cV k n s xb eb xf ef xl el k' n' s' xb' eb' xf' ef' xl' el' bE 0 0 bE false [] false [] false [] bE 0 0 bE false [] false [] false [] 0 0 bE false [] false [] false [] 0 0 bE false [] false [] false []) (pth 5 16) (ac (show Ret P T 30 [D.int .i64 n, D.int .i64 n'] [] (D.int .i64 (sgnU n n')) [] from (sgn56 _ _)) (ac bq4 (ac bq3 (ac bq2 (ac bq1 (ac bq0 (ac (show Ret P T 30 [D.int .i64 (classU k), D.int .i64 (classU k')] [] (D.int .i64 (sgnU (classU k) (classU k'))) [] from (sgn56 _ _)) (ac (show Ret P T 31 [D.int .i64 k'] [] (D.int .i64 (classU k')) [] from (cls35 _)) (ac (show Ret P T 31 [D.int .i64 k] [] (D.int .i64 (classU k)) [] from (cls35 _)) an))))))))))

theorem rv_in_5 {cV : Cs → Cs → Int} {k n : Int} {s : ByteArray} {xb : Bool} {eb : Es} {xf : Bool} {ef : Es} {xl : Bool} {el : Es} {k' n' : Int} {s' : ByteArray} {xb' : Bool} {eb' : Es} {xf' : Bool} {ef' : Es} {xl' : Bool} {el' : Es} (h0 : sgnU (classU k) (classU k') = (0 : Int)) (h1 : k ≠ (3 : Int)) (h2 : k ≠ (4 : Int)) (h3 : k ≠ (10 : Int)) (h4 : k ≠ (11 : Int)) (h5 : k = (5 : Int)) (h6 : Ret P T 32 [D.str s, D.str s'] [] (D.int .i64 (lexB s s')) []) : Ret P T 22 [D.agg (valk.val k n s xb eb xf ef xl el), D.agg (valk.val k' n' s' xb' eb' xf' ef' xl' el')] [] (D.int .i64 (lexB s s')) [] :=
  have bq0 : (sgnU (classU k) (classU k') != (0 : Int)) = false := (by rw [bne, Bool.not_eq_false']; exact beq_iff_eq.2 h0)
  have bq1 := beq_eq_false_iff_ne.2 h1
  have bq2 := beq_eq_false_iff_ne.2 h2
  have bq3 := beq_eq_false_iff_ne.2 h3
  have bq4 := beq_eq_false_iff_ne.2 h4
  have bq5 := beq_iff_eq.2 h5
  fin_call rv_fn rv_body rv_name (fr 22 0 (rv_ok cV k n s xb eb xf ef xl el k' n' s' xb' eb' xf' ef' xl' el' bE 0 0 bE false [] false [] false [] bE 0 0 bE false [] false [] false [] 0 0 bE false [] false [] false [] 0 0 bE false [] false [] false []) (pth 6 32) (ac h6 (ac bq5 (ac bq4 (ac bq3 (ac bq2 (ac bq1 (ac bq0 (ac (show Ret P T 30 [D.int .i64 (classU k), D.int .i64 (classU k')] [] (D.int .i64 (sgnU (classU k) (classU k'))) [] from (sgn56 _ _)) (ac (show Ret P T 31 [D.int .i64 k'] [] (D.int .i64 (classU k')) [] from (cls35 _)) (ac (show Ret P T 31 [D.int .i64 k] [] (D.int .i64 (classU k)) [] from (cls35 _)) an)))))))))))

theorem rv_in_6 {cV : Cs → Cs → Int} {k n : Int} {s : ByteArray} {xb : Bool} {eb : Es} {xf : Bool} {ef : Es} {xl : Bool} {el : Es} {k' n' : Int} {s' : ByteArray} {xb' : Bool} {eb' : Es} {xf' : Bool} {ef' : Es} {xl' : Bool} {el' : Es} (h0 : sgnU (classU k) (classU k') = (0 : Int)) (h1 : k ≠ (3 : Int)) (h2 : k ≠ (4 : Int)) (h3 : k ≠ (10 : Int)) (h4 : k ≠ (11 : Int)) (h5 : k ≠ (5 : Int)) (h6 : k = (8 : Int)) (h7 : sgnU (↑(List.length eb) : Int) (↑(List.length eb') : Int) ≠ (0 : Int)) : Ret P T 22 [D.agg (valk.val k n s xb eb xf ef xl el), D.agg (valk.val k' n' s' xb' eb' xf' ef' xl' el')] [] (D.int .i64 (sgnU (↑(List.length eb) : Int) (↑(List.length eb') : Int))) [] :=
  have bq0 : (sgnU (classU k) (classU k') != (0 : Int)) = false := (by rw [bne, Bool.not_eq_false']; exact beq_iff_eq.2 h0)
  have bq1 := beq_eq_false_iff_ne.2 h1
  have bq2 := beq_eq_false_iff_ne.2 h2
  have bq3 := beq_eq_false_iff_ne.2 h3
  have bq4 := beq_eq_false_iff_ne.2 h4
  have bq5 := beq_eq_false_iff_ne.2 h5
  have bq6 := beq_iff_eq.2 h6
  have bq7 : (sgnU (↑(List.length eb) : Int) (↑(List.length eb') : Int) != (0 : Int)) = true := bne_iff_ne.2 h7
  fin_call rv_fn rv_body rv_name (fr 22 0 (rv_ok cV k n s xb eb xf ef xl el k' n' s' xb' eb' xf' ef' xl' el' bE 0 0 bE false [] false [] false [] bE 0 0 bE false [] false [] false [] 0 0 bE false [] false [] false [] 0 0 bE false [] false [] false []) (pth 8 192) (ac bq7 (ac (show Ret P T 30 [D.int .i64 (↑(List.length eb) : Int), D.int .i64 (↑(List.length eb') : Int)] [] (D.int .i64 (sgnU (↑(List.length eb) : Int) (↑(List.length eb') : Int))) [] from (sgn56 _ _)) (ac bq6 (ac bq5 (ac bq4 (ac bq3 (ac bq2 (ac bq1 (ac bq0 (ac (show Ret P T 30 [D.int .i64 (classU k), D.int .i64 (classU k')] [] (D.int .i64 (sgnU (classU k) (classU k'))) [] from (sgn56 _ _)) (ac (show Ret P T 31 [D.int .i64 k'] [] (D.int .i64 (classU k')) [] from (cls35 _)) (ac (show Ret P T 31 [D.int .i64 k] [] (D.int .i64 (classU k)) [] from (cls35 _)) an)))))))))))))

theorem rv_in_7 {cV : Cs → Cs → Int} {k n : Int} {s : ByteArray} {xb : Bool} {eb : Es} {xf : Bool} {ef : Es} {xl : Bool} {el : Es} {k' n' : Int} {s' : ByteArray} {xb' : Bool} {eb' : Es} {xf' : Bool} {ef' : Es} {xl' : Bool} {el' : Es} (h0 : sgnU (classU k) (classU k') = (0 : Int)) (h1 : k ≠ (3 : Int)) (h2 : k ≠ (4 : Int)) (h3 : k ≠ (10 : Int)) (h4 : k ≠ (11 : Int)) (h5 : k ≠ (5 : Int)) (h6 : k = (8 : Int)) (h7 : sgnU (↑(List.length eb) : Int) (↑(List.length eb') : Int) = (0 : Int)) (h8 : Ret P T 32 [D.str (bytesOf eb), D.str (bytesOf eb')] [] (D.int .i64 (lexB (bytesOf eb) (bytesOf eb'))) []) (h9 : List.all eb' isByteC = true) (h10 : List.all eb isByteC = true) : Ret P T 22 [D.agg (valk.val k n s xb eb xf ef xl el), D.agg (valk.val k' n' s' xb' eb' xf' ef' xl' el')] [] (D.int .i64 (lexB (bytesOf eb) (bytesOf eb'))) [] :=
  have bq0 : (sgnU (classU k) (classU k') != (0 : Int)) = false := (by rw [bne, Bool.not_eq_false']; exact beq_iff_eq.2 h0)
  have bq1 := beq_eq_false_iff_ne.2 h1
  have bq2 := beq_eq_false_iff_ne.2 h2
  have bq3 := beq_eq_false_iff_ne.2 h3
  have bq4 := beq_eq_false_iff_ne.2 h4
  have bq5 := beq_eq_false_iff_ne.2 h5
  have bq6 := beq_iff_eq.2 h6
  have bq7 : (sgnU (↑(List.length eb) : Int) (↑(List.length eb') : Int) != (0 : Int)) = false := (by rw [bne, Bool.not_eq_false']; exact beq_iff_eq.2 h7)
  fin_call rv_fn rv_body rv_name (fr 22 0 (rv_ok cV k n s xb eb xf ef xl el k' n' s' xb' eb' xf' ef' xl' el' bE 0 0 bE false [] false [] false [] bE 0 0 bE false [] false [] false [] 0 0 bE false [] false [] false [] 0 0 bE false [] false [] false []) (pth 8 64) (ac h8 (ac h9 (ac h10 (ac bq7 (ac (show Ret P T 30 [D.int .i64 (↑(List.length eb) : Int), D.int .i64 (↑(List.length eb') : Int)] [] (D.int .i64 (sgnU (↑(List.length eb) : Int) (↑(List.length eb') : Int))) [] from (sgn56 _ _)) (ac bq6 (ac bq5 (ac bq4 (ac bq3 (ac bq2 (ac bq1 (ac bq0 (ac (show Ret P T 30 [D.int .i64 (classU k), D.int .i64 (classU k')] [] (D.int .i64 (sgnU (classU k) (classU k'))) [] from (sgn56 _ _)) (ac (show Ret P T 31 [D.int .i64 k'] [] (D.int .i64 (classU k')) [] from (cls35 _)) (ac (show Ret P T 31 [D.int .i64 k] [] (D.int .i64 (classU k)) [] from (cls35 _)) an))))))))))))))))

theorem rv_in_8 {cV : Cs → Cs → Int} {k n : Int} {s : ByteArray} {xb : Bool} {eb : Es} {xf : Bool} {ef : Es} {xl : Bool} {el : Es} {k' n' : Int} {s' : ByteArray} {xb' : Bool} {eb' : Es} {xf' : Bool} {ef' : Es} {xl' : Bool} {el' : Es} (h0 : sgnU (classU k) (classU k') = (0 : Int)) (h1 : k ≠ (3 : Int)) (h2 : k ≠ (4 : Int)) (h3 : k ≠ (10 : Int)) (h4 : k ≠ (11 : Int)) (h5 : k ≠ (5 : Int)) (h6 : k ≠ (8 : Int)) (h7 : k = (9 : Int)) (h8 : Ret P T 32 [D.str (bytesOf eb), D.str (bytesOf eb')] [] (D.int .i64 (lexB (bytesOf eb) (bytesOf eb'))) []) (h9 : List.all eb' isByteC = true) (h10 : List.all eb isByteC = true) : Ret P T 22 [D.agg (valk.val k n s xb eb xf ef xl el), D.agg (valk.val k' n' s' xb' eb' xf' ef' xl' el')] [] (D.int .i64 (lexB (bytesOf eb) (bytesOf eb'))) [] :=
  have bq0 : (sgnU (classU k) (classU k') != (0 : Int)) = false := (by rw [bne, Bool.not_eq_false']; exact beq_iff_eq.2 h0)
  have bq1 := beq_eq_false_iff_ne.2 h1
  have bq2 := beq_eq_false_iff_ne.2 h2
  have bq3 := beq_eq_false_iff_ne.2 h3
  have bq4 := beq_eq_false_iff_ne.2 h4
  have bq5 := beq_eq_false_iff_ne.2 h5
  have bq6 := beq_eq_false_iff_ne.2 h6
  have bq7 := beq_iff_eq.2 h7
  fin_call rv_fn rv_body rv_name (fr 22 0 (rv_ok cV k n s xb eb xf ef xl el k' n' s' xb' eb' xf' ef' xl' el' bE 0 0 bE false [] false [] false [] bE 0 0 bE false [] false [] false [] 0 0 bE false [] false [] false [] 0 0 bE false [] false [] false []) (pth 8 128) (ac h8 (ac h9 (ac h10 (ac bq7 (ac bq6 (ac bq5 (ac bq4 (ac bq3 (ac bq2 (ac bq1 (ac bq0 (ac (show Ret P T 30 [D.int .i64 (classU k), D.int .i64 (classU k')] [] (D.int .i64 (sgnU (classU k) (classU k'))) [] from (sgn56 _ _)) (ac (show Ret P T 31 [D.int .i64 k'] [] (D.int .i64 (classU k')) [] from (cls35 _)) (ac (show Ret P T 31 [D.int .i64 k] [] (D.int .i64 (classU k)) [] from (cls35 _)) an)))))))))))))))

theorem rv_in_9 {cV : Cs → Cs → Int} {k n : Int} {s : ByteArray} {xb : Bool} {eb : Es} {xf : Bool} {ef : Es} {xl : Bool} {el : Es} {k' n' : Int} {s' : ByteArray} {xb' : Bool} {eb' : Es} {xf' : Bool} {ef' : Es} {xl' : Bool} {el' : Es} {r : D} {H1 : GD.Heap} (h0 : sgnU (classU k) (classU k') = (0 : Int)) (h1 : k ≠ (3 : Int)) (h2 : k ≠ (4 : Int)) (h3 : k ≠ (10 : Int)) (h4 : k ≠ (11 : Int)) (h5 : k ≠ (5 : Int)) (h6 : k ≠ (8 : Int)) (h7 : k ≠ (9 : Int)) (h8 : k = (6 : Int)) (g : rv_at0 cV k n s xb eb xf ef xl el k' n' s' xb' eb' xf' ef' xl' el' ((0 : Int)) r H1) : Ret P T 22 [D.agg (valk.val k n s xb eb xf ef xl el), D.agg (valk.val k' n' s' xb' eb' xf' ef' xl' el')] [] r H1 :=
  have bq0 : (sgnU (classU k) (classU k') != (0 : Int)) = false := (by rw [bne, Bool.not_eq_false']; exact beq_iff_eq.2 h0)
  have bq1 := beq_eq_false_iff_ne.2 h1
  have bq2 := beq_eq_false_iff_ne.2 h2
  have bq3 := beq_eq_false_iff_ne.2 h3
  have bq4 := beq_eq_false_iff_ne.2 h4
  have bq5 := beq_eq_false_iff_ne.2 h5
  have bq6 := beq_eq_false_iff_ne.2 h6
  have bq7 := beq_eq_false_iff_ne.2 h7
  have bq8 := beq_iff_eq.2 h8
  fin_call rv_fn rv_body rv_name (fs (fun _ => false) 22 2 [2, 3, 6] (rv_ok cV k n s xb eb xf ef xl el k' n' s' xb' eb' xf' ef' xl' el' bE 0 0 bE false [] false [] false [] bE 0 0 bE false [] false [] false [] 0 0 bE false [] false [] false [] 0 0 bE false [] false [] false []) (pth 9 256) (ac bq8 (ac bq7 (ac bq6 (ac bq5 (ac bq4 (ac bq3 (ac bq2 (ac bq1 (ac bq0 (ac (show Ret P T 30 [D.int .i64 (classU k), D.int .i64 (classU k')] [] (D.int .i64 (sgnU (classU k) (classU k'))) [] from (sgn56 _ _)) (ac (show Ret P T 31 [D.int .i64 k'] [] (D.int .i64 (classU k')) [] from (cls35 _)) (ac (show Ret P T 31 [D.int .i64 k] [] (D.int .i64 (classU k)) [] from (cls35 _)) an)))))))))))) g)

theorem rv_in_10 {cV : Cs → Cs → Int} {k n : Int} {s : ByteArray} {xb : Bool} {eb : Es} {xf : Bool} {ef : Es} {xl : Bool} {el : Es} {k' n' : Int} {s' : ByteArray} {xb' : Bool} {eb' : Es} {xf' : Bool} {ef' : Es} {xl' : Bool} {el' : Es} {r : D} {H1 : GD.Heap} (h0 : sgnU (classU k) (classU k') = (0 : Int)) (h1 : k ≠ (3 : Int)) (h2 : k ≠ (4 : Int)) (h3 : k ≠ (10 : Int)) (h4 : k ≠ (11 : Int)) (h5 : k ≠ (5 : Int)) (h6 : k ≠ (8 : Int)) (h7 : k ≠ (9 : Int)) (h8 : k ≠ (6 : Int)) (h9 : k = (7 : Int)) (g : rv_at1 cV k n s xb eb xf ef xl el k' n' s' xb' eb' xf' ef' xl' el' ((0 : Int)) r H1) : Ret P T 22 [D.agg (valk.val k n s xb eb xf ef xl el), D.agg (valk.val k' n' s' xb' eb' xf' ef' xl' el')] [] r H1 :=
  have bq0 : (sgnU (classU k) (classU k') != (0 : Int)) = false := (by rw [bne, Bool.not_eq_false']; exact beq_iff_eq.2 h0)
  have bq1 := beq_eq_false_iff_ne.2 h1
  have bq2 := beq_eq_false_iff_ne.2 h2
  have bq3 := beq_eq_false_iff_ne.2 h3
  have bq4 := beq_eq_false_iff_ne.2 h4
  have bq5 := beq_eq_false_iff_ne.2 h5
  have bq6 := beq_eq_false_iff_ne.2 h6
  have bq7 := beq_eq_false_iff_ne.2 h7
  have bq8 := beq_eq_false_iff_ne.2 h8
  have bq9 := beq_iff_eq.2 h9
  fin_call rv_fn rv_body rv_name (fs (fun _ => false) 22 2 [2, 3, 9] (rv_ok cV k n s xb eb xf ef xl el k' n' s' xb' eb' xf' ef' xl' el' bE 0 0 bE false [] false [] false [] bE 0 0 bE false [] false [] false [] 0 0 bE false [] false [] false [] 0 0 bE false [] false [] false []) (pth 10 512) (ac bq9 (ac bq8 (ac bq7 (ac bq6 (ac bq5 (ac bq4 (ac bq3 (ac bq2 (ac bq1 (ac bq0 (ac (show Ret P T 30 [D.int .i64 (classU k), D.int .i64 (classU k')] [] (D.int .i64 (sgnU (classU k) (classU k'))) [] from (sgn56 _ _)) (ac (show Ret P T 31 [D.int .i64 k'] [] (D.int .i64 (classU k')) [] from (cls35 _)) (ac (show Ret P T 31 [D.int .i64 k] [] (D.int .i64 (classU k)) [] from (cls35 _)) an))))))))))))) g)

theorem rv_in_11 {cV : Cs → Cs → Int} {k n : Int} {s : ByteArray} {xb : Bool} {eb : Es} {xf : Bool} {ef : Es} {xl : Bool} {el : Es} {k' n' : Int} {s' : ByteArray} {xb' : Bool} {eb' : Es} {xf' : Bool} {ef' : Es} {xl' : Bool} {el' : Es} (h0 : sgnU (classU k) (classU k') = (0 : Int)) (h1 : k ≠ (3 : Int)) (h2 : k ≠ (4 : Int)) (h3 : k ≠ (10 : Int)) (h4 : k ≠ (11 : Int)) (h5 : k ≠ (5 : Int)) (h6 : k ≠ (8 : Int)) (h7 : k ≠ (9 : Int)) (h8 : k ≠ (6 : Int)) (h9 : k ≠ (7 : Int)) : Ret P T 22 [D.agg (valk.val k n s xb eb xf ef xl el), D.agg (valk.val k' n' s' xb' eb' xf' ef' xl' el')] [] (D.int .i64 (0 : Int)) [] :=
  have bq0 : (sgnU (classU k) (classU k') != (0 : Int)) = false := (by rw [bne, Bool.not_eq_false']; exact beq_iff_eq.2 h0)
  have bq1 := beq_eq_false_iff_ne.2 h1
  have bq2 := beq_eq_false_iff_ne.2 h2
  have bq3 := beq_eq_false_iff_ne.2 h3
  have bq4 := beq_eq_false_iff_ne.2 h4
  have bq5 := beq_eq_false_iff_ne.2 h5
  have bq6 := beq_eq_false_iff_ne.2 h6
  have bq7 := beq_eq_false_iff_ne.2 h7
  have bq8 := beq_eq_false_iff_ne.2 h8
  have bq9 := beq_eq_false_iff_ne.2 h9
  fin_call rv_fn rv_body rv_name (fr 22 0 (rv_ok cV k n s xb eb xf ef xl el k' n' s' xb' eb' xf' ef' xl' el' bE 0 0 bE false [] false [] false [] bE 0 0 bE false [] false [] false [] 0 0 bE false [] false [] false [] 0 0 bE false [] false [] false []) (pth 10 0) (ac bq9 (ac bq8 (ac bq7 (ac bq6 (ac bq5 (ac bq4 (ac bq3 (ac bq2 (ac bq1 (ac bq0 (ac (show Ret P T 30 [D.int .i64 (classU k), D.int .i64 (classU k')] [] (D.int .i64 (sgnU (classU k) (classU k'))) [] from (sgn56 _ _)) (ac (show Ret P T 31 [D.int .i64 k'] [] (D.int .i64 (classU k')) [] from (cls35 _)) (ac (show Ret P T 31 [D.int .i64 k] [] (D.int .i64 (classU k)) [] from (cls35 _)) an))))))))))))))

theorem rv_0_0 {cV : Cs → Cs → Int} {k n : Int} {s : ByteArray} {xb : Bool} {eb : Es} {xf : Bool} {ef : Es} {xl : Bool} {el : Es} {k' n' : Int} {s' : ByteArray} {xb' : Bool} {eb' : Es} {xf' : Bool} {ef' : Es} {xl' : Bool} {el' : Es} {n6 : Int} {s23_3_0 : ByteArray} {n23_3_1 n23_3_2 : Int} {s23_3_3 : ByteArray} {x23_3_4 : Bool} {e23_3_4 : List (List D)} {x23_3_5 : Bool} {e23_3_5 : List (List D)} {x23_3_6 : Bool} {e23_3_6 : List (List D)} {s23_8_0 : ByteArray} {n23_8_1 n23_8_2 : Int} {s23_8_3 : ByteArray} {x23_8_4 : Bool} {e23_8_4 : List (List D)} {x23_8_5 : Bool} {e23_8_5 : List (List D)} {x23_8_6 : Bool} {e23_8_6 : List (List D)} (h0 : n6 < (↑(List.length ef) : Int)) (h1 : n6 < (↑(List.length ef') : Int)) (h2 : sgnU (classU n23_3_1) (classU n23_8_1) = (0 : Int)) (h3 : lexB s23_3_0 s23_8_0 = (0 : Int)) (h4 : cV (valk.val n23_3_1 n23_3_2 s23_3_3 x23_3_4 e23_3_4 x23_3_5 e23_3_5 x23_3_6 e23_3_6) (valk.val n23_8_1 n23_8_2 s23_8_3 x23_8_4 e23_8_4 x23_8_5 e23_8_5 x23_8_6 e23_8_6) ≠ (0 : Int)) (h5 : Ret P T 22 [D.agg (valk.val n23_3_1 n23_3_2 s23_3_3 x23_3_4 e23_3_4 x23_3_5 e23_3_5 x23_3_6 e23_3_6), D.agg (valk.val n23_8_1 n23_8_2 s23_8_3 x23_8_4 e23_8_4 x23_8_5 e23_8_5 x23_8_6 e23_8_6)] [] (D.int .i64 (cV (valk.val n23_3_1 n23_3_2 s23_3_3 x23_3_4 e23_3_4 x23_3_5 e23_3_5 x23_3_6 e23_3_6) (valk.val n23_8_1 n23_8_2 s23_8_3 x23_8_4 e23_8_4 x23_8_5 e23_8_5 x23_8_6 e23_8_6))) []) (h6 : Ret P T 32 [D.str s23_3_0, D.str s23_8_0] [] (D.int .i64 (lexB s23_3_0 s23_8_0)) []) (h7 : (0 : Int) ≤ n6) (h8 : ef'[n6.toNat]? = some (D.str s23_8_0 :: valk.val n23_8_1 n23_8_2 s23_8_3 x23_8_4 e23_8_4 x23_8_5 e23_8_5 x23_8_6 e23_8_6)) (h9 : ef[n6.toNat]? = some (D.str s23_3_0 :: valk.val n23_3_1 n23_3_2 s23_3_3 x23_3_4 e23_3_4 x23_3_5 e23_3_5 x23_3_6 e23_3_6)) : rv_at0 cV k n s xb eb xf ef xl el k' n' s' xb' eb' xf' ef' xl' el' n6 (D.int .i64 (cV (valk.val n23_3_1 n23_3_2 s23_3_3 x23_3_4 e23_3_4 x23_3_5 e23_3_5 x23_3_6 e23_3_6) (valk.val n23_8_1 n23_8_2 s23_8_3 x23_8_4 e23_8_4 x23_8_5 e23_8_5 x23_8_6 e23_8_6))) [] :=
  have bq0 := decide_eq_true h0
  have bq1 := decide_eq_true h1
  have bq2 := beq_iff_eq.2 h2
  have bq3 := beq_iff_eq.2 h3
  have bq4 : (cV (valk.val n23_3_1 n23_3_2 s23_3_3 x23_3_4 e23_3_4 x23_3_5 e23_3_5 x23_3_6 e23_3_6) (valk.val n23_8_1 n23_8_2 s23_8_3 x23_8_4 e23_8_4 x23_8_5 e23_8_5 x23_8_6 e23_8_6) != (0 : Int)) = true := bne_iff_ne.2 h4
  fin_loop (fr 22 0 (rv_ok cV k n s xb eb xf ef xl el k' n' s' xb' eb' xf' ef' xl' el' s23_3_0 n23_3_1 n23_3_2 s23_3_3 x23_3_4 e23_3_4 x23_3_5 e23_3_5 x23_3_6 e23_3_6 s23_8_0 n23_8_1 n23_8_2 s23_8_3 x23_8_4 e23_8_4 x23_8_5 e23_8_5 x23_8_6 e23_8_6 0 0 bE false [] false [] false [] 0 0 bE false [] false [] false []) (pth 10 1023) (ac bq4 (ac h5 (ac bq3 (ac h6 (ac bq2 (ac (show Ret P T 30 [D.int .i64 (classU n23_3_1), D.int .i64 (classU n23_8_1)] [] (D.int .i64 (sgnU (classU n23_3_1) (classU n23_8_1))) [] from (sgn56 _ _)) (ac (show Ret P T 31 [D.int .i64 n23_8_1] [] (D.int .i64 (classU n23_8_1)) [] from (cls35 _)) (ac (show Ret P T 31 [D.int .i64 n23_3_1] [] (D.int .i64 (classU n23_3_1)) [] from (cls35 _)) (ac h7 (ac h8 (ac h7 (ac h9 (ac bq1 (ac bq0 (ac (ktt bq0) (ac (ktt bq0) (ac (ktt bq0) (ac (ktt bq0) (ac (ktt bq0) an))))))))))))))))))))

theorem rv_0_1 {cV : Cs → Cs → Int} {k n : Int} {s : ByteArray} {xb : Bool} {eb : Es} {xf : Bool} {ef : Es} {xl : Bool} {el : Es} {k' n' : Int} {s' : ByteArray} {xb' : Bool} {eb' : Es} {xf' : Bool} {ef' : Es} {xl' : Bool} {el' : Es} {n6 : Int} {s23_3_0 : ByteArray} {n23_3_1 n23_3_2 : Int} {s23_3_3 : ByteArray} {x23_3_4 : Bool} {e23_3_4 : List (List D)} {x23_3_5 : Bool} {e23_3_5 : List (List D)} {x23_3_6 : Bool} {e23_3_6 : List (List D)} {s23_8_0 : ByteArray} {n23_8_1 n23_8_2 : Int} {s23_8_3 : ByteArray} {x23_8_4 : Bool} {e23_8_4 : List (List D)} {x23_8_5 : Bool} {e23_8_5 : List (List D)} {x23_8_6 : Bool} {e23_8_6 : List (List D)} {r : D} {H1 : GD.Heap} (h0 : n6 < (↑(List.length ef) : Int)) (h1 : n6 < (↑(List.length ef') : Int)) (h2 : sgnU (classU n23_3_1) (classU n23_8_1) = (0 : Int)) (h3 : lexB s23_3_0 s23_8_0 = (0 : Int)) (h4 : cV (valk.val n23_3_1 n23_3_2 s23_3_3 x23_3_4 e23_3_4 x23_3_5 e23_3_5 x23_3_6 e23_3_6) (valk.val n23_8_1 n23_8_2 s23_8_3 x23_8_4 e23_8_4 x23_8_5 e23_8_5 x23_8_6 e23_8_6) = (0 : Int)) (h5 : Ret P T 22 [D.agg (valk.val n23_3_1 n23_3_2 s23_3_3 x23_3_4 e23_3_4 x23_3_5 e23_3_5 x23_3_6 e23_3_6), D.agg (valk.val n23_8_1 n23_8_2 s23_8_3 x23_8_4 e23_8_4 x23_8_5 e23_8_5 x23_8_6 e23_8_6)] [] (D.int .i64 (cV (valk.val n23_3_1 n23_3_2 s23_3_3 x23_3_4 e23_3_4 x23_3_5 e23_3_5 x23_3_6 e23_3_6) (valk.val n23_8_1 n23_8_2 s23_8_3 x23_8_4 e23_8_4 x23_8_5 e23_8_5 x23_8_6 e23_8_6))) []) (h6 : Ret P T 32 [D.str s23_3_0, D.str s23_8_0] [] (D.int .i64 (lexB s23_3_0 s23_8_0)) []) (h7 : (0 : Int) ≤ n6) (h8 : ef'[n6.toNat]? = some (D.str s23_8_0 :: valk.val n23_8_1 n23_8_2 s23_8_3 x23_8_4 e23_8_4 x23_8_5 e23_8_5 x23_8_6 e23_8_6)) (h9 : ef[n6.toNat]? = some (D.str s23_3_0 :: valk.val n23_3_1 n23_3_2 s23_3_3 x23_3_4 e23_3_4 x23_3_5 e23_3_5 x23_3_6 e23_3_6)) (g : rv_at0 cV k n s xb eb xf ef xl el k' n' s' xb' eb' xf' ef' xl' el' (IntKind.i64.wrap (n6 + (1 : Int))) r H1) : rv_at0 cV k n s xb eb xf ef xl el k' n' s' xb' eb' xf' ef' xl' el' n6 r H1 :=
  have bq0 := decide_eq_true h0
  have bq1 := decide_eq_true h1
  have bq2 := beq_iff_eq.2 h2
  have bq3 := beq_iff_eq.2 h3
  have bq4 : (cV (valk.val n23_3_1 n23_3_2 s23_3_3 x23_3_4 e23_3_4 x23_3_5 e23_3_5 x23_3_6 e23_3_6) (valk.val n23_8_1 n23_8_2 s23_8_3 x23_8_4 e23_8_4 x23_8_5 e23_8_5 x23_8_6 e23_8_6) != (0 : Int)) = false := (by rw [bne, Bool.not_eq_false']; exact beq_iff_eq.2 h4)
  fin_loop (fs (fun _ => false) 22 2 [2, 3, 6] (rv_ok cV k n s xb eb xf ef xl el k' n' s' xb' eb' xf' ef' xl' el' s23_3_0 n23_3_1 n23_3_2 s23_3_3 x23_3_4 e23_3_4 x23_3_5 e23_3_5 x23_3_6 e23_3_6 s23_8_0 n23_8_1 n23_8_2 s23_8_3 x23_8_4 e23_8_4 x23_8_5 e23_8_5 x23_8_6 e23_8_6 0 0 bE false [] false [] false [] 0 0 bE false [] false [] false []) (pth 10 511) (ac bq4 (ac h5 (ac bq3 (ac h6 (ac bq2 (ac (show Ret P T 30 [D.int .i64 (classU n23_3_1), D.int .i64 (classU n23_8_1)] [] (D.int .i64 (sgnU (classU n23_3_1) (classU n23_8_1))) [] from (sgn56 _ _)) (ac (show Ret P T 31 [D.int .i64 n23_8_1] [] (D.int .i64 (classU n23_8_1)) [] from (cls35 _)) (ac (show Ret P T 31 [D.int .i64 n23_3_1] [] (D.int .i64 (classU n23_3_1)) [] from (cls35 _)) (ac h7 (ac h8 (ac h7 (ac h9 (ac bq1 (ac bq0 (ac (ktt bq0) (ac (ktt bq0) (ac (ktt bq0) (ac (ktt bq0) (ac (ktt bq0) an))))))))))))))))))) g)

theorem rv_0_2 {cV : Cs → Cs → Int} {k n : Int} {s : ByteArray} {xb : Bool} {eb : Es} {xf : Bool} {ef : Es} {xl : Bool} {el : Es} {k' n' : Int} {s' : ByteArray} {xb' : Bool} {eb' : Es} {xf' : Bool} {ef' : Es} {xl' : Bool} {el' : Es} {n6 : Int} {s23_3_0 : ByteArray} {n23_3_1 n23_3_2 : Int} {s23_3_3 : ByteArray} {x23_3_4 : Bool} {e23_3_4 : List (List D)} {x23_3_5 : Bool} {e23_3_5 : List (List D)} {x23_3_6 : Bool} {e23_3_6 : List (List D)} {s23_8_0 : ByteArray} {n23_8_1 n23_8_2 : Int} {s23_8_3 : ByteArray} {x23_8_4 : Bool} {e23_8_4 : List (List D)} {x23_8_5 : Bool} {e23_8_5 : List (List D)} {x23_8_6 : Bool} {e23_8_6 : List (List D)} (h0 : n6 < (↑(List.length ef) : Int)) (h1 : n6 < (↑(List.length ef') : Int)) (h2 : sgnU (classU n23_3_1) (classU n23_8_1) = (0 : Int)) (h3 : lexB s23_3_0 s23_8_0 ≠ (0 : Int)) (h4 : lexB s23_3_0 s23_8_0 ≠ (0 : Int)) (h5 : Ret P T 32 [D.str s23_3_0, D.str s23_8_0] [] (D.int .i64 (lexB s23_3_0 s23_8_0)) []) (h6 : (0 : Int) ≤ n6) (h7 : ef'[n6.toNat]? = some (D.str s23_8_0 :: valk.val n23_8_1 n23_8_2 s23_8_3 x23_8_4 e23_8_4 x23_8_5 e23_8_5 x23_8_6 e23_8_6)) (h8 : ef[n6.toNat]? = some (D.str s23_3_0 :: valk.val n23_3_1 n23_3_2 s23_3_3 x23_3_4 e23_3_4 x23_3_5 e23_3_5 x23_3_6 e23_3_6)) : rv_at0 cV k n s xb eb xf ef xl el k' n' s' xb' eb' xf' ef' xl' el' n6 (D.int .i64 (lexB s23_3_0 s23_8_0)) [] :=
  have bq0 := decide_eq_true h0
  have bq1 := decide_eq_true h1
  have bq2 := beq_iff_eq.2 h2
  have bq3 := beq_eq_false_iff_ne.2 h3
  have bq4 : (lexB s23_3_0 s23_8_0 != (0 : Int)) = true := bne_iff_ne.2 h4
  fin_loop (fr 22 0 (rv_ok cV k n s xb eb xf ef xl el k' n' s' xb' eb' xf' ef' xl' el' s23_3_0 n23_3_1 n23_3_2 s23_3_3 x23_3_4 e23_3_4 x23_3_5 e23_3_5 x23_3_6 e23_3_6 s23_8_0 n23_8_1 n23_8_2 s23_8_3 x23_8_4 e23_8_4 x23_8_5 e23_8_5 x23_8_6 e23_8_6 0 0 bE false [] false [] false [] 0 0 bE false [] false [] false []) (pth 10 767) (ac bq4 (ac bq3 (ac h5 (ac bq2 (ac (show Ret P T 30 [D.int .i64 (classU n23_3_1), D.int .i64 (classU n23_8_1)] [] (D.int .i64 (sgnU (classU n23_3_1) (classU n23_8_1))) [] from (sgn56 _ _)) (ac (show Ret P T 31 [D.int .i64 n23_8_1] [] (D.int .i64 (classU n23_8_1)) [] from (cls35 _)) (ac (show Ret P T 31 [D.int .i64 n23_3_1] [] (D.int .i64 (classU n23_3_1)) [] from (cls35 _)) (ac h6 (ac h7 (ac h6 (ac h8 (ac bq1 (ac bq0 (ac (ktt bq0) (ac (ktt bq0) (ac (ktt bq0) (ac (ktt bq0) (ac (ktt bq0) an)))))))))))))))))))

theorem rv_0_3 {cV : Cs → Cs → Int} {k n : Int} {s : ByteArray} {xb : Bool} {eb : Es} {xf : Bool} {ef : Es} {xl : Bool} {el : Es} {k' n' : Int} {s' : ByteArray} {xb' : Bool} {eb' : Es} {xf' : Bool} {ef' : Es} {xl' : Bool} {el' : Es} {n6 : Int} {s23_3_0 : ByteArray} {n23_3_1 n23_3_2 : Int} {s23_3_3 : ByteArray} {x23_3_4 : Bool} {e23_3_4 : List (List D)} {x23_3_5 : Bool} {e23_3_5 : List (List D)} {x23_3_6 : Bool} {e23_3_6 : List (List D)} {s23_8_0 : ByteArray} {n23_8_1 n23_8_2 : Int} {s23_8_3 : ByteArray} {x23_8_4 : Bool} {e23_8_4 : List (List D)} {x23_8_5 : Bool} {e23_8_5 : List (List D)} {x23_8_6 : Bool} {e23_8_6 : List (List D)} {r : D} {H1 : GD.Heap} (h0 : n6 < (↑(List.length ef) : Int)) (h1 : n6 < (↑(List.length ef') : Int)) (h2 : sgnU (classU n23_3_1) (classU n23_8_1) = (0 : Int)) (h3 : lexB s23_3_0 s23_8_0 ≠ (0 : Int)) (h4 : lexB s23_3_0 s23_8_0 = (0 : Int)) (h5 : Ret P T 32 [D.str s23_3_0, D.str s23_8_0] [] (D.int .i64 (lexB s23_3_0 s23_8_0)) []) (h6 : (0 : Int) ≤ n6) (h7 : ef'[n6.toNat]? = some (D.str s23_8_0 :: valk.val n23_8_1 n23_8_2 s23_8_3 x23_8_4 e23_8_4 x23_8_5 e23_8_5 x23_8_6 e23_8_6)) (h8 : ef[n6.toNat]? = some (D.str s23_3_0 :: valk.val n23_3_1 n23_3_2 s23_3_3 x23_3_4 e23_3_4 x23_3_5 e23_3_5 x23_3_6 e23_3_6)) (g : rv_at0 cV k n s xb eb xf ef xl el k' n' s' xb' eb' xf' ef' xl' el' (IntKind.i64.wrap (n6 + (1 : Int))) r H1) : rv_at0 cV k n s xb eb xf ef xl el k' n' s' xb' eb' xf' ef' xl' el' n6 r H1 :=
  have bq0 := decide_eq_true h0
  have bq1 := decide_eq_true h1
  have bq2 := beq_iff_eq.2 h2
  have bq3 := beq_eq_false_iff_ne.2 h3
  have bq4 : (lexB s23_3_0 s23_8_0 != (0 : Int)) = false := (by rw [bne, Bool.not_eq_false']; exact beq_iff_eq.2 h4)
  fin_loop (fs (fun _ => false) 22 2 [2, 3, 6] (rv_ok cV k n s xb eb xf ef xl el k' n' s' xb' eb' xf' ef' xl' el' s23_3_0 n23_3_1 n23_3_2 s23_3_3 x23_3_4 e23_3_4 x23_3_5 e23_3_5 x23_3_6 e23_3_6 s23_8_0 n23_8_1 n23_8_2 s23_8_3 x23_8_4 e23_8_4 x23_8_5 e23_8_5 x23_8_6 e23_8_6 0 0 bE false [] false [] false [] 0 0 bE false [] false [] false []) (pth 10 255) (ac bq4 (ac bq3 (ac h5 (ac bq2 (ac (show Ret P T 30 [D.int .i64 (classU n23_3_1), D.int .i64 (classU n23_8_1)] [] (D.int .i64 (sgnU (classU n23_3_1) (classU n23_8_1))) [] from (sgn56 _ _)) (ac (show Ret P T 31 [D.int .i64 n23_8_1] [] (D.int .i64 (classU n23_8_1)) [] from (cls35 _)) (ac (show Ret P T 31 [D.int .i64 n23_3_1] [] (D.int .i64 (classU n23_3_1)) [] from (cls35 _)) (ac h6 (ac h7 (ac h6 (ac h8 (ac bq1 (ac bq0 (ac (ktt bq0) (ac (ktt bq0) (ac (ktt bq0) (ac (ktt bq0) (ac (ktt bq0) an)))))))))))))))))) g)

theorem rv_0_4 {cV : Cs → Cs → Int} {k n : Int} {s : ByteArray} {xb : Bool} {eb : Es} {xf : Bool} {ef : Es} {xl : Bool} {el : Es} {k' n' : Int} {s' : ByteArray} {xb' : Bool} {eb' : Es} {xf' : Bool} {ef' : Es} {xl' : Bool} {el' : Es} {n6 : Int} {s23_3_0 : ByteArray} {n23_3_1 n23_3_2 : Int} {s23_3_3 : ByteArray} {x23_3_4 : Bool} {e23_3_4 : List (List D)} {x23_3_5 : Bool} {e23_3_5 : List (List D)} {x23_3_6 : Bool} {e23_3_6 : List (List D)} {s23_8_0 : ByteArray} {n23_8_1 n23_8_2 : Int} {s23_8_3 : ByteArray} {x23_8_4 : Bool} {e23_8_4 : List (List D)} {x23_8_5 : Bool} {e23_8_5 : List (List D)} {x23_8_6 : Bool} {e23_8_6 : List (List D)} (h0 : n6 < (↑(List.length ef) : Int)) (h1 : n6 < (↑(List.length ef') : Int)) (h2 : sgnU (classU n23_3_1) (classU n23_8_1) ≠ (0 : Int)) (h3 : sgnU (classU n23_3_1) (classU n23_8_1) ≠ (0 : Int)) (h4 : (0 : Int) ≤ n6) (h5 : ef'[n6.toNat]? = some (D.str s23_8_0 :: valk.val n23_8_1 n23_8_2 s23_8_3 x23_8_4 e23_8_4 x23_8_5 e23_8_5 x23_8_6 e23_8_6)) (h6 : ef[n6.toNat]? = some (D.str s23_3_0 :: valk.val n23_3_1 n23_3_2 s23_3_3 x23_3_4 e23_3_4 x23_3_5 e23_3_5 x23_3_6 e23_3_6)) : rv_at0 cV k n s xb eb xf ef xl el k' n' s' xb' eb' xf' ef' xl' el' n6 (D.int .i64 (sgnU (classU n23_3_1) (classU n23_8_1))) [] :=
  have bq0 := decide_eq_true h0
  have bq1 := decide_eq_true h1
  have bq2 := beq_eq_false_iff_ne.2 h2
  have bq3 : (sgnU (classU n23_3_1) (classU n23_8_1) != (0 : Int)) = true := bne_iff_ne.2 h3
  fin_loop (fr 22 0 (rv_ok cV k n s xb eb xf ef xl el k' n' s' xb' eb' xf' ef' xl' el' s23_3_0 n23_3_1 n23_3_2 s23_3_3 x23_3_4 e23_3_4 x23_3_5 e23_3_5 x23_3_6 e23_3_6 s23_8_0 n23_8_1 n23_8_2 s23_8_3 x23_8_4 e23_8_4 x23_8_5 e23_8_5 x23_8_6 e23_8_6 0 0 bE false [] false [] false [] 0 0 bE false [] false [] false []) (pth 10 639) (ac bq3 (ac bq2 (ac bq2 (ac (show Ret P T 30 [D.int .i64 (classU n23_3_1), D.int .i64 (classU n23_8_1)] [] (D.int .i64 (sgnU (classU n23_3_1) (classU n23_8_1))) [] from (sgn56 _ _)) (ac (show Ret P T 31 [D.int .i64 n23_8_1] [] (D.int .i64 (classU n23_8_1)) [] from (cls35 _)) (ac (show Ret P T 31 [D.int .i64 n23_3_1] [] (D.int .i64 (classU n23_3_1)) [] from (cls35 _)) (ac h4 (ac h5 (ac h4 (ac h6 (ac bq1 (ac bq0 (ac (ktt bq0) (ac (ktt bq0) (ac (ktt bq0) (ac (ktt bq0) (ac (ktt bq0) an))))))))))))))))))

theorem rv_0_5 {cV : Cs → Cs → Int} {k n : Int} {s : ByteArray} {xb : Bool} {eb : Es} {xf : Bool} {ef : Es} {xl : Bool} {el : Es} {k' n' : Int} {s' : ByteArray} {xb' : Bool} {eb' : Es} {xf' : Bool} {ef' : Es} {xl' : Bool} {el' : Es} {n6 : Int} {s23_3_0 : ByteArray} {n23_3_1 n23_3_2 : Int} {s23_3_3 : ByteArray} {x23_3_4 : Bool} {e23_3_4 : List (List D)} {x23_3_5 : Bool} {e23_3_5 : List (List D)} {x23_3_6 : Bool} {e23_3_6 : List (List D)} {s23_8_0 : ByteArray} {n23_8_1 n23_8_2 : Int} {s23_8_3 : ByteArray} {x23_8_4 : Bool} {e23_8_4 : List (List D)} {x23_8_5 : Bool} {e23_8_5 : List (List D)} {x23_8_6 : Bool} {e23_8_6 : List (List D)} {r : D} {H1 : GD.Heap} (h0 : n6 < (↑(List.length ef) : Int)) (h1 : n6 < (↑(List.length ef') : Int)) (h2 : sgnU (classU n23_3_1) (classU n23_8_1) ≠ (0 : Int)) (h3 : sgnU (classU n23_3_1) (classU n23_8_1) = (0 : Int)) (h4 : (0 : Int) ≤ n6) (h5 : ef'[n6.toNat]? = some (D.str s23_8_0 :: valk.val n23_8_1 n23_8_2 s23_8_3 x23_8_4 e23_8_4 x23_8_5 e23_8_5 x23_8_6 e23_8_6)) (h6 : ef[n6.toNat]? = some (D.str s23_3_0 :: valk.val n23_3_1 n23_3_2 s23_3_3 x23_3_4 e23_3_4 x23_3_5 e23_3_5 x23_3_6 e23_3_6)) (g : rv_at0 cV k n s xb eb xf ef xl el k' n' s' xb' eb' xf' ef' xl' el' (IntKind.i64.wrap (n6 + (1 : Int))) r H1) : rv_at0 cV k n s xb eb xf ef xl el k' n' s' xb' eb' xf' ef' xl' el' n6 r H1 :=
  have bq0 := decide_eq_true h0
  have bq1 := decide_eq_true h1
  have bq2 := beq_eq_false_iff_ne.2 h2
  have bq3 : (sgnU (classU n23_3_1) (classU n23_8_1) != (0 : Int)) = false := (by rw [bne, Bool.not_eq_false']; exact beq_iff_eq.2 h3)
  fin_loop (fs (fun _ => false) 22 2 [2, 3, 6] (rv_ok cV k n s xb eb xf ef xl el k' n' s' xb' eb' xf' ef' xl' el' s23_3_0 n23_3_1 n23_3_2 s23_3_3 x23_3_4 e23_3_4 x23_3_5 e23_3_5 x23_3_6 e23_3_6 s23_8_0 n23_8_1 n23_8_2 s23_8_3 x23_8_4 e23_8_4 x23_8_5 e23_8_5 x23_8_6 e23_8_6 0 0 bE false [] false [] false [] 0 0 bE false [] false [] false []) (pth 10 127) (ac bq3 (ac bq2 (ac bq2 (ac (show Ret P T 30 [D.int .i64 (classU n23_3_1), D.int .i64 (classU n23_8_1)] [] (D.int .i64 (sgnU (classU n23_3_1) (classU n23_8_1))) [] from (sgn56 _ _)) (ac (show Ret P T 31 [D.int .i64 n23_8_1] [] (D.int .i64 (classU n23_8_1)) [] from (cls35 _)) (ac (show Ret P T 31 [D.int .i64 n23_3_1] [] (D.int .i64 (classU n23_3_1)) [] from (cls35 _)) (ac h4 (ac h5 (ac h4 (ac h6 (ac bq1 (ac bq0 (ac (ktt bq0) (ac (ktt bq0) (ac (ktt bq0) (ac (ktt bq0) (ac (ktt bq0) an))))))))))))))))) g)

theorem rv_0_6 {cV : Cs → Cs → Int} {k n : Int} {s : ByteArray} {xb : Bool} {eb : Es} {xf : Bool} {ef : Es} {xl : Bool} {el : Es} {k' n' : Int} {s' : ByteArray} {xb' : Bool} {eb' : Es} {xf' : Bool} {ef' : Es} {xl' : Bool} {el' : Es} {n6 : Int} (h0 : n6 < (↑(List.length ef) : Int)) (h1 : ¬ (n6 < (↑(List.length ef') : Int))) : rv_at0 cV k n s xb eb xf ef xl el k' n' s' xb' eb' xf' ef' xl' el' n6 (D.int .i64 (sgnU (↑(List.length ef) : Int) (↑(List.length ef') : Int))) [] :=
  have bq0 := decide_eq_true h0
  have bq1 := decide_eq_false h1
  fin_loop (fr 22 0 (rv_ok cV k n s xb eb xf ef xl el k' n' s' xb' eb' xf' ef' xl' el' bE 0 0 bE false [] false [] false [] bE 0 0 bE false [] false [] false [] 0 0 bE false [] false [] false [] 0 0 bE false [] false [] false []) (pth 7 63) (ac (show Ret P T 30 [D.int .i64 (↑(List.length ef) : Int), D.int .i64 (↑(List.length ef') : Int)] [] (D.int .i64 (sgnU (↑(List.length ef) : Int) (↑(List.length ef') : Int))) [] from (sgn56 _ _)) (ac bq1 (ac bq0 (ac (ktt bq0) (ac (ktt bq0) (ac (ktt bq0) (ac (ktt bq0) (ac (ktt bq0) an)))))))))

theorem rv_0_7 {cV : Cs → Cs → Int} {k n : Int} {s : ByteArray} {xb : Bool} {eb : Es} {xf : Bool} {ef : Es} {xl : Bool} {el : Es} {k' n' : Int} {s' : ByteArray} {xb' : Bool} {eb' : Es} {xf' : Bool} {ef' : Es} {xl' : Bool} {el' : Es} {n6 : Int} (h0 : ¬ (n6 < (↑(List.length ef) : Int))) : rv_at0 cV k n s xb eb xf ef xl el k' n' s' xb' eb' xf' ef' xl' el' n6 (D.int .i64 (sgnU (↑(List.length ef) : Int) (↑(List.length ef') : Int))) [] :=
  have bq0 := decide_eq_false h0
  fin_loop (fr 22 0 (rv_ok cV k n s xb eb xf ef xl el k' n' s' xb' eb' xf' ef' xl' el' bE 0 0 bE false [] false [] false [] bE 0 0 bE false [] false [] false [] 0 0 bE false [] false [] false [] 0 0 bE false [] false [] false []) (pth 7 0) (ac (show Ret P T 30 [D.int .i64 (↑(List.length ef) : Int), D.int .i64 (↑(List.length ef') : Int)] [] (D.int .i64 (sgnU (↑(List.length ef) : Int) (↑(List.length ef') : Int))) [] from (sgn56 _ _)) (ac (show false = false from rfl) (ac bq0 (ac (kft bq0) (ac (kft bq0) (ac (kft bq0) (ac (kft bq0) (ac (kft bq0) an)))))))))

theorem rv_1_0 {cV : Cs → Cs → Int} {k n : Int} {s : ByteArray} {xb : Bool} {eb : Es} {xf : Bool} {ef : Es} {xl : Bool} {el : Es} {k' n' : Int} {s' : ByteArray} {xb' : Bool} {eb' : Es} {xf' : Bool} {ef' : Es} {xl' : Bool} {el' : Es} {n9 n36_3_0 n36_3_1 : Int} {s36_3_2 : ByteArray} {x36_3_3 : Bool} {e36_3_3 : List (List D)} {x36_3_4 : Bool} {e36_3_4 : List (List D)} {x36_3_5 : Bool} {e36_3_5 : List (List D)} {n36_8_0 n36_8_1 : Int} {s36_8_2 : ByteArray} {x36_8_3 : Bool} {e36_8_3 : List (List D)} {x36_8_4 : Bool} {e36_8_4 : List (List D)} {x36_8_5 : Bool} {e36_8_5 : List (List D)} (h0 : n9 < (↑(List.length el) : Int)) (h1 : n9 < (↑(List.length el') : Int)) (h2 : cV (valk.val n36_3_0 n36_3_1 s36_3_2 x36_3_3 e36_3_3 x36_3_4 e36_3_4 x36_3_5 e36_3_5) (valk.val n36_8_0 n36_8_1 s36_8_2 x36_8_3 e36_8_3 x36_8_4 e36_8_4 x36_8_5 e36_8_5) ≠ (0 : Int)) (h3 : Ret P T 22 [D.agg (valk.val n36_3_0 n36_3_1 s36_3_2 x36_3_3 e36_3_3 x36_3_4 e36_3_4 x36_3_5 e36_3_5), D.agg (valk.val n36_8_0 n36_8_1 s36_8_2 x36_8_3 e36_8_3 x36_8_4 e36_8_4 x36_8_5 e36_8_5)] [] (D.int .i64 (cV (valk.val n36_3_0 n36_3_1 s36_3_2 x36_3_3 e36_3_3 x36_3_4 e36_3_4 x36_3_5 e36_3_5) (valk.val n36_8_0 n36_8_1 s36_8_2 x36_8_3 e36_8_3 x36_8_4 e36_8_4 x36_8_5 e36_8_5))) []) (h4 : (0 : Int) ≤ n9) (h5 : el'[n9.toNat]? = some (valk.val n36_8_0 n36_8_1 s36_8_2 x36_8_3 e36_8_3 x36_8_4 e36_8_4 x36_8_5 e36_8_5)) (h6 : el[n9.toNat]? = some (valk.val n36_3_0 n36_3_1 s36_3_2 x36_3_3 e36_3_3 x36_3_4 e36_3_4 x36_3_5 e36_3_5)) : rv_at1 cV k n s xb eb xf ef xl el k' n' s' xb' eb' xf' ef' xl' el' n9 (D.int .i64 (cV (valk.val n36_3_0 n36_3_1 s36_3_2 x36_3_3 e36_3_3 x36_3_4 e36_3_4 x36_3_5 e36_3_5) (valk.val n36_8_0 n36_8_1 s36_8_2 x36_8_3 e36_8_3 x36_8_4 e36_8_4 x36_8_5 e36_8_5))) [] :=
  have bq0 := decide_eq_true h0
  have bq1 := decide_eq_true h1
  have bq2 : (cV (valk.val n36_3_0 n36_3_1 s36_3_2 x36_3_3 e36_3_3 x36_3_4 e36_3_4 x36_3_5 e36_3_5) (valk.val n36_8_0 n36_8_1 s36_8_2 x36_8_3 e36_8_3 x36_8_4 e36_8_4 x36_8_5 e36_8_5) != (0 : Int)) = true := bne_iff_ne.2 h2
  fin_loop (fr 22 0 (rv_ok cV k n s xb eb xf ef xl el k' n' s' xb' eb' xf' ef' xl' el' bE 0 0 bE false [] false [] false [] bE 0 0 bE false [] false [] false [] n36_3_0 n36_3_1 s36_3_2 x36_3_3 e36_3_3 x36_3_4 e36_3_4 x36_3_5 e36_3_5 n36_8_0 n36_8_1 s36_8_2 x36_8_3 e36_8_3 x36_8_4 e36_8_4 x36_8_5 e36_8_5) (pth 8 255) (ac bq2 (ac h3 (ac h4 (ac h5 (ac h4 (ac h6 (ac bq1 (ac bq0 (ac (ktt bq0) (ac (ktt bq0) (ac (ktt bq0) (ac (ktt bq0) (ac (ktt bq0) an))))))))))))))

theorem rv_1_1 {cV : Cs → Cs → Int} {k n : Int} {s : ByteArray} {xb : Bool} {eb : Es} {xf : Bool} {ef : Es} {xl : Bool} {el : Es} {k' n' : Int} {s' : ByteArray} {xb' : Bool} {eb' : Es} {xf' : Bool} {ef' : Es} {xl' : Bool} {el' : Es} {n9 n36_3_0 n36_3_1 : Int} {s36_3_2 : ByteArray} {x36_3_3 : Bool} {e36_3_3 : List (List D)} {x36_3_4 : Bool} {e36_3_4 : List (List D)} {x36_3_5 : Bool} {e36_3_5 : List (List D)} {n36_8_0 n36_8_1 : Int} {s36_8_2 : ByteArray} {x36_8_3 : Bool} {e36_8_3 : List (List D)} {x36_8_4 : Bool} {e36_8_4 : List (List D)} {x36_8_5 : Bool} {e36_8_5 : List (List D)} {r : D} {H1 : GD.Heap} (h0 : n9 < (↑(List.length el) : Int)) (h1 : n9 < (↑(List.length el') : Int)) (h2 : cV (valk.val n36_3_0 n36_3_1 s36_3_2 x36_3_3 e36_3_3 x36_3_4 e36_3_4 x36_3_5 e36_3_5) (valk.val n36_8_0 n36_8_1 s36_8_2 x36_8_3 e36_8_3 x36_8_4 e36_8_4 x36_8_5 e36_8_5) = (0 : Int)) (h3 : Ret P T 22 [D.agg (valk.val n36_3_0 n36_3_1 s36_3_2 x36_3_3 e36_3_3 x36_3_4 e36_3_4 x36_3_5 e36_3_5), D.agg (valk.val n36_8_0 n36_8_1 s36_8_2 x36_8_3 e36_8_3 x36_8_4 e36_8_4 x36_8_5 e36_8_5)] [] (D.int .i64 (cV (valk.val n36_3_0 n36_3_1 s36_3_2 x36_3_3 e36_3_3 x36_3_4 e36_3_4 x36_3_5 e36_3_5) (valk.val n36_8_0 n36_8_1 s36_8_2 x36_8_3 e36_8_3 x36_8_4 e36_8_4 x36_8_5 e36_8_5))) []) (h4 : (0 : Int) ≤ n9) (h5 : el'[n9.toNat]? = some (valk.val n36_8_0 n36_8_1 s36_8_2 x36_8_3 e36_8_3 x36_8_4 e36_8_4 x36_8_5 e36_8_5)) (h6 : el[n9.toNat]? = some (valk.val n36_3_0 n36_3_1 s36_3_2 x36_3_3 e36_3_3 x36_3_4 e36_3_4 x36_3_5 e36_3_5)) (g : rv_at1 cV k n s xb eb xf ef xl el k' n' s' xb' eb' xf' ef' xl' el' (IntKind.i64.wrap (n9 + (1 : Int))) r H1) : rv_at1 cV k n s xb eb xf ef xl el k' n' s' xb' eb' xf' ef' xl' el' n9 r H1 :=
  have bq0 := decide_eq_true h0
  have bq1 := decide_eq_true h1
  have bq2 : (cV (valk.val n36_3_0 n36_3_1 s36_3_2 x36_3_3 e36_3_3 x36_3_4 e36_3_4 x36_3_5 e36_3_5) (valk.val n36_8_0 n36_8_1 s36_8_2 x36_8_3 e36_8_3 x36_8_4 e36_8_4 x36_8_5 e36_8_5) != (0 : Int)) = false := (by rw [bne, Bool.not_eq_false']; exact beq_iff_eq.2 h2)
  fin_loop (fs (fun _ => false) 22 2 [2, 3, 9] (rv_ok cV k n s xb eb xf ef xl el k' n' s' xb' eb' xf' ef' xl' el' bE 0 0 bE false [] false [] false [] bE 0 0 bE false [] false [] false [] n36_3_0 n36_3_1 s36_3_2 x36_3_3 e36_3_3 x36_3_4 e36_3_4 x36_3_5 e36_3_5 n36_8_0 n36_8_1 s36_8_2 x36_8_3 e36_8_3 x36_8_4 e36_8_4 x36_8_5 e36_8_5) (pth 8 127) (ac bq2 (ac h3 (ac h4 (ac h5 (ac h4 (ac h6 (ac bq1 (ac bq0 (ac (ktt bq0) (ac (ktt bq0) (ac (ktt bq0) (ac (ktt bq0) (ac (ktt bq0) an))))))))))))) g)

theorem rv_1_2 {cV : Cs → Cs → Int} {k n : Int} {s : ByteArray} {xb : Bool} {eb : Es} {xf : Bool} {ef : Es} {xl : Bool} {el : Es} {k' n' : Int} {s' : ByteArray} {xb' : Bool} {eb' : Es} {xf' : Bool} {ef' : Es} {xl' : Bool} {el' : Es} {n9 : Int} (h0 : n9 < (↑(List.length el) : Int)) (h1 : ¬ (n9 < (↑(List.length el') : Int))) : rv_at1 cV k n s xb eb xf ef xl el k' n' s' xb' eb' xf' ef' xl' el' n9 (D.int .i64 (sgnU (↑(List.length el) : Int) (↑(List.length el') : Int))) [] :=
  have bq0 := decide_eq_true h0
  have bq1 := decide_eq_false h1
  fin_loop (fr 22 0 (rv_ok cV k n s xb eb xf ef xl el k' n' s' xb' eb' xf' ef' xl' el' bE 0 0 bE false [] false [] false [] bE 0 0 bE false [] false [] false [] 0 0 bE false [] false [] false [] 0 0 bE false [] false [] false []) (pth 7 63) (ac (show Ret P T 30 [D.int .i64 (↑(List.length el) : Int), D.int .i64 (↑(List.length el') : Int)] [] (D.int .i64 (sgnU (↑(List.length el) : Int) (↑(List.length el') : Int))) [] from (sgn56 _ _)) (ac bq1 (ac bq0 (ac (ktt bq0) (ac (ktt bq0) (ac (ktt bq0) (ac (ktt bq0) (ac (ktt bq0) an)))))))))

theorem rv_1_3 {cV : Cs → Cs → Int} {k n : Int} {s : ByteArray} {xb : Bool} {eb : Es} {xf : Bool} {ef : Es} {xl : Bool} {el : Es} {k' n' : Int} {s' : ByteArray} {xb' : Bool} {eb' : Es} {xf' : Bool} {ef' : Es} {xl' : Bool} {el' : Es} {n9 : Int} (h0 : ¬ (n9 < (↑(List.length el) : Int))) : rv_at1 cV k n s xb eb xf ef xl el k' n' s' xb' eb' xf' ef' xl' el' n9 (D.int .i64 (sgnU (↑(List.length el) : Int) (↑(List.length el') : Int))) [] :=
  have bq0 := decide_eq_false h0
  fin_loop (fr 22 0 (rv_ok cV k n s xb eb xf ef xl el k' n' s' xb' eb' xf' ef' xl' el' bE 0 0 bE false [] false [] false [] bE 0 0 bE false [] false [] false [] 0 0 bE false [] false [] false [] 0 0 bE false [] false [] false []) (pth 7 0) (ac (show Ret P T 30 [D.int .i64 (↑(List.length el) : Int), D.int .i64 (↑(List.length el') : Int)] [] (D.int .i64 (sgnU (↑(List.length el) : Int) (↑(List.length el') : Int))) [] from (sgn56 _ _)) (ac (show false = false from rfl) (ac bq0 (ac (kft bq0) (ac (kft bq0) (ac (kft bq0) (ac (kft bq0) (ac (kft bq0) an)))))))))


/-! ### function 20 -/
theorem few_fn : Try.prog.funcs[(20 : Nat)]? = some (fnAt P 20) := by kernel_rfl
theorem few_body : (fnAt P 20).body = some (bodyAt P 20) := by kernel_rfl
theorem few_name : ((fnAt P 20).name == "runtime.NumGoroutine") = false := by kernel_rfl
noncomputable def few_C (smB : Cs → Bool) (wtE : Cs → Int → Int) (xb : Bool) (es : Es) (n5_2_0 n5_2_1 : Int) (s5_2_2 : ByteArray) (x5_2_3 : Bool) (e5_2_3 : List (List D)) (x5_2_4 : Bool) (e5_2_4 : List (List D)) (x5_2_5 : Bool) (e5_2_5 : List (List D)) (n7_3_0 n7_3_1 : Int) (s7_3_2 : ByteArray) (x7_3_3 : Bool) (e7_3_3 : List (List D)) (x7_3_4 : Bool) (e7_3_4 : List (List D)) (x7_3_5 : Bool) (e7_3_5 : List (List D)) : Cf := cfg Try.prog (hintOf [((20 : Nat), (5 : Nat), (2 : Nat), Hint.c (valk.val n5_2_0 n5_2_1 s5_2_2 x5_2_3 e5_2_3 x5_2_4 e5_2_4 x5_2_5 e5_2_5)), ((20 : Nat), (7 : Nat), (3 : Nat), Hint.c (valk.val n7_3_0 n7_3_1 s7_3_2 x7_3_3 e7_3_3 x7_3_4 e7_3_4 x7_3_5 e7_3_5))]) (tFew smB wtE xb es) (fun _ => false) 2 true (fun _ => false)
theorem few_ok (smB : Cs → Bool) (wtE : Cs → Int → Int) (xb : Bool) (es : Es) (n5_2_0 n5_2_1 : Int) (s5_2_2 : ByteArray) (x5_2_3 : Bool) (e5_2_3 : List (List D)) (x5_2_4 : Bool) (e5_2_4 : List (List D)) (x5_2_5 : Bool) (e5_2_5 : List (List D)) (n7_3_0 n7_3_1 : Int) (s7_3_2 : ByteArray) (x7_3_3 : Bool) (e7_3_3 : List (List D)) (x7_3_4 : Bool) (e7_3_4 : List (List D)) (x7_3_5 : Bool) (e7_3_5 : List (List D)) : CfOk (few_C smB wtE xb es n5_2_0 n5_2_1 s5_2_2 x5_2_3 e5_2_3 x5_2_4 e5_2_4 x5_2_5 e5_2_5 n7_3_0 n7_3_1 s7_3_2 x7_3_3 e7_3_3 x7_3_4 e7_3_4 x7_3_5 e7_3_5) := cfg_ok (by kernel_rfl)
noncomputable def few_run (smB : Cs → Bool) (wtE : Cs → Int → Int) (xb : Bool) (es : Es) (n5_2_0 n5_2_1 : Int) (s5_2_2 : ByteArray) (x5_2_3 : Bool) (e5_2_3 : List (List D)) (x5_2_4 : Bool) (e5_2_4 : List (List D)) (x5_2_5 : Bool) (e5_2_5 : List (List D)) (n7_3_0 n7_3_1 : Int) (s7_3_2 : ByteArray) (x7_3_3 : Bool) (e7_3_3 : List (List D)) (x7_3_4 : Bool) (e7_3_4 : List (List D)) (x7_3_5 : Bool) (e7_3_5 : List (List D)) (qcur : Cur) (qk : List It) (qs : St) (qor : GD.Or) := runE (few_C smB wtE xb es n5_2_0 n5_2_1 s5_2_2 x5_2_3 e5_2_3 x5_2_4 e5_2_4 x5_2_5 e5_2_5 n7_3_0 n7_3_1 s7_3_2 x7_3_3 e7_3_3 x7_3_4 e7_3_4 x7_3_5 e7_3_5) (callE (few_C smB wtE xb es n5_2_0 n5_2_1 s5_2_2 x5_2_3 e5_2_3 x5_2_4 e5_2_4 x5_2_5 e5_2_5 n7_3_0 n7_3_1 s7_3_2 x7_3_3 e7_3_3 x7_3_4 e7_3_4 x7_3_5 e7_3_5) 100000 10) 20 100000 qcur qk qs qor []
noncomputable def few_l0 : Code := (loopAt Try.prog 20 0).1
noncomputable def few_k0 : List It := (loopAt Try.prog 20 0).2
/- loop 0: n3:=(0 : Int); n4:=(0 : Int); -/
noncomputable def few_s0 (smB : Cs → Bool) (wtE : Cs → Int → Int) (xb : Bool) (es : Es) (n3 n4 : Int) : St := ⟨envOf 31 [(0, D.slice xb es none), (3, D.int .i64 n3), (4, D.int .i64 n4)], []⟩
def few_at0 (smB : Cs → Bool) (wtE : Cs → Int → Int) (xb : Bool) (es : Es) (n3 n4 : Int) (r : D) (H1 : GD.Heap) : Prop := GD.Fin Try.prog (tyOf Try.prog) (fnAt P 20) 0 (.code (.loop few_l0)) few_k0 (few_s0 smB wtE xb es n3 n4) r H1

theorem few_in_0 {smB : Cs → Bool} {wtE : Cs → Int → Int} {xb : Bool} {es : Es} {r : D} {H1 : GD.Heap} (g : few_at0 smB wtE xb es ((0 : Int)) ((0 : Int)) r H1) : Ret P T 20 [D.slice xb es none] [] r H1 :=
  fin_call few_fn few_body few_name (fs (fun _ => false) 20 0 [0, 3, 4] (few_ok smB wtE xb es 0 0 bE false [] false [] false [] 0 0 bE false [] false [] false []) (pth 0 0) an g)

theorem few_0_0 {smB : Cs → Bool} {wtE : Cs → Int → Int} {xb : Bool} {es : Es} {n3 n4 : Int} {n5_2_0 n5_2_1 : Int} {s5_2_2 : ByteArray} {x5_2_3 : Bool} {e5_2_3 : List (List D)} {x5_2_4 : Bool} {e5_2_4 : List (List D)} {x5_2_5 : Bool} {e5_2_5 : List (List D)} {n7_3_0 n7_3_1 : Int} {s7_3_2 : ByteArray} {x7_3_3 : Bool} {e7_3_3 : List (List D)} {x7_3_4 : Bool} {e7_3_4 : List (List D)} {x7_3_5 : Bool} {e7_3_5 : List (List D)} {r : D} {H1 : GD.Heap} (h0 : n4 < (↑(List.length es) : Int)) (h1 : smB (valk.val n5_2_0 n5_2_1 s5_2_2 x5_2_3 e5_2_3 x5_2_4 e5_2_4 x5_2_5 e5_2_5) = true) (h2 : Ret P T 25 [D.agg (valk.val n7_3_0 n7_3_1 s7_3_2 x7_3_3 e7_3_3 x7_3_4 e7_3_4 x7_3_5 e7_3_5), D.int .i64 (3000 : Int)] [] (D.int .i64 (wtE (valk.val n7_3_0 n7_3_1 s7_3_2 x7_3_3 e7_3_3 x7_3_4 e7_3_4 x7_3_5 e7_3_5) (3000 : Int))) []) (h3 : (0 : Int) ≤ n4) (h4 : es[n4.toNat]? = some (valk.val n7_3_0 n7_3_1 s7_3_2 x7_3_3 e7_3_3 x7_3_4 e7_3_4 x7_3_5 e7_3_5)) (h5 : Ret P T 24 [D.agg (valk.val n5_2_0 n5_2_1 s5_2_2 x5_2_3 e5_2_3 x5_2_4 e5_2_4 x5_2_5 e5_2_5)] [] (D.bool (smB (valk.val n5_2_0 n5_2_1 s5_2_2 x5_2_3 e5_2_3 x5_2_4 e5_2_4 x5_2_5 e5_2_5))) []) (h6 : es[n4.toNat]? = some (valk.val n5_2_0 n5_2_1 s5_2_2 x5_2_3 e5_2_3 x5_2_4 e5_2_4 x5_2_5 e5_2_5)) (g : few_at0 smB wtE xb es (IntKind.i64.wrap (n3 + wtE (valk.val n7_3_0 n7_3_1 s7_3_2 x7_3_3 e7_3_3 x7_3_4 e7_3_4 x7_3_5 e7_3_5) (3000 : Int))) (IntKind.i64.wrap (n4 + (1 : Int))) r H1) : few_at0 smB wtE xb es n3 n4 r H1 :=
  have bq0 := decide_eq_true h0
  have bq1 := h1
  fin_loop (fs (fun _ => false) 20 0 [0, 3, 4] (few_ok smB wtE xb es n5_2_0 n5_2_1 s5_2_2 x5_2_3 e5_2_3 x5_2_4 e5_2_4 x5_2_5 e5_2_5 n7_3_0 n7_3_1 s7_3_2 x7_3_3 e7_3_3 x7_3_4 e7_3_4 x7_3_5 e7_3_5) (pth 2 1) (ac h2 (ac h3 (ac h4 (ac (nb0 bq1) (ac h5 (ac h3 (ac h6 (ac bq0 an)))))))) g)

theorem few_0_1 {smB : Cs → Bool} {wtE : Cs → Int → Int} {xb : Bool} {es : Es} {n3 n4 : Int} {n5_2_0 n5_2_1 : Int} {s5_2_2 : ByteArray} {x5_2_3 : Bool} {e5_2_3 : List (List D)} {x5_2_4 : Bool} {e5_2_4 : List (List D)} {x5_2_5 : Bool} {e5_2_5 : List (List D)} (h0 : n4 < (↑(List.length es) : Int)) (h1 : smB (valk.val n5_2_0 n5_2_1 s5_2_2 x5_2_3 e5_2_3 x5_2_4 e5_2_4 x5_2_5 e5_2_5) = false) (h2 : Ret P T 24 [D.agg (valk.val n5_2_0 n5_2_1 s5_2_2 x5_2_3 e5_2_3 x5_2_4 e5_2_4 x5_2_5 e5_2_5)] [] (D.bool (smB (valk.val n5_2_0 n5_2_1 s5_2_2 x5_2_3 e5_2_3 x5_2_4 e5_2_4 x5_2_5 e5_2_5))) []) (h3 : (0 : Int) ≤ n4) (h4 : es[n4.toNat]? = some (valk.val n5_2_0 n5_2_1 s5_2_2 x5_2_3 e5_2_3 x5_2_4 e5_2_4 x5_2_5 e5_2_5)) : few_at0 smB wtE xb es n3 n4 (D.bool false) [] :=
  have bq0 := decide_eq_true h0
  have bq1 := h1
  fin_loop (fr 20 0 (few_ok smB wtE xb es n5_2_0 n5_2_1 s5_2_2 x5_2_3 e5_2_3 x5_2_4 e5_2_4 x5_2_5 e5_2_5 0 0 bE false [] false [] false []) (pth 2 3) (ac (nb1 bq1) (ac h2 (ac h3 (ac h4 (ac bq0 an))))))

theorem few_0_2 {smB : Cs → Bool} {wtE : Cs → Int → Int} {xb : Bool} {es : Es} {n3 n4 : Int} (h0 : ¬ (n4 < (↑(List.length es) : Int))) (h1 : (↑(List.length es) : Int) ≤ (30 : Int)) : few_at0 smB wtE xb es n3 n4 (D.bool (decide (n3 ≤ (6000 : Int)))) [] :=
  have bq0 := decide_eq_false h0
  have bq1 := decide_eq_true h1
  fin_loop (fr 20 0 (few_ok smB wtE xb es 0 0 bE false [] false [] false [] 0 0 bE false [] false [] false []) (pth 4 14) (ac bq1 (ac (ktt bq1) (ac (ktt bq1) (ac bq0 an)))))

theorem few_0_3 {smB : Cs → Bool} {wtE : Cs → Int → Int} {xb : Bool} {es : Es} {n3 n4 : Int} (h0 : ¬ (n4 < (↑(List.length es) : Int))) (h1 : ¬ ((↑(List.length es) : Int) ≤ (30 : Int))) : few_at0 smB wtE xb es n3 n4 (D.bool false) [] :=
  have bq0 := decide_eq_false h0
  have bq1 := decide_eq_false h1
  fin_loop (fr 20 0 (few_ok smB wtE xb es 0 0 bE false [] false [] false [] 0 0 bE false [] false [] false []) (pth 4 0) (ac bq1 (ac (kft bq1) (ac (kft bq1) (ac bq0 an)))))


open valk
theorem sgn_lt {a b : Int} (h : a < b) : sgnU a b = -1 := by unfold sgnU; rw [if_pos h]
theorem sgn_gt {a b : Int} (h : b < a) : sgnU a b = 1 := by unfold sgnU; rw [if_neg (by omega), if_pos h]
theorem sgn_eq {a b : Int} (h : a = b) : sgnU a b = 0 := by unfold sgnU; rw [if_neg (by omega), if_neg (by omega)]
theorem lx_pos {p q : Int} (h : p ≠ 0) : lx p q = p := by unfold lx; rw [if_pos h]
theorem lx_zero {p q : Int} (h : p = 0) : lx p q = q := by unfold lx; rw [if_neg (by simpa using h)]
theorem allB_rows {l : List Int} (h : ∀ x ∈ l, 0 ≤ x ∧ x ≤ 255) : (rows l).all isByteC = true := by
  rw [List.all_eq_true]
  intro c hc
  obtain ⟨x, hx, rfl⟩ := List.mem_map.1 hc
  obtain ⟨h1, h2⟩ := h x hx
  simp only [isByteC, Bool.and_eq_true, decide_eq_true_eq]
  omega
theorem bytesOf_rows (l : List Int) : (GD.bytesOf (rows l)).toList = Lib.bytesOf l := by
  rw [Lib.toList_data]
  simp [GD.bytesOf, rows, Lib.bytesOf, GD.byteOf, Function.comp_def]
theorem lexB_rows (a b : List Int) : lexB (GD.bytesOf (rows a)) (GD.bytesOf (rows b)) = cbE (rows a) (rows b) := by
  unfold lexB cbE
  rw [bytesOf_rows, bytesOf_rows, byteL_rows, byteL_rows]
theorem few31 (xb : Bool) (es : Es) (hl : es.length ≤ maxLen) (hv : ∀ c ∈ es, VS c) : ∃ b, Ret P T 20 [.slice xb es none] [] (.bool b) [] := by
  have key : ∀ (m i : Nat) (t : Int), i + m = es.length → ∃ b, few_at0 smallB W xb es t i (.bool b) [] := by
    intro m
    induction m with
    | zero =>
      intro i t hi
      by_cases h : (es.length : Int) ≤ 30
      · exact ⟨_, few_0_2 (by omega) h⟩
      · exact ⟨_, few_0_3 (by omega) h⟩
    | succ m ih =>
      intro i t hi
      have hlt : i < es.length := by omega
      have hvi := hv _ (List.getElem_mem hlt)
      obtain ⟨ck, cn, cs, yb, cb, yf, cf, yl, cl, hrow⟩ := hvi.get
      have hg : es[((i : Int)).toNat]? = some (valk.val ck cn cs yb cb yf cf yl cl) := by rw [Int.toNat_natCast, List.getElem?_eq_getElem hlt, hrow]
      rw [hrow] at hvi
      have h14 : Ret P T 24 [.agg (valk.val ck cn cs yb cb yf cf yl cl)] [] (.bool (smallB (valk.val ck cn cs yb cb yf cf yl cl))) [] := small hvi
      have h42 : Ret P T 25 [.agg (valk.val ck cn cs yb cb yf cf yl cl), .int .i64 3000] [] (.int .i64 (W (valk.val ck cn cs yb cb yf cf yl cl) 3000)) [] := W_ok (weight hvi 3000)
      cases hs : smallB (valk.val ck cn cs yb cb yf cf yl cl) with
      | false =>
        exact ⟨false, few_0_1 (smB := smallB) (by omega) hs h14 (by omega) hg⟩
      | true =>
        obtain ⟨b, g⟩ := ih (i + 1) (IntKind.i64.wrap (t + W (valk.val ck cn cs yb cb yf cf yl cl) 3000)) (by omega)
        refine ⟨b, few_0_0 (by omega) hs h42 (by omega) hg h14 hg ?_⟩
        rw [up hlt hl]
        exact g
  obtain ⟨b, g⟩ := key es.length 0 0 (by omega)
  exact ⟨b, few_in_0 g⟩
def zeroV : Cs := valk.val 0 0 (ByteArray.mk #[]) false [] false [] false []
theorem vs_zero : VS zeroV := .mk 0 0 _ _ _ _ _ _ _ [] (by omega) (by omega) (by decide) rfl (fun x hx => by cases hx) (by decide) (by decide) (by decide) (fun _ => rfl) (fun _ => rfl) (fun _ => rfl) (fun r hr => by cases hr) (fun nm c hc => by cases hc) (fun r hr => by cases hr)
theorem class_zero {k : Int} (h : classU k = 0) : k = 0 := by
  unfold classU at h
  split at h
  · omega
  · split at h
    · exact h
    · split at h <;> omega

end Go.Proofs.Ytlccdfilbiipmaa.ordk
