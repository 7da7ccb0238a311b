/- The small functions of pages (may, lay, read, Num, Get, Clone): what each comes to. -/
import Derived.Test.YtifpbdhggooelaaSealSum
import Derived.Test.YtifpbdhggooelaaGd32
namespace Go.Proofs.Ytifpbdhggooelaa.sealk
open Go Ytifpbdhggooelaa.GD
set_option linter.unusedVariables false
set_option linter.unusedSimpArgs false

abbrev Tab := FuncId → List D → GD.Heap → Option (D × GD.Heap)
def t0 : Tab := fun _ _ _ => none
noncomputable def a1 (p : Int) : List D × GD.Heap := ([.int .i64 p], [])
def tt1 (p : Int) : Tab := t0
noncomputable def aLay (es : Es) (st len : Nat) (n : Int) : List D × GD.Heap := ([.view 0 st len, .int .i64 n], [some (.row 1 es)])
def tLay (es : Es) (st len : Nat) (n : Int) : Tab := t0
noncomputable def aB (xb : Bool) (es : Es) : List D × GD.Heap := ([.slice xb es none], [])
def tB (xb : Bool) (es : Es) : Tab := t0
noncomputable def aV (es : Es) (st len : Nat) : List D × GD.Heap := ([.view 0 st len], [some (.row 1 es)])
def tV (es : Es) (st len : Nat) : Tab := t0
noncomputable def a2 (n w : Int) : List D × GD.Heap := ([.int .i64 n, .int .i64 w], [])
def t2 (n w : Int) : Tab := t0
noncomputable def a3 (xb : Bool) (es : Es) (a w : Int) : List D × GD.Heap := ([.slice xb es none, .int .i64 a, .int .i64 w], [])
def t3 (xb : Bool) (es : Es) (a w : Int) : Tab := t0

/-! ### function 46 -/
theorem may_fn : Try.prog.funcs[(46 : Nat)]? = some (fnAt Try.prog 46) := by kernel_rfl
theorem may_body : (fnAt Try.prog 46).body = some (bodyAt Try.prog 46) := by kernel_rfl
theorem may_name : ((fnAt Try.prog 46).name == "runtime.NumGoroutine") = false := by kernel_rfl
noncomputable def may_C (p : Int) : Cf := cfg Try.prog (hintOf []) (tt1 p) (fun _ => false) 2 true (fun _ => false)
theorem may_ok (p : Int) : CfOk (may_C p) := cfg_ok (by kernel_rfl)
noncomputable def may_run (p : Int) (cur : Cur) (k : List It) (s : St) (or : GD.Or) := runE (may_C p) (callE (may_C p) 100000 10) 46 100000 cur k s or []

theorem may_in_0 {p : Int}
    (h0 : p ≥ (64 : Int))
    (h1 : p ≤ (4096 : Int)) :
    Ret Try.prog (tyOf Try.prog) 46 [D.int IntKind.i64 p] [] (D.bool (andW IntKind.i64 p (IntKind.i64.wrap (p - (1 : Int))) == (0 : Int))) [] :=
  have b0 : decide (p ≥ (64 : Int)) = true := decide_eq_true h0
  have b1 : decide (p ≤ (4096 : Int)) = true := decide_eq_true h1
  fin_call may_fn may_body may_name (fin_ret (h := 0) (may_ok p) (show outF (tyOf Try.prog) (fnAt Try.prog 46) 0 (may_run p (.code (bodyAt Try.prog 46)) [] (beginE (fnAt Try.prog 46) [D.int IntKind.i64 p] []) (.path [true, true, true, true, true, true, true, true, true])) = some (D.bool (andW IntKind.i64 p (IntKind.i64.wrap (p - (1 : Int))) == (0 : Int)), [],
    [decide (p ≤ (4096 : Int)) = true,
      (decide (p ≤ (4096 : Int)) == true) = true,
      (decide (p ≤ (4096 : Int)) == true) = true,
      (decide (p ≤ (4096 : Int)) == true) = true,
      (decide (p ≤ (4096 : Int)) == true) = true,
      (decide (p ≤ (4096 : Int)) == true) = true,
      decide (p ≥ (64 : Int)) = true,
      (decide (p ≥ (64 : Int)) == true) = true,
      (decide (p ≥ (64 : Int)) == true) = true]) by kernel_rfl)
    (all_cons.2 ⟨b1, all_cons.2 ⟨(by rw [b1]; rfl), all_cons.2 ⟨(by rw [b1]; rfl), all_cons.2 ⟨(by rw [b1]; rfl), all_cons.2 ⟨(by rw [b1]; rfl), all_cons.2 ⟨(by rw [b1]; rfl), all_cons.2 ⟨b0, all_cons.2 ⟨(by rw [b0]; rfl), all_cons.2 ⟨(by rw [b0]; rfl), all_nil.2 trivial⟩⟩⟩⟩⟩⟩⟩⟩⟩))

theorem may_in_1 {p : Int}
    (h0 : p ≥ (64 : Int))
    (h1 : ¬ (p ≤ (4096 : Int))) :
    Ret Try.prog (tyOf Try.prog) 46 [D.int IntKind.i64 p] [] (D.bool false) [] :=
  have b0 : decide (p ≥ (64 : Int)) = true := decide_eq_true h0
  have b1 : decide (p ≤ (4096 : Int)) = false := decide_eq_false h1
  fin_call may_fn may_body may_name (fin_ret (h := 0) (may_ok p) (show outF (tyOf Try.prog) (fnAt Try.prog 46) 0 (may_run p (.code (bodyAt Try.prog 46)) [] (beginE (fnAt Try.prog 46) [D.int IntKind.i64 p] []) (.path [true, true, true, false, false, false, false, false, false])) = some (D.bool false, [],
    [decide (p ≤ (4096 : Int)) = false,
      (decide (p ≤ (4096 : Int)) == true) = false,
      (decide (p ≤ (4096 : Int)) == true) = false,
      (decide (p ≤ (4096 : Int)) == true) = false,
      (decide (p ≤ (4096 : Int)) == true) = false,
      (decide (p ≤ (4096 : Int)) == true) = false,
      decide (p ≥ (64 : Int)) = true,
      (decide (p ≥ (64 : Int)) == true) = true,
      (decide (p ≥ (64 : Int)) == true) = true]) by kernel_rfl)
    (all_cons.2 ⟨b1, all_cons.2 ⟨(by rw [b1]; rfl), all_cons.2 ⟨(by rw [b1]; rfl), all_cons.2 ⟨(by rw [b1]; rfl), all_cons.2 ⟨(by rw [b1]; rfl), all_cons.2 ⟨(by rw [b1]; rfl), all_cons.2 ⟨b0, all_cons.2 ⟨(by rw [b0]; rfl), all_cons.2 ⟨(by rw [b0]; rfl), all_nil.2 trivial⟩⟩⟩⟩⟩⟩⟩⟩⟩))

theorem may_in_2 {p : Int}
    (h0 : ¬ (p ≥ (64 : Int))) :
    Ret Try.prog (tyOf Try.prog) 46 [D.int IntKind.i64 p] [] (D.bool false) [] :=
  have b0 : decide (p ≥ (64 : Int)) = false := decide_eq_false h0
  fin_call may_fn may_body may_name (fin_ret (h := 0) (may_ok p) (show outF (tyOf Try.prog) (fnAt Try.prog 46) 0 (may_run p (.code (bodyAt Try.prog 46)) [] (beginE (fnAt Try.prog 46) [D.int IntKind.i64 p] []) (.path [false, false, false, false, false, false, false, false, false])) = some (D.bool false, [],
    [false = false,
      false = false,
      false = false,
      false = false,
      false = false,
      false = false,
      decide (p ≥ (64 : Int)) = false,
      (decide (p ≥ (64 : Int)) == true) = false,
      (decide (p ≥ (64 : Int)) == true) = false]) by kernel_rfl)
    (all_cons.2 ⟨rfl, all_cons.2 ⟨rfl, all_cons.2 ⟨rfl, all_cons.2 ⟨rfl, all_cons.2 ⟨rfl, all_cons.2 ⟨rfl, all_cons.2 ⟨b0, all_cons.2 ⟨(by rw [b0]; rfl), all_cons.2 ⟨(by rw [b0]; rfl), all_nil.2 trivial⟩⟩⟩⟩⟩⟩⟩⟩⟩))


/-! ### function 48 -/
theorem pageMay_fn : Try.prog.funcs[(48 : Nat)]? = some (fnAt Try.prog 48) := by kernel_rfl
theorem pageMay_body : (fnAt Try.prog 48).body = some (bodyAt Try.prog 48) := by kernel_rfl
theorem pageMay_name : ((fnAt Try.prog 48).name == "runtime.NumGoroutine") = false := by kernel_rfl
noncomputable def pageMay_C (p : Int) : Cf := cfg Try.prog (hintOf []) (tt1 p) (fun _ => false) 2 true (fun _ => false)
theorem pageMay_ok (p : Int) : CfOk (pageMay_C p) := cfg_ok (by kernel_rfl)
noncomputable def pageMay_run (p : Int) (cur : Cur) (k : List It) (s : St) (or : GD.Or) := runE (pageMay_C p) (callE (pageMay_C p) 100000 10) 48 100000 cur k s or []

theorem pageMay_in_0 {p : Int}
    (h0 : p ≥ (64 : Int))
    (h1 : p ≤ (4096 : Int)) :
    Ret Try.prog (tyOf Try.prog) 48 [D.int IntKind.i64 p] [] (D.bool (andW IntKind.i64 p (IntKind.i64.wrap (p - (1 : Int))) == (0 : Int))) [] :=
  have b0 : decide (p ≥ (64 : Int)) = true := decide_eq_true h0
  have b1 : decide (p ≤ (4096 : Int)) = true := decide_eq_true h1
  fin_call pageMay_fn pageMay_body pageMay_name (fin_ret (h := 0) (pageMay_ok p) (show outF (tyOf Try.prog) (fnAt Try.prog 48) 0 (pageMay_run p (.code (bodyAt Try.prog 48)) [] (beginE (fnAt Try.prog 48) [D.int IntKind.i64 p] []) (.path [true, true, true, true, true, true, true, true, true])) = some (D.bool (andW IntKind.i64 p (IntKind.i64.wrap (p - (1 : Int))) == (0 : Int)), [],
    [decide (p ≤ (4096 : Int)) = true,
      (decide (p ≤ (4096 : Int)) == true) = true,
      (decide (p ≤ (4096 : Int)) == true) = true,
      (decide (p ≤ (4096 : Int)) == true) = true,
      (decide (p ≤ (4096 : Int)) == true) = true,
      (decide (p ≤ (4096 : Int)) == true) = true,
      decide (p ≥ (64 : Int)) = true,
      (decide (p ≥ (64 : Int)) == true) = true,
      (decide (p ≥ (64 : Int)) == true) = true]) by kernel_rfl)
    (all_cons.2 ⟨b1, all_cons.2 ⟨(by rw [b1]; rfl), all_cons.2 ⟨(by rw [b1]; rfl), all_cons.2 ⟨(by rw [b1]; rfl), all_cons.2 ⟨(by rw [b1]; rfl), all_cons.2 ⟨(by rw [b1]; rfl), all_cons.2 ⟨b0, all_cons.2 ⟨(by rw [b0]; rfl), all_cons.2 ⟨(by rw [b0]; rfl), all_nil.2 trivial⟩⟩⟩⟩⟩⟩⟩⟩⟩))

theorem pageMay_in_1 {p : Int}
    (h0 : p ≥ (64 : Int))
    (h1 : ¬ (p ≤ (4096 : Int))) :
    Ret Try.prog (tyOf Try.prog) 48 [D.int IntKind.i64 p] [] (D.bool false) [] :=
  have b0 : decide (p ≥ (64 : Int)) = true := decide_eq_true h0
  have b1 : decide (p ≤ (4096 : Int)) = false := decide_eq_false h1
  fin_call pageMay_fn pageMay_body pageMay_name (fin_ret (h := 0) (pageMay_ok p) (show outF (tyOf Try.prog) (fnAt Try.prog 48) 0 (pageMay_run p (.code (bodyAt Try.prog 48)) [] (beginE (fnAt Try.prog 48) [D.int IntKind.i64 p] []) (.path [true, true, true, false, false, false, false, false, false])) = some (D.bool false, [],
    [decide (p ≤ (4096 : Int)) = false,
      (decide (p ≤ (4096 : Int)) == true) = false,
      (decide (p ≤ (4096 : Int)) == true) = false,
      (decide (p ≤ (4096 : Int)) == true) = false,
      (decide (p ≤ (4096 : Int)) == true) = false,
      (decide (p ≤ (4096 : Int)) == true) = false,
      decide (p ≥ (64 : Int)) = true,
      (decide (p ≥ (64 : Int)) == true) = true,
      (decide (p ≥ (64 : Int)) == true) = true]) by kernel_rfl)
    (all_cons.2 ⟨b1, all_cons.2 ⟨(by rw [b1]; rfl), all_cons.2 ⟨(by rw [b1]; rfl), all_cons.2 ⟨(by rw [b1]; rfl), all_cons.2 ⟨(by rw [b1]; rfl), all_cons.2 ⟨(by rw [b1]; rfl), all_cons.2 ⟨b0, all_cons.2 ⟨(by rw [b0]; rfl), all_cons.2 ⟨(by rw [b0]; rfl), all_nil.2 trivial⟩⟩⟩⟩⟩⟩⟩⟩⟩))

theorem pageMay_in_2 {p : Int}
    (h0 : ¬ (p ≥ (64 : Int))) :
    Ret Try.prog (tyOf Try.prog) 48 [D.int IntKind.i64 p] [] (D.bool false) [] :=
  have b0 : decide (p ≥ (64 : Int)) = false := decide_eq_false h0
  fin_call pageMay_fn pageMay_body pageMay_name (fin_ret (h := 0) (pageMay_ok p) (show outF (tyOf Try.prog) (fnAt Try.prog 48) 0 (pageMay_run p (.code (bodyAt Try.prog 48)) [] (beginE (fnAt Try.prog 48) [D.int IntKind.i64 p] []) (.path [false, false, false, false, false, false, false, false, false])) = some (D.bool false, [],
    [false = false,
      false = false,
      false = false,
      false = false,
      false = false,
      false = false,
      decide (p ≥ (64 : Int)) = false,
      (decide (p ≥ (64 : Int)) == true) = false,
      (decide (p ≥ (64 : Int)) == true) = false]) by kernel_rfl)
    (all_cons.2 ⟨rfl, all_cons.2 ⟨rfl, all_cons.2 ⟨rfl, all_cons.2 ⟨rfl, all_cons.2 ⟨rfl, all_cons.2 ⟨rfl, all_cons.2 ⟨b0, all_cons.2 ⟨(by rw [b0]; rfl), all_cons.2 ⟨(by rw [b0]; rfl), all_nil.2 trivial⟩⟩⟩⟩⟩⟩⟩⟩⟩))


/-! ### function 47 -/
theorem lay_fn : Try.prog.funcs[(47 : Nat)]? = some (fnAt Try.prog 47) := by kernel_rfl
theorem lay_body : (fnAt Try.prog 47).body = some (bodyAt Try.prog 47) := by kernel_rfl
theorem lay_name : ((fnAt Try.prog 47).name == "runtime.NumGoroutine") = false := by kernel_rfl
noncomputable def lay_C (es : Es) (st : Nat) (len : Nat) (n : Int) (n3_7 : Int) (n3_8 : Int) : Cf := cfg Try.prog (hintOf [((47 : Nat), (3 : Nat), (7 : Nat), Hint.c [D.int IntKind.u8 n3_7]), ((47 : Nat), (3 : Nat), (8 : Nat), Hint.c [D.int IntKind.u8 n3_8])]) (tLay es st len n) (fun _ => false) 2 true (fun z => Nat.beq 1 z)
theorem lay_ok (es : Es) (st : Nat) (len : Nat) (n : Int) (n3_7 : Int) (n3_8 : Int) : CfOk (lay_C es st len n n3_7 n3_8) := cfg_ok (by kernel_rfl)
noncomputable def lay_run (es : Es) (st : Nat) (len : Nat) (n : Int) (n3_7 : Int) (n3_8 : Int) (cur : Cur) (k : List It) (s : St) (or : GD.Or) := runE (lay_C es st len n n3_7 n3_8) (callE (lay_C es st len n n3_7 n3_8) 100000 10) 47 100000 cur k s or []
noncomputable def lay_l0 : Code := (loopAt Try.prog 47 0).1
noncomputable def lay_k0 : List It := (loopAt Try.prog 47 0).2
/- loop 0: n7:=(0 : Int); eh:=es; -/
noncomputable def lay_s0 (es : Es) (st : Nat) (len : Nat) (n : Int) (n7 : Int) (eh : List (List D)) : St := ⟨envOf 19 [(0, D.view (0 : Nat) st len), (1, D.int IntKind.i64 n), (6, D.int IntKind.i64 ↑len), (7, D.int IntKind.i64 n7)], [some (HObj.row (1 : Nat) eh)]⟩
def lay_at0 (es : Es) (st : Nat) (len : Nat) (n : Int) (n7 : Int) (eh : List (List D)) (r : D) (H1 : GD.Heap) : Prop := GD.Fin Try.prog (tyOf Try.prog) (fnAt Try.prog 47) 1 (.code (.loop lay_l0)) lay_k0 (lay_s0 es st len n n7 eh) r H1

theorem lay_in_0 {es : Es} {st : Nat} {len : Nat} {n : Int} {r : D} {H1 : GD.Heap}
    (h0 : FlatEs es)
    (g : lay_at0 es st len n ((0 : Int)) (es) r H1) :
    Ret Try.prog (tyOf Try.prog) 47 [D.view (0 : Nat) st len, D.int IntKind.i64 n] [some (HObj.row (1 : Nat) es)] r H1 :=
  fin_call lay_fn lay_body lay_name (fin_stop (F := (fun z => Nat.beq 1 z)) (h := 1) (keep := [0, 1, 6, 7]) (lay_ok es st len n 0 0) (show cutX (fun z => Nat.beq 1 z) [0, 1, 6, 7] 1 (lay_run es st len n 0 0 (.code (bodyAt Try.prog 47)) [] (beginE (fnAt Try.prog 47) [D.view (0 : Nat) st len, D.int IntKind.i64 n] [some (HObj.row (1 : Nat) es)]) (.path [])) = some (lay_l0, lay_k0, (lay_s0 es st len n ((0 : Int)) (es)).env, (lay_s0 es st len n ((0 : Int)) (es)).H,
    [FlatEs es]) by kernel_rfl)
    (all_cons.2 ⟨h0, all_nil.2 trivial⟩) (show (1 : Nat) ≤ 1 by decide) g)

theorem lay_0_0 {es : Es} {st : Nat} {len : Nat} {n : Int} {n7 : Int} {eh : List (List D)} {n3_8 : Int} {r : D} {H1 : GD.Heap}
    (h0 : n7 < ↑len)
    (h1 : FlatEs
  (eh.set (st + n7.toNat) [D.int IntKind.u8 (IntKind.u8.wrap (shrW IntKind.i64 n (IntKind.i64.wrap ((8 : Int) * n7))))]))
    (h2 : eh[st + n7.toNat]? = some [D.int IntKind.u8 n3_8])
    (h3 : (0 : Int) ≤ n7 ∧ n7 < ↑len)
    (h4 : (0 : Int) ≤ IntKind.i64.wrap ((8 : Int) * n7))
    (g : lay_at0 es st len n (IntKind.i64.wrap (n7 + (1 : Int))) (eh.set (st + n7.toNat) [D.int IntKind.u8 (IntKind.u8.wrap (shrW IntKind.i64 n (IntKind.i64.wrap ((8 : Int) * n7))))]) r H1) :
    lay_at0 es st len n n7 eh r H1 :=
  have b0 : decide (n7 < ↑len) = true := decide_eq_true h0
  fin_loop (fin_stop (F := (fun z => Nat.beq 1 z)) (h := 1) (keep := [0, 1, 6, 7]) (lay_ok es st len n 0 n3_8) (show cutX (fun z => Nat.beq 1 z) [0, 1, 6, 7] 1 (lay_run es st len n 0 n3_8 (.code lay_l0) (.lp lay_l0 :: lay_k0) (lay_s0 es st len n n7 eh) (.path [true])) = some (lay_l0, lay_k0, (lay_s0 es st len n (IntKind.i64.wrap (n7 + (1 : Int))) (eh.set (st + n7.toNat) [D.int IntKind.u8 (IntKind.u8.wrap (shrW IntKind.i64 n (IntKind.i64.wrap ((8 : Int) * n7))))])).env, (lay_s0 es st len n (IntKind.i64.wrap (n7 + (1 : Int))) (eh.set (st + n7.toNat) [D.int IntKind.u8 (IntKind.u8.wrap (shrW IntKind.i64 n (IntKind.i64.wrap ((8 : Int) * n7))))])).H,
    [FlatEs
  (eh.set (st + n7.toNat) [D.int IntKind.u8 (IntKind.u8.wrap (shrW IntKind.i64 n (IntKind.i64.wrap ((8 : Int) * n7))))]),
      eh[st + n7.toNat]? = some [D.int IntKind.u8 n3_8],
      (0 : Int) ≤ n7 ∧ n7 < ↑len,
      (0 : Int) ≤ IntKind.i64.wrap ((8 : Int) * n7),
      decide (n7 < ↑len) = true]) by kernel_rfl)
    (all_cons.2 ⟨h1, all_cons.2 ⟨h2, all_cons.2 ⟨h3, all_cons.2 ⟨h4, all_cons.2 ⟨b0, all_nil.2 trivial⟩⟩⟩⟩⟩) (show (1 : Nat) ≤ 1 by decide) g)

theorem lay_0_1 {es : Es} {st : Nat} {len : Nat} {n : Int} {n7 : Int} {eh : List (List D)}
    (h0 : ¬ (n7 < ↑len)) :
    lay_at0 es st len n n7 eh (D.tuple []) [some (HObj.row (1 : Nat) eh)] :=
  have b0 : decide (n7 < ↑len) = false := decide_eq_false h0
  fin_loop (fin_ret (h := 1) (lay_ok es st len n 0 0) (show outF (tyOf Try.prog) (fnAt Try.prog 47) 1 (lay_run es st len n 0 0 (.code lay_l0) (.lp lay_l0 :: lay_k0) (lay_s0 es st len n n7 eh) (.path [false])) = some (D.tuple [], [some (HObj.row (1 : Nat) eh)],
    [decide (n7 < ↑len) = false]) by kernel_rfl)
    (all_cons.2 ⟨b0, all_nil.2 trivial⟩))


/-! ### function 49 -/
theorem num_fn : Try.prog.funcs[(49 : Nat)]? = some (fnAt Try.prog 49) := by kernel_rfl
theorem num_body : (fnAt Try.prog 49).body = some (bodyAt Try.prog 49) := by kernel_rfl
theorem num_name : ((fnAt Try.prog 49).name == "runtime.NumGoroutine") = false := by kernel_rfl
noncomputable def num_C (n : Int) (w : Int) : Cf := cfg Try.prog (hintOf []) (t2 n w) (fun _ => false) 2 true (fun _ => false)
theorem num_ok (n : Int) (w : Int) : CfOk (num_C n w) := cfg_ok (by kernel_rfl)
noncomputable def num_run (n : Int) (w : Int) (cur : Cur) (k : List It) (s : St) (or : GD.Or) := runE (num_C n w) (callE (num_C n w) 100000 10) 49 100000 cur k s or []
noncomputable def num_l0 : Code := (loopAt Try.prog 49 0).1
noncomputable def num_k0 : List It := (loopAt Try.prog 49 0).2
/- loop 0: x5:=false; e5:=[]; n6:=(0 : Int); kh:=(0 : Nat); -/
noncomputable def num_s0 (n : Int) (w : Int) (x5 : Bool) (e5 : List (List D)) (n6 : Int) (kh : Nat) : St := ⟨envOf 22 [(0, D.int IntKind.i64 n), (1, D.int IntKind.i64 w), (5, D.slice x5 e5 (some (0 : Nat))), (6, D.int IntKind.i64 n6)], [some (HObj.tok kh (1 : Nat))]⟩
def num_at0 (n : Int) (w : Int) (x5 : Bool) (e5 : List (List D)) (n6 : Int) (kh : Nat) (r : D) (H1 : GD.Heap) : Prop := GD.Fin Try.prog (tyOf Try.prog) (fnAt Try.prog 49) 0 (.code (.loop num_l0)) num_k0 (num_s0 n w x5 e5 n6 kh) r H1

theorem num_in_0 {n : Int} {w : Int} {r : D} {H1 : GD.Heap}
    (g : num_at0 n w (false) ([]) ((0 : Int)) ((0 : Nat)) r H1) :
    Ret Try.prog (tyOf Try.prog) 49 [D.int IntKind.i64 n, D.int IntKind.i64 w] [] r H1 :=
  fin_call num_fn num_body num_name (fin_stop (F := (fun _ => false)) (h := 0) (keep := [0, 1, 5, 6]) (num_ok n w) (show cutX (fun _ => false) [0, 1, 5, 6] 0 (num_run n w (.code (bodyAt Try.prog 49)) [] (beginE (fnAt Try.prog 49) [D.int IntKind.i64 n, D.int IntKind.i64 w] []) (.path [])) = some (num_l0, num_k0, ((num_s0 n w (false) ([]) ((0 : Int)) ((0 : Nat))).env.set 5 (.slice false [] none)), ((num_s0 n w (false) ([]) ((0 : Int)) ((0 : Nat))).H.take 0),
    []) by kernel_rfl)
    (all_nil.2 trivial) (show (0 : Nat) ≤ 0 by decide) (fin_toks [(5, 1)] (by kernel_rfl) (by kernel_rfl) g))

theorem num_0_0 {n : Int} {w : Int} {x5 : Bool} {e5 : List (List D)} {n6 : Int} {kh : Nat} {r : D} {H1 : GD.Heap}
    (h0 : n6 < w)
    (h1 : e5.length = kh ∧ (e5.length + (1 : Nat)) * (1 : Nat) ≤ (140737488355328 : Nat) ∧ true = true)
    (h2 : (0 : Int) ≤ IntKind.u64.wrap (IntKind.i64.wrap ((8 : Int) * n6)))
    (g : num_at0 n w (x5 || true) (e5 ++ [[D.int IntKind.u8 (IntKind.u8.wrap (shrW IntKind.i64 n (IntKind.u64.wrap (IntKind.i64.wrap ((8 : Int) * n6)))))]]) (IntKind.i64.wrap (n6 + (1 : Int))) (kh + (1 : Nat)) r H1) :
    num_at0 n w x5 e5 n6 kh r H1 :=
  have b0 : decide (n6 < w) = true := decide_eq_true h0
  fin_loop (fin_stop (F := (fun _ => false)) (h := 1) (keep := [0, 1, 5, 6]) (num_ok n w) (show cutX (fun _ => false) [0, 1, 5, 6] 1 (num_run n w (.code num_l0) (.lp num_l0 :: num_k0) (num_s0 n w x5 e5 n6 kh) (.path [true])) = some (num_l0, num_k0, (num_s0 n w (x5 || true) (e5 ++ [[D.int IntKind.u8 (IntKind.u8.wrap (shrW IntKind.i64 n (IntKind.u64.wrap (IntKind.i64.wrap ((8 : Int) * n6)))))]]) (IntKind.i64.wrap (n6 + (1 : Int))) (kh + (1 : Nat))).env, (num_s0 n w (x5 || true) (e5 ++ [[D.int IntKind.u8 (IntKind.u8.wrap (shrW IntKind.i64 n (IntKind.u64.wrap (IntKind.i64.wrap ((8 : Int) * n6)))))]]) (IntKind.i64.wrap (n6 + (1 : Int))) (kh + (1 : Nat))).H,
    [e5.length = kh ∧ (e5.length + (1 : Nat)) * (1 : Nat) ≤ (140737488355328 : Nat) ∧ true = true,
      (0 : Int) ≤ IntKind.u64.wrap (IntKind.i64.wrap ((8 : Int) * n6)),
      decide (n6 < w) = true]) by kernel_rfl)
    (all_cons.2 ⟨h1, all_cons.2 ⟨h2, all_cons.2 ⟨b0, all_nil.2 trivial⟩⟩⟩) (show (0 : Nat) ≤ 1 by decide) g)

theorem num_0_1 {n : Int} {w : Int} {x5 : Bool} {e5 : List (List D)} {n6 : Int} {kh : Nat}
    (h0 : ¬ (n6 < w)) :
    num_at0 n w x5 e5 n6 kh (D.slice x5 e5 (some (0 : Nat))) [some (HObj.tok kh (1 : Nat))] :=
  have b0 : decide (n6 < w) = false := decide_eq_false h0
  fin_loop (fin_ret (h := 1) (num_ok n w) (show outF (tyOf Try.prog) (fnAt Try.prog 49) 1 (num_run n w (.code num_l0) (.lp num_l0 :: num_k0) (num_s0 n w x5 e5 n6 kh) (.path [false])) = some (D.slice x5 e5 (some (0 : Nat)), [some (HObj.tok kh (1 : Nat))],
    [decide (n6 < w) = false]) by kernel_rfl)
    (all_cons.2 ⟨b0, all_nil.2 trivial⟩))


/-! ### function 50 -/
theorem read_fn : Try.prog.funcs[(50 : Nat)]? = some (fnAt Try.prog 50) := by kernel_rfl
theorem read_body : (fnAt Try.prog 50).body = some (bodyAt Try.prog 50) := by kernel_rfl
theorem read_name : ((fnAt Try.prog 50).name == "runtime.NumGoroutine") = false := by kernel_rfl
noncomputable def read_C (xb : Bool) (es : Es) (n4_1 : Int) : Cf := cfg Try.prog (hintOf [((50 : Nat), (4 : Nat), (1 : Nat), Hint.c [D.int IntKind.u8 n4_1])]) (tB xb es) (fun _ => false) 2 true (fun _ => false)
theorem read_ok (xb : Bool) (es : Es) (n4_1 : Int) : CfOk (read_C xb es n4_1) := cfg_ok (by kernel_rfl)
noncomputable def read_run (xb : Bool) (es : Es) (n4_1 : Int) (cur : Cur) (k : List It) (s : St) (or : GD.Or) := runE (read_C xb es n4_1) (callE (read_C xb es n4_1) 100000 10) 50 100000 cur k s or []
noncomputable def read_l0 : Code := (loopAt Try.prog 50 0).1
noncomputable def read_k0 : List It := (loopAt Try.prog 50 0).2
/- loop 0: n3:=(0 : Int); n8:=(0 : Int); -/
noncomputable def read_s0 (xb : Bool) (es : Es) (n3 : Int) (n8 : Int) : St := ⟨envOf 22 [(3, D.int IntKind.i64 n3), (6, D.slice xb es none), (7, D.int IntKind.i64 ↑(List.length es)), (8, D.int IntKind.i64 n8)], []⟩
def read_at0 (xb : Bool) (es : Es) (n3 : Int) (n8 : Int) (r : D) (H1 : GD.Heap) : Prop := GD.Fin Try.prog (tyOf Try.prog) (fnAt Try.prog 50) 0 (.code (.loop read_l0)) read_k0 (read_s0 xb es n3 n8) r H1

theorem read_in_0 {xb : Bool} {es : Es} {r : D} {H1 : GD.Heap}
    (g : read_at0 xb es ((0 : Int)) ((0 : Int)) r H1) :
    Ret Try.prog (tyOf Try.prog) 50 [D.slice xb es none] [] r H1 :=
  fin_call read_fn read_body read_name (fin_stop (F := (fun _ => false)) (h := 0) (keep := [3, 6, 7, 8]) (read_ok xb es 0) (show cutX (fun _ => false) [3, 6, 7, 8] 0 (read_run xb es 0 (.code (bodyAt Try.prog 50)) [] (beginE (fnAt Try.prog 50) [D.slice xb es none] []) (.path [])) = some (read_l0, read_k0, (read_s0 xb es ((0 : Int)) ((0 : Int))).env, (read_s0 xb es ((0 : Int)) ((0 : Int))).H,
    []) by kernel_rfl)
    (all_nil.2 trivial) (show (0 : Nat) ≤ 0 by decide) g)

theorem read_0_0 {xb : Bool} {es : Es} {n3 : Int} {n8 : Int} {n4_1 : Int} {r : D} {H1 : GD.Heap}
    (h0 : n8 < ↑(List.length es))
    (h1 : (0 : Int) ≤ IntKind.i64.wrap ((8 : Int) * n8))
    (h2 : (0 : Int) ≤ n8)
    (h3 : es[n8.toNat]? = some [D.int IntKind.u8 n4_1])
    (g : read_at0 xb es (orW IntKind.i64 n3 (shlW IntKind.i64 (IntKind.i64.wrap n4_1) (IntKind.i64.wrap ((8 : Int) * n8)))) (IntKind.i64.wrap (n8 + (1 : Int))) r H1) :
    read_at0 xb es n3 n8 r H1 :=
  have b0 : decide (n8 < ↑(List.length es)) = true := decide_eq_true h0
  fin_loop (fin_stop (F := (fun _ => false)) (h := 0) (keep := [3, 6, 7, 8]) (read_ok xb es n4_1) (show cutX (fun _ => false) [3, 6, 7, 8] 0 (read_run xb es n4_1 (.code read_l0) (.lp read_l0 :: read_k0) (read_s0 xb es n3 n8) (.path [true])) = some (read_l0, read_k0, (read_s0 xb es (orW IntKind.i64 n3 (shlW IntKind.i64 (IntKind.i64.wrap n4_1) (IntKind.i64.wrap ((8 : Int) * n8)))) (IntKind.i64.wrap (n8 + (1 : Int)))).env, (read_s0 xb es (orW IntKind.i64 n3 (shlW IntKind.i64 (IntKind.i64.wrap n4_1) (IntKind.i64.wrap ((8 : Int) * n8)))) (IntKind.i64.wrap (n8 + (1 : Int)))).H,
    [(0 : Int) ≤ IntKind.i64.wrap ((8 : Int) * n8),
      (0 : Int) ≤ n8,
      es[n8.toNat]? = some [D.int IntKind.u8 n4_1],
      decide (n8 < ↑(List.length es)) = true]) by kernel_rfl)
    (all_cons.2 ⟨h1, all_cons.2 ⟨h2, all_cons.2 ⟨h3, all_cons.2 ⟨b0, all_nil.2 trivial⟩⟩⟩⟩) (show (0 : Nat) ≤ 0 by decide) g)

theorem read_0_1 {xb : Bool} {es : Es} {n3 : Int} {n8 : Int}
    (h0 : ¬ (n8 < ↑(List.length es))) :
    read_at0 xb es n3 n8 (D.int IntKind.i64 n3) [] :=
  have b0 : decide (n8 < ↑(List.length es)) = false := decide_eq_false h0
  fin_loop (fin_ret (h := 0) (read_ok xb es 0) (show outF (tyOf Try.prog) (fnAt Try.prog 50) 0 (read_run xb es 0 (.code read_l0) (.lp read_l0 :: read_k0) (read_s0 xb es n3 n8) (.path [false])) = some (D.int IntKind.i64 n3, [],
    [decide (n8 < ↑(List.length es)) = false]) by kernel_rfl)
    (all_cons.2 ⟨b0, all_nil.2 trivial⟩))


/-! ### function 52 -/
theorem get_fn : Try.prog.funcs[(52 : Nat)]? = some (fnAt Try.prog 52) := by kernel_rfl
theorem get_body : (fnAt Try.prog 52).body = some (bodyAt Try.prog 52) := by kernel_rfl
theorem get_name : ((fnAt Try.prog 52).name == "runtime.NumGoroutine") = false := by kernel_rfl
noncomputable def get_C (xb : Bool) (es : Es) (a : Int) (w : Int) (n5_6 : Int) : Cf := cfg Try.prog (hintOf [((52 : Nat), (5 : Nat), (6 : Nat), Hint.c [D.int IntKind.u8 n5_6])]) (t3 xb es a w) (fun _ => false) 2 true (fun _ => false)
theorem get_ok (xb : Bool) (es : Es) (a : Int) (w : Int) (n5_6 : Int) : CfOk (get_C xb es a w n5_6) := cfg_ok (by kernel_rfl)
noncomputable def get_run (xb : Bool) (es : Es) (a : Int) (w : Int) (n5_6 : Int) (cur : Cur) (k : List It) (s : St) (or : GD.Or) := runE (get_C xb es a w n5_6) (callE (get_C xb es a w n5_6) 100000 10) 52 100000 cur k s or []
noncomputable def get_l0 : Code := (loopAt Try.prog 52 0).1
noncomputable def get_k0 : List It := (loopAt Try.prog 52 0).2
/- loop 0: n7:=(0 : Int); n8:=IntKind.i64.wrap (w - (1 : Int)); -/
noncomputable def get_s0 (xb : Bool) (es : Es) (a : Int) (w : Int) (n7 : Int) (n8 : Int) : St := ⟨envOf 26 [(0, D.slice xb es none), (1, D.int IntKind.i64 a), (7, D.int IntKind.i64 n7), (8, D.int IntKind.i64 n8)], []⟩
def get_at0 (xb : Bool) (es : Es) (a : Int) (w : Int) (n7 : Int) (n8 : Int) (r : D) (H1 : GD.Heap) : Prop := GD.Fin Try.prog (tyOf Try.prog) (fnAt Try.prog 52) 0 (.code (.loop get_l0)) get_k0 (get_s0 xb es a w n7 n8) r H1

theorem get_in_0 {xb : Bool} {es : Es} {a : Int} {w : Int} {r : D} {H1 : GD.Heap}
    (g : get_at0 xb es a w ((0 : Int)) (IntKind.i64.wrap (w - (1 : Int))) r H1) :
    Ret Try.prog (tyOf Try.prog) 52 [D.slice xb es none, D.int IntKind.i64 a, D.int IntKind.i64 w] [] r H1 :=
  fin_call get_fn get_body get_name (fin_stop (F := (fun _ => false)) (h := 0) (keep := [0, 1, 7, 8]) (get_ok xb es a w 0) (show cutX (fun _ => false) [0, 1, 7, 8] 0 (get_run xb es a w 0 (.code (bodyAt Try.prog 52)) [] (beginE (fnAt Try.prog 52) [D.slice xb es none, D.int IntKind.i64 a, D.int IntKind.i64 w] []) (.path [])) = some (get_l0, get_k0, (get_s0 xb es a w ((0 : Int)) (IntKind.i64.wrap (w - (1 : Int)))).env, (get_s0 xb es a w ((0 : Int)) (IntKind.i64.wrap (w - (1 : Int)))).H,
    []) by kernel_rfl)
    (all_nil.2 trivial) (show (0 : Nat) ≤ 0 by decide) g)

theorem get_0_0 {xb : Bool} {es : Es} {a : Int} {w : Int} {n7 : Int} {n8 : Int} {n5_6 : Int} {r : D} {H1 : GD.Heap}
    (h0 : n8 ≥ (0 : Int))
    (h1 : (0 : Int) ≤ IntKind.i64.wrap (a + n8))
    (h2 : es[(IntKind.i64.wrap (a + n8)).toNat]? = some [D.int IntKind.u8 n5_6])
    (g : get_at0 xb es a w (orW IntKind.i64 (IntKind.i64.wrap (n7 * (2 : Int) ^ (8 : Nat))) (IntKind.i64.wrap n5_6)) (IntKind.i64.wrap (n8 - (1 : Int))) r H1) :
    get_at0 xb es a w n7 n8 r H1 :=
  have b0 : decide (n8 ≥ (0 : Int)) = true := decide_eq_true h0
  fin_loop (fin_stop (F := (fun _ => false)) (h := 0) (keep := [0, 1, 7, 8]) (get_ok xb es a w n5_6) (show cutX (fun _ => false) [0, 1, 7, 8] 0 (get_run xb es a w n5_6 (.code get_l0) (.lp get_l0 :: get_k0) (get_s0 xb es a w n7 n8) (.path [true])) = some (get_l0, get_k0, (get_s0 xb es a w (orW IntKind.i64 (IntKind.i64.wrap (n7 * (2 : Int) ^ (8 : Nat))) (IntKind.i64.wrap n5_6)) (IntKind.i64.wrap (n8 - (1 : Int)))).env, (get_s0 xb es a w (orW IntKind.i64 (IntKind.i64.wrap (n7 * (2 : Int) ^ (8 : Nat))) (IntKind.i64.wrap n5_6)) (IntKind.i64.wrap (n8 - (1 : Int)))).H,
    [(0 : Int) ≤ IntKind.i64.wrap (a + n8),
      es[(IntKind.i64.wrap (a + n8)).toNat]? = some [D.int IntKind.u8 n5_6],
      (0 : Int) ≤ (8 : Int),
      decide (n8 ≥ (0 : Int)) = true]) by kernel_rfl)
    (all_cons.2 ⟨h1, all_cons.2 ⟨h2, all_cons.2 ⟨(by decide), all_cons.2 ⟨b0, all_nil.2 trivial⟩⟩⟩⟩) (show (0 : Nat) ≤ 0 by decide) g)

theorem get_0_1 {xb : Bool} {es : Es} {a : Int} {w : Int} {n7 : Int} {n8 : Int}
    (h0 : ¬ (n8 ≥ (0 : Int))) :
    get_at0 xb es a w n7 n8 (D.int IntKind.i64 n7) [] :=
  have b0 : decide (n8 ≥ (0 : Int)) = false := decide_eq_false h0
  fin_loop (fin_ret (h := 0) (get_ok xb es a w 0) (show outF (tyOf Try.prog) (fnAt Try.prog 52) 0 (get_run xb es a w 0 (.code get_l0) (.lp get_l0 :: get_k0) (get_s0 xb es a w n7 n8) (.path [false])) = some (D.int IntKind.i64 n7, [],
    [decide (n8 ≥ (0 : Int)) = false]) by kernel_rfl)
    (all_cons.2 ⟨b0, all_nil.2 trivial⟩))


/-! ### function 51 -/
theorem clone_fn : Try.prog.funcs[(51 : Nat)]? = some (fnAt Try.prog 51) := by kernel_rfl
theorem clone_body : (fnAt Try.prog 51).body = some (bodyAt Try.prog 51) := by kernel_rfl
theorem clone_name : ((fnAt Try.prog 51).name == "runtime.NumGoroutine") = false := by kernel_rfl
noncomputable def clone_C (xb : Bool) (es : Es) : Cf := cfg Try.prog (hintOf []) (tB xb es) (fun _ => false) 2 true (fun _ => false)
theorem clone_ok (xb : Bool) (es : Es) : CfOk (clone_C xb es) := cfg_ok (by kernel_rfl)
noncomputable def clone_run (xb : Bool) (es : Es) (cur : Cur) (k : List It) (s : St) (or : GD.Or) := runE (clone_C xb es) (callE (clone_C xb es) 100000 10) 51 100000 cur k s or []

theorem clone_in_0 {xb : Bool} {es : Es}
    (h0 : xb = true)
    (h1 : (0 : Nat) = (0 : Nat) ∧
  ((0 : Nat) + List.length es) * (1 : Nat) ≤ (140737488355328 : Nat) ∧
    (List.all es fun c => c.length == (1 : Nat)) = true) :
    Ret Try.prog (tyOf Try.prog) 51 [D.slice xb es none] [] (D.slice true es (some (0 : Nat))) [some (HObj.tok ((0 : Nat) + List.length es) (1 : Nat))] :=
  have b0 : xb = true := h0
  fin_call clone_fn clone_body clone_name (fin_ret (h := 1) (clone_ok xb es) (show outF (tyOf Try.prog) (fnAt Try.prog 51) 1 (clone_run xb es (.code (bodyAt Try.prog 51)) [] (beginE (fnAt Try.prog 51) [D.slice xb es none] []) (.path [false])) = some (D.slice true es (some (0 : Nat)), [some (HObj.tok ((0 : Nat) + List.length es) (1 : Nat))],
    [(0 : Nat) = (0 : Nat) ∧
  ((0 : Nat) + List.length es) * (1 : Nat) ≤ (140737488355328 : Nat) ∧
    (List.all es fun c => c.length == (1 : Nat)) = true,
      (!xb) = false]) by kernel_rfl)
    (all_cons.2 ⟨h1, all_cons.2 ⟨(by rw [b0]; rfl), all_nil.2 trivial⟩⟩))

theorem clone_in_1 {xb : Bool} {es : Es}
    (h0 : xb = false) :
    Ret Try.prog (tyOf Try.prog) 51 [D.slice xb es none] [] (D.slice false [] none) [] :=
  have b0 : xb = false := h0
  fin_call clone_fn clone_body clone_name (fin_ret (h := 0) (clone_ok xb es) (show outF (tyOf Try.prog) (fnAt Try.prog 51) 0 (clone_run xb es (.code (bodyAt Try.prog 51)) [] (beginE (fnAt Try.prog 51) [D.slice xb es none] []) (.path [true])) = some (D.slice false [] none, [],
    [(!xb) = true]) by kernel_rfl)
    (all_cons.2 ⟨(by rw [b0]; rfl), all_nil.2 trivial⟩))


/-! ### function 51 -/
theorem cloneV_fn : Try.prog.funcs[(51 : Nat)]? = some (fnAt Try.prog 51) := by kernel_rfl
theorem cloneV_body : (fnAt Try.prog 51).body = some (bodyAt Try.prog 51) := by kernel_rfl
theorem cloneV_name : ((fnAt Try.prog 51).name == "runtime.NumGoroutine") = false := by kernel_rfl
noncomputable def cloneV_C (es : Es) (st : Nat) (len : Nat) : Cf := cfg Try.prog (hintOf []) (tV es st len) (fun _ => false) 2 true (fun z => Nat.beq 1 z)
theorem cloneV_ok (es : Es) (st : Nat) (len : Nat) : CfOk (cloneV_C es st len) := cfg_ok (by kernel_rfl)
noncomputable def cloneV_run (es : Es) (st : Nat) (len : Nat) (cur : Cur) (k : List It) (s : St) (or : GD.Or) := runE (cloneV_C es st len) (callE (cloneV_C es st len) 100000 10) 51 100000 cur k s or []

theorem cloneV_in_0 {es : Es} {st : Nat} {len : Nat}
    (h0 : (List.take len (List.drop st es)).length = len)
    (h1 : (0 : Nat) = (0 : Nat) ∧
  ((0 : Nat) + (List.take len (List.drop st es)).length) * (1 : Nat) ≤ (140737488355328 : Nat) ∧
    ((List.take len (List.drop st es)).all fun c => c.length == (1 : Nat)) = true ∧
      (List.take len (List.drop st es)).all purC = true) :
    Ret Try.prog (tyOf Try.prog) 51 [D.view (0 : Nat) st len] [some (HObj.row (1 : Nat) es)] (D.slice true ([] ++ purStrip (List.take len (List.drop st es))) (some (1 : Nat))) [some (HObj.row (1 : Nat) es), some (HObj.tok ((0 : Nat) + (List.take len (List.drop st es)).length) (1 : Nat))] :=
  fin_call cloneV_fn cloneV_body cloneV_name (fin_ret (h := 2) (cloneV_ok es st len) (show outF (tyOf Try.prog) (fnAt Try.prog 51) 2 (cloneV_run es st len (.code (bodyAt Try.prog 51)) [] (beginE (fnAt Try.prog 51) [D.view (0 : Nat) st len] [some (HObj.row (1 : Nat) es)]) (.path [false])) = some (D.slice true ([] ++ purStrip (List.take len (List.drop st es))) (some (1 : Nat)), [some (HObj.row (1 : Nat) es), some (HObj.tok ((0 : Nat) + (List.take len (List.drop st es)).length) (1 : Nat))],
    [(List.take len (List.drop st es)).length = len,
      (0 : Nat) = (0 : Nat) ∧
  ((0 : Nat) + (List.take len (List.drop st es)).length) * (1 : Nat) ≤ (140737488355328 : Nat) ∧
    ((List.take len (List.drop st es)).all fun c => c.length == (1 : Nat)) = true ∧
      (List.take len (List.drop st es)).all purC = true,
      false = false]) by kernel_rfl)
    (all_cons.2 ⟨h0, all_cons.2 ⟨h1, all_cons.2 ⟨rfl, all_nil.2 trivial⟩⟩⟩))




noncomputable abbrev P : Program := Try.prog
noncomputable abbrev T : Tys := tyOf Try.prog

/-! ### what they come to -/
def mayU (p : Int) : Bool := decide (p ≥ 64) && (decide (p ≤ 4096) && (andW .i64 p (IntKind.i64.wrap (p - 1)) == 0))
theorem may46 (p : Int) : Ret P T 46 [.int .i64 p] [] (.bool (mayU p)) [] := by
  unfold mayU
  by_cases h0 : p ≥ 64
  · by_cases h1 : p ≤ 4096
    · rw [decide_eq_true h0, decide_eq_true h1]; exact may_in_0 h0 h1
    · rw [decide_eq_true h0, decide_eq_false h1]; exact may_in_1 h0 h1
  · rw [decide_eq_false h0]; exact may_in_2 h0
theorem may48 (p : Int) : Ret P T 48 [.int .i64 p] [] (.bool (mayU p)) [] := by
  unfold mayU
  by_cases h0 : p ≥ 64
  · by_cases h1 : p ≤ 4096
    · rw [decide_eq_true h0, decide_eq_true h1]; exact pageMay_in_0 h0 h1
    · rw [decide_eq_true h0, decide_eq_false h1]; exact pageMay_in_1 h0 h1
  · rw [decide_eq_false h0]; exact pageMay_in_2 h0

theorem flat_rows (l : List Int) : FlatEs (rows l) := by
  intro c hc
  obtain ⟨x, _, rfl⟩ := List.mem_map.1 hc
  rfl
theorem rows_set (l : List Int) (i : Nat) (x : Int) : (rows l).set i [.int .u8 x] = rows (l.set i x) := by
  unfold rows
  rw [List.map_set]
theorem rows_len (l : List Int) : (rows l).length = l.length := by simp [rows]
theorem rows_app (a b : List Int) : rows (a ++ b) = rows a ++ rows b := by simp [rows]
theorem rows_take (a : List Int) (k : Nat) : (rows a).take k = rows (a.take k) := by simp [rows, List.map_take]
theorem rows_drop (a : List Int) (k : Nat) : (rows a).drop k = rows (a.drop k) := by simp [rows, List.map_drop]
theorem rows_one (l : List Int) : ((rows l).all fun c => c.length == (1 : Nat)) = true := by
  refine List.all_eq_true.2 fun c hc => ?_
  obtain ⟨x, _, rfl⟩ := List.mem_map.1 hc
  rfl
theorem rows_strip (l : List Int) : purStrip (rows l) = rows l := (flat_sub (flat_rows l) (fun c h => h)).2
theorem rows_pur (l : List Int) : (rows l).all purC = true := (flat_sub (flat_rows l) (fun c h => h)).1

/-- The bytes of a number. -/
def byteAt (n : Int) (i : Nat) : Int := IntKind.u8.wrap (shrW .i64 n (8 * i : Nat))
def nums (n : Int) (w : Nat) : List Int := (List.range w).map (byteAt n)
theorem nums_succ (n : Int) (w : Nat) : nums n (w + 1) = nums n w ++ [byteAt n w] := by
  unfold nums
  rw [List.range_succ, List.map_append]
  rfl
theorem nums_len (n : Int) (w : Nat) : (nums n w).length = w := by simp [nums]
theorem w8 {i : Nat} (h : i ≤ 8) : IntKind.i64.wrap ((8 : Int) * (i : Int)) = ((8 * i : Nat) : Int) := by
  rw [wrap_i64 (by omega)]; omega
theorem wrap_u64 {n : Int} (h : 0 ≤ n ∧ n < 18446744073709551616) : IntKind.u64.wrap n = n := by
  have hs : IntKind.u64.signed = false := rfl
  have hb : (2 ^ IntKind.u64.bits : Int) = 18446744073709551616 := by decide
  unfold IntKind.wrap
  simp only [hs, hb, Bool.false_and, Bool.false_eq_true, if_false]
  omega

theorem lay_loop (l : List Int) (st len : Nat) (n : Int) (hlen : len ≤ 8) (h : st + len ≤ l.length) : ∀ (m i : Nat), i + m = len →
    lay_at0 (rows l) st len n i (rows (l.take st ++ nums n i ++ l.drop (st + i))) (.tuple []) [some (.row 1 (rows (l.take st ++ nums n len ++ l.drop (st + len))))] := by
  intro m
  induction m with
  | zero =>
    intro i hi
    obtain rfl : i = len := by omega
    exact lay_0_1 (by omega)
  | succ m ih =>
    intro i hi
    have hlt : st + i < l.length := by omega
    have hl : (l.take st ++ nums n i).length = st + i := by rw [List.length_append, List.length_take, nums_len]; omega
    have hset : (l.take st ++ nums n i ++ l.drop (st + i)).set (st + i) (byteAt n i) = l.take st ++ nums n (i + 1) ++ l.drop (st + (i + 1)) := by
      rw [List.set_append_right _ _ (by omega), hl, Nat.sub_self, List.drop_eq_getElem_cons hlt, List.set_cons_zero, nums_succ]
      simp [Nat.add_assoc]
    have hg : (rows (l.take st ++ nums n i ++ l.drop (st + i)))[st + i]? = some [.int .u8 l[st + i]] := by
      have : (l.take st ++ nums n i ++ l.drop (st + i))[st + i]? = some l[st + i] := by
        rw [List.getElem?_append_right (by omega), hl, Nat.sub_self, List.drop_eq_getElem_cons hlt]
        rfl
      simp only [rows, List.getElem?_map, this]
      rfl
    refine lay_0_0 (n3_8 := l[st + i]) (by omega) ?_ ?_ (by omega) ?_ ?_
    · rw [rows_set]; exact flat_rows _
    · simpa using hg
    · rw [w8 (by omega)]; omega
    · rw [rows_set, w8 (by omega), Int.toNat_natCast]
      have := ih (i + 1) (by omega)
      rw [← hset] at this
      rw [show IntKind.i64.wrap ((i : Int) + 1) = ((i + 1 : Nat) : Int) by rw [wrap_i64 (by omega)]; omega]
      exact this

/-- lay writes the number's bytes. -/
theorem lay47 (l : List Int) (st len : Nat) (n : Int) (hlen : len ≤ 8) (h : st + len ≤ l.length) :
    Ret P T 47 [.view 0 st len, .int .i64 n] [some (.row 1 (rows l))] (.tuple []) [some (.row 1 (rows (l.take st ++ nums n len ++ l.drop (st + len))))] := by
  refine lay_in_0 (flat_rows l) ?_
  have := lay_loop l st len n hlen h len 0 (by omega)
  simpa [nums] using this

theorem num_loop (n : Int) (w : Nat) (hw : w ≤ 8) : ∀ (m i : Nat) (x : Bool), i + m = w → (x = true ∨ i = 0) → num_at0 n w x (rows (nums n i)) i i (.slice (x || decide (0 < m)) (rows (nums n w)) (some 0)) [some (.tok w 1)] := by
  intro m
  induction m with
  | zero =>
    intro i x hi hx
    obtain rfl : i = w := by omega
    have := num_0_1 (n := n) (w := i) (x5 := x) (e5 := rows (nums n i)) (n6 := i) (kh := i) (by omega)
    simpa using this
  | succ m ih =>
    intro i x hi hx
    have h8 : IntKind.u64.wrap (IntKind.i64.wrap ((8 : Int) * (i : Int))) = ((8 * i : Nat) : Int) := by rw [w8 (by omega), wrap_u64 (by omega)]
    refine num_0_0 (by omega) ⟨by rw [rows_len, nums_len], by rw [rows_len, nums_len]; omega, rfl⟩ (by rw [h8]; omega) ?_
    rw [h8, show IntKind.i64.wrap ((i : Int) + 1) = ((i + 1 : Nat) : Int) by rw [wrap_i64 (by omega)]; omega]
    have := ih (i + 1) true (by omega) (.inl rfl)
    rw [nums_succ, rows_app] at this
    simpa [rows, byteAt] using this

/-- Num hands back the number's bytes. -/
theorem num49 (n : Int) (w : Nat) (h0 : 0 < w) (hw : w ≤ 8) : Ret P T 49 [.int .i64 n, .int .i64 w] [] (.slice true (rows (nums n w)) (some 0)) [some (.tok w 1)] := by
  refine num_in_0 ?_
  have := num_loop n w hw w 0 false (by omega) (.inr rfl)
  simpa [nums, rows, h0] using this

/-- A number read. -/
def readF : Int → Nat → List Int → Int
  | s, _, [] => s
  | s, i, x :: r => readF (orW .i64 s (shlW .i64 (IntKind.i64.wrap x) (8 * i : Nat))) (i + 1) r

theorem read_loop (xb : Bool) (l : List Int) (hl : l.length ≤ 8) : ∀ (m i : Nat) (s : Int), i + m = l.length → read_at0 xb (rows l) s i (.int .i64 (readF s i (l.drop i))) [] := by
  intro m
  induction m with
  | zero =>
    intro i s hi
    rw [List.drop_of_length_le (by omega)]
    exact read_0_1 (by rw [rows_len]; omega)
  | succ m ih =>
    intro i s hi
    have hlt : i < l.length := by omega
    rw [List.drop_eq_getElem_cons hlt]
    refine read_0_0 (n4_1 := l[i]) (by rw [rows_len]; omega) (by rw [w8 (by omega)]; omega) (by omega) (by simpa using rows_get hlt) ?_
    rw [w8 (by omega), show IntKind.i64.wrap ((i : Int) + 1) = ((i + 1 : Nat) : Int) by rw [wrap_i64 (by omega)]; omega]
    exact ih (i + 1) _ (by omega)
theorem read50 (xb : Bool) (l : List Int) (hl : l.length ≤ 8) : Ret P T 50 [.slice xb (rows l) none] [] (.int .i64 (readF 0 0 l)) [] :=
  read_in_0 (by simpa using read_loop xb l hl l.length 0 0 (by omega))

def getF (l : List Int) (a : Nat) : Nat → Int → Int
  | 0, s => s
  | k + 1, s => getF l a k (orW .i64 (shlW .i64 s 8) (IntKind.i64.wrap (l.getD (a + k) 0)))

theorem get_loop (xb : Bool) (l : List Int) (a w : Nat) (hb : l.length ≤ maxLen) (h : a + w ≤ l.length) : ∀ (k : Nat) (s : Int), k ≤ w → get_at0 xb (rows l) a w s ((k : Int) - 1) (.int .i64 (getF l a k s)) [] := by
  have hm : maxLen ≤ 9223372036854775807 := by decide
  intro k
  induction k with
  | zero =>
    intro s hk
    exact get_0_1 (by omega)
  | succ k ih =>
    intro s hk
    have hlt : a + k < l.length := by omega
    have hi : (((k + 1 : Nat) : Int) - 1) = (k : Int) := by omega
    rw [hi]
    have hak : IntKind.i64.wrap ((a : Int) + (k : Int)) = ((a + k : Nat) : Int) := by rw [wrap_i64 (by omega)]; omega
    refine get_0_0 (n5_6 := l[a + k]) (by omega) (by rw [hak]; omega) (by rw [hak, Int.toNat_natCast]; exact rows_get hlt) ?_
    rw [show IntKind.i64.wrap ((k : Int) - 1) = (k : Int) - 1 by rw [wrap_i64 (by omega)]]
    have := ih (orW .i64 (shlW .i64 s 8) (IntKind.i64.wrap l[a + k])) (by omega)
    simp only [getF]
    rw [show l.getD (a + k) 0 = l[a + k] by rw [List.getD_eq_getElem?_getD, List.getElem?_eq_getElem hlt]; rfl]
    exact this
theorem get52 (xb : Bool) (l : List Int) (a w : Nat) (hb : l.length ≤ maxLen) (h : a + w ≤ l.length) : Ret P T 52 [.slice xb (rows l) none, .int .i64 a, .int .i64 w] [] (.int .i64 (getF l a w 0)) [] := by
  have hm : maxLen ≤ 9223372036854775807 := by decide
  refine get_in_0 ?_
  have := get_loop xb l a w hb h w 0 (Nat.le_refl _)
  rwa [show IntKind.i64.wrap ((w : Int) - 1) = (w : Int) - 1 by rw [wrap_i64 (by omega)]]

/-- Clone hands back the same bytes. -/
theorem clone51 (xb : Bool) (l : List Int) (hl : l.length ≤ 100000) (hn : xb = false → l = []) : Ret P T 51 [.slice xb (rows l) none] [] (.slice xb (rows l) none) [] := by
  cases xb with
  | true =>
    have := clone_in_0 (xb := true) (es := rows l) rfl ⟨rfl, by rw [rows_len]; omega, rows_one l⟩
    exact this.pure rfl
  | false =>
    have := hn rfl
    subst this
    exact (clone_in_1 (xb := false) (es := rows []) rfl).pure rfl

end Go.Proofs.Ytifpbdhggooelaa.sealk
