/- The law KeyAlike, of its array: roads. -/
import Derived.Test.YtlccdfilbiipmaaKvA
import Derived.Test.YtlccdfilbiipmaaValKitK
namespace Go.Proofs.Ytlccdfilbiipmaa.ordk
open Go Ytlccdfilbiipmaa.GD
set_option linter.unusedVariables false
set_option linter.unusedSimpArgs false
set_option maxRecDepth 100000

def aKa (n0 : Int) (xa : Bool) (ea : Es) (k n : Int) (s : ByteArray) (xb : Bool) (eb : Es) (xf : Bool) (ef : Es) (xl : Bool) (el : Es) (k' n' : Int) (s' : ByteArray) (xb' : Bool) (eb' : Es) (xf' : Bool) (ef' : Es) (xl' : Bool) (el' : Es) : List D × GD.Heap :=
  ([.int .i32 n0, .slice xa ea none, .agg [.int .i64 k, .int .i64 n, .str s, .slice xb eb none, .slice xf ef none, .slice xl el none, .int .i64 k', .int .i64 n', .str s', .slice xb' eb' none, .slice xf' ef' none, .slice xl' el' none]], [])
def tKa (n0 : Int) (xa : Bool) (ea : Es) (k n : Int) (s : ByteArray) (xb : Bool) (eb : Es) (xf : Bool) (ef : Es) (xl : Bool) (el : Es) (k' n' : Int) (s' : ByteArray) (xb' : Bool) (eb' : Es) (xf' : Bool) (ef' : Es) (xl' : Bool) (el' : Es) : Tab := fun k args H =>
  match k with
  | 7 => match args, H with | [], [] => some (.bool true, []) | _, _ => none
  | 15 => match args, H with | [.int .i32 n, .slice _ es none, .agg u, .agg v], [] => some (.bool true, []) | _, _ => none
  | _ => none

/-! ### function 5 -/
theorem lka_fn : Try.prog.funcs[(5 : Nat)]? = some (fnAt P 5) := by kernel_rfl
theorem lka_body : (fnAt P 5).body = some (bodyAt P 5) := by kernel_rfl
theorem lka_name : ((fnAt P 5).name == "runtime.NumGoroutine") = false := by kernel_rfl
noncomputable def lka_C (n0 : Int) (xa : Bool) (ea : Es) (k n : Int) (s : ByteArray) (xb : Bool) (eb : Es) (xf : Bool) (ef : Es) (xl : Bool) (el : Es) (k' n' : Int) (s' : ByteArray) (xb' : Bool) (eb' : Es) (xf' : Bool) (ef' : Es) (xl' : Bool) (el' : Es) : Cf := cfg Try.prog (hintOf []) (tKa n0 xa ea k n s xb eb xf ef xl el k' n' s' xb' eb' xf' ef' xl' el') (fun _ => false) 2 true (fun _ => false)
theorem lka_ok (n0 : Int) (xa : Bool) (ea : Es) (k n : Int) (s : ByteArray) (xb : Bool) (eb : Es) (xf : Bool) (ef : Es) (xl : Bool) (el : Es) (k' n' : Int) (s' : ByteArray) (xb' : Bool) (eb' : Es) (xf' : Bool) (ef' : Es) (xl' : Bool) (el' : Es) : CfOk (lka_C n0 xa ea k n s xb eb xf ef xl el k' n' s' xb' eb' xf' ef' xl' el') := cfg_ok (by kernel_rfl)
noncomputable def lka_run (n0 : Int) (xa : Bool) (ea : Es) (k n : Int) (s : ByteArray) (xb : Bool) (eb : Es) (xf : Bool) (ef : Es) (xl : Bool) (el : Es) (k' n' : Int) (s' : ByteArray) (xb' : Bool) (eb' : Es) (xf' : Bool) (ef' : Es) (xl' : Bool) (el' : Es) (qcur : Cur) (qk : List It) (qs : St) (qor : GD.Or) := runE (lka_C n0 xa ea k n s xb eb xf ef xl el k' n' s' xb' eb' xf' ef' xl' el') (callE (lka_C n0 xa ea k n s xb eb xf ef xl el k' n' s' xb' eb' xf' ef' xl' el') 100000 10) 5 100000 qcur qk qs qor []

theorem lka_in_0 {n0 : Int} {xa : Bool} {ea : Es} {k n : Int} {s : ByteArray} {xb : Bool} {eb : Es} {xf : Bool} {ef : Es} {xl : Bool} {el : Es} {k' n' : Int} {s' : ByteArray} {xb' : Bool} {eb' : Es} {xf' : Bool} {ef' : Es} {xl' : Bool} {el' : Es} (h0 : Ret P T 15 [D.int .i32 n0, D.slice xa ea none, D.agg (valk.val k n s xb eb xf ef xl el), D.agg (valk.val k' n' s' xb' eb' xf' ef' xl' el')] [] (D.bool true) []) (h1 : Ret P T 7 [] [] (D.bool true) []) : Ret P T 5 [D.int .i32 n0, D.slice xa ea none, D.agg [D.int .i64 k, D.int .i64 n, D.str s, D.slice xb eb none, D.slice xf ef none, D.slice xl el none, D.int .i64 k', D.int .i64 n', D.str s', D.slice xb' eb' none, D.slice xf' ef' none, D.slice xl' el' none]] [] (D.bool true) [] :=
  fin_call lka_fn lka_body lka_name (fr 5 0 (lka_ok n0 xa ea k n s xb eb xf ef xl el k' n' s' xb' eb' xf' ef' xl' el') (pth 1 0) (ac h0 (ac (show (0 : Int) ≤ (1 : Int) ∧ (1 : Int) < (↑(2 : Nat) : Int) by decide) (ac (show (0 : Int) ≤ (0 : Int) ∧ (0 : Int) < (↑(2 : Nat) : Int) by decide) (ac (show false = false from rfl) (ac h1 an))))))



noncomputable def cA : Cf := { P := Try.prog, T := tyOf Try.prog, hint := fun _ _ _ => .auto, room := fun _ _ => 8, meth := fun _ _ => none, ct := fun _ _ _ => none, stop := false }
theorem cAOk : CfOk cA where
  hT := fun _ _ h => h
  hm := by kernel_rfl
  meth := fun _ _ _ h => by simp only [cA] at h; cases h
  ct := fun _ _ _ _ _ _ h => by simp only [cA] at h; cases h
theorem awake7 : Ret P T 7 [] [] (.bool true) [] := ret_closed cAOk (show tellsTrue (callE cA 100000 100 7 [] [] .auto) = true by kernel_rfl)

end Go.Proofs.Ytlccdfilbiipmaa.ordk
