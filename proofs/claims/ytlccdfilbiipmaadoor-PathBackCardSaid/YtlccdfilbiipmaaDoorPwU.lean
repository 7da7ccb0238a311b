/- What may stand in a document: texts that are utf-8. -/
import Derived.Test.YtlccdfilbiipmaaDoorPwA
namespace Go.Proofs.YtlccdfilbiipmaaDoor.ordk
open Go YtlccdfilbiipmaaDoor.GD
set_option linter.unusedVariables false
set_option linter.unusedSimpArgs false
set_option maxRecDepth 100000

def aU (s : ByteArray) : List D × GD.Heap := ([.str s], [])
def tU (s : ByteArray) : Tab := t0
/-! ### function 38 -/
theorem utf_fn : Tryd.prog.funcs[(31 : Nat)]? = some (fnAt P 31) := by kernel_rfl
theorem utf_body : (fnAt P 31).body = some (bodyAt P 31) := by kernel_rfl
theorem utf_name : ((fnAt P 31).name == "runtime.NumGoroutine") = false := by kernel_rfl
noncomputable def utf_C (s : ByteArray) : Cf := cfg Tryd.prog (hintOf []) (tU s) (fun _ => false) 2 true (fun _ => false)
theorem utf_ok (s : ByteArray) : CfOk (utf_C s) := cfg_ok (by kernel_rfl)
noncomputable def utf_run (s : ByteArray) (qcur : Cur) (qk : List It) (qs : St) (qor : GD.Or) := runE (utf_C s) (callE (utf_C s) 100000 10) 31 100000 qcur qk qs qor []
noncomputable def utf_l0 : Code := (loopAt Tryd.prog 31 0).1
noncomputable def utf_k0 : List It := (loopAt Tryd.prog 31 0).2
noncomputable def utf_l1 : Code := (loopAt Tryd.prog 31 1).1
noncomputable def utf_k1 : List It := (loopAt Tryd.prog 31 1).2
/- loop 0: n3:=(0 : Int); -/
noncomputable def utf_s0 (s : ByteArray) (n3 : Int) : St := ⟨envOf 89 [(0, D.str s), (3, D.int .i64 n3)], []⟩
def utf_at0 (s : ByteArray) (n3 : Int) (r : D) (H1 : GD.Heap) : Prop := GD.Fin Tryd.prog (tyOf Tryd.prog) (fnAt P 31) 0 (.code (.loop utf_l0)) utf_k0 (utf_s0 s n3) r H1
/- loop 1: n3:=n3; n5:=(1 : Int); n8:=(2 : Int); -/
noncomputable def utf_s1 (s : ByteArray) (n3 n5 n8 : Int) : St := ⟨envOf 89 [(0, D.str s), (3, D.int .i64 n3), (5, D.int .i64 n5), (8, D.int .i64 n8)], []⟩
def utf_at1 (s : ByteArray) (n3 n5 n8 : Int) (r : D) (H1 : GD.Heap) : Prop := GD.Fin Tryd.prog (tyOf Tryd.prog) (fnAt P 31) 0 (.code (.loop utf_l1)) utf_k1 (utf_s1 s n3 n5 n8) r H1

theorem utf_in_0 {s : ByteArray} {r : D} {H1 : GD.Heap} (g : utf_at0 s ((0 : Int)) r H1) : Ret P T 31 [D.str s] [] r H1 :=
  fin_call utf_fn utf_body utf_name (fs (fun _ => false) 31 0 [0, 3] (utf_ok s) (pth 0 0) an g)

theorem utf_0_0 {s : ByteArray} {n3 : Int} {r : D} {H1 : GD.Heap} (h0 : n3 < (↑s.size : Int)) (h1 : (↑(s.data.getD n3.toNat (0 : UInt8)).toNat : Int) < (128 : Int)) (h2 : (0 : Int) ≤ n3 ∧ n3 < (↑s.size : Int)) (g : utf_at0 s (IntKind.i64.wrap (n3 + (1 : Int))) r H1) : utf_at0 s n3 r H1 :=
  have bq0 := decide_eq_true h0
  have bq1 := decide_eq_true h1
  fin_loop (fs (fun _ => false) 31 0 [0, 3] (utf_ok s) (pth 2 3) (ac bq1 (ac h2 (ac bq0 an))) g)

theorem utf_0_1 {s : ByteArray} {n3 : Int} (h0 : n3 < (↑s.size : Int)) (h1 : ¬ ((↑(s.data.getD n3.toNat (0 : UInt8)).toNat : Int) < (128 : Int))) (h2 : (↑(s.data.getD n3.toNat (0 : UInt8)).toNat : Int) ≥ (194 : Int)) (h3 : (↑(s.data.getD n3.toNat (0 : UInt8)).toNat : Int) ≤ (223 : Int)) (h4 : IntKind.i64.wrap (IntKind.i64.wrap ((↑s.size : Int) - n3) - (1 : Int)) < (1 : Int)) (h5 : (0 : Int) ≤ n3 ∧ n3 < (↑s.size : Int)) : utf_at0 s n3 (D.bool false) [] :=
  have bq0 := decide_eq_true h0
  have bq1 := decide_eq_false h1
  have bq2 := decide_eq_true h2
  have bq3 := decide_eq_true h3
  have bq4 := decide_eq_true h4
  fin_loop (fr 31 0 (utf_ok s) (pth 21 1577021) (ac tru (ac tru (ac (show false = false from rfl) (ac (show false = false from rfl) (ac (show false = false from rfl) (ac (show false = false from rfl) (ac (show false = false from rfl) (ac (show false = false from rfl) (ac bq4 (ac (ktf bq4) (ac (ktf bq4) (ac (ktf bq4) (ac (ktf bq4) (ac (ktf bq4) (ac (ktf bq4) (ac bq3 (ac bq2 (ac (ktt bq2) (ac (ktt bq2) (ac bq1 (ac h5 (ac bq0 an)))))))))))))))))))))))

theorem utf_0_2 {s : ByteArray} {n3 : Int} (h0 : n3 < (↑s.size : Int)) (h1 : ¬ ((↑(s.data.getD n3.toNat (0 : UInt8)).toNat : Int) < (128 : Int))) (h2 : (↑(s.data.getD n3.toNat (0 : UInt8)).toNat : Int) ≥ (194 : Int)) (h3 : (↑(s.data.getD n3.toNat (0 : UInt8)).toNat : Int) ≤ (223 : Int)) (h4 : ¬ (IntKind.i64.wrap (IntKind.i64.wrap ((↑s.size : Int) - n3) - (1 : Int)) < (1 : Int))) (h5 : (↑(s.data.getD (IntKind.i64.wrap (n3 + (1 : Int))).toNat (0 : UInt8)).toNat : Int) < (128 : Int)) (h6 : (0 : Int) ≤ IntKind.i64.wrap (n3 + (1 : Int)) ∧ IntKind.i64.wrap (n3 + (1 : Int)) < (↑s.size : Int)) (h7 : (0 : Int) ≤ n3 ∧ n3 < (↑s.size : Int)) : utf_at0 s n3 (D.bool false) [] :=
  have bq0 := decide_eq_true h0
  have bq1 := decide_eq_false h1
  have bq2 := decide_eq_true h2
  have bq3 := decide_eq_true h3
  have bq4 := decide_eq_false h4
  have bq5 := decide_eq_true h5
  fin_loop (fr 31 0 (utf_ok s) (pth 21 1576957) (ac tru (ac bq5 (ac (ktf bq5) (ac (ktf bq5) (ac (ktf bq5) (ac (ktf bq5) (ac (ktf bq5) (ac (ktf bq5) (ac bq4 (ac (kff bq4) (ac (kff bq4) (ac h6 (ac (kff bq4) (ac (kff bq4) (ac (kff bq4) (ac (kff bq4) (ac bq3 (ac bq2 (ac (ktt bq2) (ac (ktt bq2) (ac bq1 (ac h7 (ac bq0 an))))))))))))))))))))))))

theorem utf_0_3 {s : ByteArray} {n3 : Int} (h0 : n3 < (↑s.size : Int)) (h1 : ¬ ((↑(s.data.getD n3.toNat (0 : UInt8)).toNat : Int) < (128 : Int))) (h2 : (↑(s.data.getD n3.toNat (0 : UInt8)).toNat : Int) ≥ (194 : Int)) (h3 : (↑(s.data.getD n3.toNat (0 : UInt8)).toNat : Int) ≤ (223 : Int)) (h4 : ¬ (IntKind.i64.wrap (IntKind.i64.wrap ((↑s.size : Int) - n3) - (1 : Int)) < (1 : Int))) (h5 : ¬ ((↑(s.data.getD (IntKind.i64.wrap (n3 + (1 : Int))).toNat (0 : UInt8)).toNat : Int) < (128 : Int))) (h6 : (↑(s.data.getD (IntKind.i64.wrap (n3 + (1 : Int))).toNat (0 : UInt8)).toNat : Int) > (191 : Int)) (h7 : (0 : Int) ≤ IntKind.i64.wrap (n3 + (1 : Int)) ∧ IntKind.i64.wrap (n3 + (1 : Int)) < (↑s.size : Int)) (h8 : (0 : Int) ≤ n3 ∧ n3 < (↑s.size : Int)) : utf_at0 s n3 (D.bool false) [] :=
  have bq0 := decide_eq_true h0
  have bq1 := decide_eq_false h1
  have bq2 := decide_eq_true h2
  have bq3 := decide_eq_true h3
  have bq4 := decide_eq_false h4
  have bq5 := decide_eq_false h5
  have bq6 := decide_eq_true h6
  fin_loop (fr 31 0 (utf_ok s) (pth 21 1568765) (ac bq6 (ac bq5 (ac (kff bq5) (ac (kff bq5) (ac h7 (ac (kff bq5) (ac (kff bq5) (ac (kff bq5) (ac (kff bq5) (ac bq4 (ac (kff bq4) (ac (kff bq4) (ac h7 (ac (kff bq4) (ac (kff bq4) (ac (kff bq4) (ac (kff bq4) (ac bq3 (ac bq2 (ac (ktt bq2) (ac (ktt bq2) (ac bq1 (ac h8 (ac bq0 an)))))))))))))))))))))))))

theorem utf_0_4 {s : ByteArray} {n3 : Int} {r : D} {H1 : GD.Heap} (h0 : n3 < (↑s.size : Int)) (h1 : ¬ ((↑(s.data.getD n3.toNat (0 : UInt8)).toNat : Int) < (128 : Int))) (h2 : (↑(s.data.getD n3.toNat (0 : UInt8)).toNat : Int) ≥ (194 : Int)) (h3 : (↑(s.data.getD n3.toNat (0 : UInt8)).toNat : Int) ≤ (223 : Int)) (h4 : ¬ (IntKind.i64.wrap (IntKind.i64.wrap ((↑s.size : Int) - n3) - (1 : Int)) < (1 : Int))) (h5 : ¬ ((↑(s.data.getD (IntKind.i64.wrap (n3 + (1 : Int))).toNat (0 : UInt8)).toNat : Int) < (128 : Int))) (h6 : ¬ ((↑(s.data.getD (IntKind.i64.wrap (n3 + (1 : Int))).toNat (0 : UInt8)).toNat : Int) > (191 : Int))) (h7 : (0 : Int) ≤ IntKind.i64.wrap (n3 + (1 : Int)) ∧ IntKind.i64.wrap (n3 + (1 : Int)) < (↑s.size : Int)) (h8 : (0 : Int) ≤ n3 ∧ n3 < (↑s.size : Int)) (g : utf_at1 s (n3) ((1 : Int)) ((2 : Int)) r H1) : utf_at0 s n3 r H1 :=
  have bq0 := decide_eq_true h0
  have bq1 := decide_eq_false h1
  have bq2 := decide_eq_true h2
  have bq3 := decide_eq_true h3
  have bq4 := decide_eq_false h4
  have bq5 := decide_eq_false h5
  have bq6 := decide_eq_false h6
  fin_loop (fs (fun _ => false) 31 0 [0, 3, 5, 8] (utf_ok s) (pth 21 520189) (ac bq6 (ac bq5 (ac (kff bq5) (ac (kff bq5) (ac h7 (ac (kff bq5) (ac (kff bq5) (ac (kff bq5) (ac (kff bq5) (ac bq4 (ac (kff bq4) (ac (kff bq4) (ac h7 (ac (kff bq4) (ac (kff bq4) (ac (kff bq4) (ac (kff bq4) (ac bq3 (ac bq2 (ac (ktt bq2) (ac (ktt bq2) (ac bq1 (ac h8 (ac bq0 an)))))))))))))))))))))))) g)

theorem utf_0_5 {s : ByteArray} {n3 : Int} (h0 : n3 < (↑s.size : Int)) (h1 : ¬ ((↑(s.data.getD n3.toNat (0 : UInt8)).toNat : Int) < (128 : Int))) (h2 : (↑(s.data.getD n3.toNat (0 : UInt8)).toNat : Int) ≥ (194 : Int)) (h3 : ¬ ((↑(s.data.getD n3.toNat (0 : UInt8)).toNat : Int) ≤ (223 : Int))) (h4 : (↑(s.data.getD n3.toNat (0 : UInt8)).toNat : Int) ≥ (224 : Int)) (h5 : (↑(s.data.getD n3.toNat (0 : UInt8)).toNat : Int) ≤ (239 : Int)) (h6 : (↑(s.data.getD n3.toNat (0 : UInt8)).toNat : Int) = (224 : Int)) (h7 : (↑(s.data.getD n3.toNat (0 : UInt8)).toNat : Int) ≠ (237 : Int)) (h8 : IntKind.i64.wrap (IntKind.i64.wrap ((↑s.size : Int) - n3) - (1 : Int)) < (2 : Int)) (h9 : (0 : Int) ≤ n3 ∧ n3 < (↑s.size : Int)) : utf_at0 s n3 (D.bool false) [] :=
  have bq0 := decide_eq_true h0
  have bq1 := decide_eq_false h1
  have bq2 := decide_eq_true h2
  have bq3 := decide_eq_false h3
  have bq4 := decide_eq_true h4
  have bq5 := decide_eq_true h5
  have bq6 := beq_iff_eq.2 h6
  have bq7 := beq_eq_false_iff_ne.2 h7
  have bq8 := decide_eq_true h8
  fin_loop (fr 31 0 (utf_ok s) (pth 27 100927453) (ac tru (ac tru (ac (show false = false from rfl) (ac (show false = false from rfl) (ac (show false = false from rfl) (ac (show false = false from rfl) (ac (show false = false from rfl) (ac (show false = false from rfl) (ac bq8 (ac (ktf bq8) (ac (ktf bq8) (ac (ktf bq8) (ac (ktf bq8) (ac (ktf bq8) (ac (ktf bq8) (ac bq7 (ac bq6 (ac bq5 (ac bq4 (ac (ktt bq4) (ac (ktt bq4) (ac bq3 (ac bq2 (ac (ktt bq2) (ac (ktt bq2) (ac bq1 (ac h9 (ac bq0 an)))))))))))))))))))))))))))))

theorem utf_0_6 {s : ByteArray} {n3 : Int} (h0 : n3 < (↑s.size : Int)) (h1 : ¬ ((↑(s.data.getD n3.toNat (0 : UInt8)).toNat : Int) < (128 : Int))) (h2 : (↑(s.data.getD n3.toNat (0 : UInt8)).toNat : Int) ≥ (194 : Int)) (h3 : ¬ ((↑(s.data.getD n3.toNat (0 : UInt8)).toNat : Int) ≤ (223 : Int))) (h4 : (↑(s.data.getD n3.toNat (0 : UInt8)).toNat : Int) ≥ (224 : Int)) (h5 : (↑(s.data.getD n3.toNat (0 : UInt8)).toNat : Int) ≤ (239 : Int)) (h6 : (↑(s.data.getD n3.toNat (0 : UInt8)).toNat : Int) = (224 : Int)) (h7 : (↑(s.data.getD n3.toNat (0 : UInt8)).toNat : Int) ≠ (237 : Int)) (h8 : ¬ (IntKind.i64.wrap (IntKind.i64.wrap ((↑s.size : Int) - n3) - (1 : Int)) < (2 : Int))) (h9 : (↑(s.data.getD (IntKind.i64.wrap (n3 + (1 : Int))).toNat (0 : UInt8)).toNat : Int) < (160 : Int)) (h10 : (0 : Int) ≤ IntKind.i64.wrap (n3 + (1 : Int)) ∧ IntKind.i64.wrap (n3 + (1 : Int)) < (↑s.size : Int)) (h11 : (0 : Int) ≤ n3 ∧ n3 < (↑s.size : Int)) : utf_at0 s n3 (D.bool false) [] :=
  have bq0 := decide_eq_true h0
  have bq1 := decide_eq_false h1
  have bq2 := decide_eq_true h2
  have bq3 := decide_eq_false h3
  have bq4 := decide_eq_true h4
  have bq5 := decide_eq_true h5
  have bq6 := beq_iff_eq.2 h6
  have bq7 := beq_eq_false_iff_ne.2 h7
  have bq8 := decide_eq_false h8
  have bq9 := decide_eq_true h9
  fin_loop (fr 31 0 (utf_ok s) (pth 27 100923357) (ac tru (ac bq9 (ac (ktf bq9) (ac (ktf bq9) (ac (ktf bq9) (ac (ktf bq9) (ac (ktf bq9) (ac (ktf bq9) (ac bq8 (ac (kff bq8) (ac (kff bq8) (ac h10 (ac (kff bq8) (ac (kff bq8) (ac (kff bq8) (ac (kff bq8) (ac bq7 (ac bq6 (ac bq5 (ac bq4 (ac (ktt bq4) (ac (ktt bq4) (ac bq3 (ac bq2 (ac (ktt bq2) (ac (ktt bq2) (ac bq1 (ac h11 (ac bq0 an))))))))))))))))))))))))))))))

theorem utf_0_7 {s : ByteArray} {n3 : Int} (h0 : n3 < (↑s.size : Int)) (h1 : ¬ ((↑(s.data.getD n3.toNat (0 : UInt8)).toNat : Int) < (128 : Int))) (h2 : (↑(s.data.getD n3.toNat (0 : UInt8)).toNat : Int) ≥ (194 : Int)) (h3 : ¬ ((↑(s.data.getD n3.toNat (0 : UInt8)).toNat : Int) ≤ (223 : Int))) (h4 : (↑(s.data.getD n3.toNat (0 : UInt8)).toNat : Int) ≥ (224 : Int)) (h5 : (↑(s.data.getD n3.toNat (0 : UInt8)).toNat : Int) ≤ (239 : Int)) (h6 : (↑(s.data.getD n3.toNat (0 : UInt8)).toNat : Int) = (224 : Int)) (h7 : (↑(s.data.getD n3.toNat (0 : UInt8)).toNat : Int) ≠ (237 : Int)) (h8 : ¬ (IntKind.i64.wrap (IntKind.i64.wrap ((↑s.size : Int) - n3) - (1 : Int)) < (2 : Int))) (h9 : ¬ ((↑(s.data.getD (IntKind.i64.wrap (n3 + (1 : Int))).toNat (0 : UInt8)).toNat : Int) < (160 : Int))) (h10 : (↑(s.data.getD (IntKind.i64.wrap (n3 + (1 : Int))).toNat (0 : UInt8)).toNat : Int) > (191 : Int)) (h11 : (0 : Int) ≤ IntKind.i64.wrap (n3 + (1 : Int)) ∧ IntKind.i64.wrap (n3 + (1 : Int)) < (↑s.size : Int)) (h12 : (0 : Int) ≤ n3 ∧ n3 < (↑s.size : Int)) : utf_at0 s n3 (D.bool false) [] :=
  have bq0 := decide_eq_true h0
  have bq1 := decide_eq_false h1
  have bq2 := decide_eq_true h2
  have bq3 := decide_eq_false h3
  have bq4 := decide_eq_true h4
  have bq5 := decide_eq_true h5
  have bq6 := beq_iff_eq.2 h6
  have bq7 := beq_eq_false_iff_ne.2 h7
  have bq8 := decide_eq_false h8
  have bq9 := decide_eq_false h9
  have bq10 := decide_eq_true h10
  fin_loop (fr 31 0 (utf_ok s) (pth 27 100399069) (ac bq10 (ac bq9 (ac (kff bq9) (ac (kff bq9) (ac h11 (ac (kff bq9) (ac (kff bq9) (ac (kff bq9) (ac (kff bq9) (ac bq8 (ac (kff bq8) (ac (kff bq8) (ac h11 (ac (kff bq8) (ac (kff bq8) (ac (kff bq8) (ac (kff bq8) (ac bq7 (ac bq6 (ac bq5 (ac bq4 (ac (ktt bq4) (ac (ktt bq4) (ac bq3 (ac bq2 (ac (ktt bq2) (ac (ktt bq2) (ac bq1 (ac h12 (ac bq0 an)))))))))))))))))))))))))))))))

theorem utf_0_8 {s : ByteArray} {n3 : Int} {r : D} {H1 : GD.Heap} (h0 : n3 < (↑s.size : Int)) (h1 : ¬ ((↑(s.data.getD n3.toNat (0 : UInt8)).toNat : Int) < (128 : Int))) (h2 : (↑(s.data.getD n3.toNat (0 : UInt8)).toNat : Int) ≥ (194 : Int)) (h3 : ¬ ((↑(s.data.getD n3.toNat (0 : UInt8)).toNat : Int) ≤ (223 : Int))) (h4 : (↑(s.data.getD n3.toNat (0 : UInt8)).toNat : Int) ≥ (224 : Int)) (h5 : (↑(s.data.getD n3.toNat (0 : UInt8)).toNat : Int) ≤ (239 : Int)) (h6 : (↑(s.data.getD n3.toNat (0 : UInt8)).toNat : Int) = (224 : Int)) (h7 : (↑(s.data.getD n3.toNat (0 : UInt8)).toNat : Int) ≠ (237 : Int)) (h8 : ¬ (IntKind.i64.wrap (IntKind.i64.wrap ((↑s.size : Int) - n3) - (1 : Int)) < (2 : Int))) (h9 : ¬ ((↑(s.data.getD (IntKind.i64.wrap (n3 + (1 : Int))).toNat (0 : UInt8)).toNat : Int) < (160 : Int))) (h10 : ¬ ((↑(s.data.getD (IntKind.i64.wrap (n3 + (1 : Int))).toNat (0 : UInt8)).toNat : Int) > (191 : Int))) (h11 : (0 : Int) ≤ IntKind.i64.wrap (n3 + (1 : Int)) ∧ IntKind.i64.wrap (n3 + (1 : Int)) < (↑s.size : Int)) (h12 : (0 : Int) ≤ n3 ∧ n3 < (↑s.size : Int)) (g : utf_at1 s (n3) ((2 : Int)) ((2 : Int)) r H1) : utf_at0 s n3 r H1 :=
  have bq0 := decide_eq_true h0
  have bq1 := decide_eq_false h1
  have bq2 := decide_eq_true h2
  have bq3 := decide_eq_false h3
  have bq4 := decide_eq_true h4
  have bq5 := decide_eq_true h5
  have bq6 := beq_iff_eq.2 h6
  have bq7 := beq_eq_false_iff_ne.2 h7
  have bq8 := decide_eq_false h8
  have bq9 := decide_eq_false h9
  have bq10 := decide_eq_false h10
  fin_loop (fs (fun _ => false) 31 0 [0, 3, 5, 8] (utf_ok s) (pth 27 33290205) (ac bq10 (ac bq9 (ac (kff bq9) (ac (kff bq9) (ac h11 (ac (kff bq9) (ac (kff bq9) (ac (kff bq9) (ac (kff bq9) (ac bq8 (ac (kff bq8) (ac (kff bq8) (ac h11 (ac (kff bq8) (ac (kff bq8) (ac (kff bq8) (ac (kff bq8) (ac bq7 (ac bq6 (ac bq5 (ac bq4 (ac (ktt bq4) (ac (ktt bq4) (ac bq3 (ac bq2 (ac (ktt bq2) (ac (ktt bq2) (ac bq1 (ac h12 (ac bq0 an)))))))))))))))))))))))))))))) g)

theorem utf_0_9 {s : ByteArray} {n3 : Int} (h0 : n3 < (↑s.size : Int)) (h1 : ¬ ((↑(s.data.getD n3.toNat (0 : UInt8)).toNat : Int) < (128 : Int))) (h2 : (↑(s.data.getD n3.toNat (0 : UInt8)).toNat : Int) ≥ (194 : Int)) (h3 : ¬ ((↑(s.data.getD n3.toNat (0 : UInt8)).toNat : Int) ≤ (223 : Int))) (h4 : (↑(s.data.getD n3.toNat (0 : UInt8)).toNat : Int) ≥ (224 : Int)) (h5 : (↑(s.data.getD n3.toNat (0 : UInt8)).toNat : Int) ≤ (239 : Int)) (h6 : (↑(s.data.getD n3.toNat (0 : UInt8)).toNat : Int) ≠ (224 : Int)) (h7 : (↑(s.data.getD n3.toNat (0 : UInt8)).toNat : Int) = (237 : Int)) (h8 : IntKind.i64.wrap (IntKind.i64.wrap ((↑s.size : Int) - n3) - (1 : Int)) < (2 : Int)) (h9 : (0 : Int) ≤ n3 ∧ n3 < (↑s.size : Int)) : utf_at0 s n3 (D.bool false) [] :=
  have bq0 := decide_eq_true h0
  have bq1 := decide_eq_false h1
  have bq2 := decide_eq_true h2
  have bq3 := decide_eq_false h3
  have bq4 := decide_eq_true h4
  have bq5 := decide_eq_true h5
  have bq6 := beq_eq_false_iff_ne.2 h6
  have bq7 := beq_iff_eq.2 h7
  have bq8 := decide_eq_true h8
  fin_loop (fr 31 0 (utf_ok s) (pth 27 100928477) (ac tru (ac tru (ac (show false = false from rfl) (ac (show false = false from rfl) (ac (show false = false from rfl) (ac (show false = false from rfl) (ac (show false = false from rfl) (ac (show false = false from rfl) (ac bq8 (ac (ktf bq8) (ac (ktf bq8) (ac (ktf bq8) (ac (ktf bq8) (ac (ktf bq8) (ac (ktf bq8) (ac bq7 (ac bq6 (ac bq5 (ac bq4 (ac (ktt bq4) (ac (ktt bq4) (ac bq3 (ac bq2 (ac (ktt bq2) (ac (ktt bq2) (ac bq1 (ac h9 (ac bq0 an)))))))))))))))))))))))))))))

theorem utf_0_10 {s : ByteArray} {n3 : Int} (h0 : n3 < (↑s.size : Int)) (h1 : ¬ ((↑(s.data.getD n3.toNat (0 : UInt8)).toNat : Int) < (128 : Int))) (h2 : (↑(s.data.getD n3.toNat (0 : UInt8)).toNat : Int) ≥ (194 : Int)) (h3 : ¬ ((↑(s.data.getD n3.toNat (0 : UInt8)).toNat : Int) ≤ (223 : Int))) (h4 : (↑(s.data.getD n3.toNat (0 : UInt8)).toNat : Int) ≥ (224 : Int)) (h5 : (↑(s.data.getD n3.toNat (0 : UInt8)).toNat : Int) ≤ (239 : Int)) (h6 : (↑(s.data.getD n3.toNat (0 : UInt8)).toNat : Int) ≠ (224 : Int)) (h7 : (↑(s.data.getD n3.toNat (0 : UInt8)).toNat : Int) = (237 : Int)) (h8 : ¬ (IntKind.i64.wrap (IntKind.i64.wrap ((↑s.size : Int) - n3) - (1 : Int)) < (2 : Int))) (h9 : (↑(s.data.getD (IntKind.i64.wrap (n3 + (1 : Int))).toNat (0 : UInt8)).toNat : Int) < (128 : Int)) (h10 : (0 : Int) ≤ IntKind.i64.wrap (n3 + (1 : Int)) ∧ IntKind.i64.wrap (n3 + (1 : Int)) < (↑s.size : Int)) (h11 : (0 : Int) ≤ n3 ∧ n3 < (↑s.size : Int)) : utf_at0 s n3 (D.bool false) [] :=
  have bq0 := decide_eq_true h0
  have bq1 := decide_eq_false h1
  have bq2 := decide_eq_true h2
  have bq3 := decide_eq_false h3
  have bq4 := decide_eq_true h4
  have bq5 := decide_eq_true h5
  have bq6 := beq_eq_false_iff_ne.2 h6
  have bq7 := beq_iff_eq.2 h7
  have bq8 := decide_eq_false h8
  have bq9 := decide_eq_true h9
  fin_loop (fr 31 0 (utf_ok s) (pth 27 100924381) (ac tru (ac bq9 (ac (ktf bq9) (ac (ktf bq9) (ac (ktf bq9) (ac (ktf bq9) (ac (ktf bq9) (ac (ktf bq9) (ac bq8 (ac (kff bq8) (ac (kff bq8) (ac h10 (ac (kff bq8) (ac (kff bq8) (ac (kff bq8) (ac (kff bq8) (ac bq7 (ac bq6 (ac bq5 (ac bq4 (ac (ktt bq4) (ac (ktt bq4) (ac bq3 (ac bq2 (ac (ktt bq2) (ac (ktt bq2) (ac bq1 (ac h11 (ac bq0 an))))))))))))))))))))))))))))))

theorem utf_0_11 {s : ByteArray} {n3 : Int} (h0 : n3 < (↑s.size : Int)) (h1 : ¬ ((↑(s.data.getD n3.toNat (0 : UInt8)).toNat : Int) < (128 : Int))) (h2 : (↑(s.data.getD n3.toNat (0 : UInt8)).toNat : Int) ≥ (194 : Int)) (h3 : ¬ ((↑(s.data.getD n3.toNat (0 : UInt8)).toNat : Int) ≤ (223 : Int))) (h4 : (↑(s.data.getD n3.toNat (0 : UInt8)).toNat : Int) ≥ (224 : Int)) (h5 : (↑(s.data.getD n3.toNat (0 : UInt8)).toNat : Int) ≤ (239 : Int)) (h6 : (↑(s.data.getD n3.toNat (0 : UInt8)).toNat : Int) ≠ (224 : Int)) (h7 : (↑(s.data.getD n3.toNat (0 : UInt8)).toNat : Int) = (237 : Int)) (h8 : ¬ (IntKind.i64.wrap (IntKind.i64.wrap ((↑s.size : Int) - n3) - (1 : Int)) < (2 : Int))) (h9 : ¬ ((↑(s.data.getD (IntKind.i64.wrap (n3 + (1 : Int))).toNat (0 : UInt8)).toNat : Int) < (128 : Int))) (h10 : (↑(s.data.getD (IntKind.i64.wrap (n3 + (1 : Int))).toNat (0 : UInt8)).toNat : Int) > (159 : Int)) (h11 : (0 : Int) ≤ IntKind.i64.wrap (n3 + (1 : Int)) ∧ IntKind.i64.wrap (n3 + (1 : Int)) < (↑s.size : Int)) (h12 : (0 : Int) ≤ n3 ∧ n3 < (↑s.size : Int)) : utf_at0 s n3 (D.bool false) [] :=
  have bq0 := decide_eq_true h0
  have bq1 := decide_eq_false h1
  have bq2 := decide_eq_true h2
  have bq3 := decide_eq_false h3
  have bq4 := decide_eq_true h4
  have bq5 := decide_eq_true h5
  have bq6 := beq_eq_false_iff_ne.2 h6
  have bq7 := beq_iff_eq.2 h7
  have bq8 := decide_eq_false h8
  have bq9 := decide_eq_false h9
  have bq10 := decide_eq_true h10
  fin_loop (fr 31 0 (utf_ok s) (pth 27 100400093) (ac bq10 (ac bq9 (ac (kff bq9) (ac (kff bq9) (ac h11 (ac (kff bq9) (ac (kff bq9) (ac (kff bq9) (ac (kff bq9) (ac bq8 (ac (kff bq8) (ac (kff bq8) (ac h11 (ac (kff bq8) (ac (kff bq8) (ac (kff bq8) (ac (kff bq8) (ac bq7 (ac bq6 (ac bq5 (ac bq4 (ac (ktt bq4) (ac (ktt bq4) (ac bq3 (ac bq2 (ac (ktt bq2) (ac (ktt bq2) (ac bq1 (ac h12 (ac bq0 an)))))))))))))))))))))))))))))))

theorem utf_0_12 {s : ByteArray} {n3 : Int} {r : D} {H1 : GD.Heap} (h0 : n3 < (↑s.size : Int)) (h1 : ¬ ((↑(s.data.getD n3.toNat (0 : UInt8)).toNat : Int) < (128 : Int))) (h2 : (↑(s.data.getD n3.toNat (0 : UInt8)).toNat : Int) ≥ (194 : Int)) (h3 : ¬ ((↑(s.data.getD n3.toNat (0 : UInt8)).toNat : Int) ≤ (223 : Int))) (h4 : (↑(s.data.getD n3.toNat (0 : UInt8)).toNat : Int) ≥ (224 : Int)) (h5 : (↑(s.data.getD n3.toNat (0 : UInt8)).toNat : Int) ≤ (239 : Int)) (h6 : (↑(s.data.getD n3.toNat (0 : UInt8)).toNat : Int) ≠ (224 : Int)) (h7 : (↑(s.data.getD n3.toNat (0 : UInt8)).toNat : Int) = (237 : Int)) (h8 : ¬ (IntKind.i64.wrap (IntKind.i64.wrap ((↑s.size : Int) - n3) - (1 : Int)) < (2 : Int))) (h9 : ¬ ((↑(s.data.getD (IntKind.i64.wrap (n3 + (1 : Int))).toNat (0 : UInt8)).toNat : Int) < (128 : Int))) (h10 : ¬ ((↑(s.data.getD (IntKind.i64.wrap (n3 + (1 : Int))).toNat (0 : UInt8)).toNat : Int) > (159 : Int))) (h11 : (0 : Int) ≤ IntKind.i64.wrap (n3 + (1 : Int)) ∧ IntKind.i64.wrap (n3 + (1 : Int)) < (↑s.size : Int)) (h12 : (0 : Int) ≤ n3 ∧ n3 < (↑s.size : Int)) (g : utf_at1 s (n3) ((2 : Int)) ((2 : Int)) r H1) : utf_at0 s n3 r H1 :=
  have bq0 := decide_eq_true h0
  have bq1 := decide_eq_false h1
  have bq2 := decide_eq_true h2
  have bq3 := decide_eq_false h3
  have bq4 := decide_eq_true h4
  have bq5 := decide_eq_true h5
  have bq6 := beq_eq_false_iff_ne.2 h6
  have bq7 := beq_iff_eq.2 h7
  have bq8 := decide_eq_false h8
  have bq9 := decide_eq_false h9
  have bq10 := decide_eq_false h10
  fin_loop (fs (fun _ => false) 31 0 [0, 3, 5, 8] (utf_ok s) (pth 27 33291229) (ac bq10 (ac bq9 (ac (kff bq9) (ac (kff bq9) (ac h11 (ac (kff bq9) (ac (kff bq9) (ac (kff bq9) (ac (kff bq9) (ac bq8 (ac (kff bq8) (ac (kff bq8) (ac h11 (ac (kff bq8) (ac (kff bq8) (ac (kff bq8) (ac (kff bq8) (ac bq7 (ac bq6 (ac bq5 (ac bq4 (ac (ktt bq4) (ac (ktt bq4) (ac bq3 (ac bq2 (ac (ktt bq2) (ac (ktt bq2) (ac bq1 (ac h12 (ac bq0 an)))))))))))))))))))))))))))))) g)

theorem utf_0_13 {s : ByteArray} {n3 : Int} (h0 : n3 < (↑s.size : Int)) (h1 : ¬ ((↑(s.data.getD n3.toNat (0 : UInt8)).toNat : Int) < (128 : Int))) (h2 : (↑(s.data.getD n3.toNat (0 : UInt8)).toNat : Int) ≥ (194 : Int)) (h3 : ¬ ((↑(s.data.getD n3.toNat (0 : UInt8)).toNat : Int) ≤ (223 : Int))) (h4 : (↑(s.data.getD n3.toNat (0 : UInt8)).toNat : Int) ≥ (224 : Int)) (h5 : (↑(s.data.getD n3.toNat (0 : UInt8)).toNat : Int) ≤ (239 : Int)) (h6 : (↑(s.data.getD n3.toNat (0 : UInt8)).toNat : Int) ≠ (224 : Int)) (h7 : (↑(s.data.getD n3.toNat (0 : UInt8)).toNat : Int) ≠ (237 : Int)) (h8 : IntKind.i64.wrap (IntKind.i64.wrap ((↑s.size : Int) - n3) - (1 : Int)) < (2 : Int)) (h9 : (0 : Int) ≤ n3 ∧ n3 < (↑s.size : Int)) : utf_at0 s n3 (D.bool false) [] :=
  have bq0 := decide_eq_true h0
  have bq1 := decide_eq_false h1
  have bq2 := decide_eq_true h2
  have bq3 := decide_eq_false h3
  have bq4 := decide_eq_true h4
  have bq5 := decide_eq_true h5
  have bq6 := beq_eq_false_iff_ne.2 h6
  have bq7 := beq_eq_false_iff_ne.2 h7
  have bq8 := decide_eq_true h8
  fin_loop (fr 31 0 (utf_ok s) (pth 27 100926429) (ac tru (ac tru (ac (show false = false from rfl) (ac (show false = false from rfl) (ac (show false = false from rfl) (ac (show false = false from rfl) (ac (show false = false from rfl) (ac (show false = false from rfl) (ac bq8 (ac (ktf bq8) (ac (ktf bq8) (ac (ktf bq8) (ac (ktf bq8) (ac (ktf bq8) (ac (ktf bq8) (ac bq7 (ac bq6 (ac bq5 (ac bq4 (ac (ktt bq4) (ac (ktt bq4) (ac bq3 (ac bq2 (ac (ktt bq2) (ac (ktt bq2) (ac bq1 (ac h9 (ac bq0 an)))))))))))))))))))))))))))))

theorem utf_0_14 {s : ByteArray} {n3 : Int} (h0 : n3 < (↑s.size : Int)) (h1 : ¬ ((↑(s.data.getD n3.toNat (0 : UInt8)).toNat : Int) < (128 : Int))) (h2 : (↑(s.data.getD n3.toNat (0 : UInt8)).toNat : Int) ≥ (194 : Int)) (h3 : ¬ ((↑(s.data.getD n3.toNat (0 : UInt8)).toNat : Int) ≤ (223 : Int))) (h4 : (↑(s.data.getD n3.toNat (0 : UInt8)).toNat : Int) ≥ (224 : Int)) (h5 : (↑(s.data.getD n3.toNat (0 : UInt8)).toNat : Int) ≤ (239 : Int)) (h6 : (↑(s.data.getD n3.toNat (0 : UInt8)).toNat : Int) ≠ (224 : Int)) (h7 : (↑(s.data.getD n3.toNat (0 : UInt8)).toNat : Int) ≠ (237 : Int)) (h8 : ¬ (IntKind.i64.wrap (IntKind.i64.wrap ((↑s.size : Int) - n3) - (1 : Int)) < (2 : Int))) (h9 : (↑(s.data.getD (IntKind.i64.wrap (n3 + (1 : Int))).toNat (0 : UInt8)).toNat : Int) < (128 : Int)) (h10 : (0 : Int) ≤ IntKind.i64.wrap (n3 + (1 : Int)) ∧ IntKind.i64.wrap (n3 + (1 : Int)) < (↑s.size : Int)) (h11 : (0 : Int) ≤ n3 ∧ n3 < (↑s.size : Int)) : utf_at0 s n3 (D.bool false) [] :=
  have bq0 := decide_eq_true h0
  have bq1 := decide_eq_false h1
  have bq2 := decide_eq_true h2
  have bq3 := decide_eq_false h3
  have bq4 := decide_eq_true h4
  have bq5 := decide_eq_true h5
  have bq6 := beq_eq_false_iff_ne.2 h6
  have bq7 := beq_eq_false_iff_ne.2 h7
  have bq8 := decide_eq_false h8
  have bq9 := decide_eq_true h9
  fin_loop (fr 31 0 (utf_ok s) (pth 27 100922333) (ac tru (ac bq9 (ac (ktf bq9) (ac (ktf bq9) (ac (ktf bq9) (ac (ktf bq9) (ac (ktf bq9) (ac (ktf bq9) (ac bq8 (ac (kff bq8) (ac (kff bq8) (ac h10 (ac (kff bq8) (ac (kff bq8) (ac (kff bq8) (ac (kff bq8) (ac bq7 (ac bq6 (ac bq5 (ac bq4 (ac (ktt bq4) (ac (ktt bq4) (ac bq3 (ac bq2 (ac (ktt bq2) (ac (ktt bq2) (ac bq1 (ac h11 (ac bq0 an))))))))))))))))))))))))))))))

theorem utf_0_15 {s : ByteArray} {n3 : Int} (h0 : n3 < (↑s.size : Int)) (h1 : ¬ ((↑(s.data.getD n3.toNat (0 : UInt8)).toNat : Int) < (128 : Int))) (h2 : (↑(s.data.getD n3.toNat (0 : UInt8)).toNat : Int) ≥ (194 : Int)) (h3 : ¬ ((↑(s.data.getD n3.toNat (0 : UInt8)).toNat : Int) ≤ (223 : Int))) (h4 : (↑(s.data.getD n3.toNat (0 : UInt8)).toNat : Int) ≥ (224 : Int)) (h5 : (↑(s.data.getD n3.toNat (0 : UInt8)).toNat : Int) ≤ (239 : Int)) (h6 : (↑(s.data.getD n3.toNat (0 : UInt8)).toNat : Int) ≠ (224 : Int)) (h7 : (↑(s.data.getD n3.toNat (0 : UInt8)).toNat : Int) ≠ (237 : Int)) (h8 : ¬ (IntKind.i64.wrap (IntKind.i64.wrap ((↑s.size : Int) - n3) - (1 : Int)) < (2 : Int))) (h9 : ¬ ((↑(s.data.getD (IntKind.i64.wrap (n3 + (1 : Int))).toNat (0 : UInt8)).toNat : Int) < (128 : Int))) (h10 : (↑(s.data.getD (IntKind.i64.wrap (n3 + (1 : Int))).toNat (0 : UInt8)).toNat : Int) > (191 : Int)) (h11 : (0 : Int) ≤ IntKind.i64.wrap (n3 + (1 : Int)) ∧ IntKind.i64.wrap (n3 + (1 : Int)) < (↑s.size : Int)) (h12 : (0 : Int) ≤ n3 ∧ n3 < (↑s.size : Int)) : utf_at0 s n3 (D.bool false) [] :=
  have bq0 := decide_eq_true h0
  have bq1 := decide_eq_false h1
  have bq2 := decide_eq_true h2
  have bq3 := decide_eq_false h3
  have bq4 := decide_eq_true h4
  have bq5 := decide_eq_true h5
  have bq6 := beq_eq_false_iff_ne.2 h6
  have bq7 := beq_eq_false_iff_ne.2 h7
  have bq8 := decide_eq_false h8
  have bq9 := decide_eq_false h9
  have bq10 := decide_eq_true h10
  fin_loop (fr 31 0 (utf_ok s) (pth 27 100398045) (ac bq10 (ac bq9 (ac (kff bq9) (ac (kff bq9) (ac h11 (ac (kff bq9) (ac (kff bq9) (ac (kff bq9) (ac (kff bq9) (ac bq8 (ac (kff bq8) (ac (kff bq8) (ac h11 (ac (kff bq8) (ac (kff bq8) (ac (kff bq8) (ac (kff bq8) (ac bq7 (ac bq6 (ac bq5 (ac bq4 (ac (ktt bq4) (ac (ktt bq4) (ac bq3 (ac bq2 (ac (ktt bq2) (ac (ktt bq2) (ac bq1 (ac h12 (ac bq0 an)))))))))))))))))))))))))))))))

theorem utf_0_16 {s : ByteArray} {n3 : Int} {r : D} {H1 : GD.Heap} (h0 : n3 < (↑s.size : Int)) (h1 : ¬ ((↑(s.data.getD n3.toNat (0 : UInt8)).toNat : Int) < (128 : Int))) (h2 : (↑(s.data.getD n3.toNat (0 : UInt8)).toNat : Int) ≥ (194 : Int)) (h3 : ¬ ((↑(s.data.getD n3.toNat (0 : UInt8)).toNat : Int) ≤ (223 : Int))) (h4 : (↑(s.data.getD n3.toNat (0 : UInt8)).toNat : Int) ≥ (224 : Int)) (h5 : (↑(s.data.getD n3.toNat (0 : UInt8)).toNat : Int) ≤ (239 : Int)) (h6 : (↑(s.data.getD n3.toNat (0 : UInt8)).toNat : Int) ≠ (224 : Int)) (h7 : (↑(s.data.getD n3.toNat (0 : UInt8)).toNat : Int) ≠ (237 : Int)) (h8 : ¬ (IntKind.i64.wrap (IntKind.i64.wrap ((↑s.size : Int) - n3) - (1 : Int)) < (2 : Int))) (h9 : ¬ ((↑(s.data.getD (IntKind.i64.wrap (n3 + (1 : Int))).toNat (0 : UInt8)).toNat : Int) < (128 : Int))) (h10 : ¬ ((↑(s.data.getD (IntKind.i64.wrap (n3 + (1 : Int))).toNat (0 : UInt8)).toNat : Int) > (191 : Int))) (h11 : (0 : Int) ≤ IntKind.i64.wrap (n3 + (1 : Int)) ∧ IntKind.i64.wrap (n3 + (1 : Int)) < (↑s.size : Int)) (h12 : (0 : Int) ≤ n3 ∧ n3 < (↑s.size : Int)) (g : utf_at1 s (n3) ((2 : Int)) ((2 : Int)) r H1) : utf_at0 s n3 r H1 :=
  have bq0 := decide_eq_true h0
  have bq1 := decide_eq_false h1
  have bq2 := decide_eq_true h2
  have bq3 := decide_eq_false h3
  have bq4 := decide_eq_true h4
  have bq5 := decide_eq_true h5
  have bq6 := beq_eq_false_iff_ne.2 h6
  have bq7 := beq_eq_false_iff_ne.2 h7
  have bq8 := decide_eq_false h8
  have bq9 := decide_eq_false h9
  have bq10 := decide_eq_false h10
  fin_loop (fs (fun _ => false) 31 0 [0, 3, 5, 8] (utf_ok s) (pth 27 33289181) (ac bq10 (ac bq9 (ac (kff bq9) (ac (kff bq9) (ac h11 (ac (kff bq9) (ac (kff bq9) (ac (kff bq9) (ac (kff bq9) (ac bq8 (ac (kff bq8) (ac (kff bq8) (ac h11 (ac (kff bq8) (ac (kff bq8) (ac (kff bq8) (ac (kff bq8) (ac bq7 (ac bq6 (ac bq5 (ac bq4 (ac (ktt bq4) (ac (ktt bq4) (ac bq3 (ac bq2 (ac (ktt bq2) (ac (ktt bq2) (ac bq1 (ac h12 (ac bq0 an)))))))))))))))))))))))))))))) g)

theorem utf_0_17 {s : ByteArray} {n3 : Int} (h0 : n3 < (↑s.size : Int)) (h1 : ¬ ((↑(s.data.getD n3.toNat (0 : UInt8)).toNat : Int) < (128 : Int))) (h2 : (↑(s.data.getD n3.toNat (0 : UInt8)).toNat : Int) ≥ (194 : Int)) (h3 : ¬ ((↑(s.data.getD n3.toNat (0 : UInt8)).toNat : Int) ≤ (223 : Int))) (h4 : (↑(s.data.getD n3.toNat (0 : UInt8)).toNat : Int) ≥ (224 : Int)) (h5 : ¬ ((↑(s.data.getD n3.toNat (0 : UInt8)).toNat : Int) ≤ (239 : Int))) (h6 : (↑(s.data.getD n3.toNat (0 : UInt8)).toNat : Int) ≥ (240 : Int)) (h7 : (↑(s.data.getD n3.toNat (0 : UInt8)).toNat : Int) ≤ (244 : Int)) (h8 : (↑(s.data.getD n3.toNat (0 : UInt8)).toNat : Int) = (240 : Int)) (h9 : (↑(s.data.getD n3.toNat (0 : UInt8)).toNat : Int) ≠ (244 : Int)) (h10 : IntKind.i64.wrap (IntKind.i64.wrap ((↑s.size : Int) - n3) - (1 : Int)) < (3 : Int)) (h11 : (0 : Int) ≤ n3 ∧ n3 < (↑s.size : Int)) : utf_at0 s n3 (D.bool false) [] :=
  have bq0 := decide_eq_true h0
  have bq1 := decide_eq_false h1
  have bq2 := decide_eq_true h2
  have bq3 := decide_eq_false h3
  have bq4 := decide_eq_true h4
  have bq5 := decide_eq_false h5
  have bq6 := decide_eq_true h6
  have bq7 := decide_eq_true h7
  have bq8 := beq_iff_eq.2 h8
  have bq9 := beq_eq_false_iff_ne.2 h9
  have bq10 := decide_eq_true h10
  fin_loop (fr 31 0 (utf_ok s) (pth 31 1614839261) (ac tru (ac tru (ac (show false = false from rfl) (ac (show false = false from rfl) (ac (show false = false from rfl) (ac (show false = false from rfl) (ac (show false = false from rfl) (ac (show false = false from rfl) (ac bq10 (ac (ktf bq10) (ac (ktf bq10) (ac (ktf bq10) (ac (ktf bq10) (ac (ktf bq10) (ac (ktf bq10) (ac bq9 (ac bq8 (ac bq7 (ac bq6 (ac (ktt bq6) (ac (ktt bq6) (ac bq5 (ac bq4 (ac (ktt bq4) (ac (ktt bq4) (ac bq3 (ac bq2 (ac (ktt bq2) (ac (ktt bq2) (ac bq1 (ac h11 (ac bq0 an)))))))))))))))))))))))))))))))))

theorem utf_0_18 {s : ByteArray} {n3 : Int} (h0 : n3 < (↑s.size : Int)) (h1 : ¬ ((↑(s.data.getD n3.toNat (0 : UInt8)).toNat : Int) < (128 : Int))) (h2 : (↑(s.data.getD n3.toNat (0 : UInt8)).toNat : Int) ≥ (194 : Int)) (h3 : ¬ ((↑(s.data.getD n3.toNat (0 : UInt8)).toNat : Int) ≤ (223 : Int))) (h4 : (↑(s.data.getD n3.toNat (0 : UInt8)).toNat : Int) ≥ (224 : Int)) (h5 : ¬ ((↑(s.data.getD n3.toNat (0 : UInt8)).toNat : Int) ≤ (239 : Int))) (h6 : (↑(s.data.getD n3.toNat (0 : UInt8)).toNat : Int) ≥ (240 : Int)) (h7 : (↑(s.data.getD n3.toNat (0 : UInt8)).toNat : Int) ≤ (244 : Int)) (h8 : (↑(s.data.getD n3.toNat (0 : UInt8)).toNat : Int) = (240 : Int)) (h9 : (↑(s.data.getD n3.toNat (0 : UInt8)).toNat : Int) ≠ (244 : Int)) (h10 : ¬ (IntKind.i64.wrap (IntKind.i64.wrap ((↑s.size : Int) - n3) - (1 : Int)) < (3 : Int))) (h11 : (↑(s.data.getD (IntKind.i64.wrap (n3 + (1 : Int))).toNat (0 : UInt8)).toNat : Int) < (144 : Int)) (h12 : (0 : Int) ≤ IntKind.i64.wrap (n3 + (1 : Int)) ∧ IntKind.i64.wrap (n3 + (1 : Int)) < (↑s.size : Int)) (h13 : (0 : Int) ≤ n3 ∧ n3 < (↑s.size : Int)) : utf_at0 s n3 (D.bool false) [] :=
  have bq0 := decide_eq_true h0
  have bq1 := decide_eq_false h1
  have bq2 := decide_eq_true h2
  have bq3 := decide_eq_false h3
  have bq4 := decide_eq_true h4
  have bq5 := decide_eq_false h5
  have bq6 := decide_eq_true h6
  have bq7 := decide_eq_true h7
  have bq8 := beq_iff_eq.2 h8
  have bq9 := beq_eq_false_iff_ne.2 h9
  have bq10 := decide_eq_false h10
  have bq11 := decide_eq_true h11
  fin_loop (fr 31 0 (utf_ok s) (pth 31 1614773725) (ac tru (ac bq11 (ac (ktf bq11) (ac (ktf bq11) (ac (ktf bq11) (ac (ktf bq11) (ac (ktf bq11) (ac (ktf bq11) (ac bq10 (ac (kff bq10) (ac (kff bq10) (ac h12 (ac (kff bq10) (ac (kff bq10) (ac (kff bq10) (ac (kff bq10) (ac bq9 (ac bq8 (ac bq7 (ac bq6 (ac (ktt bq6) (ac (ktt bq6) (ac bq5 (ac bq4 (ac (ktt bq4) (ac (ktt bq4) (ac bq3 (ac bq2 (ac (ktt bq2) (ac (ktt bq2) (ac bq1 (ac h13 (ac bq0 an))))))))))))))))))))))))))))))))))

theorem utf_0_19 {s : ByteArray} {n3 : Int} (h0 : n3 < (↑s.size : Int)) (h1 : ¬ ((↑(s.data.getD n3.toNat (0 : UInt8)).toNat : Int) < (128 : Int))) (h2 : (↑(s.data.getD n3.toNat (0 : UInt8)).toNat : Int) ≥ (194 : Int)) (h3 : ¬ ((↑(s.data.getD n3.toNat (0 : UInt8)).toNat : Int) ≤ (223 : Int))) (h4 : (↑(s.data.getD n3.toNat (0 : UInt8)).toNat : Int) ≥ (224 : Int)) (h5 : ¬ ((↑(s.data.getD n3.toNat (0 : UInt8)).toNat : Int) ≤ (239 : Int))) (h6 : (↑(s.data.getD n3.toNat (0 : UInt8)).toNat : Int) ≥ (240 : Int)) (h7 : (↑(s.data.getD n3.toNat (0 : UInt8)).toNat : Int) ≤ (244 : Int)) (h8 : (↑(s.data.getD n3.toNat (0 : UInt8)).toNat : Int) = (240 : Int)) (h9 : (↑(s.data.getD n3.toNat (0 : UInt8)).toNat : Int) ≠ (244 : Int)) (h10 : ¬ (IntKind.i64.wrap (IntKind.i64.wrap ((↑s.size : Int) - n3) - (1 : Int)) < (3 : Int))) (h11 : ¬ ((↑(s.data.getD (IntKind.i64.wrap (n3 + (1 : Int))).toNat (0 : UInt8)).toNat : Int) < (144 : Int))) (h12 : (↑(s.data.getD (IntKind.i64.wrap (n3 + (1 : Int))).toNat (0 : UInt8)).toNat : Int) > (191 : Int)) (h13 : (0 : Int) ≤ IntKind.i64.wrap (n3 + (1 : Int)) ∧ IntKind.i64.wrap (n3 + (1 : Int)) < (↑s.size : Int)) (h14 : (0 : Int) ≤ n3 ∧ n3 < (↑s.size : Int)) : utf_at0 s n3 (D.bool false) [] :=
  have bq0 := decide_eq_true h0
  have bq1 := decide_eq_false h1
  have bq2 := decide_eq_true h2
  have bq3 := decide_eq_false h3
  have bq4 := decide_eq_true h4
  have bq5 := decide_eq_false h5
  have bq6 := decide_eq_true h6
  have bq7 := decide_eq_true h7
  have bq8 := beq_iff_eq.2 h8
  have bq9 := beq_eq_false_iff_ne.2 h9
  have bq10 := decide_eq_false h10
  have bq11 := decide_eq_false h11
  have bq12 := decide_eq_true h12
  fin_loop (fr 31 0 (utf_ok s) (pth 31 1606385117) (ac bq12 (ac bq11 (ac (kff bq11) (ac (kff bq11) (ac h13 (ac (kff bq11) (ac (kff bq11) (ac (kff bq11) (ac (kff bq11) (ac bq10 (ac (kff bq10) (ac (kff bq10) (ac h13 (ac (kff bq10) (ac (kff bq10) (ac (kff bq10) (ac (kff bq10) (ac bq9 (ac bq8 (ac bq7 (ac bq6 (ac (ktt bq6) (ac (ktt bq6) (ac bq5 (ac bq4 (ac (ktt bq4) (ac (ktt bq4) (ac bq3 (ac bq2 (ac (ktt bq2) (ac (ktt bq2) (ac bq1 (ac h14 (ac bq0 an)))))))))))))))))))))))))))))))))))

theorem utf_0_20 {s : ByteArray} {n3 : Int} {r : D} {H1 : GD.Heap} (h0 : n3 < (↑s.size : Int)) (h1 : ¬ ((↑(s.data.getD n3.toNat (0 : UInt8)).toNat : Int) < (128 : Int))) (h2 : (↑(s.data.getD n3.toNat (0 : UInt8)).toNat : Int) ≥ (194 : Int)) (h3 : ¬ ((↑(s.data.getD n3.toNat (0 : UInt8)).toNat : Int) ≤ (223 : Int))) (h4 : (↑(s.data.getD n3.toNat (0 : UInt8)).toNat : Int) ≥ (224 : Int)) (h5 : ¬ ((↑(s.data.getD n3.toNat (0 : UInt8)).toNat : Int) ≤ (239 : Int))) (h6 : (↑(s.data.getD n3.toNat (0 : UInt8)).toNat : Int) ≥ (240 : Int)) (h7 : (↑(s.data.getD n3.toNat (0 : UInt8)).toNat : Int) ≤ (244 : Int)) (h8 : (↑(s.data.getD n3.toNat (0 : UInt8)).toNat : Int) = (240 : Int)) (h9 : (↑(s.data.getD n3.toNat (0 : UInt8)).toNat : Int) ≠ (244 : Int)) (h10 : ¬ (IntKind.i64.wrap (IntKind.i64.wrap ((↑s.size : Int) - n3) - (1 : Int)) < (3 : Int))) (h11 : ¬ ((↑(s.data.getD (IntKind.i64.wrap (n3 + (1 : Int))).toNat (0 : UInt8)).toNat : Int) < (144 : Int))) (h12 : ¬ ((↑(s.data.getD (IntKind.i64.wrap (n3 + (1 : Int))).toNat (0 : UInt8)).toNat : Int) > (191 : Int))) (h13 : (0 : Int) ≤ IntKind.i64.wrap (n3 + (1 : Int)) ∧ IntKind.i64.wrap (n3 + (1 : Int)) < (↑s.size : Int)) (h14 : (0 : Int) ≤ n3 ∧ n3 < (↑s.size : Int)) (g : utf_at1 s (n3) ((3 : Int)) ((2 : Int)) r H1) : utf_at0 s n3 r H1 :=
  have bq0 := decide_eq_true h0
  have bq1 := decide_eq_false h1
  have bq2 := decide_eq_true h2
  have bq3 := decide_eq_false h3
  have bq4 := decide_eq_true h4
  have bq5 := decide_eq_false h5
  have bq6 := decide_eq_true h6
  have bq7 := decide_eq_true h7
  have bq8 := beq_iff_eq.2 h8
  have bq9 := beq_eq_false_iff_ne.2 h9
  have bq10 := decide_eq_false h10
  have bq11 := decide_eq_false h11
  have bq12 := decide_eq_false h12
  fin_loop (fs (fun _ => false) 31 0 [0, 3, 5, 8] (utf_ok s) (pth 31 532643293) (ac bq12 (ac bq11 (ac (kff bq11) (ac (kff bq11) (ac h13 (ac (kff bq11) (ac (kff bq11) (ac (kff bq11) (ac (kff bq11) (ac bq10 (ac (kff bq10) (ac (kff bq10) (ac h13 (ac (kff bq10) (ac (kff bq10) (ac (kff bq10) (ac (kff bq10) (ac bq9 (ac bq8 (ac bq7 (ac bq6 (ac (ktt bq6) (ac (ktt bq6) (ac bq5 (ac bq4 (ac (ktt bq4) (ac (ktt bq4) (ac bq3 (ac bq2 (ac (ktt bq2) (ac (ktt bq2) (ac bq1 (ac h14 (ac bq0 an)))))))))))))))))))))))))))))))))) g)

theorem utf_0_21 {s : ByteArray} {n3 : Int} (h0 : n3 < (↑s.size : Int)) (h1 : ¬ ((↑(s.data.getD n3.toNat (0 : UInt8)).toNat : Int) < (128 : Int))) (h2 : (↑(s.data.getD n3.toNat (0 : UInt8)).toNat : Int) ≥ (194 : Int)) (h3 : ¬ ((↑(s.data.getD n3.toNat (0 : UInt8)).toNat : Int) ≤ (223 : Int))) (h4 : (↑(s.data.getD n3.toNat (0 : UInt8)).toNat : Int) ≥ (224 : Int)) (h5 : ¬ ((↑(s.data.getD n3.toNat (0 : UInt8)).toNat : Int) ≤ (239 : Int))) (h6 : (↑(s.data.getD n3.toNat (0 : UInt8)).toNat : Int) ≥ (240 : Int)) (h7 : (↑(s.data.getD n3.toNat (0 : UInt8)).toNat : Int) ≤ (244 : Int)) (h8 : (↑(s.data.getD n3.toNat (0 : UInt8)).toNat : Int) ≠ (240 : Int)) (h9 : (↑(s.data.getD n3.toNat (0 : UInt8)).toNat : Int) = (244 : Int)) (h10 : IntKind.i64.wrap (IntKind.i64.wrap ((↑s.size : Int) - n3) - (1 : Int)) < (3 : Int)) (h11 : (0 : Int) ≤ n3 ∧ n3 < (↑s.size : Int)) : utf_at0 s n3 (D.bool false) [] :=
  have bq0 := decide_eq_true h0
  have bq1 := decide_eq_false h1
  have bq2 := decide_eq_true h2
  have bq3 := decide_eq_false h3
  have bq4 := decide_eq_true h4
  have bq5 := decide_eq_false h5
  have bq6 := decide_eq_true h6
  have bq7 := decide_eq_true h7
  have bq8 := beq_eq_false_iff_ne.2 h8
  have bq9 := beq_iff_eq.2 h9
  have bq10 := decide_eq_true h10
  fin_loop (fr 31 0 (utf_ok s) (pth 31 1614855645) (ac tru (ac tru (ac (show false = false from rfl) (ac (show false = false from rfl) (ac (show false = false from rfl) (ac (show false = false from rfl) (ac (show false = false from rfl) (ac (show false = false from rfl) (ac bq10 (ac (ktf bq10) (ac (ktf bq10) (ac (ktf bq10) (ac (ktf bq10) (ac (ktf bq10) (ac (ktf bq10) (ac bq9 (ac bq8 (ac bq7 (ac bq6 (ac (ktt bq6) (ac (ktt bq6) (ac bq5 (ac bq4 (ac (ktt bq4) (ac (ktt bq4) (ac bq3 (ac bq2 (ac (ktt bq2) (ac (ktt bq2) (ac bq1 (ac h11 (ac bq0 an)))))))))))))))))))))))))))))))))

theorem utf_0_22 {s : ByteArray} {n3 : Int} (h0 : n3 < (↑s.size : Int)) (h1 : ¬ ((↑(s.data.getD n3.toNat (0 : UInt8)).toNat : Int) < (128 : Int))) (h2 : (↑(s.data.getD n3.toNat (0 : UInt8)).toNat : Int) ≥ (194 : Int)) (h3 : ¬ ((↑(s.data.getD n3.toNat (0 : UInt8)).toNat : Int) ≤ (223 : Int))) (h4 : (↑(s.data.getD n3.toNat (0 : UInt8)).toNat : Int) ≥ (224 : Int)) (h5 : ¬ ((↑(s.data.getD n3.toNat (0 : UInt8)).toNat : Int) ≤ (239 : Int))) (h6 : (↑(s.data.getD n3.toNat (0 : UInt8)).toNat : Int) ≥ (240 : Int)) (h7 : (↑(s.data.getD n3.toNat (0 : UInt8)).toNat : Int) ≤ (244 : Int)) (h8 : (↑(s.data.getD n3.toNat (0 : UInt8)).toNat : Int) ≠ (240 : Int)) (h9 : (↑(s.data.getD n3.toNat (0 : UInt8)).toNat : Int) = (244 : Int)) (h10 : ¬ (IntKind.i64.wrap (IntKind.i64.wrap ((↑s.size : Int) - n3) - (1 : Int)) < (3 : Int))) (h11 : (↑(s.data.getD (IntKind.i64.wrap (n3 + (1 : Int))).toNat (0 : UInt8)).toNat : Int) < (128 : Int)) (h12 : (0 : Int) ≤ IntKind.i64.wrap (n3 + (1 : Int)) ∧ IntKind.i64.wrap (n3 + (1 : Int)) < (↑s.size : Int)) (h13 : (0 : Int) ≤ n3 ∧ n3 < (↑s.size : Int)) : utf_at0 s n3 (D.bool false) [] :=
  have bq0 := decide_eq_true h0
  have bq1 := decide_eq_false h1
  have bq2 := decide_eq_true h2
  have bq3 := decide_eq_false h3
  have bq4 := decide_eq_true h4
  have bq5 := decide_eq_false h5
  have bq6 := decide_eq_true h6
  have bq7 := decide_eq_true h7
  have bq8 := beq_eq_false_iff_ne.2 h8
  have bq9 := beq_iff_eq.2 h9
  have bq10 := decide_eq_false h10
  have bq11 := decide_eq_true h11
  fin_loop (fr 31 0 (utf_ok s) (pth 31 1614790109) (ac tru (ac bq11 (ac (ktf bq11) (ac (ktf bq11) (ac (ktf bq11) (ac (ktf bq11) (ac (ktf bq11) (ac (ktf bq11) (ac bq10 (ac (kff bq10) (ac (kff bq10) (ac h12 (ac (kff bq10) (ac (kff bq10) (ac (kff bq10) (ac (kff bq10) (ac bq9 (ac bq8 (ac bq7 (ac bq6 (ac (ktt bq6) (ac (ktt bq6) (ac bq5 (ac bq4 (ac (ktt bq4) (ac (ktt bq4) (ac bq3 (ac bq2 (ac (ktt bq2) (ac (ktt bq2) (ac bq1 (ac h13 (ac bq0 an))))))))))))))))))))))))))))))))))

theorem utf_0_23 {s : ByteArray} {n3 : Int} (h0 : n3 < (↑s.size : Int)) (h1 : ¬ ((↑(s.data.getD n3.toNat (0 : UInt8)).toNat : Int) < (128 : Int))) (h2 : (↑(s.data.getD n3.toNat (0 : UInt8)).toNat : Int) ≥ (194 : Int)) (h3 : ¬ ((↑(s.data.getD n3.toNat (0 : UInt8)).toNat : Int) ≤ (223 : Int))) (h4 : (↑(s.data.getD n3.toNat (0 : UInt8)).toNat : Int) ≥ (224 : Int)) (h5 : ¬ ((↑(s.data.getD n3.toNat (0 : UInt8)).toNat : Int) ≤ (239 : Int))) (h6 : (↑(s.data.getD n3.toNat (0 : UInt8)).toNat : Int) ≥ (240 : Int)) (h7 : (↑(s.data.getD n3.toNat (0 : UInt8)).toNat : Int) ≤ (244 : Int)) (h8 : (↑(s.data.getD n3.toNat (0 : UInt8)).toNat : Int) ≠ (240 : Int)) (h9 : (↑(s.data.getD n3.toNat (0 : UInt8)).toNat : Int) = (244 : Int)) (h10 : ¬ (IntKind.i64.wrap (IntKind.i64.wrap ((↑s.size : Int) - n3) - (1 : Int)) < (3 : Int))) (h11 : ¬ ((↑(s.data.getD (IntKind.i64.wrap (n3 + (1 : Int))).toNat (0 : UInt8)).toNat : Int) < (128 : Int))) (h12 : (↑(s.data.getD (IntKind.i64.wrap (n3 + (1 : Int))).toNat (0 : UInt8)).toNat : Int) > (143 : Int)) (h13 : (0 : Int) ≤ IntKind.i64.wrap (n3 + (1 : Int)) ∧ IntKind.i64.wrap (n3 + (1 : Int)) < (↑s.size : Int)) (h14 : (0 : Int) ≤ n3 ∧ n3 < (↑s.size : Int)) : utf_at0 s n3 (D.bool false) [] :=
  have bq0 := decide_eq_true h0
  have bq1 := decide_eq_false h1
  have bq2 := decide_eq_true h2
  have bq3 := decide_eq_false h3
  have bq4 := decide_eq_true h4
  have bq5 := decide_eq_false h5
  have bq6 := decide_eq_true h6
  have bq7 := decide_eq_true h7
  have bq8 := beq_eq_false_iff_ne.2 h8
  have bq9 := beq_iff_eq.2 h9
  have bq10 := decide_eq_false h10
  have bq11 := decide_eq_false h11
  have bq12 := decide_eq_true h12
  fin_loop (fr 31 0 (utf_ok s) (pth 31 1606401501) (ac bq12 (ac bq11 (ac (kff bq11) (ac (kff bq11) (ac h13 (ac (kff bq11) (ac (kff bq11) (ac (kff bq11) (ac (kff bq11) (ac bq10 (ac (kff bq10) (ac (kff bq10) (ac h13 (ac (kff bq10) (ac (kff bq10) (ac (kff bq10) (ac (kff bq10) (ac bq9 (ac bq8 (ac bq7 (ac bq6 (ac (ktt bq6) (ac (ktt bq6) (ac bq5 (ac bq4 (ac (ktt bq4) (ac (ktt bq4) (ac bq3 (ac bq2 (ac (ktt bq2) (ac (ktt bq2) (ac bq1 (ac h14 (ac bq0 an)))))))))))))))))))))))))))))))))))

theorem utf_0_24 {s : ByteArray} {n3 : Int} {r : D} {H1 : GD.Heap} (h0 : n3 < (↑s.size : Int)) (h1 : ¬ ((↑(s.data.getD n3.toNat (0 : UInt8)).toNat : Int) < (128 : Int))) (h2 : (↑(s.data.getD n3.toNat (0 : UInt8)).toNat : Int) ≥ (194 : Int)) (h3 : ¬ ((↑(s.data.getD n3.toNat (0 : UInt8)).toNat : Int) ≤ (223 : Int))) (h4 : (↑(s.data.getD n3.toNat (0 : UInt8)).toNat : Int) ≥ (224 : Int)) (h5 : ¬ ((↑(s.data.getD n3.toNat (0 : UInt8)).toNat : Int) ≤ (239 : Int))) (h6 : (↑(s.data.getD n3.toNat (0 : UInt8)).toNat : Int) ≥ (240 : Int)) (h7 : (↑(s.data.getD n3.toNat (0 : UInt8)).toNat : Int) ≤ (244 : Int)) (h8 : (↑(s.data.getD n3.toNat (0 : UInt8)).toNat : Int) ≠ (240 : Int)) (h9 : (↑(s.data.getD n3.toNat (0 : UInt8)).toNat : Int) = (244 : Int)) (h10 : ¬ (IntKind.i64.wrap (IntKind.i64.wrap ((↑s.size : Int) - n3) - (1 : Int)) < (3 : Int))) (h11 : ¬ ((↑(s.data.getD (IntKind.i64.wrap (n3 + (1 : Int))).toNat (0 : UInt8)).toNat : Int) < (128 : Int))) (h12 : ¬ ((↑(s.data.getD (IntKind.i64.wrap (n3 + (1 : Int))).toNat (0 : UInt8)).toNat : Int) > (143 : Int))) (h13 : (0 : Int) ≤ IntKind.i64.wrap (n3 + (1 : Int)) ∧ IntKind.i64.wrap (n3 + (1 : Int)) < (↑s.size : Int)) (h14 : (0 : Int) ≤ n3 ∧ n3 < (↑s.size : Int)) (g : utf_at1 s (n3) ((3 : Int)) ((2 : Int)) r H1) : utf_at0 s n3 r H1 :=
  have bq0 := decide_eq_true h0
  have bq1 := decide_eq_false h1
  have bq2 := decide_eq_true h2
  have bq3 := decide_eq_false h3
  have bq4 := decide_eq_true h4
  have bq5 := decide_eq_false h5
  have bq6 := decide_eq_true h6
  have bq7 := decide_eq_true h7
  have bq8 := beq_eq_false_iff_ne.2 h8
  have bq9 := beq_iff_eq.2 h9
  have bq10 := decide_eq_false h10
  have bq11 := decide_eq_false h11
  have bq12 := decide_eq_false h12
  fin_loop (fs (fun _ => false) 31 0 [0, 3, 5, 8] (utf_ok s) (pth 31 532659677) (ac bq12 (ac bq11 (ac (kff bq11) (ac (kff bq11) (ac h13 (ac (kff bq11) (ac (kff bq11) (ac (kff bq11) (ac (kff bq11) (ac bq10 (ac (kff bq10) (ac (kff bq10) (ac h13 (ac (kff bq10) (ac (kff bq10) (ac (kff bq10) (ac (kff bq10) (ac bq9 (ac bq8 (ac bq7 (ac bq6 (ac (ktt bq6) (ac (ktt bq6) (ac bq5 (ac bq4 (ac (ktt bq4) (ac (ktt bq4) (ac bq3 (ac bq2 (ac (ktt bq2) (ac (ktt bq2) (ac bq1 (ac h14 (ac bq0 an)))))))))))))))))))))))))))))))))) g)

theorem utf_0_25 {s : ByteArray} {n3 : Int} (h0 : n3 < (↑s.size : Int)) (h1 : ¬ ((↑(s.data.getD n3.toNat (0 : UInt8)).toNat : Int) < (128 : Int))) (h2 : (↑(s.data.getD n3.toNat (0 : UInt8)).toNat : Int) ≥ (194 : Int)) (h3 : ¬ ((↑(s.data.getD n3.toNat (0 : UInt8)).toNat : Int) ≤ (223 : Int))) (h4 : (↑(s.data.getD n3.toNat (0 : UInt8)).toNat : Int) ≥ (224 : Int)) (h5 : ¬ ((↑(s.data.getD n3.toNat (0 : UInt8)).toNat : Int) ≤ (239 : Int))) (h6 : (↑(s.data.getD n3.toNat (0 : UInt8)).toNat : Int) ≥ (240 : Int)) (h7 : (↑(s.data.getD n3.toNat (0 : UInt8)).toNat : Int) ≤ (244 : Int)) (h8 : (↑(s.data.getD n3.toNat (0 : UInt8)).toNat : Int) ≠ (240 : Int)) (h9 : (↑(s.data.getD n3.toNat (0 : UInt8)).toNat : Int) ≠ (244 : Int)) (h10 : IntKind.i64.wrap (IntKind.i64.wrap ((↑s.size : Int) - n3) - (1 : Int)) < (3 : Int)) (h11 : (0 : Int) ≤ n3 ∧ n3 < (↑s.size : Int)) : utf_at0 s n3 (D.bool false) [] :=
  have bq0 := decide_eq_true h0
  have bq1 := decide_eq_false h1
  have bq2 := decide_eq_true h2
  have bq3 := decide_eq_false h3
  have bq4 := decide_eq_true h4
  have bq5 := decide_eq_false h5
  have bq6 := decide_eq_true h6
  have bq7 := decide_eq_true h7
  have bq8 := beq_eq_false_iff_ne.2 h8
  have bq9 := beq_eq_false_iff_ne.2 h9
  have bq10 := decide_eq_true h10
  fin_loop (fr 31 0 (utf_ok s) (pth 31 1614822877) (ac tru (ac tru (ac (show false = false from rfl) (ac (show false = false from rfl) (ac (show false = false from rfl) (ac (show false = false from rfl) (ac (show false = false from rfl) (ac (show false = false from rfl) (ac bq10 (ac (ktf bq10) (ac (ktf bq10) (ac (ktf bq10) (ac (ktf bq10) (ac (ktf bq10) (ac (ktf bq10) (ac bq9 (ac bq8 (ac bq7 (ac bq6 (ac (ktt bq6) (ac (ktt bq6) (ac bq5 (ac bq4 (ac (ktt bq4) (ac (ktt bq4) (ac bq3 (ac bq2 (ac (ktt bq2) (ac (ktt bq2) (ac bq1 (ac h11 (ac bq0 an)))))))))))))))))))))))))))))))))

theorem utf_0_26 {s : ByteArray} {n3 : Int} (h0 : n3 < (↑s.size : Int)) (h1 : ¬ ((↑(s.data.getD n3.toNat (0 : UInt8)).toNat : Int) < (128 : Int))) (h2 : (↑(s.data.getD n3.toNat (0 : UInt8)).toNat : Int) ≥ (194 : Int)) (h3 : ¬ ((↑(s.data.getD n3.toNat (0 : UInt8)).toNat : Int) ≤ (223 : Int))) (h4 : (↑(s.data.getD n3.toNat (0 : UInt8)).toNat : Int) ≥ (224 : Int)) (h5 : ¬ ((↑(s.data.getD n3.toNat (0 : UInt8)).toNat : Int) ≤ (239 : Int))) (h6 : (↑(s.data.getD n3.toNat (0 : UInt8)).toNat : Int) ≥ (240 : Int)) (h7 : (↑(s.data.getD n3.toNat (0 : UInt8)).toNat : Int) ≤ (244 : Int)) (h8 : (↑(s.data.getD n3.toNat (0 : UInt8)).toNat : Int) ≠ (240 : Int)) (h9 : (↑(s.data.getD n3.toNat (0 : UInt8)).toNat : Int) ≠ (244 : Int)) (h10 : ¬ (IntKind.i64.wrap (IntKind.i64.wrap ((↑s.size : Int) - n3) - (1 : Int)) < (3 : Int))) (h11 : (↑(s.data.getD (IntKind.i64.wrap (n3 + (1 : Int))).toNat (0 : UInt8)).toNat : Int) < (128 : Int)) (h12 : (0 : Int) ≤ IntKind.i64.wrap (n3 + (1 : Int)) ∧ IntKind.i64.wrap (n3 + (1 : Int)) < (↑s.size : Int)) (h13 : (0 : Int) ≤ n3 ∧ n3 < (↑s.size : Int)) : utf_at0 s n3 (D.bool false) [] :=
  have bq0 := decide_eq_true h0
  have bq1 := decide_eq_false h1
  have bq2 := decide_eq_true h2
  have bq3 := decide_eq_false h3
  have bq4 := decide_eq_true h4
  have bq5 := decide_eq_false h5
  have bq6 := decide_eq_true h6
  have bq7 := decide_eq_true h7
  have bq8 := beq_eq_false_iff_ne.2 h8
  have bq9 := beq_eq_false_iff_ne.2 h9
  have bq10 := decide_eq_false h10
  have bq11 := decide_eq_true h11
  fin_loop (fr 31 0 (utf_ok s) (pth 31 1614757341) (ac tru (ac bq11 (ac (ktf bq11) (ac (ktf bq11) (ac (ktf bq11) (ac (ktf bq11) (ac (ktf bq11) (ac (ktf bq11) (ac bq10 (ac (kff bq10) (ac (kff bq10) (ac h12 (ac (kff bq10) (ac (kff bq10) (ac (kff bq10) (ac (kff bq10) (ac bq9 (ac bq8 (ac bq7 (ac bq6 (ac (ktt bq6) (ac (ktt bq6) (ac bq5 (ac bq4 (ac (ktt bq4) (ac (ktt bq4) (ac bq3 (ac bq2 (ac (ktt bq2) (ac (ktt bq2) (ac bq1 (ac h13 (ac bq0 an))))))))))))))))))))))))))))))))))

theorem utf_0_27 {s : ByteArray} {n3 : Int} (h0 : n3 < (↑s.size : Int)) (h1 : ¬ ((↑(s.data.getD n3.toNat (0 : UInt8)).toNat : Int) < (128 : Int))) (h2 : (↑(s.data.getD n3.toNat (0 : UInt8)).toNat : Int) ≥ (194 : Int)) (h3 : ¬ ((↑(s.data.getD n3.toNat (0 : UInt8)).toNat : Int) ≤ (223 : Int))) (h4 : (↑(s.data.getD n3.toNat (0 : UInt8)).toNat : Int) ≥ (224 : Int)) (h5 : ¬ ((↑(s.data.getD n3.toNat (0 : UInt8)).toNat : Int) ≤ (239 : Int))) (h6 : (↑(s.data.getD n3.toNat (0 : UInt8)).toNat : Int) ≥ (240 : Int)) (h7 : (↑(s.data.getD n3.toNat (0 : UInt8)).toNat : Int) ≤ (244 : Int)) (h8 : (↑(s.data.getD n3.toNat (0 : UInt8)).toNat : Int) ≠ (240 : Int)) (h9 : (↑(s.data.getD n3.toNat (0 : UInt8)).toNat : Int) ≠ (244 : Int)) (h10 : ¬ (IntKind.i64.wrap (IntKind.i64.wrap ((↑s.size : Int) - n3) - (1 : Int)) < (3 : Int))) (h11 : ¬ ((↑(s.data.getD (IntKind.i64.wrap (n3 + (1 : Int))).toNat (0 : UInt8)).toNat : Int) < (128 : Int))) (h12 : (↑(s.data.getD (IntKind.i64.wrap (n3 + (1 : Int))).toNat (0 : UInt8)).toNat : Int) > (191 : Int)) (h13 : (0 : Int) ≤ IntKind.i64.wrap (n3 + (1 : Int)) ∧ IntKind.i64.wrap (n3 + (1 : Int)) < (↑s.size : Int)) (h14 : (0 : Int) ≤ n3 ∧ n3 < (↑s.size : Int)) : utf_at0 s n3 (D.bool false) [] :=
  have bq0 := decide_eq_true h0
  have bq1 := decide_eq_false h1
  have bq2 := decide_eq_true h2
  have bq3 := decide_eq_false h3
  have bq4 := decide_eq_true h4
  have bq5 := decide_eq_false h5
  have bq6 := decide_eq_true h6
  have bq7 := decide_eq_true h7
  have bq8 := beq_eq_false_iff_ne.2 h8
  have bq9 := beq_eq_false_iff_ne.2 h9
  have bq10 := decide_eq_false h10
  have bq11 := decide_eq_false h11
  have bq12 := decide_eq_true h12
  fin_loop (fr 31 0 (utf_ok s) (pth 31 1606368733) (ac bq12 (ac bq11 (ac (kff bq11) (ac (kff bq11) (ac h13 (ac (kff bq11) (ac (kff bq11) (ac (kff bq11) (ac (kff bq11) (ac bq10 (ac (kff bq10) (ac (kff bq10) (ac h13 (ac (kff bq10) (ac (kff bq10) (ac (kff bq10) (ac (kff bq10) (ac bq9 (ac bq8 (ac bq7 (ac bq6 (ac (ktt bq6) (ac (ktt bq6) (ac bq5 (ac bq4 (ac (ktt bq4) (ac (ktt bq4) (ac bq3 (ac bq2 (ac (ktt bq2) (ac (ktt bq2) (ac bq1 (ac h14 (ac bq0 an)))))))))))))))))))))))))))))))))))

theorem utf_0_28 {s : ByteArray} {n3 : Int} {r : D} {H1 : GD.Heap} (h0 : n3 < (↑s.size : Int)) (h1 : ¬ ((↑(s.data.getD n3.toNat (0 : UInt8)).toNat : Int) < (128 : Int))) (h2 : (↑(s.data.getD n3.toNat (0 : UInt8)).toNat : Int) ≥ (194 : Int)) (h3 : ¬ ((↑(s.data.getD n3.toNat (0 : UInt8)).toNat : Int) ≤ (223 : Int))) (h4 : (↑(s.data.getD n3.toNat (0 : UInt8)).toNat : Int) ≥ (224 : Int)) (h5 : ¬ ((↑(s.data.getD n3.toNat (0 : UInt8)).toNat : Int) ≤ (239 : Int))) (h6 : (↑(s.data.getD n3.toNat (0 : UInt8)).toNat : Int) ≥ (240 : Int)) (h7 : (↑(s.data.getD n3.toNat (0 : UInt8)).toNat : Int) ≤ (244 : Int)) (h8 : (↑(s.data.getD n3.toNat (0 : UInt8)).toNat : Int) ≠ (240 : Int)) (h9 : (↑(s.data.getD n3.toNat (0 : UInt8)).toNat : Int) ≠ (244 : Int)) (h10 : ¬ (IntKind.i64.wrap (IntKind.i64.wrap ((↑s.size : Int) - n3) - (1 : Int)) < (3 : Int))) (h11 : ¬ ((↑(s.data.getD (IntKind.i64.wrap (n3 + (1 : Int))).toNat (0 : UInt8)).toNat : Int) < (128 : Int))) (h12 : ¬ ((↑(s.data.getD (IntKind.i64.wrap (n3 + (1 : Int))).toNat (0 : UInt8)).toNat : Int) > (191 : Int))) (h13 : (0 : Int) ≤ IntKind.i64.wrap (n3 + (1 : Int)) ∧ IntKind.i64.wrap (n3 + (1 : Int)) < (↑s.size : Int)) (h14 : (0 : Int) ≤ n3 ∧ n3 < (↑s.size : Int)) (g : utf_at1 s (n3) ((3 : Int)) ((2 : Int)) r H1) : utf_at0 s n3 r H1 :=
  have bq0 := decide_eq_true h0
  have bq1 := decide_eq_false h1
  have bq2 := decide_eq_true h2
  have bq3 := decide_eq_false h3
  have bq4 := decide_eq_true h4
  have bq5 := decide_eq_false h5
  have bq6 := decide_eq_true h6
  have bq7 := decide_eq_true h7
  have bq8 := beq_eq_false_iff_ne.2 h8
  have bq9 := beq_eq_false_iff_ne.2 h9
  have bq10 := decide_eq_false h10
  have bq11 := decide_eq_false h11
  have bq12 := decide_eq_false h12
  fin_loop (fs (fun _ => false) 31 0 [0, 3, 5, 8] (utf_ok s) (pth 31 532626909) (ac bq12 (ac bq11 (ac (kff bq11) (ac (kff bq11) (ac h13 (ac (kff bq11) (ac (kff bq11) (ac (kff bq11) (ac (kff bq11) (ac bq10 (ac (kff bq10) (ac (kff bq10) (ac h13 (ac (kff bq10) (ac (kff bq10) (ac (kff bq10) (ac (kff bq10) (ac bq9 (ac bq8 (ac bq7 (ac bq6 (ac (ktt bq6) (ac (ktt bq6) (ac bq5 (ac bq4 (ac (ktt bq4) (ac (ktt bq4) (ac bq3 (ac bq2 (ac (ktt bq2) (ac (ktt bq2) (ac bq1 (ac h14 (ac bq0 an)))))))))))))))))))))))))))))))))) g)

theorem utf_0_29 {s : ByteArray} {n3 : Int} (h0 : n3 < (↑s.size : Int)) (h1 : ¬ ((↑(s.data.getD n3.toNat (0 : UInt8)).toNat : Int) < (128 : Int))) (h2 : (↑(s.data.getD n3.toNat (0 : UInt8)).toNat : Int) ≥ (194 : Int)) (h3 : ¬ ((↑(s.data.getD n3.toNat (0 : UInt8)).toNat : Int) ≤ (223 : Int))) (h4 : (↑(s.data.getD n3.toNat (0 : UInt8)).toNat : Int) ≥ (224 : Int)) (h5 : ¬ ((↑(s.data.getD n3.toNat (0 : UInt8)).toNat : Int) ≤ (239 : Int))) (h6 : (↑(s.data.getD n3.toNat (0 : UInt8)).toNat : Int) ≥ (240 : Int)) (h7 : ¬ ((↑(s.data.getD n3.toNat (0 : UInt8)).toNat : Int) ≤ (244 : Int))) (h8 : (0 : Int) ≤ n3 ∧ n3 < (↑s.size : Int)) : utf_at0 s n3 (D.bool false) [] :=
  have bq0 := decide_eq_true h0
  have bq1 := decide_eq_false h1
  have bq2 := decide_eq_true h2
  have bq3 := decide_eq_false h3
  have bq4 := decide_eq_true h4
  have bq5 := decide_eq_false h5
  have bq6 := decide_eq_true h6
  have bq7 := decide_eq_false h7
  fin_loop (fr 31 0 (utf_ok s) (pth 14 7645) (ac bq7 (ac bq6 (ac (ktt bq6) (ac (ktt bq6) (ac bq5 (ac bq4 (ac (ktt bq4) (ac (ktt bq4) (ac bq3 (ac bq2 (ac (ktt bq2) (ac (ktt bq2) (ac bq1 (ac h8 (ac bq0 an))))))))))))))))

theorem utf_0_30 {s : ByteArray} {n3 : Int} (h0 : n3 < (↑s.size : Int)) (h1 : ¬ ((↑(s.data.getD n3.toNat (0 : UInt8)).toNat : Int) < (128 : Int))) (h2 : ¬ ((↑(s.data.getD n3.toNat (0 : UInt8)).toNat : Int) ≥ (194 : Int))) (h3 : ¬ ((↑(s.data.getD n3.toNat (0 : UInt8)).toNat : Int) ≥ (224 : Int))) (h4 : ¬ ((↑(s.data.getD n3.toNat (0 : UInt8)).toNat : Int) ≥ (240 : Int))) (h5 : (0 : Int) ≤ n3 ∧ n3 < (↑s.size : Int)) : utf_at0 s n3 (D.bool false) [] :=
  have bq0 := decide_eq_true h0
  have bq1 := decide_eq_false h1
  have bq2 := decide_eq_false h2
  have bq3 := decide_eq_false h3
  have bq4 := decide_eq_false h4
  fin_loop (fr 31 0 (utf_ok s) (pth 14 1) (ac (show false = false from rfl) (ac bq4 (ac (kft bq4) (ac (kft bq4) (ac (show false = false from rfl) (ac bq3 (ac (kft bq3) (ac (kft bq3) (ac (show false = false from rfl) (ac bq2 (ac (kft bq2) (ac (kft bq2) (ac bq1 (ac h5 (ac bq0 an))))))))))))))))

theorem utf_0_31 {s : ByteArray} {n3 : Int} (h0 : ¬ (n3 < (↑s.size : Int))) : utf_at0 s n3 (D.bool true) [] :=
  have bq0 := decide_eq_false h0
  fin_loop (fr 31 0 (utf_ok s) (pth 1 0) (ac bq0 an))

theorem utf_1_0 {s : ByteArray} {n3 n5 n8 : Int} (h0 : n8 ≤ n5) (h1 : andW IntKind.u8 (↑(s.data.getD (IntKind.i64.wrap (n3 + n8)).toNat (0 : UInt8)).toNat : Int) (192 : Int) ≠ (128 : Int)) (h2 : (0 : Int) ≤ IntKind.i64.wrap (n3 + n8) ∧ IntKind.i64.wrap (n3 + n8) < (↑s.size : Int)) : utf_at1 s n3 n5 n8 (D.bool false) [] :=
  have bq0 := decide_eq_true h0
  have bq1 : (andW IntKind.u8 (↑(s.data.getD (IntKind.i64.wrap (n3 + n8)).toNat (0 : UInt8)).toNat : Int) (192 : Int) != (128 : Int)) = true := bne_iff_ne.2 h1
  fin_loop (fr 31 0 (utf_ok s) (pth 2 3) (ac bq1 (ac h2 (ac bq0 an))))

theorem utf_1_1 {s : ByteArray} {n3 n5 n8 : Int} {r : D} {H1 : GD.Heap} (h0 : n8 ≤ n5) (h1 : andW IntKind.u8 (↑(s.data.getD (IntKind.i64.wrap (n3 + n8)).toNat (0 : UInt8)).toNat : Int) (192 : Int) = (128 : Int)) (h2 : (0 : Int) ≤ IntKind.i64.wrap (n3 + n8) ∧ IntKind.i64.wrap (n3 + n8) < (↑s.size : Int)) (g : utf_at1 s (n3) (n5) (IntKind.i64.wrap (n8 + (1 : Int))) r H1) : utf_at1 s n3 n5 n8 r H1 :=
  have bq0 := decide_eq_true h0
  have bq1 : (andW IntKind.u8 (↑(s.data.getD (IntKind.i64.wrap (n3 + n8)).toNat (0 : UInt8)).toNat : Int) (192 : Int) != (128 : Int)) = false := (by rw [bne, Bool.not_eq_false']; exact beq_iff_eq.2 h1)
  fin_loop (fs (fun _ => false) 31 0 [0, 3, 5, 8] (utf_ok s) (pth 2 1) (ac bq1 (ac h2 (ac bq0 an))) g)

theorem utf_1_2 {s : ByteArray} {n3 n5 n8 : Int} {r : D} {H1 : GD.Heap} (h0 : ¬ (n8 ≤ n5)) (g : utf_at0 s (IntKind.i64.wrap (IntKind.i64.wrap (n3 + n5) + (1 : Int))) r H1) : utf_at1 s n3 n5 n8 r H1 :=
  have bq0 := decide_eq_false h0
  fin_loop (fs (fun _ => false) 31 0 [0, 3] (utf_ok s) (pth 1 0) (ac bq0 an) g)



theorem utf_all (s : ByteArray) (hs : s.size ≤ maxLen) : ∀ (m i : Nat), i + m = s.size → ∃ b, utf_at0 s i (.bool b) [] := by
  intro m
  induction m using Nat.strongRecOn with
  | _ m ih =>
  intro i hi
  have hmx : maxLen ≤ 9223372036854775807 := by decide
  by_cases h0 : (i : Int) < (s.size : Int)
  · have w1 : IntKind.i64.wrap ((i : Int) + (1 : Int)) = (i : Int) + 1 := wrap_i64 (by omega)
    have w2 : IntKind.i64.wrap ((s.size : Int) - (i : Int)) = (s.size : Int) - (i : Int) := wrap_i64 (by omega)
    have w3 : IntKind.i64.wrap (IntKind.i64.wrap ((s.size : Int) - (i : Int)) - (1 : Int)) = (s.size : Int) - (i : Int) - 1 := by rw [w2]; exact wrap_i64 (by omega)
    have key : ∀ n : Nat, n ≤ 3 → i + n < s.size → ∀ q k : Nat, k + q = n + 1 → ∃ b, utf_at1 s i n k (.bool b) [] := by
      intro n hn hin q
      induction q with
      | zero =>
        intro k hk
        obtain ⟨b, g⟩ := ih (s.size - (i + n + 1)) (by omega) (i + n + 1) (by omega)
        have e1 : IntKind.i64.wrap ((i : Int) + (n : Int)) = (i : Int) + n := wrap_i64 (by omega)
        have e2 : IntKind.i64.wrap (IntKind.i64.wrap ((i : Int) + (n : Int)) + (1 : Int)) = ((i + n + 1 : Nat) : Int) := by rw [e1, wrap_i64 (by omega)]; omega
        rw [← e2] at g
        exact ⟨b, utf_1_2 (by omega) g⟩
      | succ q ihq =>
        intro k hk
        have e1 : IntKind.i64.wrap ((i : Int) + (k : Int)) = (i : Int) + k := wrap_i64 (by omega)
        by_cases ha : andW IntKind.u8 ((s.data.getD (IntKind.i64.wrap ((i : Int) + (k : Int))).toNat (0 : UInt8)).toNat : Int) (192 : Int) = (128 : Int)
        · obtain ⟨b, g⟩ := ihq (k + 1) (by omega)
          have e2 : IntKind.i64.wrap ((k : Int) + (1 : Int)) = ((k + 1 : Nat) : Int) := by rw [wrap_i64 (by omega)]; omega
          rw [← e2] at g
          exact ⟨b, utf_1_1 (by omega) ha (by omega) g⟩
        · exact ⟨_, utf_1_0 (by omega) ha (by omega)⟩
    by_cases c1 : ((s.data.getD ((i : Int)).toNat (0 : UInt8)).toNat : Int) < (128 : Int)
    · obtain ⟨b, g⟩ := ih (s.size - (i + 1)) (by omega) (i + 1) (by omega)
      have e2 : IntKind.i64.wrap ((i : Int) + (1 : Int)) = ((i + 1 : Nat) : Int) := by omega
      rw [← e2] at g
      exact ⟨b, utf_0_0 (by omega) c1 (by omega) g⟩
    · by_cases c2 : ((s.data.getD ((i : Int)).toNat (0 : UInt8)).toNat : Int) ≥ (194 : Int)
      · by_cases c3 : ((s.data.getD ((i : Int)).toNat (0 : UInt8)).toNat : Int) ≤ (223 : Int)
        · by_cases r1 : IntKind.i64.wrap (IntKind.i64.wrap ((s.size : Int) - (i : Int)) - (1 : Int)) < (1 : Int)
          · exact ⟨_, utf_0_1 (by omega) (by omega) (by omega) (by omega) (by omega) (by omega)⟩
          · by_cases r2 : ((s.data.getD (IntKind.i64.wrap ((i : Int) + (1 : Int))).toNat (0 : UInt8)).toNat : Int) < (128 : Int)
            · exact ⟨_, utf_0_2 (by omega) (by omega) (by omega) (by omega) (by omega) (by omega) (by omega) (by omega)⟩
            · by_cases r3 : ((s.data.getD (IntKind.i64.wrap ((i : Int) + (1 : Int))).toNat (0 : UInt8)).toNat : Int) > (191 : Int)
              · exact ⟨_, utf_0_3 (by omega) (by omega) (by omega) (by omega) (by omega) (by omega) (by omega) (by omega) (by omega)⟩
              · obtain ⟨b, g⟩ := key 1 (by omega) (by omega) 0 2 (by omega)
                exact ⟨b, utf_0_4 (by omega) (by omega) (by omega) (by omega) (by omega) (by omega) (by omega) (by omega) (by omega) g⟩
        · by_cases c4 : ((s.data.getD ((i : Int)).toNat (0 : UInt8)).toNat : Int) ≤ (239 : Int)
          · by_cases c5 : ((s.data.getD ((i : Int)).toNat (0 : UInt8)).toNat : Int) = (224 : Int)
            · skip
              by_cases r1 : IntKind.i64.wrap (IntKind.i64.wrap ((s.size : Int) - (i : Int)) - (1 : Int)) < (2 : Int)
              · exact ⟨_, utf_0_5 (by omega) (by omega) (by omega) (by omega) (by omega) (by omega) (by omega) (by omega) (by omega) (by omega)⟩
              · by_cases r2 : ((s.data.getD (IntKind.i64.wrap ((i : Int) + (1 : Int))).toNat (0 : UInt8)).toNat : Int) < (160 : Int)
                · exact ⟨_, utf_0_6 (by omega) (by omega) (by omega) (by omega) (by omega) (by omega) (by omega) (by omega) (by omega) (by omega) (by omega) (by omega)⟩
                · by_cases r3 : ((s.data.getD (IntKind.i64.wrap ((i : Int) + (1 : Int))).toNat (0 : UInt8)).toNat : Int) > (191 : Int)
                  · exact ⟨_, utf_0_7 (by omega) (by omega) (by omega) (by omega) (by omega) (by omega) (by omega) (by omega) (by omega) (by omega) (by omega) (by omega) (by omega)⟩
                  · obtain ⟨b, g⟩ := key 2 (by omega) (by omega) 1 2 (by omega)
                    exact ⟨b, utf_0_8 (by omega) (by omega) (by omega) (by omega) (by omega) (by omega) (by omega) (by omega) (by omega) (by omega) (by omega) (by omega) (by omega) g⟩
            · by_cases c6 : ((s.data.getD ((i : Int)).toNat (0 : UInt8)).toNat : Int) = (237 : Int)
              · skip
                by_cases r1 : IntKind.i64.wrap (IntKind.i64.wrap ((s.size : Int) - (i : Int)) - (1 : Int)) < (2 : Int)
                · exact ⟨_, utf_0_9 (by omega) (by omega) (by omega) (by omega) (by omega) (by omega) (by omega) (by omega) (by omega) (by omega)⟩
                · by_cases r2 : ((s.data.getD (IntKind.i64.wrap ((i : Int) + (1 : Int))).toNat (0 : UInt8)).toNat : Int) < (128 : Int)
                  · exact ⟨_, utf_0_10 (by omega) (by omega) (by omega) (by omega) (by omega) (by omega) (by omega) (by omega) (by omega) (by omega) (by omega) (by omega)⟩
                  · by_cases r3 : ((s.data.getD (IntKind.i64.wrap ((i : Int) + (1 : Int))).toNat (0 : UInt8)).toNat : Int) > (159 : Int)
                    · exact ⟨_, utf_0_11 (by omega) (by omega) (by omega) (by omega) (by omega) (by omega) (by omega) (by omega) (by omega) (by omega) (by omega) (by omega) (by omega)⟩
                    · obtain ⟨b, g⟩ := key 2 (by omega) (by omega) 1 2 (by omega)
                      exact ⟨b, utf_0_12 (by omega) (by omega) (by omega) (by omega) (by omega) (by omega) (by omega) (by omega) (by omega) (by omega) (by omega) (by omega) (by omega) g⟩
              · skip
                by_cases r1 : IntKind.i64.wrap (IntKind.i64.wrap ((s.size : Int) - (i : Int)) - (1 : Int)) < (2 : Int)
                · exact ⟨_, utf_0_13 (by omega) (by omega) (by omega) (by omega) (by omega) (by omega) (by omega) (by omega) (by omega) (by omega)⟩
                · by_cases r2 : ((s.data.getD (IntKind.i64.wrap ((i : Int) + (1 : Int))).toNat (0 : UInt8)).toNat : Int) < (128 : Int)
                  · exact ⟨_, utf_0_14 (by omega) (by omega) (by omega) (by omega) (by omega) (by omega) (by omega) (by omega) (by omega) (by omega) (by omega) (by omega)⟩
                  · by_cases r3 : ((s.data.getD (IntKind.i64.wrap ((i : Int) + (1 : Int))).toNat (0 : UInt8)).toNat : Int) > (191 : Int)
                    · exact ⟨_, utf_0_15 (by omega) (by omega) (by omega) (by omega) (by omega) (by omega) (by omega) (by omega) (by omega) (by omega) (by omega) (by omega) (by omega)⟩
                    · obtain ⟨b, g⟩ := key 2 (by omega) (by omega) 1 2 (by omega)
                      exact ⟨b, utf_0_16 (by omega) (by omega) (by omega) (by omega) (by omega) (by omega) (by omega) (by omega) (by omega) (by omega) (by omega) (by omega) (by omega) g⟩
          · by_cases c7 : ((s.data.getD ((i : Int)).toNat (0 : UInt8)).toNat : Int) ≤ (244 : Int)
            · by_cases c8 : ((s.data.getD ((i : Int)).toNat (0 : UInt8)).toNat : Int) = (240 : Int)
              · skip
                by_cases r1 : IntKind.i64.wrap (IntKind.i64.wrap ((s.size : Int) - (i : Int)) - (1 : Int)) < (3 : Int)
                · exact ⟨_, utf_0_17 (by omega) (by omega) (by omega) (by omega) (by omega) (by omega) (by omega) (by omega) (by omega) (by omega) (by omega) (by omega)⟩
                · by_cases r2 : ((s.data.getD (IntKind.i64.wrap ((i : Int) + (1 : Int))).toNat (0 : UInt8)).toNat : Int) < (144 : Int)
                  · exact ⟨_, utf_0_18 (by omega) (by omega) (by omega) (by omega) (by omega) (by omega) (by omega) (by omega) (by omega) (by omega) (by omega) (by omega) (by omega) (by omega)⟩
                  · by_cases r3 : ((s.data.getD (IntKind.i64.wrap ((i : Int) + (1 : Int))).toNat (0 : UInt8)).toNat : Int) > (191 : Int)
                    · exact ⟨_, utf_0_19 (by omega) (by omega) (by omega) (by omega) (by omega) (by omega) (by omega) (by omega) (by omega) (by omega) (by omega) (by omega) (by omega) (by omega) (by omega)⟩
                    · obtain ⟨b, g⟩ := key 3 (by omega) (by omega) 2 2 (by omega)
                      exact ⟨b, utf_0_20 (by omega) (by omega) (by omega) (by omega) (by omega) (by omega) (by omega) (by omega) (by omega) (by omega) (by omega) (by omega) (by omega) (by omega) (by omega) g⟩
              · by_cases c9 : ((s.data.getD ((i : Int)).toNat (0 : UInt8)).toNat : Int) = (244 : Int)
                · skip
                  by_cases r1 : IntKind.i64.wrap (IntKind.i64.wrap ((s.size : Int) - (i : Int)) - (1 : Int)) < (3 : Int)
                  · exact ⟨_, utf_0_21 (by omega) (by omega) (by omega) (by omega) (by omega) (by omega) (by omega) (by omega) (by omega) (by omega) (by omega) (by omega)⟩
                  · by_cases r2 : ((s.data.getD (IntKind.i64.wrap ((i : Int) + (1 : Int))).toNat (0 : UInt8)).toNat : Int) < (128 : Int)
                    · exact ⟨_, utf_0_22 (by omega) (by omega) (by omega) (by omega) (by omega) (by omega) (by omega) (by omega) (by omega) (by omega) (by omega) (by omega) (by omega) (by omega)⟩
                    · by_cases r3 : ((s.data.getD (IntKind.i64.wrap ((i : Int) + (1 : Int))).toNat (0 : UInt8)).toNat : Int) > (143 : Int)
                      · exact ⟨_, utf_0_23 (by omega) (by omega) (by omega) (by omega) (by omega) (by omega) (by omega) (by omega) (by omega) (by omega) (by omega) (by omega) (by omega) (by omega) (by omega)⟩
                      · obtain ⟨b, g⟩ := key 3 (by omega) (by omega) 2 2 (by omega)
                        exact ⟨b, utf_0_24 (by omega) (by omega) (by omega) (by omega) (by omega) (by omega) (by omega) (by omega) (by omega) (by omega) (by omega) (by omega) (by omega) (by omega) (by omega) g⟩
                · skip
                  by_cases r1 : IntKind.i64.wrap (IntKind.i64.wrap ((s.size : Int) - (i : Int)) - (1 : Int)) < (3 : Int)
                  · exact ⟨_, utf_0_25 (by omega) (by omega) (by omega) (by omega) (by omega) (by omega) (by omega) (by omega) (by omega) (by omega) (by omega) (by omega)⟩
                  · by_cases r2 : ((s.data.getD (IntKind.i64.wrap ((i : Int) + (1 : Int))).toNat (0 : UInt8)).toNat : Int) < (128 : Int)
                    · exact ⟨_, utf_0_26 (by omega) (by omega) (by omega) (by omega) (by omega) (by omega) (by omega) (by omega) (by omega) (by omega) (by omega) (by omega) (by omega) (by omega)⟩
                    · by_cases r3 : ((s.data.getD (IntKind.i64.wrap ((i : Int) + (1 : Int))).toNat (0 : UInt8)).toNat : Int) > (191 : Int)
                      · exact ⟨_, utf_0_27 (by omega) (by omega) (by omega) (by omega) (by omega) (by omega) (by omega) (by omega) (by omega) (by omega) (by omega) (by omega) (by omega) (by omega) (by omega)⟩
                      · obtain ⟨b, g⟩ := key 3 (by omega) (by omega) 2 2 (by omega)
                        exact ⟨b, utf_0_28 (by omega) (by omega) (by omega) (by omega) (by omega) (by omega) (by omega) (by omega) (by omega) (by omega) (by omega) (by omega) (by omega) (by omega) (by omega) g⟩
            · exact ⟨_, utf_0_29 (by omega) (by omega) (by omega) (by omega) (by omega) (by omega) (by omega) (by omega) (by omega)⟩
      · exact ⟨_, utf_0_30 (by omega) (by omega) (by omega) (by omega) (by omega) (by omega)⟩
  · exact ⟨_, utf_0_31 (by omega)⟩
theorem utf38 (s : ByteArray) (hs : s.size ≤ maxLen) : ∃ b, Ret P T 31 [.str s] [] (.bool b) [] := by
  obtain ⟨b, g⟩ := utf_all s hs s.size 0 (by omega)
  exact ⟨b, utf_in_0 g⟩


end Go.Proofs.YtlccdfilbiipmaaDoor.ordk
