/- A page that is turned: roads. -/
import Derived.Test.YtifpbdhggooelaaSealV
namespace Go.Proofs.Ytifpbdhggooelaa.sealk
open Go Ytifpbdhggooelaa.GD
set_option linter.unusedVariables false
set_option linter.unusedSimpArgs false
set_option maxRecDepth 100000

def tabT (pageF : Int → Int → Es → Es) (opN opE : Es → Int) (opX : Es → Bool) (opL : Es → Es) : Tab := fun k args H =>
  match k with
  | 27 => match args, H with | [], [] => some (.bool true, []) | _, _ => none
  | 28 => match args, H with
    | [.int .i64 p, .int .i64 nx, .slice _ es none], [] => some (.tuple [.view 0 0 p.toNat, .int .i64 0], [some (.row 1 (pageF p nx es))])
    | _, _ => none
  | 30 => match args, H with | [.int .i64 p], [] => some (.int .i64 (roomU p), []) | _, _ => none
  | 34 => match args, H with
    | [.view 0 st len], [some (.row 1 es)] => some (.tuple [.int .i64 (opN ((es.drop st).take len)), .slice (opX ((es.drop st).take len)) (opL ((es.drop st).take len)) none, .int .i64 (opE ((es.drop st).take len))], [some (.row 1 es)])
    | _, _ => none
  | _ => none
def aT (pageF : Int → Int → Es → Es) (opN opE : Es → Int) (opX : Es → Bool) (opL : Es → Es) (page : Int) (xb : Bool) (eb : Es) (at0 w : Int) : List D × GD.Heap := ([.int .u8 page, .slice xb eb none, .agg [.int .u32 at0, .int .u32 w]], [])
def tT (pageF : Int → Int → Es → Es) (opN opE : Es → Int) (opX : Es → Bool) (opL : Es → Es) (page : Int) (xb : Bool) (eb : Es) (at0 w : Int) : Tab := tabT pageF opN opE opX opL

/-! ### function 8 -/
theorem lte_fn : Try.prog.funcs[(8 : Nat)]? = some (fnAt Try.prog 8) := by kernel_rfl
theorem lte_body : (fnAt Try.prog 8).body = some (bodyAt Try.prog 8) := by kernel_rfl
theorem lte_name : ((fnAt Try.prog 8).name == "runtime.NumGoroutine") = false := by kernel_rfl
noncomputable def lte_C (pageF : Int → Int → Es → Es) (opN : Es → Int) (opE : Es → Int) (opX : Es → Bool) (opL : Es → Es) (page : Int) (xb : Bool) (eb : Es) (at0 : Int) (w : Int) (n14_6 : Int) (n14_15 : Int) : Cf := cfg Try.prog (hintOf [((8 : Nat), (14 : Nat), (6 : Nat), Hint.c [D.int IntKind.u8 n14_6]), ((8 : Nat), (14 : Nat), (15 : Nat), Hint.c [D.int IntKind.u8 n14_15]), ((8 : Nat), (0 : Nat), (0 : Nat), Hint.tok)]) (tT pageF opN opE opX opL page xb eb at0 w) (fun _ => false) 2 true (fun z => Nat.beq 1 z)
theorem lte_ok (pageF : Int → Int → Es → Es) (opN : Es → Int) (opE : Es → Int) (opX : Es → Bool) (opL : Es → Es) (page : Int) (xb : Bool) (eb : Es) (at0 : Int) (w : Int) (n14_6 : Int) (n14_15 : Int) : CfOk (lte_C pageF opN opE opX opL page xb eb at0 w n14_6 n14_15) := cfg_ok (by kernel_rfl)
noncomputable def lte_run (pageF : Int → Int → Es → Es) (opN : Es → Int) (opE : Es → Int) (opX : Es → Bool) (opL : Es → Es) (page : Int) (xb : Bool) (eb : Es) (at0 : Int) (w : Int) (n14_6 : Int) (n14_15 : Int) (qcur : Cur) (qk : List It) (qs : St) (qor : GD.Or) := runE (lte_C pageF opN opE opX opL page xb eb at0 w n14_6 n14_15) (callE (lte_C pageF opN opE opX opL page xb eb at0 w n14_6 n14_15) 100000 10) 8 100000 qcur qk qs qor []
noncomputable def lte_l0 : Code := (loopAt Try.prog 8 0).1
noncomputable def lte_k0 : List It := (loopAt Try.prog 8 0).2
/- loop 0: n11:=(0 : Int); eh:=pageF (IntKind.i64.wrap ((64 : Int) * (2 : Int) ^ min (page.tmod (7 : Int)).toNat IntKind.i64.bits)) (3 : Int) eb; -/
noncomputable def lte_s0 (pageF : Int → Int → Es → Es) (opN : Es → Int) (opE : Es → Int) (opX : Es → Bool) (opL : Es → Es) (page : Int) (xb : Bool) (eb : Es) (at0 : Int) (w : Int) (n11 : Int) (eh : List (List D)) : St := ⟨envOf 94 [(5, D.sptr [D.int IntKind.u32 at0, D.int IntKind.u32 w]), (8, D.view (0 : Nat) (0 : Nat)
  (IntKind.i64.wrap ((64 : Int) * (2 : Int) ^ min (page.tmod (7 : Int)).toNat IntKind.i64.bits)).toNat), (10, D.int IntKind.i64
  ((IntKind.i64.wrap at0).tmod
    (IntKind.i64.wrap
      (IntKind.i64.wrap
          ((8 : Int) * IntKind.i64.wrap ((64 : Int) * (2 : Int) ^ min (page.tmod (7 : Int)).toNat IntKind.i64.bits)) -
        (31 : Int))))), (11, D.int IntKind.i64 n11)], [some (HObj.row (1 : Nat) eh)]⟩
def lte_at0 (pageF : Int → Int → Es → Es) (opN : Es → Int) (opE : Es → Int) (opX : Es → Bool) (opL : Es → Es) (page : Int) (xb : Bool) (eb : Es) (at0 : Int) (w : Int) (n11 : Int) (eh : List (List D)) (r : D) (H1 : GD.Heap) : Prop := GD.Fin Try.prog (tyOf Try.prog) (fnAt Try.prog 8) 0 (.code (.loop lte_l0)) lte_k0 (lte_s0 pageF opN opE opX opL page xb eb at0 w n11 eh) r H1

theorem lte_in_0 {pageF : Int → Int → Es → Es} {opN : Es → Int} {opE : Es → Int} {opX : Es → Bool} {opL : Es → Es} {page : Int} {xb : Bool} {eb : Es} {at0 : Int} {w : Int}
    (h0 : (↑(List.length eb) : Int) > roomU (shlW IntKind.i64 (64 : Int) (page.tmod (7 : Int))))
    (h1 : (0 : Int) ≤ page.tmod (7 : Int))
    (h2 : Ret Try.prog (tyOf Try.prog) (27 : Nat) [] [] (D.bool true) []) :
    Ret Try.prog (tyOf Try.prog) 8 [D.int IntKind.u8 page, D.slice xb eb none, D.agg [D.int IntKind.u32 at0, D.int IntKind.u32 w]] [] (D.bool true) [] :=
  have bq0 : decide ((↑(List.length eb) : Int) > roomU (shlW IntKind.i64 (64 : Int) (page.tmod (7 : Int)))) = true := decide_eq_true h0
  fin_call lte_fn lte_body lte_name (fin_ret (h := 0) (lte_ok pageF opN opE opX opL page xb eb at0 w 0 0) (show outF (tyOf Try.prog) (fnAt Try.prog 8) 0 (lte_run pageF opN opE opX opL page xb eb at0 w 0 0 (.code (bodyAt Try.prog 8)) [] (beginE (fnAt Try.prog 8) [D.int IntKind.u8 page, D.slice xb eb none, D.agg [D.int IntKind.u32 at0, D.int IntKind.u32 w]] []) (.path [false, false, false, false, true, true])) = some (D.bool true, [],
    [true = true,
      decide ((↑(List.length eb) : Int) > roomU (shlW IntKind.i64 (64 : Int) (page.tmod (7 : Int)))) = true,
      (decide ((↑(List.length eb) : Int) > roomU (shlW IntKind.i64 (64 : Int) (page.tmod (7 : Int)))) == false) = false,
      (decide ((↑(List.length eb) : Int) > roomU (shlW IntKind.i64 (64 : Int) (page.tmod (7 : Int)))) == false) = false,
      (decide ((↑(List.length eb) : Int) > roomU (shlW IntKind.i64 (64 : Int) (page.tmod (7 : Int)))) == false) = false,
      Ret Try.prog (tyOf Try.prog) (30 : Nat) [D.int IntKind.i64 (shlW IntKind.i64 (64 : Int) (page.tmod (7 : Int)))] []
  (D.int IntKind.i64 (roomU (shlW IntKind.i64 (64 : Int) (page.tmod (7 : Int))))) [],
      (0 : Int) ≤ page.tmod (7 : Int),
      (7 : Int) ≠ (0 : Int),
      false = false,
      Ret Try.prog (tyOf Try.prog) (27 : Nat) [] [] (D.bool true) []]) by kernel_rfl)
    (all_cons.2 ⟨rfl, all_cons.2 ⟨bq0, all_cons.2 ⟨(by rw [bq0]; rfl), all_cons.2 ⟨(by rw [bq0]; rfl), all_cons.2 ⟨(by rw [bq0]; rfl), all_cons.2 ⟨(room30 _), all_cons.2 ⟨h1, all_cons.2 ⟨(by decide), all_cons.2 ⟨rfl, all_cons.2 ⟨h2, all_nil.2 trivial⟩⟩⟩⟩⟩⟩⟩⟩⟩⟩))

theorem lte_in_1 {pageF : Int → Int → Es → Es} {opN : Es → Int} {opE : Es → Int} {opX : Es → Bool} {opL : Es → Es} {page : Int} {xb : Bool} {eb : Es} {at0 : Int} {w : Int}
    (h0 : ¬ ((↑(List.length eb) : Int) > roomU (shlW IntKind.i64 (64 : Int) (page.tmod (7 : Int)))))
    (h1 : w = (0 : Int))
    (h2 : (0 : Int) ≤ page.tmod (7 : Int))
    (h3 : Ret Try.prog (tyOf Try.prog) (27 : Nat) [] [] (D.bool true) []) :
    Ret Try.prog (tyOf Try.prog) 8 [D.int IntKind.u8 page, D.slice xb eb none, D.agg [D.int IntKind.u32 at0, D.int IntKind.u32 w]] [] (D.bool true) [] :=
  have bq0 : decide ((↑(List.length eb) : Int) > roomU (shlW IntKind.i64 (64 : Int) (page.tmod (7 : Int)))) = false := decide_eq_false h0
  have bq1 : (w == (0 : Int)) = true := beq_iff_eq.2 h1
  fin_call lte_fn lte_body lte_name (fin_ret (h := 0) (lte_ok pageF opN opE opX opL page xb eb at0 w 0 0) (show outF (tyOf Try.prog) (fnAt Try.prog 8) 0 (lte_run pageF opN opE opX opL page xb eb at0 w 0 0 (.code (bodyAt Try.prog 8)) [] (beginE (fnAt Try.prog 8) [D.int IntKind.u8 page, D.slice xb eb none, D.agg [D.int IntKind.u32 at0, D.int IntKind.u32 w]] []) (.path [false, true, true, true, false, true])) = some (D.bool true, [],
    [(w == (0 : Int)) = true,
      decide ((↑(List.length eb) : Int) > roomU (shlW IntKind.i64 (64 : Int) (page.tmod (7 : Int)))) = false,
      (decide ((↑(List.length eb) : Int) > roomU (shlW IntKind.i64 (64 : Int) (page.tmod (7 : Int)))) == false) = true,
      (decide ((↑(List.length eb) : Int) > roomU (shlW IntKind.i64 (64 : Int) (page.tmod (7 : Int)))) == false) = true,
      (0 : Int) ≤ (1 : Int) ∧ (1 : Int) < (↑(2 : Nat) : Int),
      (decide ((↑(List.length eb) : Int) > roomU (shlW IntKind.i64 (64 : Int) (page.tmod (7 : Int)))) == false) = true,
      Ret Try.prog (tyOf Try.prog) (30 : Nat) [D.int IntKind.i64 (shlW IntKind.i64 (64 : Int) (page.tmod (7 : Int)))] []
  (D.int IntKind.i64 (roomU (shlW IntKind.i64 (64 : Int) (page.tmod (7 : Int))))) [],
      (0 : Int) ≤ page.tmod (7 : Int),
      (7 : Int) ≠ (0 : Int),
      false = false,
      Ret Try.prog (tyOf Try.prog) (27 : Nat) [] [] (D.bool true) []]) by kernel_rfl)
    (all_cons.2 ⟨bq1, all_cons.2 ⟨bq0, all_cons.2 ⟨(by rw [bq0]; rfl), all_cons.2 ⟨(by rw [bq0]; rfl), all_cons.2 ⟨(by decide), all_cons.2 ⟨(by rw [bq0]; rfl), all_cons.2 ⟨(room30 _), all_cons.2 ⟨h2, all_cons.2 ⟨(by decide), all_cons.2 ⟨rfl, all_cons.2 ⟨h3, all_nil.2 trivial⟩⟩⟩⟩⟩⟩⟩⟩⟩⟩⟩))

theorem lte_in_2 {pageF : Int → Int → Es → Es} {opN : Es → Int} {opE : Es → Int} {opX : Es → Bool} {opL : Es → Es} {page : Int} {xb : Bool} {eb : Es} {at0 : Int} {w : Int} {r : D} {H1 : GD.Heap}
    (h0 : ¬ ((↑(List.length eb) : Int) > roomU (shlW IntKind.i64 (64 : Int) (page.tmod (7 : Int)))))
    (h1 : w ≠ (0 : Int))
    (h2 : (↑(shlW IntKind.i64 (64 : Int) (page.tmod (7 : Int))).toNat : Int) = shlW IntKind.i64 (64 : Int) (page.tmod (7 : Int)))
    (h3 : FlatEs (pageF (shlW IntKind.i64 (64 : Int) (page.tmod (7 : Int))) (3 : Int) eb))
    (h4 : IntKind.i64.wrap (IntKind.i64.wrap ((8 : Int) * shlW IntKind.i64 (64 : Int) (page.tmod (7 : Int))) - (31 : Int)) ≠
  (0 : Int))
    (h5 : Ret Try.prog (tyOf Try.prog) (28 : Nat)
  [D.int IntKind.i64 (shlW IntKind.i64 (64 : Int) (page.tmod (7 : Int))), D.int IntKind.i64 (3 : Int),
    D.slice xb eb none]
  []
  (D.tuple
    [D.view (0 : Nat) (0 : Nat) (shlW IntKind.i64 (64 : Int) (page.tmod (7 : Int))).toNat, D.int IntKind.i64 (0 : Int)])
  [some (HObj.row (1 : Nat) (pageF (shlW IntKind.i64 (64 : Int) (page.tmod (7 : Int))) (3 : Int) eb))])
    (h6 : (0 : Int) ≤ page.tmod (7 : Int))
    (h7 : Ret Try.prog (tyOf Try.prog) (27 : Nat) [] [] (D.bool true) [])
    (g : lte_at0 pageF opN opE opX opL page xb eb at0 w ((0 : Int)) (pageF (shlW IntKind.i64 (64 : Int) (page.tmod (7 : Int))) (3 : Int) eb) r H1) :
    Ret Try.prog (tyOf Try.prog) 8 [D.int IntKind.u8 page, D.slice xb eb none, D.agg [D.int IntKind.u32 at0, D.int IntKind.u32 w]] [] r H1 :=
  have bq0 : decide ((↑(List.length eb) : Int) > roomU (shlW IntKind.i64 (64 : Int) (page.tmod (7 : Int)))) = false := decide_eq_false h0
  have bq1 : (w == (0 : Int)) = false := beq_eq_false_iff_ne.2 h1
  have bq2 : ((↑(shlW IntKind.i64 (64 : Int) (page.tmod (7 : Int))).toNat : Int) !=
    shlW IntKind.i64 (64 : Int) (page.tmod (7 : Int))) =
  false := (by rw [bne, Bool.not_eq_false']; exact beq_iff_eq.2 h2)
  fin_call lte_fn lte_body lte_name (fin_stop (F := (fun z => Nat.beq 1 z)) (h := 1) (keep := [5, 8, 10, 11]) (lte_ok pageF opN opE opX opL page xb eb at0 w 0 0) (show cutX (fun z => Nat.beq 1 z) [5, 8, 10, 11] 1 (lte_run pageF opN opE opX opL page xb eb at0 w 0 0 (.code (bodyAt Try.prog 8)) [] (beginE (fnAt Try.prog 8) [D.int IntKind.u8 page, D.slice xb eb none, D.agg [D.int IntKind.u32 at0, D.int IntKind.u32 w]] []) (.path [false, true, true, true, false, false, true, true, true, true, false, false])) = some (lte_l0, lte_k0, (lte_s0 pageF opN opE opX opL page xb eb at0 w ((0 : Int)) (pageF (shlW IntKind.i64 (64 : Int) (page.tmod (7 : Int))) (3 : Int) eb)).env, (lte_s0 pageF opN opE opX opL page xb eb at0 w ((0 : Int)) (pageF (shlW IntKind.i64 (64 : Int) (page.tmod (7 : Int))) (3 : Int) eb)).H,
    [FlatEs (pageF (shlW IntKind.i64 (64 : Int) (page.tmod (7 : Int))) (3 : Int) eb),
      IntKind.i64.wrap (IntKind.i64.wrap ((8 : Int) * shlW IntKind.i64 (64 : Int) (page.tmod (7 : Int))) - (31 : Int)) ≠
  (0 : Int),
      (0 : Int) ≤ (0 : Int) ∧ (0 : Int) < (↑(2 : Nat) : Int),
      ((↑(shlW IntKind.i64 (64 : Int) (page.tmod (7 : Int))).toNat : Int) !=
    shlW IntKind.i64 (64 : Int) (page.tmod (7 : Int))) =
  false,
      false = false,
      true = true,
      true = true,
      true = true,
      true = true,
      FlatEs (pageF (shlW IntKind.i64 (64 : Int) (page.tmod (7 : Int))) (3 : Int) eb),
      Ret Try.prog (tyOf Try.prog) (28 : Nat)
  [D.int IntKind.i64 (shlW IntKind.i64 (64 : Int) (page.tmod (7 : Int))), D.int IntKind.i64 (3 : Int),
    D.slice xb eb none]
  []
  (D.tuple
    [D.view (0 : Nat) (0 : Nat) (shlW IntKind.i64 (64 : Int) (page.tmod (7 : Int))).toNat, D.int IntKind.i64 (0 : Int)])
  [some (HObj.row (1 : Nat) (pageF (shlW IntKind.i64 (64 : Int) (page.tmod (7 : Int))) (3 : Int) eb))],
      (w == (0 : Int)) = false,
      decide ((↑(List.length eb) : Int) > roomU (shlW IntKind.i64 (64 : Int) (page.tmod (7 : Int)))) = false,
      (decide ((↑(List.length eb) : Int) > roomU (shlW IntKind.i64 (64 : Int) (page.tmod (7 : Int)))) == false) = true,
      (decide ((↑(List.length eb) : Int) > roomU (shlW IntKind.i64 (64 : Int) (page.tmod (7 : Int)))) == false) = true,
      (0 : Int) ≤ (1 : Int) ∧ (1 : Int) < (↑(2 : Nat) : Int),
      (decide ((↑(List.length eb) : Int) > roomU (shlW IntKind.i64 (64 : Int) (page.tmod (7 : Int)))) == false) = true,
      Ret Try.prog (tyOf Try.prog) (30 : Nat) [D.int IntKind.i64 (shlW IntKind.i64 (64 : Int) (page.tmod (7 : Int)))] []
  (D.int IntKind.i64 (roomU (shlW IntKind.i64 (64 : Int) (page.tmod (7 : Int))))) [],
      (0 : Int) ≤ page.tmod (7 : Int),
      (7 : Int) ≠ (0 : Int),
      false = false,
      Ret Try.prog (tyOf Try.prog) (27 : Nat) [] [] (D.bool true) []]) by kernel_rfl)
    (all_cons.2 ⟨h3, all_cons.2 ⟨h4, all_cons.2 ⟨(by decide), all_cons.2 ⟨bq2, all_cons.2 ⟨rfl, all_cons.2 ⟨rfl, all_cons.2 ⟨rfl, all_cons.2 ⟨rfl, all_cons.2 ⟨rfl, all_cons.2 ⟨h3, all_cons.2 ⟨h5, all_cons.2 ⟨bq1, all_cons.2 ⟨bq0, all_cons.2 ⟨(by rw [bq0]; rfl), all_cons.2 ⟨(by rw [bq0]; rfl), all_cons.2 ⟨(by decide), all_cons.2 ⟨(by rw [bq0]; rfl), all_cons.2 ⟨(room30 _), all_cons.2 ⟨h6, all_cons.2 ⟨(by decide), all_cons.2 ⟨rfl, all_cons.2 ⟨h7, all_nil.2 trivial⟩⟩⟩⟩⟩⟩⟩⟩⟩⟩⟩⟩⟩⟩⟩⟩⟩⟩⟩⟩⟩⟩) (show (0 : Nat) ≤ 1 by decide) g)

theorem lte_0_0 {pageF : Int → Int → Es → Es} {opN : Es → Int} {opE : Es → Int} {opX : Es → Bool} {opL : Es → Es} {page : Int} {xb : Bool} {eb : Es} {at0 : Int} {w : Int} {n11 : Int} {eh : List (List D)} {n14_6 : Int} {n14_15 : Int} {r : D} {H1 : GD.Heap}
    (h0 : n11 < (32 : Int))
    (h1 : andW IntKind.u32 (shrW IntKind.u32 w (IntKind.u64.wrap n11)) (1 : Int) = (1 : Int))
    (h2 : FlatEs
  (eh.set
    ((0 : Nat) +
      (IntKind.i64.wrap
          ((IntKind.i64.wrap
                ((IntKind.i64.wrap at0).tmod
                    (IntKind.i64.wrap
                      (IntKind.i64.wrap ((8 : Int) * shlW IntKind.i64 (64 : Int) (page.tmod (7 : Int))) - (31 : Int))) +
                  n11)).tdiv
            (8 : Int))).toNat)
    [D.int IntKind.u8
        (xorW IntKind.u8 n14_6
          (shlW IntKind.u8 (1 : Int)
            (IntKind.u64.wrap
              ((IntKind.i64.wrap
                    ((IntKind.i64.wrap at0).tmod
                        (IntKind.i64.wrap
                          (IntKind.i64.wrap ((8 : Int) * shlW IntKind.i64 (64 : Int) (page.tmod (7 : Int))) -
                            (31 : Int))) +
                      n11)).tmod
                (8 : Int)))))]))
    (h3 : eh[(0 : Nat) +
      (IntKind.i64.wrap
          ((IntKind.i64.wrap
                ((IntKind.i64.wrap at0).tmod
                    (IntKind.i64.wrap
                      (IntKind.i64.wrap ((8 : Int) * shlW IntKind.i64 (64 : Int) (page.tmod (7 : Int))) - (31 : Int))) +
                  n11)).tdiv
            (8 : Int))).toNat]? =
  some [D.int IntKind.u8 n14_15])
    (h4 : (0 : Int) ≤
    IntKind.i64.wrap
      ((IntKind.i64.wrap
            ((IntKind.i64.wrap at0).tmod
                (IntKind.i64.wrap
                  (IntKind.i64.wrap ((8 : Int) * shlW IntKind.i64 (64 : Int) (page.tmod (7 : Int))) - (31 : Int))) +
              n11)).tdiv
        (8 : Int)) ∧
  IntKind.i64.wrap
      ((IntKind.i64.wrap
            ((IntKind.i64.wrap at0).tmod
                (IntKind.i64.wrap
                  (IntKind.i64.wrap ((8 : Int) * shlW IntKind.i64 (64 : Int) (page.tmod (7 : Int))) - (31 : Int))) +
              n11)).tdiv
        (8 : Int)) <
    (↑(shlW IntKind.i64 (64 : Int) (page.tmod (7 : Int))).toNat : Int))
    (h5 : (0 : Int) ≤
  IntKind.u64.wrap
    ((IntKind.i64.wrap
          ((IntKind.i64.wrap at0).tmod
              (IntKind.i64.wrap
                (IntKind.i64.wrap ((8 : Int) * shlW IntKind.i64 (64 : Int) (page.tmod (7 : Int))) - (31 : Int))) +
            n11)).tmod
      (8 : Int)))
    (h6 : eh[(0 : Nat) +
      (IntKind.i64.wrap
          ((IntKind.i64.wrap
                ((IntKind.i64.wrap at0).tmod
                    (IntKind.i64.wrap
                      (IntKind.i64.wrap ((8 : Int) * shlW IntKind.i64 (64 : Int) (page.tmod (7 : Int))) - (31 : Int))) +
                  n11)).tdiv
            (8 : Int))).toNat]? =
  some [D.int IntKind.u8 n14_6])
    (h7 : (0 : Int) ≤ IntKind.u64.wrap n11)
    (g : lte_at0 pageF opN opE opX opL page xb eb at0 w (IntKind.i64.wrap (n11 + (1 : Int))) (eh.set
  ((0 : Nat) +
    (IntKind.i64.wrap
        ((IntKind.i64.wrap
              ((IntKind.i64.wrap at0).tmod
                  (IntKind.i64.wrap
                    (IntKind.i64.wrap ((8 : Int) * shlW IntKind.i64 (64 : Int) (page.tmod (7 : Int))) - (31 : Int))) +
                n11)).tdiv
          (8 : Int))).toNat)
  [D.int IntKind.u8
      (xorW IntKind.u8 n14_6
        (shlW IntKind.u8 (1 : Int)
          (IntKind.u64.wrap
            ((IntKind.i64.wrap
                  ((IntKind.i64.wrap at0).tmod
                      (IntKind.i64.wrap
                        (IntKind.i64.wrap ((8 : Int) * shlW IntKind.i64 (64 : Int) (page.tmod (7 : Int))) -
                          (31 : Int))) +
                    n11)).tmod
              (8 : Int)))))]) r H1) :
    lte_at0 pageF opN opE opX opL page xb eb at0 w n11 eh r H1 :=
  have bq0 : decide (n11 < (32 : Int)) = true := decide_eq_true h0
  have bq1 : (andW IntKind.u32 (shrW IntKind.u32 w (IntKind.u64.wrap n11)) (1 : Int) == (1 : Int)) = true := beq_iff_eq.2 h1
  fin_loop (fin_stop (F := (fun z => Nat.beq 1 z)) (h := 1) (keep := [5, 8, 10, 11]) (lte_ok pageF opN opE opX opL page xb eb at0 w n14_6 n14_15) (show cutX (fun z => Nat.beq 1 z) [5, 8, 10, 11] 1 (lte_run pageF opN opE opX opL page xb eb at0 w n14_6 n14_15 (.code lte_l0) (.lp lte_l0 :: lte_k0) (lte_s0 pageF opN opE opX opL page xb eb at0 w n11 eh) (.path [true, true])) = some (lte_l0, lte_k0, (lte_s0 pageF opN opE opX opL page xb eb at0 w (IntKind.i64.wrap (n11 + (1 : Int))) (eh.set
  ((0 : Nat) +
    (IntKind.i64.wrap
        ((IntKind.i64.wrap
              ((IntKind.i64.wrap at0).tmod
                  (IntKind.i64.wrap
                    (IntKind.i64.wrap ((8 : Int) * shlW IntKind.i64 (64 : Int) (page.tmod (7 : Int))) - (31 : Int))) +
                n11)).tdiv
          (8 : Int))).toNat)
  [D.int IntKind.u8
      (xorW IntKind.u8 n14_6
        (shlW IntKind.u8 (1 : Int)
          (IntKind.u64.wrap
            ((IntKind.i64.wrap
                  ((IntKind.i64.wrap at0).tmod
                      (IntKind.i64.wrap
                        (IntKind.i64.wrap ((8 : Int) * shlW IntKind.i64 (64 : Int) (page.tmod (7 : Int))) -
                          (31 : Int))) +
                    n11)).tmod
              (8 : Int)))))])).env, (lte_s0 pageF opN opE opX opL page xb eb at0 w (IntKind.i64.wrap (n11 + (1 : Int))) (eh.set
  ((0 : Nat) +
    (IntKind.i64.wrap
        ((IntKind.i64.wrap
              ((IntKind.i64.wrap at0).tmod
                  (IntKind.i64.wrap
                    (IntKind.i64.wrap ((8 : Int) * shlW IntKind.i64 (64 : Int) (page.tmod (7 : Int))) - (31 : Int))) +
                n11)).tdiv
          (8 : Int))).toNat)
  [D.int IntKind.u8
      (xorW IntKind.u8 n14_6
        (shlW IntKind.u8 (1 : Int)
          (IntKind.u64.wrap
            ((IntKind.i64.wrap
                  ((IntKind.i64.wrap at0).tmod
                      (IntKind.i64.wrap
                        (IntKind.i64.wrap ((8 : Int) * shlW IntKind.i64 (64 : Int) (page.tmod (7 : Int))) -
                          (31 : Int))) +
                    n11)).tmod
              (8 : Int)))))])).H,
    [FlatEs
  (eh.set
    ((0 : Nat) +
      (IntKind.i64.wrap
          ((IntKind.i64.wrap
                ((IntKind.i64.wrap at0).tmod
                    (IntKind.i64.wrap
                      (IntKind.i64.wrap ((8 : Int) * shlW IntKind.i64 (64 : Int) (page.tmod (7 : Int))) - (31 : Int))) +
                  n11)).tdiv
            (8 : Int))).toNat)
    [D.int IntKind.u8
        (xorW IntKind.u8 n14_6
          (shlW IntKind.u8 (1 : Int)
            (IntKind.u64.wrap
              ((IntKind.i64.wrap
                    ((IntKind.i64.wrap at0).tmod
                        (IntKind.i64.wrap
                          (IntKind.i64.wrap ((8 : Int) * shlW IntKind.i64 (64 : Int) (page.tmod (7 : Int))) -
                            (31 : Int))) +
                      n11)).tmod
                (8 : Int)))))]),
      eh[(0 : Nat) +
      (IntKind.i64.wrap
          ((IntKind.i64.wrap
                ((IntKind.i64.wrap at0).tmod
                    (IntKind.i64.wrap
                      (IntKind.i64.wrap ((8 : Int) * shlW IntKind.i64 (64 : Int) (page.tmod (7 : Int))) - (31 : Int))) +
                  n11)).tdiv
            (8 : Int))).toNat]? =
  some [D.int IntKind.u8 n14_15],
      (0 : Int) ≤
    IntKind.i64.wrap
      ((IntKind.i64.wrap
            ((IntKind.i64.wrap at0).tmod
                (IntKind.i64.wrap
                  (IntKind.i64.wrap ((8 : Int) * shlW IntKind.i64 (64 : Int) (page.tmod (7 : Int))) - (31 : Int))) +
              n11)).tdiv
        (8 : Int)) ∧
  IntKind.i64.wrap
      ((IntKind.i64.wrap
            ((IntKind.i64.wrap at0).tmod
                (IntKind.i64.wrap
                  (IntKind.i64.wrap ((8 : Int) * shlW IntKind.i64 (64 : Int) (page.tmod (7 : Int))) - (31 : Int))) +
              n11)).tdiv
        (8 : Int)) <
    (↑(shlW IntKind.i64 (64 : Int) (page.tmod (7 : Int))).toNat : Int),
      (0 : Int) ≤
  IntKind.u64.wrap
    ((IntKind.i64.wrap
          ((IntKind.i64.wrap at0).tmod
              (IntKind.i64.wrap
                (IntKind.i64.wrap ((8 : Int) * shlW IntKind.i64 (64 : Int) (page.tmod (7 : Int))) - (31 : Int))) +
            n11)).tmod
      (8 : Int)),
      (8 : Int) ≠ (0 : Int),
      eh[(0 : Nat) +
      (IntKind.i64.wrap
          ((IntKind.i64.wrap
                ((IntKind.i64.wrap at0).tmod
                    (IntKind.i64.wrap
                      (IntKind.i64.wrap ((8 : Int) * shlW IntKind.i64 (64 : Int) (page.tmod (7 : Int))) - (31 : Int))) +
                  n11)).tdiv
            (8 : Int))).toNat]? =
  some [D.int IntKind.u8 n14_6],
      (0 : Int) ≤
    IntKind.i64.wrap
      ((IntKind.i64.wrap
            ((IntKind.i64.wrap at0).tmod
                (IntKind.i64.wrap
                  (IntKind.i64.wrap ((8 : Int) * shlW IntKind.i64 (64 : Int) (page.tmod (7 : Int))) - (31 : Int))) +
              n11)).tdiv
        (8 : Int)) ∧
  IntKind.i64.wrap
      ((IntKind.i64.wrap
            ((IntKind.i64.wrap at0).tmod
                (IntKind.i64.wrap
                  (IntKind.i64.wrap ((8 : Int) * shlW IntKind.i64 (64 : Int) (page.tmod (7 : Int))) - (31 : Int))) +
              n11)).tdiv
        (8 : Int)) <
    (↑(shlW IntKind.i64 (64 : Int) (page.tmod (7 : Int))).toNat : Int),
      (8 : Int) ≠ (0 : Int),
      (andW IntKind.u32 (shrW IntKind.u32 w (IntKind.u64.wrap n11)) (1 : Int) == (1 : Int)) = true,
      (0 : Int) ≤ IntKind.u64.wrap n11,
      (0 : Int) ≤ (1 : Int) ∧ (1 : Int) < (↑(2 : Nat) : Int),
      decide (n11 < (32 : Int)) = true]) by kernel_rfl)
    (all_cons.2 ⟨h2, all_cons.2 ⟨h3, all_cons.2 ⟨h4, all_cons.2 ⟨h5, all_cons.2 ⟨(by decide), all_cons.2 ⟨h6, all_cons.2 ⟨h4, all_cons.2 ⟨(by decide), all_cons.2 ⟨bq1, all_cons.2 ⟨h7, all_cons.2 ⟨(by decide), all_cons.2 ⟨bq0, all_nil.2 trivial⟩⟩⟩⟩⟩⟩⟩⟩⟩⟩⟩⟩) (show (0 : Nat) ≤ 1 by decide) g)

theorem lte_0_1 {pageF : Int → Int → Es → Es} {opN : Es → Int} {opE : Es → Int} {opX : Es → Bool} {opL : Es → Es} {page : Int} {xb : Bool} {eb : Es} {at0 : Int} {w : Int} {n11 : Int} {eh : List (List D)} {r : D} {H1 : GD.Heap}
    (h0 : n11 < (32 : Int))
    (h1 : andW IntKind.u32 (shrW IntKind.u32 w (IntKind.u64.wrap n11)) (1 : Int) ≠ (1 : Int))
    (h2 : FlatEs eh)
    (h3 : (0 : Int) ≤ IntKind.u64.wrap n11)
    (g : lte_at0 pageF opN opE opX opL page xb eb at0 w (IntKind.i64.wrap (n11 + (1 : Int))) (eh) r H1) :
    lte_at0 pageF opN opE opX opL page xb eb at0 w n11 eh r H1 :=
  have bq0 : decide (n11 < (32 : Int)) = true := decide_eq_true h0
  have bq1 : (andW IntKind.u32 (shrW IntKind.u32 w (IntKind.u64.wrap n11)) (1 : Int) == (1 : Int)) = false := beq_eq_false_iff_ne.2 h1
  fin_loop (fin_stop (F := (fun z => Nat.beq 1 z)) (h := 1) (keep := [5, 8, 10, 11]) (lte_ok pageF opN opE opX opL page xb eb at0 w 0 0) (show cutX (fun z => Nat.beq 1 z) [5, 8, 10, 11] 1 (lte_run pageF opN opE opX opL page xb eb at0 w 0 0 (.code lte_l0) (.lp lte_l0 :: lte_k0) (lte_s0 pageF opN opE opX opL page xb eb at0 w n11 eh) (.path [true, false])) = some (lte_l0, lte_k0, (lte_s0 pageF opN opE opX opL page xb eb at0 w (IntKind.i64.wrap (n11 + (1 : Int))) (eh)).env, (lte_s0 pageF opN opE opX opL page xb eb at0 w (IntKind.i64.wrap (n11 + (1 : Int))) (eh)).H,
    [FlatEs eh,
      (andW IntKind.u32 (shrW IntKind.u32 w (IntKind.u64.wrap n11)) (1 : Int) == (1 : Int)) = false,
      (0 : Int) ≤ IntKind.u64.wrap n11,
      (0 : Int) ≤ (1 : Int) ∧ (1 : Int) < (↑(2 : Nat) : Int),
      decide (n11 < (32 : Int)) = true]) by kernel_rfl)
    (all_cons.2 ⟨h2, all_cons.2 ⟨bq1, all_cons.2 ⟨h3, all_cons.2 ⟨(by decide), all_cons.2 ⟨bq0, all_nil.2 trivial⟩⟩⟩⟩⟩) (show (0 : Nat) ≤ 1 by decide) g)

theorem lte_0_2 {pageF : Int → Int → Es → Es} {opN : Es → Int} {opE : Es → Int} {opX : Es → Bool} {opL : Es → Es} {page : Int} {xb : Bool} {eb : Es} {at0 : Int} {w : Int} {n11 : Int} {eh : List (List D)}
    (h0 : ¬ (n11 < (32 : Int)))
    (h1 : opE (List.take (shlW IntKind.i64 (64 : Int) (page.tmod (7 : Int))).toNat eh) = (18 : Int))
    (h2 : opN (List.take (shlW IntKind.i64 (64 : Int) (page.tmod (7 : Int))).toNat eh) = (0 : Int))
    (h3 : FlatEs eh)
    (h4 : Ret Try.prog (tyOf Try.prog) (34 : Nat)
  [D.view (0 : Nat) (0 : Nat) (shlW IntKind.i64 (64 : Int) (page.tmod (7 : Int))).toNat] [some (HObj.row (1 : Nat) eh)]
  (D.tuple
    [D.int IntKind.i64 (opN (List.take (shlW IntKind.i64 (64 : Int) (page.tmod (7 : Int))).toNat eh)),
      D.slice (opX (List.take (shlW IntKind.i64 (64 : Int) (page.tmod (7 : Int))).toNat eh))
        (opL (List.take (shlW IntKind.i64 (64 : Int) (page.tmod (7 : Int))).toNat eh)) none,
      D.int IntKind.i64 (opE (List.take (shlW IntKind.i64 (64 : Int) (page.tmod (7 : Int))).toNat eh))])
  [some (HObj.row (1 : Nat) eh)]) :
    lte_at0 pageF opN opE opX opL page xb eb at0 w n11 eh (D.bool
  ((↑(List.length (opL (List.take (shlW IntKind.i64 (64 : Int) (page.tmod (7 : Int))).toNat eh))) : Int) == (0 : Int))) [] :=
  have bq0 : decide (n11 < (32 : Int)) = false := decide_eq_false h0
  have bq1 : (opE (List.take (shlW IntKind.i64 (64 : Int) (page.tmod (7 : Int))).toNat eh) == (18 : Int)) = true := beq_iff_eq.2 h1
  have bq2 : (opN (List.take (shlW IntKind.i64 (64 : Int) (page.tmod (7 : Int))).toNat eh) == (0 : Int)) = true := beq_iff_eq.2 h2
  fin_loop (fin_ret (h := 0) (lte_ok pageF opN opE opX opL page xb eb at0 w 0 0) (show outF (tyOf Try.prog) (fnAt Try.prog 8) 0 (lte_run pageF opN opE opX opL page xb eb at0 w 0 0 (.code lte_l0) (.lp lte_l0 :: lte_k0) (lte_s0 pageF opN opE opX opL page xb eb at0 w n11 eh) (.path [false, true, true, true, true, true, true, true])) = some (D.bool
  ((↑(List.length (opL (List.take (shlW IntKind.i64 (64 : Int) (page.tmod (7 : Int))).toNat eh))) : Int) == (0 : Int)), [],
    [(opN (List.take (shlW IntKind.i64 (64 : Int) (page.tmod (7 : Int))).toNat eh) == (0 : Int)) = true,
      ((opN (List.take (shlW IntKind.i64 (64 : Int) (page.tmod (7 : Int))).toNat eh) == (0 : Int)) == true) = true,
      ((opN (List.take (shlW IntKind.i64 (64 : Int) (page.tmod (7 : Int))).toNat eh) == (0 : Int)) == true) = true,
      ((opN (List.take (shlW IntKind.i64 (64 : Int) (page.tmod (7 : Int))).toNat eh) == (0 : Int)) == true) = true,
      (opE (List.take (shlW IntKind.i64 (64 : Int) (page.tmod (7 : Int))).toNat eh) == (18 : Int)) = true,
      ((opE (List.take (shlW IntKind.i64 (64 : Int) (page.tmod (7 : Int))).toNat eh) == (18 : Int)) == true) = true,
      ((opE (List.take (shlW IntKind.i64 (64 : Int) (page.tmod (7 : Int))).toNat eh) == (18 : Int)) == true) = true,
      FlatEs eh,
      FlatEs eh,
      Ret Try.prog (tyOf Try.prog) (34 : Nat)
  [D.view (0 : Nat) (0 : Nat) (shlW IntKind.i64 (64 : Int) (page.tmod (7 : Int))).toNat] [some (HObj.row (1 : Nat) eh)]
  (D.tuple
    [D.int IntKind.i64 (opN (List.take (shlW IntKind.i64 (64 : Int) (page.tmod (7 : Int))).toNat eh)),
      D.slice (opX (List.take (shlW IntKind.i64 (64 : Int) (page.tmod (7 : Int))).toNat eh))
        (opL (List.take (shlW IntKind.i64 (64 : Int) (page.tmod (7 : Int))).toNat eh)) none,
      D.int IntKind.i64 (opE (List.take (shlW IntKind.i64 (64 : Int) (page.tmod (7 : Int))).toNat eh))])
  [some (HObj.row (1 : Nat) eh)],
      decide (n11 < (32 : Int)) = false]) by kernel_rfl)
    (all_cons.2 ⟨bq2, all_cons.2 ⟨(by rw [bq2]; rfl), all_cons.2 ⟨(by rw [bq2]; rfl), all_cons.2 ⟨(by rw [bq2]; rfl), all_cons.2 ⟨bq1, all_cons.2 ⟨(by rw [bq1]; rfl), all_cons.2 ⟨(by rw [bq1]; rfl), all_cons.2 ⟨h3, all_cons.2 ⟨h3, all_cons.2 ⟨h4, all_cons.2 ⟨bq0, all_nil.2 trivial⟩⟩⟩⟩⟩⟩⟩⟩⟩⟩⟩))



end Go.Proofs.Ytifpbdhggooelaa.sealk
