/- The laws SealRooms, SealTells: roads. -/
import Derived.Test.YtifpbdhggooelaaSealV
namespace Go.Proofs.Ytifpbdhggooelaa.sealk
open Go Ytifpbdhggooelaa.GD
set_option linter.unusedVariables false
set_option linter.unusedSimpArgs false
set_option maxRecDepth 100000

def tabR (okF : Int → Int → Nat → Bool) (pageF : Int → Int → Es → Es) (errF : Int → Int → Nat → Int) (opN opE : Es → Int) (opX : Es → Bool) (opL : Es → Es) : Tab := fun k args H =>
  match k with
  | 27 => match args, H with | [], [] => some (.bool true, []) | _, _ => none
  | 28 => match args, H with
    | [.int .i64 p, .int .i64 nx, .view 0 st len], [some (.row 1 es)] => some (.tuple [.slice (okF p nx len) (pageF p nx ((es.drop st).take len)) none, .int .i64 (errF p nx len)], [some (.row 1 es)])
    | [.int .i64 p, .int .i64 nx, .slice _ es none], [] => some (.tuple [.slice (okF p nx es.length) (pageF p nx es) none, .int .i64 (errF p nx es.length)], [])
    | _, _ => none
  | 30 => match args, H with | [.int .i64 p], [] => some (.int .i64 (roomU p), []) | _, _ => none
  | 34 => match args, H with | [.slice _ es none], [] => some (.tuple [.int .i64 (opN es), .slice (opX es) (opL es) none, .int .i64 (opE es)], []) | _, _ => none
  | _ => none
def aR (okF : Int → Int → Nat → Bool) (pageF : Int → Int → Es → Es) (errF : Int → Int → Nat → Int) (opN opE : Es → Int) (opX : Es → Bool) (opL : Es → Es) (page fill : Int) : List D × GD.Heap := ([.int .u8 page, .int .u8 fill], [])
def tR (okF : Int → Int → Nat → Bool) (pageF : Int → Int → Es → Es) (errF : Int → Int → Nat → Int) (opN opE : Es → Int) (opX : Es → Bool) (opL : Es → Es) (page fill : Int) : Tab := tabR okF pageF errF opN opE opX opL


/-! ### function 9 -/
theorem lro_fn : Try.prog.funcs[(9 : Nat)]? = some (fnAt Try.prog 9) := by kernel_rfl
theorem lro_body : (fnAt Try.prog 9).body = some (bodyAt Try.prog 9) := by kernel_rfl
theorem lro_name : ((fnAt Try.prog 9).name == "runtime.NumGoroutine") = false := by kernel_rfl
noncomputable def lro_C (okF : Int → Int → Nat → Bool) (pageF : Int → Int → Es → Es) (errF : Int → Int → Nat → Int) (opN : Es → Int) (opE : Es → Int) (opX : Es → Bool) (opL : Es → Es) (page : Int) (fill : Int) (n9_3 : Int) (n9_4 : Int) : Cf := cfg Try.prog (hintOf [((9 : Nat), (9 : Nat), (3 : Nat), Hint.c [D.int IntKind.u8 n9_3]), ((9 : Nat), (9 : Nat), (4 : Nat), Hint.c [D.int IntKind.u8 n9_4])]) (tR okF pageF errF opN opE opX opL page fill) (fun _ => false) 2 true (fun z => Nat.beq 1 z)
theorem lro_ok (okF : Int → Int → Nat → Bool) (pageF : Int → Int → Es → Es) (errF : Int → Int → Nat → Int) (opN : Es → Int) (opE : Es → Int) (opX : Es → Bool) (opL : Es → Es) (page : Int) (fill : Int) (n9_3 : Int) (n9_4 : Int) : CfOk (lro_C okF pageF errF opN opE opX opL page fill n9_3 n9_4) := cfg_ok (by kernel_rfl)
noncomputable def lro_run (okF : Int → Int → Nat → Bool) (pageF : Int → Int → Es → Es) (errF : Int → Int → Nat → Int) (opN : Es → Int) (opE : Es → Int) (opX : Es → Bool) (opL : Es → Es) (page : Int) (fill : Int) (n9_3 : Int) (n9_4 : Int) (cur : Cur) (k : List It) (s : St) (or : GD.Or) := runE (lro_C okF pageF errF opN opE opX opL page fill n9_3 n9_4) (callE (lro_C okF pageF errF opN opE opX opL page fill n9_3 n9_4) 100000 10) 9 100000 cur k s or []
noncomputable def lro_l0 : Code := (loopAt Try.prog 9 0).1
noncomputable def lro_k0 : List It := (loopAt Try.prog 9 0).2
/- loop 0: n1:=fill; n5:=IntKind.i64.wrap ((64 : Int) * (2 : Int) ^ min (page.tmod (7 : Int)).toNat IntKind.i64.bits); n6:=roomU (IntKind.i64.wrap ((64 : Int) * (2 : Int) ^ min (page.tmod (7 : Int)).toNat IntKind.i64.bits)); n8:=(0 : Int); eh:=List.replicate
  (IntKind.i64.wrap
      (roomU (IntKind.i64.wrap ((64 : Int) * (2 : Int) ^ min (page.tmod (7 : Int)).toNat IntKind.i64.bits)) +
        (1 : Int))).toNat
  [D.int IntKind.u8 (0 : Int)]; -/
noncomputable def lro_s0 (okF : Int → Int → Nat → Bool) (pageF : Int → Int → Es → Es) (errF : Int → Int → Nat → Int) (opN : Es → Int) (opE : Es → Int) (opX : Es → Bool) (opL : Es → Es) (page : Int) (fill : Int) (n1 : Int) (n5 : Int) (n6 : Int) (n8 : Int) (eh : List (List D)) : St := ⟨envOf 131 [(1, D.int IntKind.u8 n1), (5, D.int IntKind.i64 n5), (6, D.int IntKind.i64 n6), (7, D.view (0 : Nat) (0 : Nat)
  (IntKind.i64.wrap
      (roomU (IntKind.i64.wrap ((64 : Int) * (2 : Int) ^ min (page.tmod (7 : Int)).toNat IntKind.i64.bits)) +
        (1 : Int))).toNat), (8, D.int IntKind.i64 n8)], [some (HObj.row (1 : Nat) eh)]⟩
def lro_at0 (okF : Int → Int → Nat → Bool) (pageF : Int → Int → Es → Es) (errF : Int → Int → Nat → Int) (opN : Es → Int) (opE : Es → Int) (opX : Es → Bool) (opL : Es → Es) (page : Int) (fill : Int) (n1 : Int) (n5 : Int) (n6 : Int) (n8 : Int) (eh : List (List D)) (r : D) (H1 : GD.Heap) : Prop := GD.Fin Try.prog (tyOf Try.prog) (fnAt Try.prog 9) 0 (.code (.loop lro_l0)) lro_k0 (lro_s0 okF pageF errF opN opE opX opL page fill n1 n5 n6 n8 eh) r H1

theorem lro_in_0 {okF : Int → Int → Nat → Bool} {pageF : Int → Int → Es → Es} {errF : Int → Int → Nat → Int} {opN : Es → Int} {opE : Es → Int} {opX : Es → Bool} {opL : Es → Es} {page : Int} {fill : Int} {r : D} {H1 : GD.Heap}
    (h0 : FlatEs
  (List.replicate (IntKind.i64.wrap (roomU (shlW IntKind.i64 (64 : Int) (page.tmod (7 : Int))) + (1 : Int))).toNat
    [D.int IntKind.u8 (0 : Int)]))
    (h1 : (0 : Int) ≤ IntKind.i64.wrap (roomU (shlW IntKind.i64 (64 : Int) (page.tmod (7 : Int))) + (1 : Int)) ∧
  IntKind.i64.wrap (roomU (shlW IntKind.i64 (64 : Int) (page.tmod (7 : Int))) + (1 : Int)) ≤
      IntKind.i64.wrap (roomU (shlW IntKind.i64 (64 : Int) (page.tmod (7 : Int))) + (1 : Int)) ∧
    (↑(1 : Nat) : Int) * IntKind.i64.wrap (roomU (shlW IntKind.i64 (64 : Int) (page.tmod (7 : Int))) + (1 : Int)) ≤
        (281474976710656 : Int) ∧
      IntKind.i64.wrap (roomU (shlW IntKind.i64 (64 : Int) (page.tmod (7 : Int))) + (1 : Int)) ≤
        (9223372036854775807 : Int))
    (h2 : (0 : Int) ≤ page.tmod (7 : Int))
    (h3 : Ret Try.prog (tyOf Try.prog) (27 : Nat) [] [] (D.bool true) [])
    (g : lro_at0 okF pageF errF opN opE opX opL page fill (fill) (shlW IntKind.i64 (64 : Int) (page.tmod (7 : Int))) (roomU (shlW IntKind.i64 (64 : Int) (page.tmod (7 : Int)))) ((0 : Int)) (List.replicate (IntKind.i64.wrap (roomU (shlW IntKind.i64 (64 : Int) (page.tmod (7 : Int))) + (1 : Int))).toNat
  [D.int IntKind.u8 (0 : Int)]) r H1) :
    Ret Try.prog (tyOf Try.prog) 9 [D.int IntKind.u8 page, D.int IntKind.u8 fill] [] r H1 :=
  fin_call lro_fn lro_body lro_name (fin_stop (F := (fun z => Nat.beq 1 z)) (h := 1) (keep := [1, 5, 6, 7, 8]) (lro_ok okF pageF errF opN opE opX opL page fill 0 0) (show cutX (fun z => Nat.beq 1 z) [1, 5, 6, 7, 8] 1 (lro_run okF pageF errF opN opE opX opL page fill 0 0 (.code (bodyAt Try.prog 9)) [] (beginE (fnAt Try.prog 9) [D.int IntKind.u8 page, D.int IntKind.u8 fill] []) (.path [false])) = some (lro_l0, lro_k0, (lro_s0 okF pageF errF opN opE opX opL page fill (fill) (shlW IntKind.i64 (64 : Int) (page.tmod (7 : Int))) (roomU (shlW IntKind.i64 (64 : Int) (page.tmod (7 : Int)))) ((0 : Int)) (List.replicate (IntKind.i64.wrap (roomU (shlW IntKind.i64 (64 : Int) (page.tmod (7 : Int))) + (1 : Int))).toNat
  [D.int IntKind.u8 (0 : Int)])).env, (lro_s0 okF pageF errF opN opE opX opL page fill (fill) (shlW IntKind.i64 (64 : Int) (page.tmod (7 : Int))) (roomU (shlW IntKind.i64 (64 : Int) (page.tmod (7 : Int)))) ((0 : Int)) (List.replicate (IntKind.i64.wrap (roomU (shlW IntKind.i64 (64 : Int) (page.tmod (7 : Int))) + (1 : Int))).toNat
  [D.int IntKind.u8 (0 : Int)])).H,
    [FlatEs
  (List.replicate (IntKind.i64.wrap (roomU (shlW IntKind.i64 (64 : Int) (page.tmod (7 : Int))) + (1 : Int))).toNat
    [D.int IntKind.u8 (0 : Int)]),
      (0 : Int) ≤ IntKind.i64.wrap (roomU (shlW IntKind.i64 (64 : Int) (page.tmod (7 : Int))) + (1 : Int)) ∧
  IntKind.i64.wrap (roomU (shlW IntKind.i64 (64 : Int) (page.tmod (7 : Int))) + (1 : Int)) ≤
      IntKind.i64.wrap (roomU (shlW IntKind.i64 (64 : Int) (page.tmod (7 : Int))) + (1 : Int)) ∧
    (↑(1 : Nat) : Int) * IntKind.i64.wrap (roomU (shlW IntKind.i64 (64 : Int) (page.tmod (7 : Int))) + (1 : Int)) ≤
        (281474976710656 : Int) ∧
      IntKind.i64.wrap (roomU (shlW IntKind.i64 (64 : Int) (page.tmod (7 : Int))) + (1 : Int)) ≤
        (9223372036854775807 : Int),
      Ret Try.prog (tyOf Try.prog) (30 : Nat) [D.int IntKind.i64 (shlW IntKind.i64 (64 : Int) (page.tmod (7 : Int)))] []
  (D.int IntKind.i64 (roomU (shlW IntKind.i64 (64 : Int) (page.tmod (7 : Int))))) [],
      (0 : Int) ≤ page.tmod (7 : Int),
      (7 : Int) ≠ (0 : Int),
      false = false,
      Ret Try.prog (tyOf Try.prog) (27 : Nat) [] [] (D.bool true) []]) by kernel_rfl)
    (all_cons.2 ⟨h0, all_cons.2 ⟨h1, all_cons.2 ⟨(room30 _), all_cons.2 ⟨h2, all_cons.2 ⟨(by decide), all_cons.2 ⟨rfl, all_cons.2 ⟨h3, all_nil.2 trivial⟩⟩⟩⟩⟩⟩⟩) (show (0 : Nat) ≤ 1 by decide) g)

theorem lro_0_0 {okF : Int → Int → Nat → Bool} {pageF : Int → Int → Es → Es} {errF : Int → Int → Nat → Int} {opN : Es → Int} {opE : Es → Int} {opX : Es → Bool} {opL : Es → Es} {page : Int} {fill : Int} {n1 : Int} {n5 : Int} {n6 : Int} {n8 : Int} {eh : List (List D)} {n9_4 : Int} {r : D} {H1 : GD.Heap}
    (h0 : n8 < (↑(IntKind.i64.wrap (roomU (shlW IntKind.i64 (64 : Int) (page.tmod (7 : Int))) + (1 : Int))).toNat : Int))
    (h1 : FlatEs (eh.set ((0 : Nat) + n8.toNat) [D.int IntKind.u8 n1]))
    (h2 : eh[(0 : Nat) + n8.toNat]? = some [D.int IntKind.u8 n9_4])
    (h3 : (0 : Int) ≤ n8 ∧
  n8 < (↑(IntKind.i64.wrap (roomU (shlW IntKind.i64 (64 : Int) (page.tmod (7 : Int))) + (1 : Int))).toNat : Int))
    (g : lro_at0 okF pageF errF opN opE opX opL page fill (n1) (n5) (n6) (IntKind.i64.wrap (n8 + (1 : Int))) (eh.set ((0 : Nat) + n8.toNat) [D.int IntKind.u8 n1]) r H1) :
    lro_at0 okF pageF errF opN opE opX opL page fill n1 n5 n6 n8 eh r H1 :=
  have b0 : decide
    (n8 < (↑(IntKind.i64.wrap (roomU (shlW IntKind.i64 (64 : Int) (page.tmod (7 : Int))) + (1 : Int))).toNat : Int)) =
  true := decide_eq_true h0
  fin_loop (fin_stop (F := (fun z => Nat.beq 1 z)) (h := 1) (keep := [1, 5, 6, 7, 8]) (lro_ok okF pageF errF opN opE opX opL page fill 0 n9_4) (show cutX (fun z => Nat.beq 1 z) [1, 5, 6, 7, 8] 1 (lro_run okF pageF errF opN opE opX opL page fill 0 n9_4 (.code lro_l0) (.lp lro_l0 :: lro_k0) (lro_s0 okF pageF errF opN opE opX opL page fill n1 n5 n6 n8 eh) (.path [true])) = some (lro_l0, lro_k0, (lro_s0 okF pageF errF opN opE opX opL page fill (n1) (n5) (n6) (IntKind.i64.wrap (n8 + (1 : Int))) (eh.set ((0 : Nat) + n8.toNat) [D.int IntKind.u8 n1])).env, (lro_s0 okF pageF errF opN opE opX opL page fill (n1) (n5) (n6) (IntKind.i64.wrap (n8 + (1 : Int))) (eh.set ((0 : Nat) + n8.toNat) [D.int IntKind.u8 n1])).H,
    [FlatEs (eh.set ((0 : Nat) + n8.toNat) [D.int IntKind.u8 n1]),
      eh[(0 : Nat) + n8.toNat]? = some [D.int IntKind.u8 n9_4],
      (0 : Int) ≤ n8 ∧
  n8 < (↑(IntKind.i64.wrap (roomU (shlW IntKind.i64 (64 : Int) (page.tmod (7 : Int))) + (1 : Int))).toNat : Int),
      decide
    (n8 < (↑(IntKind.i64.wrap (roomU (shlW IntKind.i64 (64 : Int) (page.tmod (7 : Int))) + (1 : Int))).toNat : Int)) =
  true]) by kernel_rfl)
    (all_cons.2 ⟨h1, all_cons.2 ⟨h2, all_cons.2 ⟨h3, all_cons.2 ⟨b0, all_nil.2 trivial⟩⟩⟩⟩) (show (0 : Nat) ≤ 1 by decide) g)

theorem lro_0_1 {okF : Int → Int → Nat → Bool} {pageF : Int → Int → Es → Es} {errF : Int → Int → Nat → Int} {opN : Es → Int} {opE : Es → Int} {opX : Es → Bool} {opL : Es → Es} {page : Int} {fill : Int} {n1 : Int} {n5 : Int} {n6 : Int} {n8 : Int} {eh : List (List D)}
    (h0 : ¬ (n8 < (↑(IntKind.i64.wrap (roomU (shlW IntKind.i64 (64 : Int) (page.tmod (7 : Int))) + (1 : Int))).toNat : Int)))
    (h1 : n6 = IntKind.i64.wrap (n5 - (10 : Int)))
    (h2 : errF n5 (-1 : Int) (n6 - (0 : Int)).toNat = (0 : Int))
    (h3 : (↑(List.length (pageF n5 (-1 : Int) (List.take (n6 - (0 : Int)).toNat eh))) : Int) = n5)
    (h4 : errF n5 (-1 : Int) (IntKind.i64.wrap (roomU (shlW IntKind.i64 (64 : Int) (page.tmod (7 : Int))) + (1 : Int))).toNat = (1 : Int))
    (h5 : opE (pageF n5 (-1 : Int) (List.take (n6 - (0 : Int)).toNat eh)) = (0 : Int))
    (h6 : opN (pageF n5 (-1 : Int) (List.take (n6 - (0 : Int)).toNat eh)) = (-1 : Int))
    (h7 : (bytesOf (opL (pageF n5 (-1 : Int) (List.take (n6 - (0 : Int)).toNat eh)))).toList = (bytesOf (List.take (n6 - (0 : Int)).toNat eh)).toList)
    (h8 : errF n5 (-2 : Int) (0 : Nat) = (1 : Int))
    (h9 : errF n5 (16384 : Int) (0 : Nat) = (1 : Int))
    (h10 : errF (IntKind.i64.wrap (n5 + (1 : Int))) (0 : Int) (0 : Nat) = (1 : Int))
    (h11 : (List.take (n6 - (0 : Int)).toNat eh).length = (n6 - (0 : Int)).toNat)
    (h12 : (List.take (n6 - (0 : Int)).toNat eh).all isByteC = true)
    (h13 : (0 : Int) ≤ (0 : Int) ∧ (0 : Int) ≤ n6 ∧ (↑(0 : Nat) : Int) + n6 ≤ (↑eh.length : Int))
    (h14 : List.all (opL (pageF n5 (-1 : Int) (List.take (n6 - (0 : Int)).toNat eh))) isByteC = true)
    (h15 : Ret Try.prog (tyOf Try.prog) (28 : Nat)
  [D.int IntKind.i64 (IntKind.i64.wrap (n5 + (1 : Int))), D.int IntKind.i64 (0 : Int), D.slice false [] none] []
  (D.tuple
    [D.slice (okF (IntKind.i64.wrap (n5 + (1 : Int))) (0 : Int) (0 : Nat))
        (pageF (IntKind.i64.wrap (n5 + (1 : Int))) (0 : Int) []) none,
      D.int IntKind.i64 (errF (IntKind.i64.wrap (n5 + (1 : Int))) (0 : Int) (0 : Nat))])
  [])
    (h16 : Ret Try.prog (tyOf Try.prog) (28 : Nat) [D.int IntKind.i64 n5, D.int IntKind.i64 (16384 : Int), D.slice false [] none]
  []
  (D.tuple
    [D.slice (okF n5 (16384 : Int) (0 : Nat)) (pageF n5 (16384 : Int) []) none,
      D.int IntKind.i64 (errF n5 (16384 : Int) (0 : Nat))])
  [])
    (h17 : Ret Try.prog (tyOf Try.prog) (28 : Nat) [D.int IntKind.i64 n5, D.int IntKind.i64 (-2 : Int), D.slice false [] none] []
  (D.tuple
    [D.slice (okF n5 (-2 : Int) (0 : Nat)) (pageF n5 (-2 : Int) []) none,
      D.int IntKind.i64 (errF n5 (-2 : Int) (0 : Nat))])
  [])
    (h18 : Ret Try.prog (tyOf Try.prog) (34 : Nat)
  [D.slice (okF n5 (-1 : Int) (n6 - (0 : Int)).toNat) (pageF n5 (-1 : Int) (List.take (n6 - (0 : Int)).toNat eh)) none]
  []
  (D.tuple
    [D.int IntKind.i64 (opN (pageF n5 (-1 : Int) (List.take (n6 - (0 : Int)).toNat eh))),
      D.slice (opX (pageF n5 (-1 : Int) (List.take (n6 - (0 : Int)).toNat eh)))
        (opL (pageF n5 (-1 : Int) (List.take (n6 - (0 : Int)).toNat eh))) none,
      D.int IntKind.i64 (opE (pageF n5 (-1 : Int) (List.take (n6 - (0 : Int)).toNat eh)))])
  [])
    (h19 : FlatEs eh)
    (h20 : Ret Try.prog (tyOf Try.prog) (28 : Nat)
  [D.int IntKind.i64 n5, D.int IntKind.i64 (-1 : Int),
    D.view (0 : Nat) (0 : Nat)
      (IntKind.i64.wrap (roomU (shlW IntKind.i64 (64 : Int) (page.tmod (7 : Int))) + (1 : Int))).toNat]
  [some (HObj.row (1 : Nat) eh)]
  (D.tuple
    [D.slice
        (okF n5 (-1 : Int)
          (IntKind.i64.wrap (roomU (shlW IntKind.i64 (64 : Int) (page.tmod (7 : Int))) + (1 : Int))).toNat)
        (pageF n5 (-1 : Int)
          (List.take (IntKind.i64.wrap (roomU (shlW IntKind.i64 (64 : Int) (page.tmod (7 : Int))) + (1 : Int))).toNat
            eh))
        none,
      D.int IntKind.i64
        (errF n5 (-1 : Int)
          (IntKind.i64.wrap (roomU (shlW IntKind.i64 (64 : Int) (page.tmod (7 : Int))) + (1 : Int))).toNat)])
  [some (HObj.row (1 : Nat) eh)])
    (h21 : Ret Try.prog (tyOf Try.prog) (28 : Nat)
  [D.int IntKind.i64 n5, D.int IntKind.i64 (-1 : Int), D.view (0 : Nat) (0 : Nat) (n6 - (0 : Int)).toNat]
  [some (HObj.row (1 : Nat) eh)]
  (D.tuple
    [D.slice (okF n5 (-1 : Int) (n6 - (0 : Int)).toNat) (pageF n5 (-1 : Int) (List.take (n6 - (0 : Int)).toNat eh))
        none,
      D.int IntKind.i64 (errF n5 (-1 : Int) (n6 - (0 : Int)).toNat)])
  [some (HObj.row (1 : Nat) eh)]) :
    lro_at0 okF pageF errF opN opE opX opL page fill n1 n5 n6 n8 eh (D.bool (roomU (IntKind.i64.wrap (n5 + (2 : Int))) == (0 : Int))) [] :=
  have b0 : decide
    (n8 < (↑(IntKind.i64.wrap (roomU (shlW IntKind.i64 (64 : Int) (page.tmod (7 : Int))) + (1 : Int))).toNat : Int)) =
  false := decide_eq_false h0
  have b1 : (n6 == IntKind.i64.wrap (n5 - (10 : Int))) = true := beq_iff_eq.2 h1
  have b2 : (errF n5 (-1 : Int) (n6 - (0 : Int)).toNat == (0 : Int)) = true := beq_iff_eq.2 h2
  have b3 : ((↑(List.length (pageF n5 (-1 : Int) (List.take (n6 - (0 : Int)).toNat eh))) : Int) == n5) = true := beq_iff_eq.2 h3
  have b4 : (errF n5 (-1 : Int) (IntKind.i64.wrap (roomU (shlW IntKind.i64 (64 : Int) (page.tmod (7 : Int))) + (1 : Int))).toNat ==
    (1 : Int)) =
  true := beq_iff_eq.2 h4
  have b5 : (opE (pageF n5 (-1 : Int) (List.take (n6 - (0 : Int)).toNat eh)) == (0 : Int)) = true := beq_iff_eq.2 h5
  have b6 : (opN (pageF n5 (-1 : Int) (List.take (n6 - (0 : Int)).toNat eh)) == (-1 : Int)) = true := beq_iff_eq.2 h6
  have b7 : ((bytesOf (opL (pageF n5 (-1 : Int) (List.take (n6 - (0 : Int)).toNat eh)))).toList ==
    (bytesOf (List.take (n6 - (0 : Int)).toNat eh)).toList) =
  true := beq_iff_eq.2 h7
  have b8 : (errF n5 (-2 : Int) (0 : Nat) == (1 : Int)) = true := beq_iff_eq.2 h8
  have b9 : (errF n5 (16384 : Int) (0 : Nat) == (1 : Int)) = true := beq_iff_eq.2 h9
  have b10 : (errF (IntKind.i64.wrap (n5 + (1 : Int))) (0 : Int) (0 : Nat) == (1 : Int)) = true := beq_iff_eq.2 h10
  fin_loop (fin_ret (h := 0) (lro_ok okF pageF errF opN opE opX opL page fill 0 0) (show outF (tyOf Try.prog) (fnAt Try.prog 9) 0 (lro_run okF pageF errF opN opE opX opL page fill 0 0 (.code lro_l0) (.lp lro_l0 :: lro_k0) (lro_s0 okF pageF errF opN opE opX opL page fill n1 n5 n6 n8 eh) (.path [false, true, true, true, true, true, true, true, true, true, true, true, true, true, true, true, true, true, true, true, true, true, true, true, true, true, true, true, true, true, true, true, true, true, true, true, true, true, true, true])) = some (D.bool (roomU (IntKind.i64.wrap (n5 + (2 : Int))) == (0 : Int)), [],
    [(errF (IntKind.i64.wrap (n5 + (1 : Int))) (0 : Int) (0 : Nat) == (1 : Int)) = true,
      ((errF (IntKind.i64.wrap (n5 + (1 : Int))) (0 : Int) (0 : Nat) == (1 : Int)) == true) = true,
      Ret Try.prog (tyOf Try.prog) (30 : Nat) [D.int IntKind.i64 (IntKind.i64.wrap (n5 + (2 : Int)))] []
  (D.int IntKind.i64 (roomU (IntKind.i64.wrap (n5 + (2 : Int))))) [],
      ((errF (IntKind.i64.wrap (n5 + (1 : Int))) (0 : Int) (0 : Nat) == (1 : Int)) == true) = true,
      ((errF (IntKind.i64.wrap (n5 + (1 : Int))) (0 : Int) (0 : Nat) == (1 : Int)) == true) = true,
      ((errF (IntKind.i64.wrap (n5 + (1 : Int))) (0 : Int) (0 : Nat) == (1 : Int)) == true) = true,
      (errF n5 (16384 : Int) (0 : Nat) == (1 : Int)) = true,
      ((errF n5 (16384 : Int) (0 : Nat) == (1 : Int)) == true) = true,
      ((errF n5 (16384 : Int) (0 : Nat) == (1 : Int)) == true) = true,
      (errF n5 (-2 : Int) (0 : Nat) == (1 : Int)) = true,
      ((errF n5 (-2 : Int) (0 : Nat) == (1 : Int)) == true) = true,
      ((errF n5 (-2 : Int) (0 : Nat) == (1 : Int)) == true) = true,
      ((bytesOf (opL (pageF n5 (-1 : Int) (List.take (n6 - (0 : Int)).toNat eh)))).toList ==
    (bytesOf (List.take (n6 - (0 : Int)).toNat eh)).toList) =
  true,
      (((bytesOf (opL (pageF n5 (-1 : Int) (List.take (n6 - (0 : Int)).toNat eh)))).toList ==
      (bytesOf (List.take (n6 - (0 : Int)).toNat eh)).toList) ==
    true) =
  true,
      (((bytesOf (opL (pageF n5 (-1 : Int) (List.take (n6 - (0 : Int)).toNat eh)))).toList ==
      (bytesOf (List.take (n6 - (0 : Int)).toNat eh)).toList) ==
    true) =
  true,
      (opN (pageF n5 (-1 : Int) (List.take (n6 - (0 : Int)).toNat eh)) == (-1 : Int)) = true,
      ((opN (pageF n5 (-1 : Int) (List.take (n6 - (0 : Int)).toNat eh)) == (-1 : Int)) == true) = true,
      (List.take (n6 - (0 : Int)).toNat eh).length = (n6 - (0 : Int)).toNat,
      (List.take (n6 - (0 : Int)).toNat eh).all isByteC = true,
      ((opN (pageF n5 (-1 : Int) (List.take (n6 - (0 : Int)).toNat eh)) == (-1 : Int)) == true) = true,
      (0 : Int) ≤ (0 : Int) ∧ (0 : Int) ≤ n6 ∧ (↑(0 : Nat) : Int) + n6 ≤ (↑eh.length : Int),
      ((opN (pageF n5 (-1 : Int) (List.take (n6 - (0 : Int)).toNat eh)) == (-1 : Int)) == true) = true,
      ((opN (pageF n5 (-1 : Int) (List.take (n6 - (0 : Int)).toNat eh)) == (-1 : Int)) == true) = true,
      ((opN (pageF n5 (-1 : Int) (List.take (n6 - (0 : Int)).toNat eh)) == (-1 : Int)) == true) = true,
      List.all (opL (pageF n5 (-1 : Int) (List.take (n6 - (0 : Int)).toNat eh))) isByteC = true,
      ((opN (pageF n5 (-1 : Int) (List.take (n6 - (0 : Int)).toNat eh)) == (-1 : Int)) == true) = true,
      ((opN (pageF n5 (-1 : Int) (List.take (n6 - (0 : Int)).toNat eh)) == (-1 : Int)) == true) = true,
      (opE (pageF n5 (-1 : Int) (List.take (n6 - (0 : Int)).toNat eh)) == (0 : Int)) = true,
      ((opE (pageF n5 (-1 : Int) (List.take (n6 - (0 : Int)).toNat eh)) == (0 : Int)) == true) = true,
      ((opE (pageF n5 (-1 : Int) (List.take (n6 - (0 : Int)).toNat eh)) == (0 : Int)) == true) = true,
      (errF n5 (-1 : Int) (IntKind.i64.wrap (roomU (shlW IntKind.i64 (64 : Int) (page.tmod (7 : Int))) + (1 : Int))).toNat ==
    (1 : Int)) =
  true,
      ((errF n5 (-1 : Int) (IntKind.i64.wrap (roomU (shlW IntKind.i64 (64 : Int) (page.tmod (7 : Int))) + (1 : Int))).toNat ==
      (1 : Int)) ==
    true) =
  true,
      ((errF n5 (-1 : Int) (IntKind.i64.wrap (roomU (shlW IntKind.i64 (64 : Int) (page.tmod (7 : Int))) + (1 : Int))).toNat ==
      (1 : Int)) ==
    true) =
  true,
      ((↑(List.length (pageF n5 (-1 : Int) (List.take (n6 - (0 : Int)).toNat eh))) : Int) == n5) = true,
      (((↑(List.length (pageF n5 (-1 : Int) (List.take (n6 - (0 : Int)).toNat eh))) : Int) == n5) == true) = true,
      (((↑(List.length (pageF n5 (-1 : Int) (List.take (n6 - (0 : Int)).toNat eh))) : Int) == n5) == true) = true,
      (errF n5 (-1 : Int) (n6 - (0 : Int)).toNat == (0 : Int)) = true,
      ((errF n5 (-1 : Int) (n6 - (0 : Int)).toNat == (0 : Int)) == true) = true,
      ((errF n5 (-1 : Int) (n6 - (0 : Int)).toNat == (0 : Int)) == true) = true,
      ((errF n5 (-1 : Int) (n6 - (0 : Int)).toNat == (0 : Int)) == true) = true,
      ((errF n5 (-1 : Int) (n6 - (0 : Int)).toNat == (0 : Int)) == true) = true,
      (n6 == IntKind.i64.wrap (n5 - (10 : Int))) = true,
      ((n6 == IntKind.i64.wrap (n5 - (10 : Int))) == true) = true,
      ((n6 == IntKind.i64.wrap (n5 - (10 : Int))) == true) = true,
      Ret Try.prog (tyOf Try.prog) (28 : Nat)
  [D.int IntKind.i64 (IntKind.i64.wrap (n5 + (1 : Int))), D.int IntKind.i64 (0 : Int), D.slice false [] none] []
  (D.tuple
    [D.slice (okF (IntKind.i64.wrap (n5 + (1 : Int))) (0 : Int) (0 : Nat))
        (pageF (IntKind.i64.wrap (n5 + (1 : Int))) (0 : Int) []) none,
      D.int IntKind.i64 (errF (IntKind.i64.wrap (n5 + (1 : Int))) (0 : Int) (0 : Nat))])
  [],
      Ret Try.prog (tyOf Try.prog) (28 : Nat) [D.int IntKind.i64 n5, D.int IntKind.i64 (16384 : Int), D.slice false [] none]
  []
  (D.tuple
    [D.slice (okF n5 (16384 : Int) (0 : Nat)) (pageF n5 (16384 : Int) []) none,
      D.int IntKind.i64 (errF n5 (16384 : Int) (0 : Nat))])
  [],
      Ret Try.prog (tyOf Try.prog) (28 : Nat) [D.int IntKind.i64 n5, D.int IntKind.i64 (-2 : Int), D.slice false [] none] []
  (D.tuple
    [D.slice (okF n5 (-2 : Int) (0 : Nat)) (pageF n5 (-2 : Int) []) none,
      D.int IntKind.i64 (errF n5 (-2 : Int) (0 : Nat))])
  [],
      Ret Try.prog (tyOf Try.prog) (34 : Nat)
  [D.slice (okF n5 (-1 : Int) (n6 - (0 : Int)).toNat) (pageF n5 (-1 : Int) (List.take (n6 - (0 : Int)).toNat eh)) none]
  []
  (D.tuple
    [D.int IntKind.i64 (opN (pageF n5 (-1 : Int) (List.take (n6 - (0 : Int)).toNat eh))),
      D.slice (opX (pageF n5 (-1 : Int) (List.take (n6 - (0 : Int)).toNat eh)))
        (opL (pageF n5 (-1 : Int) (List.take (n6 - (0 : Int)).toNat eh))) none,
      D.int IntKind.i64 (opE (pageF n5 (-1 : Int) (List.take (n6 - (0 : Int)).toNat eh)))])
  [],
      FlatEs eh,
      FlatEs eh,
      Ret Try.prog (tyOf Try.prog) (28 : Nat)
  [D.int IntKind.i64 n5, D.int IntKind.i64 (-1 : Int),
    D.view (0 : Nat) (0 : Nat)
      (IntKind.i64.wrap (roomU (shlW IntKind.i64 (64 : Int) (page.tmod (7 : Int))) + (1 : Int))).toNat]
  [some (HObj.row (1 : Nat) eh)]
  (D.tuple
    [D.slice
        (okF n5 (-1 : Int)
          (IntKind.i64.wrap (roomU (shlW IntKind.i64 (64 : Int) (page.tmod (7 : Int))) + (1 : Int))).toNat)
        (pageF n5 (-1 : Int)
          (List.take (IntKind.i64.wrap (roomU (shlW IntKind.i64 (64 : Int) (page.tmod (7 : Int))) + (1 : Int))).toNat
            eh))
        none,
      D.int IntKind.i64
        (errF n5 (-1 : Int)
          (IntKind.i64.wrap (roomU (shlW IntKind.i64 (64 : Int) (page.tmod (7 : Int))) + (1 : Int))).toNat)])
  [some (HObj.row (1 : Nat) eh)],
      FlatEs eh,
      FlatEs eh,
      Ret Try.prog (tyOf Try.prog) (28 : Nat)
  [D.int IntKind.i64 n5, D.int IntKind.i64 (-1 : Int), D.view (0 : Nat) (0 : Nat) (n6 - (0 : Int)).toNat]
  [some (HObj.row (1 : Nat) eh)]
  (D.tuple
    [D.slice (okF n5 (-1 : Int) (n6 - (0 : Int)).toNat) (pageF n5 (-1 : Int) (List.take (n6 - (0 : Int)).toNat eh))
        none,
      D.int IntKind.i64 (errF n5 (-1 : Int) (n6 - (0 : Int)).toNat)])
  [some (HObj.row (1 : Nat) eh)],
      (0 : Int) ≤ (0 : Int) ∧ (0 : Int) ≤ n6 ∧ (↑(0 : Nat) : Int) + n6 ≤ (↑eh.length : Int),
      decide
    (n8 < (↑(IntKind.i64.wrap (roomU (shlW IntKind.i64 (64 : Int) (page.tmod (7 : Int))) + (1 : Int))).toNat : Int)) =
  false]) by kernel_rfl)
    (all_cons.2 ⟨b10, all_cons.2 ⟨(by rw [b10]; rfl), all_cons.2 ⟨(room30 _), all_cons.2 ⟨(by rw [b10]; rfl), all_cons.2 ⟨(by rw [b10]; rfl), all_cons.2 ⟨(by rw [b10]; rfl), all_cons.2 ⟨b9, all_cons.2 ⟨(by rw [b9]; rfl), all_cons.2 ⟨(by rw [b9]; rfl), all_cons.2 ⟨b8, all_cons.2 ⟨(by rw [b8]; rfl), all_cons.2 ⟨(by rw [b8]; rfl), all_cons.2 ⟨b7, all_cons.2 ⟨(by rw [b7]; rfl), all_cons.2 ⟨(by rw [b7]; rfl), all_cons.2 ⟨b6, all_cons.2 ⟨(by rw [b6]; rfl), all_cons.2 ⟨h11, all_cons.2 ⟨h12, all_cons.2 ⟨(by rw [b6]; rfl), all_cons.2 ⟨h13, all_cons.2 ⟨(by rw [b6]; rfl), all_cons.2 ⟨(by rw [b6]; rfl), all_cons.2 ⟨(by rw [b6]; rfl), all_cons.2 ⟨h14, all_cons.2 ⟨(by rw [b6]; rfl), all_cons.2 ⟨(by rw [b6]; rfl), all_cons.2 ⟨b5, all_cons.2 ⟨(by rw [b5]; rfl), all_cons.2 ⟨(by rw [b5]; rfl), all_cons.2 ⟨b4, all_cons.2 ⟨(by rw [b4]; rfl), all_cons.2 ⟨(by rw [b4]; rfl), all_cons.2 ⟨b3, all_cons.2 ⟨(by rw [b3]; rfl), all_cons.2 ⟨(by rw [b3]; rfl), all_cons.2 ⟨b2, all_cons.2 ⟨(by rw [b2]; rfl), all_cons.2 ⟨(by rw [b2]; rfl), all_cons.2 ⟨(by rw [b2]; rfl), all_cons.2 ⟨(by rw [b2]; rfl), all_cons.2 ⟨b1, all_cons.2 ⟨(by rw [b1]; rfl), all_cons.2 ⟨(by rw [b1]; rfl), all_cons.2 ⟨h15, all_cons.2 ⟨h16, all_cons.2 ⟨h17, all_cons.2 ⟨h18, all_cons.2 ⟨h19, all_cons.2 ⟨h19, all_cons.2 ⟨h20, all_cons.2 ⟨h19, all_cons.2 ⟨h19, all_cons.2 ⟨h21, all_cons.2 ⟨h13, all_cons.2 ⟨b0, all_nil.2 trivial⟩⟩⟩⟩⟩⟩⟩⟩⟩⟩⟩⟩⟩⟩⟩⟩⟩⟩⟩⟩⟩⟩⟩⟩⟩⟩⟩⟩⟩⟩⟩⟩⟩⟩⟩⟩⟩⟩⟩⟩⟩⟩⟩⟩⟩⟩⟩⟩⟩⟩⟩⟩⟩⟩⟩⟩))




theorem size_of {page : Int} (h : 0 ≤ page ∧ page ≤ 255) : ∃ q : Nat, shlW .i64 64 (page.tmod 7) = (q : Int) ∧ mayU q = true ∧ mayU ((q : Int) + 1) = false ∧ mayU ((q : Int) + 2) = false ∧ 0 ≤ page.tmod 7 := by
  have h7 : page.tmod 7 = page % 7 := Int.tmod_eq_emod_of_nonneg h.1
  have : page.tmod 7 = 0 ∨ page.tmod 7 = 1 ∨ page.tmod 7 = 2 ∨ page.tmod 7 = 3 ∨ page.tmod 7 = 4 ∨ page.tmod 7 = 5 ∨ page.tmod 7 = 6 := by omega
  rcases this with h | h | h | h | h | h | h <;> rw [h]
  · exact ⟨64, by decide +kernel, by decide +kernel, by decide +kernel, by decide +kernel, by decide⟩
  · exact ⟨128, by decide +kernel, by decide +kernel, by decide +kernel, by decide +kernel, by decide⟩
  · exact ⟨256, by decide +kernel, by decide +kernel, by decide +kernel, by decide +kernel, by decide⟩
  · exact ⟨512, by decide +kernel, by decide +kernel, by decide +kernel, by decide +kernel, by decide⟩
  · exact ⟨1024, by decide +kernel, by decide +kernel, by decide +kernel, by decide +kernel, by decide⟩
  · exact ⟨2048, by decide +kernel, by decide +kernel, by decide +kernel, by decide +kernel, by decide⟩
  · exact ⟨4096, by decide +kernel, by decide +kernel, by decide +kernel, by decide +kernel, by decide⟩

section
variable (page fill : Int) (hf : 0 ≤ fill ∧ fill ≤ 255) (q : Nat) (hq : shlW .i64 64 (page.tmod 7) = (q : Int)) (hm : mayU q = true) (hm1 : mayU ((q : Int) + 1) = false) (hm2 : mayU ((q : Int) + 2) = false)
include hf hq hm hm1 hm2

theorem ro_end : ∃ H1, lro_at0 okC pageR errC opNc opEc opXc opLc page fill fill q (q - 10 : Int) (q - 9 : Nat) (rows (List.replicate (q - 9) fill)) (.bool true) H1 := by
  have hle := mayU_le hm
  have hrm := roomU_may hm
  have hN1 : IntKind.i64.wrap (roomU (shlW .i64 64 (page.tmod 7)) + 1) = ((q - 9 : Nat) : Int) := by rw [hq, hrm, wrap_i64 (by omega)]; omega
  have w10 : IntKind.i64.wrap ((q : Int) - 10) = (q : Int) - 10 := wrap_i64 (by omega)
  have w1 : IntKind.i64.wrap ((q : Int) + 1) = (q : Int) + 1 := wrap_i64 (by omega)
  have w2 : IntKind.i64.wrap ((q : Int) + 2) = (q : Int) + 2 := wrap_i64 (by omega)
  have t10 : ((q : Int) - 10 - 0).toNat = q - 10 := by omega
  have hb : Bytes (List.replicate (q - 9) fill) := by intro x hx; rw [(List.mem_replicate.1 hx).2]; exact hf
  have htk : (List.replicate (q - 9) fill).take (q - 10) = List.replicate (q - 10) fill := by rw [List.take_replicate, Nat.min_eq_left (by omega)]
  have hb2 : Bytes (List.replicate (q - 10) fill) := by intro x hx; rw [(List.mem_replicate.1 hx).2]; exact hf
  have ok1 : okC q (-1) (q - 10) = true := okC_iff.2 ⟨hm, by decide, by decide, by rw [hrm]; omega⟩
  have ok2 : okC q (-1) (q - 9) = false := Bool.eq_false_iff.2 (fun h => by have := (okC_iff.1 h).2.2.2; rw [hrm] at this; omega)
  have ok3 : okC q (-2) 0 = false := Bool.eq_false_iff.2 (fun h => by have := (okC_iff.1 h).2.1; omega)
  have ok4 : okC q 16384 0 = false := Bool.eq_false_iff.2 (fun h => by have := (okC_iff.1 h).2.2.1; omega)
  have ok5 : okC ((q : Int) + 1) 0 0 = false := Bool.eq_false_iff.2 (fun h => by have := (okC_iff.1 h).1; rw [hm1] at this; cases this)
  have hpl := pageU_len (p := q) (next := -1) (l := List.replicate (q - 10) fill) (by simp) (by omega)
  have hp := openV_page q (-1) (List.replicate (q - 10) fill) hb2 hm (by decide) (by decide) (by simp)
  have ep : pageR q (-1) (rows (List.replicate (q - 10) fill)) = rows (pageU q (-1) (List.replicate (q - 10) fill)) := by
    unfold pageR
    rw [rows_len, List.length_replicate, ok1, cond_true, bytes_rows, Int.toNat_natCast]
  have eN : opNc (rows (pageU q (-1) (List.replicate (q - 10) fill))) = -1 := by unfold opNc; rw [bytes_rows, hp]
  have eE : opEc (rows (pageU q (-1) (List.replicate (q - 10) fill))) = 0 := by unfold opEc; rw [bytes_rows, hp]
  have eL : opLc (rows (pageU q (-1) (List.replicate (q - 10) fill))) = rows (List.replicate (q - 10) fill) := by unfold opLc; rw [bytes_rows, hp]
  have er1 : errC q (-1) (q - 10) = 0 := by unfold errC; rw [ok1]; rfl
  have er2 : errC q (-1) (q - 9) = 1 := by unfold errC; rw [ok2]; rfl
  have er3 : errC q (-2) 0 = 1 := by unfold errC; rw [ok3]; rfl
  have er4 : errC q 16384 0 = 1 := by unfold errC; rw [ok4]; rfl
  have er5 : errC ((q : Int) + 1) 0 0 = 1 := by unfold errC; rw [ok5]; rfl
  have c1 := closeAllV q (-1) (List.replicate (q - 9) fill) (q - 10) (by simp; omega)
  have c2 := closeAllV q (-1) (List.replicate (q - 9) fill) (q - 9) (by simp)
  have c3 := closeAll q (-2) false []
  have c4 := closeAll q 16384 false []
  have c5 := closeAll ((q : Int) + 1) 0 false []
  have o1 := openC true (pageU q (-1) (List.replicate (q - 10) fill)) (by rw [hpl]; omega) (pageU_bytes hb2) (by intro h; cases h)
  have hr0 : rows ([] : List Int) = [] := rfl
  have hr2 : roomU ((q : Int) + 2) = 0 := by unfold roomU; rw [if_neg (by rw [hm2]; decide)]
  have htk9 : (List.replicate (q - 9) fill).take (q - 9) = List.replicate (q - 9) fill := List.take_of_length_le (by simp)
  rw [htk, ok1, er1, ep] at c1
  rw [htk9, er2] at c2
  rw [hr0] at c3 c4 c5
  simp only [List.length_nil, er3, er4, er5] at c3 c4 c5
  rw [eN, eE, eL] at o1
  have e := @lro_0_1 okC pageR errC opNc opEc opXc opLc page fill fill q ((q : Int) - 10) (q - 9 : Nat) (rows (List.replicate (q - 9) fill))
  simp only [hN1, w10, w1, w2, t10, Int.toNat_natCast, rows_take, htk, htk9, ep, eN, eE, eL, er1, er2, er3, er4, er5, ok1, rows_len, List.length_replicate, hpl, hr2, beq_self_eq_true, rows_isByte hb2] at e
  refine ⟨[], ?_⟩
  apply e
  all_goals first | assumption | exact flat_rows _ | omega | trivial

theorem ro_loop : ∀ (k i : Nat), i + k = q - 9 → ∃ H1, lro_at0 okC pageR errC opNc opEc opXc opLc page fill fill q (q - 10 : Int) i (rows (List.replicate i fill ++ List.replicate (q - 9 - i) 0)) (.bool true) H1 := by
  have hle := mayU_le hm
  have hrm := roomU_may hm
  have hN1 : IntKind.i64.wrap (roomU (shlW .i64 64 (page.tmod 7)) + 1) = ((q - 9 : Nat) : Int) := by rw [hq, hrm, wrap_i64 (by omega)]; omega
  intro k
  induction k with
  | zero =>
    intro i hi
    obtain rfl : i = q - 9 := by omega
    rw [Nat.sub_self, List.replicate_zero, List.append_nil]
    exact ro_end page fill hf q hq hm hm1 hm2
  | succ k ih =>
    intro i hi
    obtain ⟨H1, g⟩ := ih (i + 1) (by omega)
    refine ⟨H1, ?_⟩
    have hset : (List.replicate i fill ++ List.replicate (q - 9 - i) 0).set i fill = List.replicate (i + 1) fill ++ List.replicate (q - 9 - (i + 1)) 0 := by
      rw [List.set_append_right _ _ (by simp), List.length_replicate, Nat.sub_self, show q - 9 - i = (q - 9 - (i + 1)) + 1 by omega, List.replicate_succ, List.set_cons_zero, List.replicate_succ' (n := i)]
      simp
    have hget : (rows (List.replicate i fill ++ List.replicate (q - 9 - i) 0))[i]? = some [.int .u8 0] := by
      unfold rows
      rw [List.getElem?_map, List.getElem?_append_right (by simp), List.length_replicate, Nat.sub_self, show q - 9 - i = (q - 9 - (i + 1)) + 1 by omega, List.replicate_succ]
      rfl
    have e := @lro_0_0 okC pageR errC opNc opEc opXc opLc page fill fill q ((q : Int) - 10) i (rows (List.replicate i fill ++ List.replicate (q - 9 - i) 0)) 0 (.bool true) H1
    simp only [hN1, Nat.zero_add, Int.toNat_natCast, rows_set, hset] at e
    rw [show IntKind.i64.wrap ((i : Int) + 1) = ((i + 1 : Nat) : Int) by rw [wrap_i64 (by omega)]; omega] at e
    exact e (by omega) (flat_rows _) hget (by omega) g
end

theorem law9 (page fill : Int) (hp : 0 ≤ page ∧ page ≤ 255) (hf : 0 ≤ fill ∧ fill ≤ 255) : ∃ H1, Ret P T 9 [.int .u8 page, .int .u8 fill] [] (.bool true) H1 := by
  obtain ⟨q, hq, hm, hm1, hm2, h7⟩ := size_of hp
  have hle := mayU_le hm
  have hrm := roomU_may hm
  obtain ⟨H1, g⟩ := ro_loop page fill hf q hq hm hm1 hm2 (q - 9) 0 (by omega)
  have e := @lro_in_0 okC pageR errC opNc opEc opXc opLc page fill (.bool true) H1
  have hN1 : IntKind.i64.wrap ((q : Int) - 10 + 1) = ((q - 9 : Nat) : Int) := by rw [wrap_i64 (by omega)]; omega
  simp only [hq, hrm, hN1, Int.toNat_natCast, rows_rep] at e
  rw [List.replicate_zero, List.nil_append, Nat.sub_zero] at g
  refine ⟨H1, ?_⟩
  apply e
  all_goals first | exact flat_rows _ | omega | exact awake27 | exact g

end Go.Proofs.Ytifpbdhggooelaa.sealk
