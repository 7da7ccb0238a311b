/- Closing and opening, of views. -/
import Derived.Test.YtifpbdhggooelaaSealS
namespace Go.Proofs.Ytifpbdhggooelaa.sealk
open Go Ytifpbdhggooelaa.GD
set_option linter.unusedVariables false
set_option linter.unusedSimpArgs false
set_option maxRecDepth 100000

noncomputable def aCloseV (layE : Es → Nat → Nat → Int → Es) (sumE : Es → Int) (page next : Int) (es : Es) (st len : Nat) : List D × GD.Heap := ([.int .i64 page, .int .i64 next, .view 0 st len], [some (.row 1 es)])
noncomputable def tCloseV (layE : Es → Nat → Nat → Int → Es) (sumE : Es → Int) (page next : Int) (es : Es) (st len : Nat) : Tab := tab layE (fun _ _ => []) sumE (fun _ => 0) (fun _ _ _ => 0)
noncomputable def aOpenV (sumE readE : Es → Int) (es : Es) (st len : Nat) : List D × GD.Heap := ([.view 0 st len], [some (.row 1 es)])
def tabO (sumE readE : Es → Int) : Tab := fun k args H =>
  match k with
  | 51 => match args, H with | [.view 0 st len], [some (.row 1 es)] => some (.slice true ((es.drop st).take len) none, [some (.row 1 es)]) | _, _ => none
  | _ => tab (fun _ _ _ _ => []) (fun _ _ => []) sumE readE (fun _ _ _ => 0) k args H
noncomputable def tOpenV (sumE readE : Es → Int) (es : Es) (st len : Nat) : Tab := tabO sumE readE

/-! ### function 28 -/
theorem closeV_fn : Try.prog.funcs[(28 : Nat)]? = some (fnAt Try.prog 28) := by kernel_rfl
theorem closeV_body : (fnAt Try.prog 28).body = some (bodyAt Try.prog 28) := by kernel_rfl
theorem closeV_name : ((fnAt Try.prog 28).name == "runtime.NumGoroutine") = false := by kernel_rfl
noncomputable def closeV_C (layE : Es → Nat → Nat → Int → Es) (sumE : Es → Int) (page : Int) (next : Int) (es : Es) (st : Nat) (len : Nat) : Cf := cfg Try.prog (hintOf []) (tCloseV layE sumE page next es st len) (fun g => match g with | 32 => true | _ => false) 2 true (fun z => Nat.beq 1 z)
theorem closeV_ok (layE : Es → Nat → Nat → Int → Es) (sumE : Es → Int) (page : Int) (next : Int) (es : Es) (st : Nat) (len : Nat) : CfOk (closeV_C layE sumE page next es st len) := cfg_ok (by kernel_rfl)
noncomputable def closeV_run (layE : Es → Nat → Nat → Int → Es) (sumE : Es → Int) (page : Int) (next : Int) (es : Es) (st : Nat) (len : Nat) (cur : Cur) (k : List It) (s : St) (or : GD.Or) := runE (closeV_C layE sumE page next es st len) (callE (closeV_C layE sumE page next es st len) 100000 10) 28 100000 cur k s or []

theorem closeV_in_0 {layE : Es → Nat → Nat → Int → Es} {sumE : Es → Int} {page : Int} {next : Int} {es : Es} {st : Nat} {len : Nat}
    (h0 : mayU page = true)
    (h1 : next < (-1 : Int)) :
    Ret Try.prog (tyOf Try.prog) 28 [D.int IntKind.i64 page, D.int IntKind.i64 next, D.view (0 : Nat) st len] [some (HObj.row (1 : Nat) es)] (D.tuple [D.slice false [] none, D.int IntKind.i64 (1 : Int)]) [some (HObj.row (1 : Nat) es)] :=
  have b0 : mayU page = true := h0
  have b1 : decide (next < (-1 : Int)) = true := decide_eq_true h1
  fin_call closeV_fn closeV_body closeV_name (fin_ret (h := 1) (closeV_ok layE sumE page next es st len) (show outF (tyOf Try.prog) (fnAt Try.prog 28) 1 (closeV_run layE sumE page next es st len (.code (bodyAt Try.prog 28)) [] (beginE (fnAt Try.prog 28) [D.int IntKind.i64 page, D.int IntKind.i64 next, D.view (0 : Nat) st len] [some (HObj.row (1 : Nat) es)]) (.path [true, true, false, false, false, true, false, false, false, false, false, true, true])) = some (D.tuple [D.slice false [] none, D.int IntKind.i64 (1 : Int)], [some (HObj.row (1 : Nat) es)],
    [true = true,
      true = true,
      false = false,
      false = false,
      false = false,
      false = false,
      false = false,
      decide (next < (-1 : Int)) = true,
      (decide (next < (-1 : Int)) == false) = false,
      (decide (next < (-1 : Int)) == false) = false,
      (!mayU page) = false,
      ((!mayU page) == false) = true,
      ((!mayU page) == false) = true,
      Ret Try.prog (tyOf Try.prog) (46 : Nat) [D.int IntKind.i64 page] [] (D.bool (mayU page)) []]) by kernel_rfl)
    (all_cons.2 ⟨rfl, all_cons.2 ⟨rfl, all_cons.2 ⟨rfl, all_cons.2 ⟨rfl, all_cons.2 ⟨rfl, all_cons.2 ⟨rfl, all_cons.2 ⟨rfl, all_cons.2 ⟨b1, all_cons.2 ⟨(by rw [b1]; rfl), all_cons.2 ⟨(by rw [b1]; rfl), all_cons.2 ⟨(by rw [b0]; rfl), all_cons.2 ⟨(by rw [b0]; rfl), all_cons.2 ⟨(by rw [b0]; rfl), all_cons.2 ⟨(may46 _), all_nil.2 trivial⟩⟩⟩⟩⟩⟩⟩⟩⟩⟩⟩⟩⟩⟩))

theorem closeV_in_1 {layE : Es → Nat → Nat → Int → Es} {sumE : Es → Int} {page : Int} {next : Int} {es : Es} {st : Nat} {len : Nat}
    (h0 : mayU page = true)
    (h1 : ¬ (next < (-1 : Int)))
    (h2 : next ≥ (16384 : Int)) :
    Ret Try.prog (tyOf Try.prog) 28 [D.int IntKind.i64 page, D.int IntKind.i64 next, D.view (0 : Nat) st len] [some (HObj.row (1 : Nat) es)] (D.tuple [D.slice false [] none, D.int IntKind.i64 (1 : Int)]) [some (HObj.row (1 : Nat) es)] :=
  have b0 : mayU page = true := h0
  have b1 : decide (next < (-1 : Int)) = false := decide_eq_false h1
  have b2 : decide (next ≥ (16384 : Int)) = true := decide_eq_true h2
  fin_call closeV_fn closeV_body closeV_name (fin_ret (h := 1) (closeV_ok layE sumE page next es st len) (show outF (tyOf Try.prog) (fnAt Try.prog 28) 1 (closeV_run layE sumE page next es st len (.code (bodyAt Try.prog 28)) [] (beginE (fnAt Try.prog 28) [D.int IntKind.i64 page, D.int IntKind.i64 next, D.view (0 : Nat) st len] [some (HObj.row (1 : Nat) es)]) (.path [true, true, false, true, true, false, false, false, false, false, false, true, true])) = some (D.tuple [D.slice false [] none, D.int IntKind.i64 (1 : Int)], [some (HObj.row (1 : Nat) es)],
    [true = true,
      decide (next ≥ (16384 : Int)) = true,
      (decide (next ≥ (16384 : Int)) == false) = false,
      (decide (next ≥ (16384 : Int)) == false) = false,
      (decide (next ≥ (16384 : Int)) == false) = false,
      (decide (next ≥ (16384 : Int)) == false) = false,
      (decide (next ≥ (16384 : Int)) == false) = false,
      decide (next < (-1 : Int)) = false,
      (decide (next < (-1 : Int)) == false) = true,
      (decide (next < (-1 : Int)) == false) = true,
      (!mayU page) = false,
      ((!mayU page) == false) = true,
      ((!mayU page) == false) = true,
      Ret Try.prog (tyOf Try.prog) (46 : Nat) [D.int IntKind.i64 page] [] (D.bool (mayU page)) []]) by kernel_rfl)
    (all_cons.2 ⟨rfl, all_cons.2 ⟨b2, all_cons.2 ⟨(by rw [b2]; rfl), all_cons.2 ⟨(by rw [b2]; rfl), all_cons.2 ⟨(by rw [b2]; rfl), all_cons.2 ⟨(by rw [b2]; rfl), all_cons.2 ⟨(by rw [b2]; rfl), all_cons.2 ⟨b1, all_cons.2 ⟨(by rw [b1]; rfl), all_cons.2 ⟨(by rw [b1]; rfl), all_cons.2 ⟨(by rw [b0]; rfl), all_cons.2 ⟨(by rw [b0]; rfl), all_cons.2 ⟨(by rw [b0]; rfl), all_cons.2 ⟨(may46 _), all_nil.2 trivial⟩⟩⟩⟩⟩⟩⟩⟩⟩⟩⟩⟩⟩⟩))

theorem closeV_in_2 {layE : Es → Nat → Nat → Int → Es} {sumE : Es → Int} {page : Int} {next : Int} {es : Es} {st : Nat} {len : Nat}
    (h0 : mayU page = true)
    (h1 : ¬ (next < (-1 : Int)))
    (h2 : ¬ (next ≥ (16384 : Int)))
    (h3 : (↑len : Int) > roomU page) :
    Ret Try.prog (tyOf Try.prog) 28 [D.int IntKind.i64 page, D.int IntKind.i64 next, D.view (0 : Nat) st len] [some (HObj.row (1 : Nat) es)] (D.tuple [D.slice false [] none, D.int IntKind.i64 (1 : Int)]) [some (HObj.row (1 : Nat) es)] :=
  have b0 : mayU page = true := h0
  have b1 : decide (next < (-1 : Int)) = false := decide_eq_false h1
  have b2 : decide (next ≥ (16384 : Int)) = false := decide_eq_false h2
  have b3 : decide ((↑len : Int) > roomU page) = true := decide_eq_true h3
  fin_call closeV_fn closeV_body closeV_name (fin_ret (h := 1) (closeV_ok layE sumE page next es st len) (show outF (tyOf Try.prog) (fnAt Try.prog 28) 1 (closeV_run layE sumE page next es st len (.code (bodyAt Try.prog 28)) [] (beginE (fnAt Try.prog 28) [D.int IntKind.i64 page, D.int IntKind.i64 next, D.view (0 : Nat) st len] [some (HObj.row (1 : Nat) es)]) (.path [true, true, false, true, true, false, true, true, true, true, true, false, true])) = some (D.tuple [D.slice false [] none, D.int IntKind.i64 (1 : Int)], [some (HObj.row (1 : Nat) es)],
    [decide ((↑len : Int) > roomU page) = true,
      decide (next ≥ (16384 : Int)) = false,
      (decide (next ≥ (16384 : Int)) == false) = true,
      Ret Try.prog (tyOf Try.prog) (30 : Nat) [D.int IntKind.i64 page] [] (D.int IntKind.i64 (roomU page)) [],
      (decide (next ≥ (16384 : Int)) == false) = true,
      (decide (next ≥ (16384 : Int)) == false) = true,
      (decide (next ≥ (16384 : Int)) == false) = true,
      (decide (next ≥ (16384 : Int)) == false) = true,
      decide (next < (-1 : Int)) = false,
      (decide (next < (-1 : Int)) == false) = true,
      (decide (next < (-1 : Int)) == false) = true,
      (!mayU page) = false,
      ((!mayU page) == false) = true,
      ((!mayU page) == false) = true,
      Ret Try.prog (tyOf Try.prog) (46 : Nat) [D.int IntKind.i64 page] [] (D.bool (mayU page)) []]) by kernel_rfl)
    (all_cons.2 ⟨b3, all_cons.2 ⟨b2, all_cons.2 ⟨(by rw [b2]; rfl), all_cons.2 ⟨(room30 _), all_cons.2 ⟨(by rw [b2]; rfl), all_cons.2 ⟨(by rw [b2]; rfl), all_cons.2 ⟨(by rw [b2]; rfl), all_cons.2 ⟨(by rw [b2]; rfl), all_cons.2 ⟨b1, all_cons.2 ⟨(by rw [b1]; rfl), all_cons.2 ⟨(by rw [b1]; rfl), all_cons.2 ⟨(by rw [b0]; rfl), all_cons.2 ⟨(by rw [b0]; rfl), all_cons.2 ⟨(by rw [b0]; rfl), all_cons.2 ⟨(may46 _), all_nil.2 trivial⟩⟩⟩⟩⟩⟩⟩⟩⟩⟩⟩⟩⟩⟩⟩))

theorem closeV_in_3 {layE : Es → Nat → Nat → Int → Es} {sumE : Es → Int} {page : Int} {next : Int} {es : Es} {st : Nat} {len : Nat}
    (h0 : mayU page = true)
    (h1 : ¬ (next < (-1 : Int)))
    (h2 : ¬ (next ≥ (16384 : Int)))
    (h3 : ¬ ((↑len : Int) > roomU page))
    (h4 : FlatEs
  (List.take (6 : Nat)
        (layE
          (layE (List.replicate page.toNat [D.int IntKind.u8 (0 : Int)]) (0 : Nat) (4 : Nat)
            (IntKind.i64.wrap (next + (1 : Int))))
          (4 : Nat) (2 : Nat) (↑len : Int)) ++
      List.take ((↑page.toNat : Int) - (6 : Int)).toNat (List.take len (List.drop st es)) ++
    List.drop ((6 : Nat) + min (List.take len (List.drop st es)).length ((↑page.toNat : Int) - (6 : Int)).toNat)
      (layE
        (layE (List.replicate page.toNat [D.int IntKind.u8 (0 : Int)]) (0 : Nat) (4 : Nat)
          (IntKind.i64.wrap (next + (1 : Int))))
        (4 : Nat) (2 : Nat) (↑len : Int))))
    (h5 : FlatEs
  (layE
    (List.take (6 : Nat)
          (layE
            (layE (List.replicate page.toNat [D.int IntKind.u8 (0 : Int)]) (0 : Nat) (4 : Nat)
              (IntKind.i64.wrap (next + (1 : Int))))
            (4 : Nat) (2 : Nat) (↑len : Int)) ++
        List.take ((↑page.toNat : Int) - (6 : Int)).toNat (List.take len (List.drop st es)) ++
      List.drop ((6 : Nat) + min (List.take len (List.drop st es)).length ((↑page.toNat : Int) - (6 : Int)).toNat)
        (layE
          (layE (List.replicate page.toNat [D.int IntKind.u8 (0 : Int)]) (0 : Nat) (4 : Nat)
            (IntKind.i64.wrap (next + (1 : Int))))
          (4 : Nat) (2 : Nat) (↑len : Int)))
    ((0 : Nat) + (IntKind.i64.wrap (page - (4 : Int))).toNat)
    ((↑page.toNat : Int) - IntKind.i64.wrap (page - (4 : Int))).toNat
    (IntKind.i64.wrap
      (sumE
        (List.take (IntKind.i64.wrap (page - (4 : Int)) - (0 : Int)).toNat
          (List.drop (0 : Nat)
            (List.take (6 : Nat)
                  (layE
                    (layE (List.replicate page.toNat [D.int IntKind.u8 (0 : Int)]) (0 : Nat) (4 : Nat)
                      (IntKind.i64.wrap (next + (1 : Int))))
                    (4 : Nat) (2 : Nat) (↑len : Int)) ++
                List.take ((↑page.toNat : Int) - (6 : Int)).toNat (List.take len (List.drop st es)) ++
              List.drop
                ((6 : Nat) + min (List.take len (List.drop st es)).length ((↑page.toNat : Int) - (6 : Int)).toNat)
                (layE
                  (layE (List.replicate page.toNat [D.int IntKind.u8 (0 : Int)]) (0 : Nat) (4 : Nat)
                    (IntKind.i64.wrap (next + (1 : Int))))
                  (4 : Nat) (2 : Nat) (↑len : Int)))))))))
    (h6 : Ret Try.prog (tyOf Try.prog) (47 : Nat)
  [D.view (0 : Nat) ((0 : Nat) + (IntKind.i64.wrap (page - (4 : Int))).toNat)
      ((↑page.toNat : Int) - IntKind.i64.wrap (page - (4 : Int))).toNat,
    D.int IntKind.i64
      (IntKind.i64.wrap
        (sumE
          (List.take (IntKind.i64.wrap (page - (4 : Int)) - (0 : Int)).toNat
            (List.drop (0 : Nat)
              (List.take (6 : Nat)
                    (layE
                      (layE (List.replicate page.toNat [D.int IntKind.u8 (0 : Int)]) (0 : Nat) (4 : Nat)
                        (IntKind.i64.wrap (next + (1 : Int))))
                      (4 : Nat) (2 : Nat) (↑len : Int)) ++
                  List.take ((↑page.toNat : Int) - (6 : Int)).toNat (List.take len (List.drop st es)) ++
                List.drop
                  ((6 : Nat) + min (List.take len (List.drop st es)).length ((↑page.toNat : Int) - (6 : Int)).toNat)
                  (layE
                    (layE (List.replicate page.toNat [D.int IntKind.u8 (0 : Int)]) (0 : Nat) (4 : Nat)
                      (IntKind.i64.wrap (next + (1 : Int))))
                    (4 : Nat) (2 : Nat) (↑len : Int)))))))]
  [some
      (HObj.row (1 : Nat)
        (List.take (6 : Nat)
              (layE
                (layE (List.replicate page.toNat [D.int IntKind.u8 (0 : Int)]) (0 : Nat) (4 : Nat)
                  (IntKind.i64.wrap (next + (1 : Int))))
                (4 : Nat) (2 : Nat) (↑len : Int)) ++
            List.take ((↑page.toNat : Int) - (6 : Int)).toNat (List.take len (List.drop st es)) ++
          List.drop ((6 : Nat) + min (List.take len (List.drop st es)).length ((↑page.toNat : Int) - (6 : Int)).toNat)
            (layE
              (layE (List.replicate page.toNat [D.int IntKind.u8 (0 : Int)]) (0 : Nat) (4 : Nat)
                (IntKind.i64.wrap (next + (1 : Int))))
              (4 : Nat) (2 : Nat) (↑len : Int))))]
  (D.tuple [])
  [some
      (HObj.row (1 : Nat)
        (layE
          (List.take (6 : Nat)
                (layE
                  (layE (List.replicate page.toNat [D.int IntKind.u8 (0 : Int)]) (0 : Nat) (4 : Nat)
                    (IntKind.i64.wrap (next + (1 : Int))))
                  (4 : Nat) (2 : Nat) (↑len : Int)) ++
              List.take ((↑page.toNat : Int) - (6 : Int)).toNat (List.take len (List.drop st es)) ++
            List.drop ((6 : Nat) + min (List.take len (List.drop st es)).length ((↑page.toNat : Int) - (6 : Int)).toNat)
              (layE
                (layE (List.replicate page.toNat [D.int IntKind.u8 (0 : Int)]) (0 : Nat) (4 : Nat)
                  (IntKind.i64.wrap (next + (1 : Int))))
                (4 : Nat) (2 : Nat) (↑len : Int)))
          ((0 : Nat) + (IntKind.i64.wrap (page - (4 : Int))).toNat)
          ((↑page.toNat : Int) - IntKind.i64.wrap (page - (4 : Int))).toNat
          (IntKind.i64.wrap
            (sumE
              (List.take (IntKind.i64.wrap (page - (4 : Int)) - (0 : Int)).toNat
                (List.drop (0 : Nat)
                  (List.take (6 : Nat)
                        (layE
                          (layE (List.replicate page.toNat [D.int IntKind.u8 (0 : Int)]) (0 : Nat) (4 : Nat)
                            (IntKind.i64.wrap (next + (1 : Int))))
                          (4 : Nat) (2 : Nat) (↑len : Int)) ++
                      List.take ((↑page.toNat : Int) - (6 : Int)).toNat (List.take len (List.drop st es)) ++
                    List.drop
                      ((6 : Nat) + min (List.take len (List.drop st es)).length ((↑page.toNat : Int) - (6 : Int)).toNat)
                      (layE
                        (layE (List.replicate page.toNat [D.int IntKind.u8 (0 : Int)]) (0 : Nat) (4 : Nat)
                          (IntKind.i64.wrap (next + (1 : Int))))
                        (4 : Nat) (2 : Nat) (↑len : Int)))))))))])
    (h7 : (0 : Nat) + (IntKind.i64.wrap (page - (4 : Int)) - (0 : Int)).toNat ≤
  (List.take (6 : Nat)
          (layE
            (layE (List.replicate page.toNat [D.int IntKind.u8 (0 : Int)]) (0 : Nat) (4 : Nat)
              (IntKind.i64.wrap (next + (1 : Int))))
            (4 : Nat) (2 : Nat) (↑len : Int)) ++
        List.take ((↑page.toNat : Int) - (6 : Int)).toNat (List.take len (List.drop st es)) ++
      List.drop ((6 : Nat) + min (List.take len (List.drop st es)).length ((↑page.toNat : Int) - (6 : Int)).toNat)
        (layE
          (layE (List.replicate page.toNat [D.int IntKind.u8 (0 : Int)]) (0 : Nat) (4 : Nat)
            (IntKind.i64.wrap (next + (1 : Int))))
          (4 : Nat) (2 : Nat) (↑len : Int))).length)
    (h8 : Ret Try.prog (tyOf Try.prog) (32 : Nat)
  [D.slice true
      (List.take (IntKind.i64.wrap (page - (4 : Int)) - (0 : Int)).toNat
        (List.drop (0 : Nat)
          (List.take (6 : Nat)
                (layE
                  (layE (List.replicate page.toNat [D.int IntKind.u8 (0 : Int)]) (0 : Nat) (4 : Nat)
                    (IntKind.i64.wrap (next + (1 : Int))))
                  (4 : Nat) (2 : Nat) (↑len : Int)) ++
              List.take ((↑page.toNat : Int) - (6 : Int)).toNat (List.take len (List.drop st es)) ++
            List.drop ((6 : Nat) + min (List.take len (List.drop st es)).length ((↑page.toNat : Int) - (6 : Int)).toNat)
              (layE
                (layE (List.replicate page.toNat [D.int IntKind.u8 (0 : Int)]) (0 : Nat) (4 : Nat)
                  (IntKind.i64.wrap (next + (1 : Int))))
                (4 : Nat) (2 : Nat) (↑len : Int)))))
      none]
  []
  (D.int IntKind.u32
    (sumE
      (List.take (IntKind.i64.wrap (page - (4 : Int)) - (0 : Int)).toNat
        (List.drop (0 : Nat)
          (List.take (6 : Nat)
                (layE
                  (layE (List.replicate page.toNat [D.int IntKind.u8 (0 : Int)]) (0 : Nat) (4 : Nat)
                    (IntKind.i64.wrap (next + (1 : Int))))
                  (4 : Nat) (2 : Nat) (↑len : Int)) ++
              List.take ((↑page.toNat : Int) - (6 : Int)).toNat (List.take len (List.drop st es)) ++
            List.drop ((6 : Nat) + min (List.take len (List.drop st es)).length ((↑page.toNat : Int) - (6 : Int)).toNat)
              (layE
                (layE (List.replicate page.toNat [D.int IntKind.u8 (0 : Int)]) (0 : Nat) (4 : Nat)
                  (IntKind.i64.wrap (next + (1 : Int))))
                (4 : Nat) (2 : Nat) (↑len : Int)))))))
  [])
    (h9 : (0 : Int) ≤ (0 : Int) ∧
  (0 : Int) ≤ IntKind.i64.wrap (page - (4 : Int)) ∧
    (↑(0 : Nat) : Int) + IntKind.i64.wrap (page - (4 : Int)) ≤
      (↑(List.take (6 : Nat)
                  (layE
                    (layE (List.replicate page.toNat [D.int IntKind.u8 (0 : Int)]) (0 : Nat) (4 : Nat)
                      (IntKind.i64.wrap (next + (1 : Int))))
                    (4 : Nat) (2 : Nat) (↑len : Int)) ++
                List.take ((↑page.toNat : Int) - (6 : Int)).toNat (List.take len (List.drop st es)) ++
              List.drop
                ((6 : Nat) + min (List.take len (List.drop st es)).length ((↑page.toNat : Int) - (6 : Int)).toNat)
                (layE
                  (layE (List.replicate page.toNat [D.int IntKind.u8 (0 : Int)]) (0 : Nat) (4 : Nat)
                    (IntKind.i64.wrap (next + (1 : Int))))
                  (4 : Nat) (2 : Nat) (↑len : Int))).length :
        Int))
    (h10 : (0 : Int) ≤ IntKind.i64.wrap (page - (4 : Int)) ∧
  IntKind.i64.wrap (page - (4 : Int)) ≤ (↑page.toNat : Int) ∧
    (↑(0 : Nat) : Int) + (↑page.toNat : Int) ≤
      (↑(List.take (6 : Nat)
                  (layE
                    (layE (List.replicate page.toNat [D.int IntKind.u8 (0 : Int)]) (0 : Nat) (4 : Nat)
                      (IntKind.i64.wrap (next + (1 : Int))))
                    (4 : Nat) (2 : Nat) (↑len : Int)) ++
                List.take ((↑page.toNat : Int) - (6 : Int)).toNat (List.take len (List.drop st es)) ++
              List.drop
                ((6 : Nat) + min (List.take len (List.drop st es)).length ((↑page.toNat : Int) - (6 : Int)).toNat)
                (layE
                  (layE (List.replicate page.toNat [D.int IntKind.u8 (0 : Int)]) (0 : Nat) (4 : Nat)
                    (IntKind.i64.wrap (next + (1 : Int))))
                  (4 : Nat) (2 : Nat) (↑len : Int))).length :
        Int))
    (h11 : (List.take len (List.drop st es)).length = len)
    (h12 : (6 : Nat) + ((↑page.toNat : Int) - (6 : Int)).toNat ≤
    List.length
      (layE
        (layE (List.replicate page.toNat [D.int IntKind.u8 (0 : Int)]) (0 : Nat) (4 : Nat)
          (IntKind.i64.wrap (next + (1 : Int))))
        (4 : Nat) (2 : Nat) (↑len : Int)) ∧
  ((List.take len (List.drop st es)).all fun c => c.length == (1 : Nat)) = true)
    (h13 : (0 : Int) ≤ (6 : Int) ∧
  (6 : Int) ≤ (↑page.toNat : Int) ∧
    (↑(0 : Nat) : Int) + (↑page.toNat : Int) ≤
      (↑(List.length
            (layE
              (layE (List.replicate page.toNat [D.int IntKind.u8 (0 : Int)]) (0 : Nat) (4 : Nat)
                (IntKind.i64.wrap (next + (1 : Int))))
              (4 : Nat) (2 : Nat) (↑len : Int))) :
        Int))
    (h14 : FlatEs
  (layE (List.replicate page.toNat [D.int IntKind.u8 (0 : Int)]) (0 : Nat) (4 : Nat)
    (IntKind.i64.wrap (next + (1 : Int)))))
    (h15 : FlatEs
  (layE
    (layE (List.replicate page.toNat [D.int IntKind.u8 (0 : Int)]) (0 : Nat) (4 : Nat)
      (IntKind.i64.wrap (next + (1 : Int))))
    (4 : Nat) (2 : Nat) (↑len : Int)))
    (h16 : Ret Try.prog (tyOf Try.prog) (47 : Nat) [D.view (0 : Nat) (4 : Nat) (2 : Nat), D.int IntKind.i64 (↑len : Int)]
  [some
      (HObj.row (1 : Nat)
        (layE (List.replicate page.toNat [D.int IntKind.u8 (0 : Int)]) (0 : Nat) (4 : Nat)
          (IntKind.i64.wrap (next + (1 : Int)))))]
  (D.tuple [])
  [some
      (HObj.row (1 : Nat)
        (layE
          (layE (List.replicate page.toNat [D.int IntKind.u8 (0 : Int)]) (0 : Nat) (4 : Nat)
            (IntKind.i64.wrap (next + (1 : Int))))
          (4 : Nat) (2 : Nat) (↑len : Int)))])
    (h17 : (0 : Int) ≤ (4 : Int) ∧
  (4 : Int) ≤ (6 : Int) ∧
    (↑(0 : Nat) : Int) + (6 : Int) ≤
      (↑(List.length
            (layE (List.replicate page.toNat [D.int IntKind.u8 (0 : Int)]) (0 : Nat) (4 : Nat)
              (IntKind.i64.wrap (next + (1 : Int))))) :
        Int))
    (h18 : FlatEs (List.replicate page.toNat [D.int IntKind.u8 (0 : Int)]))
    (h19 : Ret Try.prog (tyOf Try.prog) (47 : Nat)
  [D.view (0 : Nat) (0 : Nat) (4 : Nat), D.int IntKind.i64 (IntKind.i64.wrap (next + (1 : Int)))]
  [some (HObj.row (1 : Nat) (List.replicate page.toNat [D.int IntKind.u8 (0 : Int)]))] (D.tuple [])
  [some
      (HObj.row (1 : Nat)
        (layE (List.replicate page.toNat [D.int IntKind.u8 (0 : Int)]) (0 : Nat) (4 : Nat)
          (IntKind.i64.wrap (next + (1 : Int)))))])
    (h20 : (0 : Int) ≤ (0 : Int) ∧
  (0 : Int) ≤ (4 : Int) ∧
    (↑(0 : Nat) : Int) + (4 : Int) ≤ (↑(List.replicate page.toNat [D.int IntKind.u8 (0 : Int)]).length : Int))
    (h21 : (0 : Int) ≤ page ∧
  page ≤ page ∧ (↑(1 : Nat) : Int) * page ≤ (281474976710656 : Int) ∧ page ≤ (9223372036854775807 : Int)) :
    Ret Try.prog (tyOf Try.prog) 28 [D.int IntKind.i64 page, D.int IntKind.i64 next, D.view (0 : Nat) st len] [some (HObj.row (1 : Nat) es)] (D.tuple [D.view (1 : Nat) (0 : Nat) page.toNat, D.int IntKind.i64 (0 : Int)]) [some (HObj.row (1 : Nat) es),
  some
    (HObj.row (1 : Nat)
      (layE
        (List.take (6 : Nat)
              (layE
                (layE (List.replicate page.toNat [D.int IntKind.u8 (0 : Int)]) (0 : Nat) (4 : Nat)
                  (IntKind.i64.wrap (next + (1 : Int))))
                (4 : Nat) (2 : Nat) (↑len : Int)) ++
            List.take ((↑page.toNat : Int) - (6 : Int)).toNat (List.take len (List.drop st es)) ++
          List.drop ((6 : Nat) + min (List.take len (List.drop st es)).length ((↑page.toNat : Int) - (6 : Int)).toNat)
            (layE
              (layE (List.replicate page.toNat [D.int IntKind.u8 (0 : Int)]) (0 : Nat) (4 : Nat)
                (IntKind.i64.wrap (next + (1 : Int))))
              (4 : Nat) (2 : Nat) (↑len : Int)))
        ((0 : Nat) + (IntKind.i64.wrap (page - (4 : Int))).toNat)
        ((↑page.toNat : Int) - IntKind.i64.wrap (page - (4 : Int))).toNat
        (IntKind.i64.wrap
          (sumE
            (List.take (IntKind.i64.wrap (page - (4 : Int)) - (0 : Int)).toNat
              (List.drop (0 : Nat)
                (List.take (6 : Nat)
                      (layE
                        (layE (List.replicate page.toNat [D.int IntKind.u8 (0 : Int)]) (0 : Nat) (4 : Nat)
                          (IntKind.i64.wrap (next + (1 : Int))))
                        (4 : Nat) (2 : Nat) (↑len : Int)) ++
                    List.take ((↑page.toNat : Int) - (6 : Int)).toNat (List.take len (List.drop st es)) ++
                  List.drop
                    ((6 : Nat) + min (List.take len (List.drop st es)).length ((↑page.toNat : Int) - (6 : Int)).toNat)
                    (layE
                      (layE (List.replicate page.toNat [D.int IntKind.u8 (0 : Int)]) (0 : Nat) (4 : Nat)
                        (IntKind.i64.wrap (next + (1 : Int))))
                      (4 : Nat) (2 : Nat) (↑len : Int)))))))))] :=
  have b0 : mayU page = true := h0
  have b1 : decide (next < (-1 : Int)) = false := decide_eq_false h1
  have b2 : decide (next ≥ (16384 : Int)) = false := decide_eq_false h2
  have b3 : decide ((↑len : Int) > roomU page) = false := decide_eq_false h3
  fin_call closeV_fn closeV_body closeV_name (fin_ret (h := 2) (closeV_ok layE sumE page next es st len) (show outF (tyOf Try.prog) (fnAt Try.prog 28) 2 (closeV_run layE sumE page next es st len (.code (bodyAt Try.prog 28)) [] (beginE (fnAt Try.prog 28) [D.int IntKind.i64 page, D.int IntKind.i64 next, D.view (0 : Nat) st len] [some (HObj.row (1 : Nat) es)]) (.path [true, true, false, true, true, false, true, true, true, true, true, false, false])) = some (D.tuple [D.view (1 : Nat) (0 : Nat) page.toNat, D.int IntKind.i64 (0 : Int)], [some (HObj.row (1 : Nat) es),
  some
    (HObj.row (1 : Nat)
      (layE
        (List.take (6 : Nat)
              (layE
                (layE (List.replicate page.toNat [D.int IntKind.u8 (0 : Int)]) (0 : Nat) (4 : Nat)
                  (IntKind.i64.wrap (next + (1 : Int))))
                (4 : Nat) (2 : Nat) (↑len : Int)) ++
            List.take ((↑page.toNat : Int) - (6 : Int)).toNat (List.take len (List.drop st es)) ++
          List.drop ((6 : Nat) + min (List.take len (List.drop st es)).length ((↑page.toNat : Int) - (6 : Int)).toNat)
            (layE
              (layE (List.replicate page.toNat [D.int IntKind.u8 (0 : Int)]) (0 : Nat) (4 : Nat)
                (IntKind.i64.wrap (next + (1 : Int))))
              (4 : Nat) (2 : Nat) (↑len : Int)))
        ((0 : Nat) + (IntKind.i64.wrap (page - (4 : Int))).toNat)
        ((↑page.toNat : Int) - IntKind.i64.wrap (page - (4 : Int))).toNat
        (IntKind.i64.wrap
          (sumE
            (List.take (IntKind.i64.wrap (page - (4 : Int)) - (0 : Int)).toNat
              (List.drop (0 : Nat)
                (List.take (6 : Nat)
                      (layE
                        (layE (List.replicate page.toNat [D.int IntKind.u8 (0 : Int)]) (0 : Nat) (4 : Nat)
                          (IntKind.i64.wrap (next + (1 : Int))))
                        (4 : Nat) (2 : Nat) (↑len : Int)) ++
                    List.take ((↑page.toNat : Int) - (6 : Int)).toNat (List.take len (List.drop st es)) ++
                  List.drop
                    ((6 : Nat) + min (List.take len (List.drop st es)).length ((↑page.toNat : Int) - (6 : Int)).toNat)
                    (layE
                      (layE (List.replicate page.toNat [D.int IntKind.u8 (0 : Int)]) (0 : Nat) (4 : Nat)
                        (IntKind.i64.wrap (next + (1 : Int))))
                      (4 : Nat) (2 : Nat) (↑len : Int)))))))))],
    [FlatEs
  (List.take (6 : Nat)
        (layE
          (layE (List.replicate page.toNat [D.int IntKind.u8 (0 : Int)]) (0 : Nat) (4 : Nat)
            (IntKind.i64.wrap (next + (1 : Int))))
          (4 : Nat) (2 : Nat) (↑len : Int)) ++
      List.take ((↑page.toNat : Int) - (6 : Int)).toNat (List.take len (List.drop st es)) ++
    List.drop ((6 : Nat) + min (List.take len (List.drop st es)).length ((↑page.toNat : Int) - (6 : Int)).toNat)
      (layE
        (layE (List.replicate page.toNat [D.int IntKind.u8 (0 : Int)]) (0 : Nat) (4 : Nat)
          (IntKind.i64.wrap (next + (1 : Int))))
        (4 : Nat) (2 : Nat) (↑len : Int))),
      FlatEs
  (layE
    (List.take (6 : Nat)
          (layE
            (layE (List.replicate page.toNat [D.int IntKind.u8 (0 : Int)]) (0 : Nat) (4 : Nat)
              (IntKind.i64.wrap (next + (1 : Int))))
            (4 : Nat) (2 : Nat) (↑len : Int)) ++
        List.take ((↑page.toNat : Int) - (6 : Int)).toNat (List.take len (List.drop st es)) ++
      List.drop ((6 : Nat) + min (List.take len (List.drop st es)).length ((↑page.toNat : Int) - (6 : Int)).toNat)
        (layE
          (layE (List.replicate page.toNat [D.int IntKind.u8 (0 : Int)]) (0 : Nat) (4 : Nat)
            (IntKind.i64.wrap (next + (1 : Int))))
          (4 : Nat) (2 : Nat) (↑len : Int)))
    ((0 : Nat) + (IntKind.i64.wrap (page - (4 : Int))).toNat)
    ((↑page.toNat : Int) - IntKind.i64.wrap (page - (4 : Int))).toNat
    (IntKind.i64.wrap
      (sumE
        (List.take (IntKind.i64.wrap (page - (4 : Int)) - (0 : Int)).toNat
          (List.drop (0 : Nat)
            (List.take (6 : Nat)
                  (layE
                    (layE (List.replicate page.toNat [D.int IntKind.u8 (0 : Int)]) (0 : Nat) (4 : Nat)
                      (IntKind.i64.wrap (next + (1 : Int))))
                    (4 : Nat) (2 : Nat) (↑len : Int)) ++
                List.take ((↑page.toNat : Int) - (6 : Int)).toNat (List.take len (List.drop st es)) ++
              List.drop
                ((6 : Nat) + min (List.take len (List.drop st es)).length ((↑page.toNat : Int) - (6 : Int)).toNat)
                (layE
                  (layE (List.replicate page.toNat [D.int IntKind.u8 (0 : Int)]) (0 : Nat) (4 : Nat)
                    (IntKind.i64.wrap (next + (1 : Int))))
                  (4 : Nat) (2 : Nat) (↑len : Int)))))))),
      Ret Try.prog (tyOf Try.prog) (47 : Nat)
  [D.view (0 : Nat) ((0 : Nat) + (IntKind.i64.wrap (page - (4 : Int))).toNat)
      ((↑page.toNat : Int) - IntKind.i64.wrap (page - (4 : Int))).toNat,
    D.int IntKind.i64
      (IntKind.i64.wrap
        (sumE
          (List.take (IntKind.i64.wrap (page - (4 : Int)) - (0 : Int)).toNat
            (List.drop (0 : Nat)
              (List.take (6 : Nat)
                    (layE
                      (layE (List.replicate page.toNat [D.int IntKind.u8 (0 : Int)]) (0 : Nat) (4 : Nat)
                        (IntKind.i64.wrap (next + (1 : Int))))
                      (4 : Nat) (2 : Nat) (↑len : Int)) ++
                  List.take ((↑page.toNat : Int) - (6 : Int)).toNat (List.take len (List.drop st es)) ++
                List.drop
                  ((6 : Nat) + min (List.take len (List.drop st es)).length ((↑page.toNat : Int) - (6 : Int)).toNat)
                  (layE
                    (layE (List.replicate page.toNat [D.int IntKind.u8 (0 : Int)]) (0 : Nat) (4 : Nat)
                      (IntKind.i64.wrap (next + (1 : Int))))
                    (4 : Nat) (2 : Nat) (↑len : Int)))))))]
  [some
      (HObj.row (1 : Nat)
        (List.take (6 : Nat)
              (layE
                (layE (List.replicate page.toNat [D.int IntKind.u8 (0 : Int)]) (0 : Nat) (4 : Nat)
                  (IntKind.i64.wrap (next + (1 : Int))))
                (4 : Nat) (2 : Nat) (↑len : Int)) ++
            List.take ((↑page.toNat : Int) - (6 : Int)).toNat (List.take len (List.drop st es)) ++
          List.drop ((6 : Nat) + min (List.take len (List.drop st es)).length ((↑page.toNat : Int) - (6 : Int)).toNat)
            (layE
              (layE (List.replicate page.toNat [D.int IntKind.u8 (0 : Int)]) (0 : Nat) (4 : Nat)
                (IntKind.i64.wrap (next + (1 : Int))))
              (4 : Nat) (2 : Nat) (↑len : Int))))]
  (D.tuple [])
  [some
      (HObj.row (1 : Nat)
        (layE
          (List.take (6 : Nat)
                (layE
                  (layE (List.replicate page.toNat [D.int IntKind.u8 (0 : Int)]) (0 : Nat) (4 : Nat)
                    (IntKind.i64.wrap (next + (1 : Int))))
                  (4 : Nat) (2 : Nat) (↑len : Int)) ++
              List.take ((↑page.toNat : Int) - (6 : Int)).toNat (List.take len (List.drop st es)) ++
            List.drop ((6 : Nat) + min (List.take len (List.drop st es)).length ((↑page.toNat : Int) - (6 : Int)).toNat)
              (layE
                (layE (List.replicate page.toNat [D.int IntKind.u8 (0 : Int)]) (0 : Nat) (4 : Nat)
                  (IntKind.i64.wrap (next + (1 : Int))))
                (4 : Nat) (2 : Nat) (↑len : Int)))
          ((0 : Nat) + (IntKind.i64.wrap (page - (4 : Int))).toNat)
          ((↑page.toNat : Int) - IntKind.i64.wrap (page - (4 : Int))).toNat
          (IntKind.i64.wrap
            (sumE
              (List.take (IntKind.i64.wrap (page - (4 : Int)) - (0 : Int)).toNat
                (List.drop (0 : Nat)
                  (List.take (6 : Nat)
                        (layE
                          (layE (List.replicate page.toNat [D.int IntKind.u8 (0 : Int)]) (0 : Nat) (4 : Nat)
                            (IntKind.i64.wrap (next + (1 : Int))))
                          (4 : Nat) (2 : Nat) (↑len : Int)) ++
                      List.take ((↑page.toNat : Int) - (6 : Int)).toNat (List.take len (List.drop st es)) ++
                    List.drop
                      ((6 : Nat) + min (List.take len (List.drop st es)).length ((↑page.toNat : Int) - (6 : Int)).toNat)
                      (layE
                        (layE (List.replicate page.toNat [D.int IntKind.u8 (0 : Int)]) (0 : Nat) (4 : Nat)
                          (IntKind.i64.wrap (next + (1 : Int))))
                        (4 : Nat) (2 : Nat) (↑len : Int)))))))))],
      (0 : Nat) + (IntKind.i64.wrap (page - (4 : Int)) - (0 : Int)).toNat ≤
  (List.take (6 : Nat)
          (layE
            (layE (List.replicate page.toNat [D.int IntKind.u8 (0 : Int)]) (0 : Nat) (4 : Nat)
              (IntKind.i64.wrap (next + (1 : Int))))
            (4 : Nat) (2 : Nat) (↑len : Int)) ++
        List.take ((↑page.toNat : Int) - (6 : Int)).toNat (List.take len (List.drop st es)) ++
      List.drop ((6 : Nat) + min (List.take len (List.drop st es)).length ((↑page.toNat : Int) - (6 : Int)).toNat)
        (layE
          (layE (List.replicate page.toNat [D.int IntKind.u8 (0 : Int)]) (0 : Nat) (4 : Nat)
            (IntKind.i64.wrap (next + (1 : Int))))
          (4 : Nat) (2 : Nat) (↑len : Int))).length,
      FlatEs
  (List.take (6 : Nat)
        (layE
          (layE (List.replicate page.toNat [D.int IntKind.u8 (0 : Int)]) (0 : Nat) (4 : Nat)
            (IntKind.i64.wrap (next + (1 : Int))))
          (4 : Nat) (2 : Nat) (↑len : Int)) ++
      List.take ((↑page.toNat : Int) - (6 : Int)).toNat (List.take len (List.drop st es)) ++
    List.drop ((6 : Nat) + min (List.take len (List.drop st es)).length ((↑page.toNat : Int) - (6 : Int)).toNat)
      (layE
        (layE (List.replicate page.toNat [D.int IntKind.u8 (0 : Int)]) (0 : Nat) (4 : Nat)
          (IntKind.i64.wrap (next + (1 : Int))))
        (4 : Nat) (2 : Nat) (↑len : Int))),
      Ret Try.prog (tyOf Try.prog) (32 : Nat)
  [D.slice true
      (List.take (IntKind.i64.wrap (page - (4 : Int)) - (0 : Int)).toNat
        (List.drop (0 : Nat)
          (List.take (6 : Nat)
                (layE
                  (layE (List.replicate page.toNat [D.int IntKind.u8 (0 : Int)]) (0 : Nat) (4 : Nat)
                    (IntKind.i64.wrap (next + (1 : Int))))
                  (4 : Nat) (2 : Nat) (↑len : Int)) ++
              List.take ((↑page.toNat : Int) - (6 : Int)).toNat (List.take len (List.drop st es)) ++
            List.drop ((6 : Nat) + min (List.take len (List.drop st es)).length ((↑page.toNat : Int) - (6 : Int)).toNat)
              (layE
                (layE (List.replicate page.toNat [D.int IntKind.u8 (0 : Int)]) (0 : Nat) (4 : Nat)
                  (IntKind.i64.wrap (next + (1 : Int))))
                (4 : Nat) (2 : Nat) (↑len : Int)))))
      none]
  []
  (D.int IntKind.u32
    (sumE
      (List.take (IntKind.i64.wrap (page - (4 : Int)) - (0 : Int)).toNat
        (List.drop (0 : Nat)
          (List.take (6 : Nat)
                (layE
                  (layE (List.replicate page.toNat [D.int IntKind.u8 (0 : Int)]) (0 : Nat) (4 : Nat)
                    (IntKind.i64.wrap (next + (1 : Int))))
                  (4 : Nat) (2 : Nat) (↑len : Int)) ++
              List.take ((↑page.toNat : Int) - (6 : Int)).toNat (List.take len (List.drop st es)) ++
            List.drop ((6 : Nat) + min (List.take len (List.drop st es)).length ((↑page.toNat : Int) - (6 : Int)).toNat)
              (layE
                (layE (List.replicate page.toNat [D.int IntKind.u8 (0 : Int)]) (0 : Nat) (4 : Nat)
                  (IntKind.i64.wrap (next + (1 : Int))))
                (4 : Nat) (2 : Nat) (↑len : Int)))))))
  [],
      (0 : Int) ≤ (0 : Int) ∧
  (0 : Int) ≤ IntKind.i64.wrap (page - (4 : Int)) ∧
    (↑(0 : Nat) : Int) + IntKind.i64.wrap (page - (4 : Int)) ≤
      (↑(List.take (6 : Nat)
                  (layE
                    (layE (List.replicate page.toNat [D.int IntKind.u8 (0 : Int)]) (0 : Nat) (4 : Nat)
                      (IntKind.i64.wrap (next + (1 : Int))))
                    (4 : Nat) (2 : Nat) (↑len : Int)) ++
                List.take ((↑page.toNat : Int) - (6 : Int)).toNat (List.take len (List.drop st es)) ++
              List.drop
                ((6 : Nat) + min (List.take len (List.drop st es)).length ((↑page.toNat : Int) - (6 : Int)).toNat)
                (layE
                  (layE (List.replicate page.toNat [D.int IntKind.u8 (0 : Int)]) (0 : Nat) (4 : Nat)
                    (IntKind.i64.wrap (next + (1 : Int))))
                  (4 : Nat) (2 : Nat) (↑len : Int))).length :
        Int),
      (0 : Int) ≤ IntKind.i64.wrap (page - (4 : Int)) ∧
  IntKind.i64.wrap (page - (4 : Int)) ≤ (↑page.toNat : Int) ∧
    (↑(0 : Nat) : Int) + (↑page.toNat : Int) ≤
      (↑(List.take (6 : Nat)
                  (layE
                    (layE (List.replicate page.toNat [D.int IntKind.u8 (0 : Int)]) (0 : Nat) (4 : Nat)
                      (IntKind.i64.wrap (next + (1 : Int))))
                    (4 : Nat) (2 : Nat) (↑len : Int)) ++
                List.take ((↑page.toNat : Int) - (6 : Int)).toNat (List.take len (List.drop st es)) ++
              List.drop
                ((6 : Nat) + min (List.take len (List.drop st es)).length ((↑page.toNat : Int) - (6 : Int)).toNat)
                (layE
                  (layE (List.replicate page.toNat [D.int IntKind.u8 (0 : Int)]) (0 : Nat) (4 : Nat)
                    (IntKind.i64.wrap (next + (1 : Int))))
                  (4 : Nat) (2 : Nat) (↑len : Int))).length :
        Int),
      (List.take len (List.drop st es)).length = len,
      (6 : Nat) + ((↑page.toNat : Int) - (6 : Int)).toNat ≤
    List.length
      (layE
        (layE (List.replicate page.toNat [D.int IntKind.u8 (0 : Int)]) (0 : Nat) (4 : Nat)
          (IntKind.i64.wrap (next + (1 : Int))))
        (4 : Nat) (2 : Nat) (↑len : Int)) ∧
  ((List.take len (List.drop st es)).all fun c => c.length == (1 : Nat)) = true,
      (0 : Int) ≤ (6 : Int) ∧
  (6 : Int) ≤ (↑page.toNat : Int) ∧
    (↑(0 : Nat) : Int) + (↑page.toNat : Int) ≤
      (↑(List.length
            (layE
              (layE (List.replicate page.toNat [D.int IntKind.u8 (0 : Int)]) (0 : Nat) (4 : Nat)
                (IntKind.i64.wrap (next + (1 : Int))))
              (4 : Nat) (2 : Nat) (↑len : Int))) :
        Int),
      FlatEs
  (layE (List.replicate page.toNat [D.int IntKind.u8 (0 : Int)]) (0 : Nat) (4 : Nat)
    (IntKind.i64.wrap (next + (1 : Int)))),
      FlatEs
  (layE
    (layE (List.replicate page.toNat [D.int IntKind.u8 (0 : Int)]) (0 : Nat) (4 : Nat)
      (IntKind.i64.wrap (next + (1 : Int))))
    (4 : Nat) (2 : Nat) (↑len : Int)),
      Ret Try.prog (tyOf Try.prog) (47 : Nat) [D.view (0 : Nat) (4 : Nat) (2 : Nat), D.int IntKind.i64 (↑len : Int)]
  [some
      (HObj.row (1 : Nat)
        (layE (List.replicate page.toNat [D.int IntKind.u8 (0 : Int)]) (0 : Nat) (4 : Nat)
          (IntKind.i64.wrap (next + (1 : Int)))))]
  (D.tuple [])
  [some
      (HObj.row (1 : Nat)
        (layE
          (layE (List.replicate page.toNat [D.int IntKind.u8 (0 : Int)]) (0 : Nat) (4 : Nat)
            (IntKind.i64.wrap (next + (1 : Int))))
          (4 : Nat) (2 : Nat) (↑len : Int)))],
      (0 : Int) ≤ (4 : Int) ∧
  (4 : Int) ≤ (6 : Int) ∧
    (↑(0 : Nat) : Int) + (6 : Int) ≤
      (↑(List.length
            (layE (List.replicate page.toNat [D.int IntKind.u8 (0 : Int)]) (0 : Nat) (4 : Nat)
              (IntKind.i64.wrap (next + (1 : Int))))) :
        Int),
      FlatEs (List.replicate page.toNat [D.int IntKind.u8 (0 : Int)]),
      FlatEs
  (layE (List.replicate page.toNat [D.int IntKind.u8 (0 : Int)]) (0 : Nat) (4 : Nat)
    (IntKind.i64.wrap (next + (1 : Int)))),
      Ret Try.prog (tyOf Try.prog) (47 : Nat)
  [D.view (0 : Nat) (0 : Nat) (4 : Nat), D.int IntKind.i64 (IntKind.i64.wrap (next + (1 : Int)))]
  [some (HObj.row (1 : Nat) (List.replicate page.toNat [D.int IntKind.u8 (0 : Int)]))] (D.tuple [])
  [some
      (HObj.row (1 : Nat)
        (layE (List.replicate page.toNat [D.int IntKind.u8 (0 : Int)]) (0 : Nat) (4 : Nat)
          (IntKind.i64.wrap (next + (1 : Int)))))],
      (0 : Int) ≤ (0 : Int) ∧
  (0 : Int) ≤ (4 : Int) ∧
    (↑(0 : Nat) : Int) + (4 : Int) ≤ (↑(List.replicate page.toNat [D.int IntKind.u8 (0 : Int)]).length : Int),
      (0 : Int) ≤ page ∧
  page ≤ page ∧ (↑(1 : Nat) : Int) * page ≤ (281474976710656 : Int) ∧ page ≤ (9223372036854775807 : Int),
      decide ((↑len : Int) > roomU page) = false,
      decide (next ≥ (16384 : Int)) = false,
      (decide (next ≥ (16384 : Int)) == false) = true,
      Ret Try.prog (tyOf Try.prog) (30 : Nat) [D.int IntKind.i64 page] [] (D.int IntKind.i64 (roomU page)) [],
      (decide (next ≥ (16384 : Int)) == false) = true,
      (decide (next ≥ (16384 : Int)) == false) = true,
      (decide (next ≥ (16384 : Int)) == false) = true,
      (decide (next ≥ (16384 : Int)) == false) = true,
      decide (next < (-1 : Int)) = false,
      (decide (next < (-1 : Int)) == false) = true,
      (decide (next < (-1 : Int)) == false) = true,
      (!mayU page) = false,
      ((!mayU page) == false) = true,
      ((!mayU page) == false) = true,
      Ret Try.prog (tyOf Try.prog) (46 : Nat) [D.int IntKind.i64 page] [] (D.bool (mayU page)) []]) by kernel_rfl)
    (all_cons.2 ⟨h4, all_cons.2 ⟨h5, all_cons.2 ⟨h6, all_cons.2 ⟨h7, all_cons.2 ⟨h4, all_cons.2 ⟨h8, all_cons.2 ⟨h9, all_cons.2 ⟨h10, all_cons.2 ⟨h11, all_cons.2 ⟨h12, all_cons.2 ⟨h13, all_cons.2 ⟨h14, all_cons.2 ⟨h15, all_cons.2 ⟨h16, all_cons.2 ⟨h17, all_cons.2 ⟨h18, all_cons.2 ⟨h14, all_cons.2 ⟨h19, all_cons.2 ⟨h20, all_cons.2 ⟨h21, all_cons.2 ⟨b3, all_cons.2 ⟨b2, all_cons.2 ⟨(by rw [b2]; rfl), all_cons.2 ⟨(room30 _), all_cons.2 ⟨(by rw [b2]; rfl), all_cons.2 ⟨(by rw [b2]; rfl), all_cons.2 ⟨(by rw [b2]; rfl), all_cons.2 ⟨(by rw [b2]; rfl), all_cons.2 ⟨b1, all_cons.2 ⟨(by rw [b1]; rfl), all_cons.2 ⟨(by rw [b1]; rfl), all_cons.2 ⟨(by rw [b0]; rfl), all_cons.2 ⟨(by rw [b0]; rfl), all_cons.2 ⟨(by rw [b0]; rfl), all_cons.2 ⟨(may46 _), all_nil.2 trivial⟩⟩⟩⟩⟩⟩⟩⟩⟩⟩⟩⟩⟩⟩⟩⟩⟩⟩⟩⟩⟩⟩⟩⟩⟩⟩⟩⟩⟩⟩⟩⟩⟩⟩⟩))

theorem closeV_in_4 {layE : Es → Nat → Nat → Int → Es} {sumE : Es → Int} {page : Int} {next : Int} {es : Es} {st : Nat} {len : Nat}
    (h0 : mayU page = false) :
    Ret Try.prog (tyOf Try.prog) 28 [D.int IntKind.i64 page, D.int IntKind.i64 next, D.view (0 : Nat) st len] [some (HObj.row (1 : Nat) es)] (D.tuple [D.slice false [] none, D.int IntKind.i64 (1 : Int)]) [some (HObj.row (1 : Nat) es)] :=
  have b0 : mayU page = false := h0
  fin_call closeV_fn closeV_body closeV_name (fin_ret (h := 1) (closeV_ok layE sumE page next es st len) (show outF (tyOf Try.prog) (fnAt Try.prog 28) 1 (closeV_run layE sumE page next es st len (.code (bodyAt Try.prog 28)) [] (beginE (fnAt Try.prog 28) [D.int IntKind.i64 page, D.int IntKind.i64 next, D.view (0 : Nat) st len] [some (HObj.row (1 : Nat) es)]) (.path [false, false, true, false, false, true, false, false, false, false, false, true, true])) = some (D.tuple [D.slice false [] none, D.int IntKind.i64 (1 : Int)], [some (HObj.row (1 : Nat) es)],
    [true = true,
      true = true,
      false = false,
      false = false,
      false = false,
      false = false,
      false = false,
      true = true,
      false = false,
      false = false,
      (!mayU page) = true,
      ((!mayU page) == false) = false,
      ((!mayU page) == false) = false,
      Ret Try.prog (tyOf Try.prog) (46 : Nat) [D.int IntKind.i64 page] [] (D.bool (mayU page)) []]) by kernel_rfl)
    (all_cons.2 ⟨rfl, all_cons.2 ⟨rfl, all_cons.2 ⟨rfl, all_cons.2 ⟨rfl, all_cons.2 ⟨rfl, all_cons.2 ⟨rfl, all_cons.2 ⟨rfl, all_cons.2 ⟨rfl, all_cons.2 ⟨rfl, all_cons.2 ⟨rfl, all_cons.2 ⟨(by rw [b0]; rfl), all_cons.2 ⟨(by rw [b0]; rfl), all_cons.2 ⟨(by rw [b0]; rfl), all_cons.2 ⟨(may46 _), all_nil.2 trivial⟩⟩⟩⟩⟩⟩⟩⟩⟩⟩⟩⟩⟩⟩))


/-! ### function 34 -/
theorem openV_fn : Try.prog.funcs[(34 : Nat)]? = some (fnAt Try.prog 34) := by kernel_rfl
theorem openV_body : (fnAt Try.prog 34).body = some (bodyAt Try.prog 34) := by kernel_rfl
theorem openV_name : ((fnAt Try.prog 34).name == "runtime.NumGoroutine") = false := by kernel_rfl
noncomputable def openV_C (sumE : Es → Int) (readE : Es → Int) (es : Es) (st : Nat) (len : Nat) : Cf := cfg Try.prog (hintOf []) (tOpenV sumE readE es st len) (fun g => match g with | 32 => true | 50 => true | _ => false) 2 true (fun z => Nat.beq 1 z)
theorem openV_ok (sumE : Es → Int) (readE : Es → Int) (es : Es) (st : Nat) (len : Nat) : CfOk (openV_C sumE readE es st len) := cfg_ok (by kernel_rfl)
noncomputable def openV_run (sumE : Es → Int) (readE : Es → Int) (es : Es) (st : Nat) (len : Nat) (cur : Cur) (k : List It) (s : St) (or : GD.Or) := runE (openV_C sumE readE es st len) (callE (openV_C sumE readE es st len) 100000 10) 34 100000 cur k s or []

theorem openV_in_0 {sumE : Es → Int} {readE : Es → Int} {es : Es} {st : Nat} {len : Nat}
    (h0 : mayU (↑len : Int) = true)
    (h1 : readE
  (List.take ((↑len : Int) - (↑(IntKind.i64.wrap ((↑len : Int) - (4 : Int)) - (0 : Int)).toNat : Int)).toNat
    (List.drop (st + (↑(IntKind.i64.wrap ((↑len : Int) - (4 : Int)) - (0 : Int)).toNat : Int).toNat) es)) ≠ IntKind.i64.wrap
  (sumE (List.take (IntKind.i64.wrap ((↑len : Int) - (4 : Int)) - (0 : Int)).toNat (List.drop (st + (0 : Nat)) es))))
    (h2 : st + (0 : Nat) + (IntKind.i64.wrap ((↑len : Int) - (4 : Int)) - (0 : Int)).toNat ≤ List.length es)
    (h3 : FlatEs es)
    (h4 : Ret Try.prog (tyOf Try.prog) (32 : Nat)
  [D.slice true
      (List.take (IntKind.i64.wrap ((↑len : Int) - (4 : Int)) - (0 : Int)).toNat (List.drop (st + (0 : Nat)) es)) none]
  []
  (D.int IntKind.u32
    (sumE (List.take (IntKind.i64.wrap ((↑len : Int) - (4 : Int)) - (0 : Int)).toNat (List.drop (st + (0 : Nat)) es))))
  [])
    (h5 : st + (↑(IntKind.i64.wrap ((↑len : Int) - (4 : Int)) - (0 : Int)).toNat : Int).toNat +
    ((↑len : Int) - (↑(IntKind.i64.wrap ((↑len : Int) - (4 : Int)) - (0 : Int)).toNat : Int)).toNat ≤
  List.length es)
    (h6 : Ret Try.prog (tyOf Try.prog) (50 : Nat)
  [D.slice true
      (List.take ((↑len : Int) - (↑(IntKind.i64.wrap ((↑len : Int) - (4 : Int)) - (0 : Int)).toNat : Int)).toNat
        (List.drop (st + (↑(IntKind.i64.wrap ((↑len : Int) - (4 : Int)) - (0 : Int)).toNat : Int).toNat) es))
      none]
  []
  (D.int IntKind.i64
    (readE
      (List.take ((↑len : Int) - (↑(IntKind.i64.wrap ((↑len : Int) - (4 : Int)) - (0 : Int)).toNat : Int)).toNat
        (List.drop (st + (↑(IntKind.i64.wrap ((↑len : Int) - (4 : Int)) - (0 : Int)).toNat : Int).toNat) es))))
  [])
    (h7 : (0 : Int) ≤ (↑(IntKind.i64.wrap ((↑len : Int) - (4 : Int)) - (0 : Int)).toNat : Int) ∧
  (↑(IntKind.i64.wrap ((↑len : Int) - (4 : Int)) - (0 : Int)).toNat : Int) ≤ (↑len : Int) ∧
    (↑st : Int) + (↑len : Int) ≤ (↑(List.length es) : Int))
    (h8 : (0 : Int) ≤ (0 : Int) ∧
  (0 : Int) ≤ IntKind.i64.wrap ((↑len : Int) - (4 : Int)) ∧
    (↑st : Int) + IntKind.i64.wrap ((↑len : Int) - (4 : Int)) ≤ (↑(List.length es) : Int)) :
    Ret Try.prog (tyOf Try.prog) 34 [D.view (0 : Nat) st len] [some (HObj.row (1 : Nat) es)] (D.tuple [D.int IntKind.i64 (0 : Int), D.slice false [] none, D.int IntKind.i64 (18 : Int)]) [some (HObj.row (1 : Nat) es)] :=
  have b0 : mayU (↑len : Int) = true := h0
  have b1 : (readE
      (List.take ((↑len : Int) - (↑(IntKind.i64.wrap ((↑len : Int) - (4 : Int)) - (0 : Int)).toNat : Int)).toNat
        (List.drop (st + (↑(IntKind.i64.wrap ((↑len : Int) - (4 : Int)) - (0 : Int)).toNat : Int).toNat) es)) !=
    IntKind.i64.wrap
      (sumE
        (List.take (IntKind.i64.wrap ((↑len : Int) - (4 : Int)) - (0 : Int)).toNat (List.drop (st + (0 : Nat)) es)))) =
  true := bne_iff_ne.2 h1
  fin_call openV_fn openV_body openV_name (fin_ret (h := 1) (openV_ok sumE readE es st len) (show outF (tyOf Try.prog) (fnAt Try.prog 34) 1 (openV_run sumE readE es st len (.code (bodyAt Try.prog 34)) [] (beginE (fnAt Try.prog 34) [D.view (0 : Nat) st len] [some (HObj.row (1 : Nat) es)]) (.path [false, true])) = some (D.tuple [D.int IntKind.i64 (0 : Int), D.slice false [] none, D.int IntKind.i64 (18 : Int)], [some (HObj.row (1 : Nat) es)],
    [(readE
      (List.take ((↑len : Int) - (↑(IntKind.i64.wrap ((↑len : Int) - (4 : Int)) - (0 : Int)).toNat : Int)).toNat
        (List.drop (st + (↑(IntKind.i64.wrap ((↑len : Int) - (4 : Int)) - (0 : Int)).toNat : Int).toNat) es)) !=
    IntKind.i64.wrap
      (sumE
        (List.take (IntKind.i64.wrap ((↑len : Int) - (4 : Int)) - (0 : Int)).toNat (List.drop (st + (0 : Nat)) es)))) =
  true,
      st + (0 : Nat) + (IntKind.i64.wrap ((↑len : Int) - (4 : Int)) - (0 : Int)).toNat ≤ List.length es,
      FlatEs es,
      Ret Try.prog (tyOf Try.prog) (32 : Nat)
  [D.slice true
      (List.take (IntKind.i64.wrap ((↑len : Int) - (4 : Int)) - (0 : Int)).toNat (List.drop (st + (0 : Nat)) es)) none]
  []
  (D.int IntKind.u32
    (sumE (List.take (IntKind.i64.wrap ((↑len : Int) - (4 : Int)) - (0 : Int)).toNat (List.drop (st + (0 : Nat)) es))))
  [],
      st + (↑(IntKind.i64.wrap ((↑len : Int) - (4 : Int)) - (0 : Int)).toNat : Int).toNat +
    ((↑len : Int) - (↑(IntKind.i64.wrap ((↑len : Int) - (4 : Int)) - (0 : Int)).toNat : Int)).toNat ≤
  List.length es,
      FlatEs es,
      Ret Try.prog (tyOf Try.prog) (50 : Nat)
  [D.slice true
      (List.take ((↑len : Int) - (↑(IntKind.i64.wrap ((↑len : Int) - (4 : Int)) - (0 : Int)).toNat : Int)).toNat
        (List.drop (st + (↑(IntKind.i64.wrap ((↑len : Int) - (4 : Int)) - (0 : Int)).toNat : Int).toNat) es))
      none]
  []
  (D.int IntKind.i64
    (readE
      (List.take ((↑len : Int) - (↑(IntKind.i64.wrap ((↑len : Int) - (4 : Int)) - (0 : Int)).toNat : Int)).toNat
        (List.drop (st + (↑(IntKind.i64.wrap ((↑len : Int) - (4 : Int)) - (0 : Int)).toNat : Int).toNat) es))))
  [],
      (0 : Int) ≤ (↑(IntKind.i64.wrap ((↑len : Int) - (4 : Int)) - (0 : Int)).toNat : Int) ∧
  (↑(IntKind.i64.wrap ((↑len : Int) - (4 : Int)) - (0 : Int)).toNat : Int) ≤ (↑len : Int) ∧
    (↑st : Int) + (↑len : Int) ≤ (↑(List.length es) : Int),
      (0 : Int) ≤ (0 : Int) ∧
  (0 : Int) ≤ IntKind.i64.wrap ((↑len : Int) - (4 : Int)) ∧
    (↑st : Int) + IntKind.i64.wrap ((↑len : Int) - (4 : Int)) ≤ (↑(List.length es) : Int),
      (!mayU (↑len : Int)) = false,
      Ret Try.prog (tyOf Try.prog) (46 : Nat) [D.int IntKind.i64 (↑len : Int)] [] (D.bool (mayU (↑len : Int))) []]) by kernel_rfl)
    (all_cons.2 ⟨b1, all_cons.2 ⟨h2, all_cons.2 ⟨h3, all_cons.2 ⟨h4, all_cons.2 ⟨h5, all_cons.2 ⟨h3, all_cons.2 ⟨h6, all_cons.2 ⟨h7, all_cons.2 ⟨h8, all_cons.2 ⟨(by rw [b0]; rfl), all_cons.2 ⟨(may46 _), all_nil.2 trivial⟩⟩⟩⟩⟩⟩⟩⟩⟩⟩⟩))

theorem openV_in_1 {sumE : Es → Int} {readE : Es → Int} {es : Es} {st : Nat} {len : Nat}
    (h0 : mayU (↑len : Int) = true)
    (h1 : readE
  (List.take ((↑len : Int) - (↑(IntKind.i64.wrap ((↑len : Int) - (4 : Int)) - (0 : Int)).toNat : Int)).toNat
    (List.drop (st + (↑(IntKind.i64.wrap ((↑len : Int) - (4 : Int)) - (0 : Int)).toNat : Int).toNat) es)) = IntKind.i64.wrap
  (sumE (List.take (IntKind.i64.wrap ((↑len : Int) - (4 : Int)) - (0 : Int)).toNat (List.drop (st + (0 : Nat)) es))))
    (h2 : readE (List.take (4 : Nat) (List.drop (st + (0 : Nat) + (0 : Nat)) es)) > (16384 : Int))
    (h3 : decide (readE (List.take (4 : Nat) (List.drop (st + (0 : Nat) + (0 : Nat)) es)) > (16384 : Int)) = true)
    (h4 : (decide (readE (List.take (4 : Nat) (List.drop (st + (0 : Nat) + (0 : Nat)) es)) > (16384 : Int)) == false) = false)
    (h5 : st + (0 : Nat) + (4 : Nat) + (2 : Nat) ≤ List.length es)
    (h6 : FlatEs es)
    (h7 : Ret Try.prog (tyOf Try.prog) (50 : Nat)
  [D.slice true (List.take (2 : Nat) (List.drop (st + (0 : Nat) + (4 : Nat)) es)) none] []
  (D.int IntKind.i64 (readE (List.take (2 : Nat) (List.drop (st + (0 : Nat) + (4 : Nat)) es)))) [])
    (h8 : (0 : Int) ≤ (4 : Int) ∧ (4 : Int) ≤ (6 : Int) ∧ (↑(st + (0 : Nat)) : Int) + (6 : Int) ≤ (↑(List.length es) : Int))
    (h9 : st + (0 : Nat) + (0 : Nat) + (4 : Nat) ≤ List.length es)
    (h10 : Ret Try.prog (tyOf Try.prog) (50 : Nat)
  [D.slice true (List.take (4 : Nat) (List.drop (st + (0 : Nat) + (0 : Nat)) es)) none] []
  (D.int IntKind.i64 (readE (List.take (4 : Nat) (List.drop (st + (0 : Nat) + (0 : Nat)) es)))) [])
    (h11 : (0 : Int) ≤ (0 : Int) ∧ (0 : Int) ≤ (4 : Int) ∧ (↑(st + (0 : Nat)) : Int) + (4 : Int) ≤ (↑(List.length es) : Int))
    (h12 : st + (0 : Nat) + (IntKind.i64.wrap ((↑len : Int) - (4 : Int)) - (0 : Int)).toNat ≤ List.length es)
    (h13 : Ret Try.prog (tyOf Try.prog) (32 : Nat)
  [D.slice true
      (List.take (IntKind.i64.wrap ((↑len : Int) - (4 : Int)) - (0 : Int)).toNat (List.drop (st + (0 : Nat)) es)) none]
  []
  (D.int IntKind.u32
    (sumE (List.take (IntKind.i64.wrap ((↑len : Int) - (4 : Int)) - (0 : Int)).toNat (List.drop (st + (0 : Nat)) es))))
  [])
    (h14 : st + (↑(IntKind.i64.wrap ((↑len : Int) - (4 : Int)) - (0 : Int)).toNat : Int).toNat +
    ((↑len : Int) - (↑(IntKind.i64.wrap ((↑len : Int) - (4 : Int)) - (0 : Int)).toNat : Int)).toNat ≤
  List.length es)
    (h15 : Ret Try.prog (tyOf Try.prog) (50 : Nat)
  [D.slice true
      (List.take ((↑len : Int) - (↑(IntKind.i64.wrap ((↑len : Int) - (4 : Int)) - (0 : Int)).toNat : Int)).toNat
        (List.drop (st + (↑(IntKind.i64.wrap ((↑len : Int) - (4 : Int)) - (0 : Int)).toNat : Int).toNat) es))
      none]
  []
  (D.int IntKind.i64
    (readE
      (List.take ((↑len : Int) - (↑(IntKind.i64.wrap ((↑len : Int) - (4 : Int)) - (0 : Int)).toNat : Int)).toNat
        (List.drop (st + (↑(IntKind.i64.wrap ((↑len : Int) - (4 : Int)) - (0 : Int)).toNat : Int).toNat) es))))
  [])
    (h16 : (0 : Int) ≤ (↑(IntKind.i64.wrap ((↑len : Int) - (4 : Int)) - (0 : Int)).toNat : Int) ∧
  (↑(IntKind.i64.wrap ((↑len : Int) - (4 : Int)) - (0 : Int)).toNat : Int) ≤ (↑len : Int) ∧
    (↑st : Int) + (↑len : Int) ≤ (↑(List.length es) : Int))
    (h17 : (0 : Int) ≤ (0 : Int) ∧
  (0 : Int) ≤ IntKind.i64.wrap ((↑len : Int) - (4 : Int)) ∧
    (↑st : Int) + IntKind.i64.wrap ((↑len : Int) - (4 : Int)) ≤ (↑(List.length es) : Int)) :
    Ret Try.prog (tyOf Try.prog) 34 [D.view (0 : Nat) st len] [some (HObj.row (1 : Nat) es)] (D.tuple [D.int IntKind.i64 (0 : Int), D.slice false [] none, D.int IntKind.i64 (4 : Int)]) [some (HObj.row (1 : Nat) es)] :=
  have b0 : mayU (↑len : Int) = true := h0
  have b1 : (readE
      (List.take ((↑len : Int) - (↑(IntKind.i64.wrap ((↑len : Int) - (4 : Int)) - (0 : Int)).toNat : Int)).toNat
        (List.drop (st + (↑(IntKind.i64.wrap ((↑len : Int) - (4 : Int)) - (0 : Int)).toNat : Int).toNat) es)) !=
    IntKind.i64.wrap
      (sumE
        (List.take (IntKind.i64.wrap ((↑len : Int) - (4 : Int)) - (0 : Int)).toNat (List.drop (st + (0 : Nat)) es)))) =
  false := (by rw [bne, Bool.not_eq_false']; exact beq_iff_eq.2 h1)
  have b2 : decide (readE (List.take (4 : Nat) (List.drop (st + (0 : Nat) + (0 : Nat)) es)) > (16384 : Int)) = true := decide_eq_true h2
  fin_call openV_fn openV_body openV_name (fin_ret (h := 1) (openV_ok sumE readE es st len) (show outF (tyOf Try.prog) (fnAt Try.prog 34) 1 (openV_run sumE readE es st len (.code (bodyAt Try.prog 34)) [] (beginE (fnAt Try.prog 34) [D.view (0 : Nat) st len] [some (HObj.row (1 : Nat) es)]) (.path [false, false, false, false, false, false, false, true, true])) = some (D.tuple [D.int IntKind.i64 (0 : Int), D.slice false [] none, D.int IntKind.i64 (4 : Int)], [some (HObj.row (1 : Nat) es)],
    [true = true,
      decide (readE (List.take (4 : Nat) (List.drop (st + (0 : Nat) + (0 : Nat)) es)) > (16384 : Int)) = true,
      (decide (readE (List.take (4 : Nat) (List.drop (st + (0 : Nat) + (0 : Nat)) es)) > (16384 : Int)) == false) = false,
      (decide (readE (List.take (4 : Nat) (List.drop (st + (0 : Nat) + (0 : Nat)) es)) > (16384 : Int)) == false) = false,
      (decide (readE (List.take (4 : Nat) (List.drop (st + (0 : Nat) + (0 : Nat)) es)) > (16384 : Int)) == false) = false,
      (decide (readE (List.take (4 : Nat) (List.drop (st + (0 : Nat) + (0 : Nat)) es)) > (16384 : Int)) == false) = false,
      (decide (readE (List.take (4 : Nat) (List.drop (st + (0 : Nat) + (0 : Nat)) es)) > (16384 : Int)) == false) = false,
      st + (0 : Nat) + (4 : Nat) + (2 : Nat) ≤ List.length es,
      FlatEs es,
      Ret Try.prog (tyOf Try.prog) (50 : Nat)
  [D.slice true (List.take (2 : Nat) (List.drop (st + (0 : Nat) + (4 : Nat)) es)) none] []
  (D.int IntKind.i64 (readE (List.take (2 : Nat) (List.drop (st + (0 : Nat) + (4 : Nat)) es)))) [],
      (0 : Int) ≤ (4 : Int) ∧ (4 : Int) ≤ (6 : Int) ∧ (↑(st + (0 : Nat)) : Int) + (6 : Int) ≤ (↑(List.length es) : Int),
      st + (0 : Nat) + (0 : Nat) + (4 : Nat) ≤ List.length es,
      FlatEs es,
      Ret Try.prog (tyOf Try.prog) (50 : Nat)
  [D.slice true (List.take (4 : Nat) (List.drop (st + (0 : Nat) + (0 : Nat)) es)) none] []
  (D.int IntKind.i64 (readE (List.take (4 : Nat) (List.drop (st + (0 : Nat) + (0 : Nat)) es)))) [],
      (0 : Int) ≤ (0 : Int) ∧ (0 : Int) ≤ (4 : Int) ∧ (↑(st + (0 : Nat)) : Int) + (4 : Int) ≤ (↑(List.length es) : Int),
      (readE
      (List.take ((↑len : Int) - (↑(IntKind.i64.wrap ((↑len : Int) - (4 : Int)) - (0 : Int)).toNat : Int)).toNat
        (List.drop (st + (↑(IntKind.i64.wrap ((↑len : Int) - (4 : Int)) - (0 : Int)).toNat : Int).toNat) es)) !=
    IntKind.i64.wrap
      (sumE
        (List.take (IntKind.i64.wrap ((↑len : Int) - (4 : Int)) - (0 : Int)).toNat (List.drop (st + (0 : Nat)) es)))) =
  false,
      st + (0 : Nat) + (IntKind.i64.wrap ((↑len : Int) - (4 : Int)) - (0 : Int)).toNat ≤ List.length es,
      FlatEs es,
      Ret Try.prog (tyOf Try.prog) (32 : Nat)
  [D.slice true
      (List.take (IntKind.i64.wrap ((↑len : Int) - (4 : Int)) - (0 : Int)).toNat (List.drop (st + (0 : Nat)) es)) none]
  []
  (D.int IntKind.u32
    (sumE (List.take (IntKind.i64.wrap ((↑len : Int) - (4 : Int)) - (0 : Int)).toNat (List.drop (st + (0 : Nat)) es))))
  [],
      st + (↑(IntKind.i64.wrap ((↑len : Int) - (4 : Int)) - (0 : Int)).toNat : Int).toNat +
    ((↑len : Int) - (↑(IntKind.i64.wrap ((↑len : Int) - (4 : Int)) - (0 : Int)).toNat : Int)).toNat ≤
  List.length es,
      FlatEs es,
      Ret Try.prog (tyOf Try.prog) (50 : Nat)
  [D.slice true
      (List.take ((↑len : Int) - (↑(IntKind.i64.wrap ((↑len : Int) - (4 : Int)) - (0 : Int)).toNat : Int)).toNat
        (List.drop (st + (↑(IntKind.i64.wrap ((↑len : Int) - (4 : Int)) - (0 : Int)).toNat : Int).toNat) es))
      none]
  []
  (D.int IntKind.i64
    (readE
      (List.take ((↑len : Int) - (↑(IntKind.i64.wrap ((↑len : Int) - (4 : Int)) - (0 : Int)).toNat : Int)).toNat
        (List.drop (st + (↑(IntKind.i64.wrap ((↑len : Int) - (4 : Int)) - (0 : Int)).toNat : Int).toNat) es))))
  [],
      (0 : Int) ≤ (↑(IntKind.i64.wrap ((↑len : Int) - (4 : Int)) - (0 : Int)).toNat : Int) ∧
  (↑(IntKind.i64.wrap ((↑len : Int) - (4 : Int)) - (0 : Int)).toNat : Int) ≤ (↑len : Int) ∧
    (↑st : Int) + (↑len : Int) ≤ (↑(List.length es) : Int),
      (0 : Int) ≤ (0 : Int) ∧
  (0 : Int) ≤ IntKind.i64.wrap ((↑len : Int) - (4 : Int)) ∧
    (↑st : Int) + IntKind.i64.wrap ((↑len : Int) - (4 : Int)) ≤ (↑(List.length es) : Int),
      (!mayU (↑len : Int)) = false,
      Ret Try.prog (tyOf Try.prog) (46 : Nat) [D.int IntKind.i64 (↑len : Int)] [] (D.bool (mayU (↑len : Int))) []]) by kernel_rfl)
    (all_cons.2 ⟨rfl, all_cons.2 ⟨h3, all_cons.2 ⟨h4, all_cons.2 ⟨h4, all_cons.2 ⟨h4, all_cons.2 ⟨h4, all_cons.2 ⟨h4, all_cons.2 ⟨h5, all_cons.2 ⟨h6, all_cons.2 ⟨h7, all_cons.2 ⟨h8, all_cons.2 ⟨h9, all_cons.2 ⟨h6, all_cons.2 ⟨h10, all_cons.2 ⟨h11, all_cons.2 ⟨b1, all_cons.2 ⟨h12, all_cons.2 ⟨h6, all_cons.2 ⟨h13, all_cons.2 ⟨h14, all_cons.2 ⟨h6, all_cons.2 ⟨h15, all_cons.2 ⟨h16, all_cons.2 ⟨h17, all_cons.2 ⟨(by rw [b0]; rfl), all_cons.2 ⟨(may46 _), all_nil.2 trivial⟩⟩⟩⟩⟩⟩⟩⟩⟩⟩⟩⟩⟩⟩⟩⟩⟩⟩⟩⟩⟩⟩⟩⟩⟩⟩))

theorem openV_in_2 {sumE : Es → Int} {readE : Es → Int} {es : Es} {st : Nat} {len : Nat}
    (h0 : mayU (↑len : Int) = true)
    (h1 : readE
  (List.take ((↑len : Int) - (↑(IntKind.i64.wrap ((↑len : Int) - (4 : Int)) - (0 : Int)).toNat : Int)).toNat
    (List.drop (st + (↑(IntKind.i64.wrap ((↑len : Int) - (4 : Int)) - (0 : Int)).toNat : Int).toNat) es)) = IntKind.i64.wrap
  (sumE (List.take (IntKind.i64.wrap ((↑len : Int) - (4 : Int)) - (0 : Int)).toNat (List.drop (st + (0 : Nat)) es))))
    (h2 : ¬ (readE (List.take (4 : Nat) (List.drop (st + (0 : Nat) + (0 : Nat)) es)) > (16384 : Int)))
    (h3 : readE (List.take (2 : Nat) (List.drop (st + (0 : Nat) + (4 : Nat)) es)) > roomU (↑len : Int))
    (h4 : decide (readE (List.take (2 : Nat) (List.drop (st + (0 : Nat) + (4 : Nat)) es)) > roomU (↑len : Int)) = true)
    (h5 : decide (readE (List.take (4 : Nat) (List.drop (st + (0 : Nat) + (0 : Nat)) es)) > (16384 : Int)) = false)
    (h6 : (decide (readE (List.take (4 : Nat) (List.drop (st + (0 : Nat) + (0 : Nat)) es)) > (16384 : Int)) == false) = true)
    (h7 : st + (0 : Nat) + (4 : Nat) + (2 : Nat) ≤ List.length es)
    (h8 : FlatEs es)
    (h9 : Ret Try.prog (tyOf Try.prog) (50 : Nat)
  [D.slice true (List.take (2 : Nat) (List.drop (st + (0 : Nat) + (4 : Nat)) es)) none] []
  (D.int IntKind.i64 (readE (List.take (2 : Nat) (List.drop (st + (0 : Nat) + (4 : Nat)) es)))) [])
    (h10 : (0 : Int) ≤ (4 : Int) ∧ (4 : Int) ≤ (6 : Int) ∧ (↑(st + (0 : Nat)) : Int) + (6 : Int) ≤ (↑(List.length es) : Int))
    (h11 : st + (0 : Nat) + (0 : Nat) + (4 : Nat) ≤ List.length es)
    (h12 : Ret Try.prog (tyOf Try.prog) (50 : Nat)
  [D.slice true (List.take (4 : Nat) (List.drop (st + (0 : Nat) + (0 : Nat)) es)) none] []
  (D.int IntKind.i64 (readE (List.take (4 : Nat) (List.drop (st + (0 : Nat) + (0 : Nat)) es)))) [])
    (h13 : (0 : Int) ≤ (0 : Int) ∧ (0 : Int) ≤ (4 : Int) ∧ (↑(st + (0 : Nat)) : Int) + (4 : Int) ≤ (↑(List.length es) : Int))
    (h14 : st + (0 : Nat) + (IntKind.i64.wrap ((↑len : Int) - (4 : Int)) - (0 : Int)).toNat ≤ List.length es)
    (h15 : Ret Try.prog (tyOf Try.prog) (32 : Nat)
  [D.slice true
      (List.take (IntKind.i64.wrap ((↑len : Int) - (4 : Int)) - (0 : Int)).toNat (List.drop (st + (0 : Nat)) es)) none]
  []
  (D.int IntKind.u32
    (sumE (List.take (IntKind.i64.wrap ((↑len : Int) - (4 : Int)) - (0 : Int)).toNat (List.drop (st + (0 : Nat)) es))))
  [])
    (h16 : st + (↑(IntKind.i64.wrap ((↑len : Int) - (4 : Int)) - (0 : Int)).toNat : Int).toNat +
    ((↑len : Int) - (↑(IntKind.i64.wrap ((↑len : Int) - (4 : Int)) - (0 : Int)).toNat : Int)).toNat ≤
  List.length es)
    (h17 : Ret Try.prog (tyOf Try.prog) (50 : Nat)
  [D.slice true
      (List.take ((↑len : Int) - (↑(IntKind.i64.wrap ((↑len : Int) - (4 : Int)) - (0 : Int)).toNat : Int)).toNat
        (List.drop (st + (↑(IntKind.i64.wrap ((↑len : Int) - (4 : Int)) - (0 : Int)).toNat : Int).toNat) es))
      none]
  []
  (D.int IntKind.i64
    (readE
      (List.take ((↑len : Int) - (↑(IntKind.i64.wrap ((↑len : Int) - (4 : Int)) - (0 : Int)).toNat : Int)).toNat
        (List.drop (st + (↑(IntKind.i64.wrap ((↑len : Int) - (4 : Int)) - (0 : Int)).toNat : Int).toNat) es))))
  [])
    (h18 : (0 : Int) ≤ (↑(IntKind.i64.wrap ((↑len : Int) - (4 : Int)) - (0 : Int)).toNat : Int) ∧
  (↑(IntKind.i64.wrap ((↑len : Int) - (4 : Int)) - (0 : Int)).toNat : Int) ≤ (↑len : Int) ∧
    (↑st : Int) + (↑len : Int) ≤ (↑(List.length es) : Int))
    (h19 : (0 : Int) ≤ (0 : Int) ∧
  (0 : Int) ≤ IntKind.i64.wrap ((↑len : Int) - (4 : Int)) ∧
    (↑st : Int) + IntKind.i64.wrap ((↑len : Int) - (4 : Int)) ≤ (↑(List.length es) : Int)) :
    Ret Try.prog (tyOf Try.prog) 34 [D.view (0 : Nat) st len] [some (HObj.row (1 : Nat) es)] (D.tuple [D.int IntKind.i64 (0 : Int), D.slice false [] none, D.int IntKind.i64 (4 : Int)]) [some (HObj.row (1 : Nat) es)] :=
  have b0 : mayU (↑len : Int) = true := h0
  have b1 : (readE
      (List.take ((↑len : Int) - (↑(IntKind.i64.wrap ((↑len : Int) - (4 : Int)) - (0 : Int)).toNat : Int)).toNat
        (List.drop (st + (↑(IntKind.i64.wrap ((↑len : Int) - (4 : Int)) - (0 : Int)).toNat : Int).toNat) es)) !=
    IntKind.i64.wrap
      (sumE
        (List.take (IntKind.i64.wrap ((↑len : Int) - (4 : Int)) - (0 : Int)).toNat (List.drop (st + (0 : Nat)) es)))) =
  false := (by rw [bne, Bool.not_eq_false']; exact beq_iff_eq.2 h1)
  have b2 : decide (readE (List.take (4 : Nat) (List.drop (st + (0 : Nat) + (0 : Nat)) es)) > (16384 : Int)) = false := decide_eq_false h2
  have b3 : decide (readE (List.take (2 : Nat) (List.drop (st + (0 : Nat) + (4 : Nat)) es)) > roomU (↑len : Int)) = true := decide_eq_true h3
  fin_call openV_fn openV_body openV_name (fin_ret (h := 1) (openV_ok sumE readE es st len) (show outF (tyOf Try.prog) (fnAt Try.prog 34) 1 (openV_run sumE readE es st len (.code (bodyAt Try.prog 34)) [] (beginE (fnAt Try.prog 34) [D.view (0 : Nat) st len] [some (HObj.row (1 : Nat) es)]) (.path [false, false, true, true, true, true, true, false, true])) = some (D.tuple [D.int IntKind.i64 (0 : Int), D.slice false [] none, D.int IntKind.i64 (4 : Int)], [some (HObj.row (1 : Nat) es)],
    [decide (readE (List.take (2 : Nat) (List.drop (st + (0 : Nat) + (4 : Nat)) es)) > roomU (↑len : Int)) = true,
      decide (readE (List.take (4 : Nat) (List.drop (st + (0 : Nat) + (0 : Nat)) es)) > (16384 : Int)) = false,
      (decide (readE (List.take (4 : Nat) (List.drop (st + (0 : Nat) + (0 : Nat)) es)) > (16384 : Int)) == false) = true,
      Ret Try.prog (tyOf Try.prog) (30 : Nat) [D.int IntKind.i64 (↑len : Int)] [] (D.int IntKind.i64 (roomU (↑len : Int))) [],
      (decide (readE (List.take (4 : Nat) (List.drop (st + (0 : Nat) + (0 : Nat)) es)) > (16384 : Int)) == false) = true,
      (decide (readE (List.take (4 : Nat) (List.drop (st + (0 : Nat) + (0 : Nat)) es)) > (16384 : Int)) == false) = true,
      (decide (readE (List.take (4 : Nat) (List.drop (st + (0 : Nat) + (0 : Nat)) es)) > (16384 : Int)) == false) = true,
      (decide (readE (List.take (4 : Nat) (List.drop (st + (0 : Nat) + (0 : Nat)) es)) > (16384 : Int)) == false) = true,
      st + (0 : Nat) + (4 : Nat) + (2 : Nat) ≤ List.length es,
      FlatEs es,
      Ret Try.prog (tyOf Try.prog) (50 : Nat)
  [D.slice true (List.take (2 : Nat) (List.drop (st + (0 : Nat) + (4 : Nat)) es)) none] []
  (D.int IntKind.i64 (readE (List.take (2 : Nat) (List.drop (st + (0 : Nat) + (4 : Nat)) es)))) [],
      (0 : Int) ≤ (4 : Int) ∧ (4 : Int) ≤ (6 : Int) ∧ (↑(st + (0 : Nat)) : Int) + (6 : Int) ≤ (↑(List.length es) : Int),
      st + (0 : Nat) + (0 : Nat) + (4 : Nat) ≤ List.length es,
      FlatEs es,
      Ret Try.prog (tyOf Try.prog) (50 : Nat)
  [D.slice true (List.take (4 : Nat) (List.drop (st + (0 : Nat) + (0 : Nat)) es)) none] []
  (D.int IntKind.i64 (readE (List.take (4 : Nat) (List.drop (st + (0 : Nat) + (0 : Nat)) es)))) [],
      (0 : Int) ≤ (0 : Int) ∧ (0 : Int) ≤ (4 : Int) ∧ (↑(st + (0 : Nat)) : Int) + (4 : Int) ≤ (↑(List.length es) : Int),
      (readE
      (List.take ((↑len : Int) - (↑(IntKind.i64.wrap ((↑len : Int) - (4 : Int)) - (0 : Int)).toNat : Int)).toNat
        (List.drop (st + (↑(IntKind.i64.wrap ((↑len : Int) - (4 : Int)) - (0 : Int)).toNat : Int).toNat) es)) !=
    IntKind.i64.wrap
      (sumE
        (List.take (IntKind.i64.wrap ((↑len : Int) - (4 : Int)) - (0 : Int)).toNat (List.drop (st + (0 : Nat)) es)))) =
  false,
      st + (0 : Nat) + (IntKind.i64.wrap ((↑len : Int) - (4 : Int)) - (0 : Int)).toNat ≤ List.length es,
      FlatEs es,
      Ret Try.prog (tyOf Try.prog) (32 : Nat)
  [D.slice true
      (List.take (IntKind.i64.wrap ((↑len : Int) - (4 : Int)) - (0 : Int)).toNat (List.drop (st + (0 : Nat)) es)) none]
  []
  (D.int IntKind.u32
    (sumE (List.take (IntKind.i64.wrap ((↑len : Int) - (4 : Int)) - (0 : Int)).toNat (List.drop (st + (0 : Nat)) es))))
  [],
      st + (↑(IntKind.i64.wrap ((↑len : Int) - (4 : Int)) - (0 : Int)).toNat : Int).toNat +
    ((↑len : Int) - (↑(IntKind.i64.wrap ((↑len : Int) - (4 : Int)) - (0 : Int)).toNat : Int)).toNat ≤
  List.length es,
      FlatEs es,
      Ret Try.prog (tyOf Try.prog) (50 : Nat)
  [D.slice true
      (List.take ((↑len : Int) - (↑(IntKind.i64.wrap ((↑len : Int) - (4 : Int)) - (0 : Int)).toNat : Int)).toNat
        (List.drop (st + (↑(IntKind.i64.wrap ((↑len : Int) - (4 : Int)) - (0 : Int)).toNat : Int).toNat) es))
      none]
  []
  (D.int IntKind.i64
    (readE
      (List.take ((↑len : Int) - (↑(IntKind.i64.wrap ((↑len : Int) - (4 : Int)) - (0 : Int)).toNat : Int)).toNat
        (List.drop (st + (↑(IntKind.i64.wrap ((↑len : Int) - (4 : Int)) - (0 : Int)).toNat : Int).toNat) es))))
  [],
      (0 : Int) ≤ (↑(IntKind.i64.wrap ((↑len : Int) - (4 : Int)) - (0 : Int)).toNat : Int) ∧
  (↑(IntKind.i64.wrap ((↑len : Int) - (4 : Int)) - (0 : Int)).toNat : Int) ≤ (↑len : Int) ∧
    (↑st : Int) + (↑len : Int) ≤ (↑(List.length es) : Int),
      (0 : Int) ≤ (0 : Int) ∧
  (0 : Int) ≤ IntKind.i64.wrap ((↑len : Int) - (4 : Int)) ∧
    (↑st : Int) + IntKind.i64.wrap ((↑len : Int) - (4 : Int)) ≤ (↑(List.length es) : Int),
      (!mayU (↑len : Int)) = false,
      Ret Try.prog (tyOf Try.prog) (46 : Nat) [D.int IntKind.i64 (↑len : Int)] [] (D.bool (mayU (↑len : Int))) []]) by kernel_rfl)
    (all_cons.2 ⟨h4, all_cons.2 ⟨h5, all_cons.2 ⟨h6, all_cons.2 ⟨(room30 _), all_cons.2 ⟨h6, all_cons.2 ⟨h6, all_cons.2 ⟨h6, all_cons.2 ⟨h6, all_cons.2 ⟨h7, all_cons.2 ⟨h8, all_cons.2 ⟨h9, all_cons.2 ⟨h10, all_cons.2 ⟨h11, all_cons.2 ⟨h8, all_cons.2 ⟨h12, all_cons.2 ⟨h13, all_cons.2 ⟨b1, all_cons.2 ⟨h14, all_cons.2 ⟨h8, all_cons.2 ⟨h15, all_cons.2 ⟨h16, all_cons.2 ⟨h8, all_cons.2 ⟨h17, all_cons.2 ⟨h18, all_cons.2 ⟨h19, all_cons.2 ⟨(by rw [b0]; rfl), all_cons.2 ⟨(may46 _), all_nil.2 trivial⟩⟩⟩⟩⟩⟩⟩⟩⟩⟩⟩⟩⟩⟩⟩⟩⟩⟩⟩⟩⟩⟩⟩⟩⟩⟩⟩))

theorem openV_in_3 {sumE : Es → Int} {readE : Es → Int} {es : Es} {st : Nat} {len : Nat}
    (h0 : mayU (↑len : Int) = true)
    (h1 : readE
  (List.take ((↑len : Int) - (↑(IntKind.i64.wrap ((↑len : Int) - (4 : Int)) - (0 : Int)).toNat : Int)).toNat
    (List.drop (st + (↑(IntKind.i64.wrap ((↑len : Int) - (4 : Int)) - (0 : Int)).toNat : Int).toNat) es)) = IntKind.i64.wrap
  (sumE (List.take (IntKind.i64.wrap ((↑len : Int) - (4 : Int)) - (0 : Int)).toNat (List.drop (st + (0 : Nat)) es))))
    (h2 : ¬ (readE (List.take (4 : Nat) (List.drop (st + (0 : Nat) + (0 : Nat)) es)) > (16384 : Int)))
    (h3 : ¬ (readE (List.take (2 : Nat) (List.drop (st + (0 : Nat) + (4 : Nat)) es)) > roomU (↑len : Int)))
    (h4 : FlatEs es)
    (h5 : Ret Try.prog (tyOf Try.prog) (51 : Nat)
  [D.view (0 : Nat) (st + (0 : Nat) + (6 : Nat))
      (IntKind.i64.wrap ((6 : Int) + readE (List.take (2 : Nat) (List.drop (st + (0 : Nat) + (4 : Nat)) es))) -
          (6 : Int)).toNat]
  [some (HObj.row (1 : Nat) es)]
  (D.slice true
    (List.take
      (IntKind.i64.wrap ((6 : Int) + readE (List.take (2 : Nat) (List.drop (st + (0 : Nat) + (4 : Nat)) es))) -
          (6 : Int)).toNat
      (List.drop (st + (0 : Nat) + (6 : Nat)) es))
    none)
  [some (HObj.row (1 : Nat) es)])
    (h6 : (0 : Int) ≤ (6 : Int) ∧
  (6 : Int) ≤ IntKind.i64.wrap ((6 : Int) + readE (List.take (2 : Nat) (List.drop (st + (0 : Nat) + (4 : Nat)) es))) ∧
    (↑(st + (0 : Nat)) : Int) +
        IntKind.i64.wrap ((6 : Int) + readE (List.take (2 : Nat) (List.drop (st + (0 : Nat) + (4 : Nat)) es))) ≤
      (↑(List.length es) : Int))
    (h7 : decide (readE (List.take (2 : Nat) (List.drop (st + (0 : Nat) + (4 : Nat)) es)) > roomU (↑len : Int)) = false)
    (h8 : decide (readE (List.take (4 : Nat) (List.drop (st + (0 : Nat) + (0 : Nat)) es)) > (16384 : Int)) = false)
    (h9 : (decide (readE (List.take (4 : Nat) (List.drop (st + (0 : Nat) + (0 : Nat)) es)) > (16384 : Int)) == false) = true)
    (h10 : st + (0 : Nat) + (4 : Nat) + (2 : Nat) ≤ List.length es)
    (h11 : Ret Try.prog (tyOf Try.prog) (50 : Nat)
  [D.slice true (List.take (2 : Nat) (List.drop (st + (0 : Nat) + (4 : Nat)) es)) none] []
  (D.int IntKind.i64 (readE (List.take (2 : Nat) (List.drop (st + (0 : Nat) + (4 : Nat)) es)))) [])
    (h12 : (0 : Int) ≤ (4 : Int) ∧ (4 : Int) ≤ (6 : Int) ∧ (↑(st + (0 : Nat)) : Int) + (6 : Int) ≤ (↑(List.length es) : Int))
    (h13 : st + (0 : Nat) + (0 : Nat) + (4 : Nat) ≤ List.length es)
    (h14 : Ret Try.prog (tyOf Try.prog) (50 : Nat)
  [D.slice true (List.take (4 : Nat) (List.drop (st + (0 : Nat) + (0 : Nat)) es)) none] []
  (D.int IntKind.i64 (readE (List.take (4 : Nat) (List.drop (st + (0 : Nat) + (0 : Nat)) es)))) [])
    (h15 : (0 : Int) ≤ (0 : Int) ∧ (0 : Int) ≤ (4 : Int) ∧ (↑(st + (0 : Nat)) : Int) + (4 : Int) ≤ (↑(List.length es) : Int))
    (h16 : st + (0 : Nat) + (IntKind.i64.wrap ((↑len : Int) - (4 : Int)) - (0 : Int)).toNat ≤ List.length es)
    (h17 : Ret Try.prog (tyOf Try.prog) (32 : Nat)
  [D.slice true
      (List.take (IntKind.i64.wrap ((↑len : Int) - (4 : Int)) - (0 : Int)).toNat (List.drop (st + (0 : Nat)) es)) none]
  []
  (D.int IntKind.u32
    (sumE (List.take (IntKind.i64.wrap ((↑len : Int) - (4 : Int)) - (0 : Int)).toNat (List.drop (st + (0 : Nat)) es))))
  [])
    (h18 : st + (↑(IntKind.i64.wrap ((↑len : Int) - (4 : Int)) - (0 : Int)).toNat : Int).toNat +
    ((↑len : Int) - (↑(IntKind.i64.wrap ((↑len : Int) - (4 : Int)) - (0 : Int)).toNat : Int)).toNat ≤
  List.length es)
    (h19 : Ret Try.prog (tyOf Try.prog) (50 : Nat)
  [D.slice true
      (List.take ((↑len : Int) - (↑(IntKind.i64.wrap ((↑len : Int) - (4 : Int)) - (0 : Int)).toNat : Int)).toNat
        (List.drop (st + (↑(IntKind.i64.wrap ((↑len : Int) - (4 : Int)) - (0 : Int)).toNat : Int).toNat) es))
      none]
  []
  (D.int IntKind.i64
    (readE
      (List.take ((↑len : Int) - (↑(IntKind.i64.wrap ((↑len : Int) - (4 : Int)) - (0 : Int)).toNat : Int)).toNat
        (List.drop (st + (↑(IntKind.i64.wrap ((↑len : Int) - (4 : Int)) - (0 : Int)).toNat : Int).toNat) es))))
  [])
    (h20 : (0 : Int) ≤ (↑(IntKind.i64.wrap ((↑len : Int) - (4 : Int)) - (0 : Int)).toNat : Int) ∧
  (↑(IntKind.i64.wrap ((↑len : Int) - (4 : Int)) - (0 : Int)).toNat : Int) ≤ (↑len : Int) ∧
    (↑st : Int) + (↑len : Int) ≤ (↑(List.length es) : Int))
    (h21 : (0 : Int) ≤ (0 : Int) ∧
  (0 : Int) ≤ IntKind.i64.wrap ((↑len : Int) - (4 : Int)) ∧
    (↑st : Int) + IntKind.i64.wrap ((↑len : Int) - (4 : Int)) ≤ (↑(List.length es) : Int)) :
    Ret Try.prog (tyOf Try.prog) 34 [D.view (0 : Nat) st len] [some (HObj.row (1 : Nat) es)] (D.tuple
  [D.int IntKind.i64
      (IntKind.i64.wrap (readE (List.take (4 : Nat) (List.drop (st + (0 : Nat) + (0 : Nat)) es)) - (1 : Int))),
    D.slice true
      (List.take
        (IntKind.i64.wrap ((6 : Int) + readE (List.take (2 : Nat) (List.drop (st + (0 : Nat) + (4 : Nat)) es))) -
            (6 : Int)).toNat
        (List.drop (st + (0 : Nat) + (6 : Nat)) es))
      none,
    D.int IntKind.i64 (0 : Int)]) [some (HObj.row (1 : Nat) es)] :=
  have b0 : mayU (↑len : Int) = true := h0
  have b1 : (readE
      (List.take ((↑len : Int) - (↑(IntKind.i64.wrap ((↑len : Int) - (4 : Int)) - (0 : Int)).toNat : Int)).toNat
        (List.drop (st + (↑(IntKind.i64.wrap ((↑len : Int) - (4 : Int)) - (0 : Int)).toNat : Int).toNat) es)) !=
    IntKind.i64.wrap
      (sumE
        (List.take (IntKind.i64.wrap ((↑len : Int) - (4 : Int)) - (0 : Int)).toNat (List.drop (st + (0 : Nat)) es)))) =
  false := (by rw [bne, Bool.not_eq_false']; exact beq_iff_eq.2 h1)
  have b2 : decide (readE (List.take (4 : Nat) (List.drop (st + (0 : Nat) + (0 : Nat)) es)) > (16384 : Int)) = false := decide_eq_false h2
  have b3 : decide (readE (List.take (2 : Nat) (List.drop (st + (0 : Nat) + (4 : Nat)) es)) > roomU (↑len : Int)) = false := decide_eq_false h3
  fin_call openV_fn openV_body openV_name (fin_ret (h := 1) (openV_ok sumE readE es st len) (show outF (tyOf Try.prog) (fnAt Try.prog 34) 1 (openV_run sumE readE es st len (.code (bodyAt Try.prog 34)) [] (beginE (fnAt Try.prog 34) [D.view (0 : Nat) st len] [some (HObj.row (1 : Nat) es)]) (.path [false, false, true, true, true, true, true, false, false])) = some (D.tuple
  [D.int IntKind.i64
      (IntKind.i64.wrap (readE (List.take (4 : Nat) (List.drop (st + (0 : Nat) + (0 : Nat)) es)) - (1 : Int))),
    D.slice true
      (List.take
        (IntKind.i64.wrap ((6 : Int) + readE (List.take (2 : Nat) (List.drop (st + (0 : Nat) + (4 : Nat)) es))) -
            (6 : Int)).toNat
        (List.drop (st + (0 : Nat) + (6 : Nat)) es))
      none,
    D.int IntKind.i64 (0 : Int)], [some (HObj.row (1 : Nat) es)],
    [FlatEs es,
      FlatEs es,
      Ret Try.prog (tyOf Try.prog) (51 : Nat)
  [D.view (0 : Nat) (st + (0 : Nat) + (6 : Nat))
      (IntKind.i64.wrap ((6 : Int) + readE (List.take (2 : Nat) (List.drop (st + (0 : Nat) + (4 : Nat)) es))) -
          (6 : Int)).toNat]
  [some (HObj.row (1 : Nat) es)]
  (D.slice true
    (List.take
      (IntKind.i64.wrap ((6 : Int) + readE (List.take (2 : Nat) (List.drop (st + (0 : Nat) + (4 : Nat)) es))) -
          (6 : Int)).toNat
      (List.drop (st + (0 : Nat) + (6 : Nat)) es))
    none)
  [some (HObj.row (1 : Nat) es)],
      (0 : Int) ≤ (6 : Int) ∧
  (6 : Int) ≤ IntKind.i64.wrap ((6 : Int) + readE (List.take (2 : Nat) (List.drop (st + (0 : Nat) + (4 : Nat)) es))) ∧
    (↑(st + (0 : Nat)) : Int) +
        IntKind.i64.wrap ((6 : Int) + readE (List.take (2 : Nat) (List.drop (st + (0 : Nat) + (4 : Nat)) es))) ≤
      (↑(List.length es) : Int),
      decide (readE (List.take (2 : Nat) (List.drop (st + (0 : Nat) + (4 : Nat)) es)) > roomU (↑len : Int)) = false,
      decide (readE (List.take (4 : Nat) (List.drop (st + (0 : Nat) + (0 : Nat)) es)) > (16384 : Int)) = false,
      (decide (readE (List.take (4 : Nat) (List.drop (st + (0 : Nat) + (0 : Nat)) es)) > (16384 : Int)) == false) = true,
      Ret Try.prog (tyOf Try.prog) (30 : Nat) [D.int IntKind.i64 (↑len : Int)] [] (D.int IntKind.i64 (roomU (↑len : Int))) [],
      (decide (readE (List.take (4 : Nat) (List.drop (st + (0 : Nat) + (0 : Nat)) es)) > (16384 : Int)) == false) = true,
      (decide (readE (List.take (4 : Nat) (List.drop (st + (0 : Nat) + (0 : Nat)) es)) > (16384 : Int)) == false) = true,
      (decide (readE (List.take (4 : Nat) (List.drop (st + (0 : Nat) + (0 : Nat)) es)) > (16384 : Int)) == false) = true,
      (decide (readE (List.take (4 : Nat) (List.drop (st + (0 : Nat) + (0 : Nat)) es)) > (16384 : Int)) == false) = true,
      st + (0 : Nat) + (4 : Nat) + (2 : Nat) ≤ List.length es,
      FlatEs es,
      Ret Try.prog (tyOf Try.prog) (50 : Nat)
  [D.slice true (List.take (2 : Nat) (List.drop (st + (0 : Nat) + (4 : Nat)) es)) none] []
  (D.int IntKind.i64 (readE (List.take (2 : Nat) (List.drop (st + (0 : Nat) + (4 : Nat)) es)))) [],
      (0 : Int) ≤ (4 : Int) ∧ (4 : Int) ≤ (6 : Int) ∧ (↑(st + (0 : Nat)) : Int) + (6 : Int) ≤ (↑(List.length es) : Int),
      st + (0 : Nat) + (0 : Nat) + (4 : Nat) ≤ List.length es,
      FlatEs es,
      Ret Try.prog (tyOf Try.prog) (50 : Nat)
  [D.slice true (List.take (4 : Nat) (List.drop (st + (0 : Nat) + (0 : Nat)) es)) none] []
  (D.int IntKind.i64 (readE (List.take (4 : Nat) (List.drop (st + (0 : Nat) + (0 : Nat)) es)))) [],
      (0 : Int) ≤ (0 : Int) ∧ (0 : Int) ≤ (4 : Int) ∧ (↑(st + (0 : Nat)) : Int) + (4 : Int) ≤ (↑(List.length es) : Int),
      (readE
      (List.take ((↑len : Int) - (↑(IntKind.i64.wrap ((↑len : Int) - (4 : Int)) - (0 : Int)).toNat : Int)).toNat
        (List.drop (st + (↑(IntKind.i64.wrap ((↑len : Int) - (4 : Int)) - (0 : Int)).toNat : Int).toNat) es)) !=
    IntKind.i64.wrap
      (sumE
        (List.take (IntKind.i64.wrap ((↑len : Int) - (4 : Int)) - (0 : Int)).toNat (List.drop (st + (0 : Nat)) es)))) =
  false,
      st + (0 : Nat) + (IntKind.i64.wrap ((↑len : Int) - (4 : Int)) - (0 : Int)).toNat ≤ List.length es,
      FlatEs es,
      Ret Try.prog (tyOf Try.prog) (32 : Nat)
  [D.slice true
      (List.take (IntKind.i64.wrap ((↑len : Int) - (4 : Int)) - (0 : Int)).toNat (List.drop (st + (0 : Nat)) es)) none]
  []
  (D.int IntKind.u32
    (sumE (List.take (IntKind.i64.wrap ((↑len : Int) - (4 : Int)) - (0 : Int)).toNat (List.drop (st + (0 : Nat)) es))))
  [],
      st + (↑(IntKind.i64.wrap ((↑len : Int) - (4 : Int)) - (0 : Int)).toNat : Int).toNat +
    ((↑len : Int) - (↑(IntKind.i64.wrap ((↑len : Int) - (4 : Int)) - (0 : Int)).toNat : Int)).toNat ≤
  List.length es,
      FlatEs es,
      Ret Try.prog (tyOf Try.prog) (50 : Nat)
  [D.slice true
      (List.take ((↑len : Int) - (↑(IntKind.i64.wrap ((↑len : Int) - (4 : Int)) - (0 : Int)).toNat : Int)).toNat
        (List.drop (st + (↑(IntKind.i64.wrap ((↑len : Int) - (4 : Int)) - (0 : Int)).toNat : Int).toNat) es))
      none]
  []
  (D.int IntKind.i64
    (readE
      (List.take ((↑len : Int) - (↑(IntKind.i64.wrap ((↑len : Int) - (4 : Int)) - (0 : Int)).toNat : Int)).toNat
        (List.drop (st + (↑(IntKind.i64.wrap ((↑len : Int) - (4 : Int)) - (0 : Int)).toNat : Int).toNat) es))))
  [],
      (0 : Int) ≤ (↑(IntKind.i64.wrap ((↑len : Int) - (4 : Int)) - (0 : Int)).toNat : Int) ∧
  (↑(IntKind.i64.wrap ((↑len : Int) - (4 : Int)) - (0 : Int)).toNat : Int) ≤ (↑len : Int) ∧
    (↑st : Int) + (↑len : Int) ≤ (↑(List.length es) : Int),
      (0 : Int) ≤ (0 : Int) ∧
  (0 : Int) ≤ IntKind.i64.wrap ((↑len : Int) - (4 : Int)) ∧
    (↑st : Int) + IntKind.i64.wrap ((↑len : Int) - (4 : Int)) ≤ (↑(List.length es) : Int),
      (!mayU (↑len : Int)) = false,
      Ret Try.prog (tyOf Try.prog) (46 : Nat) [D.int IntKind.i64 (↑len : Int)] [] (D.bool (mayU (↑len : Int))) []]) by kernel_rfl)
    (all_cons.2 ⟨h4, all_cons.2 ⟨h4, all_cons.2 ⟨h5, all_cons.2 ⟨h6, all_cons.2 ⟨h7, all_cons.2 ⟨h8, all_cons.2 ⟨h9, all_cons.2 ⟨(room30 _), all_cons.2 ⟨h9, all_cons.2 ⟨h9, all_cons.2 ⟨h9, all_cons.2 ⟨h9, all_cons.2 ⟨h10, all_cons.2 ⟨h4, all_cons.2 ⟨h11, all_cons.2 ⟨h12, all_cons.2 ⟨h13, all_cons.2 ⟨h4, all_cons.2 ⟨h14, all_cons.2 ⟨h15, all_cons.2 ⟨b1, all_cons.2 ⟨h16, all_cons.2 ⟨h4, all_cons.2 ⟨h17, all_cons.2 ⟨h18, all_cons.2 ⟨h4, all_cons.2 ⟨h19, all_cons.2 ⟨h20, all_cons.2 ⟨h21, all_cons.2 ⟨(by rw [b0]; rfl), all_cons.2 ⟨(may46 _), all_nil.2 trivial⟩⟩⟩⟩⟩⟩⟩⟩⟩⟩⟩⟩⟩⟩⟩⟩⟩⟩⟩⟩⟩⟩⟩⟩⟩⟩⟩⟩⟩⟩⟩))

theorem openV_in_4 {sumE : Es → Int} {readE : Es → Int} {es : Es} {st : Nat} {len : Nat}
    (h0 : mayU (↑len : Int) = false) :
    Ret Try.prog (tyOf Try.prog) 34 [D.view (0 : Nat) st len] [some (HObj.row (1 : Nat) es)] (D.tuple [D.int IntKind.i64 (0 : Int), D.slice false [] none, D.int IntKind.i64 (1 : Int)]) [some (HObj.row (1 : Nat) es)] :=
  have b0 : mayU (↑len : Int) = false := h0
  fin_call openV_fn openV_body openV_name (fin_ret (h := 1) (openV_ok sumE readE es st len) (show outF (tyOf Try.prog) (fnAt Try.prog 34) 1 (openV_run sumE readE es st len (.code (bodyAt Try.prog 34)) [] (beginE (fnAt Try.prog 34) [D.view (0 : Nat) st len] [some (HObj.row (1 : Nat) es)]) (.path [true])) = some (D.tuple [D.int IntKind.i64 (0 : Int), D.slice false [] none, D.int IntKind.i64 (1 : Int)], [some (HObj.row (1 : Nat) es)],
    [(!mayU (↑len : Int)) = true,
      Ret Try.prog (tyOf Try.prog) (46 : Nat) [D.int IntKind.i64 (↑len : Int)] [] (D.bool (mayU (↑len : Int))) []]) by kernel_rfl)
    (all_cons.2 ⟨(by rw [b0]; rfl), all_cons.2 ⟨(may46 _), all_nil.2 trivial⟩⟩))




/-- Close hands back the page. -/
theorem closeV28 (p : Nat) (next : Int) (l' l : List Int) (len : Nat) (hlen : len ≤ l'.length) (hll : l'.take len = l) (hl5 : l.length ≤ 5000) (hm : mayU p = true) (h1 : ¬ next < -1) (h2 : ¬ next ≥ 16384) (h3 : l.length ≤ p - 10) :
    Ret P T 28 [.int .i64 p, .int .i64 next, .view 0 0 len] [some (.row 1 (rows l'))] (.tuple [.view 1 0 p, .int .i64 0]) [some (.row 1 (rows l')), some (.row 1 (rows (pageU p next l)))] := by
  have hle := mayU_le hm
  have hrm := roomU_may hm
  have hrl : (rows l).length = l.length := rows_len l
  have hll2 : len = l.length := by rw [← hll, List.length_take]; omega
  have w1 : IntKind.i64.wrap (next + 1) = next + 1 := wrap_i64 (by omega)
  have w4 : IntKind.i64.wrap ((p : Int) - 4) = ((p - 4 : Nat) : Int) := by rw [wrap_i64 (by omega)]; omega
  have hX1 : layC (rows (List.replicate p 0)) 0 4 (next + 1) = rows (nums (next + 1) 4 ++ List.replicate (p - 4) 0) := by
    rw [layC_rows]; simp
  have hX2 : layC (rows (nums (next + 1) 4 ++ List.replicate (p - 4) 0)) 4 2 (l.length : Int) = rows (nums (next + 1) 4 ++ nums l.length 2 ++ List.replicate (p - 6) 0) := by
    rw [layC_rows]
    congr 1
    rw [List.take_append_of_le_length (by simp [nums_len]), List.take_of_length_le (by simp [nums_len]), List.drop_append, nums_len, List.drop_of_length_le (by rw [nums_len]; omega)]
    simp
    omega
  have len6 : (nums (next + 1) 4 ++ nums l.length 2).length = 6 := by simp [nums_len]
  have hX3 : (nums (next + 1) 4 ++ nums l.length 2 ++ List.replicate (p - 6) 0).take 6 ++ l.take (p - 6) ++ (nums (next + 1) 4 ++ nums l.length 2 ++ List.replicate (p - 6) 0).drop (6 + min l.length (p - 6)) =
      nums (next + 1) 4 ++ nums l.length 2 ++ l ++ List.replicate (p - 6 - l.length) 0 := by
    rw [List.take_append_of_le_length (by omega), List.take_of_length_le (by omega), List.take_of_length_le (l := l) (by omega), List.drop_append, len6, List.drop_of_length_le (by omega), Nat.min_eq_left (by omega)]
    simp
  have hB : (nums (next + 1) 4 ++ nums l.length 2 ++ l ++ List.replicate (p - 6 - l.length) 0).take (p - 4) = bodyU p next l := by
    rw [List.take_append, List.take_of_length_le (by simp [nums_len]; omega)]
    unfold bodyU
    simp [nums_len]
    omega
  have hX4 : layC (rows (nums (next + 1) 4 ++ nums l.length 2 ++ l ++ List.replicate (p - 6 - l.length) 0)) (p - 4) 4 (IntKind.i64.wrap (sumU (bodyU p next l))) = rows (pageU p next l) := by
    rw [layC_rows, hB, List.drop_of_length_le (by simp [nums_len]; omega), List.append_nil]
    rfl
  have hll' : l'.take l.length = l := by rw [← hll2]; exact hll
  have e := @closeV_in_3 layC (fun es => sumU (bytesD es)) p next (rows l') 0 len
  have t6 : ((p : Int) - 6).toNat = p - 6 := by omega
  have t4 : ((p : Int) - ((p - 4 : Nat) : Int)).toNat = 4 := by omega
  simp only [hrl, hll2, List.drop_zero, rows_take, hll', w1, w4, hrm, Int.toNat_natCast, Int.sub_zero, rows_rep, hX1, hX2, hX3, t6, t4, ← rows_app, rows_take, rows_drop, List.drop_zero, bytes_rows, rows_len, hB, Nat.zero_add, hX4, rows_one] at e
  have s1 := lay_step (l := List.replicate p 0) (st := 0) (len := 4) (n := next + 1) (by omega) (by simp; omega)
  have s2 := lay_step (l := nums (next + 1) 4 ++ List.replicate (p - 4) 0) (st := 4) (len := 2) (n := l.length) (by omega) (by simp [nums_len]; omega)
  have s3 := lay_step (l := nums (next + 1) 4 ++ nums l.length 2 ++ l ++ List.replicate (p - 6 - l.length) 0) (st := p - 4) (len := 4) (n := IntKind.i64.wrap (sumU (bodyU p next l))) (by omega) (by simp [nums_len]; omega)
  rw [hX1] at s1
  rw [hX2] at s2
  rw [hX4] at s3
  have rs := sumR true (bodyU p next l) (by rw [bodyU_len h3 (by omega)]; omega)
  rw [hll2]
  apply e
  all_goals first | assumption | (rw [hll2]; exact flat_rows _) | exact flat_rows _ | omega | (simp [nums_len]; omega) | simp [*]



def okC (p nx : Int) (n : Nat) : Bool := mayU p && (!decide (nx < -1) && (!decide (nx ≥ 16384) && !decide ((n : Int) > roomU p)))
def pageR (p nx : Int) (es : Es) : Es := bif okC p nx es.length then rows (pageU p.toNat nx (bytesD es)) else []
def errC (p nx : Int) (n : Nat) : Int := bif okC p nx n then 0 else 1
theorem okC_iff {p nx : Int} {n : Nat} : okC p nx n = true ↔ mayU p = true ∧ ¬ nx < -1 ∧ ¬ nx ≥ 16384 ∧ ¬ (n : Int) > roomU p := by
  simp [okC]
theorem refs_rows (l : List Int) (p : Nat → Bool) : (rows l).all (refsAll p) = true := List.all_eq_true.2 fun c hc => flat_refs.2 (flat_rows l c hc)

theorem closeAll (p nx : Int) (xb : Bool) (l : List Int) :
    Ret P T 28 [.int .i64 p, .int .i64 nx, .slice xb (rows l) none] [] (.tuple [.slice (okC p nx (rows l).length) (pageR p nx (rows l)) none, .int .i64 (errC p nx (rows l).length)]) [] := by
  unfold pageR errC
  rw [rows_len, bytes_rows]
  cases h : okC p nx l.length with
  | true =>
    obtain ⟨h1, h2, h3, h4⟩ := okC_iff.1 h
    have hle := mayU_le h1
    obtain ⟨q, rfl⟩ : ∃ q : Nat, p = q := ⟨p.toNat, by omega⟩
    rw [roomU_may h1] at h4
    rw [Int.toNat_natCast]
    exact close28' q nx xb l h1 h2 h3 (by omega)
  | false => exact close28_bad p nx xb l (fun hk => by rw [okC_iff.2 hk] at h; cases h)

theorem closeAllV (p nx : Int) (l' : List Int) (len : Nat) (hlen : len ≤ l'.length) :
    Ret P T 28 [.int .i64 p, .int .i64 nx, .view 0 0 len] [some (.row 1 (rows l'))] (.tuple [.slice (okC p nx len) (pageR p nx (rows (l'.take len))) none, .int .i64 (errC p nx len)]) [some (.row 1 (rows l'))] := by
  have hl : (l'.take len).length = len := by rw [List.length_take]; omega
  unfold pageR errC
  rw [rows_len, bytes_rows, hl]
  cases h : okC p nx len with
  | true =>
    obtain ⟨h1, h2, h3, h4⟩ := okC_iff.1 h
    have hle := mayU_le h1
    obtain ⟨q, rfl⟩ : ∃ q : Nat, p = q := ⟨p.toNat, by omega⟩
    rw [roomU_may h1] at h4
    rw [Int.toNat_natCast]
    have hp := pageU_len (p := q) (next := nx) (l := l'.take len) (by omega) (by omega)
    have g := closeV28 q nx l' (l'.take len) len hlen rfl (by omega) h1 h2 h3 (by omega)
    have := g.cut (F := fun _ => true) (r' := .tuple [.slice true (((rows (pageU q nx (l'.take len))).drop 0).take q) none, .int .i64 0]) (by simp) (by simp [objRefs, refs_rows]) rfl (by
      simp only [List.append_nil, all_cons, all_nil]
      exact ⟨by rw [rows_len, hp]; omega, flat_rows _, trivial⟩)
    rw [List.drop_zero, List.take_of_length_le (by rw [rows_len, hp]; omega)] at this
    exact this
  | false =>
    have hk : ¬ (mayU p = true ∧ ¬ nx < -1 ∧ ¬ nx ≥ 16384 ∧ ¬ (len : Int) > roomU p) := fun hk => by rw [okC_iff.2 hk] at h; cases h
    cases h0 : mayU p with
    | false => exact @closeV_in_4 layC (fun _ => 0) p nx (rows l') 0 len h0
    | true =>
      by_cases h1 : nx < -1
      · exact @closeV_in_0 layC (fun _ => 0) p nx (rows l') 0 len h0 h1
      · by_cases h2 : nx ≥ 16384
        · exact @closeV_in_1 layC (fun _ => 0) p nx (rows l') 0 len h0 h1 h2
        · by_cases h3 : (len : Int) > roomU p
          · exact @closeV_in_2 layC (fun _ => 0) p nx (rows l') 0 len h0 h1 h2 h3
          · exact absurd ⟨h0, h1, h2, h3⟩ hk

end Go.Proofs.Ytifpbdhggooelaa.sealk
