/- Pages: closing and opening, the program's and the reference's: roads. -/
import Derived.Test.YtifpbdhggooelaaSealA
namespace Go.Proofs.Ytifpbdhggooelaa.sealk
open Go Ytifpbdhggooelaa.GD
set_option linter.unusedVariables false
set_option linter.unusedSimpArgs false
set_option maxRecDepth 100000

def roomU (p : Int) : Int := if mayU p = true then IntKind.i64.wrap (p - 10) else 0
def bytesD (es : Es) : List Int := es.map fun r => match r with | [.int .u8 n] => n | _ => 0
theorem bytes_rows (l : List Int) : bytesD (rows l) = l := by
  unfold bytesD rows
  rw [List.map_map]
  exact List.map_id' l
variable (layE : Es → Nat → Nat → Int → Es) (numE : Int → Int → Es) (sumE : Es → Int) (readE : Es → Int) (getE : Es → Int → Int → Int)
def tab : Tab := fun k args H =>
  match k with
  | 46 => match args, H with | [.int .i64 p], [] => some (.bool (mayU p), []) | _, _ => none
  | 48 => match args, H with | [.int .i64 p], [] => some (.bool (mayU p), []) | _, _ => none
  | 30 => match args, H with | [.int .i64 p], [] => some (.int .i64 (roomU p), []) | _, _ => none
  | 31 => match args, H with | [.int .i64 p], [] => some (.int .i64 (roomU p), []) | _, _ => none
  | 32 => match args, H with | [.slice _ es none], [] => some (.int .u32 (sumE es), []) | _, _ => none
  | 33 => match args, H with | [.slice _ es none], [] => some (.int .u32 (sumE es), []) | _, _ => none
  | 47 => match args, H with | [.view 0 st len, .int .i64 n], [some (.row 1 es)] => some (.tuple [], [some (.row 1 (layE es st len n))]) | _, _ => none
  | 49 => match args, H with | [.int .i64 n, .int .i64 w], [] => some (.slice true (numE n w) (some 0), [some (.tok w.toNat 1)]) | _, _ => none
  | 50 => match args, H with | [.slice _ es none], [] => some (.int .i64 (readE es), []) | _, _ => none
  | 51 => match args, H with | [.slice xb es none], [] => some (.slice xb es none, []) | _, _ => none
  | 52 => match args, H with | [.slice _ es none, .int .i64 a, .int .i64 w], [] => some (.int .i64 (getE es a w), []) | _, _ => none
  | _ => none
def ttB (p : Int) : Tab := tab (fun _ _ _ _ => []) (fun _ _ => []) (fun _ => 0) (fun _ => 0) (fun _ _ _ => 0)
noncomputable def aClose (layE : Es → Nat → Nat → Int → Es) (numE : Int → Int → Es) (sumE : Es → Int) (readE : Es → Int) (getE : Es → Int → Int → Int) (page next : Int) (xb : Bool) (eb : Es) : List D × GD.Heap := ([.int .i64 page, .int .i64 next, .slice xb eb none], [])
noncomputable def tClose (layE : Es → Nat → Nat → Int → Es) (numE : Int → Int → Es) (sumE : Es → Int) (readE : Es → Int) (getE : Es → Int → Int → Int) (page next : Int) (xb : Bool) (eb : Es) : Tab := tab layE numE sumE readE getE
noncomputable def aOpen (layE : Es → Nat → Nat → Int → Es) (numE : Int → Int → Es) (sumE : Es → Int) (readE : Es → Int) (getE : Es → Int → Int → Int) (xb : Bool) (es : Es) : List D × GD.Heap := ([.slice xb es none], [])
noncomputable def tOpen (layE : Es → Nat → Nat → Int → Es) (numE : Int → Int → Es) (sumE : Es → Int) (readE : Es → Int) (getE : Es → Int → Int → Int) (xb : Bool) (es : Es) : Tab := tab layE numE sumE readE getE

/-! ### function 30 -/
theorem room_fn : Try.prog.funcs[(30 : Nat)]? = some (fnAt Try.prog 30) := by kernel_rfl
theorem room_body : (fnAt Try.prog 30).body = some (bodyAt Try.prog 30) := by kernel_rfl
theorem room_name : ((fnAt Try.prog 30).name == "runtime.NumGoroutine") = false := by kernel_rfl
noncomputable def room_C (p : Int) : Cf := cfg Try.prog (hintOf []) (ttB p) (fun _ => false) 2 true (fun _ => false)
theorem room_ok (p : Int) : CfOk (room_C p) := cfg_ok (by kernel_rfl)
noncomputable def room_run (p : Int) (cur : Cur) (k : List It) (s : St) (or : GD.Or) := runE (room_C p) (callE (room_C p) 100000 10) 30 100000 cur k s or []

theorem room_in_0 {p : Int}
    (h0 : mayU p = true) :
    Ret Try.prog (tyOf Try.prog) 30 [D.int IntKind.i64 p] [] (D.int IntKind.i64 (IntKind.i64.wrap (p - (10 : Int)))) [] :=
  have b0 : mayU p = true := h0
  fin_call room_fn room_body room_name (fin_ret (h := 0) (room_ok p) (show outF (tyOf Try.prog) (fnAt Try.prog 30) 0 (room_run p (.code (bodyAt Try.prog 30)) [] (beginE (fnAt Try.prog 30) [D.int IntKind.i64 p] []) (.path [false])) = some (D.int IntKind.i64 (IntKind.i64.wrap (p - (10 : Int))), [],
    [(!mayU p) = false,
      Ret Try.prog (tyOf Try.prog) (46 : Nat) [D.int IntKind.i64 p] [] (D.bool (mayU p)) []]) by kernel_rfl)
    (all_cons.2 ⟨(by rw [b0]; rfl), all_cons.2 ⟨(may46 _), all_nil.2 trivial⟩⟩))

theorem room_in_1 {p : Int}
    (h0 : mayU p = false) :
    Ret Try.prog (tyOf Try.prog) 30 [D.int IntKind.i64 p] [] (D.int IntKind.i64 (0 : Int)) [] :=
  have b0 : mayU p = false := h0
  fin_call room_fn room_body room_name (fin_ret (h := 0) (room_ok p) (show outF (tyOf Try.prog) (fnAt Try.prog 30) 0 (room_run p (.code (bodyAt Try.prog 30)) [] (beginE (fnAt Try.prog 30) [D.int IntKind.i64 p] []) (.path [true])) = some (D.int IntKind.i64 (0 : Int), [],
    [(!mayU p) = true,
      Ret Try.prog (tyOf Try.prog) (46 : Nat) [D.int IntKind.i64 p] [] (D.bool (mayU p)) []]) by kernel_rfl)
    (all_cons.2 ⟨(by rw [b0]; rfl), all_cons.2 ⟨(may46 _), all_nil.2 trivial⟩⟩))


/-! ### function 31 -/
theorem roomR_fn : Try.prog.funcs[(31 : Nat)]? = some (fnAt Try.prog 31) := by kernel_rfl
theorem roomR_body : (fnAt Try.prog 31).body = some (bodyAt Try.prog 31) := by kernel_rfl
theorem roomR_name : ((fnAt Try.prog 31).name == "runtime.NumGoroutine") = false := by kernel_rfl
noncomputable def roomR_C (p : Int) : Cf := cfg Try.prog (hintOf []) (ttB p) (fun _ => false) 2 true (fun _ => false)
theorem roomR_ok (p : Int) : CfOk (roomR_C p) := cfg_ok (by kernel_rfl)
noncomputable def roomR_run (p : Int) (cur : Cur) (k : List It) (s : St) (or : GD.Or) := runE (roomR_C p) (callE (roomR_C p) 100000 10) 31 100000 cur k s or []

theorem roomR_in_0 {p : Int}
    (h0 : mayU p = true) :
    Ret Try.prog (tyOf Try.prog) 31 [D.int IntKind.i64 p] [] (D.int IntKind.i64 (IntKind.i64.wrap (p - (10 : Int)))) [] :=
  have b0 : mayU p = true := h0
  fin_call roomR_fn roomR_body roomR_name (fin_ret (h := 0) (roomR_ok p) (show outF (tyOf Try.prog) (fnAt Try.prog 31) 0 (roomR_run p (.code (bodyAt Try.prog 31)) [] (beginE (fnAt Try.prog 31) [D.int IntKind.i64 p] []) (.path [false])) = some (D.int IntKind.i64 (IntKind.i64.wrap (p - (10 : Int))), [],
    [(!mayU p) = false,
      Ret Try.prog (tyOf Try.prog) (48 : Nat) [D.int IntKind.i64 p] [] (D.bool (mayU p)) []]) by kernel_rfl)
    (all_cons.2 ⟨(by rw [b0]; rfl), all_cons.2 ⟨(may48 _), all_nil.2 trivial⟩⟩))

theorem roomR_in_1 {p : Int}
    (h0 : mayU p = false) :
    Ret Try.prog (tyOf Try.prog) 31 [D.int IntKind.i64 p] [] (D.int IntKind.i64 (0 : Int)) [] :=
  have b0 : mayU p = false := h0
  fin_call roomR_fn roomR_body roomR_name (fin_ret (h := 0) (roomR_ok p) (show outF (tyOf Try.prog) (fnAt Try.prog 31) 0 (roomR_run p (.code (bodyAt Try.prog 31)) [] (beginE (fnAt Try.prog 31) [D.int IntKind.i64 p] []) (.path [true])) = some (D.int IntKind.i64 (0 : Int), [],
    [(!mayU p) = true,
      Ret Try.prog (tyOf Try.prog) (48 : Nat) [D.int IntKind.i64 p] [] (D.bool (mayU p)) []]) by kernel_rfl)
    (all_cons.2 ⟨(by rw [b0]; rfl), all_cons.2 ⟨(may48 _), all_nil.2 trivial⟩⟩))


theorem room30 (p : Int) : Ret P T 30 [.int .i64 p] [] (.int .i64 (roomU p)) [] := by
  unfold roomU
  cases h : mayU p with
  | true => exact room_in_0 h
  | false => exact room_in_1 h
theorem room31 (p : Int) : Ret P T 31 [.int .i64 p] [] (.int .i64 (roomU p)) [] := by
  unfold roomU
  cases h : mayU p with
  | true => exact roomR_in_0 h
  | false => exact roomR_in_1 h

/-! ### function 28 -/
theorem close_fn : Try.prog.funcs[(28 : Nat)]? = some (fnAt Try.prog 28) := by kernel_rfl
theorem close_body : (fnAt Try.prog 28).body = some (bodyAt Try.prog 28) := by kernel_rfl
theorem close_name : ((fnAt Try.prog 28).name == "runtime.NumGoroutine") = false := by kernel_rfl
noncomputable def close_C (layE : Es → Nat → Nat → Int → Es) (numE : Int → Int → Es) (sumE : Es → Int) (readE : Es → Int) (getE : Es → Int → Int → Int) (page : Int) (next : Int) (xb : Bool) (eb : Es) : Cf := cfg Try.prog (hintOf []) (tClose layE numE sumE readE getE page next xb eb) (fun g => match g with | 32 => true | _ => false) 2 true (fun z => Nat.beq 1 z)
theorem close_ok (layE : Es → Nat → Nat → Int → Es) (numE : Int → Int → Es) (sumE : Es → Int) (readE : Es → Int) (getE : Es → Int → Int → Int) (page : Int) (next : Int) (xb : Bool) (eb : Es) : CfOk (close_C layE numE sumE readE getE page next xb eb) := cfg_ok (by kernel_rfl)
noncomputable def close_run (layE : Es → Nat → Nat → Int → Es) (numE : Int → Int → Es) (sumE : Es → Int) (readE : Es → Int) (getE : Es → Int → Int → Int) (page : Int) (next : Int) (xb : Bool) (eb : Es) (cur : Cur) (k : List It) (s : St) (or : GD.Or) := runE (close_C layE numE sumE readE getE page next xb eb) (callE (close_C layE numE sumE readE getE page next xb eb) 100000 10) 28 100000 cur k s or []

theorem close_in_0 {layE : Es → Nat → Nat → Int → Es} {numE : Int → Int → Es} {sumE : Es → Int} {readE : Es → Int} {getE : Es → Int → Int → Int} {page : Int} {next : Int} {xb : Bool} {eb : Es}
    (h0 : mayU page = true)
    (h1 : next < (-1 : Int)) :
    Ret Try.prog (tyOf Try.prog) 28 [D.int IntKind.i64 page, D.int IntKind.i64 next, D.slice xb eb none] [] (D.tuple [D.slice false [] none, D.int IntKind.i64 (1 : Int)]) [] :=
  have b0 : mayU page = true := h0
  have b1 : decide (next < (-1 : Int)) = true := decide_eq_true h1
  fin_call close_fn close_body close_name (fin_ret (h := 0) (close_ok layE numE sumE readE getE page next xb eb) (show outF (tyOf Try.prog) (fnAt Try.prog 28) 0 (close_run layE numE sumE readE getE page next xb eb (.code (bodyAt Try.prog 28)) [] (beginE (fnAt Try.prog 28) [D.int IntKind.i64 page, D.int IntKind.i64 next, D.slice xb eb none] []) (.path [true, true, false, false, false, true, false, false, false, false, false, true, true])) = some (D.tuple [D.slice false [] none, D.int IntKind.i64 (1 : Int)], [],
    [true = true,
      true = true,
      false = false,
      false = false,
      false = false,
      false = false,
      false = false,
      decide (next < (-1 : Int)) = true,
      (decide (next < (-1 : Int)) == false) = false,
      (decide (next < (-1 : Int)) == false) = false,
      (!mayU page) = false,
      ((!mayU page) == false) = true,
      ((!mayU page) == false) = true,
      Ret Try.prog (tyOf Try.prog) (46 : Nat) [D.int IntKind.i64 page] [] (D.bool (mayU page)) []]) by kernel_rfl)
    (all_cons.2 ⟨rfl, all_cons.2 ⟨rfl, all_cons.2 ⟨rfl, all_cons.2 ⟨rfl, all_cons.2 ⟨rfl, all_cons.2 ⟨rfl, all_cons.2 ⟨rfl, all_cons.2 ⟨b1, all_cons.2 ⟨(by rw [b1]; rfl), all_cons.2 ⟨(by rw [b1]; rfl), all_cons.2 ⟨(by rw [b0]; rfl), all_cons.2 ⟨(by rw [b0]; rfl), all_cons.2 ⟨(by rw [b0]; rfl), all_cons.2 ⟨(may46 _), all_nil.2 trivial⟩⟩⟩⟩⟩⟩⟩⟩⟩⟩⟩⟩⟩⟩))

theorem close_in_1 {layE : Es → Nat → Nat → Int → Es} {numE : Int → Int → Es} {sumE : Es → Int} {readE : Es → Int} {getE : Es → Int → Int → Int} {page : Int} {next : Int} {xb : Bool} {eb : Es}
    (h0 : mayU page = true)
    (h1 : ¬ (next < (-1 : Int)))
    (h2 : next ≥ (16384 : Int)) :
    Ret Try.prog (tyOf Try.prog) 28 [D.int IntKind.i64 page, D.int IntKind.i64 next, D.slice xb eb none] [] (D.tuple [D.slice false [] none, D.int IntKind.i64 (1 : Int)]) [] :=
  have b0 : mayU page = true := h0
  have b1 : decide (next < (-1 : Int)) = false := decide_eq_false h1
  have b2 : decide (next ≥ (16384 : Int)) = true := decide_eq_true h2
  fin_call close_fn close_body close_name (fin_ret (h := 0) (close_ok layE numE sumE readE getE page next xb eb) (show outF (tyOf Try.prog) (fnAt Try.prog 28) 0 (close_run layE numE sumE readE getE page next xb eb (.code (bodyAt Try.prog 28)) [] (beginE (fnAt Try.prog 28) [D.int IntKind.i64 page, D.int IntKind.i64 next, D.slice xb eb none] []) (.path [true, true, false, true, true, false, false, false, false, false, false, true, true])) = some (D.tuple [D.slice false [] none, D.int IntKind.i64 (1 : Int)], [],
    [true = true,
      decide (next ≥ (16384 : Int)) = true,
      (decide (next ≥ (16384 : Int)) == false) = false,
      (decide (next ≥ (16384 : Int)) == false) = false,
      (decide (next ≥ (16384 : Int)) == false) = false,
      (decide (next ≥ (16384 : Int)) == false) = false,
      (decide (next ≥ (16384 : Int)) == false) = false,
      decide (next < (-1 : Int)) = false,
      (decide (next < (-1 : Int)) == false) = true,
      (decide (next < (-1 : Int)) == false) = true,
      (!mayU page) = false,
      ((!mayU page) == false) = true,
      ((!mayU page) == false) = true,
      Ret Try.prog (tyOf Try.prog) (46 : Nat) [D.int IntKind.i64 page] [] (D.bool (mayU page)) []]) by kernel_rfl)
    (all_cons.2 ⟨rfl, all_cons.2 ⟨b2, all_cons.2 ⟨(by rw [b2]; rfl), all_cons.2 ⟨(by rw [b2]; rfl), all_cons.2 ⟨(by rw [b2]; rfl), all_cons.2 ⟨(by rw [b2]; rfl), all_cons.2 ⟨(by rw [b2]; rfl), all_cons.2 ⟨b1, all_cons.2 ⟨(by rw [b1]; rfl), all_cons.2 ⟨(by rw [b1]; rfl), all_cons.2 ⟨(by rw [b0]; rfl), all_cons.2 ⟨(by rw [b0]; rfl), all_cons.2 ⟨(by rw [b0]; rfl), all_cons.2 ⟨(may46 _), all_nil.2 trivial⟩⟩⟩⟩⟩⟩⟩⟩⟩⟩⟩⟩⟩⟩))

theorem close_in_2 {layE : Es → Nat → Nat → Int → Es} {numE : Int → Int → Es} {sumE : Es → Int} {readE : Es → Int} {getE : Es → Int → Int → Int} {page : Int} {next : Int} {xb : Bool} {eb : Es}
    (h0 : mayU page = true)
    (h1 : ¬ (next < (-1 : Int)))
    (h2 : ¬ (next ≥ (16384 : Int)))
    (h3 : (↑(List.length eb) : Int) > roomU page) :
    Ret Try.prog (tyOf Try.prog) 28 [D.int IntKind.i64 page, D.int IntKind.i64 next, D.slice xb eb none] [] (D.tuple [D.slice false [] none, D.int IntKind.i64 (1 : Int)]) [] :=
  have b0 : mayU page = true := h0
  have b1 : decide (next < (-1 : Int)) = false := decide_eq_false h1
  have b2 : decide (next ≥ (16384 : Int)) = false := decide_eq_false h2
  have b3 : decide ((↑(List.length eb) : Int) > roomU page) = true := decide_eq_true h3
  fin_call close_fn close_body close_name (fin_ret (h := 0) (close_ok layE numE sumE readE getE page next xb eb) (show outF (tyOf Try.prog) (fnAt Try.prog 28) 0 (close_run layE numE sumE readE getE page next xb eb (.code (bodyAt Try.prog 28)) [] (beginE (fnAt Try.prog 28) [D.int IntKind.i64 page, D.int IntKind.i64 next, D.slice xb eb none] []) (.path [true, true, false, true, true, false, true, true, true, true, true, false, true])) = some (D.tuple [D.slice false [] none, D.int IntKind.i64 (1 : Int)], [],
    [decide ((↑(List.length eb) : Int) > roomU page) = true,
      decide (next ≥ (16384 : Int)) = false,
      (decide (next ≥ (16384 : Int)) == false) = true,
      Ret Try.prog (tyOf Try.prog) (30 : Nat) [D.int IntKind.i64 page] [] (D.int IntKind.i64 (roomU page)) [],
      (decide (next ≥ (16384 : Int)) == false) = true,
      (decide (next ≥ (16384 : Int)) == false) = true,
      (decide (next ≥ (16384 : Int)) == false) = true,
      (decide (next ≥ (16384 : Int)) == false) = true,
      decide (next < (-1 : Int)) = false,
      (decide (next < (-1 : Int)) == false) = true,
      (decide (next < (-1 : Int)) == false) = true,
      (!mayU page) = false,
      ((!mayU page) == false) = true,
      ((!mayU page) == false) = true,
      Ret Try.prog (tyOf Try.prog) (46 : Nat) [D.int IntKind.i64 page] [] (D.bool (mayU page)) []]) by kernel_rfl)
    (all_cons.2 ⟨b3, all_cons.2 ⟨b2, all_cons.2 ⟨(by rw [b2]; rfl), all_cons.2 ⟨(room30 _), all_cons.2 ⟨(by rw [b2]; rfl), all_cons.2 ⟨(by rw [b2]; rfl), all_cons.2 ⟨(by rw [b2]; rfl), all_cons.2 ⟨(by rw [b2]; rfl), all_cons.2 ⟨b1, all_cons.2 ⟨(by rw [b1]; rfl), all_cons.2 ⟨(by rw [b1]; rfl), all_cons.2 ⟨(by rw [b0]; rfl), all_cons.2 ⟨(by rw [b0]; rfl), all_cons.2 ⟨(by rw [b0]; rfl), all_cons.2 ⟨(may46 _), all_nil.2 trivial⟩⟩⟩⟩⟩⟩⟩⟩⟩⟩⟩⟩⟩⟩⟩))

theorem close_in_3 {layE : Es → Nat → Nat → Int → Es} {numE : Int → Int → Es} {sumE : Es → Int} {readE : Es → Int} {getE : Es → Int → Int → Int} {page : Int} {next : Int} {xb : Bool} {eb : Es}
    (h0 : mayU page = true)
    (h1 : ¬ (next < (-1 : Int)))
    (h2 : ¬ (next ≥ (16384 : Int)))
    (h3 : ¬ ((↑(List.length eb) : Int) > roomU page))
    (h4 : FlatEs
  (List.take (6 : Nat)
        (layE
          (layE (List.replicate page.toNat [D.int IntKind.u8 (0 : Int)]) (0 : Nat) (4 : Nat)
            (IntKind.i64.wrap (next + (1 : Int))))
          (4 : Nat) (2 : Nat) (↑(List.length eb) : Int)) ++
      List.take ((↑page.toNat : Int) - (6 : Int)).toNat eb ++
    List.drop ((6 : Nat) + min (List.length eb) ((↑page.toNat : Int) - (6 : Int)).toNat)
      (layE
        (layE (List.replicate page.toNat [D.int IntKind.u8 (0 : Int)]) (0 : Nat) (4 : Nat)
          (IntKind.i64.wrap (next + (1 : Int))))
        (4 : Nat) (2 : Nat) (↑(List.length eb) : Int))))
    (h5 : FlatEs
  (layE
    (List.take (6 : Nat)
          (layE
            (layE (List.replicate page.toNat [D.int IntKind.u8 (0 : Int)]) (0 : Nat) (4 : Nat)
              (IntKind.i64.wrap (next + (1 : Int))))
            (4 : Nat) (2 : Nat) (↑(List.length eb) : Int)) ++
        List.take ((↑page.toNat : Int) - (6 : Int)).toNat eb ++
      List.drop ((6 : Nat) + min (List.length eb) ((↑page.toNat : Int) - (6 : Int)).toNat)
        (layE
          (layE (List.replicate page.toNat [D.int IntKind.u8 (0 : Int)]) (0 : Nat) (4 : Nat)
            (IntKind.i64.wrap (next + (1 : Int))))
          (4 : Nat) (2 : Nat) (↑(List.length eb) : Int)))
    ((0 : Nat) + (IntKind.i64.wrap (page - (4 : Int))).toNat)
    ((↑page.toNat : Int) - IntKind.i64.wrap (page - (4 : Int))).toNat
    (IntKind.i64.wrap
      (sumE
        (List.take (IntKind.i64.wrap (page - (4 : Int)) - (0 : Int)).toNat
          (List.drop (0 : Nat)
            (List.take (6 : Nat)
                  (layE
                    (layE (List.replicate page.toNat [D.int IntKind.u8 (0 : Int)]) (0 : Nat) (4 : Nat)
                      (IntKind.i64.wrap (next + (1 : Int))))
                    (4 : Nat) (2 : Nat) (↑(List.length eb) : Int)) ++
                List.take ((↑page.toNat : Int) - (6 : Int)).toNat eb ++
              List.drop ((6 : Nat) + min (List.length eb) ((↑page.toNat : Int) - (6 : Int)).toNat)
                (layE
                  (layE (List.replicate page.toNat [D.int IntKind.u8 (0 : Int)]) (0 : Nat) (4 : Nat)
                    (IntKind.i64.wrap (next + (1 : Int))))
                  (4 : Nat) (2 : Nat) (↑(List.length eb) : Int)))))))))
    (h6 : Ret Try.prog (tyOf Try.prog) (47 : Nat)
  [D.view (0 : Nat) ((0 : Nat) + (IntKind.i64.wrap (page - (4 : Int))).toNat)
      ((↑page.toNat : Int) - IntKind.i64.wrap (page - (4 : Int))).toNat,
    D.int IntKind.i64
      (IntKind.i64.wrap
        (sumE
          (List.take (IntKind.i64.wrap (page - (4 : Int)) - (0 : Int)).toNat
            (List.drop (0 : Nat)
              (List.take (6 : Nat)
                    (layE
                      (layE (List.replicate page.toNat [D.int IntKind.u8 (0 : Int)]) (0 : Nat) (4 : Nat)
                        (IntKind.i64.wrap (next + (1 : Int))))
                      (4 : Nat) (2 : Nat) (↑(List.length eb) : Int)) ++
                  List.take ((↑page.toNat : Int) - (6 : Int)).toNat eb ++
                List.drop ((6 : Nat) + min (List.length eb) ((↑page.toNat : Int) - (6 : Int)).toNat)
                  (layE
                    (layE (List.replicate page.toNat [D.int IntKind.u8 (0 : Int)]) (0 : Nat) (4 : Nat)
                      (IntKind.i64.wrap (next + (1 : Int))))
                    (4 : Nat) (2 : Nat) (↑(List.length eb) : Int)))))))]
  [some
      (HObj.row (1 : Nat)
        (List.take (6 : Nat)
              (layE
                (layE (List.replicate page.toNat [D.int IntKind.u8 (0 : Int)]) (0 : Nat) (4 : Nat)
                  (IntKind.i64.wrap (next + (1 : Int))))
                (4 : Nat) (2 : Nat) (↑(List.length eb) : Int)) ++
            List.take ((↑page.toNat : Int) - (6 : Int)).toNat eb ++
          List.drop ((6 : Nat) + min (List.length eb) ((↑page.toNat : Int) - (6 : Int)).toNat)
            (layE
              (layE (List.replicate page.toNat [D.int IntKind.u8 (0 : Int)]) (0 : Nat) (4 : Nat)
                (IntKind.i64.wrap (next + (1 : Int))))
              (4 : Nat) (2 : Nat) (↑(List.length eb) : Int))))]
  (D.tuple [])
  [some
      (HObj.row (1 : Nat)
        (layE
          (List.take (6 : Nat)
                (layE
                  (layE (List.replicate page.toNat [D.int IntKind.u8 (0 : Int)]) (0 : Nat) (4 : Nat)
                    (IntKind.i64.wrap (next + (1 : Int))))
                  (4 : Nat) (2 : Nat) (↑(List.length eb) : Int)) ++
              List.take ((↑page.toNat : Int) - (6 : Int)).toNat eb ++
            List.drop ((6 : Nat) + min (List.length eb) ((↑page.toNat : Int) - (6 : Int)).toNat)
              (layE
                (layE (List.replicate page.toNat [D.int IntKind.u8 (0 : Int)]) (0 : Nat) (4 : Nat)
                  (IntKind.i64.wrap (next + (1 : Int))))
                (4 : Nat) (2 : Nat) (↑(List.length eb) : Int)))
          ((0 : Nat) + (IntKind.i64.wrap (page - (4 : Int))).toNat)
          ((↑page.toNat : Int) - IntKind.i64.wrap (page - (4 : Int))).toNat
          (IntKind.i64.wrap
            (sumE
              (List.take (IntKind.i64.wrap (page - (4 : Int)) - (0 : Int)).toNat
                (List.drop (0 : Nat)
                  (List.take (6 : Nat)
                        (layE
                          (layE (List.replicate page.toNat [D.int IntKind.u8 (0 : Int)]) (0 : Nat) (4 : Nat)
                            (IntKind.i64.wrap (next + (1 : Int))))
                          (4 : Nat) (2 : Nat) (↑(List.length eb) : Int)) ++
                      List.take ((↑page.toNat : Int) - (6 : Int)).toNat eb ++
                    List.drop ((6 : Nat) + min (List.length eb) ((↑page.toNat : Int) - (6 : Int)).toNat)
                      (layE
                        (layE (List.replicate page.toNat [D.int IntKind.u8 (0 : Int)]) (0 : Nat) (4 : Nat)
                          (IntKind.i64.wrap (next + (1 : Int))))
                        (4 : Nat) (2 : Nat) (↑(List.length eb) : Int)))))))))])
    (h7 : (0 : Nat) + (IntKind.i64.wrap (page - (4 : Int)) - (0 : Int)).toNat ≤
  (List.take (6 : Nat)
          (layE
            (layE (List.replicate page.toNat [D.int IntKind.u8 (0 : Int)]) (0 : Nat) (4 : Nat)
              (IntKind.i64.wrap (next + (1 : Int))))
            (4 : Nat) (2 : Nat) (↑(List.length eb) : Int)) ++
        List.take ((↑page.toNat : Int) - (6 : Int)).toNat eb ++
      List.drop ((6 : Nat) + min (List.length eb) ((↑page.toNat : Int) - (6 : Int)).toNat)
        (layE
          (layE (List.replicate page.toNat [D.int IntKind.u8 (0 : Int)]) (0 : Nat) (4 : Nat)
            (IntKind.i64.wrap (next + (1 : Int))))
          (4 : Nat) (2 : Nat) (↑(List.length eb) : Int))).length)
    (h8 : Ret Try.prog (tyOf Try.prog) (32 : Nat)
  [D.slice true
      (List.take (IntKind.i64.wrap (page - (4 : Int)) - (0 : Int)).toNat
        (List.drop (0 : Nat)
          (List.take (6 : Nat)
                (layE
                  (layE (List.replicate page.toNat [D.int IntKind.u8 (0 : Int)]) (0 : Nat) (4 : Nat)
                    (IntKind.i64.wrap (next + (1 : Int))))
                  (4 : Nat) (2 : Nat) (↑(List.length eb) : Int)) ++
              List.take ((↑page.toNat : Int) - (6 : Int)).toNat eb ++
            List.drop ((6 : Nat) + min (List.length eb) ((↑page.toNat : Int) - (6 : Int)).toNat)
              (layE
                (layE (List.replicate page.toNat [D.int IntKind.u8 (0 : Int)]) (0 : Nat) (4 : Nat)
                  (IntKind.i64.wrap (next + (1 : Int))))
                (4 : Nat) (2 : Nat) (↑(List.length eb) : Int)))))
      none]
  []
  (D.int IntKind.u32
    (sumE
      (List.take (IntKind.i64.wrap (page - (4 : Int)) - (0 : Int)).toNat
        (List.drop (0 : Nat)
          (List.take (6 : Nat)
                (layE
                  (layE (List.replicate page.toNat [D.int IntKind.u8 (0 : Int)]) (0 : Nat) (4 : Nat)
                    (IntKind.i64.wrap (next + (1 : Int))))
                  (4 : Nat) (2 : Nat) (↑(List.length eb) : Int)) ++
              List.take ((↑page.toNat : Int) - (6 : Int)).toNat eb ++
            List.drop ((6 : Nat) + min (List.length eb) ((↑page.toNat : Int) - (6 : Int)).toNat)
              (layE
                (layE (List.replicate page.toNat [D.int IntKind.u8 (0 : Int)]) (0 : Nat) (4 : Nat)
                  (IntKind.i64.wrap (next + (1 : Int))))
                (4 : Nat) (2 : Nat) (↑(List.length eb) : Int)))))))
  [])
    (h9 : (0 : Int) ≤ (0 : Int) ∧
  (0 : Int) ≤ IntKind.i64.wrap (page - (4 : Int)) ∧
    (↑(0 : Nat) : Int) + IntKind.i64.wrap (page - (4 : Int)) ≤
      (↑(List.take (6 : Nat)
                  (layE
                    (layE (List.replicate page.toNat [D.int IntKind.u8 (0 : Int)]) (0 : Nat) (4 : Nat)
                      (IntKind.i64.wrap (next + (1 : Int))))
                    (4 : Nat) (2 : Nat) (↑(List.length eb) : Int)) ++
                List.take ((↑page.toNat : Int) - (6 : Int)).toNat eb ++
              List.drop ((6 : Nat) + min (List.length eb) ((↑page.toNat : Int) - (6 : Int)).toNat)
                (layE
                  (layE (List.replicate page.toNat [D.int IntKind.u8 (0 : Int)]) (0 : Nat) (4 : Nat)
                    (IntKind.i64.wrap (next + (1 : Int))))
                  (4 : Nat) (2 : Nat) (↑(List.length eb) : Int))).length :
        Int))
    (h10 : (0 : Int) ≤ IntKind.i64.wrap (page - (4 : Int)) ∧
  IntKind.i64.wrap (page - (4 : Int)) ≤ (↑page.toNat : Int) ∧
    (↑(0 : Nat) : Int) + (↑page.toNat : Int) ≤
      (↑(List.take (6 : Nat)
                  (layE
                    (layE (List.replicate page.toNat [D.int IntKind.u8 (0 : Int)]) (0 : Nat) (4 : Nat)
                      (IntKind.i64.wrap (next + (1 : Int))))
                    (4 : Nat) (2 : Nat) (↑(List.length eb) : Int)) ++
                List.take ((↑page.toNat : Int) - (6 : Int)).toNat eb ++
              List.drop ((6 : Nat) + min (List.length eb) ((↑page.toNat : Int) - (6 : Int)).toNat)
                (layE
                  (layE (List.replicate page.toNat [D.int IntKind.u8 (0 : Int)]) (0 : Nat) (4 : Nat)
                    (IntKind.i64.wrap (next + (1 : Int))))
                  (4 : Nat) (2 : Nat) (↑(List.length eb) : Int))).length :
        Int))
    (h11 : (6 : Nat) + ((↑page.toNat : Int) - (6 : Int)).toNat ≤
    List.length
      (layE
        (layE (List.replicate page.toNat [D.int IntKind.u8 (0 : Int)]) (0 : Nat) (4 : Nat)
          (IntKind.i64.wrap (next + (1 : Int))))
        (4 : Nat) (2 : Nat) (↑(List.length eb) : Int)) ∧
  (List.all eb fun c => c.length == (1 : Nat)) = true)
    (h12 : (0 : Int) ≤ (6 : Int) ∧
  (6 : Int) ≤ (↑page.toNat : Int) ∧
    (↑(0 : Nat) : Int) + (↑page.toNat : Int) ≤
      (↑(List.length
            (layE
              (layE (List.replicate page.toNat [D.int IntKind.u8 (0 : Int)]) (0 : Nat) (4 : Nat)
                (IntKind.i64.wrap (next + (1 : Int))))
              (4 : Nat) (2 : Nat) (↑(List.length eb) : Int))) :
        Int))
    (h13 : FlatEs
  (layE (List.replicate page.toNat [D.int IntKind.u8 (0 : Int)]) (0 : Nat) (4 : Nat)
    (IntKind.i64.wrap (next + (1 : Int)))))
    (h14 : FlatEs
  (layE
    (layE (List.replicate page.toNat [D.int IntKind.u8 (0 : Int)]) (0 : Nat) (4 : Nat)
      (IntKind.i64.wrap (next + (1 : Int))))
    (4 : Nat) (2 : Nat) (↑(List.length eb) : Int)))
    (h15 : Ret Try.prog (tyOf Try.prog) (47 : Nat)
  [D.view (0 : Nat) (4 : Nat) (2 : Nat), D.int IntKind.i64 (↑(List.length eb) : Int)]
  [some
      (HObj.row (1 : Nat)
        (layE (List.replicate page.toNat [D.int IntKind.u8 (0 : Int)]) (0 : Nat) (4 : Nat)
          (IntKind.i64.wrap (next + (1 : Int)))))]
  (D.tuple [])
  [some
      (HObj.row (1 : Nat)
        (layE
          (layE (List.replicate page.toNat [D.int IntKind.u8 (0 : Int)]) (0 : Nat) (4 : Nat)
            (IntKind.i64.wrap (next + (1 : Int))))
          (4 : Nat) (2 : Nat) (↑(List.length eb) : Int)))])
    (h16 : (0 : Int) ≤ (4 : Int) ∧
  (4 : Int) ≤ (6 : Int) ∧
    (↑(0 : Nat) : Int) + (6 : Int) ≤
      (↑(List.length
            (layE (List.replicate page.toNat [D.int IntKind.u8 (0 : Int)]) (0 : Nat) (4 : Nat)
              (IntKind.i64.wrap (next + (1 : Int))))) :
        Int))
    (h17 : FlatEs (List.replicate page.toNat [D.int IntKind.u8 (0 : Int)]))
    (h18 : Ret Try.prog (tyOf Try.prog) (47 : Nat)
  [D.view (0 : Nat) (0 : Nat) (4 : Nat), D.int IntKind.i64 (IntKind.i64.wrap (next + (1 : Int)))]
  [some (HObj.row (1 : Nat) (List.replicate page.toNat [D.int IntKind.u8 (0 : Int)]))] (D.tuple [])
  [some
      (HObj.row (1 : Nat)
        (layE (List.replicate page.toNat [D.int IntKind.u8 (0 : Int)]) (0 : Nat) (4 : Nat)
          (IntKind.i64.wrap (next + (1 : Int)))))])
    (h19 : (0 : Int) ≤ (0 : Int) ∧
  (0 : Int) ≤ (4 : Int) ∧
    (↑(0 : Nat) : Int) + (4 : Int) ≤ (↑(List.replicate page.toNat [D.int IntKind.u8 (0 : Int)]).length : Int))
    (h20 : (0 : Int) ≤ page ∧
  page ≤ page ∧ (↑(1 : Nat) : Int) * page ≤ (281474976710656 : Int) ∧ page ≤ (9223372036854775807 : Int)) :
    Ret Try.prog (tyOf Try.prog) 28 [D.int IntKind.i64 page, D.int IntKind.i64 next, D.slice xb eb none] [] (D.tuple [D.view (0 : Nat) (0 : Nat) page.toNat, D.int IntKind.i64 (0 : Int)]) [some
    (HObj.row (1 : Nat)
      (layE
        (List.take (6 : Nat)
              (layE
                (layE (List.replicate page.toNat [D.int IntKind.u8 (0 : Int)]) (0 : Nat) (4 : Nat)
                  (IntKind.i64.wrap (next + (1 : Int))))
                (4 : Nat) (2 : Nat) (↑(List.length eb) : Int)) ++
            List.take ((↑page.toNat : Int) - (6 : Int)).toNat eb ++
          List.drop ((6 : Nat) + min (List.length eb) ((↑page.toNat : Int) - (6 : Int)).toNat)
            (layE
              (layE (List.replicate page.toNat [D.int IntKind.u8 (0 : Int)]) (0 : Nat) (4 : Nat)
                (IntKind.i64.wrap (next + (1 : Int))))
              (4 : Nat) (2 : Nat) (↑(List.length eb) : Int)))
        ((0 : Nat) + (IntKind.i64.wrap (page - (4 : Int))).toNat)
        ((↑page.toNat : Int) - IntKind.i64.wrap (page - (4 : Int))).toNat
        (IntKind.i64.wrap
          (sumE
            (List.take (IntKind.i64.wrap (page - (4 : Int)) - (0 : Int)).toNat
              (List.drop (0 : Nat)
                (List.take (6 : Nat)
                      (layE
                        (layE (List.replicate page.toNat [D.int IntKind.u8 (0 : Int)]) (0 : Nat) (4 : Nat)
                          (IntKind.i64.wrap (next + (1 : Int))))
                        (4 : Nat) (2 : Nat) (↑(List.length eb) : Int)) ++
                    List.take ((↑page.toNat : Int) - (6 : Int)).toNat eb ++
                  List.drop ((6 : Nat) + min (List.length eb) ((↑page.toNat : Int) - (6 : Int)).toNat)
                    (layE
                      (layE (List.replicate page.toNat [D.int IntKind.u8 (0 : Int)]) (0 : Nat) (4 : Nat)
                        (IntKind.i64.wrap (next + (1 : Int))))
                      (4 : Nat) (2 : Nat) (↑(List.length eb) : Int)))))))))] :=
  have b0 : mayU page = true := h0
  have b1 : decide (next < (-1 : Int)) = false := decide_eq_false h1
  have b2 : decide (next ≥ (16384 : Int)) = false := decide_eq_false h2
  have b3 : decide ((↑(List.length eb) : Int) > roomU page) = false := decide_eq_false h3
  fin_call close_fn close_body close_name (fin_ret (h := 1) (close_ok layE numE sumE readE getE page next xb eb) (show outF (tyOf Try.prog) (fnAt Try.prog 28) 1 (close_run layE numE sumE readE getE page next xb eb (.code (bodyAt Try.prog 28)) [] (beginE (fnAt Try.prog 28) [D.int IntKind.i64 page, D.int IntKind.i64 next, D.slice xb eb none] []) (.path [true, true, false, true, true, false, true, true, true, true, true, false, false])) = some (D.tuple [D.view (0 : Nat) (0 : Nat) page.toNat, D.int IntKind.i64 (0 : Int)], [some
    (HObj.row (1 : Nat)
      (layE
        (List.take (6 : Nat)
              (layE
                (layE (List.replicate page.toNat [D.int IntKind.u8 (0 : Int)]) (0 : Nat) (4 : Nat)
                  (IntKind.i64.wrap (next + (1 : Int))))
                (4 : Nat) (2 : Nat) (↑(List.length eb) : Int)) ++
            List.take ((↑page.toNat : Int) - (6 : Int)).toNat eb ++
          List.drop ((6 : Nat) + min (List.length eb) ((↑page.toNat : Int) - (6 : Int)).toNat)
            (layE
              (layE (List.replicate page.toNat [D.int IntKind.u8 (0 : Int)]) (0 : Nat) (4 : Nat)
                (IntKind.i64.wrap (next + (1 : Int))))
              (4 : Nat) (2 : Nat) (↑(List.length eb) : Int)))
        ((0 : Nat) + (IntKind.i64.wrap (page - (4 : Int))).toNat)
        ((↑page.toNat : Int) - IntKind.i64.wrap (page - (4 : Int))).toNat
        (IntKind.i64.wrap
          (sumE
            (List.take (IntKind.i64.wrap (page - (4 : Int)) - (0 : Int)).toNat
              (List.drop (0 : Nat)
                (List.take (6 : Nat)
                      (layE
                        (layE (List.replicate page.toNat [D.int IntKind.u8 (0 : Int)]) (0 : Nat) (4 : Nat)
                          (IntKind.i64.wrap (next + (1 : Int))))
                        (4 : Nat) (2 : Nat) (↑(List.length eb) : Int)) ++
                    List.take ((↑page.toNat : Int) - (6 : Int)).toNat eb ++
                  List.drop ((6 : Nat) + min (List.length eb) ((↑page.toNat : Int) - (6 : Int)).toNat)
                    (layE
                      (layE (List.replicate page.toNat [D.int IntKind.u8 (0 : Int)]) (0 : Nat) (4 : Nat)
                        (IntKind.i64.wrap (next + (1 : Int))))
                      (4 : Nat) (2 : Nat) (↑(List.length eb) : Int)))))))))],
    [FlatEs
  (List.take (6 : Nat)
        (layE
          (layE (List.replicate page.toNat [D.int IntKind.u8 (0 : Int)]) (0 : Nat) (4 : Nat)
            (IntKind.i64.wrap (next + (1 : Int))))
          (4 : Nat) (2 : Nat) (↑(List.length eb) : Int)) ++
      List.take ((↑page.toNat : Int) - (6 : Int)).toNat eb ++
    List.drop ((6 : Nat) + min (List.length eb) ((↑page.toNat : Int) - (6 : Int)).toNat)
      (layE
        (layE (List.replicate page.toNat [D.int IntKind.u8 (0 : Int)]) (0 : Nat) (4 : Nat)
          (IntKind.i64.wrap (next + (1 : Int))))
        (4 : Nat) (2 : Nat) (↑(List.length eb) : Int))),
      FlatEs
  (layE
    (List.take (6 : Nat)
          (layE
            (layE (List.replicate page.toNat [D.int IntKind.u8 (0 : Int)]) (0 : Nat) (4 : Nat)
              (IntKind.i64.wrap (next + (1 : Int))))
            (4 : Nat) (2 : Nat) (↑(List.length eb) : Int)) ++
        List.take ((↑page.toNat : Int) - (6 : Int)).toNat eb ++
      List.drop ((6 : Nat) + min (List.length eb) ((↑page.toNat : Int) - (6 : Int)).toNat)
        (layE
          (layE (List.replicate page.toNat [D.int IntKind.u8 (0 : Int)]) (0 : Nat) (4 : Nat)
            (IntKind.i64.wrap (next + (1 : Int))))
          (4 : Nat) (2 : Nat) (↑(List.length eb) : Int)))
    ((0 : Nat) + (IntKind.i64.wrap (page - (4 : Int))).toNat)
    ((↑page.toNat : Int) - IntKind.i64.wrap (page - (4 : Int))).toNat
    (IntKind.i64.wrap
      (sumE
        (List.take (IntKind.i64.wrap (page - (4 : Int)) - (0 : Int)).toNat
          (List.drop (0 : Nat)
            (List.take (6 : Nat)
                  (layE
                    (layE (List.replicate page.toNat [D.int IntKind.u8 (0 : Int)]) (0 : Nat) (4 : Nat)
                      (IntKind.i64.wrap (next + (1 : Int))))
                    (4 : Nat) (2 : Nat) (↑(List.length eb) : Int)) ++
                List.take ((↑page.toNat : Int) - (6 : Int)).toNat eb ++
              List.drop ((6 : Nat) + min (List.length eb) ((↑page.toNat : Int) - (6 : Int)).toNat)
                (layE
                  (layE (List.replicate page.toNat [D.int IntKind.u8 (0 : Int)]) (0 : Nat) (4 : Nat)
                    (IntKind.i64.wrap (next + (1 : Int))))
                  (4 : Nat) (2 : Nat) (↑(List.length eb) : Int)))))))),
      Ret Try.prog (tyOf Try.prog) (47 : Nat)
  [D.view (0 : Nat) ((0 : Nat) + (IntKind.i64.wrap (page - (4 : Int))).toNat)
      ((↑page.toNat : Int) - IntKind.i64.wrap (page - (4 : Int))).toNat,
    D.int IntKind.i64
      (IntKind.i64.wrap
        (sumE
          (List.take (IntKind.i64.wrap (page - (4 : Int)) - (0 : Int)).toNat
            (List.drop (0 : Nat)
              (List.take (6 : Nat)
                    (layE
                      (layE (List.replicate page.toNat [D.int IntKind.u8 (0 : Int)]) (0 : Nat) (4 : Nat)
                        (IntKind.i64.wrap (next + (1 : Int))))
                      (4 : Nat) (2 : Nat) (↑(List.length eb) : Int)) ++
                  List.take ((↑page.toNat : Int) - (6 : Int)).toNat eb ++
                List.drop ((6 : Nat) + min (List.length eb) ((↑page.toNat : Int) - (6 : Int)).toNat)
                  (layE
                    (layE (List.replicate page.toNat [D.int IntKind.u8 (0 : Int)]) (0 : Nat) (4 : Nat)
                      (IntKind.i64.wrap (next + (1 : Int))))
                    (4 : Nat) (2 : Nat) (↑(List.length eb) : Int)))))))]
  [some
      (HObj.row (1 : Nat)
        (List.take (6 : Nat)
              (layE
                (layE (List.replicate page.toNat [D.int IntKind.u8 (0 : Int)]) (0 : Nat) (4 : Nat)
                  (IntKind.i64.wrap (next + (1 : Int))))
                (4 : Nat) (2 : Nat) (↑(List.length eb) : Int)) ++
            List.take ((↑page.toNat : Int) - (6 : Int)).toNat eb ++
          List.drop ((6 : Nat) + min (List.length eb) ((↑page.toNat : Int) - (6 : Int)).toNat)
            (layE
              (layE (List.replicate page.toNat [D.int IntKind.u8 (0 : Int)]) (0 : Nat) (4 : Nat)
                (IntKind.i64.wrap (next + (1 : Int))))
              (4 : Nat) (2 : Nat) (↑(List.length eb) : Int))))]
  (D.tuple [])
  [some
      (HObj.row (1 : Nat)
        (layE
          (List.take (6 : Nat)
                (layE
                  (layE (List.replicate page.toNat [D.int IntKind.u8 (0 : Int)]) (0 : Nat) (4 : Nat)
                    (IntKind.i64.wrap (next + (1 : Int))))
                  (4 : Nat) (2 : Nat) (↑(List.length eb) : Int)) ++
              List.take ((↑page.toNat : Int) - (6 : Int)).toNat eb ++
            List.drop ((6 : Nat) + min (List.length eb) ((↑page.toNat : Int) - (6 : Int)).toNat)
              (layE
                (layE (List.replicate page.toNat [D.int IntKind.u8 (0 : Int)]) (0 : Nat) (4 : Nat)
                  (IntKind.i64.wrap (next + (1 : Int))))
                (4 : Nat) (2 : Nat) (↑(List.length eb) : Int)))
          ((0 : Nat) + (IntKind.i64.wrap (page - (4 : Int))).toNat)
          ((↑page.toNat : Int) - IntKind.i64.wrap (page - (4 : Int))).toNat
          (IntKind.i64.wrap
            (sumE
              (List.take (IntKind.i64.wrap (page - (4 : Int)) - (0 : Int)).toNat
                (List.drop (0 : Nat)
                  (List.take (6 : Nat)
                        (layE
                          (layE (List.replicate page.toNat [D.int IntKind.u8 (0 : Int)]) (0 : Nat) (4 : Nat)
                            (IntKind.i64.wrap (next + (1 : Int))))
                          (4 : Nat) (2 : Nat) (↑(List.length eb) : Int)) ++
                      List.take ((↑page.toNat : Int) - (6 : Int)).toNat eb ++
                    List.drop ((6 : Nat) + min (List.length eb) ((↑page.toNat : Int) - (6 : Int)).toNat)
                      (layE
                        (layE (List.replicate page.toNat [D.int IntKind.u8 (0 : Int)]) (0 : Nat) (4 : Nat)
                          (IntKind.i64.wrap (next + (1 : Int))))
                        (4 : Nat) (2 : Nat) (↑(List.length eb) : Int)))))))))],
      (0 : Nat) + (IntKind.i64.wrap (page - (4 : Int)) - (0 : Int)).toNat ≤
  (List.take (6 : Nat)
          (layE
            (layE (List.replicate page.toNat [D.int IntKind.u8 (0 : Int)]) (0 : Nat) (4 : Nat)
              (IntKind.i64.wrap (next + (1 : Int))))
            (4 : Nat) (2 : Nat) (↑(List.length eb) : Int)) ++
        List.take ((↑page.toNat : Int) - (6 : Int)).toNat eb ++
      List.drop ((6 : Nat) + min (List.length eb) ((↑page.toNat : Int) - (6 : Int)).toNat)
        (layE
          (layE (List.replicate page.toNat [D.int IntKind.u8 (0 : Int)]) (0 : Nat) (4 : Nat)
            (IntKind.i64.wrap (next + (1 : Int))))
          (4 : Nat) (2 : Nat) (↑(List.length eb) : Int))).length,
      FlatEs
  (List.take (6 : Nat)
        (layE
          (layE (List.replicate page.toNat [D.int IntKind.u8 (0 : Int)]) (0 : Nat) (4 : Nat)
            (IntKind.i64.wrap (next + (1 : Int))))
          (4 : Nat) (2 : Nat) (↑(List.length eb) : Int)) ++
      List.take ((↑page.toNat : Int) - (6 : Int)).toNat eb ++
    List.drop ((6 : Nat) + min (List.length eb) ((↑page.toNat : Int) - (6 : Int)).toNat)
      (layE
        (layE (List.replicate page.toNat [D.int IntKind.u8 (0 : Int)]) (0 : Nat) (4 : Nat)
          (IntKind.i64.wrap (next + (1 : Int))))
        (4 : Nat) (2 : Nat) (↑(List.length eb) : Int))),
      Ret Try.prog (tyOf Try.prog) (32 : Nat)
  [D.slice true
      (List.take (IntKind.i64.wrap (page - (4 : Int)) - (0 : Int)).toNat
        (List.drop (0 : Nat)
          (List.take (6 : Nat)
                (layE
                  (layE (List.replicate page.toNat [D.int IntKind.u8 (0 : Int)]) (0 : Nat) (4 : Nat)
                    (IntKind.i64.wrap (next + (1 : Int))))
                  (4 : Nat) (2 : Nat) (↑(List.length eb) : Int)) ++
              List.take ((↑page.toNat : Int) - (6 : Int)).toNat eb ++
            List.drop ((6 : Nat) + min (List.length eb) ((↑page.toNat : Int) - (6 : Int)).toNat)
              (layE
                (layE (List.replicate page.toNat [D.int IntKind.u8 (0 : Int)]) (0 : Nat) (4 : Nat)
                  (IntKind.i64.wrap (next + (1 : Int))))
                (4 : Nat) (2 : Nat) (↑(List.length eb) : Int)))))
      none]
  []
  (D.int IntKind.u32
    (sumE
      (List.take (IntKind.i64.wrap (page - (4 : Int)) - (0 : Int)).toNat
        (List.drop (0 : Nat)
          (List.take (6 : Nat)
                (layE
                  (layE (List.replicate page.toNat [D.int IntKind.u8 (0 : Int)]) (0 : Nat) (4 : Nat)
                    (IntKind.i64.wrap (next + (1 : Int))))
                  (4 : Nat) (2 : Nat) (↑(List.length eb) : Int)) ++
              List.take ((↑page.toNat : Int) - (6 : Int)).toNat eb ++
            List.drop ((6 : Nat) + min (List.length eb) ((↑page.toNat : Int) - (6 : Int)).toNat)
              (layE
                (layE (List.replicate page.toNat [D.int IntKind.u8 (0 : Int)]) (0 : Nat) (4 : Nat)
                  (IntKind.i64.wrap (next + (1 : Int))))
                (4 : Nat) (2 : Nat) (↑(List.length eb) : Int)))))))
  [],
      (0 : Int) ≤ (0 : Int) ∧
  (0 : Int) ≤ IntKind.i64.wrap (page - (4 : Int)) ∧
    (↑(0 : Nat) : Int) + IntKind.i64.wrap (page - (4 : Int)) ≤
      (↑(List.take (6 : Nat)
                  (layE
                    (layE (List.replicate page.toNat [D.int IntKind.u8 (0 : Int)]) (0 : Nat) (4 : Nat)
                      (IntKind.i64.wrap (next + (1 : Int))))
                    (4 : Nat) (2 : Nat) (↑(List.length eb) : Int)) ++
                List.take ((↑page.toNat : Int) - (6 : Int)).toNat eb ++
              List.drop ((6 : Nat) + min (List.length eb) ((↑page.toNat : Int) - (6 : Int)).toNat)
                (layE
                  (layE (List.replicate page.toNat [D.int IntKind.u8 (0 : Int)]) (0 : Nat) (4 : Nat)
                    (IntKind.i64.wrap (next + (1 : Int))))
                  (4 : Nat) (2 : Nat) (↑(List.length eb) : Int))).length :
        Int),
      (0 : Int) ≤ IntKind.i64.wrap (page - (4 : Int)) ∧
  IntKind.i64.wrap (page - (4 : Int)) ≤ (↑page.toNat : Int) ∧
    (↑(0 : Nat) : Int) + (↑page.toNat : Int) ≤
      (↑(List.take (6 : Nat)
                  (layE
                    (layE (List.replicate page.toNat [D.int IntKind.u8 (0 : Int)]) (0 : Nat) (4 : Nat)
                      (IntKind.i64.wrap (next + (1 : Int))))
                    (4 : Nat) (2 : Nat) (↑(List.length eb) : Int)) ++
                List.take ((↑page.toNat : Int) - (6 : Int)).toNat eb ++
              List.drop ((6 : Nat) + min (List.length eb) ((↑page.toNat : Int) - (6 : Int)).toNat)
                (layE
                  (layE (List.replicate page.toNat [D.int IntKind.u8 (0 : Int)]) (0 : Nat) (4 : Nat)
                    (IntKind.i64.wrap (next + (1 : Int))))
                  (4 : Nat) (2 : Nat) (↑(List.length eb) : Int))).length :
        Int),
      (6 : Nat) + ((↑page.toNat : Int) - (6 : Int)).toNat ≤
    List.length
      (layE
        (layE (List.replicate page.toNat [D.int IntKind.u8 (0 : Int)]) (0 : Nat) (4 : Nat)
          (IntKind.i64.wrap (next + (1 : Int))))
        (4 : Nat) (2 : Nat) (↑(List.length eb) : Int)) ∧
  (List.all eb fun c => c.length == (1 : Nat)) = true,
      (0 : Int) ≤ (6 : Int) ∧
  (6 : Int) ≤ (↑page.toNat : Int) ∧
    (↑(0 : Nat) : Int) + (↑page.toNat : Int) ≤
      (↑(List.length
            (layE
              (layE (List.replicate page.toNat [D.int IntKind.u8 (0 : Int)]) (0 : Nat) (4 : Nat)
                (IntKind.i64.wrap (next + (1 : Int))))
              (4 : Nat) (2 : Nat) (↑(List.length eb) : Int))) :
        Int),
      FlatEs
  (layE (List.replicate page.toNat [D.int IntKind.u8 (0 : Int)]) (0 : Nat) (4 : Nat)
    (IntKind.i64.wrap (next + (1 : Int)))),
      FlatEs
  (layE
    (layE (List.replicate page.toNat [D.int IntKind.u8 (0 : Int)]) (0 : Nat) (4 : Nat)
      (IntKind.i64.wrap (next + (1 : Int))))
    (4 : Nat) (2 : Nat) (↑(List.length eb) : Int)),
      Ret Try.prog (tyOf Try.prog) (47 : Nat)
  [D.view (0 : Nat) (4 : Nat) (2 : Nat), D.int IntKind.i64 (↑(List.length eb) : Int)]
  [some
      (HObj.row (1 : Nat)
        (layE (List.replicate page.toNat [D.int IntKind.u8 (0 : Int)]) (0 : Nat) (4 : Nat)
          (IntKind.i64.wrap (next + (1 : Int)))))]
  (D.tuple [])
  [some
      (HObj.row (1 : Nat)
        (layE
          (layE (List.replicate page.toNat [D.int IntKind.u8 (0 : Int)]) (0 : Nat) (4 : Nat)
            (IntKind.i64.wrap (next + (1 : Int))))
          (4 : Nat) (2 : Nat) (↑(List.length eb) : Int)))],
      (0 : Int) ≤ (4 : Int) ∧
  (4 : Int) ≤ (6 : Int) ∧
    (↑(0 : Nat) : Int) + (6 : Int) ≤
      (↑(List.length
            (layE (List.replicate page.toNat [D.int IntKind.u8 (0 : Int)]) (0 : Nat) (4 : Nat)
              (IntKind.i64.wrap (next + (1 : Int))))) :
        Int),
      FlatEs (List.replicate page.toNat [D.int IntKind.u8 (0 : Int)]),
      FlatEs
  (layE (List.replicate page.toNat [D.int IntKind.u8 (0 : Int)]) (0 : Nat) (4 : Nat)
    (IntKind.i64.wrap (next + (1 : Int)))),
      Ret Try.prog (tyOf Try.prog) (47 : Nat)
  [D.view (0 : Nat) (0 : Nat) (4 : Nat), D.int IntKind.i64 (IntKind.i64.wrap (next + (1 : Int)))]
  [some (HObj.row (1 : Nat) (List.replicate page.toNat [D.int IntKind.u8 (0 : Int)]))] (D.tuple [])
  [some
      (HObj.row (1 : Nat)
        (layE (List.replicate page.toNat [D.int IntKind.u8 (0 : Int)]) (0 : Nat) (4 : Nat)
          (IntKind.i64.wrap (next + (1 : Int)))))],
      (0 : Int) ≤ (0 : Int) ∧
  (0 : Int) ≤ (4 : Int) ∧
    (↑(0 : Nat) : Int) + (4 : Int) ≤ (↑(List.replicate page.toNat [D.int IntKind.u8 (0 : Int)]).length : Int),
      (0 : Int) ≤ page ∧
  page ≤ page ∧ (↑(1 : Nat) : Int) * page ≤ (281474976710656 : Int) ∧ page ≤ (9223372036854775807 : Int),
      decide ((↑(List.length eb) : Int) > roomU page) = false,
      decide (next ≥ (16384 : Int)) = false,
      (decide (next ≥ (16384 : Int)) == false) = true,
      Ret Try.prog (tyOf Try.prog) (30 : Nat) [D.int IntKind.i64 page] [] (D.int IntKind.i64 (roomU page)) [],
      (decide (next ≥ (16384 : Int)) == false) = true,
      (decide (next ≥ (16384 : Int)) == false) = true,
      (decide (next ≥ (16384 : Int)) == false) = true,
      (decide (next ≥ (16384 : Int)) == false) = true,
      decide (next < (-1 : Int)) = false,
      (decide (next < (-1 : Int)) == false) = true,
      (decide (next < (-1 : Int)) == false) = true,
      (!mayU page) = false,
      ((!mayU page) == false) = true,
      ((!mayU page) == false) = true,
      Ret Try.prog (tyOf Try.prog) (46 : Nat) [D.int IntKind.i64 page] [] (D.bool (mayU page)) []]) by kernel_rfl)
    (all_cons.2 ⟨h4, all_cons.2 ⟨h5, all_cons.2 ⟨h6, all_cons.2 ⟨h7, all_cons.2 ⟨h4, all_cons.2 ⟨h8, all_cons.2 ⟨h9, all_cons.2 ⟨h10, all_cons.2 ⟨h11, all_cons.2 ⟨h12, all_cons.2 ⟨h13, all_cons.2 ⟨h14, all_cons.2 ⟨h15, all_cons.2 ⟨h16, all_cons.2 ⟨h17, all_cons.2 ⟨h13, all_cons.2 ⟨h18, all_cons.2 ⟨h19, all_cons.2 ⟨h20, all_cons.2 ⟨b3, all_cons.2 ⟨b2, all_cons.2 ⟨(by rw [b2]; rfl), all_cons.2 ⟨(room30 _), all_cons.2 ⟨(by rw [b2]; rfl), all_cons.2 ⟨(by rw [b2]; rfl), all_cons.2 ⟨(by rw [b2]; rfl), all_cons.2 ⟨(by rw [b2]; rfl), all_cons.2 ⟨b1, all_cons.2 ⟨(by rw [b1]; rfl), all_cons.2 ⟨(by rw [b1]; rfl), all_cons.2 ⟨(by rw [b0]; rfl), all_cons.2 ⟨(by rw [b0]; rfl), all_cons.2 ⟨(by rw [b0]; rfl), all_cons.2 ⟨(may46 _), all_nil.2 trivial⟩⟩⟩⟩⟩⟩⟩⟩⟩⟩⟩⟩⟩⟩⟩⟩⟩⟩⟩⟩⟩⟩⟩⟩⟩⟩⟩⟩⟩⟩⟩⟩⟩⟩))

theorem close_in_4 {layE : Es → Nat → Nat → Int → Es} {numE : Int → Int → Es} {sumE : Es → Int} {readE : Es → Int} {getE : Es → Int → Int → Int} {page : Int} {next : Int} {xb : Bool} {eb : Es}
    (h0 : mayU page = false) :
    Ret Try.prog (tyOf Try.prog) 28 [D.int IntKind.i64 page, D.int IntKind.i64 next, D.slice xb eb none] [] (D.tuple [D.slice false [] none, D.int IntKind.i64 (1 : Int)]) [] :=
  have b0 : mayU page = false := h0
  fin_call close_fn close_body close_name (fin_ret (h := 0) (close_ok layE numE sumE readE getE page next xb eb) (show outF (tyOf Try.prog) (fnAt Try.prog 28) 0 (close_run layE numE sumE readE getE page next xb eb (.code (bodyAt Try.prog 28)) [] (beginE (fnAt Try.prog 28) [D.int IntKind.i64 page, D.int IntKind.i64 next, D.slice xb eb none] []) (.path [false, false, true, false, false, true, false, false, false, false, false, true, true])) = some (D.tuple [D.slice false [] none, D.int IntKind.i64 (1 : Int)], [],
    [true = true,
      true = true,
      false = false,
      false = false,
      false = false,
      false = false,
      false = false,
      true = true,
      false = false,
      false = false,
      (!mayU page) = true,
      ((!mayU page) == false) = false,
      ((!mayU page) == false) = false,
      Ret Try.prog (tyOf Try.prog) (46 : Nat) [D.int IntKind.i64 page] [] (D.bool (mayU page)) []]) by kernel_rfl)
    (all_cons.2 ⟨rfl, all_cons.2 ⟨rfl, all_cons.2 ⟨rfl, all_cons.2 ⟨rfl, all_cons.2 ⟨rfl, all_cons.2 ⟨rfl, all_cons.2 ⟨rfl, all_cons.2 ⟨rfl, all_cons.2 ⟨rfl, all_cons.2 ⟨rfl, all_cons.2 ⟨(by rw [b0]; rfl), all_cons.2 ⟨(by rw [b0]; rfl), all_cons.2 ⟨(by rw [b0]; rfl), all_cons.2 ⟨(may46 _), all_nil.2 trivial⟩⟩⟩⟩⟩⟩⟩⟩⟩⟩⟩⟩⟩⟩))


/-! ### function 29 -/
theorem closeR_fn : Try.prog.funcs[(29 : Nat)]? = some (fnAt Try.prog 29) := by kernel_rfl
theorem closeR_body : (fnAt Try.prog 29).body = some (bodyAt Try.prog 29) := by kernel_rfl
theorem closeR_name : ((fnAt Try.prog 29).name == "runtime.NumGoroutine") = false := by kernel_rfl
noncomputable def closeR_C (layE : Es → Nat → Nat → Int → Es) (numE : Int → Int → Es) (sumE : Es → Int) (readE : Es → Int) (getE : Es → Int → Int → Int) (page : Int) (next : Int) (xb : Bool) (eb : Es) : Cf := cfg Try.prog (hintOf []) (tClose layE numE sumE readE getE page next xb eb) (fun g => match g with | 33 => true | _ => false) 2 true (fun _ => false)
theorem closeR_ok (layE : Es → Nat → Nat → Int → Es) (numE : Int → Int → Es) (sumE : Es → Int) (readE : Es → Int) (getE : Es → Int → Int → Int) (page : Int) (next : Int) (xb : Bool) (eb : Es) : CfOk (closeR_C layE numE sumE readE getE page next xb eb) := cfg_ok (by kernel_rfl)
noncomputable def closeR_run (layE : Es → Nat → Nat → Int → Es) (numE : Int → Int → Es) (sumE : Es → Int) (readE : Es → Int) (getE : Es → Int → Int → Int) (page : Int) (next : Int) (xb : Bool) (eb : Es) (cur : Cur) (k : List It) (s : St) (or : GD.Or) := runE (closeR_C layE numE sumE readE getE page next xb eb) (callE (closeR_C layE numE sumE readE getE page next xb eb) 100000 10) 29 100000 cur k s or []
noncomputable def closeR_l0 : Code := (loopAt Try.prog 29 0).1
noncomputable def closeR_k0 : List It := (loopAt Try.prog 29 0).2
/- loop 0: x8:=true; e8:=numE (IntKind.i64.wrap (next + (1 : Int))) (4 : Int) ++ numE (↑(List.length eb) : Int) (2 : Int) ++ eb; kh:=(4 : Nat) + List.length (numE (↑(List.length eb) : Int) (2 : Int)) + List.length eb; -/
noncomputable def closeR_s0 (layE : Es → Nat → Nat → Int → Es) (numE : Int → Int → Es) (sumE : Es → Int) (readE : Es → Int) (getE : Es → Int → Int → Int) (page : Int) (next : Int) (xb : Bool) (eb : Es) (x8 : Bool) (e8 : List (List D)) (kh : Nat) : St := ⟨envOf 50 [(0, D.int IntKind.i64 page), (8, D.slice x8 e8 (some (0 : Nat)))], [some (HObj.tok kh (1 : Nat))]⟩
def closeR_at0 (layE : Es → Nat → Nat → Int → Es) (numE : Int → Int → Es) (sumE : Es → Int) (readE : Es → Int) (getE : Es → Int → Int → Int) (page : Int) (next : Int) (xb : Bool) (eb : Es) (x8 : Bool) (e8 : List (List D)) (kh : Nat) (r : D) (H1 : GD.Heap) : Prop := GD.Fin Try.prog (tyOf Try.prog) (fnAt Try.prog 29) 0 (.code (.loop closeR_l0)) closeR_k0 (closeR_s0 layE numE sumE readE getE page next xb eb x8 e8 kh) r H1

theorem closeR_in_0 {layE : Es → Nat → Nat → Int → Es} {numE : Int → Int → Es} {sumE : Es → Int} {readE : Es → Int} {getE : Es → Int → Int → Int} {page : Int} {next : Int} {xb : Bool} {eb : Es}
    (h0 : mayU page = true)
    (h1 : next < (-1 : Int)) :
    Ret Try.prog (tyOf Try.prog) 29 [D.int IntKind.i64 page, D.int IntKind.i64 next, D.slice xb eb none] [] (D.tuple [D.slice false [] none, D.int IntKind.i64 (1 : Int)]) [] :=
  have b0 : mayU page = true := h0
  have b1 : decide (next < (-1 : Int)) = true := decide_eq_true h1
  fin_call closeR_fn closeR_body closeR_name (fin_ret (h := 0) (closeR_ok layE numE sumE readE getE page next xb eb) (show outF (tyOf Try.prog) (fnAt Try.prog 29) 0 (closeR_run layE numE sumE readE getE page next xb eb (.code (bodyAt Try.prog 29)) [] (beginE (fnAt Try.prog 29) [D.int IntKind.i64 page, D.int IntKind.i64 next, D.slice xb eb none] []) (.path [true, true, false, false, false, true, false, false, false, false, false, true, true])) = some (D.tuple [D.slice false [] none, D.int IntKind.i64 (1 : Int)], [],
    [true = true,
      true = true,
      false = false,
      false = false,
      false = false,
      false = false,
      false = false,
      decide (next < (-1 : Int)) = true,
      (decide (next < (-1 : Int)) == false) = false,
      (decide (next < (-1 : Int)) == false) = false,
      (!mayU page) = false,
      ((!mayU page) == false) = true,
      ((!mayU page) == false) = true,
      Ret Try.prog (tyOf Try.prog) (48 : Nat) [D.int IntKind.i64 page] [] (D.bool (mayU page)) []]) by kernel_rfl)
    (all_cons.2 ⟨rfl, all_cons.2 ⟨rfl, all_cons.2 ⟨rfl, all_cons.2 ⟨rfl, all_cons.2 ⟨rfl, all_cons.2 ⟨rfl, all_cons.2 ⟨rfl, all_cons.2 ⟨b1, all_cons.2 ⟨(by rw [b1]; rfl), all_cons.2 ⟨(by rw [b1]; rfl), all_cons.2 ⟨(by rw [b0]; rfl), all_cons.2 ⟨(by rw [b0]; rfl), all_cons.2 ⟨(by rw [b0]; rfl), all_cons.2 ⟨(may48 _), all_nil.2 trivial⟩⟩⟩⟩⟩⟩⟩⟩⟩⟩⟩⟩⟩⟩))

theorem closeR_in_1 {layE : Es → Nat → Nat → Int → Es} {numE : Int → Int → Es} {sumE : Es → Int} {readE : Es → Int} {getE : Es → Int → Int → Int} {page : Int} {next : Int} {xb : Bool} {eb : Es}
    (h0 : mayU page = true)
    (h1 : ¬ (next < (-1 : Int)))
    (h2 : next ≥ (16384 : Int)) :
    Ret Try.prog (tyOf Try.prog) 29 [D.int IntKind.i64 page, D.int IntKind.i64 next, D.slice xb eb none] [] (D.tuple [D.slice false [] none, D.int IntKind.i64 (1 : Int)]) [] :=
  have b0 : mayU page = true := h0
  have b1 : decide (next < (-1 : Int)) = false := decide_eq_false h1
  have b2 : decide (next ≥ (16384 : Int)) = true := decide_eq_true h2
  fin_call closeR_fn closeR_body closeR_name (fin_ret (h := 0) (closeR_ok layE numE sumE readE getE page next xb eb) (show outF (tyOf Try.prog) (fnAt Try.prog 29) 0 (closeR_run layE numE sumE readE getE page next xb eb (.code (bodyAt Try.prog 29)) [] (beginE (fnAt Try.prog 29) [D.int IntKind.i64 page, D.int IntKind.i64 next, D.slice xb eb none] []) (.path [true, true, false, true, true, false, false, false, false, false, false, true, true])) = some (D.tuple [D.slice false [] none, D.int IntKind.i64 (1 : Int)], [],
    [true = true,
      decide (next ≥ (16384 : Int)) = true,
      (decide (next ≥ (16384 : Int)) == false) = false,
      (decide (next ≥ (16384 : Int)) == false) = false,
      (decide (next ≥ (16384 : Int)) == false) = false,
      (decide (next ≥ (16384 : Int)) == false) = false,
      (decide (next ≥ (16384 : Int)) == false) = false,
      decide (next < (-1 : Int)) = false,
      (decide (next < (-1 : Int)) == false) = true,
      (decide (next < (-1 : Int)) == false) = true,
      (!mayU page) = false,
      ((!mayU page) == false) = true,
      ((!mayU page) == false) = true,
      Ret Try.prog (tyOf Try.prog) (48 : Nat) [D.int IntKind.i64 page] [] (D.bool (mayU page)) []]) by kernel_rfl)
    (all_cons.2 ⟨rfl, all_cons.2 ⟨b2, all_cons.2 ⟨(by rw [b2]; rfl), all_cons.2 ⟨(by rw [b2]; rfl), all_cons.2 ⟨(by rw [b2]; rfl), all_cons.2 ⟨(by rw [b2]; rfl), all_cons.2 ⟨(by rw [b2]; rfl), all_cons.2 ⟨b1, all_cons.2 ⟨(by rw [b1]; rfl), all_cons.2 ⟨(by rw [b1]; rfl), all_cons.2 ⟨(by rw [b0]; rfl), all_cons.2 ⟨(by rw [b0]; rfl), all_cons.2 ⟨(by rw [b0]; rfl), all_cons.2 ⟨(may48 _), all_nil.2 trivial⟩⟩⟩⟩⟩⟩⟩⟩⟩⟩⟩⟩⟩⟩))

theorem closeR_in_2 {layE : Es → Nat → Nat → Int → Es} {numE : Int → Int → Es} {sumE : Es → Int} {readE : Es → Int} {getE : Es → Int → Int → Int} {page : Int} {next : Int} {xb : Bool} {eb : Es}
    (h0 : mayU page = true)
    (h1 : ¬ (next < (-1 : Int)))
    (h2 : ¬ (next ≥ (16384 : Int)))
    (h3 : (↑(List.length eb) : Int) > roomU page) :
    Ret Try.prog (tyOf Try.prog) 29 [D.int IntKind.i64 page, D.int IntKind.i64 next, D.slice xb eb none] [] (D.tuple [D.slice false [] none, D.int IntKind.i64 (1 : Int)]) [] :=
  have b0 : mayU page = true := h0
  have b1 : decide (next < (-1 : Int)) = false := decide_eq_false h1
  have b2 : decide (next ≥ (16384 : Int)) = false := decide_eq_false h2
  have b3 : decide ((↑(List.length eb) : Int) > roomU page) = true := decide_eq_true h3
  fin_call closeR_fn closeR_body closeR_name (fin_ret (h := 0) (closeR_ok layE numE sumE readE getE page next xb eb) (show outF (tyOf Try.prog) (fnAt Try.prog 29) 0 (closeR_run layE numE sumE readE getE page next xb eb (.code (bodyAt Try.prog 29)) [] (beginE (fnAt Try.prog 29) [D.int IntKind.i64 page, D.int IntKind.i64 next, D.slice xb eb none] []) (.path [true, true, false, true, true, false, true, true, true, true, true, false, true])) = some (D.tuple [D.slice false [] none, D.int IntKind.i64 (1 : Int)], [],
    [decide ((↑(List.length eb) : Int) > roomU page) = true,
      decide (next ≥ (16384 : Int)) = false,
      (decide (next ≥ (16384 : Int)) == false) = true,
      Ret Try.prog (tyOf Try.prog) (31 : Nat) [D.int IntKind.i64 page] [] (D.int IntKind.i64 (roomU page)) [],
      (decide (next ≥ (16384 : Int)) == false) = true,
      (decide (next ≥ (16384 : Int)) == false) = true,
      (decide (next ≥ (16384 : Int)) == false) = true,
      (decide (next ≥ (16384 : Int)) == false) = true,
      decide (next < (-1 : Int)) = false,
      (decide (next < (-1 : Int)) == false) = true,
      (decide (next < (-1 : Int)) == false) = true,
      (!mayU page) = false,
      ((!mayU page) == false) = true,
      ((!mayU page) == false) = true,
      Ret Try.prog (tyOf Try.prog) (48 : Nat) [D.int IntKind.i64 page] [] (D.bool (mayU page)) []]) by kernel_rfl)
    (all_cons.2 ⟨b3, all_cons.2 ⟨b2, all_cons.2 ⟨(by rw [b2]; rfl), all_cons.2 ⟨(room31 _), all_cons.2 ⟨(by rw [b2]; rfl), all_cons.2 ⟨(by rw [b2]; rfl), all_cons.2 ⟨(by rw [b2]; rfl), all_cons.2 ⟨(by rw [b2]; rfl), all_cons.2 ⟨b1, all_cons.2 ⟨(by rw [b1]; rfl), all_cons.2 ⟨(by rw [b1]; rfl), all_cons.2 ⟨(by rw [b0]; rfl), all_cons.2 ⟨(by rw [b0]; rfl), all_cons.2 ⟨(by rw [b0]; rfl), all_cons.2 ⟨(may48 _), all_nil.2 trivial⟩⟩⟩⟩⟩⟩⟩⟩⟩⟩⟩⟩⟩⟩⟩))

theorem closeR_in_3 {layE : Es → Nat → Nat → Int → Es} {numE : Int → Int → Es} {sumE : Es → Int} {readE : Es → Int} {getE : Es → Int → Int → Int} {page : Int} {next : Int} {xb : Bool} {eb : Es} {r : D} {H1 : GD.Heap}
    (h0 : mayU page = true)
    (h1 : ¬ (next < (-1 : Int)))
    (h2 : ¬ (next ≥ (16384 : Int)))
    (h3 : ¬ ((↑(List.length eb) : Int) > roomU page))
    (h4 : (numE (IntKind.i64.wrap (next + (1 : Int))) (4 : Int) ++ numE (↑(List.length eb) : Int) (2 : Int)).length =
    (4 : Nat) + List.length (numE (↑(List.length eb) : Int) (2 : Int)) ∧
  ((numE (IntKind.i64.wrap (next + (1 : Int))) (4 : Int) ++ numE (↑(List.length eb) : Int) (2 : Int)).length +
          List.length eb) *
        (1 : Nat) ≤
      (140737488355328 : Nat) ∧
    (List.all eb fun c => c.length == (1 : Nat)) = true)
    (h5 : List.length (numE (IntKind.i64.wrap (next + (1 : Int))) (4 : Int)) = (4 : Nat) ∧
  (List.length (numE (IntKind.i64.wrap (next + (1 : Int))) (4 : Int)) +
          List.length (numE (↑(List.length eb) : Int) (2 : Int))) *
        (1 : Nat) ≤
      (140737488355328 : Nat) ∧
    (List.all (numE (↑(List.length eb) : Int) (2 : Int)) fun c => c.length == (1 : Nat)) = true)
    (h6 : Ret Try.prog (tyOf Try.prog) (49 : Nat) [D.int IntKind.i64 (↑(List.length eb) : Int), D.int IntKind.i64 (2 : Int)] []
  (D.slice true (numE (↑(List.length eb) : Int) (2 : Int)) (some (0 : Nat))) [some (HObj.tok (2 : Nat) (1 : Nat))])
    (h7 : Ret Try.prog (tyOf Try.prog) (49 : Nat)
  [D.int IntKind.i64 (IntKind.i64.wrap (next + (1 : Int))), D.int IntKind.i64 (4 : Int)] []
  (D.slice true (numE (IntKind.i64.wrap (next + (1 : Int))) (4 : Int)) (some (0 : Nat)))
  [some (HObj.tok (4 : Nat) (1 : Nat))])
    (g : closeR_at0 layE numE sumE readE getE page next xb eb (true) (numE (IntKind.i64.wrap (next + (1 : Int))) (4 : Int) ++ numE (↑(List.length eb) : Int) (2 : Int) ++ eb) ((4 : Nat) + List.length (numE (↑(List.length eb) : Int) (2 : Int)) + List.length eb) r H1) :
    Ret Try.prog (tyOf Try.prog) 29 [D.int IntKind.i64 page, D.int IntKind.i64 next, D.slice xb eb none] [] r H1 :=
  have b0 : mayU page = true := h0
  have b1 : decide (next < (-1 : Int)) = false := decide_eq_false h1
  have b2 : decide (next ≥ (16384 : Int)) = false := decide_eq_false h2
  have b3 : decide ((↑(List.length eb) : Int) > roomU page) = false := decide_eq_false h3
  fin_call closeR_fn closeR_body closeR_name (fin_stop (F := (fun _ => false)) (h := 1) (keep := [0, 8]) (closeR_ok layE numE sumE readE getE page next xb eb) (show cutX (fun _ => false) [0, 8] 1 (closeR_run layE numE sumE readE getE page next xb eb (.code (bodyAt Try.prog 29)) [] (beginE (fnAt Try.prog 29) [D.int IntKind.i64 page, D.int IntKind.i64 next, D.slice xb eb none] []) (.path [true, true, false, true, true, false, true, true, true, true, true, false, false])) = some (closeR_l0, closeR_k0, (closeR_s0 layE numE sumE readE getE page next xb eb (true) (numE (IntKind.i64.wrap (next + (1 : Int))) (4 : Int) ++ numE (↑(List.length eb) : Int) (2 : Int) ++ eb) ((4 : Nat) + List.length (numE (↑(List.length eb) : Int) (2 : Int)) + List.length eb)).env, (closeR_s0 layE numE sumE readE getE page next xb eb (true) (numE (IntKind.i64.wrap (next + (1 : Int))) (4 : Int) ++ numE (↑(List.length eb) : Int) (2 : Int) ++ eb) ((4 : Nat) + List.length (numE (↑(List.length eb) : Int) (2 : Int)) + List.length eb)).H,
    [(numE (IntKind.i64.wrap (next + (1 : Int))) (4 : Int) ++ numE (↑(List.length eb) : Int) (2 : Int)).length =
    (4 : Nat) + List.length (numE (↑(List.length eb) : Int) (2 : Int)) ∧
  ((numE (IntKind.i64.wrap (next + (1 : Int))) (4 : Int) ++ numE (↑(List.length eb) : Int) (2 : Int)).length +
          List.length eb) *
        (1 : Nat) ≤
      (140737488355328 : Nat) ∧
    (List.all eb fun c => c.length == (1 : Nat)) = true,
      List.length (numE (IntKind.i64.wrap (next + (1 : Int))) (4 : Int)) = (4 : Nat) ∧
  (List.length (numE (IntKind.i64.wrap (next + (1 : Int))) (4 : Int)) +
          List.length (numE (↑(List.length eb) : Int) (2 : Int))) *
        (1 : Nat) ≤
      (140737488355328 : Nat) ∧
    (List.all (numE (↑(List.length eb) : Int) (2 : Int)) fun c => c.length == (1 : Nat)) = true,
      Ret Try.prog (tyOf Try.prog) (49 : Nat) [D.int IntKind.i64 (↑(List.length eb) : Int), D.int IntKind.i64 (2 : Int)] []
  (D.slice true (numE (↑(List.length eb) : Int) (2 : Int)) (some (0 : Nat))) [some (HObj.tok (2 : Nat) (1 : Nat))],
      Ret Try.prog (tyOf Try.prog) (49 : Nat)
  [D.int IntKind.i64 (IntKind.i64.wrap (next + (1 : Int))), D.int IntKind.i64 (4 : Int)] []
  (D.slice true (numE (IntKind.i64.wrap (next + (1 : Int))) (4 : Int)) (some (0 : Nat)))
  [some (HObj.tok (4 : Nat) (1 : Nat))],
      decide ((↑(List.length eb) : Int) > roomU page) = false,
      decide (next ≥ (16384 : Int)) = false,
      (decide (next ≥ (16384 : Int)) == false) = true,
      Ret Try.prog (tyOf Try.prog) (31 : Nat) [D.int IntKind.i64 page] [] (D.int IntKind.i64 (roomU page)) [],
      (decide (next ≥ (16384 : Int)) == false) = true,
      (decide (next ≥ (16384 : Int)) == false) = true,
      (decide (next ≥ (16384 : Int)) == false) = true,
      (decide (next ≥ (16384 : Int)) == false) = true,
      decide (next < (-1 : Int)) = false,
      (decide (next < (-1 : Int)) == false) = true,
      (decide (next < (-1 : Int)) == false) = true,
      (!mayU page) = false,
      ((!mayU page) == false) = true,
      ((!mayU page) == false) = true,
      Ret Try.prog (tyOf Try.prog) (48 : Nat) [D.int IntKind.i64 page] [] (D.bool (mayU page)) []]) by kernel_rfl)
    (all_cons.2 ⟨h4, all_cons.2 ⟨h5, all_cons.2 ⟨h6, all_cons.2 ⟨h7, all_cons.2 ⟨b3, all_cons.2 ⟨b2, all_cons.2 ⟨(by rw [b2]; rfl), all_cons.2 ⟨(room31 _), all_cons.2 ⟨(by rw [b2]; rfl), all_cons.2 ⟨(by rw [b2]; rfl), all_cons.2 ⟨(by rw [b2]; rfl), all_cons.2 ⟨(by rw [b2]; rfl), all_cons.2 ⟨b1, all_cons.2 ⟨(by rw [b1]; rfl), all_cons.2 ⟨(by rw [b1]; rfl), all_cons.2 ⟨(by rw [b0]; rfl), all_cons.2 ⟨(by rw [b0]; rfl), all_cons.2 ⟨(by rw [b0]; rfl), all_cons.2 ⟨(may48 _), all_nil.2 trivial⟩⟩⟩⟩⟩⟩⟩⟩⟩⟩⟩⟩⟩⟩⟩⟩⟩⟩⟩) (show (0 : Nat) ≤ 1 by decide) g)

theorem closeR_in_4 {layE : Es → Nat → Nat → Int → Es} {numE : Int → Int → Es} {sumE : Es → Int} {readE : Es → Int} {getE : Es → Int → Int → Int} {page : Int} {next : Int} {xb : Bool} {eb : Es}
    (h0 : mayU page = false) :
    Ret Try.prog (tyOf Try.prog) 29 [D.int IntKind.i64 page, D.int IntKind.i64 next, D.slice xb eb none] [] (D.tuple [D.slice false [] none, D.int IntKind.i64 (1 : Int)]) [] :=
  have b0 : mayU page = false := h0
  fin_call closeR_fn closeR_body closeR_name (fin_ret (h := 0) (closeR_ok layE numE sumE readE getE page next xb eb) (show outF (tyOf Try.prog) (fnAt Try.prog 29) 0 (closeR_run layE numE sumE readE getE page next xb eb (.code (bodyAt Try.prog 29)) [] (beginE (fnAt Try.prog 29) [D.int IntKind.i64 page, D.int IntKind.i64 next, D.slice xb eb none] []) (.path [false, false, true, false, false, true, false, false, false, false, false, true, true])) = some (D.tuple [D.slice false [] none, D.int IntKind.i64 (1 : Int)], [],
    [true = true,
      true = true,
      false = false,
      false = false,
      false = false,
      false = false,
      false = false,
      true = true,
      false = false,
      false = false,
      (!mayU page) = true,
      ((!mayU page) == false) = false,
      ((!mayU page) == false) = false,
      Ret Try.prog (tyOf Try.prog) (48 : Nat) [D.int IntKind.i64 page] [] (D.bool (mayU page)) []]) by kernel_rfl)
    (all_cons.2 ⟨rfl, all_cons.2 ⟨rfl, all_cons.2 ⟨rfl, all_cons.2 ⟨rfl, all_cons.2 ⟨rfl, all_cons.2 ⟨rfl, all_cons.2 ⟨rfl, all_cons.2 ⟨rfl, all_cons.2 ⟨rfl, all_cons.2 ⟨rfl, all_cons.2 ⟨(by rw [b0]; rfl), all_cons.2 ⟨(by rw [b0]; rfl), all_cons.2 ⟨(by rw [b0]; rfl), all_cons.2 ⟨(may48 _), all_nil.2 trivial⟩⟩⟩⟩⟩⟩⟩⟩⟩⟩⟩⟩⟩⟩))

theorem closeR_0_0 {layE : Es → Nat → Nat → Int → Es} {numE : Int → Int → Es} {sumE : Es → Int} {readE : Es → Int} {getE : Es → Int → Int → Int} {page : Int} {next : Int} {xb : Bool} {eb : Es} {x8 : Bool} {e8 : List (List D)} {kh : Nat} {r : D} {H1 : GD.Heap}
    (h0 : (↑e8.length : Int) < IntKind.i64.wrap (page - (4 : Int)))
    (h1 : e8.length = kh ∧ (e8.length + (1 : Nat)) * (1 : Nat) ≤ (140737488355328 : Nat) ∧ true = true)
    (g : closeR_at0 layE numE sumE readE getE page next xb eb (x8 || true) (e8 ++ [[D.int IntKind.u8 (0 : Int)]]) (kh + (1 : Nat)) r H1) :
    closeR_at0 layE numE sumE readE getE page next xb eb x8 e8 kh r H1 :=
  have b0 : decide ((↑e8.length : Int) < IntKind.i64.wrap (page - (4 : Int))) = true := decide_eq_true h0
  fin_loop (fin_stop (F := (fun _ => false)) (h := 1) (keep := [0, 8]) (closeR_ok layE numE sumE readE getE page next xb eb) (show cutX (fun _ => false) [0, 8] 1 (closeR_run layE numE sumE readE getE page next xb eb (.code closeR_l0) (.lp closeR_l0 :: closeR_k0) (closeR_s0 layE numE sumE readE getE page next xb eb x8 e8 kh) (.path [true])) = some (closeR_l0, closeR_k0, (closeR_s0 layE numE sumE readE getE page next xb eb (x8 || true) (e8 ++ [[D.int IntKind.u8 (0 : Int)]]) (kh + (1 : Nat))).env, (closeR_s0 layE numE sumE readE getE page next xb eb (x8 || true) (e8 ++ [[D.int IntKind.u8 (0 : Int)]]) (kh + (1 : Nat))).H,
    [e8.length = kh ∧ (e8.length + (1 : Nat)) * (1 : Nat) ≤ (140737488355328 : Nat) ∧ true = true,
      decide ((↑e8.length : Int) < IntKind.i64.wrap (page - (4 : Int))) = true]) by kernel_rfl)
    (all_cons.2 ⟨h1, all_cons.2 ⟨b0, all_nil.2 trivial⟩⟩) (show (0 : Nat) ≤ 1 by decide) g)

theorem closeR_0_1 {layE : Es → Nat → Nat → Int → Es} {numE : Int → Int → Es} {sumE : Es → Int} {readE : Es → Int} {getE : Es → Int → Int → Int} {page : Int} {next : Int} {xb : Bool} {eb : Es} {x8 : Bool} {e8 : List (List D)} {kh : Nat}
    (h0 : ¬ ((↑e8.length : Int) < IntKind.i64.wrap (page - (4 : Int))))
    (h1 : e8.length = kh ∧
  (e8.length + List.length (numE (IntKind.i64.wrap (sumE e8)) (4 : Int))) * (1 : Nat) ≤ (140737488355328 : Nat) ∧
    (List.all (numE (IntKind.i64.wrap (sumE e8)) (4 : Int)) fun c => c.length == (1 : Nat)) = true)
    (h2 : Ret Try.prog (tyOf Try.prog) (49 : Nat) [D.int IntKind.i64 (IntKind.i64.wrap (sumE e8)), D.int IntKind.i64 (4 : Int)] []
  (D.slice true (numE (IntKind.i64.wrap (sumE e8)) (4 : Int)) (some (0 : Nat))) [some (HObj.tok (4 : Nat) (1 : Nat))])
    (h3 : Ret Try.prog (tyOf Try.prog) (33 : Nat) [D.slice x8 e8 none] [] (D.int IntKind.u32 (sumE e8)) []) :
    closeR_at0 layE numE sumE readE getE page next xb eb x8 e8 kh (D.tuple
  [D.slice (x8 || !List.isEmpty (numE (IntKind.i64.wrap (sumE e8)) (4 : Int)))
      (e8 ++ numE (IntKind.i64.wrap (sumE e8)) (4 : Int)) (some (0 : Nat)),
    D.int IntKind.i64 (0 : Int)]) [some (HObj.tok (kh + List.length (numE (IntKind.i64.wrap (sumE e8)) (4 : Int))) (1 : Nat))] :=
  have b0 : decide ((↑e8.length : Int) < IntKind.i64.wrap (page - (4 : Int))) = false := decide_eq_false h0
  fin_loop (fin_ret (h := 1) (closeR_ok layE numE sumE readE getE page next xb eb) (show outF (tyOf Try.prog) (fnAt Try.prog 29) 1 (closeR_run layE numE sumE readE getE page next xb eb (.code closeR_l0) (.lp closeR_l0 :: closeR_k0) (closeR_s0 layE numE sumE readE getE page next xb eb x8 e8 kh) (.path [false])) = some (D.tuple
  [D.slice (x8 || !List.isEmpty (numE (IntKind.i64.wrap (sumE e8)) (4 : Int)))
      (e8 ++ numE (IntKind.i64.wrap (sumE e8)) (4 : Int)) (some (0 : Nat)),
    D.int IntKind.i64 (0 : Int)], [some (HObj.tok (kh + List.length (numE (IntKind.i64.wrap (sumE e8)) (4 : Int))) (1 : Nat))],
    [e8.length = kh ∧
  (e8.length + List.length (numE (IntKind.i64.wrap (sumE e8)) (4 : Int))) * (1 : Nat) ≤ (140737488355328 : Nat) ∧
    (List.all (numE (IntKind.i64.wrap (sumE e8)) (4 : Int)) fun c => c.length == (1 : Nat)) = true,
      Ret Try.prog (tyOf Try.prog) (49 : Nat) [D.int IntKind.i64 (IntKind.i64.wrap (sumE e8)), D.int IntKind.i64 (4 : Int)] []
  (D.slice true (numE (IntKind.i64.wrap (sumE e8)) (4 : Int)) (some (0 : Nat))) [some (HObj.tok (4 : Nat) (1 : Nat))],
      Ret Try.prog (tyOf Try.prog) (33 : Nat) [D.slice x8 e8 none] [] (D.int IntKind.u32 (sumE e8)) [],
      decide ((↑e8.length : Int) < IntKind.i64.wrap (page - (4 : Int))) = false]) by kernel_rfl)
    (all_cons.2 ⟨h1, all_cons.2 ⟨h2, all_cons.2 ⟨h3, all_cons.2 ⟨b0, all_nil.2 trivial⟩⟩⟩⟩))


/-! ### function 34 -/
theorem open_fn : Try.prog.funcs[(34 : Nat)]? = some (fnAt Try.prog 34) := by kernel_rfl
theorem open_body : (fnAt Try.prog 34).body = some (bodyAt Try.prog 34) := by kernel_rfl
theorem open_name : ((fnAt Try.prog 34).name == "runtime.NumGoroutine") = false := by kernel_rfl
noncomputable def open_C (layE : Es → Nat → Nat → Int → Es) (numE : Int → Int → Es) (sumE : Es → Int) (readE : Es → Int) (getE : Es → Int → Int → Int) (xb : Bool) (es : Es) : Cf := cfg Try.prog (hintOf []) (tOpen layE numE sumE readE getE xb es) (fun _ => false) 2 true (fun _ => false)
theorem open_ok (layE : Es → Nat → Nat → Int → Es) (numE : Int → Int → Es) (sumE : Es → Int) (readE : Es → Int) (getE : Es → Int → Int → Int) (xb : Bool) (es : Es) : CfOk (open_C layE numE sumE readE getE xb es) := cfg_ok (by kernel_rfl)
noncomputable def open_run (layE : Es → Nat → Nat → Int → Es) (numE : Int → Int → Es) (sumE : Es → Int) (readE : Es → Int) (getE : Es → Int → Int → Int) (xb : Bool) (es : Es) (cur : Cur) (k : List It) (s : St) (or : GD.Or) := runE (open_C layE numE sumE readE getE xb es) (callE (open_C layE numE sumE readE getE xb es) 100000 10) 34 100000 cur k s or []

theorem open_in_0 {layE : Es → Nat → Nat → Int → Es} {numE : Int → Int → Es} {sumE : Es → Int} {readE : Es → Int} {getE : Es → Int → Int → Int} {xb : Bool} {es : Es}
    (h0 : mayU (↑(List.length es) : Int) = true)
    (h1 : readE
  (List.drop (↑(List.take (IntKind.i64.wrap ((↑(List.length es) : Int) - (4 : Int))).toNat es).length : Int).toNat
    (List.take (↑(List.length es) : Int).toNat es)) ≠ IntKind.i64.wrap (sumE (List.take (IntKind.i64.wrap ((↑(List.length es) : Int) - (4 : Int))).toNat es)))
    (h2 : Ret Try.prog (tyOf Try.prog) (32 : Nat)
  [D.slice xb (List.take (IntKind.i64.wrap ((↑(List.length es) : Int) - (4 : Int))).toNat es) none] []
  (D.int IntKind.u32 (sumE (List.take (IntKind.i64.wrap ((↑(List.length es) : Int) - (4 : Int))).toNat es))) [])
    (h3 : Ret Try.prog (tyOf Try.prog) (50 : Nat)
  [D.slice xb
      (List.drop (↑(List.take (IntKind.i64.wrap ((↑(List.length es) : Int) - (4 : Int))).toNat es).length : Int).toNat
        (List.take (↑(List.length es) : Int).toNat es))
      none]
  []
  (D.int IntKind.i64
    (readE
      (List.drop (↑(List.take (IntKind.i64.wrap ((↑(List.length es) : Int) - (4 : Int))).toNat es).length : Int).toNat
        (List.take (↑(List.length es) : Int).toNat es))))
  [])
    (h4 : (0 : Int) ≤ (↑(List.take (IntKind.i64.wrap ((↑(List.length es) : Int) - (4 : Int))).toNat es).length : Int) ∧
  (↑(List.take (IntKind.i64.wrap ((↑(List.length es) : Int) - (4 : Int))).toNat es).length : Int) ≤
      (↑(List.length es) : Int) ∧
    (↑(List.length es) : Int) ≤ (↑(List.length es) : Int) ∧ (List.all es fun c => c.length == (1 : Nat)) = true)
    (h5 : (0 : Int) ≤ IntKind.i64.wrap ((↑(List.length es) : Int) - (4 : Int)) ∧
  IntKind.i64.wrap ((↑(List.length es) : Int) - (4 : Int)) ≤ (↑(List.length es) : Int)) :
    Ret Try.prog (tyOf Try.prog) 34 [D.slice xb es none] [] (D.tuple [D.int IntKind.i64 (0 : Int), D.slice false [] none, D.int IntKind.i64 (18 : Int)]) [] :=
  have b0 : mayU (↑(List.length es) : Int) = true := h0
  have b1 : (readE
      (List.drop (↑(List.take (IntKind.i64.wrap ((↑(List.length es) : Int) - (4 : Int))).toNat es).length : Int).toNat
        (List.take (↑(List.length es) : Int).toNat es)) !=
    IntKind.i64.wrap (sumE (List.take (IntKind.i64.wrap ((↑(List.length es) : Int) - (4 : Int))).toNat es))) =
  true := bne_iff_ne.2 h1
  fin_call open_fn open_body open_name (fin_ret (h := 0) (open_ok layE numE sumE readE getE xb es) (show outF (tyOf Try.prog) (fnAt Try.prog 34) 0 (open_run layE numE sumE readE getE xb es (.code (bodyAt Try.prog 34)) [] (beginE (fnAt Try.prog 34) [D.slice xb es none] []) (.path [false, true])) = some (D.tuple [D.int IntKind.i64 (0 : Int), D.slice false [] none, D.int IntKind.i64 (18 : Int)], [],
    [(readE
      (List.drop (↑(List.take (IntKind.i64.wrap ((↑(List.length es) : Int) - (4 : Int))).toNat es).length : Int).toNat
        (List.take (↑(List.length es) : Int).toNat es)) !=
    IntKind.i64.wrap (sumE (List.take (IntKind.i64.wrap ((↑(List.length es) : Int) - (4 : Int))).toNat es))) =
  true,
      Ret Try.prog (tyOf Try.prog) (32 : Nat)
  [D.slice xb (List.take (IntKind.i64.wrap ((↑(List.length es) : Int) - (4 : Int))).toNat es) none] []
  (D.int IntKind.u32 (sumE (List.take (IntKind.i64.wrap ((↑(List.length es) : Int) - (4 : Int))).toNat es))) [],
      Ret Try.prog (tyOf Try.prog) (50 : Nat)
  [D.slice xb
      (List.drop (↑(List.take (IntKind.i64.wrap ((↑(List.length es) : Int) - (4 : Int))).toNat es).length : Int).toNat
        (List.take (↑(List.length es) : Int).toNat es))
      none]
  []
  (D.int IntKind.i64
    (readE
      (List.drop (↑(List.take (IntKind.i64.wrap ((↑(List.length es) : Int) - (4 : Int))).toNat es).length : Int).toNat
        (List.take (↑(List.length es) : Int).toNat es))))
  [],
      (0 : Int) ≤ (↑(List.take (IntKind.i64.wrap ((↑(List.length es) : Int) - (4 : Int))).toNat es).length : Int) ∧
  (↑(List.take (IntKind.i64.wrap ((↑(List.length es) : Int) - (4 : Int))).toNat es).length : Int) ≤
      (↑(List.length es) : Int) ∧
    (↑(List.length es) : Int) ≤ (↑(List.length es) : Int) ∧ (List.all es fun c => c.length == (1 : Nat)) = true,
      (0 : Int) ≤ IntKind.i64.wrap ((↑(List.length es) : Int) - (4 : Int)) ∧
  IntKind.i64.wrap ((↑(List.length es) : Int) - (4 : Int)) ≤ (↑(List.length es) : Int),
      (!mayU (↑(List.length es) : Int)) = false,
      Ret Try.prog (tyOf Try.prog) (46 : Nat) [D.int IntKind.i64 (↑(List.length es) : Int)] []
  (D.bool (mayU (↑(List.length es) : Int))) []]) by kernel_rfl)
    (all_cons.2 ⟨b1, all_cons.2 ⟨h2, all_cons.2 ⟨h3, all_cons.2 ⟨h4, all_cons.2 ⟨h5, all_cons.2 ⟨(by rw [b0]; rfl), all_cons.2 ⟨(may46 _), all_nil.2 trivial⟩⟩⟩⟩⟩⟩⟩))

theorem open_in_1 {layE : Es → Nat → Nat → Int → Es} {numE : Int → Int → Es} {sumE : Es → Int} {readE : Es → Int} {getE : Es → Int → Int → Int} {xb : Bool} {es : Es}
    (h0 : mayU (↑(List.length es) : Int) = true)
    (h1 : readE
  (List.drop (↑(List.take (IntKind.i64.wrap ((↑(List.length es) : Int) - (4 : Int))).toNat es).length : Int).toNat
    (List.take (↑(List.length es) : Int).toNat es)) = IntKind.i64.wrap (sumE (List.take (IntKind.i64.wrap ((↑(List.length es) : Int) - (4 : Int))).toNat es)))
    (h2 : readE (List.take (4 : Nat) (List.take (IntKind.i64.wrap ((↑(List.length es) : Int) - (4 : Int))).toNat es)) >
  (16384 : Int))
    (h3 : decide
    (readE (List.take (4 : Nat) (List.take (IntKind.i64.wrap ((↑(List.length es) : Int) - (4 : Int))).toNat es)) >
      (16384 : Int)) =
  true)
    (h4 : (decide
      (readE (List.take (4 : Nat) (List.take (IntKind.i64.wrap ((↑(List.length es) : Int) - (4 : Int))).toNat es)) >
        (16384 : Int)) ==
    false) =
  false)
    (h5 : Ret Try.prog (tyOf Try.prog) (50 : Nat)
  [D.slice xb
      (List.drop (4 : Nat)
        (List.take (6 : Nat) (List.take (IntKind.i64.wrap ((↑(List.length es) : Int) - (4 : Int))).toNat es)))
      none]
  []
  (D.int IntKind.i64
    (readE
      (List.drop (4 : Nat)
        (List.take (6 : Nat) (List.take (IntKind.i64.wrap ((↑(List.length es) : Int) - (4 : Int))).toNat es)))))
  [])
    (h6 : (0 : Int) ≤ (4 : Int) ∧
  (4 : Int) ≤ (6 : Int) ∧
    (6 : Int) ≤ (↑(List.take (IntKind.i64.wrap ((↑(List.length es) : Int) - (4 : Int))).toNat es).length : Int) ∧
      ((List.take (IntKind.i64.wrap ((↑(List.length es) : Int) - (4 : Int))).toNat es).all fun c =>
          c.length == (1 : Nat)) =
        true)
    (h7 : Ret Try.prog (tyOf Try.prog) (50 : Nat)
  [D.slice xb (List.take (4 : Nat) (List.take (IntKind.i64.wrap ((↑(List.length es) : Int) - (4 : Int))).toNat es))
      none]
  []
  (D.int IntKind.i64
    (readE (List.take (4 : Nat) (List.take (IntKind.i64.wrap ((↑(List.length es) : Int) - (4 : Int))).toNat es))))
  [])
    (h8 : (0 : Int) ≤ (4 : Int) ∧
  (4 : Int) ≤ (↑(List.take (IntKind.i64.wrap ((↑(List.length es) : Int) - (4 : Int))).toNat es).length : Int))
    (h9 : Ret Try.prog (tyOf Try.prog) (32 : Nat)
  [D.slice xb (List.take (IntKind.i64.wrap ((↑(List.length es) : Int) - (4 : Int))).toNat es) none] []
  (D.int IntKind.u32 (sumE (List.take (IntKind.i64.wrap ((↑(List.length es) : Int) - (4 : Int))).toNat es))) [])
    (h10 : Ret Try.prog (tyOf Try.prog) (50 : Nat)
  [D.slice xb
      (List.drop (↑(List.take (IntKind.i64.wrap ((↑(List.length es) : Int) - (4 : Int))).toNat es).length : Int).toNat
        (List.take (↑(List.length es) : Int).toNat es))
      none]
  []
  (D.int IntKind.i64
    (readE
      (List.drop (↑(List.take (IntKind.i64.wrap ((↑(List.length es) : Int) - (4 : Int))).toNat es).length : Int).toNat
        (List.take (↑(List.length es) : Int).toNat es))))
  [])
    (h11 : (0 : Int) ≤ (↑(List.take (IntKind.i64.wrap ((↑(List.length es) : Int) - (4 : Int))).toNat es).length : Int) ∧
  (↑(List.take (IntKind.i64.wrap ((↑(List.length es) : Int) - (4 : Int))).toNat es).length : Int) ≤
      (↑(List.length es) : Int) ∧
    (↑(List.length es) : Int) ≤ (↑(List.length es) : Int) ∧ (List.all es fun c => c.length == (1 : Nat)) = true)
    (h12 : (0 : Int) ≤ IntKind.i64.wrap ((↑(List.length es) : Int) - (4 : Int)) ∧
  IntKind.i64.wrap ((↑(List.length es) : Int) - (4 : Int)) ≤ (↑(List.length es) : Int)) :
    Ret Try.prog (tyOf Try.prog) 34 [D.slice xb es none] [] (D.tuple [D.int IntKind.i64 (0 : Int), D.slice false [] none, D.int IntKind.i64 (4 : Int)]) [] :=
  have b0 : mayU (↑(List.length es) : Int) = true := h0
  have b1 : (readE
      (List.drop (↑(List.take (IntKind.i64.wrap ((↑(List.length es) : Int) - (4 : Int))).toNat es).length : Int).toNat
        (List.take (↑(List.length es) : Int).toNat es)) !=
    IntKind.i64.wrap (sumE (List.take (IntKind.i64.wrap ((↑(List.length es) : Int) - (4 : Int))).toNat es))) =
  false := (by rw [bne, Bool.not_eq_false']; exact beq_iff_eq.2 h1)
  have b2 : decide
    (readE (List.take (4 : Nat) (List.take (IntKind.i64.wrap ((↑(List.length es) : Int) - (4 : Int))).toNat es)) >
      (16384 : Int)) =
  true := decide_eq_true h2
  fin_call open_fn open_body open_name (fin_ret (h := 0) (open_ok layE numE sumE readE getE xb es) (show outF (tyOf Try.prog) (fnAt Try.prog 34) 0 (open_run layE numE sumE readE getE xb es (.code (bodyAt Try.prog 34)) [] (beginE (fnAt Try.prog 34) [D.slice xb es none] []) (.path [false, false, false, false, false, false, false, true, true])) = some (D.tuple [D.int IntKind.i64 (0 : Int), D.slice false [] none, D.int IntKind.i64 (4 : Int)], [],
    [true = true,
      decide
    (readE (List.take (4 : Nat) (List.take (IntKind.i64.wrap ((↑(List.length es) : Int) - (4 : Int))).toNat es)) >
      (16384 : Int)) =
  true,
      (decide
      (readE (List.take (4 : Nat) (List.take (IntKind.i64.wrap ((↑(List.length es) : Int) - (4 : Int))).toNat es)) >
        (16384 : Int)) ==
    false) =
  false,
      (decide
      (readE (List.take (4 : Nat) (List.take (IntKind.i64.wrap ((↑(List.length es) : Int) - (4 : Int))).toNat es)) >
        (16384 : Int)) ==
    false) =
  false,
      (decide
      (readE (List.take (4 : Nat) (List.take (IntKind.i64.wrap ((↑(List.length es) : Int) - (4 : Int))).toNat es)) >
        (16384 : Int)) ==
    false) =
  false,
      (decide
      (readE (List.take (4 : Nat) (List.take (IntKind.i64.wrap ((↑(List.length es) : Int) - (4 : Int))).toNat es)) >
        (16384 : Int)) ==
    false) =
  false,
      (decide
      (readE (List.take (4 : Nat) (List.take (IntKind.i64.wrap ((↑(List.length es) : Int) - (4 : Int))).toNat es)) >
        (16384 : Int)) ==
    false) =
  false,
      Ret Try.prog (tyOf Try.prog) (50 : Nat)
  [D.slice xb
      (List.drop (4 : Nat)
        (List.take (6 : Nat) (List.take (IntKind.i64.wrap ((↑(List.length es) : Int) - (4 : Int))).toNat es)))
      none]
  []
  (D.int IntKind.i64
    (readE
      (List.drop (4 : Nat)
        (List.take (6 : Nat) (List.take (IntKind.i64.wrap ((↑(List.length es) : Int) - (4 : Int))).toNat es)))))
  [],
      (0 : Int) ≤ (4 : Int) ∧
  (4 : Int) ≤ (6 : Int) ∧
    (6 : Int) ≤ (↑(List.take (IntKind.i64.wrap ((↑(List.length es) : Int) - (4 : Int))).toNat es).length : Int) ∧
      ((List.take (IntKind.i64.wrap ((↑(List.length es) : Int) - (4 : Int))).toNat es).all fun c =>
          c.length == (1 : Nat)) =
        true,
      Ret Try.prog (tyOf Try.prog) (50 : Nat)
  [D.slice xb (List.take (4 : Nat) (List.take (IntKind.i64.wrap ((↑(List.length es) : Int) - (4 : Int))).toNat es))
      none]
  []
  (D.int IntKind.i64
    (readE (List.take (4 : Nat) (List.take (IntKind.i64.wrap ((↑(List.length es) : Int) - (4 : Int))).toNat es))))
  [],
      (0 : Int) ≤ (4 : Int) ∧
  (4 : Int) ≤ (↑(List.take (IntKind.i64.wrap ((↑(List.length es) : Int) - (4 : Int))).toNat es).length : Int),
      (readE
      (List.drop (↑(List.take (IntKind.i64.wrap ((↑(List.length es) : Int) - (4 : Int))).toNat es).length : Int).toNat
        (List.take (↑(List.length es) : Int).toNat es)) !=
    IntKind.i64.wrap (sumE (List.take (IntKind.i64.wrap ((↑(List.length es) : Int) - (4 : Int))).toNat es))) =
  false,
      Ret Try.prog (tyOf Try.prog) (32 : Nat)
  [D.slice xb (List.take (IntKind.i64.wrap ((↑(List.length es) : Int) - (4 : Int))).toNat es) none] []
  (D.int IntKind.u32 (sumE (List.take (IntKind.i64.wrap ((↑(List.length es) : Int) - (4 : Int))).toNat es))) [],
      Ret Try.prog (tyOf Try.prog) (50 : Nat)
  [D.slice xb
      (List.drop (↑(List.take (IntKind.i64.wrap ((↑(List.length es) : Int) - (4 : Int))).toNat es).length : Int).toNat
        (List.take (↑(List.length es) : Int).toNat es))
      none]
  []
  (D.int IntKind.i64
    (readE
      (List.drop (↑(List.take (IntKind.i64.wrap ((↑(List.length es) : Int) - (4 : Int))).toNat es).length : Int).toNat
        (List.take (↑(List.length es) : Int).toNat es))))
  [],
      (0 : Int) ≤ (↑(List.take (IntKind.i64.wrap ((↑(List.length es) : Int) - (4 : Int))).toNat es).length : Int) ∧
  (↑(List.take (IntKind.i64.wrap ((↑(List.length es) : Int) - (4 : Int))).toNat es).length : Int) ≤
      (↑(List.length es) : Int) ∧
    (↑(List.length es) : Int) ≤ (↑(List.length es) : Int) ∧ (List.all es fun c => c.length == (1 : Nat)) = true,
      (0 : Int) ≤ IntKind.i64.wrap ((↑(List.length es) : Int) - (4 : Int)) ∧
  IntKind.i64.wrap ((↑(List.length es) : Int) - (4 : Int)) ≤ (↑(List.length es) : Int),
      (!mayU (↑(List.length es) : Int)) = false,
      Ret Try.prog (tyOf Try.prog) (46 : Nat) [D.int IntKind.i64 (↑(List.length es) : Int)] []
  (D.bool (mayU (↑(List.length es) : Int))) []]) by kernel_rfl)
    (all_cons.2 ⟨rfl, all_cons.2 ⟨h3, all_cons.2 ⟨h4, all_cons.2 ⟨h4, all_cons.2 ⟨h4, all_cons.2 ⟨h4, all_cons.2 ⟨h4, all_cons.2 ⟨h5, all_cons.2 ⟨h6, all_cons.2 ⟨h7, all_cons.2 ⟨h8, all_cons.2 ⟨b1, all_cons.2 ⟨h9, all_cons.2 ⟨h10, all_cons.2 ⟨h11, all_cons.2 ⟨h12, all_cons.2 ⟨(by rw [b0]; rfl), all_cons.2 ⟨(may46 _), all_nil.2 trivial⟩⟩⟩⟩⟩⟩⟩⟩⟩⟩⟩⟩⟩⟩⟩⟩⟩⟩))

theorem open_in_2 {layE : Es → Nat → Nat → Int → Es} {numE : Int → Int → Es} {sumE : Es → Int} {readE : Es → Int} {getE : Es → Int → Int → Int} {xb : Bool} {es : Es}
    (h0 : mayU (↑(List.length es) : Int) = true)
    (h1 : readE
  (List.drop (↑(List.take (IntKind.i64.wrap ((↑(List.length es) : Int) - (4 : Int))).toNat es).length : Int).toNat
    (List.take (↑(List.length es) : Int).toNat es)) = IntKind.i64.wrap (sumE (List.take (IntKind.i64.wrap ((↑(List.length es) : Int) - (4 : Int))).toNat es)))
    (h2 : ¬ (readE (List.take (4 : Nat) (List.take (IntKind.i64.wrap ((↑(List.length es) : Int) - (4 : Int))).toNat es)) >
  (16384 : Int)))
    (h3 : readE
    (List.drop (4 : Nat)
      (List.take (6 : Nat) (List.take (IntKind.i64.wrap ((↑(List.length es) : Int) - (4 : Int))).toNat es))) >
  roomU (↑(List.length es) : Int))
    (h4 : decide
    (readE
        (List.drop (4 : Nat)
          (List.take (6 : Nat) (List.take (IntKind.i64.wrap ((↑(List.length es) : Int) - (4 : Int))).toNat es))) >
      roomU (↑(List.length es) : Int)) =
  true)
    (h5 : decide
    (readE (List.take (4 : Nat) (List.take (IntKind.i64.wrap ((↑(List.length es) : Int) - (4 : Int))).toNat es)) >
      (16384 : Int)) =
  false)
    (h6 : (decide
      (readE (List.take (4 : Nat) (List.take (IntKind.i64.wrap ((↑(List.length es) : Int) - (4 : Int))).toNat es)) >
        (16384 : Int)) ==
    false) =
  true)
    (h7 : Ret Try.prog (tyOf Try.prog) (50 : Nat)
  [D.slice xb
      (List.drop (4 : Nat)
        (List.take (6 : Nat) (List.take (IntKind.i64.wrap ((↑(List.length es) : Int) - (4 : Int))).toNat es)))
      none]
  []
  (D.int IntKind.i64
    (readE
      (List.drop (4 : Nat)
        (List.take (6 : Nat) (List.take (IntKind.i64.wrap ((↑(List.length es) : Int) - (4 : Int))).toNat es)))))
  [])
    (h8 : (0 : Int) ≤ (4 : Int) ∧
  (4 : Int) ≤ (6 : Int) ∧
    (6 : Int) ≤ (↑(List.take (IntKind.i64.wrap ((↑(List.length es) : Int) - (4 : Int))).toNat es).length : Int) ∧
      ((List.take (IntKind.i64.wrap ((↑(List.length es) : Int) - (4 : Int))).toNat es).all fun c =>
          c.length == (1 : Nat)) =
        true)
    (h9 : Ret Try.prog (tyOf Try.prog) (50 : Nat)
  [D.slice xb (List.take (4 : Nat) (List.take (IntKind.i64.wrap ((↑(List.length es) : Int) - (4 : Int))).toNat es))
      none]
  []
  (D.int IntKind.i64
    (readE (List.take (4 : Nat) (List.take (IntKind.i64.wrap ((↑(List.length es) : Int) - (4 : Int))).toNat es))))
  [])
    (h10 : (0 : Int) ≤ (4 : Int) ∧
  (4 : Int) ≤ (↑(List.take (IntKind.i64.wrap ((↑(List.length es) : Int) - (4 : Int))).toNat es).length : Int))
    (h11 : Ret Try.prog (tyOf Try.prog) (32 : Nat)
  [D.slice xb (List.take (IntKind.i64.wrap ((↑(List.length es) : Int) - (4 : Int))).toNat es) none] []
  (D.int IntKind.u32 (sumE (List.take (IntKind.i64.wrap ((↑(List.length es) : Int) - (4 : Int))).toNat es))) [])
    (h12 : Ret Try.prog (tyOf Try.prog) (50 : Nat)
  [D.slice xb
      (List.drop (↑(List.take (IntKind.i64.wrap ((↑(List.length es) : Int) - (4 : Int))).toNat es).length : Int).toNat
        (List.take (↑(List.length es) : Int).toNat es))
      none]
  []
  (D.int IntKind.i64
    (readE
      (List.drop (↑(List.take (IntKind.i64.wrap ((↑(List.length es) : Int) - (4 : Int))).toNat es).length : Int).toNat
        (List.take (↑(List.length es) : Int).toNat es))))
  [])
    (h13 : (0 : Int) ≤ (↑(List.take (IntKind.i64.wrap ((↑(List.length es) : Int) - (4 : Int))).toNat es).length : Int) ∧
  (↑(List.take (IntKind.i64.wrap ((↑(List.length es) : Int) - (4 : Int))).toNat es).length : Int) ≤
      (↑(List.length es) : Int) ∧
    (↑(List.length es) : Int) ≤ (↑(List.length es) : Int) ∧ (List.all es fun c => c.length == (1 : Nat)) = true)
    (h14 : (0 : Int) ≤ IntKind.i64.wrap ((↑(List.length es) : Int) - (4 : Int)) ∧
  IntKind.i64.wrap ((↑(List.length es) : Int) - (4 : Int)) ≤ (↑(List.length es) : Int)) :
    Ret Try.prog (tyOf Try.prog) 34 [D.slice xb es none] [] (D.tuple [D.int IntKind.i64 (0 : Int), D.slice false [] none, D.int IntKind.i64 (4 : Int)]) [] :=
  have b0 : mayU (↑(List.length es) : Int) = true := h0
  have b1 : (readE
      (List.drop (↑(List.take (IntKind.i64.wrap ((↑(List.length es) : Int) - (4 : Int))).toNat es).length : Int).toNat
        (List.take (↑(List.length es) : Int).toNat es)) !=
    IntKind.i64.wrap (sumE (List.take (IntKind.i64.wrap ((↑(List.length es) : Int) - (4 : Int))).toNat es))) =
  false := (by rw [bne, Bool.not_eq_false']; exact beq_iff_eq.2 h1)
  have b2 : decide
    (readE (List.take (4 : Nat) (List.take (IntKind.i64.wrap ((↑(List.length es) : Int) - (4 : Int))).toNat es)) >
      (16384 : Int)) =
  false := decide_eq_false h2
  have b3 : decide
    (readE
        (List.drop (4 : Nat)
          (List.take (6 : Nat) (List.take (IntKind.i64.wrap ((↑(List.length es) : Int) - (4 : Int))).toNat es))) >
      roomU (↑(List.length es) : Int)) =
  true := decide_eq_true h3
  fin_call open_fn open_body open_name (fin_ret (h := 0) (open_ok layE numE sumE readE getE xb es) (show outF (tyOf Try.prog) (fnAt Try.prog 34) 0 (open_run layE numE sumE readE getE xb es (.code (bodyAt Try.prog 34)) [] (beginE (fnAt Try.prog 34) [D.slice xb es none] []) (.path [false, false, true, true, true, true, true, false, true])) = some (D.tuple [D.int IntKind.i64 (0 : Int), D.slice false [] none, D.int IntKind.i64 (4 : Int)], [],
    [decide
    (readE
        (List.drop (4 : Nat)
          (List.take (6 : Nat) (List.take (IntKind.i64.wrap ((↑(List.length es) : Int) - (4 : Int))).toNat es))) >
      roomU (↑(List.length es) : Int)) =
  true,
      decide
    (readE (List.take (4 : Nat) (List.take (IntKind.i64.wrap ((↑(List.length es) : Int) - (4 : Int))).toNat es)) >
      (16384 : Int)) =
  false,
      (decide
      (readE (List.take (4 : Nat) (List.take (IntKind.i64.wrap ((↑(List.length es) : Int) - (4 : Int))).toNat es)) >
        (16384 : Int)) ==
    false) =
  true,
      Ret Try.prog (tyOf Try.prog) (30 : Nat) [D.int IntKind.i64 (↑(List.length es) : Int)] []
  (D.int IntKind.i64 (roomU (↑(List.length es) : Int))) [],
      (decide
      (readE (List.take (4 : Nat) (List.take (IntKind.i64.wrap ((↑(List.length es) : Int) - (4 : Int))).toNat es)) >
        (16384 : Int)) ==
    false) =
  true,
      (decide
      (readE (List.take (4 : Nat) (List.take (IntKind.i64.wrap ((↑(List.length es) : Int) - (4 : Int))).toNat es)) >
        (16384 : Int)) ==
    false) =
  true,
      (decide
      (readE (List.take (4 : Nat) (List.take (IntKind.i64.wrap ((↑(List.length es) : Int) - (4 : Int))).toNat es)) >
        (16384 : Int)) ==
    false) =
  true,
      (decide
      (readE (List.take (4 : Nat) (List.take (IntKind.i64.wrap ((↑(List.length es) : Int) - (4 : Int))).toNat es)) >
        (16384 : Int)) ==
    false) =
  true,
      Ret Try.prog (tyOf Try.prog) (50 : Nat)
  [D.slice xb
      (List.drop (4 : Nat)
        (List.take (6 : Nat) (List.take (IntKind.i64.wrap ((↑(List.length es) : Int) - (4 : Int))).toNat es)))
      none]
  []
  (D.int IntKind.i64
    (readE
      (List.drop (4 : Nat)
        (List.take (6 : Nat) (List.take (IntKind.i64.wrap ((↑(List.length es) : Int) - (4 : Int))).toNat es)))))
  [],
      (0 : Int) ≤ (4 : Int) ∧
  (4 : Int) ≤ (6 : Int) ∧
    (6 : Int) ≤ (↑(List.take (IntKind.i64.wrap ((↑(List.length es) : Int) - (4 : Int))).toNat es).length : Int) ∧
      ((List.take (IntKind.i64.wrap ((↑(List.length es) : Int) - (4 : Int))).toNat es).all fun c =>
          c.length == (1 : Nat)) =
        true,
      Ret Try.prog (tyOf Try.prog) (50 : Nat)
  [D.slice xb (List.take (4 : Nat) (List.take (IntKind.i64.wrap ((↑(List.length es) : Int) - (4 : Int))).toNat es))
      none]
  []
  (D.int IntKind.i64
    (readE (List.take (4 : Nat) (List.take (IntKind.i64.wrap ((↑(List.length es) : Int) - (4 : Int))).toNat es))))
  [],
      (0 : Int) ≤ (4 : Int) ∧
  (4 : Int) ≤ (↑(List.take (IntKind.i64.wrap ((↑(List.length es) : Int) - (4 : Int))).toNat es).length : Int),
      (readE
      (List.drop (↑(List.take (IntKind.i64.wrap ((↑(List.length es) : Int) - (4 : Int))).toNat es).length : Int).toNat
        (List.take (↑(List.length es) : Int).toNat es)) !=
    IntKind.i64.wrap (sumE (List.take (IntKind.i64.wrap ((↑(List.length es) : Int) - (4 : Int))).toNat es))) =
  false,
      Ret Try.prog (tyOf Try.prog) (32 : Nat)
  [D.slice xb (List.take (IntKind.i64.wrap ((↑(List.length es) : Int) - (4 : Int))).toNat es) none] []
  (D.int IntKind.u32 (sumE (List.take (IntKind.i64.wrap ((↑(List.length es) : Int) - (4 : Int))).toNat es))) [],
      Ret Try.prog (tyOf Try.prog) (50 : Nat)
  [D.slice xb
      (List.drop (↑(List.take (IntKind.i64.wrap ((↑(List.length es) : Int) - (4 : Int))).toNat es).length : Int).toNat
        (List.take (↑(List.length es) : Int).toNat es))
      none]
  []
  (D.int IntKind.i64
    (readE
      (List.drop (↑(List.take (IntKind.i64.wrap ((↑(List.length es) : Int) - (4 : Int))).toNat es).length : Int).toNat
        (List.take (↑(List.length es) : Int).toNat es))))
  [],
      (0 : Int) ≤ (↑(List.take (IntKind.i64.wrap ((↑(List.length es) : Int) - (4 : Int))).toNat es).length : Int) ∧
  (↑(List.take (IntKind.i64.wrap ((↑(List.length es) : Int) - (4 : Int))).toNat es).length : Int) ≤
      (↑(List.length es) : Int) ∧
    (↑(List.length es) : Int) ≤ (↑(List.length es) : Int) ∧ (List.all es fun c => c.length == (1 : Nat)) = true,
      (0 : Int) ≤ IntKind.i64.wrap ((↑(List.length es) : Int) - (4 : Int)) ∧
  IntKind.i64.wrap ((↑(List.length es) : Int) - (4 : Int)) ≤ (↑(List.length es) : Int),
      (!mayU (↑(List.length es) : Int)) = false,
      Ret Try.prog (tyOf Try.prog) (46 : Nat) [D.int IntKind.i64 (↑(List.length es) : Int)] []
  (D.bool (mayU (↑(List.length es) : Int))) []]) by kernel_rfl)
    (all_cons.2 ⟨h4, all_cons.2 ⟨h5, all_cons.2 ⟨h6, all_cons.2 ⟨(room30 _), all_cons.2 ⟨h6, all_cons.2 ⟨h6, all_cons.2 ⟨h6, all_cons.2 ⟨h6, all_cons.2 ⟨h7, all_cons.2 ⟨h8, all_cons.2 ⟨h9, all_cons.2 ⟨h10, all_cons.2 ⟨b1, all_cons.2 ⟨h11, all_cons.2 ⟨h12, all_cons.2 ⟨h13, all_cons.2 ⟨h14, all_cons.2 ⟨(by rw [b0]; rfl), all_cons.2 ⟨(may46 _), all_nil.2 trivial⟩⟩⟩⟩⟩⟩⟩⟩⟩⟩⟩⟩⟩⟩⟩⟩⟩⟩⟩))

theorem open_in_3 {layE : Es → Nat → Nat → Int → Es} {numE : Int → Int → Es} {sumE : Es → Int} {readE : Es → Int} {getE : Es → Int → Int → Int} {xb : Bool} {es : Es}
    (h0 : mayU (↑(List.length es) : Int) = true)
    (h1 : readE
  (List.drop (↑(List.take (IntKind.i64.wrap ((↑(List.length es) : Int) - (4 : Int))).toNat es).length : Int).toNat
    (List.take (↑(List.length es) : Int).toNat es)) = IntKind.i64.wrap (sumE (List.take (IntKind.i64.wrap ((↑(List.length es) : Int) - (4 : Int))).toNat es)))
    (h2 : ¬ (readE (List.take (4 : Nat) (List.take (IntKind.i64.wrap ((↑(List.length es) : Int) - (4 : Int))).toNat es)) >
  (16384 : Int)))
    (h3 : ¬ (readE
    (List.drop (4 : Nat)
      (List.take (6 : Nat) (List.take (IntKind.i64.wrap ((↑(List.length es) : Int) - (4 : Int))).toNat es))) >
  roomU (↑(List.length es) : Int)))
    (h4 : Ret Try.prog (tyOf Try.prog) (51 : Nat)
  [D.slice xb
      (List.drop (6 : Nat)
        (List.take
          (IntKind.i64.wrap
              ((6 : Int) +
                readE
                  (List.drop (4 : Nat)
                    (List.take (6 : Nat)
                      (List.take (IntKind.i64.wrap ((↑(List.length es) : Int) - (4 : Int))).toNat es))))).toNat
          (List.take (IntKind.i64.wrap ((↑(List.length es) : Int) - (4 : Int))).toNat es)))
      none]
  []
  (D.slice xb
    (List.drop (6 : Nat)
      (List.take
        (IntKind.i64.wrap
            ((6 : Int) +
              readE
                (List.drop (4 : Nat)
                  (List.take (6 : Nat)
                    (List.take (IntKind.i64.wrap ((↑(List.length es) : Int) - (4 : Int))).toNat es))))).toNat
        (List.take (IntKind.i64.wrap ((↑(List.length es) : Int) - (4 : Int))).toNat es)))
    none)
  [])
    (h5 : (0 : Int) ≤ (6 : Int) ∧
  (6 : Int) ≤
      IntKind.i64.wrap
        ((6 : Int) +
          readE
            (List.drop (4 : Nat)
              (List.take (6 : Nat) (List.take (IntKind.i64.wrap ((↑(List.length es) : Int) - (4 : Int))).toNat es)))) ∧
    IntKind.i64.wrap
          ((6 : Int) +
            readE
              (List.drop (4 : Nat)
                (List.take (6 : Nat)
                  (List.take (IntKind.i64.wrap ((↑(List.length es) : Int) - (4 : Int))).toNat es)))) ≤
        (↑(List.take (IntKind.i64.wrap ((↑(List.length es) : Int) - (4 : Int))).toNat es).length : Int) ∧
      ((List.take (IntKind.i64.wrap ((↑(List.length es) : Int) - (4 : Int))).toNat es).all fun c =>
          c.length == (1 : Nat)) =
        true)
    (h6 : decide
    (readE
        (List.drop (4 : Nat)
          (List.take (6 : Nat) (List.take (IntKind.i64.wrap ((↑(List.length es) : Int) - (4 : Int))).toNat es))) >
      roomU (↑(List.length es) : Int)) =
  false)
    (h7 : decide
    (readE (List.take (4 : Nat) (List.take (IntKind.i64.wrap ((↑(List.length es) : Int) - (4 : Int))).toNat es)) >
      (16384 : Int)) =
  false)
    (h8 : (decide
      (readE (List.take (4 : Nat) (List.take (IntKind.i64.wrap ((↑(List.length es) : Int) - (4 : Int))).toNat es)) >
        (16384 : Int)) ==
    false) =
  true)
    (h9 : Ret Try.prog (tyOf Try.prog) (50 : Nat)
  [D.slice xb
      (List.drop (4 : Nat)
        (List.take (6 : Nat) (List.take (IntKind.i64.wrap ((↑(List.length es) : Int) - (4 : Int))).toNat es)))
      none]
  []
  (D.int IntKind.i64
    (readE
      (List.drop (4 : Nat)
        (List.take (6 : Nat) (List.take (IntKind.i64.wrap ((↑(List.length es) : Int) - (4 : Int))).toNat es)))))
  [])
    (h10 : (0 : Int) ≤ (4 : Int) ∧
  (4 : Int) ≤ (6 : Int) ∧
    (6 : Int) ≤ (↑(List.take (IntKind.i64.wrap ((↑(List.length es) : Int) - (4 : Int))).toNat es).length : Int) ∧
      ((List.take (IntKind.i64.wrap ((↑(List.length es) : Int) - (4 : Int))).toNat es).all fun c =>
          c.length == (1 : Nat)) =
        true)
    (h11 : Ret Try.prog (tyOf Try.prog) (50 : Nat)
  [D.slice xb (List.take (4 : Nat) (List.take (IntKind.i64.wrap ((↑(List.length es) : Int) - (4 : Int))).toNat es))
      none]
  []
  (D.int IntKind.i64
    (readE (List.take (4 : Nat) (List.take (IntKind.i64.wrap ((↑(List.length es) : Int) - (4 : Int))).toNat es))))
  [])
    (h12 : (0 : Int) ≤ (4 : Int) ∧
  (4 : Int) ≤ (↑(List.take (IntKind.i64.wrap ((↑(List.length es) : Int) - (4 : Int))).toNat es).length : Int))
    (h13 : Ret Try.prog (tyOf Try.prog) (32 : Nat)
  [D.slice xb (List.take (IntKind.i64.wrap ((↑(List.length es) : Int) - (4 : Int))).toNat es) none] []
  (D.int IntKind.u32 (sumE (List.take (IntKind.i64.wrap ((↑(List.length es) : Int) - (4 : Int))).toNat es))) [])
    (h14 : Ret Try.prog (tyOf Try.prog) (50 : Nat)
  [D.slice xb
      (List.drop (↑(List.take (IntKind.i64.wrap ((↑(List.length es) : Int) - (4 : Int))).toNat es).length : Int).toNat
        (List.take (↑(List.length es) : Int).toNat es))
      none]
  []
  (D.int IntKind.i64
    (readE
      (List.drop (↑(List.take (IntKind.i64.wrap ((↑(List.length es) : Int) - (4 : Int))).toNat es).length : Int).toNat
        (List.take (↑(List.length es) : Int).toNat es))))
  [])
    (h15 : (0 : Int) ≤ (↑(List.take (IntKind.i64.wrap ((↑(List.length es) : Int) - (4 : Int))).toNat es).length : Int) ∧
  (↑(List.take (IntKind.i64.wrap ((↑(List.length es) : Int) - (4 : Int))).toNat es).length : Int) ≤
      (↑(List.length es) : Int) ∧
    (↑(List.length es) : Int) ≤ (↑(List.length es) : Int) ∧ (List.all es fun c => c.length == (1 : Nat)) = true)
    (h16 : (0 : Int) ≤ IntKind.i64.wrap ((↑(List.length es) : Int) - (4 : Int)) ∧
  IntKind.i64.wrap ((↑(List.length es) : Int) - (4 : Int)) ≤ (↑(List.length es) : Int)) :
    Ret Try.prog (tyOf Try.prog) 34 [D.slice xb es none] [] (D.tuple
  [D.int IntKind.i64
      (IntKind.i64.wrap
        (readE (List.take (4 : Nat) (List.take (IntKind.i64.wrap ((↑(List.length es) : Int) - (4 : Int))).toNat es)) -
          (1 : Int))),
    D.slice xb
      (List.drop (6 : Nat)
        (List.take
          (IntKind.i64.wrap
              ((6 : Int) +
                readE
                  (List.drop (4 : Nat)
                    (List.take (6 : Nat)
                      (List.take (IntKind.i64.wrap ((↑(List.length es) : Int) - (4 : Int))).toNat es))))).toNat
          (List.take (IntKind.i64.wrap ((↑(List.length es) : Int) - (4 : Int))).toNat es)))
      none,
    D.int IntKind.i64 (0 : Int)]) [] :=
  have b0 : mayU (↑(List.length es) : Int) = true := h0
  have b1 : (readE
      (List.drop (↑(List.take (IntKind.i64.wrap ((↑(List.length es) : Int) - (4 : Int))).toNat es).length : Int).toNat
        (List.take (↑(List.length es) : Int).toNat es)) !=
    IntKind.i64.wrap (sumE (List.take (IntKind.i64.wrap ((↑(List.length es) : Int) - (4 : Int))).toNat es))) =
  false := (by rw [bne, Bool.not_eq_false']; exact beq_iff_eq.2 h1)
  have b2 : decide
    (readE (List.take (4 : Nat) (List.take (IntKind.i64.wrap ((↑(List.length es) : Int) - (4 : Int))).toNat es)) >
      (16384 : Int)) =
  false := decide_eq_false h2
  have b3 : decide
    (readE
        (List.drop (4 : Nat)
          (List.take (6 : Nat) (List.take (IntKind.i64.wrap ((↑(List.length es) : Int) - (4 : Int))).toNat es))) >
      roomU (↑(List.length es) : Int)) =
  false := decide_eq_false h3
  fin_call open_fn open_body open_name (fin_ret (h := 0) (open_ok layE numE sumE readE getE xb es) (show outF (tyOf Try.prog) (fnAt Try.prog 34) 0 (open_run layE numE sumE readE getE xb es (.code (bodyAt Try.prog 34)) [] (beginE (fnAt Try.prog 34) [D.slice xb es none] []) (.path [false, false, true, true, true, true, true, false, false])) = some (D.tuple
  [D.int IntKind.i64
      (IntKind.i64.wrap
        (readE (List.take (4 : Nat) (List.take (IntKind.i64.wrap ((↑(List.length es) : Int) - (4 : Int))).toNat es)) -
          (1 : Int))),
    D.slice xb
      (List.drop (6 : Nat)
        (List.take
          (IntKind.i64.wrap
              ((6 : Int) +
                readE
                  (List.drop (4 : Nat)
                    (List.take (6 : Nat)
                      (List.take (IntKind.i64.wrap ((↑(List.length es) : Int) - (4 : Int))).toNat es))))).toNat
          (List.take (IntKind.i64.wrap ((↑(List.length es) : Int) - (4 : Int))).toNat es)))
      none,
    D.int IntKind.i64 (0 : Int)], [],
    [Ret Try.prog (tyOf Try.prog) (51 : Nat)
  [D.slice xb
      (List.drop (6 : Nat)
        (List.take
          (IntKind.i64.wrap
              ((6 : Int) +
                readE
                  (List.drop (4 : Nat)
                    (List.take (6 : Nat)
                      (List.take (IntKind.i64.wrap ((↑(List.length es) : Int) - (4 : Int))).toNat es))))).toNat
          (List.take (IntKind.i64.wrap ((↑(List.length es) : Int) - (4 : Int))).toNat es)))
      none]
  []
  (D.slice xb
    (List.drop (6 : Nat)
      (List.take
        (IntKind.i64.wrap
            ((6 : Int) +
              readE
                (List.drop (4 : Nat)
                  (List.take (6 : Nat)
                    (List.take (IntKind.i64.wrap ((↑(List.length es) : Int) - (4 : Int))).toNat es))))).toNat
        (List.take (IntKind.i64.wrap ((↑(List.length es) : Int) - (4 : Int))).toNat es)))
    none)
  [],
      (0 : Int) ≤ (6 : Int) ∧
  (6 : Int) ≤
      IntKind.i64.wrap
        ((6 : Int) +
          readE
            (List.drop (4 : Nat)
              (List.take (6 : Nat) (List.take (IntKind.i64.wrap ((↑(List.length es) : Int) - (4 : Int))).toNat es)))) ∧
    IntKind.i64.wrap
          ((6 : Int) +
            readE
              (List.drop (4 : Nat)
                (List.take (6 : Nat)
                  (List.take (IntKind.i64.wrap ((↑(List.length es) : Int) - (4 : Int))).toNat es)))) ≤
        (↑(List.take (IntKind.i64.wrap ((↑(List.length es) : Int) - (4 : Int))).toNat es).length : Int) ∧
      ((List.take (IntKind.i64.wrap ((↑(List.length es) : Int) - (4 : Int))).toNat es).all fun c =>
          c.length == (1 : Nat)) =
        true,
      decide
    (readE
        (List.drop (4 : Nat)
          (List.take (6 : Nat) (List.take (IntKind.i64.wrap ((↑(List.length es) : Int) - (4 : Int))).toNat es))) >
      roomU (↑(List.length es) : Int)) =
  false,
      decide
    (readE (List.take (4 : Nat) (List.take (IntKind.i64.wrap ((↑(List.length es) : Int) - (4 : Int))).toNat es)) >
      (16384 : Int)) =
  false,
      (decide
      (readE (List.take (4 : Nat) (List.take (IntKind.i64.wrap ((↑(List.length es) : Int) - (4 : Int))).toNat es)) >
        (16384 : Int)) ==
    false) =
  true,
      Ret Try.prog (tyOf Try.prog) (30 : Nat) [D.int IntKind.i64 (↑(List.length es) : Int)] []
  (D.int IntKind.i64 (roomU (↑(List.length es) : Int))) [],
      (decide
      (readE (List.take (4 : Nat) (List.take (IntKind.i64.wrap ((↑(List.length es) : Int) - (4 : Int))).toNat es)) >
        (16384 : Int)) ==
    false) =
  true,
      (decide
      (readE (List.take (4 : Nat) (List.take (IntKind.i64.wrap ((↑(List.length es) : Int) - (4 : Int))).toNat es)) >
        (16384 : Int)) ==
    false) =
  true,
      (decide
      (readE (List.take (4 : Nat) (List.take (IntKind.i64.wrap ((↑(List.length es) : Int) - (4 : Int))).toNat es)) >
        (16384 : Int)) ==
    false) =
  true,
      (decide
      (readE (List.take (4 : Nat) (List.take (IntKind.i64.wrap ((↑(List.length es) : Int) - (4 : Int))).toNat es)) >
        (16384 : Int)) ==
    false) =
  true,
      Ret Try.prog (tyOf Try.prog) (50 : Nat)
  [D.slice xb
      (List.drop (4 : Nat)
        (List.take (6 : Nat) (List.take (IntKind.i64.wrap ((↑(List.length es) : Int) - (4 : Int))).toNat es)))
      none]
  []
  (D.int IntKind.i64
    (readE
      (List.drop (4 : Nat)
        (List.take (6 : Nat) (List.take (IntKind.i64.wrap ((↑(List.length es) : Int) - (4 : Int))).toNat es)))))
  [],
      (0 : Int) ≤ (4 : Int) ∧
  (4 : Int) ≤ (6 : Int) ∧
    (6 : Int) ≤ (↑(List.take (IntKind.i64.wrap ((↑(List.length es) : Int) - (4 : Int))).toNat es).length : Int) ∧
      ((List.take (IntKind.i64.wrap ((↑(List.length es) : Int) - (4 : Int))).toNat es).all fun c =>
          c.length == (1 : Nat)) =
        true,
      Ret Try.prog (tyOf Try.prog) (50 : Nat)
  [D.slice xb (List.take (4 : Nat) (List.take (IntKind.i64.wrap ((↑(List.length es) : Int) - (4 : Int))).toNat es))
      none]
  []
  (D.int IntKind.i64
    (readE (List.take (4 : Nat) (List.take (IntKind.i64.wrap ((↑(List.length es) : Int) - (4 : Int))).toNat es))))
  [],
      (0 : Int) ≤ (4 : Int) ∧
  (4 : Int) ≤ (↑(List.take (IntKind.i64.wrap ((↑(List.length es) : Int) - (4 : Int))).toNat es).length : Int),
      (readE
      (List.drop (↑(List.take (IntKind.i64.wrap ((↑(List.length es) : Int) - (4 : Int))).toNat es).length : Int).toNat
        (List.take (↑(List.length es) : Int).toNat es)) !=
    IntKind.i64.wrap (sumE (List.take (IntKind.i64.wrap ((↑(List.length es) : Int) - (4 : Int))).toNat es))) =
  false,
      Ret Try.prog (tyOf Try.prog) (32 : Nat)
  [D.slice xb (List.take (IntKind.i64.wrap ((↑(List.length es) : Int) - (4 : Int))).toNat es) none] []
  (D.int IntKind.u32 (sumE (List.take (IntKind.i64.wrap ((↑(List.length es) : Int) - (4 : Int))).toNat es))) [],
      Ret Try.prog (tyOf Try.prog) (50 : Nat)
  [D.slice xb
      (List.drop (↑(List.take (IntKind.i64.wrap ((↑(List.length es) : Int) - (4 : Int))).toNat es).length : Int).toNat
        (List.take (↑(List.length es) : Int).toNat es))
      none]
  []
  (D.int IntKind.i64
    (readE
      (List.drop (↑(List.take (IntKind.i64.wrap ((↑(List.length es) : Int) - (4 : Int))).toNat es).length : Int).toNat
        (List.take (↑(List.length es) : Int).toNat es))))
  [],
      (0 : Int) ≤ (↑(List.take (IntKind.i64.wrap ((↑(List.length es) : Int) - (4 : Int))).toNat es).length : Int) ∧
  (↑(List.take (IntKind.i64.wrap ((↑(List.length es) : Int) - (4 : Int))).toNat es).length : Int) ≤
      (↑(List.length es) : Int) ∧
    (↑(List.length es) : Int) ≤ (↑(List.length es) : Int) ∧ (List.all es fun c => c.length == (1 : Nat)) = true,
      (0 : Int) ≤ IntKind.i64.wrap ((↑(List.length es) : Int) - (4 : Int)) ∧
  IntKind.i64.wrap ((↑(List.length es) : Int) - (4 : Int)) ≤ (↑(List.length es) : Int),
      (!mayU (↑(List.length es) : Int)) = false,
      Ret Try.prog (tyOf Try.prog) (46 : Nat) [D.int IntKind.i64 (↑(List.length es) : Int)] []
  (D.bool (mayU (↑(List.length es) : Int))) []]) by kernel_rfl)
    (all_cons.2 ⟨h4, all_cons.2 ⟨h5, all_cons.2 ⟨h6, all_cons.2 ⟨h7, all_cons.2 ⟨h8, all_cons.2 ⟨(room30 _), all_cons.2 ⟨h8, all_cons.2 ⟨h8, all_cons.2 ⟨h8, all_cons.2 ⟨h8, all_cons.2 ⟨h9, all_cons.2 ⟨h10, all_cons.2 ⟨h11, all_cons.2 ⟨h12, all_cons.2 ⟨b1, all_cons.2 ⟨h13, all_cons.2 ⟨h14, all_cons.2 ⟨h15, all_cons.2 ⟨h16, all_cons.2 ⟨(by rw [b0]; rfl), all_cons.2 ⟨(may46 _), all_nil.2 trivial⟩⟩⟩⟩⟩⟩⟩⟩⟩⟩⟩⟩⟩⟩⟩⟩⟩⟩⟩⟩⟩))

theorem open_in_4 {layE : Es → Nat → Nat → Int → Es} {numE : Int → Int → Es} {sumE : Es → Int} {readE : Es → Int} {getE : Es → Int → Int → Int} {xb : Bool} {es : Es}
    (h0 : mayU (↑(List.length es) : Int) = false) :
    Ret Try.prog (tyOf Try.prog) 34 [D.slice xb es none] [] (D.tuple [D.int IntKind.i64 (0 : Int), D.slice false [] none, D.int IntKind.i64 (1 : Int)]) [] :=
  have b0 : mayU (↑(List.length es) : Int) = false := h0
  fin_call open_fn open_body open_name (fin_ret (h := 0) (open_ok layE numE sumE readE getE xb es) (show outF (tyOf Try.prog) (fnAt Try.prog 34) 0 (open_run layE numE sumE readE getE xb es (.code (bodyAt Try.prog 34)) [] (beginE (fnAt Try.prog 34) [D.slice xb es none] []) (.path [true])) = some (D.tuple [D.int IntKind.i64 (0 : Int), D.slice false [] none, D.int IntKind.i64 (1 : Int)], [],
    [(!mayU (↑(List.length es) : Int)) = true,
      Ret Try.prog (tyOf Try.prog) (46 : Nat) [D.int IntKind.i64 (↑(List.length es) : Int)] []
  (D.bool (mayU (↑(List.length es) : Int))) []]) by kernel_rfl)
    (all_cons.2 ⟨(by rw [b0]; rfl), all_cons.2 ⟨(may46 _), all_nil.2 trivial⟩⟩))


/-! ### function 35 -/
theorem openR_fn : Try.prog.funcs[(35 : Nat)]? = some (fnAt Try.prog 35) := by kernel_rfl
theorem openR_body : (fnAt Try.prog 35).body = some (bodyAt Try.prog 35) := by kernel_rfl
theorem openR_name : ((fnAt Try.prog 35).name == "runtime.NumGoroutine") = false := by kernel_rfl
noncomputable def openR_C (layE : Es → Nat → Nat → Int → Es) (numE : Int → Int → Es) (sumE : Es → Int) (readE : Es → Int) (getE : Es → Int → Int → Int) (xb : Bool) (es : Es) : Cf := cfg Try.prog (hintOf []) (tOpen layE numE sumE readE getE xb es) (fun _ => false) 2 true (fun _ => false)
theorem openR_ok (layE : Es → Nat → Nat → Int → Es) (numE : Int → Int → Es) (sumE : Es → Int) (readE : Es → Int) (getE : Es → Int → Int → Int) (xb : Bool) (es : Es) : CfOk (openR_C layE numE sumE readE getE xb es) := cfg_ok (by kernel_rfl)
noncomputable def openR_run (layE : Es → Nat → Nat → Int → Es) (numE : Int → Int → Es) (sumE : Es → Int) (readE : Es → Int) (getE : Es → Int → Int → Int) (xb : Bool) (es : Es) (cur : Cur) (k : List It) (s : St) (or : GD.Or) := runE (openR_C layE numE sumE readE getE xb es) (callE (openR_C layE numE sumE readE getE xb es) 100000 10) 35 100000 cur k s or []

theorem openR_in_0 {layE : Es → Nat → Nat → Int → Es} {numE : Int → Int → Es} {sumE : Es → Int} {readE : Es → Int} {getE : Es → Int → Int → Int} {xb : Bool} {es : Es}
    (h0 : mayU (↑(List.length es) : Int) = true)
    (h1 : getE es (IntKind.i64.wrap ((↑(List.length es) : Int) - (4 : Int))) (4 : Int) ≠ IntKind.i64.wrap (sumE (List.take (IntKind.i64.wrap ((↑(List.length es) : Int) - (4 : Int))).toNat es)))
    (h2 : Ret Try.prog (tyOf Try.prog) (33 : Nat)
  [D.slice xb (List.take (IntKind.i64.wrap ((↑(List.length es) : Int) - (4 : Int))).toNat es) none] []
  (D.int IntKind.u32 (sumE (List.take (IntKind.i64.wrap ((↑(List.length es) : Int) - (4 : Int))).toNat es))) [])
    (h3 : (0 : Int) ≤ IntKind.i64.wrap ((↑(List.length es) : Int) - (4 : Int)) ∧
  IntKind.i64.wrap ((↑(List.length es) : Int) - (4 : Int)) ≤ (↑(List.length es) : Int))
    (h4 : Ret Try.prog (tyOf Try.prog) (52 : Nat)
  [D.slice xb es none, D.int IntKind.i64 (IntKind.i64.wrap ((↑(List.length es) : Int) - (4 : Int))),
    D.int IntKind.i64 (4 : Int)]
  [] (D.int IntKind.i64 (getE es (IntKind.i64.wrap ((↑(List.length es) : Int) - (4 : Int))) (4 : Int))) []) :
    Ret Try.prog (tyOf Try.prog) 35 [D.slice xb es none] [] (D.tuple [D.int IntKind.i64 (0 : Int), D.slice false [] none, D.int IntKind.i64 (18 : Int)]) [] :=
  have b0 : mayU (↑(List.length es) : Int) = true := h0
  have b1 : (getE es (IntKind.i64.wrap ((↑(List.length es) : Int) - (4 : Int))) (4 : Int) !=
    IntKind.i64.wrap (sumE (List.take (IntKind.i64.wrap ((↑(List.length es) : Int) - (4 : Int))).toNat es))) =
  true := bne_iff_ne.2 h1
  fin_call openR_fn openR_body openR_name (fin_ret (h := 0) (openR_ok layE numE sumE readE getE xb es) (show outF (tyOf Try.prog) (fnAt Try.prog 35) 0 (openR_run layE numE sumE readE getE xb es (.code (bodyAt Try.prog 35)) [] (beginE (fnAt Try.prog 35) [D.slice xb es none] []) (.path [false, true])) = some (D.tuple [D.int IntKind.i64 (0 : Int), D.slice false [] none, D.int IntKind.i64 (18 : Int)], [],
    [(getE es (IntKind.i64.wrap ((↑(List.length es) : Int) - (4 : Int))) (4 : Int) !=
    IntKind.i64.wrap (sumE (List.take (IntKind.i64.wrap ((↑(List.length es) : Int) - (4 : Int))).toNat es))) =
  true,
      Ret Try.prog (tyOf Try.prog) (33 : Nat)
  [D.slice xb (List.take (IntKind.i64.wrap ((↑(List.length es) : Int) - (4 : Int))).toNat es) none] []
  (D.int IntKind.u32 (sumE (List.take (IntKind.i64.wrap ((↑(List.length es) : Int) - (4 : Int))).toNat es))) [],
      (0 : Int) ≤ IntKind.i64.wrap ((↑(List.length es) : Int) - (4 : Int)) ∧
  IntKind.i64.wrap ((↑(List.length es) : Int) - (4 : Int)) ≤ (↑(List.length es) : Int),
      Ret Try.prog (tyOf Try.prog) (52 : Nat)
  [D.slice xb es none, D.int IntKind.i64 (IntKind.i64.wrap ((↑(List.length es) : Int) - (4 : Int))),
    D.int IntKind.i64 (4 : Int)]
  [] (D.int IntKind.i64 (getE es (IntKind.i64.wrap ((↑(List.length es) : Int) - (4 : Int))) (4 : Int))) [],
      (!mayU (↑(List.length es) : Int)) = false,
      Ret Try.prog (tyOf Try.prog) (48 : Nat) [D.int IntKind.i64 (↑(List.length es) : Int)] []
  (D.bool (mayU (↑(List.length es) : Int))) []]) by kernel_rfl)
    (all_cons.2 ⟨b1, all_cons.2 ⟨h2, all_cons.2 ⟨h3, all_cons.2 ⟨h4, all_cons.2 ⟨(by rw [b0]; rfl), all_cons.2 ⟨(may48 _), all_nil.2 trivial⟩⟩⟩⟩⟩⟩))

theorem openR_in_1 {layE : Es → Nat → Nat → Int → Es} {numE : Int → Int → Es} {sumE : Es → Int} {readE : Es → Int} {getE : Es → Int → Int → Int} {xb : Bool} {es : Es}
    (h0 : mayU (↑(List.length es) : Int) = true)
    (h1 : getE es (IntKind.i64.wrap ((↑(List.length es) : Int) - (4 : Int))) (4 : Int) = IntKind.i64.wrap (sumE (List.take (IntKind.i64.wrap ((↑(List.length es) : Int) - (4 : Int))).toNat es)))
    (h2 : IntKind.i64.wrap (getE es (0 : Int) (4 : Int) - (1 : Int)) ≥ (16384 : Int))
    (h3 : Ret Try.prog (tyOf Try.prog) (52 : Nat) [D.slice xb es none, D.int IntKind.i64 (4 : Int), D.int IntKind.i64 (2 : Int)]
  [] (D.int IntKind.i64 (getE es (4 : Int) (2 : Int))) [])
    (h4 : Ret Try.prog (tyOf Try.prog) (52 : Nat) [D.slice xb es none, D.int IntKind.i64 (0 : Int), D.int IntKind.i64 (4 : Int)]
  [] (D.int IntKind.i64 (getE es (0 : Int) (4 : Int))) [])
    (h5 : Ret Try.prog (tyOf Try.prog) (33 : Nat)
  [D.slice xb (List.take (IntKind.i64.wrap ((↑(List.length es) : Int) - (4 : Int))).toNat es) none] []
  (D.int IntKind.u32 (sumE (List.take (IntKind.i64.wrap ((↑(List.length es) : Int) - (4 : Int))).toNat es))) [])
    (h6 : (0 : Int) ≤ IntKind.i64.wrap ((↑(List.length es) : Int) - (4 : Int)) ∧
  IntKind.i64.wrap ((↑(List.length es) : Int) - (4 : Int)) ≤ (↑(List.length es) : Int))
    (h7 : Ret Try.prog (tyOf Try.prog) (52 : Nat)
  [D.slice xb es none, D.int IntKind.i64 (IntKind.i64.wrap ((↑(List.length es) : Int) - (4 : Int))),
    D.int IntKind.i64 (4 : Int)]
  [] (D.int IntKind.i64 (getE es (IntKind.i64.wrap ((↑(List.length es) : Int) - (4 : Int))) (4 : Int))) []) :
    Ret Try.prog (tyOf Try.prog) 35 [D.slice xb es none] [] (D.tuple [D.int IntKind.i64 (0 : Int), D.slice false [] none, D.int IntKind.i64 (4 : Int)]) [] :=
  have b0 : mayU (↑(List.length es) : Int) = true := h0
  have b1 : (getE es (IntKind.i64.wrap ((↑(List.length es) : Int) - (4 : Int))) (4 : Int) !=
    IntKind.i64.wrap (sumE (List.take (IntKind.i64.wrap ((↑(List.length es) : Int) - (4 : Int))).toNat es))) =
  false := (by rw [bne, Bool.not_eq_false']; exact beq_iff_eq.2 h1)
  have b2 : decide (IntKind.i64.wrap (getE es (0 : Int) (4 : Int) - (1 : Int)) ≥ (16384 : Int)) = true := decide_eq_true h2
  fin_call openR_fn openR_body openR_name (fin_ret (h := 0) (openR_ok layE numE sumE readE getE xb es) (show outF (tyOf Try.prog) (fnAt Try.prog 35) 0 (openR_run layE numE sumE readE getE xb es (.code (bodyAt Try.prog 35)) [] (beginE (fnAt Try.prog 35) [D.slice xb es none] []) (.path [false, false, false, false, false, false, false, true, true])) = some (D.tuple [D.int IntKind.i64 (0 : Int), D.slice false [] none, D.int IntKind.i64 (4 : Int)], [],
    [true = true,
      decide (IntKind.i64.wrap (getE es (0 : Int) (4 : Int) - (1 : Int)) ≥ (16384 : Int)) = true,
      (decide (IntKind.i64.wrap (getE es (0 : Int) (4 : Int) - (1 : Int)) ≥ (16384 : Int)) == false) = false,
      (decide (IntKind.i64.wrap (getE es (0 : Int) (4 : Int) - (1 : Int)) ≥ (16384 : Int)) == false) = false,
      (decide (IntKind.i64.wrap (getE es (0 : Int) (4 : Int) - (1 : Int)) ≥ (16384 : Int)) == false) = false,
      (decide (IntKind.i64.wrap (getE es (0 : Int) (4 : Int) - (1 : Int)) ≥ (16384 : Int)) == false) = false,
      (decide (IntKind.i64.wrap (getE es (0 : Int) (4 : Int) - (1 : Int)) ≥ (16384 : Int)) == false) = false,
      Ret Try.prog (tyOf Try.prog) (52 : Nat) [D.slice xb es none, D.int IntKind.i64 (4 : Int), D.int IntKind.i64 (2 : Int)]
  [] (D.int IntKind.i64 (getE es (4 : Int) (2 : Int))) [],
      Ret Try.prog (tyOf Try.prog) (52 : Nat) [D.slice xb es none, D.int IntKind.i64 (0 : Int), D.int IntKind.i64 (4 : Int)]
  [] (D.int IntKind.i64 (getE es (0 : Int) (4 : Int))) [],
      (getE es (IntKind.i64.wrap ((↑(List.length es) : Int) - (4 : Int))) (4 : Int) !=
    IntKind.i64.wrap (sumE (List.take (IntKind.i64.wrap ((↑(List.length es) : Int) - (4 : Int))).toNat es))) =
  false,
      Ret Try.prog (tyOf Try.prog) (33 : Nat)
  [D.slice xb (List.take (IntKind.i64.wrap ((↑(List.length es) : Int) - (4 : Int))).toNat es) none] []
  (D.int IntKind.u32 (sumE (List.take (IntKind.i64.wrap ((↑(List.length es) : Int) - (4 : Int))).toNat es))) [],
      (0 : Int) ≤ IntKind.i64.wrap ((↑(List.length es) : Int) - (4 : Int)) ∧
  IntKind.i64.wrap ((↑(List.length es) : Int) - (4 : Int)) ≤ (↑(List.length es) : Int),
      Ret Try.prog (tyOf Try.prog) (52 : Nat)
  [D.slice xb es none, D.int IntKind.i64 (IntKind.i64.wrap ((↑(List.length es) : Int) - (4 : Int))),
    D.int IntKind.i64 (4 : Int)]
  [] (D.int IntKind.i64 (getE es (IntKind.i64.wrap ((↑(List.length es) : Int) - (4 : Int))) (4 : Int))) [],
      (!mayU (↑(List.length es) : Int)) = false,
      Ret Try.prog (tyOf Try.prog) (48 : Nat) [D.int IntKind.i64 (↑(List.length es) : Int)] []
  (D.bool (mayU (↑(List.length es) : Int))) []]) by kernel_rfl)
    (all_cons.2 ⟨rfl, all_cons.2 ⟨b2, all_cons.2 ⟨(by rw [b2]; rfl), all_cons.2 ⟨(by rw [b2]; rfl), all_cons.2 ⟨(by rw [b2]; rfl), all_cons.2 ⟨(by rw [b2]; rfl), all_cons.2 ⟨(by rw [b2]; rfl), all_cons.2 ⟨h3, all_cons.2 ⟨h4, all_cons.2 ⟨b1, all_cons.2 ⟨h5, all_cons.2 ⟨h6, all_cons.2 ⟨h7, all_cons.2 ⟨(by rw [b0]; rfl), all_cons.2 ⟨(may48 _), all_nil.2 trivial⟩⟩⟩⟩⟩⟩⟩⟩⟩⟩⟩⟩⟩⟩⟩))

theorem openR_in_2 {layE : Es → Nat → Nat → Int → Es} {numE : Int → Int → Es} {sumE : Es → Int} {readE : Es → Int} {getE : Es → Int → Int → Int} {xb : Bool} {es : Es}
    (h0 : mayU (↑(List.length es) : Int) = true)
    (h1 : getE es (IntKind.i64.wrap ((↑(List.length es) : Int) - (4 : Int))) (4 : Int) = IntKind.i64.wrap (sumE (List.take (IntKind.i64.wrap ((↑(List.length es) : Int) - (4 : Int))).toNat es)))
    (h2 : ¬ (IntKind.i64.wrap (getE es (0 : Int) (4 : Int) - (1 : Int)) ≥ (16384 : Int)))
    (h3 : getE es (4 : Int) (2 : Int) > roomU (↑(List.length es) : Int))
    (h4 : Ret Try.prog (tyOf Try.prog) (52 : Nat) [D.slice xb es none, D.int IntKind.i64 (4 : Int), D.int IntKind.i64 (2 : Int)]
  [] (D.int IntKind.i64 (getE es (4 : Int) (2 : Int))) [])
    (h5 : Ret Try.prog (tyOf Try.prog) (52 : Nat) [D.slice xb es none, D.int IntKind.i64 (0 : Int), D.int IntKind.i64 (4 : Int)]
  [] (D.int IntKind.i64 (getE es (0 : Int) (4 : Int))) [])
    (h6 : Ret Try.prog (tyOf Try.prog) (33 : Nat)
  [D.slice xb (List.take (IntKind.i64.wrap ((↑(List.length es) : Int) - (4 : Int))).toNat es) none] []
  (D.int IntKind.u32 (sumE (List.take (IntKind.i64.wrap ((↑(List.length es) : Int) - (4 : Int))).toNat es))) [])
    (h7 : (0 : Int) ≤ IntKind.i64.wrap ((↑(List.length es) : Int) - (4 : Int)) ∧
  IntKind.i64.wrap ((↑(List.length es) : Int) - (4 : Int)) ≤ (↑(List.length es) : Int))
    (h8 : Ret Try.prog (tyOf Try.prog) (52 : Nat)
  [D.slice xb es none, D.int IntKind.i64 (IntKind.i64.wrap ((↑(List.length es) : Int) - (4 : Int))),
    D.int IntKind.i64 (4 : Int)]
  [] (D.int IntKind.i64 (getE es (IntKind.i64.wrap ((↑(List.length es) : Int) - (4 : Int))) (4 : Int))) []) :
    Ret Try.prog (tyOf Try.prog) 35 [D.slice xb es none] [] (D.tuple [D.int IntKind.i64 (0 : Int), D.slice false [] none, D.int IntKind.i64 (4 : Int)]) [] :=
  have b0 : mayU (↑(List.length es) : Int) = true := h0
  have b1 : (getE es (IntKind.i64.wrap ((↑(List.length es) : Int) - (4 : Int))) (4 : Int) !=
    IntKind.i64.wrap (sumE (List.take (IntKind.i64.wrap ((↑(List.length es) : Int) - (4 : Int))).toNat es))) =
  false := (by rw [bne, Bool.not_eq_false']; exact beq_iff_eq.2 h1)
  have b2 : decide (IntKind.i64.wrap (getE es (0 : Int) (4 : Int) - (1 : Int)) ≥ (16384 : Int)) = false := decide_eq_false h2
  have b3 : decide (getE es (4 : Int) (2 : Int) > roomU (↑(List.length es) : Int)) = true := decide_eq_true h3
  fin_call openR_fn openR_body openR_name (fin_ret (h := 0) (openR_ok layE numE sumE readE getE xb es) (show outF (tyOf Try.prog) (fnAt Try.prog 35) 0 (openR_run layE numE sumE readE getE xb es (.code (bodyAt Try.prog 35)) [] (beginE (fnAt Try.prog 35) [D.slice xb es none] []) (.path [false, false, true, true, true, true, true, false, true])) = some (D.tuple [D.int IntKind.i64 (0 : Int), D.slice false [] none, D.int IntKind.i64 (4 : Int)], [],
    [decide (getE es (4 : Int) (2 : Int) > roomU (↑(List.length es) : Int)) = true,
      decide (IntKind.i64.wrap (getE es (0 : Int) (4 : Int) - (1 : Int)) ≥ (16384 : Int)) = false,
      (decide (IntKind.i64.wrap (getE es (0 : Int) (4 : Int) - (1 : Int)) ≥ (16384 : Int)) == false) = true,
      Ret Try.prog (tyOf Try.prog) (31 : Nat) [D.int IntKind.i64 (↑(List.length es) : Int)] []
  (D.int IntKind.i64 (roomU (↑(List.length es) : Int))) [],
      (decide (IntKind.i64.wrap (getE es (0 : Int) (4 : Int) - (1 : Int)) ≥ (16384 : Int)) == false) = true,
      (decide (IntKind.i64.wrap (getE es (0 : Int) (4 : Int) - (1 : Int)) ≥ (16384 : Int)) == false) = true,
      (decide (IntKind.i64.wrap (getE es (0 : Int) (4 : Int) - (1 : Int)) ≥ (16384 : Int)) == false) = true,
      (decide (IntKind.i64.wrap (getE es (0 : Int) (4 : Int) - (1 : Int)) ≥ (16384 : Int)) == false) = true,
      Ret Try.prog (tyOf Try.prog) (52 : Nat) [D.slice xb es none, D.int IntKind.i64 (4 : Int), D.int IntKind.i64 (2 : Int)]
  [] (D.int IntKind.i64 (getE es (4 : Int) (2 : Int))) [],
      Ret Try.prog (tyOf Try.prog) (52 : Nat) [D.slice xb es none, D.int IntKind.i64 (0 : Int), D.int IntKind.i64 (4 : Int)]
  [] (D.int IntKind.i64 (getE es (0 : Int) (4 : Int))) [],
      (getE es (IntKind.i64.wrap ((↑(List.length es) : Int) - (4 : Int))) (4 : Int) !=
    IntKind.i64.wrap (sumE (List.take (IntKind.i64.wrap ((↑(List.length es) : Int) - (4 : Int))).toNat es))) =
  false,
      Ret Try.prog (tyOf Try.prog) (33 : Nat)
  [D.slice xb (List.take (IntKind.i64.wrap ((↑(List.length es) : Int) - (4 : Int))).toNat es) none] []
  (D.int IntKind.u32 (sumE (List.take (IntKind.i64.wrap ((↑(List.length es) : Int) - (4 : Int))).toNat es))) [],
      (0 : Int) ≤ IntKind.i64.wrap ((↑(List.length es) : Int) - (4 : Int)) ∧
  IntKind.i64.wrap ((↑(List.length es) : Int) - (4 : Int)) ≤ (↑(List.length es) : Int),
      Ret Try.prog (tyOf Try.prog) (52 : Nat)
  [D.slice xb es none, D.int IntKind.i64 (IntKind.i64.wrap ((↑(List.length es) : Int) - (4 : Int))),
    D.int IntKind.i64 (4 : Int)]
  [] (D.int IntKind.i64 (getE es (IntKind.i64.wrap ((↑(List.length es) : Int) - (4 : Int))) (4 : Int))) [],
      (!mayU (↑(List.length es) : Int)) = false,
      Ret Try.prog (tyOf Try.prog) (48 : Nat) [D.int IntKind.i64 (↑(List.length es) : Int)] []
  (D.bool (mayU (↑(List.length es) : Int))) []]) by kernel_rfl)
    (all_cons.2 ⟨b3, all_cons.2 ⟨b2, all_cons.2 ⟨(by rw [b2]; rfl), all_cons.2 ⟨(room31 _), all_cons.2 ⟨(by rw [b2]; rfl), all_cons.2 ⟨(by rw [b2]; rfl), all_cons.2 ⟨(by rw [b2]; rfl), all_cons.2 ⟨(by rw [b2]; rfl), all_cons.2 ⟨h4, all_cons.2 ⟨h5, all_cons.2 ⟨b1, all_cons.2 ⟨h6, all_cons.2 ⟨h7, all_cons.2 ⟨h8, all_cons.2 ⟨(by rw [b0]; rfl), all_cons.2 ⟨(may48 _), all_nil.2 trivial⟩⟩⟩⟩⟩⟩⟩⟩⟩⟩⟩⟩⟩⟩⟩⟩))

theorem openR_in_3 {layE : Es → Nat → Nat → Int → Es} {numE : Int → Int → Es} {sumE : Es → Int} {readE : Es → Int} {getE : Es → Int → Int → Int} {xb : Bool} {es : Es}
    (h0 : mayU (↑(List.length es) : Int) = true)
    (h1 : getE es (IntKind.i64.wrap ((↑(List.length es) : Int) - (4 : Int))) (4 : Int) = IntKind.i64.wrap (sumE (List.take (IntKind.i64.wrap ((↑(List.length es) : Int) - (4 : Int))).toNat es)))
    (h2 : ¬ (IntKind.i64.wrap (getE es (0 : Int) (4 : Int) - (1 : Int)) ≥ (16384 : Int)))
    (h3 : ¬ (getE es (4 : Int) (2 : Int) > roomU (↑(List.length es) : Int)))
    (h4 : (List.drop (6 : Nat) (List.take (IntKind.i64.wrap ((6 : Int) + getE es (4 : Int) (2 : Int))).toNat es)).length *
      (1 : Nat) ≤
    (140737488355328 : Nat) ∧
  ((List.drop (6 : Nat) (List.take (IntKind.i64.wrap ((6 : Int) + getE es (4 : Int) (2 : Int))).toNat es)).all fun c =>
      c.length == (1 : Nat)) =
    true)
    (h5 : (0 : Int) ≤ (6 : Int) ∧
  (6 : Int) ≤ IntKind.i64.wrap ((6 : Int) + getE es (4 : Int) (2 : Int)) ∧
    IntKind.i64.wrap ((6 : Int) + getE es (4 : Int) (2 : Int)) ≤ (↑(List.length es) : Int) ∧
      (List.all es fun c => c.length == (1 : Nat)) = true)
    (h6 : Ret Try.prog (tyOf Try.prog) (52 : Nat) [D.slice xb es none, D.int IntKind.i64 (4 : Int), D.int IntKind.i64 (2 : Int)]
  [] (D.int IntKind.i64 (getE es (4 : Int) (2 : Int))) [])
    (h7 : Ret Try.prog (tyOf Try.prog) (52 : Nat) [D.slice xb es none, D.int IntKind.i64 (0 : Int), D.int IntKind.i64 (4 : Int)]
  [] (D.int IntKind.i64 (getE es (0 : Int) (4 : Int))) [])
    (h8 : Ret Try.prog (tyOf Try.prog) (33 : Nat)
  [D.slice xb (List.take (IntKind.i64.wrap ((↑(List.length es) : Int) - (4 : Int))).toNat es) none] []
  (D.int IntKind.u32 (sumE (List.take (IntKind.i64.wrap ((↑(List.length es) : Int) - (4 : Int))).toNat es))) [])
    (h9 : (0 : Int) ≤ IntKind.i64.wrap ((↑(List.length es) : Int) - (4 : Int)) ∧
  IntKind.i64.wrap ((↑(List.length es) : Int) - (4 : Int)) ≤ (↑(List.length es) : Int))
    (h10 : Ret Try.prog (tyOf Try.prog) (52 : Nat)
  [D.slice xb es none, D.int IntKind.i64 (IntKind.i64.wrap ((↑(List.length es) : Int) - (4 : Int))),
    D.int IntKind.i64 (4 : Int)]
  [] (D.int IntKind.i64 (getE es (IntKind.i64.wrap ((↑(List.length es) : Int) - (4 : Int))) (4 : Int))) []) :
    Ret Try.prog (tyOf Try.prog) 35 [D.slice xb es none] [] (D.tuple
  [D.int IntKind.i64 (IntKind.i64.wrap (getE es (0 : Int) (4 : Int) - (1 : Int))),
    D.slice
      (!(List.drop (6 : Nat) (List.take (IntKind.i64.wrap ((6 : Int) + getE es (4 : Int) (2 : Int))).toNat es)).isEmpty)
      (List.drop (6 : Nat) (List.take (IntKind.i64.wrap ((6 : Int) + getE es (4 : Int) (2 : Int))).toNat es))
      (some (18 : Nat)),
    D.int IntKind.i64 (0 : Int)]) [none, none, none, none, none, none, none, none, none, none, none, none, none, none, none, none, none, none,
  some
    (HObj.tok
      (List.drop (6 : Nat) (List.take (IntKind.i64.wrap ((6 : Int) + getE es (4 : Int) (2 : Int))).toNat es)).length
      (1 : Nat))] :=
  have b0 : mayU (↑(List.length es) : Int) = true := h0
  have b1 : (getE es (IntKind.i64.wrap ((↑(List.length es) : Int) - (4 : Int))) (4 : Int) !=
    IntKind.i64.wrap (sumE (List.take (IntKind.i64.wrap ((↑(List.length es) : Int) - (4 : Int))).toNat es))) =
  false := (by rw [bne, Bool.not_eq_false']; exact beq_iff_eq.2 h1)
  have b2 : decide (IntKind.i64.wrap (getE es (0 : Int) (4 : Int) - (1 : Int)) ≥ (16384 : Int)) = false := decide_eq_false h2
  have b3 : decide (getE es (4 : Int) (2 : Int) > roomU (↑(List.length es) : Int)) = false := decide_eq_false h3
  fin_call openR_fn openR_body openR_name (fin_ret (h := 19) (openR_ok layE numE sumE readE getE xb es) (show outF (tyOf Try.prog) (fnAt Try.prog 35) 19 (openR_run layE numE sumE readE getE xb es (.code (bodyAt Try.prog 35)) [] (beginE (fnAt Try.prog 35) [D.slice xb es none] []) (.path [false, false, true, true, true, true, true, false, false])) = some (D.tuple
  [D.int IntKind.i64 (IntKind.i64.wrap (getE es (0 : Int) (4 : Int) - (1 : Int))),
    D.slice
      (!(List.drop (6 : Nat) (List.take (IntKind.i64.wrap ((6 : Int) + getE es (4 : Int) (2 : Int))).toNat es)).isEmpty)
      (List.drop (6 : Nat) (List.take (IntKind.i64.wrap ((6 : Int) + getE es (4 : Int) (2 : Int))).toNat es))
      (some (18 : Nat)),
    D.int IntKind.i64 (0 : Int)], [none, none, none, none, none, none, none, none, none, none, none, none, none, none, none, none, none, none,
  some
    (HObj.tok
      (List.drop (6 : Nat) (List.take (IntKind.i64.wrap ((6 : Int) + getE es (4 : Int) (2 : Int))).toNat es)).length
      (1 : Nat))],
    [(List.drop (6 : Nat) (List.take (IntKind.i64.wrap ((6 : Int) + getE es (4 : Int) (2 : Int))).toNat es)).length *
      (1 : Nat) ≤
    (140737488355328 : Nat) ∧
  ((List.drop (6 : Nat) (List.take (IntKind.i64.wrap ((6 : Int) + getE es (4 : Int) (2 : Int))).toNat es)).all fun c =>
      c.length == (1 : Nat)) =
    true,
      (0 : Int) ≤ (6 : Int) ∧
  (6 : Int) ≤ IntKind.i64.wrap ((6 : Int) + getE es (4 : Int) (2 : Int)) ∧
    IntKind.i64.wrap ((6 : Int) + getE es (4 : Int) (2 : Int)) ≤ (↑(List.length es) : Int) ∧
      (List.all es fun c => c.length == (1 : Nat)) = true,
      decide (getE es (4 : Int) (2 : Int) > roomU (↑(List.length es) : Int)) = false,
      decide (IntKind.i64.wrap (getE es (0 : Int) (4 : Int) - (1 : Int)) ≥ (16384 : Int)) = false,
      (decide (IntKind.i64.wrap (getE es (0 : Int) (4 : Int) - (1 : Int)) ≥ (16384 : Int)) == false) = true,
      Ret Try.prog (tyOf Try.prog) (31 : Nat) [D.int IntKind.i64 (↑(List.length es) : Int)] []
  (D.int IntKind.i64 (roomU (↑(List.length es) : Int))) [],
      (decide (IntKind.i64.wrap (getE es (0 : Int) (4 : Int) - (1 : Int)) ≥ (16384 : Int)) == false) = true,
      (decide (IntKind.i64.wrap (getE es (0 : Int) (4 : Int) - (1 : Int)) ≥ (16384 : Int)) == false) = true,
      (decide (IntKind.i64.wrap (getE es (0 : Int) (4 : Int) - (1 : Int)) ≥ (16384 : Int)) == false) = true,
      (decide (IntKind.i64.wrap (getE es (0 : Int) (4 : Int) - (1 : Int)) ≥ (16384 : Int)) == false) = true,
      Ret Try.prog (tyOf Try.prog) (52 : Nat) [D.slice xb es none, D.int IntKind.i64 (4 : Int), D.int IntKind.i64 (2 : Int)]
  [] (D.int IntKind.i64 (getE es (4 : Int) (2 : Int))) [],
      Ret Try.prog (tyOf Try.prog) (52 : Nat) [D.slice xb es none, D.int IntKind.i64 (0 : Int), D.int IntKind.i64 (4 : Int)]
  [] (D.int IntKind.i64 (getE es (0 : Int) (4 : Int))) [],
      (getE es (IntKind.i64.wrap ((↑(List.length es) : Int) - (4 : Int))) (4 : Int) !=
    IntKind.i64.wrap (sumE (List.take (IntKind.i64.wrap ((↑(List.length es) : Int) - (4 : Int))).toNat es))) =
  false,
      Ret Try.prog (tyOf Try.prog) (33 : Nat)
  [D.slice xb (List.take (IntKind.i64.wrap ((↑(List.length es) : Int) - (4 : Int))).toNat es) none] []
  (D.int IntKind.u32 (sumE (List.take (IntKind.i64.wrap ((↑(List.length es) : Int) - (4 : Int))).toNat es))) [],
      (0 : Int) ≤ IntKind.i64.wrap ((↑(List.length es) : Int) - (4 : Int)) ∧
  IntKind.i64.wrap ((↑(List.length es) : Int) - (4 : Int)) ≤ (↑(List.length es) : Int),
      Ret Try.prog (tyOf Try.prog) (52 : Nat)
  [D.slice xb es none, D.int IntKind.i64 (IntKind.i64.wrap ((↑(List.length es) : Int) - (4 : Int))),
    D.int IntKind.i64 (4 : Int)]
  [] (D.int IntKind.i64 (getE es (IntKind.i64.wrap ((↑(List.length es) : Int) - (4 : Int))) (4 : Int))) [],
      (!mayU (↑(List.length es) : Int)) = false,
      Ret Try.prog (tyOf Try.prog) (48 : Nat) [D.int IntKind.i64 (↑(List.length es) : Int)] []
  (D.bool (mayU (↑(List.length es) : Int))) []]) by kernel_rfl)
    (all_cons.2 ⟨h4, all_cons.2 ⟨h5, all_cons.2 ⟨b3, all_cons.2 ⟨b2, all_cons.2 ⟨(by rw [b2]; rfl), all_cons.2 ⟨(room31 _), all_cons.2 ⟨(by rw [b2]; rfl), all_cons.2 ⟨(by rw [b2]; rfl), all_cons.2 ⟨(by rw [b2]; rfl), all_cons.2 ⟨(by rw [b2]; rfl), all_cons.2 ⟨h6, all_cons.2 ⟨h7, all_cons.2 ⟨b1, all_cons.2 ⟨h8, all_cons.2 ⟨h9, all_cons.2 ⟨h10, all_cons.2 ⟨(by rw [b0]; rfl), all_cons.2 ⟨(may48 _), all_nil.2 trivial⟩⟩⟩⟩⟩⟩⟩⟩⟩⟩⟩⟩⟩⟩⟩⟩⟩⟩))

theorem openR_in_4 {layE : Es → Nat → Nat → Int → Es} {numE : Int → Int → Es} {sumE : Es → Int} {readE : Es → Int} {getE : Es → Int → Int → Int} {xb : Bool} {es : Es}
    (h0 : mayU (↑(List.length es) : Int) = false) :
    Ret Try.prog (tyOf Try.prog) 35 [D.slice xb es none] [] (D.tuple [D.int IntKind.i64 (0 : Int), D.slice false [] none, D.int IntKind.i64 (1 : Int)]) [] :=
  have b0 : mayU (↑(List.length es) : Int) = false := h0
  fin_call openR_fn openR_body openR_name (fin_ret (h := 0) (openR_ok layE numE sumE readE getE xb es) (show outF (tyOf Try.prog) (fnAt Try.prog 35) 0 (openR_run layE numE sumE readE getE xb es (.code (bodyAt Try.prog 35)) [] (beginE (fnAt Try.prog 35) [D.slice xb es none] []) (.path [true])) = some (D.tuple [D.int IntKind.i64 (0 : Int), D.slice false [] none, D.int IntKind.i64 (1 : Int)], [],
    [(!mayU (↑(List.length es) : Int)) = true,
      Ret Try.prog (tyOf Try.prog) (48 : Nat) [D.int IntKind.i64 (↑(List.length es) : Int)] []
  (D.bool (mayU (↑(List.length es) : Int))) []]) by kernel_rfl)
    (all_cons.2 ⟨(by rw [b0]; rfl), all_cons.2 ⟨(may48 _), all_nil.2 trivial⟩⟩))




theorem mayU_le {p : Int} (h : mayU p = true) : 64 ≤ p ∧ p ≤ 4096 := by
  unfold mayU at h
  simp only [Bool.and_eq_true, decide_eq_true_eq] at h
  exact ⟨h.1, h.2.1⟩
theorem roomU_may {p : Int} (h : mayU p = true) : roomU p = p - 10 := by
  have := mayU_le h
  unfold roomU
  rw [if_pos h, wrap_i64 (by omega)]
theorem big : (5000 : Nat) ≤ maxLen := by decide
theorem sumR (xb : Bool) (l : List Int) (h : l.length ≤ 5000) : Ret P T 32 [.slice xb (rows l) none] [] (.int .u32 (sumU l)) [] := sum32 xb l (Nat.le_trans h big)
theorem sumR' (xb : Bool) (l : List Int) (h : l.length ≤ 5000) : Ret P T 33 [.slice xb (rows l) none] [] (.int .u32 (sumU l)) [] := sum33 xb l (Nat.le_trans h big)

/-! ### opening -/
def openV (l : List Int) : Int × List Int × Int :=
  if mayU l.length = true then
    if readF 0 0 (l.drop (l.length - 4)) = IntKind.i64.wrap (sumU (l.take (l.length - 4))) then
      if readF 0 0 (l.take 4) > 16384 ∨ readF 0 0 ((l.drop 4).take 2) > l.length - 10 then (0, [], 4)
      else (readF 0 0 (l.take 4) - 1, (l.drop 6).take (readF 0 0 ((l.drop 4).take 2)).toNat, 0)
    else (0, [], 18)
  else (0, [], 1)

def Bytes (l : List Int) : Prop := ∀ x ∈ l, 0 ≤ x ∧ x ≤ 255
theorem or_nat {a b : Int} (ha : 0 ≤ a ∧ a < 9223372036854775808) (hb : 0 ≤ b ∧ b < 9223372036854775808) : orW .i64 a b = ((a.toNat ||| b.toNat : Nat) : Int) := by
  unfold orW
  have h1 : IntKind.i64.bits = 64 := rfl
  rw [h1]
  have e1 : (BitVec.ofInt 64 a ||| BitVec.ofInt 64 b).toNat = (a.toNat ||| b.toNat) := by
    rw [BitVec.toNat_or, BitVec.toNat_ofInt, BitVec.toNat_ofInt]
    congr 1 <;> omega
  rw [e1]
  have : a.toNat ||| b.toNat < 2 ^ 63 := Nat.or_lt_two_pow (by omega) (by omega)
  exact wrap_i64 (by omega)
theorem or_add {s x : Int} (k : Nat) (hk : k ≤ 48) (hs : 0 ≤ s ∧ s < 2 ^ k) (hx : 0 ≤ x ∧ x ≤ 255) : orW .i64 s (x * 2 ^ k) = s + x * 2 ^ k := by
  have h2 : (2 : Int) ^ k = ((2 ^ k : Nat) : Int) := by norm_cast
  have hp : 2 ^ k ≤ 2 ^ 48 := Nat.pow_le_pow_right (by omega) hk
  rw [h2] at hs ⊢
  have hxn : x = ((x.toNat : Nat) : Int) := by omega
  have hm : x.toNat * 2 ^ k ≤ 255 * 2 ^ 48 := Nat.mul_le_mul (by omega) hp
  have hmi : x * ((2 ^ k : Nat) : Int) = ((x.toNat * 2 ^ k : Nat) : Int) := by rw [Int.natCast_mul, ← hxn]
  rw [hmi, or_nat (by omega) (by omega), Int.toNat_natCast]
  have hlt : s.toNat < 2 ^ k := by omega
  have := Nat.two_pow_add_eq_or_of_lt hlt x.toNat
  rw [Nat.or_comm, Nat.mul_comm, ← this]
  omega
theorem shl_small {x : Int} {k : Nat} (hk : k ≤ 48) (hx : 0 ≤ x ∧ x ≤ 255) : shlW .i64 (IntKind.i64.wrap x) (k : Int) = x * 2 ^ k := by
  unfold shlW
  have hb : IntKind.i64.bits = 64 := rfl
  have h2 : (2 : Int) ^ k = ((2 ^ k : Nat) : Int) := by norm_cast
  have hp : 2 ^ k ≤ 2 ^ 48 := Nat.pow_le_pow_right (by omega) hk
  have hm : x.toNat * 2 ^ k ≤ 255 * 2 ^ 48 := Nat.mul_le_mul (by omega) hp
  have hmi : x * ((2 ^ k : Nat) : Int) = ((x.toNat * 2 ^ k : Nat) : Int) := by rw [Int.natCast_mul]; congr 1; omega
  rw [wrap_i64 (n := x) (by omega), hb, Int.toNat_natCast, Nat.min_eq_left (by omega), h2, hmi, wrap_i64 (by omega)]

/-- The number of some bytes. -/
def valF : List Int → Int
  | [] => 0
  | x :: r => x + 256 * valF r
theorem valF_le : ∀ {l : List Int}, Bytes l → 0 ≤ valF l ∧ valF l < 256 ^ l.length
  | [], _ => by simp [valF]
  | x :: r, h => by
    have h1 := h x (by simp)
    have h2 := valF_le (l := r) (fun y hy => h y (List.mem_cons_of_mem _ hy))
    simp only [valF, List.length_cons, Int.pow_succ]
    omega
theorem readF_val : ∀ (l : List Int) (s : Int) (i : Nat), Bytes l → i + l.length ≤ 6 → 0 ≤ s ∧ s < 2 ^ (8 * i) → readF s i l = s + valF l * 2 ^ (8 * i)
  | [], s, i, _, _, _ => by simp [readF, valF]
  | x :: r, s, i, h, hl, hs => by
    have h1 := h x (by simp)
    simp only [List.length_cons] at hl
    simp only [readF]
    rw [shl_small (by omega) h1, or_add _ (by omega) hs h1, readF_val r _ (i + 1) (fun y hy => h y (List.mem_cons_of_mem _ hy)) (by omega)]
    · simp only [valF]
      have : (2 : Int) ^ (8 * (i + 1)) = 256 * 2 ^ (8 * i) := by rw [Nat.mul_add, Int.pow_add, Int.mul_comm]; rfl
      rw [this, Int.add_mul, Int.mul_assoc, Int.mul_comm (valF r) (256 * 2 ^ (8 * i)), Int.mul_assoc, Int.mul_comm (2 ^ (8 * i)) (valF r), Int.add_assoc]
    · have : (2 : Int) ^ (8 * (i + 1)) = 256 * 2 ^ (8 * i) := by rw [Nat.mul_add, Int.pow_add, Int.mul_comm]; rfl
      rw [this]
      have hp : (0 : Int) < 2 ^ (8 * i) := Int.pow_pos (by omega)
      have hx2 : x * 2 ^ (8 * i) ≤ 255 * 2 ^ (8 * i) := Int.mul_le_mul_of_nonneg_right h1.2 (by omega)
      have hx3 : 0 ≤ x * 2 ^ (8 * i) := Int.mul_nonneg h1.1 (by omega)
      omega
theorem read_val {l : List Int} (h : Bytes l) (hl : l.length ≤ 6) : readF 0 0 l = valF l := by
  rw [readF_val l 0 0 h (by omega) (by simp)]
  simp
theorem shl8 {s : Int} (h : 0 ≤ s ∧ s < 2 ^ 40) : shlW .i64 s 8 = s * 2 ^ 8 := by
  unfold shlW
  have hb : IntKind.i64.bits = 64 := rfl
  rw [hb, show (Int.toNat 8) = 8 from rfl, Nat.min_eq_left (by omega)]
  exact wrap_i64 (by omega)
theorem or_low {s x : Int} (hs : 0 ≤ s ∧ s < 2 ^ 40) (hx : 0 ≤ x ∧ x ≤ 255) : orW .i64 (s * 2 ^ 8) x = s * 2 ^ 8 + x := by
  rw [or_nat (by omega) (by omega)]
  have hlt : x.toNat < 2 ^ 8 := by omega
  have := Nat.two_pow_add_eq_or_of_lt hlt s.toNat
  have e : (s * 2 ^ 8).toNat = 2 ^ 8 * s.toNat := by omega
  rw [e, ← this]
  omega
theorem get_step {s x : Int} (hs : 0 ≤ s ∧ s < 2 ^ 40) (hx : 0 ≤ x ∧ x ≤ 255) : orW .i64 (shlW .i64 s 8) (IntKind.i64.wrap x) = s * 256 + x := by
  rw [shl8 hs, wrap_i64 (n := x) (by omega), or_low hs hx]
  rfl
theorem get4 (l : List Int) (a : Nat) (hb : Bytes l) (h : a + 4 ≤ l.length) : getF l a 4 0 = valF ((l.drop a).take 4) := by
  have g : ∀ k, (hk : a + k < l.length) → l.getD (a + k) 0 = l[a + k] ∧ 0 ≤ l[a + k] ∧ l[a + k] ≤ 255 := fun k hk => ⟨by rw [List.getD_eq_getElem?_getD, List.getElem?_eq_getElem hk]; rfl, hb _ (List.getElem_mem hk)⟩
  obtain ⟨e0, h0⟩ := g 0 (by omega)
  obtain ⟨e1, h1⟩ := g 1 (by omega)
  obtain ⟨e2, h2⟩ := g 2 (by omega)
  obtain ⟨e3, h3⟩ := g 3 (by omega)
  have d : (l.drop a).take 4 = [l[a + 0], l[a + 1], l[a + 2], l[a + 3]] := by
    rw [List.drop_eq_getElem_cons (by omega), List.drop_eq_getElem_cons (by omega), List.drop_eq_getElem_cons (by omega), List.drop_eq_getElem_cons (by omega)]
    rfl
  rw [d]
  simp only [getF, e0, e1, e2, e3, valF]
  rw [get_step (by omega) h3, get_step (by omega) h2, get_step (by omega) h1, get_step (by omega) h0]
  omega
theorem get2 (l : List Int) (a : Nat) (hb : Bytes l) (h : a + 2 ≤ l.length) : getF l a 2 0 = valF ((l.drop a).take 2) := by
  have g : ∀ k, (hk : a + k < l.length) → l.getD (a + k) 0 = l[a + k] ∧ 0 ≤ l[a + k] ∧ l[a + k] ≤ 255 := fun k hk => ⟨by rw [List.getD_eq_getElem?_getD, List.getElem?_eq_getElem hk]; rfl, hb _ (List.getElem_mem hk)⟩
  obtain ⟨e0, h0⟩ := g 0 (by omega)
  obtain ⟨e1, h1⟩ := g 1 (by omega)
  have d : (l.drop a).take 2 = [l[a + 0], l[a + 1]] := by
    rw [List.drop_eq_getElem_cons (by omega), List.drop_eq_getElem_cons (by omega)]
    rfl
  rw [d]
  simp only [getF, e0, e1, valF]
  rw [get_step (by omega) h1, get_step (by omega) h0]
  omega
theorem Bytes.sub {l m : List Int} (h : Bytes l) (hs : ∀ x ∈ m, x ∈ l) : Bytes m := fun x hx => h x (hs x hx)
theorem Bytes.take {l : List Int} (h : Bytes l) (k : Nat) : Bytes (l.take k) := h.sub fun _ hx => List.mem_of_mem_take hx
theorem Bytes.drop {l : List Int} (h : Bytes l) (k : Nat) : Bytes (l.drop k) := h.sub fun _ hx => List.mem_of_mem_drop hx

/-- Open hands back what the page says. -/
theorem open34 (xb : Bool) (l : List Int) (hl : l.length ≤ 5000) (hb : Bytes l) (hn : xb = false → l = []) :
    ∃ nn, nn = decide ((openV l).2.2 = 0) ∧ Ret P T 34 [.slice xb (rows l) none] [] (.tuple [.int .i64 (openV l).1, .slice nn (rows (openV l).2.1) none, .int .i64 (openV l).2.2]) [] := by
  unfold openV
  have hrl : (rows l).length = l.length := rows_len l
  by_cases h0 : mayU l.length = true
  · have hle := mayU_le h0
    have h0' : mayU ((rows l).length : Int) = true := by rw [hrl]; exact h0
    have hw : IntKind.i64.wrap ((l.length : Int) - 4) = ((l.length - 4 : Nat) : Int) := by rw [wrap_i64 (by omega)]; omega
    have v4 : readF 0 0 (l.take 4) = valF (l.take 4) := read_val (hb.take 4) (by simp; omega)
    have v2 : readF 0 0 ((l.drop 4).take 2) = valF ((l.drop 4).take 2) := read_val ((hb.drop 4).take 2) (by simp; omega)
    have b4 := valF_le (hb.take 4)
    have b2 := valF_le ((hb.drop 4).take 2)
    have l4 : (l.take 4).length = 4 := by simp; omega
    have l2 : ((l.drop 4).take 2).length = 2 := by simp; omega
    rw [l4] at b4
    rw [l2] at b2
    have t4 : List.take 4 (List.take (l.length - 4) l) = l.take 4 := by rw [List.take_take, Nat.min_eq_left (by omega)]
    have t2 : List.drop 4 (List.take 6 (List.take (l.length - 4) l)) = (l.drop 4).take 2 := by rw [List.take_take, Nat.min_eq_left (by omega), List.drop_take]
    rw [if_pos h0, v4, v2]
    have hrm := roomU_may h0
    have r4 : Ret P T 50 [.slice xb (rows (l.take 4)) none] [] (.int .i64 (valF (l.take 4))) [] := by rw [← v4]; exact read50 _ _ (by simp; omega)
    have r2 : Ret P T 50 [.slice xb (rows ((l.drop 4).take 2)) none] [] (.int .i64 (valF ((l.drop 4).take 2))) [] := by rw [← v2]; exact read50 _ _ (by simp; omega)
    have r5 := read50 xb (l.drop (l.length - 4)) (by simp; omega)
    have rs := sumR xb (l.take (l.length - 4)) (by simp; omega)
    have ones : ∀ m : List Int, ((rows m).all fun c => c.length == (1 : Nat)) = true := rows_one
    by_cases h1 : readF 0 0 (l.drop (l.length - 4)) = IntKind.i64.wrap (sumU (l.take (l.length - 4)))
    · rw [if_pos h1]
      by_cases h2 : valF (l.take 4) > 16384 ∨ valF ((l.drop 4).take 2) > l.length - 10
      · rw [if_pos h2]
        refine ⟨false, rfl, ?_⟩
        by_cases h3 : valF (l.take 4) > 16384
        · have e := @open_in_1 (fun _ _ _ _ => []) (fun _ _ => []) (fun es => sumU (bytesD es)) (fun es => readF 0 0 (bytesD es)) (fun _ _ _ => 0) xb (rows l)
          simp only [hrl, hw, hrm, Int.toNat_natCast, rows_take, rows_drop, bytes_rows, rows_len, List.length_take, List.take_length, Nat.min_eq_left (Nat.sub_le _ _), t4, t2, v4, v2, ones] at e
          apply e
          all_goals first | assumption | omega | (simp; omega) | simp [*]
        · have h4 : valF ((l.drop 4).take 2) > l.length - 10 := h2.resolve_left h3
          have e := @open_in_2 (fun _ _ _ _ => []) (fun _ _ => []) (fun es => sumU (bytesD es)) (fun es => readF 0 0 (bytesD es)) (fun _ _ _ => 0) xb (rows l)
          simp only [hrl, hw, hrm, Int.toNat_natCast, rows_take, rows_drop, bytes_rows, rows_len, List.length_take, List.take_length, Nat.min_eq_left (Nat.sub_le _ _), t4, t2, v4, v2, ones] at e
          apply e
          all_goals first | assumption | omega | (simp; omega) | simp [*]
      · rw [if_neg h2]
        have h3 : ¬ valF (l.take 4) > 16384 := fun h => h2 (.inl h)
        have h4 : ¬ valF ((l.drop 4).take 2) > l.length - 10 := fun h => h2 (.inr h)
        have w6 : IntKind.i64.wrap (6 + valF ((l.drop 4).take 2)) = ((6 + (valF ((l.drop 4).take 2)).toNat : Nat) : Int) := by rw [wrap_i64 (by omega)]; omega
        have w1 : IntKind.i64.wrap (valF (l.take 4) - 1) = valF (l.take 4) - 1 := wrap_i64 (by omega)
        have tb : List.drop 6 (List.take (6 + (valF ((l.drop 4).take 2)).toNat) (List.take (l.length - 4) l)) = (l.drop 6).take (valF ((l.drop 4).take 2)).toNat := by rw [List.take_take, Nat.min_eq_left (by omega), List.drop_take]; congr 1; omega
        have e := @open_in_3 (fun _ _ _ _ => []) (fun _ _ => []) (fun es => sumU (bytesD es)) (fun es => readF 0 0 (bytesD es)) (fun _ _ _ => 0) xb (rows l)
        simp only [hrl, hw, hrm, Int.toNat_natCast, rows_take, rows_drop, bytes_rows, rows_len, List.length_take, List.take_length, Nat.min_eq_left (Nat.sub_le _ _), t4, t2, v4, v2, ones, w6, w1, tb] at e
        refine ⟨xb, by cases xb with
          | true => rfl
          | false => exfalso; simp [hn rfl] at hle, ?_⟩
        have rc := clone51 xb ((l.drop 6).take (valF ((l.drop 4).take 2)).toNat) (by simp; omega) (fun h => by simp [hn h])
        apply e
        all_goals first | assumption | omega | (simp; omega) | simp [*]
    · rw [if_neg h1]
      refine ⟨false, rfl, ?_⟩
      have e := @open_in_0 (fun _ _ _ _ => []) (fun _ _ => []) (fun es => sumU (bytesD es)) (fun es => readF 0 0 (bytesD es)) (fun _ _ _ => 0) xb (rows l)
      simp only [hrl, hw, hrm, Int.toNat_natCast, rows_take, rows_drop, bytes_rows, rows_len, List.length_take, List.take_length, Nat.min_eq_left (Nat.sub_le _ _), t4, t2, v4, v2, ones] at e
      apply e
      all_goals first | assumption | omega | (simp; omega) | simp [*]
  · rw [if_neg h0]
    refine ⟨false, rfl, ?_⟩
    exact @open_in_4 (fun _ _ _ _ => []) (fun _ _ => []) (fun _ => 0) (fun _ => 0) (fun _ _ _ => 0) xb (rows l) (by rw [hrl]; simpa using h0)


/-- The reference's Open hands back the same. -/
theorem openR35 (xb : Bool) (l : List Int) (hl : l.length ≤ 5000) (hb : Bytes l) :
    ∃ nn, Ret P T 35 [.slice xb (rows l) none] [] (.tuple [.int .i64 (openV l).1, .slice nn (rows (openV l).2.1) none, .int .i64 (openV l).2.2]) [] := by
  unfold openV
  have hrl : (rows l).length = l.length := rows_len l
  by_cases h0 : mayU l.length = true
  · have hle := mayU_le h0
    have h0' : mayU ((rows l).length : Int) = true := by rw [hrl]; exact h0
    have hw : IntKind.i64.wrap ((l.length : Int) - 4) = ((l.length - 4 : Nat) : Int) := by rw [wrap_i64 (by omega)]; omega
    have v4 : readF 0 0 (l.take 4) = valF (l.take 4) := read_val (hb.take 4) (by simp; omega)
    have v2 : readF 0 0 ((l.drop 4).take 2) = valF ((l.drop 4).take 2) := read_val ((hb.drop 4).take 2) (by simp; omega)
    have v5 : readF 0 0 (l.drop (l.length - 4)) = valF (l.drop (l.length - 4)) := read_val (hb.drop _) (by simp; omega)
    have b4 := valF_le (hb.take 4)
    have b2 := valF_le ((hb.drop 4).take 2)
    have l4 : (l.take 4).length = 4 := by simp; omega
    have l2 : ((l.drop 4).take 2).length = 2 := by simp; omega
    rw [l4] at b4
    rw [l2] at b2
    have z0 : Int.toNat 0 = 0 := rfl
    have z2 : Int.toNat 2 = 2 := rfl
    have z4 : Int.toNat 4 = 4 := rfl
    have g5 : getF l (l.length - 4) 4 0 = valF (l.drop (l.length - 4)) := by rw [get4 l _ hb (by omega), List.take_of_length_le (by simp; omega)]
    have g4 : getF l 0 4 0 = valF (l.take 4) := by rw [get4 l _ hb (by omega), List.drop_zero]
    have g2 : getF l 4 2 0 = valF ((l.drop 4).take 2) := get2 l _ hb (by omega)
    have hm : l.length ≤ maxLen := Nat.le_trans hl big
    have r5 := get52 xb l (l.length - 4) 4 hm (by omega)
    have r4 := get52 xb l 0 4 hm (by omega)
    have r2 := get52 xb l 4 2 hm (by omega)
    rw [g5] at r5
    rw [g4] at r4
    rw [g2] at r2
    have rs := sumR' xb (l.take (l.length - 4)) (by simp; omega)
    have w6 : IntKind.i64.wrap (6 + valF ((l.drop 4).take 2)) = ((6 + (valF ((l.drop 4).take 2)).toNat : Nat) : Int) := by rw [wrap_i64 (by omega)]; omega
    have w1 : IntKind.i64.wrap (valF (l.take 4) - 1) = valF (l.take 4) - 1 := wrap_i64 (by omega)
    have tb : List.drop 6 (List.take (6 + (valF ((l.drop 4).take 2)).toNat) l) = (l.drop 6).take (valF ((l.drop 4).take 2)).toNat := by rw [List.drop_take]; congr 1; omega
    have hrm := roomU_may h0
    have ones : ∀ m : List Int, ((rows m).all fun c => c.length == (1 : Nat)) = true := rows_one
    rw [if_pos h0, v4, v2, v5]
    by_cases h1 : valF (l.drop (l.length - 4)) = IntKind.i64.wrap (sumU (l.take (l.length - 4)))
    · rw [if_pos h1]
      by_cases h2 : valF (l.take 4) > 16384 ∨ valF ((l.drop 4).take 2) > l.length - 10
      · rw [if_pos h2]
        refine ⟨false, ?_⟩
        by_cases h3 : valF (l.take 4) > 16384
        · have e := @openR_in_1 (fun _ _ _ _ => []) (fun _ _ => []) (fun es => sumU (bytesD es)) (fun _ => 0) (fun es a w => getF (bytesD es) a.toNat w.toNat 0) xb (rows l)
          simp only [hrl, hw, hrm, Int.toNat_natCast, z0, z2, z4, rows_take, rows_drop, bytes_rows, rows_len, List.length_take, List.length_drop, List.take_length, Nat.min_eq_left (Nat.sub_le _ _), g5, g4, g2, ones, w6, w1, tb] at e
          apply e
          all_goals first | assumption | omega | (simp; omega) | simp [*]
        · have h4 : valF ((l.drop 4).take 2) > l.length - 10 := h2.resolve_left h3
          have e := @openR_in_2 (fun _ _ _ _ => []) (fun _ _ => []) (fun es => sumU (bytesD es)) (fun _ => 0) (fun es a w => getF (bytesD es) a.toNat w.toNat 0) xb (rows l)
          simp only [hrl, hw, hrm, Int.toNat_natCast, z0, z2, z4, rows_take, rows_drop, bytes_rows, rows_len, List.length_take, List.length_drop, List.take_length, Nat.min_eq_left (Nat.sub_le _ _), g5, g4, g2, ones, w6, w1, tb] at e
          apply e
          all_goals first | assumption | omega | (simp; omega) | simp [*]
      · rw [if_neg h2]
        have h3 : ¬ valF (l.take 4) > 16384 := fun h => h2 (.inl h)
        have h4 : ¬ valF ((l.drop 4).take 2) > l.length - 10 := fun h => h2 (.inr h)
        have e := @openR_in_3 (fun _ _ _ _ => []) (fun _ _ => []) (fun es => sumU (bytesD es)) (fun _ => 0) (fun es a w => getF (bytesD es) a.toNat w.toNat 0) xb (rows l)
        simp only [hrl, hw, hrm, Int.toNat_natCast, z0, z2, z4, rows_take, rows_drop, bytes_rows, rows_len, List.length_take, List.length_drop, List.take_length, Nat.min_eq_left (Nat.sub_le _ _), g5, g4, g2, ones, w6, w1, tb] at e
        refine ⟨_, Ret.pure (e h0 h1 ?_ h4 ?_ ?_ ?_ ?_ ?_ ?_ ?_) rfl⟩
        all_goals first | assumption | omega | (simp; omega) | simp [*]
    · rw [if_neg h1]
      refine ⟨false, ?_⟩
      have e := @openR_in_0 (fun _ _ _ _ => []) (fun _ _ => []) (fun es => sumU (bytesD es)) (fun _ => 0) (fun es a w => getF (bytesD es) a.toNat w.toNat 0) xb (rows l)
      simp only [hrl, hw, hrm, Int.toNat_natCast, z0, z2, z4, rows_take, rows_drop, bytes_rows, rows_len, List.length_take, List.length_drop, List.take_length, Nat.min_eq_left (Nat.sub_le _ _), g5, g4, g2, ones, w6, w1, tb] at e
      apply e
      all_goals first | assumption | omega | (simp; omega) | simp [*]
  · rw [if_neg h0]
    exact ⟨false, @openR_in_4 (fun _ _ _ _ => []) (fun _ _ => []) (fun _ => 0) (fun _ => 0) (fun _ _ _ => 0) xb (rows l) (by rw [hrl]; simpa using h0)⟩


/-! ### closing -/
theorem byteAt_le (n : Int) (i : Nat) : 0 ≤ byteAt n i ∧ byteAt n i ≤ 255 := by
  unfold byteAt
  have hs : IntKind.u8.signed = false := rfl
  have hb : (2 ^ IntKind.u8.bits : Int) = 256 := by decide
  unfold IntKind.wrap
  simp only [hs, hb, Bool.false_and, Bool.false_eq_true, if_false]
  omega
theorem nums_bytes (n : Int) (w : Nat) : Bytes (nums n w) := by
  intro x hx
  obtain ⟨i, _, rfl⟩ := List.mem_map.1 hx
  exact byteAt_le n i
/-- A page without its sum; a page. -/
def bodyU (p : Nat) (next : Int) (l : List Int) : List Int := nums (next + 1) 4 ++ nums l.length 2 ++ l ++ List.replicate (p - 10 - l.length) 0
def pageU (p : Nat) (next : Int) (l : List Int) : List Int := bodyU p next l ++ nums (IntKind.i64.wrap (sumU (bodyU p next l))) 4
theorem bodyU_len {p : Nat} {next : Int} {l : List Int} (h : l.length ≤ p - 10) (hp : 64 ≤ p) : (bodyU p next l).length = p - 4 := by
  simp [bodyU, nums_len]
  omega
theorem pageU_len {p : Nat} {next : Int} {l : List Int} (h : l.length ≤ p - 10) (hp : 64 ≤ p) : (pageU p next l).length = p := by
  unfold pageU
  rw [List.length_append, bodyU_len h hp, nums_len]
  omega
theorem pageU_bytes {p : Nat} {next : Int} {l : List Int} (hb : Bytes l) : Bytes (pageU p next l) := by
  intro x hx
  unfold pageU bodyU at hx
  simp only [List.mem_append, List.mem_replicate] at hx
  rcases hx with (((h | h) | h) | h) | h
  · exact nums_bytes _ _ x h
  · exact nums_bytes _ _ x h
  · exact hb x h
  · omega
  · exact nums_bytes _ _ x h

def layC (es : Es) (st len : Nat) (n : Int) : Es := es.take st ++ rows (nums n len) ++ es.drop (st + len)
theorem layC_rows (l : List Int) (st len : Nat) (n : Int) : layC (rows l) st len n = rows (l.take st ++ nums n len ++ l.drop (st + len)) := by
  simp [layC, rows_app, rows_take, rows_drop]
theorem rows_rep (n : Nat) : List.replicate n [D.int .u8 0] = rows (List.replicate n 0) := by simp [rows]
theorem lay_step {l : List Int} {st len : Nat} {n : Int} (hlen : len ≤ 8) (h : st + len ≤ l.length) :
    Ret P T 47 [.view 0 st len, .int .i64 n] [some (.row 1 (rows l))] (.tuple []) [some (.row 1 (layC (rows l) st len n))] := by
  rw [layC_rows]
  exact lay47 l st len n hlen h

/-- Close hands back the page. -/
theorem close28 (p : Nat) (next : Int) (xb : Bool) (l : List Int) (hm : mayU p = true) (h1 : ¬ next < -1) (h2 : ¬ next ≥ 16384) (h3 : l.length ≤ p - 10) :
    Ret P T 28 [.int .i64 p, .int .i64 next, .slice xb (rows l) none] [] (.tuple [.view 0 0 p, .int .i64 0]) [some (.row 1 (rows (pageU p next l)))] := by
  have hle := mayU_le hm
  have hrm := roomU_may hm
  have hrl : (rows l).length = l.length := rows_len l
  have w1 : IntKind.i64.wrap (next + 1) = next + 1 := wrap_i64 (by omega)
  have w4 : IntKind.i64.wrap ((p : Int) - 4) = ((p - 4 : Nat) : Int) := by rw [wrap_i64 (by omega)]; omega
  have hX1 : layC (rows (List.replicate p 0)) 0 4 (next + 1) = rows (nums (next + 1) 4 ++ List.replicate (p - 4) 0) := by
    rw [layC_rows]; simp
  have hX2 : layC (rows (nums (next + 1) 4 ++ List.replicate (p - 4) 0)) 4 2 (l.length : Int) = rows (nums (next + 1) 4 ++ nums l.length 2 ++ List.replicate (p - 6) 0) := by
    rw [layC_rows]
    congr 1
    rw [List.take_append_of_le_length (by simp [nums_len]), List.take_of_length_le (by simp [nums_len]), List.drop_append, nums_len, List.drop_of_length_le (by rw [nums_len]; omega)]
    simp
    omega
  have len6 : (nums (next + 1) 4 ++ nums l.length 2).length = 6 := by simp [nums_len]
  have hX3 : (nums (next + 1) 4 ++ nums l.length 2 ++ List.replicate (p - 6) 0).take 6 ++ l.take (p - 6) ++ (nums (next + 1) 4 ++ nums l.length 2 ++ List.replicate (p - 6) 0).drop (6 + min l.length (p - 6)) =
      nums (next + 1) 4 ++ nums l.length 2 ++ l ++ List.replicate (p - 6 - l.length) 0 := by
    rw [List.take_append_of_le_length (by omega), List.take_of_length_le (by omega), List.take_of_length_le (l := l) (by omega), List.drop_append, len6, List.drop_of_length_le (by omega), Nat.min_eq_left (by omega)]
    simp
  have hB : (nums (next + 1) 4 ++ nums l.length 2 ++ l ++ List.replicate (p - 6 - l.length) 0).take (p - 4) = bodyU p next l := by
    rw [List.take_append, List.take_of_length_le (by simp [nums_len]; omega)]
    unfold bodyU
    simp [nums_len]
    omega
  have hX4 : layC (rows (nums (next + 1) 4 ++ nums l.length 2 ++ l ++ List.replicate (p - 6 - l.length) 0)) (p - 4) 4 (IntKind.i64.wrap (sumU (bodyU p next l))) = rows (pageU p next l) := by
    rw [layC_rows, hB, List.drop_of_length_le (by simp [nums_len]; omega), List.append_nil]
    rfl
  have e := @close_in_3 layC (fun _ _ => []) (fun es => sumU (bytesD es)) (fun _ => 0) (fun _ _ _ => 0) p next xb (rows l)
  have t6 : ((p : Int) - 6).toNat = p - 6 := by omega
  have t4 : ((p : Int) - ((p - 4 : Nat) : Int)).toNat = 4 := by omega
  simp only [hrl, w1, w4, hrm, Int.toNat_natCast, Int.sub_zero, rows_rep, hX1, hX2, hX3, t6, t4, ← rows_app, rows_take, rows_drop, List.drop_zero, bytes_rows, rows_len, hB, Nat.zero_add, hX4, rows_one] at e
  have s1 := lay_step (l := List.replicate p 0) (st := 0) (len := 4) (n := next + 1) (by omega) (by simp; omega)
  have s2 := lay_step (l := nums (next + 1) 4 ++ List.replicate (p - 4) 0) (st := 4) (len := 2) (n := l.length) (by omega) (by simp [nums_len]; omega)
  have s3 := lay_step (l := nums (next + 1) 4 ++ nums l.length 2 ++ l ++ List.replicate (p - 6 - l.length) 0) (st := p - 4) (len := 4) (n := IntKind.i64.wrap (sumU (bodyU p next l))) (by omega) (by simp [nums_len]; omega)
  rw [hX1] at s1
  rw [hX2] at s2
  rw [hX4] at s3
  have rs := sumR true (bodyU p next l) (by rw [bodyU_len h3 (by omega)]; omega)
  apply e
  all_goals first | assumption | exact flat_rows _ | omega | (simp [nums_len]; omega) | simp [*]


/-- As a page that lies. -/
theorem close28' (p : Nat) (next : Int) (xb : Bool) (l : List Int) (hm : mayU p = true) (h1 : ¬ next < -1) (h2 : ¬ next ≥ 16384) (h3 : l.length ≤ p - 10) :
    Ret P T 28 [.int .i64 p, .int .i64 next, .slice xb (rows l) none] [] (.tuple [.slice true (rows (pageU p next l)) none, .int .i64 0]) [] := by
  have hle := mayU_le hm
  have hl := pageU_len (next := next) h3 (by omega)
  have := (close28 p next xb l hm h1 h2 h3).froz (F := fun _ => true) (r' := .tuple [.slice true (((rows (pageU p next l)).drop 0).take p) none, .int .i64 0]) rfl rfl (by
    simp only [List.append_nil, all_cons, all_nil]
    exact ⟨by rw [rows_len, hl]; omega, flat_rows _, trivial⟩)
  rwa [List.drop_zero, List.take_of_length_le (by rw [rows_len, hl]; omega)] at this

/-- Close hands back no page. -/
theorem close28_bad (p : Int) (next : Int) (xb : Bool) (l : List Int) (h : ¬ (mayU p = true ∧ ¬ next < -1 ∧ ¬ next ≥ 16384 ∧ ¬ (l.length : Int) > roomU p)) :
    Ret P T 28 [.int .i64 p, .int .i64 next, .slice xb (rows l) none] [] (.tuple [.slice false [] none, .int .i64 1]) [] := by
  have hrl : (rows l).length = l.length := rows_len l
  cases h0 : mayU p with
  | false => exact @close_in_4 layC (fun _ _ => []) (fun _ => 0) (fun _ => 0) (fun _ _ _ => 0) p next xb (rows l) h0
  | true =>
    by_cases h1 : next < -1
    · exact @close_in_0 layC (fun _ _ => []) (fun _ => 0) (fun _ => 0) (fun _ _ _ => 0) p next xb (rows l) h0 h1
    · by_cases h2 : next ≥ 16384
      · exact @close_in_1 layC (fun _ _ => []) (fun _ => 0) (fun _ => 0) (fun _ _ _ => 0) p next xb (rows l) h0 h1 h2
      · by_cases h3 : (l.length : Int) > roomU p
        · exact @close_in_2 layC (fun _ _ => []) (fun _ => 0) (fun _ => 0) (fun _ _ _ => 0) p next xb (rows l) h0 h1 h2 (by rw [hrl]; exact h3)
        · exact absurd ⟨h0, h1, h2, h3⟩ h
theorem closeR29_bad (p : Int) (next : Int) (xb : Bool) (l : List Int) (h : ¬ (mayU p = true ∧ ¬ next < -1 ∧ ¬ next ≥ 16384 ∧ ¬ (l.length : Int) > roomU p)) :
    Ret P T 29 [.int .i64 p, .int .i64 next, .slice xb (rows l) none] [] (.tuple [.slice false [] none, .int .i64 1]) [] := by
  have hrl : (rows l).length = l.length := rows_len l
  cases h0 : mayU p with
  | false => exact @closeR_in_4 layC (fun _ _ => []) (fun _ => 0) (fun _ => 0) (fun _ _ _ => 0) p next xb (rows l) h0
  | true =>
    by_cases h1 : next < -1
    · exact @closeR_in_0 layC (fun _ _ => []) (fun _ => 0) (fun _ => 0) (fun _ _ _ => 0) p next xb (rows l) h0 h1
    · by_cases h2 : next ≥ 16384
      · exact @closeR_in_1 layC (fun _ _ => []) (fun _ => 0) (fun _ => 0) (fun _ _ _ => 0) p next xb (rows l) h0 h1 h2
      · by_cases h3 : (l.length : Int) > roomU p
        · exact @closeR_in_2 layC (fun _ _ => []) (fun _ => 0) (fun _ => 0) (fun _ _ _ => 0) p next xb (rows l) h0 h1 h2 (by rw [hrl]; exact h3)
        · exact absurd ⟨h0, h1, h2, h3⟩ h

def numC (n w : Int) : Es := rows (nums n w.toNat)
def sumC (es : Es) : Int := sumU (bytesD es)
theorem num4 (n : Int) : Ret P T 49 [.int .i64 n, .int .i64 4] [] (.slice true (numC n 4) (some 0)) [some (.tok 4 1)] := num49 n 4 (by omega) (by omega)
theorem num2 (n : Int) : Ret P T 49 [.int .i64 n, .int .i64 2] [] (.slice true (numC n 2) (some 0)) [some (.tok 2 1)] := num49 n 2 (by omega) (by omega)

theorem closeR_loop (p : Nat) (next : Int) (xb : Bool) (l : List Int) (hp : 64 ≤ p ∧ p ≤ 4096) (h3 : l.length ≤ p - 10) : ∀ (m j : Nat), j + m = p - 10 - l.length →
    closeR_at0 layC numC sumC (fun _ => 0) (fun _ _ _ => 0) p next xb (rows l) true (rows (nums (next + 1) 4 ++ nums l.length 2 ++ l ++ List.replicate j 0)) (6 + l.length + j)
      (.tuple [.slice true (rows (pageU p next l)) (some 0), .int .i64 0]) [some (.tok p 1)] := by
  have w4 : IntKind.i64.wrap ((p : Int) - 4) = ((p - 4 : Nat) : Int) := by rw [wrap_i64 (by omega)]; omega
  have hlen : ∀ j, (nums (next + 1) 4 ++ nums l.length 2 ++ l ++ List.replicate j 0).length = 6 + l.length + j := fun j => by simp [nums_len]; omega
  intro m
  induction m with
  | zero =>
    intro j hj
    have hB : nums (next + 1) 4 ++ nums l.length 2 ++ l ++ List.replicate j 0 = bodyU p next l := by
      obtain rfl : j = p - 10 - l.length := by omega
      rfl
    have e := @closeR_0_1 layC numC sumC (fun _ => 0) (fun _ _ _ => 0) p next xb (rows l) true (rows (bodyU p next l)) (6 + l.length + j)
    have hlb : (bodyU p next l).length = p - 4 := bodyU_len h3 (by omega)
    have hs : sumC (rows (bodyU p next l)) = sumU (bodyU p next l) := by unfold sumC; rw [bytes_rows]
    have hn4 : numC (IntKind.i64.wrap (sumU (bodyU p next l))) 4 = rows (nums (IntKind.i64.wrap (sumU (bodyU p next l))) 4) := rfl
    have n4 := num4 (IntKind.i64.wrap (sumU (bodyU p next l)))
    rw [hn4] at n4
    simp only [rows_len, hlb, w4, hs, hn4, ← rows_app, nums_len, rows_one] at e
    rw [hB]
    have hk : 6 + l.length + j + 4 = p := by omega
    rw [hk] at e
    exact e (by omega) ⟨by omega, by omega, trivial⟩ n4 (sumR' true _ (by omega))
  | succ m ih =>
    intro j hj
    have e := @closeR_0_0 layC numC sumC (fun _ => 0) (fun _ _ _ => 0) p next xb (rows l) true (rows (nums (next + 1) 4 ++ nums l.length 2 ++ l ++ List.replicate j 0)) (6 + l.length + j)
    have hg := ih (j + 1) (by omega)
    rw [List.replicate_succ', ← List.append_assoc, rows_app] at hg
    rw [rows_len, hlen, w4] at e
    exact e (by omega) ⟨rfl, by omega, rfl⟩ hg

/-- The reference's Close hands back the same page. -/
theorem closeR29 (p : Nat) (next : Int) (xb : Bool) (l : List Int) (hm : mayU p = true) (h1 : ¬ next < -1) (h2 : ¬ next ≥ 16384) (h3 : l.length ≤ p - 10) :
    Ret P T 29 [.int .i64 p, .int .i64 next, .slice xb (rows l) none] [] (.tuple [.slice true (rows (pageU p next l)) none, .int .i64 0]) [] := by
  have hle := mayU_le hm
  have hrm := roomU_may hm
  have hrl : (rows l).length = l.length := rows_len l
  have w1 : IntKind.i64.wrap (next + 1) = next + 1 := wrap_i64 (by omega)
  have hg := closeR_loop p next xb l (by omega) h3 (p - 10 - l.length) 0 (by omega)
  have e := @closeR_in_3 layC numC sumC (fun _ => 0) (fun _ _ _ => 0) p next xb (rows l)
  have c4 : numC (next + 1) 4 = rows (nums (next + 1) 4) := rfl
  have c2 : numC (l.length : Int) 2 = rows (nums l.length 2) := rfl
  have n4 := num4 (next + 1)
  have n2 := num2 (l.length : Int)
  rw [c4] at n4
  rw [c2] at n2
  simp only [hrl, w1, hrm, c4, c2, ← rows_app, rows_len, List.length_append, nums_len, rows_one] at e
  simp only [List.replicate_zero, List.append_nil, Nat.add_zero] at hg
  exact (e hm h1 h2 (by omega) ⟨trivial, by omega, trivial⟩ ⟨trivial, by omega, trivial⟩ n2 n4 hg).pure rfl


/-! ### what was closed is opened -/
theorem byteAt_val {n : Int} (h : 0 ≤ n) (i : Nat) (hi : i ≤ 7) : byteAt n i = n / 2 ^ (8 * i) % 256 := by
  unfold byteAt shrW
  have hs : IntKind.u8.signed = false := rfl
  have hb : (2 ^ IntKind.u8.bits : Int) = 256 := by decide
  have h64 : IntKind.i64.bits = 64 := rfl
  unfold IntKind.wrap
  simp only [hs, hb, Bool.false_and, Bool.false_eq_true, if_false]
  rw [Int.toNat_natCast, h64, Nat.min_eq_left (by omega), Int.fdiv_eq_ediv_of_nonneg]
  exact Int.le_of_lt (Int.pow_pos (by omega))
theorem val4 {n : Int} (h : 0 ≤ n ∧ n < 4294967296) : valF (nums n 4) = n := by
  have e : nums n 4 = [byteAt n 0, byteAt n 1, byteAt n 2, byteAt n 3] := rfl
  rw [e, byteAt_val h.1 0 (by omega), byteAt_val h.1 1 (by omega), byteAt_val h.1 2 (by omega), byteAt_val h.1 3 (by omega)]
  simp only [valF, Nat.mul_zero, Int.pow_zero, Int.ediv_one, show (2 : Int) ^ (8 * 1) = 256 by decide, show (2 : Int) ^ (8 * 2) = 65536 by decide, show (2 : Int) ^ (8 * 3) = 16777216 by decide]
  omega
theorem val2 {n : Int} (h : 0 ≤ n ∧ n < 65536) : valF (nums n 2) = n := by
  have e : nums n 2 = [byteAt n 0, byteAt n 1] := rfl
  rw [e, byteAt_val h.1 0 (by omega), byteAt_val h.1 1 (by omega)]
  simp only [valF, Nat.mul_zero, Int.pow_zero, Int.ediv_one, show (2 : Int) ^ (8 * 1) = 256 by decide]
  omega
theorem wrapU_le (n : Int) : 0 ≤ IntKind.u32.wrap n ∧ IntKind.u32.wrap n < 4294967296 := by
  have hs : IntKind.u32.signed = false := rfl
  have hb : (2 ^ IntKind.u32.bits : Int) = 4294967296 := by decide
  unfold IntKind.wrap
  simp only [hs, hb, Bool.false_and, Bool.false_eq_true, if_false]
  omega
theorem sumU_le (l : List Int) : 0 ≤ sumU l ∧ sumU l < 4294967296 := by
  unfold sumU xorU
  exact wrapU_le _
theorem sumW (l : List Int) : IntKind.i64.wrap (sumU l) = sumU l := by
  have := sumU_le l
  exact wrap_i64 (by omega)
theorem openV_page (p : Nat) (next : Int) (l : List Int) (hb : Bytes l) (hm : mayU p = true) (h1 : ¬ next < -1) (h2 : ¬ next ≥ 16384) (h3 : l.length ≤ p - 10) : openV (pageU p next l) = (next, l, 0) := by
  have hle := mayU_le hm
  have hp := pageU_len (next := next) h3 (by omega)
  have hB : (bodyU p next l).length = p - 4 := bodyU_len h3 (by omega)
  have hs := sumU_le (bodyU p next l)
  have t1 : (pageU p next l).take (p - 4) = bodyU p next l := by
    unfold pageU
    rw [List.take_append_of_le_length (by omega), List.take_of_length_le (by omega)]
  have t2 : (pageU p next l).drop (p - 4) = nums (sumU (bodyU p next l)) 4 := by
    unfold pageU
    rw [List.drop_append, hB, List.drop_of_length_le (by omega), Nat.sub_self, sumW]
    rfl
  have eP : pageU p next l = nums (next + 1) 4 ++ (nums l.length 2 ++ (l ++ (List.replicate (p - 10 - l.length) 0 ++ nums (IntKind.i64.wrap (sumU (bodyU p next l))) 4))) := by
    unfold pageU bodyU
    simp
  have t3 : (pageU p next l).take 4 = nums (next + 1) 4 := by
    rw [eP, List.take_append_of_le_length (by simp [nums_len]), List.take_of_length_le (by simp [nums_len])]
  have d4 : (pageU p next l).drop 4 = nums l.length 2 ++ (l ++ (List.replicate (p - 10 - l.length) 0 ++ nums (IntKind.i64.wrap (sumU (bodyU p next l))) 4)) := by
    rw [eP, List.drop_append, nums_len, List.drop_of_length_le (by simp [nums_len])]
    rfl
  have t4 : ((pageU p next l).drop 4).take 2 = nums l.length 2 := by
    rw [d4, List.take_append_of_le_length (by simp [nums_len]), List.take_of_length_le (by simp [nums_len])]
  have t5 : ((pageU p next l).drop 6).take l.length = l := by
    rw [show 6 = 4 + 2 by rfl, ← List.drop_drop, d4, List.drop_append, nums_len, List.drop_of_length_le (by simp [nums_len])]
    simp
  unfold openV
  rw [hp, if_pos hm, t1, t2, sumW, t3, t4, read_val (nums_bytes _ _) (by simp [nums_len]), read_val (nums_bytes _ _) (by simp [nums_len]), read_val (nums_bytes _ _) (by simp [nums_len]), val4 hs, val4 (by omega), val2 (by omega), if_pos rfl, if_neg (by omega), Int.toNat_natCast, t5]
  rw [show next + 1 - 1 = next by omega]
theorem openV_bytes {l : List Int} (hb : Bytes l) : Bytes (openV l).2.1 := by
  unfold openV
  split
  · split
    · split
      · intro x hx; cases hx
      · exact (hb.drop _).take _
    · intro x hx; cases hx
  · intro x hx; cases hx
theorem rows_isByte {l : List Int} (hb : Bytes l) : (rows l).all isByteC = true := by
  refine List.all_eq_true.2 fun c hc => ?_
  obtain ⟨x, hx, rfl⟩ := List.mem_map.1 hc
  have := hb x hx
  simp [isByteC]
  omega

end Go.Proofs.Ytifpbdhggooelaa.sealk
