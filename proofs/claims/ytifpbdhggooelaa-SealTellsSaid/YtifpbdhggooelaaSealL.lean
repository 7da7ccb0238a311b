/- Laws of pages: roads of SealOpens, SealCloses, SealKnown, and of the first example. -/
import Derived.Test.YtifpbdhggooelaaSealB
namespace Go.Proofs.Ytifpbdhggooelaa.sealk
open Go Ytifpbdhggooelaa.GD
set_option linter.unusedVariables false
set_option linter.unusedSimpArgs false
set_option maxRecDepth 100000

variable (ok : Int → Bool) (pageE : Int → Int → Es → Es) (sumE : Es → Int) (opN opE : Es → Int) (opX opY : Es → Bool) (opL : Es → Es)
def tabL : Tab := fun k args H =>
  match k with
  | 27 => match args, H with | [], [] => some (.bool true, []) | _, _ => none
  | 28 => match args, H with | [.int .i64 p, .int .i64 nx, .slice _ es none], [] => some (bif ok p then .tuple [.slice true (pageE p nx es) none, .int .i64 0] else .tuple [.slice false [] none, .int .i64 1], []) | _, _ => none
  | 29 => match args, H with | [.int .i64 p, .int .i64 nx, .slice _ es none], [] => some (bif ok p then .tuple [.slice true (pageE p nx es) none, .int .i64 0] else .tuple [.slice false [] none, .int .i64 1], []) | _, _ => none
  | 30 => match args, H with | [.int .i64 p], [] => some (.int .i64 (roomU p), []) | _, _ => none
  | 31 => match args, H with | [.int .i64 p], [] => some (.int .i64 (roomU p), []) | _, _ => none
  | 32 => match args, H with | [.slice _ es none], [] => some (.int .u32 (sumE es), []) | _, _ => none
  | 33 => match args, H with | [.slice _ es none], [] => some (.int .u32 (sumE es), []) | _, _ => none
  | 34 => match args, H with | [.slice _ es none], [] => some (.tuple [.int .i64 (opN es), .slice (opX es) (opL es) none, .int .i64 (opE es)], []) | [.slice _ es (some 0)], [some (.tok n 1)] => some (.tuple [.int .i64 (opN es), .slice (opX es) (opL es) none, .int .i64 (opE es)], [some (.tok n 1)]) | _, _ => none
  | 35 => match args, H with | [.slice _ es none], [] => some (.tuple [.int .i64 (opN es), .slice (opY es) (opL es) none, .int .i64 (opE es)], []) | _, _ => none
  | _ => none
def aOf (pageE : Int → Int → Es → Es) (sumE : Es → Int) (opN opE : Es → Int) (opX opY : Es → Bool) (opL : Es → Es) : List D × GD.Heap := ([], [])
def tOf (pageE : Int → Int → Es → Es) (sumE : Es → Int) (opN opE : Es → Int) (opX opY : Es → Bool) (opL : Es → Es) : Tab := tabL (fun p => p == 64) pageE sumE opN opE opX opY opL
def aOpens (pageE : Int → Int → Es → Es) (sumE : Es → Int) (opN opE : Es → Int) (opX opY : Es → Bool) (opL : Es → Es) (xb : Bool) (eb : Es) : List D × GD.Heap := ([.slice xb eb none], [])
def tOpens (pageE : Int → Int → Es → Es) (sumE : Es → Int) (opN opE : Es → Int) (opX opY : Es → Bool) (opL : Es → Es) (xb : Bool) (eb : Es) : Tab := tabL (fun _ => true) pageE sumE opN opE opX opY opL
def aCls (pageE : Int → Int → Es → Es) (sumE : Es → Int) (opN opE : Es → Int) (opX opY : Es → Bool) (opL : Es → Es) (p nx : Int) (xb : Bool) (eb : Es) : List D × GD.Heap := ([.int .i64 p, .int .i64 nx, .slice xb eb none], [])
def tCls (pageE : Int → Int → Es → Es) (sumE : Es → Int) (opN opE : Es → Int) (opX opY : Es → Bool) (opL : Es → Es) (p nx : Int) (xb : Bool) (eb : Es) : Tab := tabL (fun _ => true) pageE sumE opN opE opX opY opL
def tClsB (pageE : Int → Int → Es → Es) (sumE : Es → Int) (opN opE : Es → Int) (opX opY : Es → Bool) (opL : Es → Es) (p nx : Int) (xb : Bool) (eb : Es) : Tab := tabL (fun _ => false) pageE sumE opN opE opX opY opL

/-! ### function 27 -/
theorem aw_fn : Try.prog.funcs[(27 : Nat)]? = some (fnAt Try.prog 27) := by kernel_rfl
theorem aw_body : (fnAt Try.prog 27).body = some (bodyAt Try.prog 27) := by kernel_rfl
theorem aw_name : ((fnAt Try.prog 27).name == "runtime.NumGoroutine") = false := by kernel_rfl
noncomputable def aw_C (pageE : Int → Int → Es → Es) (sumE : Es → Int) (opN : Es → Int) (opE : Es → Int) (opX : Es → Bool) (opY : Es → Bool) (opL : Es → Es) : Cf := cfg Try.prog (hintOf []) (tOf pageE sumE opN opE opX opY opL) (fun _ => false) 2 true (fun _ => false)
theorem aw_ok (pageE : Int → Int → Es → Es) (sumE : Es → Int) (opN : Es → Int) (opE : Es → Int) (opX : Es → Bool) (opY : Es → Bool) (opL : Es → Es) : CfOk (aw_C pageE sumE opN opE opX opY opL) := cfg_ok (by kernel_rfl)
noncomputable def aw_run (pageE : Int → Int → Es → Es) (sumE : Es → Int) (opN : Es → Int) (opE : Es → Int) (opX : Es → Bool) (opY : Es → Bool) (opL : Es → Es) (cur : Cur) (k : List It) (s : St) (or : GD.Or) := runE (aw_C pageE sumE opN opE opX opY opL) (callE (aw_C pageE sumE opN opE opX opY opL) 100000 10) 27 100000 cur k s or []

theorem aw_in_0 {pageE : Int → Int → Es → Es} {sumE : Es → Int} {opN : Es → Int} {opE : Es → Int} {opX : Es → Bool} {opY : Es → Bool} {opL : Es → Es}
    (h0 : sumE
  [[D.int IntKind.u8 (49 : Int)], [D.int IntKind.u8 (50 : Int)], [D.int IntKind.u8 (51 : Int)],
    [D.int IntKind.u8 (52 : Int)], [D.int IntKind.u8 (53 : Int)], [D.int IntKind.u8 (54 : Int)],
    [D.int IntKind.u8 (55 : Int)], [D.int IntKind.u8 (56 : Int)], [D.int IntKind.u8 (57 : Int)]] = (3808858755 : Int))
    (h1 : opE
  (pageE (64 : Int) (5 : Int)
    [[D.int IntKind.u8 (97 : Int)], [D.int IntKind.u8 (98 : Int)], [D.int IntKind.u8 (99 : Int)]]) = (0 : Int))
    (h2 : opN
  (pageE (64 : Int) (5 : Int)
    [[D.int IntKind.u8 (97 : Int)], [D.int IntKind.u8 (98 : Int)], [D.int IntKind.u8 (99 : Int)]]) = (5 : Int))
    (h3 : (bytesOf
    (opL
      (pageE (64 : Int) (5 : Int)
        [[D.int IntKind.u8 (97 : Int)], [D.int IntKind.u8 (98 : Int)], [D.int IntKind.u8 (99 : Int)]]))).toList = (ByteArray.mk #[(97 : UInt8), (98 : UInt8), (99 : UInt8)]).toList)
    (h4 : List.all
    (opL
      (pageE (64 : Int) (5 : Int)
        [[D.int IntKind.u8 (97 : Int)], [D.int IntKind.u8 (98 : Int)], [D.int IntKind.u8 (99 : Int)]]))
    isByteC =
  true)
    (h5 : Ret Try.prog (tyOf Try.prog) (32 : Nat)
  [D.slice true
      [[D.int IntKind.u8 (49 : Int)], [D.int IntKind.u8 (50 : Int)], [D.int IntKind.u8 (51 : Int)],
        [D.int IntKind.u8 (52 : Int)], [D.int IntKind.u8 (53 : Int)], [D.int IntKind.u8 (54 : Int)],
        [D.int IntKind.u8 (55 : Int)], [D.int IntKind.u8 (56 : Int)], [D.int IntKind.u8 (57 : Int)]]
      none]
  []
  (D.int IntKind.u32
    (sumE
      [[D.int IntKind.u8 (49 : Int)], [D.int IntKind.u8 (50 : Int)], [D.int IntKind.u8 (51 : Int)],
        [D.int IntKind.u8 (52 : Int)], [D.int IntKind.u8 (53 : Int)], [D.int IntKind.u8 (54 : Int)],
        [D.int IntKind.u8 (55 : Int)], [D.int IntKind.u8 (56 : Int)], [D.int IntKind.u8 (57 : Int)]]))
  [])
    (h6 : Ret Try.prog (tyOf Try.prog) (34 : Nat)
  [D.slice true
      (pageE (64 : Int) (5 : Int)
        [[D.int IntKind.u8 (97 : Int)], [D.int IntKind.u8 (98 : Int)], [D.int IntKind.u8 (99 : Int)]])
      none]
  []
  (D.tuple
    [D.int IntKind.i64
        (opN
          (pageE (64 : Int) (5 : Int)
            [[D.int IntKind.u8 (97 : Int)], [D.int IntKind.u8 (98 : Int)], [D.int IntKind.u8 (99 : Int)]])),
      D.slice
        (opX
          (pageE (64 : Int) (5 : Int)
            [[D.int IntKind.u8 (97 : Int)], [D.int IntKind.u8 (98 : Int)], [D.int IntKind.u8 (99 : Int)]]))
        (opL
          (pageE (64 : Int) (5 : Int)
            [[D.int IntKind.u8 (97 : Int)], [D.int IntKind.u8 (98 : Int)], [D.int IntKind.u8 (99 : Int)]]))
        none,
      D.int IntKind.i64
        (opE
          (pageE (64 : Int) (5 : Int)
            [[D.int IntKind.u8 (97 : Int)], [D.int IntKind.u8 (98 : Int)], [D.int IntKind.u8 (99 : Int)]]))])
  [])
    (h7 : Ret Try.prog (tyOf Try.prog) (28 : Nat)
  [D.int IntKind.i64 (64 : Int), D.int IntKind.i64 (5 : Int),
    D.slice true [[D.int IntKind.u8 (97 : Int)], [D.int IntKind.u8 (98 : Int)], [D.int IntKind.u8 (99 : Int)]] none]
  []
  (D.tuple
    [D.slice true
        (pageE (64 : Int) (5 : Int)
          [[D.int IntKind.u8 (97 : Int)], [D.int IntKind.u8 (98 : Int)], [D.int IntKind.u8 (99 : Int)]])
        none,
      D.int IntKind.i64 (0 : Int)])
  []) :
    Ret Try.prog (tyOf Try.prog) 27 [] [] (D.bool
  ((↑(List.length
          (pageE (64 : Int) (5 : Int)
            [[D.int IntKind.u8 (97 : Int)], [D.int IntKind.u8 (98 : Int)], [D.int IntKind.u8 (99 : Int)]])) :
      Int) ==
    (64 : Int))) [] :=
  have b0 : (sumE
      [[D.int IntKind.u8 (49 : Int)], [D.int IntKind.u8 (50 : Int)], [D.int IntKind.u8 (51 : Int)],
        [D.int IntKind.u8 (52 : Int)], [D.int IntKind.u8 (53 : Int)], [D.int IntKind.u8 (54 : Int)],
        [D.int IntKind.u8 (55 : Int)], [D.int IntKind.u8 (56 : Int)], [D.int IntKind.u8 (57 : Int)]] ==
    (3808858755 : Int)) =
  true := beq_iff_eq.2 h0
  have b1 : (opE
      (pageE (64 : Int) (5 : Int)
        [[D.int IntKind.u8 (97 : Int)], [D.int IntKind.u8 (98 : Int)], [D.int IntKind.u8 (99 : Int)]]) ==
    (0 : Int)) =
  true := beq_iff_eq.2 h1
  have b2 : (opN
      (pageE (64 : Int) (5 : Int)
        [[D.int IntKind.u8 (97 : Int)], [D.int IntKind.u8 (98 : Int)], [D.int IntKind.u8 (99 : Int)]]) ==
    (5 : Int)) =
  true := beq_iff_eq.2 h2
  have b3 : ((bytesOf
        (opL
          (pageE (64 : Int) (5 : Int)
            [[D.int IntKind.u8 (97 : Int)], [D.int IntKind.u8 (98 : Int)], [D.int IntKind.u8 (99 : Int)]]))).toList ==
    (ByteArray.mk #[(97 : UInt8), (98 : UInt8), (99 : UInt8)]).toList) =
  true := beq_iff_eq.2 h3
  fin_call aw_fn aw_body aw_name (fin_ret (h := 0) (aw_ok pageE sumE opN opE opX opY opL) (show outF (tyOf Try.prog) (fnAt Try.prog 27) 0 (aw_run pageE sumE opN opE opX opY opL (.code (bodyAt Try.prog 27)) [] (beginE (fnAt Try.prog 27) [] []) (.path [true, true, true, true, true, true, true, true, true, true, true, true, true, true, true, true, true])) = some (D.bool
  ((↑(List.length
          (pageE (64 : Int) (5 : Int)
            [[D.int IntKind.u8 (97 : Int)], [D.int IntKind.u8 (98 : Int)], [D.int IntKind.u8 (99 : Int)]])) :
      Int) ==
    (64 : Int)), [],
    [((bytesOf
        (opL
          (pageE (64 : Int) (5 : Int)
            [[D.int IntKind.u8 (97 : Int)], [D.int IntKind.u8 (98 : Int)], [D.int IntKind.u8 (99 : Int)]]))).toList ==
    (ByteArray.mk #[(97 : UInt8), (98 : UInt8), (99 : UInt8)]).toList) =
  true,
      (((bytesOf
          (opL
            (pageE (64 : Int) (5 : Int)
              [[D.int IntKind.u8 (97 : Int)], [D.int IntKind.u8 (98 : Int)], [D.int IntKind.u8 (99 : Int)]]))).toList ==
      (ByteArray.mk #[(97 : UInt8), (98 : UInt8), (99 : UInt8)]).toList) ==
    true) =
  true,
      (((bytesOf
          (opL
            (pageE (64 : Int) (5 : Int)
              [[D.int IntKind.u8 (97 : Int)], [D.int IntKind.u8 (98 : Int)], [D.int IntKind.u8 (99 : Int)]]))).toList ==
      (ByteArray.mk #[(97 : UInt8), (98 : UInt8), (99 : UInt8)]).toList) ==
    true) =
  true,
      (((bytesOf
          (opL
            (pageE (64 : Int) (5 : Int)
              [[D.int IntKind.u8 (97 : Int)], [D.int IntKind.u8 (98 : Int)], [D.int IntKind.u8 (99 : Int)]]))).toList ==
      (ByteArray.mk #[(97 : UInt8), (98 : UInt8), (99 : UInt8)]).toList) ==
    true) =
  true,
      (opN
      (pageE (64 : Int) (5 : Int)
        [[D.int IntKind.u8 (97 : Int)], [D.int IntKind.u8 (98 : Int)], [D.int IntKind.u8 (99 : Int)]]) ==
    (5 : Int)) =
  true,
      ((opN
        (pageE (64 : Int) (5 : Int)
          [[D.int IntKind.u8 (97 : Int)], [D.int IntKind.u8 (98 : Int)], [D.int IntKind.u8 (99 : Int)]]) ==
      (5 : Int)) ==
    true) =
  true,
      List.all
    (opL
      (pageE (64 : Int) (5 : Int)
        [[D.int IntKind.u8 (97 : Int)], [D.int IntKind.u8 (98 : Int)], [D.int IntKind.u8 (99 : Int)]]))
    isByteC =
  true,
      ((opN
        (pageE (64 : Int) (5 : Int)
          [[D.int IntKind.u8 (97 : Int)], [D.int IntKind.u8 (98 : Int)], [D.int IntKind.u8 (99 : Int)]]) ==
      (5 : Int)) ==
    true) =
  true,
      ((opN
        (pageE (64 : Int) (5 : Int)
          [[D.int IntKind.u8 (97 : Int)], [D.int IntKind.u8 (98 : Int)], [D.int IntKind.u8 (99 : Int)]]) ==
      (5 : Int)) ==
    true) =
  true,
      (opE
      (pageE (64 : Int) (5 : Int)
        [[D.int IntKind.u8 (97 : Int)], [D.int IntKind.u8 (98 : Int)], [D.int IntKind.u8 (99 : Int)]]) ==
    (0 : Int)) =
  true,
      ((opE
        (pageE (64 : Int) (5 : Int)
          [[D.int IntKind.u8 (97 : Int)], [D.int IntKind.u8 (98 : Int)], [D.int IntKind.u8 (99 : Int)]]) ==
      (0 : Int)) ==
    true) =
  true,
      ((opE
        (pageE (64 : Int) (5 : Int)
          [[D.int IntKind.u8 (97 : Int)], [D.int IntKind.u8 (98 : Int)], [D.int IntKind.u8 (99 : Int)]]) ==
      (0 : Int)) ==
    true) =
  true,
      true = true,
      true = true,
      true = true,
      (sumE
      [[D.int IntKind.u8 (49 : Int)], [D.int IntKind.u8 (50 : Int)], [D.int IntKind.u8 (51 : Int)],
        [D.int IntKind.u8 (52 : Int)], [D.int IntKind.u8 (53 : Int)], [D.int IntKind.u8 (54 : Int)],
        [D.int IntKind.u8 (55 : Int)], [D.int IntKind.u8 (56 : Int)], [D.int IntKind.u8 (57 : Int)]] ==
    (3808858755 : Int)) =
  true,
      ((sumE
        [[D.int IntKind.u8 (49 : Int)], [D.int IntKind.u8 (50 : Int)], [D.int IntKind.u8 (51 : Int)],
          [D.int IntKind.u8 (52 : Int)], [D.int IntKind.u8 (53 : Int)], [D.int IntKind.u8 (54 : Int)],
          [D.int IntKind.u8 (55 : Int)], [D.int IntKind.u8 (56 : Int)], [D.int IntKind.u8 (57 : Int)]] ==
      (3808858755 : Int)) ==
    true) =
  true,
      ((sumE
        [[D.int IntKind.u8 (49 : Int)], [D.int IntKind.u8 (50 : Int)], [D.int IntKind.u8 (51 : Int)],
          [D.int IntKind.u8 (52 : Int)], [D.int IntKind.u8 (53 : Int)], [D.int IntKind.u8 (54 : Int)],
          [D.int IntKind.u8 (55 : Int)], [D.int IntKind.u8 (56 : Int)], [D.int IntKind.u8 (57 : Int)]] ==
      (3808858755 : Int)) ==
    true) =
  true,
      Ret Try.prog (tyOf Try.prog) (32 : Nat)
  [D.slice true
      [[D.int IntKind.u8 (49 : Int)], [D.int IntKind.u8 (50 : Int)], [D.int IntKind.u8 (51 : Int)],
        [D.int IntKind.u8 (52 : Int)], [D.int IntKind.u8 (53 : Int)], [D.int IntKind.u8 (54 : Int)],
        [D.int IntKind.u8 (55 : Int)], [D.int IntKind.u8 (56 : Int)], [D.int IntKind.u8 (57 : Int)]]
      none]
  []
  (D.int IntKind.u32
    (sumE
      [[D.int IntKind.u8 (49 : Int)], [D.int IntKind.u8 (50 : Int)], [D.int IntKind.u8 (51 : Int)],
        [D.int IntKind.u8 (52 : Int)], [D.int IntKind.u8 (53 : Int)], [D.int IntKind.u8 (54 : Int)],
        [D.int IntKind.u8 (55 : Int)], [D.int IntKind.u8 (56 : Int)], [D.int IntKind.u8 (57 : Int)]]))
  [],
      Ret Try.prog (tyOf Try.prog) (34 : Nat)
  [D.slice true
      (pageE (64 : Int) (5 : Int)
        [[D.int IntKind.u8 (97 : Int)], [D.int IntKind.u8 (98 : Int)], [D.int IntKind.u8 (99 : Int)]])
      none]
  []
  (D.tuple
    [D.int IntKind.i64
        (opN
          (pageE (64 : Int) (5 : Int)
            [[D.int IntKind.u8 (97 : Int)], [D.int IntKind.u8 (98 : Int)], [D.int IntKind.u8 (99 : Int)]])),
      D.slice
        (opX
          (pageE (64 : Int) (5 : Int)
            [[D.int IntKind.u8 (97 : Int)], [D.int IntKind.u8 (98 : Int)], [D.int IntKind.u8 (99 : Int)]]))
        (opL
          (pageE (64 : Int) (5 : Int)
            [[D.int IntKind.u8 (97 : Int)], [D.int IntKind.u8 (98 : Int)], [D.int IntKind.u8 (99 : Int)]]))
        none,
      D.int IntKind.i64
        (opE
          (pageE (64 : Int) (5 : Int)
            [[D.int IntKind.u8 (97 : Int)], [D.int IntKind.u8 (98 : Int)], [D.int IntKind.u8 (99 : Int)]]))])
  [],
      Ret Try.prog (tyOf Try.prog) (28 : Nat)
  [D.int IntKind.i64 (64 : Int), D.int IntKind.i64 (5 : Int),
    D.slice true [[D.int IntKind.u8 (97 : Int)], [D.int IntKind.u8 (98 : Int)], [D.int IntKind.u8 (99 : Int)]] none]
  []
  (D.tuple
    [D.slice true
        (pageE (64 : Int) (5 : Int)
          [[D.int IntKind.u8 (97 : Int)], [D.int IntKind.u8 (98 : Int)], [D.int IntKind.u8 (99 : Int)]])
        none,
      D.int IntKind.i64 (0 : Int)])
  []]) by kernel_rfl)
    (all_cons.2 ⟨b3, all_cons.2 ⟨(by rw [b3]; rfl), all_cons.2 ⟨(by rw [b3]; rfl), all_cons.2 ⟨(by rw [b3]; rfl), all_cons.2 ⟨b2, all_cons.2 ⟨(by rw [b2]; rfl), all_cons.2 ⟨h4, all_cons.2 ⟨(by rw [b2]; rfl), all_cons.2 ⟨(by rw [b2]; rfl), all_cons.2 ⟨b1, all_cons.2 ⟨(by rw [b1]; rfl), all_cons.2 ⟨(by rw [b1]; rfl), all_cons.2 ⟨rfl, all_cons.2 ⟨rfl, all_cons.2 ⟨rfl, all_cons.2 ⟨b0, all_cons.2 ⟨(by rw [b0]; rfl), all_cons.2 ⟨(by rw [b0]; rfl), all_cons.2 ⟨h5, all_cons.2 ⟨h6, all_cons.2 ⟨h7, all_nil.2 trivial⟩⟩⟩⟩⟩⟩⟩⟩⟩⟩⟩⟩⟩⟩⟩⟩⟩⟩⟩⟩⟩))


/-! ### function 7 -/
theorem lop_fn : Try.prog.funcs[(7 : Nat)]? = some (fnAt Try.prog 7) := by kernel_rfl
theorem lop_body : (fnAt Try.prog 7).body = some (bodyAt Try.prog 7) := by kernel_rfl
theorem lop_name : ((fnAt Try.prog 7).name == "runtime.NumGoroutine") = false := by kernel_rfl
noncomputable def lop_C (pageE : Int → Int → Es → Es) (sumE : Es → Int) (opN : Es → Int) (opE : Es → Int) (opX : Es → Bool) (opY : Es → Bool) (opL : Es → Es) (xb : Bool) (eb : Es) : Cf := cfg Try.prog (hintOf []) (tOpens pageE sumE opN opE opX opY opL xb eb) (fun _ => false) 2 true (fun _ => false)
theorem lop_ok (pageE : Int → Int → Es → Es) (sumE : Es → Int) (opN : Es → Int) (opE : Es → Int) (opX : Es → Bool) (opY : Es → Bool) (opL : Es → Es) (xb : Bool) (eb : Es) : CfOk (lop_C pageE sumE opN opE opX opY opL xb eb) := cfg_ok (by kernel_rfl)
noncomputable def lop_run (pageE : Int → Int → Es → Es) (sumE : Es → Int) (opN : Es → Int) (opE : Es → Int) (opX : Es → Bool) (opY : Es → Bool) (opL : Es → Es) (xb : Bool) (eb : Es) (cur : Cur) (k : List It) (s : St) (or : GD.Or) := runE (lop_C pageE sumE opN opE opX opY opL xb eb) (callE (lop_C pageE sumE opN opE opX opY opL xb eb) 100000 10) 7 100000 cur k s or []

theorem lop_in_0 {pageE : Int → Int → Es → Es} {sumE : Es → Int} {opN : Es → Int} {opE : Es → Int} {opX : Es → Bool} {opY : Es → Bool} {opL : Es → Es} {xb : Bool} {eb : Es}
    (h0 : (↑(List.length eb) : Int) > (5000 : Int))
    (h1 : Ret Try.prog (tyOf Try.prog) (27 : Nat) [] [] (D.bool true) []) :
    Ret Try.prog (tyOf Try.prog) 7 [D.slice xb eb none] [] (D.bool true) [] :=
  have b0 : decide ((↑(List.length eb) : Int) > (5000 : Int)) = true := decide_eq_true h0
  fin_call lop_fn lop_body lop_name (fin_ret (h := 0) (lop_ok pageE sumE opN opE opX opY opL xb eb) (show outF (tyOf Try.prog) (fnAt Try.prog 7) 0 (lop_run pageE sumE opN opE opX opY opL xb eb (.code (bodyAt Try.prog 7)) [] (beginE (fnAt Try.prog 7) [D.slice xb eb none] []) (.path [false, true])) = some (D.bool true, [],
    [decide ((↑(List.length eb) : Int) > (5000 : Int)) = true,
      false = false,
      Ret Try.prog (tyOf Try.prog) (27 : Nat) [] [] (D.bool true) []]) by kernel_rfl)
    (all_cons.2 ⟨b0, all_cons.2 ⟨rfl, all_cons.2 ⟨h1, all_nil.2 trivial⟩⟩⟩))

theorem lop_in_1 {pageE : Int → Int → Es → Es} {sumE : Es → Int} {opN : Es → Int} {opE : Es → Int} {opX : Es → Bool} {opY : Es → Bool} {opL : Es → Es} {xb : Bool} {eb : Es}
    (h0 : ¬ ((↑(List.length eb) : Int) > (5000 : Int)))
    (h1 : List.all (opL eb) isByteC = true)
    (h2 : Ret Try.prog (tyOf Try.prog) (35 : Nat) [D.slice xb eb none] []
  (D.tuple [D.int IntKind.i64 (opN eb), D.slice (opY eb) (opL eb) none, D.int IntKind.i64 (opE eb)]) [])
    (h3 : Ret Try.prog (tyOf Try.prog) (34 : Nat) [D.slice xb eb none] []
  (D.tuple [D.int IntKind.i64 (opN eb), D.slice (opX eb) (opL eb) none, D.int IntKind.i64 (opE eb)]) [])
    (h4 : Ret Try.prog (tyOf Try.prog) (27 : Nat) [] [] (D.bool true) []) :
    Ret Try.prog (tyOf Try.prog) 7 [D.slice xb eb none] [] (D.bool (opE eb == opE eb)) [] :=
  have b0 : decide ((↑(List.length eb) : Int) > (5000 : Int)) = false := decide_eq_false h0
  fin_call lop_fn lop_body lop_name (fin_ret (h := 0) (lop_ok pageE sumE opN opE opX opY opL xb eb) (show outF (tyOf Try.prog) (fnAt Try.prog 7) 0 (lop_run pageE sumE opN opE opX opY opL xb eb (.code (bodyAt Try.prog 7)) [] (beginE (fnAt Try.prog 7) [D.slice xb eb none] []) (.path [false, false, true, true, true, true, true, true, true, true, true, true])) = some (D.bool (opE eb == opE eb), [],
    [((bytesOf (opL eb)).toList == (bytesOf (opL eb)).toList) = true,
      (((bytesOf (opL eb)).toList == (bytesOf (opL eb)).toList) == true) = true,
      (((bytesOf (opL eb)).toList == (bytesOf (opL eb)).toList) == true) = true,
      (((bytesOf (opL eb)).toList == (bytesOf (opL eb)).toList) == true) = true,
      (opN eb == opN eb) = true,
      ((opN eb == opN eb) == true) = true,
      List.all (opL eb) isByteC = true,
      ((opN eb == opN eb) == true) = true,
      ((opN eb == opN eb) == true) = true,
      List.all (opL eb) isByteC = true,
      ((opN eb == opN eb) == true) = true,
      ((opN eb == opN eb) == true) = true,
      Ret Try.prog (tyOf Try.prog) (35 : Nat) [D.slice xb eb none] []
  (D.tuple [D.int IntKind.i64 (opN eb), D.slice (opY eb) (opL eb) none, D.int IntKind.i64 (opE eb)]) [],
      Ret Try.prog (tyOf Try.prog) (34 : Nat) [D.slice xb eb none] []
  (D.tuple [D.int IntKind.i64 (opN eb), D.slice (opX eb) (opL eb) none, D.int IntKind.i64 (opE eb)]) [],
      decide ((↑(List.length eb) : Int) > (5000 : Int)) = false,
      false = false,
      Ret Try.prog (tyOf Try.prog) (27 : Nat) [] [] (D.bool true) []]) by kernel_rfl)
    (all_cons.2 ⟨(by simp), all_cons.2 ⟨(by simp), all_cons.2 ⟨(by simp), all_cons.2 ⟨(by simp), all_cons.2 ⟨(by simp), all_cons.2 ⟨(by simp), all_cons.2 ⟨h1, all_cons.2 ⟨(by simp), all_cons.2 ⟨(by simp), all_cons.2 ⟨h1, all_cons.2 ⟨(by simp), all_cons.2 ⟨(by simp), all_cons.2 ⟨h2, all_cons.2 ⟨h3, all_cons.2 ⟨b0, all_cons.2 ⟨rfl, all_cons.2 ⟨h4, all_nil.2 trivial⟩⟩⟩⟩⟩⟩⟩⟩⟩⟩⟩⟩⟩⟩⟩⟩⟩))


/-! ### function 6 -/
theorem lcl_fn : Try.prog.funcs[(6 : Nat)]? = some (fnAt Try.prog 6) := by kernel_rfl
theorem lcl_body : (fnAt Try.prog 6).body = some (bodyAt Try.prog 6) := by kernel_rfl
theorem lcl_name : ((fnAt Try.prog 6).name == "runtime.NumGoroutine") = false := by kernel_rfl
noncomputable def lcl_C (pageE : Int → Int → Es → Es) (sumE : Es → Int) (opN : Es → Int) (opE : Es → Int) (opX : Es → Bool) (opY : Es → Bool) (opL : Es → Es) (p : Int) (nx : Int) (xb : Bool) (eb : Es) : Cf := cfg Try.prog (hintOf []) (tCls pageE sumE opN opE opX opY opL p nx xb eb) (fun _ => false) 2 true (fun _ => false)
theorem lcl_ok (pageE : Int → Int → Es → Es) (sumE : Es → Int) (opN : Es → Int) (opE : Es → Int) (opX : Es → Bool) (opY : Es → Bool) (opL : Es → Es) (p : Int) (nx : Int) (xb : Bool) (eb : Es) : CfOk (lcl_C pageE sumE opN opE opX opY opL p nx xb eb) := cfg_ok (by kernel_rfl)
noncomputable def lcl_run (pageE : Int → Int → Es → Es) (sumE : Es → Int) (opN : Es → Int) (opE : Es → Int) (opX : Es → Bool) (opY : Es → Bool) (opL : Es → Es) (p : Int) (nx : Int) (xb : Bool) (eb : Es) (cur : Cur) (k : List It) (s : St) (or : GD.Or) := runE (lcl_C pageE sumE opN opE opX opY opL p nx xb eb) (callE (lcl_C pageE sumE opN opE opX opY opL p nx xb eb) 100000 10) 6 100000 cur k s or []

theorem lcl_in_0 {pageE : Int → Int → Es → Es} {sumE : Es → Int} {opN : Es → Int} {opE : Es → Int} {opX : Es → Bool} {opY : Es → Bool} {opL : Es → Es} {p : Int} {nx : Int} {xb : Bool} {eb : Es}
    (h0 : (↑(List.length eb) : Int) > (5000 : Int))
    (h1 : Ret Try.prog (tyOf Try.prog) (27 : Nat) [] [] (D.bool true) []) :
    Ret Try.prog (tyOf Try.prog) 6 [D.int IntKind.i64 p, D.int IntKind.i64 nx, D.slice xb eb none] [] (D.bool true) [] :=
  have b0 : decide ((↑(List.length eb) : Int) > (5000 : Int)) = true := decide_eq_true h0
  fin_call lcl_fn lcl_body lcl_name (fin_ret (h := 0) (lcl_ok pageE sumE opN opE opX opY opL p nx xb eb) (show outF (tyOf Try.prog) (fnAt Try.prog 6) 0 (lcl_run pageE sumE opN opE opX opY opL p nx xb eb (.code (bodyAt Try.prog 6)) [] (beginE (fnAt Try.prog 6) [D.int IntKind.i64 p, D.int IntKind.i64 nx, D.slice xb eb none] []) (.path [false, true])) = some (D.bool true, [],
    [decide ((↑(List.length eb) : Int) > (5000 : Int)) = true,
      false = false,
      Ret Try.prog (tyOf Try.prog) (27 : Nat) [] [] (D.bool true) []]) by kernel_rfl)
    (all_cons.2 ⟨b0, all_cons.2 ⟨rfl, all_cons.2 ⟨h1, all_nil.2 trivial⟩⟩⟩))

theorem lcl_in_1 {pageE : Int → Int → Es → Es} {sumE : Es → Int} {opN : Es → Int} {opE : Es → Int} {opX : Es → Bool} {opY : Es → Bool} {opL : Es → Es} {p : Int} {nx : Int} {xb : Bool} {eb : Es}
    (h0 : ¬ ((↑(List.length eb) : Int) > (5000 : Int)))
    (h1 : opE (pageE p nx eb) = (0 : Int))
    (h2 : opN (pageE p nx eb) = nx)
    (h3 : List.all eb isByteC = true)
    (h4 : List.all (opL (pageE p nx eb)) isByteC = true)
    (h5 : Ret Try.prog (tyOf Try.prog) (34 : Nat) [D.slice true (pageE p nx eb) none] []
  (D.tuple
    [D.int IntKind.i64 (opN (pageE p nx eb)), D.slice (opX (pageE p nx eb)) (opL (pageE p nx eb)) none,
      D.int IntKind.i64 (opE (pageE p nx eb))])
  [])
    (h6 : Ret Try.prog (tyOf Try.prog) (33 : Nat) [D.slice xb eb none] [] (D.int IntKind.u32 (sumE eb)) [])
    (h7 : Ret Try.prog (tyOf Try.prog) (32 : Nat) [D.slice xb eb none] [] (D.int IntKind.u32 (sumE eb)) [])
    (h8 : List.all (pageE p nx eb) isByteC = true)
    (h9 : Ret Try.prog (tyOf Try.prog) (29 : Nat) [D.int IntKind.i64 p, D.int IntKind.i64 nx, D.slice xb eb none] []
  (D.tuple [D.slice true (pageE p nx eb) none, D.int IntKind.i64 (0 : Int)]) [])
    (h10 : Ret Try.prog (tyOf Try.prog) (28 : Nat) [D.int IntKind.i64 p, D.int IntKind.i64 nx, D.slice xb eb none] []
  (D.tuple [D.slice true (pageE p nx eb) none, D.int IntKind.i64 (0 : Int)]) [])
    (h11 : Ret Try.prog (tyOf Try.prog) (27 : Nat) [] [] (D.bool true) []) :
    Ret Try.prog (tyOf Try.prog) 6 [D.int IntKind.i64 p, D.int IntKind.i64 nx, D.slice xb eb none] [] (D.bool ((bytesOf (opL (pageE p nx eb))).toList == (bytesOf eb).toList)) [] :=
  have b0 : decide ((↑(List.length eb) : Int) > (5000 : Int)) = false := decide_eq_false h0
  have b1 : (opE (pageE p nx eb) == (0 : Int)) = true := beq_iff_eq.2 h1
  have b2 : (opN (pageE p nx eb) == nx) = true := beq_iff_eq.2 h2
  fin_call lcl_fn lcl_body lcl_name (fin_ret (h := 0) (lcl_ok pageE sumE opN opE opX opY opL p nx xb eb) (show outF (tyOf Try.prog) (fnAt Try.prog 6) 0 (lcl_run pageE sumE opN opE opX opY opL p nx xb eb (.code (bodyAt Try.prog 6)) [] (beginE (fnAt Try.prog 6) [D.int IntKind.i64 p, D.int IntKind.i64 nx, D.slice xb eb none] []) (.path [false, false, true, true, true, true, true, false, true, true, true, true, true, false, true, true, true, true, true, false, false, false, true, true, true, true, true, true, true, true, true, true])) = some (D.bool ((bytesOf (opL (pageE p nx eb))).toList == (bytesOf eb).toList), [],
    [(opN (pageE p nx eb) == nx) = true,
      ((opN (pageE p nx eb) == nx) == true) = true,
      List.all eb isByteC = true,
      ((opN (pageE p nx eb) == nx) == true) = true,
      ((opN (pageE p nx eb) == nx) == true) = true,
      List.all (opL (pageE p nx eb)) isByteC = true,
      ((opN (pageE p nx eb) == nx) == true) = true,
      ((opN (pageE p nx eb) == nx) == true) = true,
      (opE (pageE p nx eb) == (0 : Int)) = true,
      ((opE (pageE p nx eb) == (0 : Int)) == true) = true,
      ((opE (pageE p nx eb) == (0 : Int)) == true) = true,
      ((opE (pageE p nx eb) == (0 : Int)) == true) = true,
      Ret Try.prog (tyOf Try.prog) (34 : Nat) [D.slice true (pageE p nx eb) none] []
  (D.tuple
    [D.int IntKind.i64 (opN (pageE p nx eb)), D.slice (opX (pageE p nx eb)) (opL (pageE p nx eb)) none,
      D.int IntKind.i64 (opE (pageE p nx eb))])
  [],
      false = false,
      (sumE eb != sumE eb) = false,
      (roomU p != roomU p) = false,
      ((roomU p != roomU p) == false) = true,
      Ret Try.prog (tyOf Try.prog) (33 : Nat) [D.slice xb eb none] [] (D.int IntKind.u32 (sumE eb)) [],
      ((roomU p != roomU p) == false) = true,
      ((roomU p != roomU p) == false) = true,
      Ret Try.prog (tyOf Try.prog) (32 : Nat) [D.slice xb eb none] [] (D.int IntKind.u32 (sumE eb)) [],
      ((roomU p != roomU p) == false) = true,
      ((roomU p != roomU p) == false) = true,
      (!(bytesOf (pageE p nx eb)).toList == (bytesOf (pageE p nx eb)).toList) = false,
      ((!(bytesOf (pageE p nx eb)).toList == (bytesOf (pageE p nx eb)).toList) == false) = true,
      Ret Try.prog (tyOf Try.prog) (31 : Nat) [D.int IntKind.i64 p] [] (D.int IntKind.i64 (roomU p)) [],
      ((!(bytesOf (pageE p nx eb)).toList == (bytesOf (pageE p nx eb)).toList) == false) = true,
      ((!(bytesOf (pageE p nx eb)).toList == (bytesOf (pageE p nx eb)).toList) == false) = true,
      Ret Try.prog (tyOf Try.prog) (30 : Nat) [D.int IntKind.i64 p] [] (D.int IntKind.i64 (roomU p)) [],
      ((!(bytesOf (pageE p nx eb)).toList == (bytesOf (pageE p nx eb)).toList) == false) = true,
      ((!(bytesOf (pageE p nx eb)).toList == (bytesOf (pageE p nx eb)).toList) == false) = true,
      false = false,
      true = true,
      List.all (pageE p nx eb) isByteC = true,
      true = true,
      true = true,
      List.all (pageE p nx eb) isByteC = true,
      true = true,
      true = true,
      Ret Try.prog (tyOf Try.prog) (29 : Nat) [D.int IntKind.i64 p, D.int IntKind.i64 nx, D.slice xb eb none] []
  (D.tuple [D.slice true (pageE p nx eb) none, D.int IntKind.i64 (0 : Int)]) [],
      Ret Try.prog (tyOf Try.prog) (28 : Nat) [D.int IntKind.i64 p, D.int IntKind.i64 nx, D.slice xb eb none] []
  (D.tuple [D.slice true (pageE p nx eb) none, D.int IntKind.i64 (0 : Int)]) [],
      decide ((↑(List.length eb) : Int) > (5000 : Int)) = false,
      false = false,
      Ret Try.prog (tyOf Try.prog) (27 : Nat) [] [] (D.bool true) []]) by kernel_rfl)
    (all_cons.2 ⟨b2, all_cons.2 ⟨(by rw [b2]; rfl), all_cons.2 ⟨h3, all_cons.2 ⟨(by rw [b2]; rfl), all_cons.2 ⟨(by rw [b2]; rfl), all_cons.2 ⟨h4, all_cons.2 ⟨(by rw [b2]; rfl), all_cons.2 ⟨(by rw [b2]; rfl), all_cons.2 ⟨b1, all_cons.2 ⟨(by rw [b1]; rfl), all_cons.2 ⟨(by rw [b1]; rfl), all_cons.2 ⟨(by rw [b1]; rfl), all_cons.2 ⟨h5, all_cons.2 ⟨rfl, all_cons.2 ⟨(by simp), all_cons.2 ⟨(by simp), all_cons.2 ⟨(by simp), all_cons.2 ⟨h6, all_cons.2 ⟨(by simp), all_cons.2 ⟨(by simp), all_cons.2 ⟨h7, all_cons.2 ⟨(by simp), all_cons.2 ⟨(by simp), all_cons.2 ⟨(by simp), all_cons.2 ⟨(by simp), all_cons.2 ⟨(room31 _), all_cons.2 ⟨(by simp), all_cons.2 ⟨(by simp), all_cons.2 ⟨(room30 _), all_cons.2 ⟨(by simp), all_cons.2 ⟨(by simp), all_cons.2 ⟨rfl, all_cons.2 ⟨rfl, all_cons.2 ⟨h8, all_cons.2 ⟨rfl, all_cons.2 ⟨rfl, all_cons.2 ⟨h8, all_cons.2 ⟨rfl, all_cons.2 ⟨rfl, all_cons.2 ⟨h9, all_cons.2 ⟨h10, all_cons.2 ⟨b0, all_cons.2 ⟨rfl, all_cons.2 ⟨h11, all_nil.2 trivial⟩⟩⟩⟩⟩⟩⟩⟩⟩⟩⟩⟩⟩⟩⟩⟩⟩⟩⟩⟩⟩⟩⟩⟩⟩⟩⟩⟩⟩⟩⟩⟩⟩⟩⟩⟩⟩⟩⟩⟩⟩⟩⟩⟩))


/-! ### function 6 -/
theorem lcb_fn : Try.prog.funcs[(6 : Nat)]? = some (fnAt Try.prog 6) := by kernel_rfl
theorem lcb_body : (fnAt Try.prog 6).body = some (bodyAt Try.prog 6) := by kernel_rfl
theorem lcb_name : ((fnAt Try.prog 6).name == "runtime.NumGoroutine") = false := by kernel_rfl
noncomputable def lcb_C (pageE : Int → Int → Es → Es) (sumE : Es → Int) (opN : Es → Int) (opE : Es → Int) (opX : Es → Bool) (opY : Es → Bool) (opL : Es → Es) (p : Int) (nx : Int) (xb : Bool) (eb : Es) : Cf := cfg Try.prog (hintOf []) (tClsB pageE sumE opN opE opX opY opL p nx xb eb) (fun _ => false) 2 true (fun _ => false)
theorem lcb_ok (pageE : Int → Int → Es → Es) (sumE : Es → Int) (opN : Es → Int) (opE : Es → Int) (opX : Es → Bool) (opY : Es → Bool) (opL : Es → Es) (p : Int) (nx : Int) (xb : Bool) (eb : Es) : CfOk (lcb_C pageE sumE opN opE opX opY opL p nx xb eb) := cfg_ok (by kernel_rfl)
noncomputable def lcb_run (pageE : Int → Int → Es → Es) (sumE : Es → Int) (opN : Es → Int) (opE : Es → Int) (opX : Es → Bool) (opY : Es → Bool) (opL : Es → Es) (p : Int) (nx : Int) (xb : Bool) (eb : Es) (cur : Cur) (k : List It) (s : St) (or : GD.Or) := runE (lcb_C pageE sumE opN opE opX opY opL p nx xb eb) (callE (lcb_C pageE sumE opN opE opX opY opL p nx xb eb) 100000 10) 6 100000 cur k s or []

theorem lcb_in_0 {pageE : Int → Int → Es → Es} {sumE : Es → Int} {opN : Es → Int} {opE : Es → Int} {opX : Es → Bool} {opY : Es → Bool} {opL : Es → Es} {p : Int} {nx : Int} {xb : Bool} {eb : Es}
    (h0 : (↑(List.length eb) : Int) > (5000 : Int))
    (h1 : Ret Try.prog (tyOf Try.prog) (27 : Nat) [] [] (D.bool true) []) :
    Ret Try.prog (tyOf Try.prog) 6 [D.int IntKind.i64 p, D.int IntKind.i64 nx, D.slice xb eb none] [] (D.bool true) [] :=
  have b0 : decide ((↑(List.length eb) : Int) > (5000 : Int)) = true := decide_eq_true h0
  fin_call lcb_fn lcb_body lcb_name (fin_ret (h := 0) (lcb_ok pageE sumE opN opE opX opY opL p nx xb eb) (show outF (tyOf Try.prog) (fnAt Try.prog 6) 0 (lcb_run pageE sumE opN opE opX opY opL p nx xb eb (.code (bodyAt Try.prog 6)) [] (beginE (fnAt Try.prog 6) [D.int IntKind.i64 p, D.int IntKind.i64 nx, D.slice xb eb none] []) (.path [false, true])) = some (D.bool true, [],
    [decide ((↑(List.length eb) : Int) > (5000 : Int)) = true,
      false = false,
      Ret Try.prog (tyOf Try.prog) (27 : Nat) [] [] (D.bool true) []]) by kernel_rfl)
    (all_cons.2 ⟨b0, all_cons.2 ⟨rfl, all_cons.2 ⟨h1, all_nil.2 trivial⟩⟩⟩))

theorem lcb_in_1 {pageE : Int → Int → Es → Es} {sumE : Es → Int} {opN : Es → Int} {opE : Es → Int} {opX : Es → Bool} {opY : Es → Bool} {opL : Es → Es} {p : Int} {nx : Int} {xb : Bool} {eb : Es}
    (h0 : ¬ ((↑(List.length eb) : Int) > (5000 : Int)))
    (h1 : Ret Try.prog (tyOf Try.prog) (33 : Nat) [D.slice xb eb none] [] (D.int IntKind.u32 (sumE eb)) [])
    (h2 : Ret Try.prog (tyOf Try.prog) (32 : Nat) [D.slice xb eb none] [] (D.int IntKind.u32 (sumE eb)) [])
    (h3 : Ret Try.prog (tyOf Try.prog) (29 : Nat) [D.int IntKind.i64 p, D.int IntKind.i64 nx, D.slice xb eb none] []
  (D.tuple [D.slice false [] none, D.int IntKind.i64 (1 : Int)]) [])
    (h4 : Ret Try.prog (tyOf Try.prog) (28 : Nat) [D.int IntKind.i64 p, D.int IntKind.i64 nx, D.slice xb eb none] []
  (D.tuple [D.slice false [] none, D.int IntKind.i64 (1 : Int)]) [])
    (h5 : Ret Try.prog (tyOf Try.prog) (27 : Nat) [] [] (D.bool true) []) :
    Ret Try.prog (tyOf Try.prog) 6 [D.int IntKind.i64 p, D.int IntKind.i64 nx, D.slice xb eb none] [] (D.bool true) [] :=
  have b0 : decide ((↑(List.length eb) : Int) > (5000 : Int)) = false := decide_eq_false h0
  fin_call lcb_fn lcb_body lcb_name (fin_ret (h := 0) (lcb_ok pageE sumE opN opE opX opY opL p nx xb eb) (show outF (tyOf Try.prog) (fnAt Try.prog 6) 0 (lcb_run pageE sumE opN opE opX opY opL p nx xb eb (.code (bodyAt Try.prog 6)) [] (beginE (fnAt Try.prog 6) [D.int IntKind.i64 p, D.int IntKind.i64 nx, D.slice xb eb none] []) (.path [false, false, true, true, true, true, true, false, true, true, true, true, true, false, true, true, true, true, true, false, false, true])) = some (D.bool true, [],
    [true = true,
      (sumE eb != sumE eb) = false,
      (roomU p != roomU p) = false,
      ((roomU p != roomU p) == false) = true,
      Ret Try.prog (tyOf Try.prog) (33 : Nat) [D.slice xb eb none] [] (D.int IntKind.u32 (sumE eb)) [],
      ((roomU p != roomU p) == false) = true,
      ((roomU p != roomU p) == false) = true,
      Ret Try.prog (tyOf Try.prog) (32 : Nat) [D.slice xb eb none] [] (D.int IntKind.u32 (sumE eb)) [],
      ((roomU p != roomU p) == false) = true,
      ((roomU p != roomU p) == false) = true,
      false = false,
      true = true,
      Ret Try.prog (tyOf Try.prog) (31 : Nat) [D.int IntKind.i64 p] [] (D.int IntKind.i64 (roomU p)) [],
      true = true,
      true = true,
      Ret Try.prog (tyOf Try.prog) (30 : Nat) [D.int IntKind.i64 p] [] (D.int IntKind.i64 (roomU p)) [],
      true = true,
      true = true,
      false = false,
      true = true,
      true = true,
      true = true,
      true = true,
      true = true,
      true = true,
      true = true,
      Ret Try.prog (tyOf Try.prog) (29 : Nat) [D.int IntKind.i64 p, D.int IntKind.i64 nx, D.slice xb eb none] []
  (D.tuple [D.slice false [] none, D.int IntKind.i64 (1 : Int)]) [],
      Ret Try.prog (tyOf Try.prog) (28 : Nat) [D.int IntKind.i64 p, D.int IntKind.i64 nx, D.slice xb eb none] []
  (D.tuple [D.slice false [] none, D.int IntKind.i64 (1 : Int)]) [],
      decide ((↑(List.length eb) : Int) > (5000 : Int)) = false,
      false = false,
      Ret Try.prog (tyOf Try.prog) (27 : Nat) [] [] (D.bool true) []]) by kernel_rfl)
    (all_cons.2 ⟨rfl, all_cons.2 ⟨(by simp), all_cons.2 ⟨(by simp), all_cons.2 ⟨(by simp), all_cons.2 ⟨h1, all_cons.2 ⟨(by simp), all_cons.2 ⟨(by simp), all_cons.2 ⟨h2, all_cons.2 ⟨(by simp), all_cons.2 ⟨(by simp), all_cons.2 ⟨rfl, all_cons.2 ⟨rfl, all_cons.2 ⟨(room31 _), all_cons.2 ⟨rfl, all_cons.2 ⟨rfl, all_cons.2 ⟨(room30 _), all_cons.2 ⟨rfl, all_cons.2 ⟨rfl, all_cons.2 ⟨rfl, all_cons.2 ⟨rfl, all_cons.2 ⟨rfl, all_cons.2 ⟨rfl, all_cons.2 ⟨rfl, all_cons.2 ⟨rfl, all_cons.2 ⟨rfl, all_cons.2 ⟨rfl, all_cons.2 ⟨h3, all_cons.2 ⟨h4, all_cons.2 ⟨b0, all_cons.2 ⟨rfl, all_cons.2 ⟨h5, all_nil.2 trivial⟩⟩⟩⟩⟩⟩⟩⟩⟩⟩⟩⟩⟩⟩⟩⟩⟩⟩⟩⟩⟩⟩⟩⟩⟩⟩⟩⟩⟩⟩⟩))


/-! ### function 11 -/
theorem lkn_fn : Try.prog.funcs[(11 : Nat)]? = some (fnAt Try.prog 11) := by kernel_rfl
theorem lkn_body : (fnAt Try.prog 11).body = some (bodyAt Try.prog 11) := by kernel_rfl
theorem lkn_name : ((fnAt Try.prog 11).name == "runtime.NumGoroutine") = false := by kernel_rfl
noncomputable def lkn_C (pageE : Int → Int → Es → Es) (sumE : Es → Int) (opN : Es → Int) (opE : Es → Int) (opX : Es → Bool) (opY : Es → Bool) (opL : Es → Es) (n4_9 : Int) (n4_15 : Int) : Cf := cfg Try.prog (hintOf [((11 : Nat), (4 : Nat), (9 : Nat), Hint.c [D.int IntKind.u8 n4_9]), ((11 : Nat), (4 : Nat), (15 : Nat), Hint.c [D.int IntKind.u8 n4_15]), ((11 : Nat), (7 : Nat), (0 : Nat), Hint.tok)]) (tOf pageE sumE opN opE opX opY opL) (fun g => match g with | 32 => true | 33 => true | _ => false) 2 true (fun _ => false)
theorem lkn_ok (pageE : Int → Int → Es → Es) (sumE : Es → Int) (opN : Es → Int) (opE : Es → Int) (opX : Es → Bool) (opY : Es → Bool) (opL : Es → Es) (n4_9 : Int) (n4_15 : Int) : CfOk (lkn_C pageE sumE opN opE opX opY opL n4_9 n4_15) := cfg_ok (by kernel_rfl)
noncomputable def lkn_run (pageE : Int → Int → Es → Es) (sumE : Es → Int) (opN : Es → Int) (opE : Es → Int) (opX : Es → Bool) (opY : Es → Bool) (opL : Es → Es) (n4_9 : Int) (n4_15 : Int) (cur : Cur) (k : List It) (s : St) (or : GD.Or) := runE (lkn_C pageE sumE opN opE opX opY opL n4_9 n4_15) (callE (lkn_C pageE sumE opN opE opX opY opL n4_9 n4_15) 100000 10) 11 100000 cur k s or []

theorem lkn_in_0 {pageE : Int → Int → Es → Es} {sumE : Es → Int} {opN : Es → Int} {opE : Es → Int} {opX : Es → Bool} {opY : Es → Bool} {opL : Es → Es} {n4_9 : Int} {n4_15 : Int}
    (h0 : (↑(List.length (pageE (64 : Int) (0 : Int) [])) : Int) = (64 : Int))
    (h1 : n4_9 = (1 : Int))
    (h2 : n4_15 = (0 : Int))
    (h3 : opE (List.take (63 : Nat) (pageE (64 : Int) (0 : Int) [])) = (1 : Int))
    (h4 : opE
  [[D.int IntKind.u8 (0 : Int)], [D.int IntKind.u8 (0 : Int)], [D.int IntKind.u8 (0 : Int)],
    [D.int IntKind.u8 (0 : Int)], [D.int IntKind.u8 (0 : Int)], [D.int IntKind.u8 (0 : Int)],
    [D.int IntKind.u8 (0 : Int)], [D.int IntKind.u8 (0 : Int)], [D.int IntKind.u8 (0 : Int)],
    [D.int IntKind.u8 (0 : Int)], [D.int IntKind.u8 (0 : Int)], [D.int IntKind.u8 (0 : Int)],
    [D.int IntKind.u8 (0 : Int)], [D.int IntKind.u8 (0 : Int)], [D.int IntKind.u8 (0 : Int)],
    [D.int IntKind.u8 (0 : Int)], [D.int IntKind.u8 (0 : Int)], [D.int IntKind.u8 (0 : Int)],
    [D.int IntKind.u8 (0 : Int)], [D.int IntKind.u8 (0 : Int)], [D.int IntKind.u8 (0 : Int)],
    [D.int IntKind.u8 (0 : Int)], [D.int IntKind.u8 (0 : Int)], [D.int IntKind.u8 (0 : Int)],
    [D.int IntKind.u8 (0 : Int)], [D.int IntKind.u8 (0 : Int)], [D.int IntKind.u8 (0 : Int)],
    [D.int IntKind.u8 (0 : Int)], [D.int IntKind.u8 (0 : Int)], [D.int IntKind.u8 (0 : Int)],
    [D.int IntKind.u8 (0 : Int)], [D.int IntKind.u8 (0 : Int)], [D.int IntKind.u8 (0 : Int)],
    [D.int IntKind.u8 (0 : Int)], [D.int IntKind.u8 (0 : Int)], [D.int IntKind.u8 (0 : Int)],
    [D.int IntKind.u8 (0 : Int)], [D.int IntKind.u8 (0 : Int)], [D.int IntKind.u8 (0 : Int)],
    [D.int IntKind.u8 (0 : Int)], [D.int IntKind.u8 (0 : Int)], [D.int IntKind.u8 (0 : Int)],
    [D.int IntKind.u8 (0 : Int)], [D.int IntKind.u8 (0 : Int)], [D.int IntKind.u8 (0 : Int)],
    [D.int IntKind.u8 (0 : Int)], [D.int IntKind.u8 (0 : Int)], [D.int IntKind.u8 (0 : Int)],
    [D.int IntKind.u8 (0 : Int)], [D.int IntKind.u8 (0 : Int)], [D.int IntKind.u8 (0 : Int)],
    [D.int IntKind.u8 (0 : Int)], [D.int IntKind.u8 (0 : Int)], [D.int IntKind.u8 (0 : Int)],
    [D.int IntKind.u8 (0 : Int)], [D.int IntKind.u8 (0 : Int)], [D.int IntKind.u8 (0 : Int)],
    [D.int IntKind.u8 (0 : Int)], [D.int IntKind.u8 (0 : Int)], [D.int IntKind.u8 (0 : Int)],
    [D.int IntKind.u8 (0 : Int)], [D.int IntKind.u8 (0 : Int)], [D.int IntKind.u8 (0 : Int)],
    [D.int IntKind.u8 (0 : Int)]] = (18 : Int))
    (h5 : opE [] = (1 : Int))
    (h6 : Ret Try.prog (tyOf Try.prog) (33 : Nat)
  [D.slice true
      [[D.int IntKind.u8 (0 : Int)], [D.int IntKind.u8 (0 : Int)], [D.int IntKind.u8 (0 : Int)],
        [D.int IntKind.u8 (0 : Int)]]
      none]
  []
  (D.int IntKind.u32
    (sumE
      [[D.int IntKind.u8 (0 : Int)], [D.int IntKind.u8 (0 : Int)], [D.int IntKind.u8 (0 : Int)],
        [D.int IntKind.u8 (0 : Int)]]))
  [])
    (h7 : Ret Try.prog (tyOf Try.prog) (32 : Nat)
  [D.slice true
      [[D.int IntKind.u8 (0 : Int)], [D.int IntKind.u8 (0 : Int)], [D.int IntKind.u8 (0 : Int)],
        [D.int IntKind.u8 (0 : Int)]]
      none]
  []
  (D.int IntKind.u32
    (sumE
      [[D.int IntKind.u8 (0 : Int)], [D.int IntKind.u8 (0 : Int)], [D.int IntKind.u8 (0 : Int)],
        [D.int IntKind.u8 (0 : Int)]]))
  [])
    (h8 : Ret Try.prog (tyOf Try.prog) (28 : Nat)
  [D.int IntKind.i64 (8192 : Int), D.int IntKind.i64 (0 : Int), D.slice false [] none] []
  (D.tuple [D.slice false [] none, D.int IntKind.i64 (1 : Int)]) [])
    (h9 : Ret Try.prog (tyOf Try.prog) (28 : Nat)
  [D.int IntKind.i64 (63 : Int), D.int IntKind.i64 (0 : Int), D.slice false [] none] []
  (D.tuple [D.slice false [] none, D.int IntKind.i64 (1 : Int)]) [])
    (h10 : Ret Try.prog (tyOf Try.prog) (34 : Nat) [D.slice false [] none] []
  (D.tuple [D.int IntKind.i64 (opN []), D.slice (opX []) (opL []) none, D.int IntKind.i64 (opE [])]) [])
    (h11 : Ret Try.prog (tyOf Try.prog) (34 : Nat)
  [D.slice true
      [[D.int IntKind.u8 (0 : Int)], [D.int IntKind.u8 (0 : Int)], [D.int IntKind.u8 (0 : Int)],
        [D.int IntKind.u8 (0 : Int)], [D.int IntKind.u8 (0 : Int)], [D.int IntKind.u8 (0 : Int)],
        [D.int IntKind.u8 (0 : Int)], [D.int IntKind.u8 (0 : Int)], [D.int IntKind.u8 (0 : Int)],
        [D.int IntKind.u8 (0 : Int)], [D.int IntKind.u8 (0 : Int)], [D.int IntKind.u8 (0 : Int)],
        [D.int IntKind.u8 (0 : Int)], [D.int IntKind.u8 (0 : Int)], [D.int IntKind.u8 (0 : Int)],
        [D.int IntKind.u8 (0 : Int)], [D.int IntKind.u8 (0 : Int)], [D.int IntKind.u8 (0 : Int)],
        [D.int IntKind.u8 (0 : Int)], [D.int IntKind.u8 (0 : Int)], [D.int IntKind.u8 (0 : Int)],
        [D.int IntKind.u8 (0 : Int)], [D.int IntKind.u8 (0 : Int)], [D.int IntKind.u8 (0 : Int)],
        [D.int IntKind.u8 (0 : Int)], [D.int IntKind.u8 (0 : Int)], [D.int IntKind.u8 (0 : Int)],
        [D.int IntKind.u8 (0 : Int)], [D.int IntKind.u8 (0 : Int)], [D.int IntKind.u8 (0 : Int)],
        [D.int IntKind.u8 (0 : Int)], [D.int IntKind.u8 (0 : Int)], [D.int IntKind.u8 (0 : Int)],
        [D.int IntKind.u8 (0 : Int)], [D.int IntKind.u8 (0 : Int)], [D.int IntKind.u8 (0 : Int)],
        [D.int IntKind.u8 (0 : Int)], [D.int IntKind.u8 (0 : Int)], [D.int IntKind.u8 (0 : Int)],
        [D.int IntKind.u8 (0 : Int)], [D.int IntKind.u8 (0 : Int)], [D.int IntKind.u8 (0 : Int)],
        [D.int IntKind.u8 (0 : Int)], [D.int IntKind.u8 (0 : Int)], [D.int IntKind.u8 (0 : Int)],
        [D.int IntKind.u8 (0 : Int)], [D.int IntKind.u8 (0 : Int)], [D.int IntKind.u8 (0 : Int)],
        [D.int IntKind.u8 (0 : Int)], [D.int IntKind.u8 (0 : Int)], [D.int IntKind.u8 (0 : Int)],
        [D.int IntKind.u8 (0 : Int)], [D.int IntKind.u8 (0 : Int)], [D.int IntKind.u8 (0 : Int)],
        [D.int IntKind.u8 (0 : Int)], [D.int IntKind.u8 (0 : Int)], [D.int IntKind.u8 (0 : Int)],
        [D.int IntKind.u8 (0 : Int)], [D.int IntKind.u8 (0 : Int)], [D.int IntKind.u8 (0 : Int)],
        [D.int IntKind.u8 (0 : Int)], [D.int IntKind.u8 (0 : Int)], [D.int IntKind.u8 (0 : Int)],
        [D.int IntKind.u8 (0 : Int)]]
      (some (0 : Nat))]
  [some (HObj.tok (64 : Nat) (1 : Nat))]
  (D.tuple
    [D.int IntKind.i64
        (opN
          [[D.int IntKind.u8 (0 : Int)], [D.int IntKind.u8 (0 : Int)], [D.int IntKind.u8 (0 : Int)],
            [D.int IntKind.u8 (0 : Int)], [D.int IntKind.u8 (0 : Int)], [D.int IntKind.u8 (0 : Int)],
            [D.int IntKind.u8 (0 : Int)], [D.int IntKind.u8 (0 : Int)], [D.int IntKind.u8 (0 : Int)],
            [D.int IntKind.u8 (0 : Int)], [D.int IntKind.u8 (0 : Int)], [D.int IntKind.u8 (0 : Int)],
            [D.int IntKind.u8 (0 : Int)], [D.int IntKind.u8 (0 : Int)], [D.int IntKind.u8 (0 : Int)],
            [D.int IntKind.u8 (0 : Int)], [D.int IntKind.u8 (0 : Int)], [D.int IntKind.u8 (0 : Int)],
            [D.int IntKind.u8 (0 : Int)], [D.int IntKind.u8 (0 : Int)], [D.int IntKind.u8 (0 : Int)],
            [D.int IntKind.u8 (0 : Int)], [D.int IntKind.u8 (0 : Int)], [D.int IntKind.u8 (0 : Int)],
            [D.int IntKind.u8 (0 : Int)], [D.int IntKind.u8 (0 : Int)], [D.int IntKind.u8 (0 : Int)],
            [D.int IntKind.u8 (0 : Int)], [D.int IntKind.u8 (0 : Int)], [D.int IntKind.u8 (0 : Int)],
            [D.int IntKind.u8 (0 : Int)], [D.int IntKind.u8 (0 : Int)], [D.int IntKind.u8 (0 : Int)],
            [D.int IntKind.u8 (0 : Int)], [D.int IntKind.u8 (0 : Int)], [D.int IntKind.u8 (0 : Int)],
            [D.int IntKind.u8 (0 : Int)], [D.int IntKind.u8 (0 : Int)], [D.int IntKind.u8 (0 : Int)],
            [D.int IntKind.u8 (0 : Int)], [D.int IntKind.u8 (0 : Int)], [D.int IntKind.u8 (0 : Int)],
            [D.int IntKind.u8 (0 : Int)], [D.int IntKind.u8 (0 : Int)], [D.int IntKind.u8 (0 : Int)],
            [D.int IntKind.u8 (0 : Int)], [D.int IntKind.u8 (0 : Int)], [D.int IntKind.u8 (0 : Int)],
            [D.int IntKind.u8 (0 : Int)], [D.int IntKind.u8 (0 : Int)], [D.int IntKind.u8 (0 : Int)],
            [D.int IntKind.u8 (0 : Int)], [D.int IntKind.u8 (0 : Int)], [D.int IntKind.u8 (0 : Int)],
            [D.int IntKind.u8 (0 : Int)], [D.int IntKind.u8 (0 : Int)], [D.int IntKind.u8 (0 : Int)],
            [D.int IntKind.u8 (0 : Int)], [D.int IntKind.u8 (0 : Int)], [D.int IntKind.u8 (0 : Int)],
            [D.int IntKind.u8 (0 : Int)], [D.int IntKind.u8 (0 : Int)], [D.int IntKind.u8 (0 : Int)],
            [D.int IntKind.u8 (0 : Int)]]),
      D.slice
        (opX
          [[D.int IntKind.u8 (0 : Int)], [D.int IntKind.u8 (0 : Int)], [D.int IntKind.u8 (0 : Int)],
            [D.int IntKind.u8 (0 : Int)], [D.int IntKind.u8 (0 : Int)], [D.int IntKind.u8 (0 : Int)],
            [D.int IntKind.u8 (0 : Int)], [D.int IntKind.u8 (0 : Int)], [D.int IntKind.u8 (0 : Int)],
            [D.int IntKind.u8 (0 : Int)], [D.int IntKind.u8 (0 : Int)], [D.int IntKind.u8 (0 : Int)],
            [D.int IntKind.u8 (0 : Int)], [D.int IntKind.u8 (0 : Int)], [D.int IntKind.u8 (0 : Int)],
            [D.int IntKind.u8 (0 : Int)], [D.int IntKind.u8 (0 : Int)], [D.int IntKind.u8 (0 : Int)],
            [D.int IntKind.u8 (0 : Int)], [D.int IntKind.u8 (0 : Int)], [D.int IntKind.u8 (0 : Int)],
            [D.int IntKind.u8 (0 : Int)], [D.int IntKind.u8 (0 : Int)], [D.int IntKind.u8 (0 : Int)],
            [D.int IntKind.u8 (0 : Int)], [D.int IntKind.u8 (0 : Int)], [D.int IntKind.u8 (0 : Int)],
            [D.int IntKind.u8 (0 : Int)], [D.int IntKind.u8 (0 : Int)], [D.int IntKind.u8 (0 : Int)],
            [D.int IntKind.u8 (0 : Int)], [D.int IntKind.u8 (0 : Int)], [D.int IntKind.u8 (0 : Int)],
            [D.int IntKind.u8 (0 : Int)], [D.int IntKind.u8 (0 : Int)], [D.int IntKind.u8 (0 : Int)],
            [D.int IntKind.u8 (0 : Int)], [D.int IntKind.u8 (0 : Int)], [D.int IntKind.u8 (0 : Int)],
            [D.int IntKind.u8 (0 : Int)], [D.int IntKind.u8 (0 : Int)], [D.int IntKind.u8 (0 : Int)],
            [D.int IntKind.u8 (0 : Int)], [D.int IntKind.u8 (0 : Int)], [D.int IntKind.u8 (0 : Int)],
            [D.int IntKind.u8 (0 : Int)], [D.int IntKind.u8 (0 : Int)], [D.int IntKind.u8 (0 : Int)],
            [D.int IntKind.u8 (0 : Int)], [D.int IntKind.u8 (0 : Int)], [D.int IntKind.u8 (0 : Int)],
            [D.int IntKind.u8 (0 : Int)], [D.int IntKind.u8 (0 : Int)], [D.int IntKind.u8 (0 : Int)],
            [D.int IntKind.u8 (0 : Int)], [D.int IntKind.u8 (0 : Int)], [D.int IntKind.u8 (0 : Int)],
            [D.int IntKind.u8 (0 : Int)], [D.int IntKind.u8 (0 : Int)], [D.int IntKind.u8 (0 : Int)],
            [D.int IntKind.u8 (0 : Int)], [D.int IntKind.u8 (0 : Int)], [D.int IntKind.u8 (0 : Int)],
            [D.int IntKind.u8 (0 : Int)]])
        (opL
          [[D.int IntKind.u8 (0 : Int)], [D.int IntKind.u8 (0 : Int)], [D.int IntKind.u8 (0 : Int)],
            [D.int IntKind.u8 (0 : Int)], [D.int IntKind.u8 (0 : Int)], [D.int IntKind.u8 (0 : Int)],
            [D.int IntKind.u8 (0 : Int)], [D.int IntKind.u8 (0 : Int)], [D.int IntKind.u8 (0 : Int)],
            [D.int IntKind.u8 (0 : Int)], [D.int IntKind.u8 (0 : Int)], [D.int IntKind.u8 (0 : Int)],
            [D.int IntKind.u8 (0 : Int)], [D.int IntKind.u8 (0 : Int)], [D.int IntKind.u8 (0 : Int)],
            [D.int IntKind.u8 (0 : Int)], [D.int IntKind.u8 (0 : Int)], [D.int IntKind.u8 (0 : Int)],
            [D.int IntKind.u8 (0 : Int)], [D.int IntKind.u8 (0 : Int)], [D.int IntKind.u8 (0 : Int)],
            [D.int IntKind.u8 (0 : Int)], [D.int IntKind.u8 (0 : Int)], [D.int IntKind.u8 (0 : Int)],
            [D.int IntKind.u8 (0 : Int)], [D.int IntKind.u8 (0 : Int)], [D.int IntKind.u8 (0 : Int)],
            [D.int IntKind.u8 (0 : Int)], [D.int IntKind.u8 (0 : Int)], [D.int IntKind.u8 (0 : Int)],
            [D.int IntKind.u8 (0 : Int)], [D.int IntKind.u8 (0 : Int)], [D.int IntKind.u8 (0 : Int)],
            [D.int IntKind.u8 (0 : Int)], [D.int IntKind.u8 (0 : Int)], [D.int IntKind.u8 (0 : Int)],
            [D.int IntKind.u8 (0 : Int)], [D.int IntKind.u8 (0 : Int)], [D.int IntKind.u8 (0 : Int)],
            [D.int IntKind.u8 (0 : Int)], [D.int IntKind.u8 (0 : Int)], [D.int IntKind.u8 (0 : Int)],
            [D.int IntKind.u8 (0 : Int)], [D.int IntKind.u8 (0 : Int)], [D.int IntKind.u8 (0 : Int)],
            [D.int IntKind.u8 (0 : Int)], [D.int IntKind.u8 (0 : Int)], [D.int IntKind.u8 (0 : Int)],
            [D.int IntKind.u8 (0 : Int)], [D.int IntKind.u8 (0 : Int)], [D.int IntKind.u8 (0 : Int)],
            [D.int IntKind.u8 (0 : Int)], [D.int IntKind.u8 (0 : Int)], [D.int IntKind.u8 (0 : Int)],
            [D.int IntKind.u8 (0 : Int)], [D.int IntKind.u8 (0 : Int)], [D.int IntKind.u8 (0 : Int)],
            [D.int IntKind.u8 (0 : Int)], [D.int IntKind.u8 (0 : Int)], [D.int IntKind.u8 (0 : Int)],
            [D.int IntKind.u8 (0 : Int)], [D.int IntKind.u8 (0 : Int)], [D.int IntKind.u8 (0 : Int)],
            [D.int IntKind.u8 (0 : Int)]])
        none,
      D.int IntKind.i64
        (opE
          [[D.int IntKind.u8 (0 : Int)], [D.int IntKind.u8 (0 : Int)], [D.int IntKind.u8 (0 : Int)],
            [D.int IntKind.u8 (0 : Int)], [D.int IntKind.u8 (0 : Int)], [D.int IntKind.u8 (0 : Int)],
            [D.int IntKind.u8 (0 : Int)], [D.int IntKind.u8 (0 : Int)], [D.int IntKind.u8 (0 : Int)],
            [D.int IntKind.u8 (0 : Int)], [D.int IntKind.u8 (0 : Int)], [D.int IntKind.u8 (0 : Int)],
            [D.int IntKind.u8 (0 : Int)], [D.int IntKind.u8 (0 : Int)], [D.int IntKind.u8 (0 : Int)],
            [D.int IntKind.u8 (0 : Int)], [D.int IntKind.u8 (0 : Int)], [D.int IntKind.u8 (0 : Int)],
            [D.int IntKind.u8 (0 : Int)], [D.int IntKind.u8 (0 : Int)], [D.int IntKind.u8 (0 : Int)],
            [D.int IntKind.u8 (0 : Int)], [D.int IntKind.u8 (0 : Int)], [D.int IntKind.u8 (0 : Int)],
            [D.int IntKind.u8 (0 : Int)], [D.int IntKind.u8 (0 : Int)], [D.int IntKind.u8 (0 : Int)],
            [D.int IntKind.u8 (0 : Int)], [D.int IntKind.u8 (0 : Int)], [D.int IntKind.u8 (0 : Int)],
            [D.int IntKind.u8 (0 : Int)], [D.int IntKind.u8 (0 : Int)], [D.int IntKind.u8 (0 : Int)],
            [D.int IntKind.u8 (0 : Int)], [D.int IntKind.u8 (0 : Int)], [D.int IntKind.u8 (0 : Int)],
            [D.int IntKind.u8 (0 : Int)], [D.int IntKind.u8 (0 : Int)], [D.int IntKind.u8 (0 : Int)],
            [D.int IntKind.u8 (0 : Int)], [D.int IntKind.u8 (0 : Int)], [D.int IntKind.u8 (0 : Int)],
            [D.int IntKind.u8 (0 : Int)], [D.int IntKind.u8 (0 : Int)], [D.int IntKind.u8 (0 : Int)],
            [D.int IntKind.u8 (0 : Int)], [D.int IntKind.u8 (0 : Int)], [D.int IntKind.u8 (0 : Int)],
            [D.int IntKind.u8 (0 : Int)], [D.int IntKind.u8 (0 : Int)], [D.int IntKind.u8 (0 : Int)],
            [D.int IntKind.u8 (0 : Int)], [D.int IntKind.u8 (0 : Int)], [D.int IntKind.u8 (0 : Int)],
            [D.int IntKind.u8 (0 : Int)], [D.int IntKind.u8 (0 : Int)], [D.int IntKind.u8 (0 : Int)],
            [D.int IntKind.u8 (0 : Int)], [D.int IntKind.u8 (0 : Int)], [D.int IntKind.u8 (0 : Int)],
            [D.int IntKind.u8 (0 : Int)], [D.int IntKind.u8 (0 : Int)], [D.int IntKind.u8 (0 : Int)],
            [D.int IntKind.u8 (0 : Int)]])])
  [some (HObj.tok (64 : Nat) (1 : Nat))])
    (h12 : Ret Try.prog (tyOf Try.prog) (34 : Nat) [D.slice true (List.take (63 : Nat) (pageE (64 : Int) (0 : Int) [])) none] []
  (D.tuple
    [D.int IntKind.i64 (opN (List.take (63 : Nat) (pageE (64 : Int) (0 : Int) []))),
      D.slice (opX (List.take (63 : Nat) (pageE (64 : Int) (0 : Int) [])))
        (opL (List.take (63 : Nat) (pageE (64 : Int) (0 : Int) []))) none,
      D.int IntKind.i64 (opE (List.take (63 : Nat) (pageE (64 : Int) (0 : Int) [])))])
  [])
    (h13 : (0 : Int) ≤ (63 : Int) ∧ (63 : Int) ≤ (↑(List.length (pageE (64 : Int) (0 : Int) [])) : Int))
    (h14 : (pageE (64 : Int) (0 : Int) [])[(4 : Nat)]? = some [D.int IntKind.u8 n4_15])
    (h15 : (pageE (64 : Int) (0 : Int) [])[(0 : Nat)]? = some [D.int IntKind.u8 n4_9])
    (h16 : Ret Try.prog (tyOf Try.prog) (28 : Nat)
  [D.int IntKind.i64 (64 : Int), D.int IntKind.i64 (0 : Int), D.slice false [] none] []
  (D.tuple [D.slice true (pageE (64 : Int) (0 : Int) []) none, D.int IntKind.i64 (0 : Int)]) [])
    (h17 : Ret Try.prog (tyOf Try.prog) (27 : Nat) [] [] (D.bool true) []) :
    Ret Try.prog (tyOf Try.prog) 11 [] [] (D.bool true) [] :=
  have b0 : ((↑(List.length (pageE (64 : Int) (0 : Int) [])) : Int) != (64 : Int)) = false := (by rw [bne, Bool.not_eq_false']; exact beq_iff_eq.2 h0)
  have b1 : (n4_9 != (1 : Int)) = false := (by rw [bne, Bool.not_eq_false']; exact beq_iff_eq.2 h1)
  have b2 : (n4_15 != (0 : Int)) = false := (by rw [bne, Bool.not_eq_false']; exact beq_iff_eq.2 h2)
  have b3 : (opE (List.take (63 : Nat) (pageE (64 : Int) (0 : Int) [])) == (1 : Int)) = true := beq_iff_eq.2 h3
  have b4 : (opE
      [[D.int IntKind.u8 (0 : Int)], [D.int IntKind.u8 (0 : Int)], [D.int IntKind.u8 (0 : Int)],
        [D.int IntKind.u8 (0 : Int)], [D.int IntKind.u8 (0 : Int)], [D.int IntKind.u8 (0 : Int)],
        [D.int IntKind.u8 (0 : Int)], [D.int IntKind.u8 (0 : Int)], [D.int IntKind.u8 (0 : Int)],
        [D.int IntKind.u8 (0 : Int)], [D.int IntKind.u8 (0 : Int)], [D.int IntKind.u8 (0 : Int)],
        [D.int IntKind.u8 (0 : Int)], [D.int IntKind.u8 (0 : Int)], [D.int IntKind.u8 (0 : Int)],
        [D.int IntKind.u8 (0 : Int)], [D.int IntKind.u8 (0 : Int)], [D.int IntKind.u8 (0 : Int)],
        [D.int IntKind.u8 (0 : Int)], [D.int IntKind.u8 (0 : Int)], [D.int IntKind.u8 (0 : Int)],
        [D.int IntKind.u8 (0 : Int)], [D.int IntKind.u8 (0 : Int)], [D.int IntKind.u8 (0 : Int)],
        [D.int IntKind.u8 (0 : Int)], [D.int IntKind.u8 (0 : Int)], [D.int IntKind.u8 (0 : Int)],
        [D.int IntKind.u8 (0 : Int)], [D.int IntKind.u8 (0 : Int)], [D.int IntKind.u8 (0 : Int)],
        [D.int IntKind.u8 (0 : Int)], [D.int IntKind.u8 (0 : Int)], [D.int IntKind.u8 (0 : Int)],
        [D.int IntKind.u8 (0 : Int)], [D.int IntKind.u8 (0 : Int)], [D.int IntKind.u8 (0 : Int)],
        [D.int IntKind.u8 (0 : Int)], [D.int IntKind.u8 (0 : Int)], [D.int IntKind.u8 (0 : Int)],
        [D.int IntKind.u8 (0 : Int)], [D.int IntKind.u8 (0 : Int)], [D.int IntKind.u8 (0 : Int)],
        [D.int IntKind.u8 (0 : Int)], [D.int IntKind.u8 (0 : Int)], [D.int IntKind.u8 (0 : Int)],
        [D.int IntKind.u8 (0 : Int)], [D.int IntKind.u8 (0 : Int)], [D.int IntKind.u8 (0 : Int)],
        [D.int IntKind.u8 (0 : Int)], [D.int IntKind.u8 (0 : Int)], [D.int IntKind.u8 (0 : Int)],
        [D.int IntKind.u8 (0 : Int)], [D.int IntKind.u8 (0 : Int)], [D.int IntKind.u8 (0 : Int)],
        [D.int IntKind.u8 (0 : Int)], [D.int IntKind.u8 (0 : Int)], [D.int IntKind.u8 (0 : Int)],
        [D.int IntKind.u8 (0 : Int)], [D.int IntKind.u8 (0 : Int)], [D.int IntKind.u8 (0 : Int)],
        [D.int IntKind.u8 (0 : Int)], [D.int IntKind.u8 (0 : Int)], [D.int IntKind.u8 (0 : Int)],
        [D.int IntKind.u8 (0 : Int)]] ==
    (18 : Int)) =
  true := beq_iff_eq.2 h4
  have b5 : (opE [] == (1 : Int)) = true := beq_iff_eq.2 h5
  fin_call lkn_fn lkn_body lkn_name (fin_ret (h := 0) (lkn_ok pageE sumE opN opE opX opY opL n4_9 n4_15) (show outF (tyOf Try.prog) (fnAt Try.prog 11) 0 (lkn_run pageE sumE opN opE opX opY opL n4_9 n4_15 (.code (bodyAt Try.prog 11)) [] (beginE (fnAt Try.prog 11) [] []) (.path [false, true, true, true, false, true, true, true, true, false, true, true, true, true, false, false, true, true, true, true, true, true, true, true, true, true, true, true, true, true, true, true, true, true])) = some (D.bool true, [],
    [true = true,
      true = true,
      Ret Try.prog (tyOf Try.prog) (30 : Nat) [D.int IntKind.i64 (64 : Int)] [] (D.int IntKind.i64 (54 : Int)) [],
      true = true,
      true = true,
      true = true,
      true = true,
      (opE [] == (1 : Int)) = true,
      ((opE [] == (1 : Int)) == true) = true,
      ((opE [] == (1 : Int)) == true) = true,
      (opE
      [[D.int IntKind.u8 (0 : Int)], [D.int IntKind.u8 (0 : Int)], [D.int IntKind.u8 (0 : Int)],
        [D.int IntKind.u8 (0 : Int)], [D.int IntKind.u8 (0 : Int)], [D.int IntKind.u8 (0 : Int)],
        [D.int IntKind.u8 (0 : Int)], [D.int IntKind.u8 (0 : Int)], [D.int IntKind.u8 (0 : Int)],
        [D.int IntKind.u8 (0 : Int)], [D.int IntKind.u8 (0 : Int)], [D.int IntKind.u8 (0 : Int)],
        [D.int IntKind.u8 (0 : Int)], [D.int IntKind.u8 (0 : Int)], [D.int IntKind.u8 (0 : Int)],
        [D.int IntKind.u8 (0 : Int)], [D.int IntKind.u8 (0 : Int)], [D.int IntKind.u8 (0 : Int)],
        [D.int IntKind.u8 (0 : Int)], [D.int IntKind.u8 (0 : Int)], [D.int IntKind.u8 (0 : Int)],
        [D.int IntKind.u8 (0 : Int)], [D.int IntKind.u8 (0 : Int)], [D.int IntKind.u8 (0 : Int)],
        [D.int IntKind.u8 (0 : Int)], [D.int IntKind.u8 (0 : Int)], [D.int IntKind.u8 (0 : Int)],
        [D.int IntKind.u8 (0 : Int)], [D.int IntKind.u8 (0 : Int)], [D.int IntKind.u8 (0 : Int)],
        [D.int IntKind.u8 (0 : Int)], [D.int IntKind.u8 (0 : Int)], [D.int IntKind.u8 (0 : Int)],
        [D.int IntKind.u8 (0 : Int)], [D.int IntKind.u8 (0 : Int)], [D.int IntKind.u8 (0 : Int)],
        [D.int IntKind.u8 (0 : Int)], [D.int IntKind.u8 (0 : Int)], [D.int IntKind.u8 (0 : Int)],
        [D.int IntKind.u8 (0 : Int)], [D.int IntKind.u8 (0 : Int)], [D.int IntKind.u8 (0 : Int)],
        [D.int IntKind.u8 (0 : Int)], [D.int IntKind.u8 (0 : Int)], [D.int IntKind.u8 (0 : Int)],
        [D.int IntKind.u8 (0 : Int)], [D.int IntKind.u8 (0 : Int)], [D.int IntKind.u8 (0 : Int)],
        [D.int IntKind.u8 (0 : Int)], [D.int IntKind.u8 (0 : Int)], [D.int IntKind.u8 (0 : Int)],
        [D.int IntKind.u8 (0 : Int)], [D.int IntKind.u8 (0 : Int)], [D.int IntKind.u8 (0 : Int)],
        [D.int IntKind.u8 (0 : Int)], [D.int IntKind.u8 (0 : Int)], [D.int IntKind.u8 (0 : Int)],
        [D.int IntKind.u8 (0 : Int)], [D.int IntKind.u8 (0 : Int)], [D.int IntKind.u8 (0 : Int)],
        [D.int IntKind.u8 (0 : Int)], [D.int IntKind.u8 (0 : Int)], [D.int IntKind.u8 (0 : Int)],
        [D.int IntKind.u8 (0 : Int)]] ==
    (18 : Int)) =
  true,
      ((opE
        [[D.int IntKind.u8 (0 : Int)], [D.int IntKind.u8 (0 : Int)], [D.int IntKind.u8 (0 : Int)],
          [D.int IntKind.u8 (0 : Int)], [D.int IntKind.u8 (0 : Int)], [D.int IntKind.u8 (0 : Int)],
          [D.int IntKind.u8 (0 : Int)], [D.int IntKind.u8 (0 : Int)], [D.int IntKind.u8 (0 : Int)],
          [D.int IntKind.u8 (0 : Int)], [D.int IntKind.u8 (0 : Int)], [D.int IntKind.u8 (0 : Int)],
          [D.int IntKind.u8 (0 : Int)], [D.int IntKind.u8 (0 : Int)], [D.int IntKind.u8 (0 : Int)],
          [D.int IntKind.u8 (0 : Int)], [D.int IntKind.u8 (0 : Int)], [D.int IntKind.u8 (0 : Int)],
          [D.int IntKind.u8 (0 : Int)], [D.int IntKind.u8 (0 : Int)], [D.int IntKind.u8 (0 : Int)],
          [D.int IntKind.u8 (0 : Int)], [D.int IntKind.u8 (0 : Int)], [D.int IntKind.u8 (0 : Int)],
          [D.int IntKind.u8 (0 : Int)], [D.int IntKind.u8 (0 : Int)], [D.int IntKind.u8 (0 : Int)],
          [D.int IntKind.u8 (0 : Int)], [D.int IntKind.u8 (0 : Int)], [D.int IntKind.u8 (0 : Int)],
          [D.int IntKind.u8 (0 : Int)], [D.int IntKind.u8 (0 : Int)], [D.int IntKind.u8 (0 : Int)],
          [D.int IntKind.u8 (0 : Int)], [D.int IntKind.u8 (0 : Int)], [D.int IntKind.u8 (0 : Int)],
          [D.int IntKind.u8 (0 : Int)], [D.int IntKind.u8 (0 : Int)], [D.int IntKind.u8 (0 : Int)],
          [D.int IntKind.u8 (0 : Int)], [D.int IntKind.u8 (0 : Int)], [D.int IntKind.u8 (0 : Int)],
          [D.int IntKind.u8 (0 : Int)], [D.int IntKind.u8 (0 : Int)], [D.int IntKind.u8 (0 : Int)],
          [D.int IntKind.u8 (0 : Int)], [D.int IntKind.u8 (0 : Int)], [D.int IntKind.u8 (0 : Int)],
          [D.int IntKind.u8 (0 : Int)], [D.int IntKind.u8 (0 : Int)], [D.int IntKind.u8 (0 : Int)],
          [D.int IntKind.u8 (0 : Int)], [D.int IntKind.u8 (0 : Int)], [D.int IntKind.u8 (0 : Int)],
          [D.int IntKind.u8 (0 : Int)], [D.int IntKind.u8 (0 : Int)], [D.int IntKind.u8 (0 : Int)],
          [D.int IntKind.u8 (0 : Int)], [D.int IntKind.u8 (0 : Int)], [D.int IntKind.u8 (0 : Int)],
          [D.int IntKind.u8 (0 : Int)], [D.int IntKind.u8 (0 : Int)], [D.int IntKind.u8 (0 : Int)],
          [D.int IntKind.u8 (0 : Int)]] ==
      (18 : Int)) ==
    true) =
  true,
      ((opE
        [[D.int IntKind.u8 (0 : Int)], [D.int IntKind.u8 (0 : Int)], [D.int IntKind.u8 (0 : Int)],
          [D.int IntKind.u8 (0 : Int)], [D.int IntKind.u8 (0 : Int)], [D.int IntKind.u8 (0 : Int)],
          [D.int IntKind.u8 (0 : Int)], [D.int IntKind.u8 (0 : Int)], [D.int IntKind.u8 (0 : Int)],
          [D.int IntKind.u8 (0 : Int)], [D.int IntKind.u8 (0 : Int)], [D.int IntKind.u8 (0 : Int)],
          [D.int IntKind.u8 (0 : Int)], [D.int IntKind.u8 (0 : Int)], [D.int IntKind.u8 (0 : Int)],
          [D.int IntKind.u8 (0 : Int)], [D.int IntKind.u8 (0 : Int)], [D.int IntKind.u8 (0 : Int)],
          [D.int IntKind.u8 (0 : Int)], [D.int IntKind.u8 (0 : Int)], [D.int IntKind.u8 (0 : Int)],
          [D.int IntKind.u8 (0 : Int)], [D.int IntKind.u8 (0 : Int)], [D.int IntKind.u8 (0 : Int)],
          [D.int IntKind.u8 (0 : Int)], [D.int IntKind.u8 (0 : Int)], [D.int IntKind.u8 (0 : Int)],
          [D.int IntKind.u8 (0 : Int)], [D.int IntKind.u8 (0 : Int)], [D.int IntKind.u8 (0 : Int)],
          [D.int IntKind.u8 (0 : Int)], [D.int IntKind.u8 (0 : Int)], [D.int IntKind.u8 (0 : Int)],
          [D.int IntKind.u8 (0 : Int)], [D.int IntKind.u8 (0 : Int)], [D.int IntKind.u8 (0 : Int)],
          [D.int IntKind.u8 (0 : Int)], [D.int IntKind.u8 (0 : Int)], [D.int IntKind.u8 (0 : Int)],
          [D.int IntKind.u8 (0 : Int)], [D.int IntKind.u8 (0 : Int)], [D.int IntKind.u8 (0 : Int)],
          [D.int IntKind.u8 (0 : Int)], [D.int IntKind.u8 (0 : Int)], [D.int IntKind.u8 (0 : Int)],
          [D.int IntKind.u8 (0 : Int)], [D.int IntKind.u8 (0 : Int)], [D.int IntKind.u8 (0 : Int)],
          [D.int IntKind.u8 (0 : Int)], [D.int IntKind.u8 (0 : Int)], [D.int IntKind.u8 (0 : Int)],
          [D.int IntKind.u8 (0 : Int)], [D.int IntKind.u8 (0 : Int)], [D.int IntKind.u8 (0 : Int)],
          [D.int IntKind.u8 (0 : Int)], [D.int IntKind.u8 (0 : Int)], [D.int IntKind.u8 (0 : Int)],
          [D.int IntKind.u8 (0 : Int)], [D.int IntKind.u8 (0 : Int)], [D.int IntKind.u8 (0 : Int)],
          [D.int IntKind.u8 (0 : Int)], [D.int IntKind.u8 (0 : Int)], [D.int IntKind.u8 (0 : Int)],
          [D.int IntKind.u8 (0 : Int)]] ==
      (18 : Int)) ==
    true) =
  true,
      (opE (List.take (63 : Nat) (pageE (64 : Int) (0 : Int) [])) == (1 : Int)) = true,
      ((opE (List.take (63 : Nat) (pageE (64 : Int) (0 : Int) [])) == (1 : Int)) == true) = true,
      ((opE (List.take (63 : Nat) (pageE (64 : Int) (0 : Int) [])) == (1 : Int)) == true) = true,
      (sumE
      [[D.int IntKind.u8 (0 : Int)], [D.int IntKind.u8 (0 : Int)], [D.int IntKind.u8 (0 : Int)],
        [D.int IntKind.u8 (0 : Int)]] ==
    sumE
      [[D.int IntKind.u8 (0 : Int)], [D.int IntKind.u8 (0 : Int)], [D.int IntKind.u8 (0 : Int)],
        [D.int IntKind.u8 (0 : Int)]]) =
  true,
      ((sumE
        [[D.int IntKind.u8 (0 : Int)], [D.int IntKind.u8 (0 : Int)], [D.int IntKind.u8 (0 : Int)],
          [D.int IntKind.u8 (0 : Int)]] ==
      sumE
        [[D.int IntKind.u8 (0 : Int)], [D.int IntKind.u8 (0 : Int)], [D.int IntKind.u8 (0 : Int)],
          [D.int IntKind.u8 (0 : Int)]]) ==
    true) =
  true,
      ((sumE
        [[D.int IntKind.u8 (0 : Int)], [D.int IntKind.u8 (0 : Int)], [D.int IntKind.u8 (0 : Int)],
          [D.int IntKind.u8 (0 : Int)]] ==
      sumE
        [[D.int IntKind.u8 (0 : Int)], [D.int IntKind.u8 (0 : Int)], [D.int IntKind.u8 (0 : Int)],
          [D.int IntKind.u8 (0 : Int)]]) ==
    true) =
  true,
      Ret Try.prog (tyOf Try.prog) (33 : Nat)
  [D.slice true
      [[D.int IntKind.u8 (0 : Int)], [D.int IntKind.u8 (0 : Int)], [D.int IntKind.u8 (0 : Int)],
        [D.int IntKind.u8 (0 : Int)]]
      none]
  []
  (D.int IntKind.u32
    (sumE
      [[D.int IntKind.u8 (0 : Int)], [D.int IntKind.u8 (0 : Int)], [D.int IntKind.u8 (0 : Int)],
        [D.int IntKind.u8 (0 : Int)]]))
  [],
      Ret Try.prog (tyOf Try.prog) (32 : Nat)
  [D.slice true
      [[D.int IntKind.u8 (0 : Int)], [D.int IntKind.u8 (0 : Int)], [D.int IntKind.u8 (0 : Int)],
        [D.int IntKind.u8 (0 : Int)]]
      none]
  []
  (D.int IntKind.u32
    (sumE
      [[D.int IntKind.u8 (0 : Int)], [D.int IntKind.u8 (0 : Int)], [D.int IntKind.u8 (0 : Int)],
        [D.int IntKind.u8 (0 : Int)]]))
  [],
      Ret Try.prog (tyOf Try.prog) (28 : Nat)
  [D.int IntKind.i64 (8192 : Int), D.int IntKind.i64 (0 : Int), D.slice false [] none] []
  (D.tuple [D.slice false [] none, D.int IntKind.i64 (1 : Int)]) [],
      Ret Try.prog (tyOf Try.prog) (28 : Nat)
  [D.int IntKind.i64 (63 : Int), D.int IntKind.i64 (0 : Int), D.slice false [] none] []
  (D.tuple [D.slice false [] none, D.int IntKind.i64 (1 : Int)]) [],
      Ret Try.prog (tyOf Try.prog) (34 : Nat) [D.slice false [] none] []
  (D.tuple [D.int IntKind.i64 (opN []), D.slice (opX []) (opL []) none, D.int IntKind.i64 (opE [])]) [],
      Ret Try.prog (tyOf Try.prog) (34 : Nat)
  [D.slice true
      [[D.int IntKind.u8 (0 : Int)], [D.int IntKind.u8 (0 : Int)], [D.int IntKind.u8 (0 : Int)],
        [D.int IntKind.u8 (0 : Int)], [D.int IntKind.u8 (0 : Int)], [D.int IntKind.u8 (0 : Int)],
        [D.int IntKind.u8 (0 : Int)], [D.int IntKind.u8 (0 : Int)], [D.int IntKind.u8 (0 : Int)],
        [D.int IntKind.u8 (0 : Int)], [D.int IntKind.u8 (0 : Int)], [D.int IntKind.u8 (0 : Int)],
        [D.int IntKind.u8 (0 : Int)], [D.int IntKind.u8 (0 : Int)], [D.int IntKind.u8 (0 : Int)],
        [D.int IntKind.u8 (0 : Int)], [D.int IntKind.u8 (0 : Int)], [D.int IntKind.u8 (0 : Int)],
        [D.int IntKind.u8 (0 : Int)], [D.int IntKind.u8 (0 : Int)], [D.int IntKind.u8 (0 : Int)],
        [D.int IntKind.u8 (0 : Int)], [D.int IntKind.u8 (0 : Int)], [D.int IntKind.u8 (0 : Int)],
        [D.int IntKind.u8 (0 : Int)], [D.int IntKind.u8 (0 : Int)], [D.int IntKind.u8 (0 : Int)],
        [D.int IntKind.u8 (0 : Int)], [D.int IntKind.u8 (0 : Int)], [D.int IntKind.u8 (0 : Int)],
        [D.int IntKind.u8 (0 : Int)], [D.int IntKind.u8 (0 : Int)], [D.int IntKind.u8 (0 : Int)],
        [D.int IntKind.u8 (0 : Int)], [D.int IntKind.u8 (0 : Int)], [D.int IntKind.u8 (0 : Int)],
        [D.int IntKind.u8 (0 : Int)], [D.int IntKind.u8 (0 : Int)], [D.int IntKind.u8 (0 : Int)],
        [D.int IntKind.u8 (0 : Int)], [D.int IntKind.u8 (0 : Int)], [D.int IntKind.u8 (0 : Int)],
        [D.int IntKind.u8 (0 : Int)], [D.int IntKind.u8 (0 : Int)], [D.int IntKind.u8 (0 : Int)],
        [D.int IntKind.u8 (0 : Int)], [D.int IntKind.u8 (0 : Int)], [D.int IntKind.u8 (0 : Int)],
        [D.int IntKind.u8 (0 : Int)], [D.int IntKind.u8 (0 : Int)], [D.int IntKind.u8 (0 : Int)],
        [D.int IntKind.u8 (0 : Int)], [D.int IntKind.u8 (0 : Int)], [D.int IntKind.u8 (0 : Int)],
        [D.int IntKind.u8 (0 : Int)], [D.int IntKind.u8 (0 : Int)], [D.int IntKind.u8 (0 : Int)],
        [D.int IntKind.u8 (0 : Int)], [D.int IntKind.u8 (0 : Int)], [D.int IntKind.u8 (0 : Int)],
        [D.int IntKind.u8 (0 : Int)], [D.int IntKind.u8 (0 : Int)], [D.int IntKind.u8 (0 : Int)],
        [D.int IntKind.u8 (0 : Int)]]
      (some (0 : Nat))]
  [some (HObj.tok (64 : Nat) (1 : Nat))]
  (D.tuple
    [D.int IntKind.i64
        (opN
          [[D.int IntKind.u8 (0 : Int)], [D.int IntKind.u8 (0 : Int)], [D.int IntKind.u8 (0 : Int)],
            [D.int IntKind.u8 (0 : Int)], [D.int IntKind.u8 (0 : Int)], [D.int IntKind.u8 (0 : Int)],
            [D.int IntKind.u8 (0 : Int)], [D.int IntKind.u8 (0 : Int)], [D.int IntKind.u8 (0 : Int)],
            [D.int IntKind.u8 (0 : Int)], [D.int IntKind.u8 (0 : Int)], [D.int IntKind.u8 (0 : Int)],
            [D.int IntKind.u8 (0 : Int)], [D.int IntKind.u8 (0 : Int)], [D.int IntKind.u8 (0 : Int)],
            [D.int IntKind.u8 (0 : Int)], [D.int IntKind.u8 (0 : Int)], [D.int IntKind.u8 (0 : Int)],
            [D.int IntKind.u8 (0 : Int)], [D.int IntKind.u8 (0 : Int)], [D.int IntKind.u8 (0 : Int)],
            [D.int IntKind.u8 (0 : Int)], [D.int IntKind.u8 (0 : Int)], [D.int IntKind.u8 (0 : Int)],
            [D.int IntKind.u8 (0 : Int)], [D.int IntKind.u8 (0 : Int)], [D.int IntKind.u8 (0 : Int)],
            [D.int IntKind.u8 (0 : Int)], [D.int IntKind.u8 (0 : Int)], [D.int IntKind.u8 (0 : Int)],
            [D.int IntKind.u8 (0 : Int)], [D.int IntKind.u8 (0 : Int)], [D.int IntKind.u8 (0 : Int)],
            [D.int IntKind.u8 (0 : Int)], [D.int IntKind.u8 (0 : Int)], [D.int IntKind.u8 (0 : Int)],
            [D.int IntKind.u8 (0 : Int)], [D.int IntKind.u8 (0 : Int)], [D.int IntKind.u8 (0 : Int)],
            [D.int IntKind.u8 (0 : Int)], [D.int IntKind.u8 (0 : Int)], [D.int IntKind.u8 (0 : Int)],
            [D.int IntKind.u8 (0 : Int)], [D.int IntKind.u8 (0 : Int)], [D.int IntKind.u8 (0 : Int)],
            [D.int IntKind.u8 (0 : Int)], [D.int IntKind.u8 (0 : Int)], [D.int IntKind.u8 (0 : Int)],
            [D.int IntKind.u8 (0 : Int)], [D.int IntKind.u8 (0 : Int)], [D.int IntKind.u8 (0 : Int)],
            [D.int IntKind.u8 (0 : Int)], [D.int IntKind.u8 (0 : Int)], [D.int IntKind.u8 (0 : Int)],
            [D.int IntKind.u8 (0 : Int)], [D.int IntKind.u8 (0 : Int)], [D.int IntKind.u8 (0 : Int)],
            [D.int IntKind.u8 (0 : Int)], [D.int IntKind.u8 (0 : Int)], [D.int IntKind.u8 (0 : Int)],
            [D.int IntKind.u8 (0 : Int)], [D.int IntKind.u8 (0 : Int)], [D.int IntKind.u8 (0 : Int)],
            [D.int IntKind.u8 (0 : Int)]]),
      D.slice
        (opX
          [[D.int IntKind.u8 (0 : Int)], [D.int IntKind.u8 (0 : Int)], [D.int IntKind.u8 (0 : Int)],
            [D.int IntKind.u8 (0 : Int)], [D.int IntKind.u8 (0 : Int)], [D.int IntKind.u8 (0 : Int)],
            [D.int IntKind.u8 (0 : Int)], [D.int IntKind.u8 (0 : Int)], [D.int IntKind.u8 (0 : Int)],
            [D.int IntKind.u8 (0 : Int)], [D.int IntKind.u8 (0 : Int)], [D.int IntKind.u8 (0 : Int)],
            [D.int IntKind.u8 (0 : Int)], [D.int IntKind.u8 (0 : Int)], [D.int IntKind.u8 (0 : Int)],
            [D.int IntKind.u8 (0 : Int)], [D.int IntKind.u8 (0 : Int)], [D.int IntKind.u8 (0 : Int)],
            [D.int IntKind.u8 (0 : Int)], [D.int IntKind.u8 (0 : Int)], [D.int IntKind.u8 (0 : Int)],
            [D.int IntKind.u8 (0 : Int)], [D.int IntKind.u8 (0 : Int)], [D.int IntKind.u8 (0 : Int)],
            [D.int IntKind.u8 (0 : Int)], [D.int IntKind.u8 (0 : Int)], [D.int IntKind.u8 (0 : Int)],
            [D.int IntKind.u8 (0 : Int)], [D.int IntKind.u8 (0 : Int)], [D.int IntKind.u8 (0 : Int)],
            [D.int IntKind.u8 (0 : Int)], [D.int IntKind.u8 (0 : Int)], [D.int IntKind.u8 (0 : Int)],
            [D.int IntKind.u8 (0 : Int)], [D.int IntKind.u8 (0 : Int)], [D.int IntKind.u8 (0 : Int)],
            [D.int IntKind.u8 (0 : Int)], [D.int IntKind.u8 (0 : Int)], [D.int IntKind.u8 (0 : Int)],
            [D.int IntKind.u8 (0 : Int)], [D.int IntKind.u8 (0 : Int)], [D.int IntKind.u8 (0 : Int)],
            [D.int IntKind.u8 (0 : Int)], [D.int IntKind.u8 (0 : Int)], [D.int IntKind.u8 (0 : Int)],
            [D.int IntKind.u8 (0 : Int)], [D.int IntKind.u8 (0 : Int)], [D.int IntKind.u8 (0 : Int)],
            [D.int IntKind.u8 (0 : Int)], [D.int IntKind.u8 (0 : Int)], [D.int IntKind.u8 (0 : Int)],
            [D.int IntKind.u8 (0 : Int)], [D.int IntKind.u8 (0 : Int)], [D.int IntKind.u8 (0 : Int)],
            [D.int IntKind.u8 (0 : Int)], [D.int IntKind.u8 (0 : Int)], [D.int IntKind.u8 (0 : Int)],
            [D.int IntKind.u8 (0 : Int)], [D.int IntKind.u8 (0 : Int)], [D.int IntKind.u8 (0 : Int)],
            [D.int IntKind.u8 (0 : Int)], [D.int IntKind.u8 (0 : Int)], [D.int IntKind.u8 (0 : Int)],
            [D.int IntKind.u8 (0 : Int)]])
        (opL
          [[D.int IntKind.u8 (0 : Int)], [D.int IntKind.u8 (0 : Int)], [D.int IntKind.u8 (0 : Int)],
            [D.int IntKind.u8 (0 : Int)], [D.int IntKind.u8 (0 : Int)], [D.int IntKind.u8 (0 : Int)],
            [D.int IntKind.u8 (0 : Int)], [D.int IntKind.u8 (0 : Int)], [D.int IntKind.u8 (0 : Int)],
            [D.int IntKind.u8 (0 : Int)], [D.int IntKind.u8 (0 : Int)], [D.int IntKind.u8 (0 : Int)],
            [D.int IntKind.u8 (0 : Int)], [D.int IntKind.u8 (0 : Int)], [D.int IntKind.u8 (0 : Int)],
            [D.int IntKind.u8 (0 : Int)], [D.int IntKind.u8 (0 : Int)], [D.int IntKind.u8 (0 : Int)],
            [D.int IntKind.u8 (0 : Int)], [D.int IntKind.u8 (0 : Int)], [D.int IntKind.u8 (0 : Int)],
            [D.int IntKind.u8 (0 : Int)], [D.int IntKind.u8 (0 : Int)], [D.int IntKind.u8 (0 : Int)],
            [D.int IntKind.u8 (0 : Int)], [D.int IntKind.u8 (0 : Int)], [D.int IntKind.u8 (0 : Int)],
            [D.int IntKind.u8 (0 : Int)], [D.int IntKind.u8 (0 : Int)], [D.int IntKind.u8 (0 : Int)],
            [D.int IntKind.u8 (0 : Int)], [D.int IntKind.u8 (0 : Int)], [D.int IntKind.u8 (0 : Int)],
            [D.int IntKind.u8 (0 : Int)], [D.int IntKind.u8 (0 : Int)], [D.int IntKind.u8 (0 : Int)],
            [D.int IntKind.u8 (0 : Int)], [D.int IntKind.u8 (0 : Int)], [D.int IntKind.u8 (0 : Int)],
            [D.int IntKind.u8 (0 : Int)], [D.int IntKind.u8 (0 : Int)], [D.int IntKind.u8 (0 : Int)],
            [D.int IntKind.u8 (0 : Int)], [D.int IntKind.u8 (0 : Int)], [D.int IntKind.u8 (0 : Int)],
            [D.int IntKind.u8 (0 : Int)], [D.int IntKind.u8 (0 : Int)], [D.int IntKind.u8 (0 : Int)],
            [D.int IntKind.u8 (0 : Int)], [D.int IntKind.u8 (0 : Int)], [D.int IntKind.u8 (0 : Int)],
            [D.int IntKind.u8 (0 : Int)], [D.int IntKind.u8 (0 : Int)], [D.int IntKind.u8 (0 : Int)],
            [D.int IntKind.u8 (0 : Int)], [D.int IntKind.u8 (0 : Int)], [D.int IntKind.u8 (0 : Int)],
            [D.int IntKind.u8 (0 : Int)], [D.int IntKind.u8 (0 : Int)], [D.int IntKind.u8 (0 : Int)],
            [D.int IntKind.u8 (0 : Int)], [D.int IntKind.u8 (0 : Int)], [D.int IntKind.u8 (0 : Int)],
            [D.int IntKind.u8 (0 : Int)]])
        none,
      D.int IntKind.i64
        (opE
          [[D.int IntKind.u8 (0 : Int)], [D.int IntKind.u8 (0 : Int)], [D.int IntKind.u8 (0 : Int)],
            [D.int IntKind.u8 (0 : Int)], [D.int IntKind.u8 (0 : Int)], [D.int IntKind.u8 (0 : Int)],
            [D.int IntKind.u8 (0 : Int)], [D.int IntKind.u8 (0 : Int)], [D.int IntKind.u8 (0 : Int)],
            [D.int IntKind.u8 (0 : Int)], [D.int IntKind.u8 (0 : Int)], [D.int IntKind.u8 (0 : Int)],
            [D.int IntKind.u8 (0 : Int)], [D.int IntKind.u8 (0 : Int)], [D.int IntKind.u8 (0 : Int)],
            [D.int IntKind.u8 (0 : Int)], [D.int IntKind.u8 (0 : Int)], [D.int IntKind.u8 (0 : Int)],
            [D.int IntKind.u8 (0 : Int)], [D.int IntKind.u8 (0 : Int)], [D.int IntKind.u8 (0 : Int)],
            [D.int IntKind.u8 (0 : Int)], [D.int IntKind.u8 (0 : Int)], [D.int IntKind.u8 (0 : Int)],
            [D.int IntKind.u8 (0 : Int)], [D.int IntKind.u8 (0 : Int)], [D.int IntKind.u8 (0 : Int)],
            [D.int IntKind.u8 (0 : Int)], [D.int IntKind.u8 (0 : Int)], [D.int IntKind.u8 (0 : Int)],
            [D.int IntKind.u8 (0 : Int)], [D.int IntKind.u8 (0 : Int)], [D.int IntKind.u8 (0 : Int)],
            [D.int IntKind.u8 (0 : Int)], [D.int IntKind.u8 (0 : Int)], [D.int IntKind.u8 (0 : Int)],
            [D.int IntKind.u8 (0 : Int)], [D.int IntKind.u8 (0 : Int)], [D.int IntKind.u8 (0 : Int)],
            [D.int IntKind.u8 (0 : Int)], [D.int IntKind.u8 (0 : Int)], [D.int IntKind.u8 (0 : Int)],
            [D.int IntKind.u8 (0 : Int)], [D.int IntKind.u8 (0 : Int)], [D.int IntKind.u8 (0 : Int)],
            [D.int IntKind.u8 (0 : Int)], [D.int IntKind.u8 (0 : Int)], [D.int IntKind.u8 (0 : Int)],
            [D.int IntKind.u8 (0 : Int)], [D.int IntKind.u8 (0 : Int)], [D.int IntKind.u8 (0 : Int)],
            [D.int IntKind.u8 (0 : Int)], [D.int IntKind.u8 (0 : Int)], [D.int IntKind.u8 (0 : Int)],
            [D.int IntKind.u8 (0 : Int)], [D.int IntKind.u8 (0 : Int)], [D.int IntKind.u8 (0 : Int)],
            [D.int IntKind.u8 (0 : Int)], [D.int IntKind.u8 (0 : Int)], [D.int IntKind.u8 (0 : Int)],
            [D.int IntKind.u8 (0 : Int)], [D.int IntKind.u8 (0 : Int)], [D.int IntKind.u8 (0 : Int)],
            [D.int IntKind.u8 (0 : Int)]])])
  [some (HObj.tok (64 : Nat) (1 : Nat))],
      (0 : Int) ≤ (64 : Int) ∧
  (64 : Int) ≤ (64 : Int) ∧
    (↑(1 : Nat) : Int) * (64 : Int) ≤ (281474976710656 : Int) ∧ (64 : Int) ≤ (9223372036854775807 : Int),
      Ret Try.prog (tyOf Try.prog) (34 : Nat) [D.slice true (List.take (63 : Nat) (pageE (64 : Int) (0 : Int) [])) none] []
  (D.tuple
    [D.int IntKind.i64 (opN (List.take (63 : Nat) (pageE (64 : Int) (0 : Int) []))),
      D.slice (opX (List.take (63 : Nat) (pageE (64 : Int) (0 : Int) [])))
        (opL (List.take (63 : Nat) (pageE (64 : Int) (0 : Int) []))) none,
      D.int IntKind.i64 (opE (List.take (63 : Nat) (pageE (64 : Int) (0 : Int) [])))])
  [],
      (0 : Int) ≤ (63 : Int) ∧ (63 : Int) ≤ (↑(List.length (pageE (64 : Int) (0 : Int) [])) : Int),
      (n4_15 != (0 : Int)) = false,
      (n4_9 != (1 : Int)) = false,
      ((n4_9 != (1 : Int)) == false) = true,
      ((n4_9 != (1 : Int)) == false) = true,
      (0 : Int) ≤ (4 : Int),
      (pageE (64 : Int) (0 : Int) [])[(4 : Nat)]? = some [D.int IntKind.u8 n4_15],
      ((n4_9 != (1 : Int)) == false) = true,
      ((n4_9 != (1 : Int)) == false) = true,
      ((↑(List.length (pageE (64 : Int) (0 : Int) [])) : Int) != (64 : Int)) = false,
      (((↑(List.length (pageE (64 : Int) (0 : Int) [])) : Int) != (64 : Int)) == false) = true,
      (((↑(List.length (pageE (64 : Int) (0 : Int) [])) : Int) != (64 : Int)) == false) = true,
      (0 : Int) ≤ (0 : Int),
      (pageE (64 : Int) (0 : Int) [])[(0 : Nat)]? = some [D.int IntKind.u8 n4_9],
      (((↑(List.length (pageE (64 : Int) (0 : Int) [])) : Int) != (64 : Int)) == false) = true,
      (((↑(List.length (pageE (64 : Int) (0 : Int) [])) : Int) != (64 : Int)) == false) = true,
      false = false,
      true = true,
      true = true,
      true = true,
      Ret Try.prog (tyOf Try.prog) (28 : Nat)
  [D.int IntKind.i64 (64 : Int), D.int IntKind.i64 (0 : Int), D.slice false [] none] []
  (D.tuple [D.slice true (pageE (64 : Int) (0 : Int) []) none, D.int IntKind.i64 (0 : Int)]) [],
      false = false,
      Ret Try.prog (tyOf Try.prog) (27 : Nat) [] [] (D.bool true) []]) by kernel_rfl)
    (all_cons.2 ⟨rfl, all_cons.2 ⟨rfl, all_cons.2 ⟨(room30 _), all_cons.2 ⟨rfl, all_cons.2 ⟨rfl, all_cons.2 ⟨rfl, all_cons.2 ⟨rfl, all_cons.2 ⟨b5, all_cons.2 ⟨(by rw [b5]; rfl), all_cons.2 ⟨(by rw [b5]; rfl), all_cons.2 ⟨b4, all_cons.2 ⟨(by rw [b4]; rfl), all_cons.2 ⟨(by rw [b4]; rfl), all_cons.2 ⟨b3, all_cons.2 ⟨(by rw [b3]; rfl), all_cons.2 ⟨(by rw [b3]; rfl), all_cons.2 ⟨(by simp), all_cons.2 ⟨(by simp), all_cons.2 ⟨(by simp), all_cons.2 ⟨h6, all_cons.2 ⟨h7, all_cons.2 ⟨h8, all_cons.2 ⟨h9, all_cons.2 ⟨h10, all_cons.2 ⟨h11, all_cons.2 ⟨(by decide), all_cons.2 ⟨h12, all_cons.2 ⟨h13, all_cons.2 ⟨b2, all_cons.2 ⟨b1, all_cons.2 ⟨(by rw [b1]; rfl), all_cons.2 ⟨(by rw [b1]; rfl), all_cons.2 ⟨(by decide), all_cons.2 ⟨h14, all_cons.2 ⟨(by rw [b1]; rfl), all_cons.2 ⟨(by rw [b1]; rfl), all_cons.2 ⟨b0, all_cons.2 ⟨(by rw [b0]; rfl), all_cons.2 ⟨(by rw [b0]; rfl), all_cons.2 ⟨(by decide), all_cons.2 ⟨h15, all_cons.2 ⟨(by rw [b0]; rfl), all_cons.2 ⟨(by rw [b0]; rfl), all_cons.2 ⟨rfl, all_cons.2 ⟨rfl, all_cons.2 ⟨rfl, all_cons.2 ⟨rfl, all_cons.2 ⟨h16, all_cons.2 ⟨rfl, all_cons.2 ⟨h17, all_nil.2 trivial⟩⟩⟩⟩⟩⟩⟩⟩⟩⟩⟩⟩⟩⟩⟩⟩⟩⟩⟩⟩⟩⟩⟩⟩⟩⟩⟩⟩⟩⟩⟩⟩⟩⟩⟩⟩⟩⟩⟩⟩⟩⟩⟩⟩⟩⟩⟩⟩⟩⟩))




/-! ### the laws' roads, with what the calls come to -/
def pageC (p nx : Int) (es : Es) : Es := rows (pageU p.toNat nx (bytesD es))
def opNc (es : Es) : Int := (openV (bytesD es)).1
def opEc (es : Es) : Int := (openV (bytesD es)).2.2
def opXc (es : Es) : Bool := decide ((openV (bytesD es)).2.2 = 0)
def opLc (es : Es) : Es := rows (openV (bytesD es)).2.1
theorem openC (xb : Bool) (l : List Int) (hl : l.length ≤ 5000) (hb : Bytes l) (hn : xb = false → l = []) :
    Ret P T 34 [.slice xb (rows l) none] [] (.tuple [.int .i64 (opNc (rows l)), .slice (opXc (rows l)) (opLc (rows l)) none, .int .i64 (opEc (rows l))]) [] := by
  obtain ⟨nn, h1, h2⟩ := open34 xb l hl hb hn
  unfold opNc opXc opLc opEc
  rw [bytes_rows, ← h1]
  exact h2
theorem closeC (p : Nat) (next : Int) (xb : Bool) (l : List Int) (hm : mayU p = true) (h1 : ¬ next < -1) (h2 : ¬ next ≥ 16384) (h3 : l.length ≤ p - 10) :
    Ret P T 28 [.int .i64 p, .int .i64 next, .slice xb (rows l) none] [] (.tuple [.slice true (pageC p next (rows l)) none, .int .i64 0]) [] := by
  unfold pageC
  rw [bytes_rows, Int.toNat_natCast]
  exact close28' p next xb l hm h1 h2 h3

theorem awake27 : Ret P T 27 [] [] (.bool true) [] := by
  have hb : Bytes [97, 98, 99] := by intro x hx; simp at hx; omega
  have hm : mayU 64 = true := by decide +kernel
  have hp := openV_page 64 5 [97, 98, 99] hb hm (by decide) (by decide) (by decide)
  have hc := closeC 64 5 true [97, 98, 99] hm (by decide) (by decide) (by decide)
  have hlen := pageU_len (p := 64) (next := 5) (l := [97, 98, 99]) (by decide) (by decide)
  have ho := openC true (pageU 64 5 [97, 98, 99]) (by rw [hlen]; decide) (pageU_bytes hb) (by simp)
  have er : rows [97, 98, 99] = [[D.int .u8 97], [D.int .u8 98], [D.int .u8 99]] := rfl
  have ep : pageC 64 5 [[D.int .u8 97], [D.int .u8 98], [D.int .u8 99]] = rows (pageU 64 5 [97, 98, 99]) := rfl
  have eN : opNc (rows (pageU 64 5 [97, 98, 99])) = 5 := by unfold opNc; rw [bytes_rows, hp]
  have eE : opEc (rows (pageU 64 5 [97, 98, 99])) = 0 := by unfold opEc; rw [bytes_rows, hp]
  have eL : opLc (rows (pageU 64 5 [97, 98, 99])) = rows [97, 98, 99] := by unfold opLc; rw [bytes_rows, hp]
  have e := @aw_in_0 pageC sumC opNc opEc opXc opXc opLc
  have hl64 : ((rows (pageU 64 5 [97, 98, 99])).length : Int) = 64 := by rw [rows_len, hlen]; rfl
  rw [ep, eN, eE, eL, hl64] at e
  rw [eN, eE, eL] at ho
  exact e (by decide +kernel) rfl rfl (by decide +kernel) (by decide +kernel) (sum32 true [49, 50, 51, 52, 53, 54, 55, 56, 57] (by decide)) ho hc

theorem law7 (xb : Bool) (l : List Int) (hm : l.length ≤ maxLen) (hb : Bytes l) (hn : xb = false → l = []) : ∃ H1, Ret P T 7 [.slice xb (rows l) none] [] (.bool true) H1 := by
  have hrl : (rows l).length = l.length := rows_len l
  by_cases h : (l.length : Int) > 5000
  · exact ⟨_, @lop_in_0 pageC sumC opNc opEc opXc opXc opLc xb (rows l) (by rw [hrl]; exact h) awake27⟩
  · obtain ⟨nn, h34⟩ := openR35 xb l (by omega) hb
    have e := @lop_in_1 pageC sumC opNc opEc opXc (fun _ => nn) opLc xb (rows l) (by rw [hrl]; exact h)
    unfold opNc opLc opEc at e
    rw [bytes_rows] at e
    have ho := openC xb l (by omega) hb hn
    unfold opNc opLc opEc at ho
    rw [bytes_rows] at ho
    have := e (rows_isByte (openV_bytes hb)) h34 ho awake27
    rw [beq_self_eq_true] at this
    exact ⟨_, this⟩

theorem law6 (p nx : Int) (xb : Bool) (l : List Int) (hm : l.length ≤ maxLen) (hb : Bytes l) (hn : xb = false → l = []) : ∃ H1, Ret P T 6 [.int .i64 p, .int .i64 nx, .slice xb (rows l) none] [] (.bool true) H1 := by
  have hrl : (rows l).length = l.length := rows_len l
  by_cases h : (l.length : Int) > 5000
  · exact ⟨_, @lcl_in_0 pageC sumC opNc opEc opXc opXc opLc p nx xb (rows l) (by rw [hrl]; exact h) awake27⟩
  · have s1 := sumR xb l (by omega)
    have s2 := sumR' xb l (by omega)
    have es : sumC (rows l) = sumU l := by unfold sumC; rw [bytes_rows]
    by_cases hk : mayU p = true ∧ ¬ nx < -1 ∧ ¬ nx ≥ 16384 ∧ ¬ (l.length : Int) > roomU p
    · obtain ⟨h1, h2, h3, h4⟩ := hk
      have hle := mayU_le h1
      obtain ⟨q, rfl⟩ : ∃ q : Nat, p = q := ⟨p.toNat, by omega⟩
      rw [roomU_may h1] at h4
      have hpl := pageU_len (p := q) (next := nx) (l := l) (by omega) (by omega)
      have hp := openV_page q nx l hb h1 h2 h3 (by omega)
      have hc := closeC q nx xb l h1 h2 h3 (by omega)
      have hr := closeR29 q nx xb l h1 h2 h3 (by omega)
      have hpb : Bytes (pageU q nx l) := pageU_bytes hb
      have ho := openC true (pageU q nx l) (by rw [hpl]; omega) hpb (by simp)
      have ep : pageC q nx (rows l) = rows (pageU q nx l) := by unfold pageC; rw [bytes_rows, Int.toNat_natCast]
      have eN : opNc (rows (pageU q nx l)) = nx := by unfold opNc; rw [bytes_rows, hp]
      have eE : opEc (rows (pageU q nx l)) = 0 := by unfold opEc; rw [bytes_rows, hp]
      have eL : opLc (rows (pageU q nx l)) = rows l := by unfold opLc; rw [bytes_rows, hp]
      have e := @lcl_in_1 pageC sumC opNc opEc opXc opXc opLc q nx xb (rows l) (by rw [hrl]; exact h)
      rw [ep] at e hc
      rw [eN, eE, eL, es, beq_self_eq_true] at e
      rw [eN, eE, eL] at ho
      exact ⟨_, e rfl rfl (rows_isByte hb) (rows_isByte hb) ho s2 s1 (rows_isByte hpb) hr hc awake27⟩
    · have e := @lcb_in_1 pageC sumC opNc opEc opXc opXc opLc p nx xb (rows l) (by rw [hrl]; exact h)
      rw [es] at e
      exact ⟨_, e s2 s1 (closeR29_bad p nx xb l hk) (close28_bad p nx xb l hk) awake27⟩


end Go.Proofs.Ytifpbdhggooelaa.sealk
