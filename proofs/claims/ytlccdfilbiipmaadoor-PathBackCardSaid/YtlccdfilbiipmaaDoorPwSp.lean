/- strings.Split and what asks of names: roads. -/
import Derived.Test.YtlccdfilbiipmaaDoorPwA
namespace Go.Proofs.YtlccdfilbiipmaaDoor.ordk
open Go YtlccdfilbiipmaaDoor.GD
set_option linter.unusedVariables false
set_option linter.unusedSimpArgs false
set_option maxRecDepth 100000

def dot : ByteArray := ByteArray.mk #[46]
def aC1 (cn ix : ByteArray → Int) (s : ByteArray) : List D × GD.Heap := ([.str s, .str (ByteArray.mk #[46])], [])
def tC1 (cn ix : ByteArray → Int) (s : ByteArray) : Tab := t0
def aI1 (cn ix : ByteArray → Int) (s : ByteArray) : List D × GD.Heap := ([.str s, .int .u8 0], [])
def tI1 (cn ix : ByteArray → Int) (s : ByteArray) : Tab := t0
def xC1 (cn ix : ByteArray → Int) (s : ByteArray) : FuncId → List D → Option D := fun k args =>
  match k with
  | 50 => match args with | [.str t, .int .u8 _] => some (.int .i64 (cn t)) | _ => none
  | 52 => match args with | [.str t, .int .u8 _] => some (.int .i64 (ix t)) | _ => none
  | _ => none
/-- genSplit. -/
def aG1 (cn ix : ByteArray → Int) (s : ByteArray) : List D × GD.Heap := ([.str s, .str (ByteArray.mk #[46]), .int .i64 0, .int .i64 (-1)], [])
def tG1 (cn ix : ByteArray → Int) (s : ByteArray) : Tab := fun k args H =>
  match k with
  | 41 => match args, H with | [.str t, .str _], [] => some (.int .i64 (cn t), []) | _, _ => none
  | 42 => match args, H with | [.str t, .str _], [] => some (.int .i64 (ix t), []) | _, _ => none
  | _ => none
def aG2 (xl : Bool) (es : Es) (s : ByteArray) : List D × GD.Heap := ([.str s, .str (ByteArray.mk #[46])], [])
def tG2 (xl : Bool) (es : Es) (s : ByteArray) : Tab := fun k args H =>
  match k with
  | 33 => match args, H with | [.str t, .str _, .int .i64 0, .int .i64 (-1)], [] => some (.slice xl es none, []) | _, _ => none
  | _ => none
/-- named. -/
def aNm (ok : Bool) (zi : Int) (s : ByteArray) : List D × GD.Heap := ([.str s], [])
def tNm (ok : Bool) (zi : Int) (s : ByteArray) : Tab := fun k args H =>
  match k with
  | 34 => match args, H with | [.str t], [] => some (.bool ok, []) | _, _ => none
  | 35 => match args, H with | [.str t, .int .u8 0], [] => some (.int .i64 zi, []) | _, _ => none
  | 31 => match args, H with | [.str t], [] => some (.bool ok, []) | _, _ => none
  | _ => none
/-- Parse. -/
def aPa (xl : Bool) (es : Es) (nm : ByteArray → Bool) (s : ByteArray) : List D × GD.Heap := ([.str s], [])
def tPa (xl : Bool) (es : Es) (nm : ByteArray → Bool) (s : ByteArray) : Tab := fun k args H =>
  match k with
  | 26 => match args, H with | [.str t, .str _], [] => some (.slice xl es none, []) | _, _ => none
  | 27 => match args, H with | [.str t], [] => some (.bool (nm t), []) | _, _ => none
  | 21 => match args, H with | [.str t], [] => some (.bool (nm t), []) | _, _ => none
  | _ => none
def aTx (xa : Bool) (ea : Es) (xb : Bool) (eb : Es) : List D × GD.Heap := ([.slice xa ea none, .slice xb eb none], [])
def tTx (xa : Bool) (ea : Es) (xb : Bool) (eb : Es) : Tab := t0
/-! ### function 41 -/
theorem cnt_fn : Tryd.prog.funcs[(41 : Nat)]? = some (fnAt P 41) := by kernel_rfl
theorem cnt_body : (fnAt P 41).body = some (bodyAt P 41) := by kernel_rfl
theorem cnt_name : ((fnAt P 41).name == "runtime.NumGoroutine") = false := by kernel_rfl
noncomputable def cnt_C (cn ix : ByteArray → Int) (s : ByteArray) : Cf := cfg Tryd.prog (hintOf []) (tC1 cn ix s) (fun _ => false) 2 true (fun _ => false) (xC1 cn ix s)
theorem cnt_ok (cn ix : ByteArray → Int) (s : ByteArray) : CfOk (cnt_C cn ix s) := cfg_ok (by kernel_rfl)
noncomputable def cnt_run (cn ix : ByteArray → Int) (s : ByteArray) (qcur : Cur) (qk : List It) (qs : St) (qor : GD.Or) := runE (cnt_C cn ix s) (callE (cnt_C cn ix s) 100000 10) 41 100000 qcur qk qs qor []

theorem cnt_in_0 {cn ix : ByteArray → Int} {s : ByteArray} (h0 : ExtOk Tryd.prog (50 : Nat) [D.str s, D.int .u8 (46 : Int)] (D.int .i64 (cn s))) : Ret P T 41 [D.str s, D.str (ByteArray.mk #[(46 : UInt8)])] [] (D.int .i64 (cn s)) [] :=
  fin_call cnt_fn cnt_body cnt_name (fr 41 0 (cnt_ok cn ix s) (pth 2 2) (ac h0 (ac (show (0 : Int) ≤ (0 : Int) ∧ (0 : Int) < (↑(1 : Nat) : Int) by decide) (ac tru (ac (show false = false from rfl) an)))))


/-! ### function 42 -/
theorem idx_fn : Tryd.prog.funcs[(42 : Nat)]? = some (fnAt P 42) := by kernel_rfl
theorem idx_body : (fnAt P 42).body = some (bodyAt P 42) := by kernel_rfl
theorem idx_name : ((fnAt P 42).name == "runtime.NumGoroutine") = false := by kernel_rfl
noncomputable def idx_C (cn ix : ByteArray → Int) (s : ByteArray) : Cf := cfg Tryd.prog (hintOf []) (tC1 cn ix s) (fun _ => false) 2 true (fun _ => false) (xC1 cn ix s)
theorem idx_ok (cn ix : ByteArray → Int) (s : ByteArray) : CfOk (idx_C cn ix s) := cfg_ok (by kernel_rfl)
noncomputable def idx_run (cn ix : ByteArray → Int) (s : ByteArray) (qcur : Cur) (qk : List It) (qs : St) (qor : GD.Or) := runE (idx_C cn ix s) (callE (idx_C cn ix s) 100000 10) 42 100000 qcur qk qs qor []

theorem idx_in_0 {cn ix : ByteArray → Int} {s : ByteArray} (h0 : (ByteArray.mk #[(46 : UInt8)]).toList = s.toList) : Ret P T 42 [D.str s, D.str (ByteArray.mk #[(46 : UInt8)])] [] (D.int .i64 (0 : Int)) [] :=
  have bq0 := beq_iff_eq.2 h0
  fin_call idx_fn idx_body idx_name (fr 42 0 (idx_ok cn ix s) (pth 5 23) (ac bq0 (ac (show false = false from rfl) (ac tru (ac tru (ac tru an))))))

theorem idx_in_1 {cn ix : ByteArray → Int} {s : ByteArray} (h0 : (ByteArray.mk #[(46 : UInt8)]).toList ≠ s.toList) (h1 : ExtOk Tryd.prog (52 : Nat) [D.str s, D.int .u8 (46 : Int)] (D.int .i64 (ix s))) : Ret P T 42 [D.str s, D.str (ByteArray.mk #[(46 : UInt8)])] [] (D.int .i64 (ix s)) [] :=
  have bq0 := beq_eq_false_iff_ne.2 h0
  fin_call idx_fn idx_body idx_name (fr 42 0 (idx_ok cn ix s) (pth 6 39) (ac h1 (ac (show (0 : Int) ≤ (0 : Int) ∧ (0 : Int) < (↑(1 : Nat) : Int) by decide) (ac tru (ac bq0 (ac (show false = false from rfl) (ac tru (ac tru (ac tru an)))))))))


/-! ### function 35 -/
theorem ixb_fn : Tryd.prog.funcs[(35 : Nat)]? = some (fnAt P 35) := by kernel_rfl
theorem ixb_body : (fnAt P 35).body = some (bodyAt P 35) := by kernel_rfl
theorem ixb_name : ((fnAt P 35).name == "runtime.NumGoroutine") = false := by kernel_rfl
noncomputable def ixb_C (cn ix : ByteArray → Int) (s : ByteArray) : Cf := cfg Tryd.prog (hintOf []) (tI1 cn ix s) (fun _ => false) 2 true (fun _ => false) (xC1 cn ix s)
theorem ixb_ok (cn ix : ByteArray → Int) (s : ByteArray) : CfOk (ixb_C cn ix s) := cfg_ok (by kernel_rfl)
noncomputable def ixb_run (cn ix : ByteArray → Int) (s : ByteArray) (qcur : Cur) (qk : List It) (qs : St) (qor : GD.Or) := runE (ixb_C cn ix s) (callE (ixb_C cn ix s) 100000 10) 35 100000 qcur qk qs qor []

theorem ixb_in_0 {cn ix : ByteArray → Int} {s : ByteArray} (h0 : ExtOk Tryd.prog (52 : Nat) [D.str s, D.int .u8 (0 : Int)] (D.int .i64 (ix s))) : Ret P T 35 [D.str s, D.int .u8 (0 : Int)] [] (D.int .i64 (ix s)) [] :=
  fin_call ixb_fn ixb_body ixb_name (fr 35 0 (ixb_ok cn ix s) (pth 0 0) (ac h0 an))


/-! ### function 26 -/
theorem spl_fn : Tryd.prog.funcs[(26 : Nat)]? = some (fnAt P 26) := by kernel_rfl
theorem spl_body : (fnAt P 26).body = some (bodyAt P 26) := by kernel_rfl
theorem spl_name : ((fnAt P 26).name == "runtime.NumGoroutine") = false := by kernel_rfl
noncomputable def spl_C (xl : Bool) (es : Es) (s : ByteArray) : Cf := cfg Tryd.prog (hintOf []) (tG2 xl es s) (fun _ => false) 2 true (fun _ => false)
theorem spl_ok (xl : Bool) (es : Es) (s : ByteArray) : CfOk (spl_C xl es s) := cfg_ok (by kernel_rfl)
noncomputable def spl_run (xl : Bool) (es : Es) (s : ByteArray) (qcur : Cur) (qk : List It) (qs : St) (qor : GD.Or) := runE (spl_C xl es s) (callE (spl_C xl es s) 100000 10) 26 100000 qcur qk qs qor []

theorem spl_in_0 {xl : Bool} {es : Es} {s : ByteArray} (h0 : Ret P T 33 [D.str s, D.str (ByteArray.mk #[(46 : UInt8)]), D.int .i64 (0 : Int), D.int .i64 (-1 : Int)] [] (D.slice xl es none) []) : Ret P T 26 [D.str s, D.str (ByteArray.mk #[(46 : UInt8)])] [] (D.slice xl es none) [] :=
  fin_call spl_fn spl_body spl_name (fr 26 0 (spl_ok xl es s) (pth 0 0) (ac h0 an))


/-! ### function 27 -/
theorem nmd_fn : Tryd.prog.funcs[(27 : Nat)]? = some (fnAt P 27) := by kernel_rfl
theorem nmd_body : (fnAt P 27).body = some (bodyAt P 27) := by kernel_rfl
theorem nmd_name : ((fnAt P 27).name == "runtime.NumGoroutine") = false := by kernel_rfl
noncomputable def nmd_C (ok : Bool) (zi : Int) (s : ByteArray) : Cf := cfg Tryd.prog (hintOf []) (tNm ok zi s) (fun _ => false) 2 true (fun _ => false)
theorem nmd_ok (ok : Bool) (zi : Int) (s : ByteArray) : CfOk (nmd_C ok zi s) := cfg_ok (by kernel_rfl)
noncomputable def nmd_run (ok : Bool) (zi : Int) (s : ByteArray) (qcur : Cur) (qk : List It) (qs : St) (qor : GD.Or) := runE (nmd_C ok zi s) (callE (nmd_C ok zi s) 100000 10) 27 100000 qcur qk qs qor []

theorem nmd_in_0 {ok : Bool} {zi : Int} {s : ByteArray} (h0 : s.toList = bE.toList) : Ret P T 27 [D.str s] [] (D.bool false) [] :=
  have bq0 := beq_iff_eq.2 h0
  fin_call nmd_fn nmd_body nmd_name (fr 27 0 (nmd_ok ok zi s) (pth 15 0) (ac (show false = false from rfl) (ac (show false = false from rfl) (ac (show false = false from rfl) (ac (show false = false from rfl) (ac (show false = false from rfl) (ac (show false = false from rfl) (ac (show false = false from rfl) (ac (show false = false from rfl) (ac (show false = false from rfl) (ac (show false = false from rfl) (ac (show false = false from rfl) (ac (nb0 bq0) (ac (kft (nb0 bq0)) (ac (kft (nb0 bq0)) (ac (kft (nb0 bq0)) an))))))))))))))))

theorem nmd_in_1 {ok : Bool} {zi : Int} {s : ByteArray} (h0 : s.toList ≠ bE.toList) (h1 : (↑(s.data.getD (Int.toNat (0 : Int)) (0 : UInt8)).toNat : Int) ≠ (36 : Int)) (h2 : (↑s.size : Int) ≤ (120 : Int)) (h3 : ok = true) (h4 : Ret P T 35 [D.str s, D.int .u8 (0 : Int)] [] (D.int .i64 zi) []) (h5 : Ret P T 34 [D.str s] [] (D.bool ok) []) (h6 : (0 : Int) ≤ (0 : Int) ∧ (0 : Int) < (↑s.size : Int)) : Ret P T 27 [D.str s] [] (D.bool (decide (zi < (0 : Int)))) [] :=
  have bq0 := beq_eq_false_iff_ne.2 h0
  have bq1 : ((↑(s.data.getD (Int.toNat (0 : Int)) (0 : UInt8)).toNat : Int) != (36 : Int)) = true := bne_iff_ne.2 h1
  have bq2 := decide_eq_true h2
  have bq3 := h3
  fin_call nmd_fn nmd_body nmd_name (fr 27 0 (nmd_ok ok zi s) (pth 15 32767) (ac bq3 (ac (ktt bq3) (ac h4 (ac (ktt bq3) (ac (ktt bq3) (ac bq2 (ac h5 (ac (ktt bq2) (ac (ktt bq2) (ac bq1 (ac (ktt bq1) (ac (ktt bq1) (ac (ktt bq1) (ac (nb1 bq0) (ac (ktt (nb1 bq0)) (ac h6 (ac (ktt (nb1 bq0)) (ac (ktt (nb1 bq0)) an)))))))))))))))))))

theorem nmd_in_2 {ok : Bool} {zi : Int} {s : ByteArray} (h0 : s.toList ≠ bE.toList) (h1 : (↑(s.data.getD (Int.toNat (0 : Int)) (0 : UInt8)).toNat : Int) ≠ (36 : Int)) (h2 : (↑s.size : Int) ≤ (120 : Int)) (h3 : ok = false) (h4 : Ret P T 34 [D.str s] [] (D.bool ok) []) (h5 : (0 : Int) ≤ (0 : Int) ∧ (0 : Int) < (↑s.size : Int)) : Ret P T 27 [D.str s] [] (D.bool false) [] :=
  have bq0 := beq_eq_false_iff_ne.2 h0
  have bq1 : ((↑(s.data.getD (Int.toNat (0 : Int)) (0 : UInt8)).toNat : Int) != (36 : Int)) = true := bne_iff_ne.2 h1
  have bq2 := decide_eq_true h2
  have bq3 := h3
  fin_call nmd_fn nmd_body nmd_name (fr 27 0 (nmd_ok ok zi s) (pth 15 2047) (ac bq3 (ac (kft bq3) (ac (kft bq3) (ac (kft bq3) (ac bq2 (ac h4 (ac (ktt bq2) (ac (ktt bq2) (ac bq1 (ac (ktt bq1) (ac (ktt bq1) (ac (ktt bq1) (ac (nb1 bq0) (ac (ktt (nb1 bq0)) (ac h5 (ac (ktt (nb1 bq0)) (ac (ktt (nb1 bq0)) an))))))))))))))))))

theorem nmd_in_3 {ok : Bool} {zi : Int} {s : ByteArray} (h0 : s.toList ≠ bE.toList) (h1 : (↑(s.data.getD (Int.toNat (0 : Int)) (0 : UInt8)).toNat : Int) ≠ (36 : Int)) (h2 : ¬ ((↑s.size : Int) ≤ (120 : Int))) (h3 : (0 : Int) ≤ (0 : Int) ∧ (0 : Int) < (↑s.size : Int)) : Ret P T 27 [D.str s] [] (D.bool false) [] :=
  have bq0 := beq_eq_false_iff_ne.2 h0
  have bq1 : ((↑(s.data.getD (Int.toNat (0 : Int)) (0 : UInt8)).toNat : Int) != (36 : Int)) = true := bne_iff_ne.2 h1
  have bq2 := decide_eq_false h2
  fin_call nmd_fn nmd_body nmd_name (fr 27 0 (nmd_ok ok zi s) (pth 15 255) (ac (show false = false from rfl) (ac (show false = false from rfl) (ac (show false = false from rfl) (ac (show false = false from rfl) (ac bq2 (ac (kft bq2) (ac (kft bq2) (ac bq1 (ac (ktt bq1) (ac (ktt bq1) (ac (ktt bq1) (ac (nb1 bq0) (ac (ktt (nb1 bq0)) (ac h3 (ac (ktt (nb1 bq0)) (ac (ktt (nb1 bq0)) an)))))))))))))))))

theorem nmd_in_4 {ok : Bool} {zi : Int} {s : ByteArray} (h0 : s.toList ≠ bE.toList) (h1 : (↑(s.data.getD (Int.toNat (0 : Int)) (0 : UInt8)).toNat : Int) = (36 : Int)) (h2 : (0 : Int) ≤ (0 : Int) ∧ (0 : Int) < (↑s.size : Int)) : Ret P T 27 [D.str s] [] (D.bool false) [] :=
  have bq0 := beq_eq_false_iff_ne.2 h0
  have bq1 : ((↑(s.data.getD (Int.toNat (0 : Int)) (0 : UInt8)).toNat : Int) != (36 : Int)) = false := (by rw [bne, Bool.not_eq_false']; exact beq_iff_eq.2 h1)
  fin_call nmd_fn nmd_body nmd_name (fr 27 0 (nmd_ok ok zi s) (pth 15 15) (ac (show false = false from rfl) (ac (show false = false from rfl) (ac (show false = false from rfl) (ac (show false = false from rfl) (ac (show false = false from rfl) (ac (show false = false from rfl) (ac (show false = false from rfl) (ac bq1 (ac (kft bq1) (ac (kft bq1) (ac (kft bq1) (ac (nb1 bq0) (ac (ktt (nb1 bq0)) (ac h2 (ac (ktt (nb1 bq0)) (ac (ktt (nb1 bq0)) an)))))))))))))))))


/-! ### function 21 -/
theorem nmy_fn : Tryd.prog.funcs[(21 : Nat)]? = some (fnAt P 21) := by kernel_rfl
theorem nmy_body : (fnAt P 21).body = some (bodyAt P 21) := by kernel_rfl
theorem nmy_name : ((fnAt P 21).name == "runtime.NumGoroutine") = false := by kernel_rfl
noncomputable def nmy_C (ok : Bool) (zi : Int) (s : ByteArray) : Cf := cfg Tryd.prog (hintOf []) (tNm ok zi s) (fun _ => false) 2 true (fun _ => false)
theorem nmy_ok (ok : Bool) (zi : Int) (s : ByteArray) : CfOk (nmy_C ok zi s) := cfg_ok (by kernel_rfl)
noncomputable def nmy_run (ok : Bool) (zi : Int) (s : ByteArray) (qcur : Cur) (qk : List It) (qs : St) (qor : GD.Or) := runE (nmy_C ok zi s) (callE (nmy_C ok zi s) 100000 10) 21 100000 qcur qk qs qor []
noncomputable def nmy_l0 : Code := (loopAt Tryd.prog 21 0).1
noncomputable def nmy_k0 : List It := (loopAt Tryd.prog 21 0).2
/- loop 0: n3:=(0 : Int); -/
noncomputable def nmy_s0 (ok : Bool) (zi : Int) (s : ByteArray) (n3 : Int) : St := ⟨envOf 21 [(0, D.str s), (3, D.int .i64 n3)], []⟩
def nmy_at0 (ok : Bool) (zi : Int) (s : ByteArray) (n3 : Int) (r : D) (H1 : GD.Heap) : Prop := GD.Fin Tryd.prog (tyOf Tryd.prog) (fnAt P 21) 0 (.code (.loop nmy_l0)) nmy_k0 (nmy_s0 ok zi s n3) r H1

theorem nmy_in_0 {ok : Bool} {zi : Int} {s : ByteArray} {r : D} {H1 : GD.Heap} (g : nmy_at0 ok zi s ((0 : Int)) r H1) : Ret P T 21 [D.str s] [] r H1 :=
  fin_call nmy_fn nmy_body nmy_name (fs (fun _ => false) 21 0 [0, 3] (nmy_ok ok zi s) (pth 0 0) an g)

theorem nmy_0_0 {ok : Bool} {zi : Int} {s : ByteArray} {n3 : Int} (h0 : n3 < (↑s.size : Int)) (h1 : (↑(s.data.getD n3.toNat (0 : UInt8)).toNat : Int) = (0 : Int)) (h2 : (0 : Int) ≤ n3 ∧ n3 < (↑s.size : Int)) : nmy_at0 ok zi s n3 (D.bool false) [] :=
  have bq0 := decide_eq_true h0
  have bq1 := beq_iff_eq.2 h1
  fin_loop (fr 21 0 (nmy_ok ok zi s) (pth 2 3) (ac bq1 (ac h2 (ac bq0 an))))

theorem nmy_0_1 {ok : Bool} {zi : Int} {s : ByteArray} {n3 : Int} {r : D} {H1 : GD.Heap} (h0 : n3 < (↑s.size : Int)) (h1 : (↑(s.data.getD n3.toNat (0 : UInt8)).toNat : Int) ≠ (0 : Int)) (h2 : (0 : Int) ≤ n3 ∧ n3 < (↑s.size : Int)) (g : nmy_at0 ok zi s (IntKind.i64.wrap (n3 + (1 : Int))) r H1) : nmy_at0 ok zi s n3 r H1 :=
  have bq0 := decide_eq_true h0
  have bq1 := beq_eq_false_iff_ne.2 h1
  fin_loop (fs (fun _ => false) 21 0 [0, 3] (nmy_ok ok zi s) (pth 2 1) (ac bq1 (ac h2 (ac bq0 an))) g)

theorem nmy_0_2 {ok : Bool} {zi : Int} {s : ByteArray} {n3 : Int} (h0 : ¬ (n3 < (↑s.size : Int))) (h1 : (↑s.size : Int) ≤ (120 : Int)) (h2 : Ret P T 31 [D.str s] [] (D.bool ok) []) : nmy_at0 ok zi s n3 (D.bool ok) [] :=
  have bq0 := decide_eq_false h0
  have bq1 := decide_eq_true h1
  fin_loop (fr 21 0 (nmy_ok ok zi s) (pth 4 14) (ac bq1 (ac h2 (ac (ktt bq1) (ac (ktt bq1) (ac bq0 an))))))

theorem nmy_0_3 {ok : Bool} {zi : Int} {s : ByteArray} {n3 : Int} (h0 : ¬ (n3 < (↑s.size : Int))) (h1 : ¬ ((↑s.size : Int) ≤ (120 : Int))) : nmy_at0 ok zi s n3 (D.bool false) [] :=
  have bq0 := decide_eq_false h0
  have bq1 := decide_eq_false h1
  fin_loop (fr 21 0 (nmy_ok ok zi s) (pth 4 0) (ac bq1 (ac (kft bq1) (ac (kft bq1) (ac bq0 an)))))


/-! ### function 12 -/
theorem txs_fn : Tryd.prog.funcs[(12 : Nat)]? = some (fnAt P 12) := by kernel_rfl
theorem txs_body : (fnAt P 12).body = some (bodyAt P 12) := by kernel_rfl
theorem txs_name : ((fnAt P 12).name == "runtime.NumGoroutine") = false := by kernel_rfl
noncomputable def txs_C (xa : Bool) (ea : Es) (xb : Bool) (eb : Es) (s6_2 s6_6 : ByteArray) : Cf := cfg Tryd.prog (hintOf [((12 : Nat), (6 : Nat), (2 : Nat), Hint.c [D.str s6_2]), ((12 : Nat), (6 : Nat), (6 : Nat), Hint.c [D.str s6_6])]) (tTx xa ea xb eb) (fun _ => false) 2 true (fun z => Nat.beq 1 z)
theorem txs_ok (xa : Bool) (ea : Es) (xb : Bool) (eb : Es) (s6_2 s6_6 : ByteArray) : CfOk (txs_C xa ea xb eb s6_2 s6_6) := cfg_ok (by kernel_rfl)
noncomputable def txs_run (xa : Bool) (ea : Es) (xb : Bool) (eb : Es) (s6_2 s6_6 : ByteArray) (qcur : Cur) (qk : List It) (qs : St) (qor : GD.Or) := runE (txs_C xa ea xb eb s6_2 s6_6) (callE (txs_C xa ea xb eb s6_2 s6_6) 100000 10) 12 100000 qcur qk qs qor []
noncomputable def txs_l0 : Code := (loopAt Tryd.prog 12 0).1
noncomputable def txs_k0 : List It := (loopAt Tryd.prog 12 0).2
/- loop 0: n5:=(0 : Int); -/
noncomputable def txs_s0 (xa : Bool) (ea : Es) (xb : Bool) (eb : Es) (n5 : Int) : St := ⟨envOf 26 [(0, D.slice xa ea none), (1, D.slice xb eb none), (5, D.int .i64 n5)], []⟩
def txs_at0 (xa : Bool) (ea : Es) (xb : Bool) (eb : Es) (n5 : Int) (r : D) (H1 : GD.Heap) : Prop := GD.Fin Tryd.prog (tyOf Tryd.prog) (fnAt P 12) 0 (.code (.loop txs_l0)) txs_k0 (txs_s0 xa ea xb eb n5) r H1

theorem txs_in_0 {xa : Bool} {ea : Es} {xb : Bool} {eb : Es} (h0 : (↑(List.length ea) : Int) ≠ (↑(List.length eb) : Int)) : Ret P T 12 [D.slice xa ea none, D.slice xb eb none] [] (D.bool false) [] :=
  have bq0 : ((↑(List.length ea) : Int) != (↑(List.length eb) : Int)) = true := bne_iff_ne.2 h0
  fin_call txs_fn txs_body txs_name (fr 12 0 (txs_ok xa ea xb eb bE bE) (pth 1 1) (ac bq0 an))

theorem txs_in_1 {xa : Bool} {ea : Es} {xb : Bool} {eb : Es} {r : D} {H1 : GD.Heap} (h0 : (↑(List.length ea) : Int) = (↑(List.length eb) : Int)) (g : txs_at0 xa ea xb eb ((0 : Int)) r H1) : Ret P T 12 [D.slice xa ea none, D.slice xb eb none] [] r H1 :=
  have bq0 : ((↑(List.length ea) : Int) != (↑(List.length eb) : Int)) = false := (by rw [bne, Bool.not_eq_false']; exact beq_iff_eq.2 h0)
  fin_call txs_fn txs_body txs_name (fs (fun z => Nat.beq 1 z) 12 0 [0, 1, 5] (txs_ok xa ea xb eb bE bE) (pth 1 0) (ac bq0 an) g)

theorem txs_0_0 {xa : Bool} {ea : Es} {xb : Bool} {eb : Es} {n5 : Int} {s6_2 s6_6 : ByteArray} {r : D} {H1 : GD.Heap} (h0 : n5 < (↑(List.length ea) : Int)) (h1 : s6_2.toList = s6_6.toList) (h2 : (0 : Int) ≤ n5) (h3 : eb[n5.toNat]? = some [D.str s6_6]) (h4 : ea[n5.toNat]? = some [D.str s6_2]) (g : txs_at0 xa ea xb eb (IntKind.i64.wrap (n5 + (1 : Int))) r H1) : txs_at0 xa ea xb eb n5 r H1 :=
  have bq0 := decide_eq_true h0
  have bq1 := beq_iff_eq.2 h1
  fin_loop (fs (fun z => Nat.beq 1 z) 12 0 [0, 1, 5] (txs_ok xa ea xb eb s6_2 s6_6) (pth 2 1) (ac (nb0 bq1) (ac h2 (ac h3 (ac h2 (ac h4 (ac bq0 an)))))) g)

theorem txs_0_1 {xa : Bool} {ea : Es} {xb : Bool} {eb : Es} {n5 : Int} {s6_2 s6_6 : ByteArray} (h0 : n5 < (↑(List.length ea) : Int)) (h1 : s6_2.toList ≠ s6_6.toList) (h2 : (0 : Int) ≤ n5) (h3 : eb[n5.toNat]? = some [D.str s6_6]) (h4 : ea[n5.toNat]? = some [D.str s6_2]) : txs_at0 xa ea xb eb n5 (D.bool false) [] :=
  have bq0 := decide_eq_true h0
  have bq1 := beq_eq_false_iff_ne.2 h1
  fin_loop (fr 12 0 (txs_ok xa ea xb eb s6_2 s6_6) (pth 2 3) (ac (nb1 bq1) (ac h2 (ac h3 (ac h2 (ac h4 (ac bq0 an)))))))

theorem txs_0_2 {xa : Bool} {ea : Es} {xb : Bool} {eb : Es} {n5 : Int} (h0 : ¬ (n5 < (↑(List.length ea) : Int))) : txs_at0 xa ea xb eb n5 (D.bool true) [] :=
  have bq0 := decide_eq_false h0
  fin_loop (fr 12 0 (txs_ok xa ea xb eb bE bE) (pth 1 0) (ac bq0 an))


/-! ### function 10 -/
theorem prs_fn : Tryd.prog.funcs[(10 : Nat)]? = some (fnAt P 10) := by kernel_rfl
theorem prs_body : (fnAt P 10).body = some (bodyAt P 10) := by kernel_rfl
theorem prs_name : ((fnAt P 10).name == "runtime.NumGoroutine") = false := by kernel_rfl
noncomputable def prs_C (xl : Bool) (es : Es) (nm : ByteArray → Bool) (s s6_0 : ByteArray) : Cf := cfg Tryd.prog (hintOf [((10 : Nat), (6 : Nat), (0 : Nat), Hint.c [D.str s6_0])]) (tPa xl es nm s) (fun _ => false) 2 true (fun z => Nat.beq 1 z)
theorem prs_ok (xl : Bool) (es : Es) (nm : ByteArray → Bool) (s s6_0 : ByteArray) : CfOk (prs_C xl es nm s s6_0) := cfg_ok (by kernel_rfl)
noncomputable def prs_run (xl : Bool) (es : Es) (nm : ByteArray → Bool) (s s6_0 : ByteArray) (qcur : Cur) (qk : List It) (qs : St) (qor : GD.Or) := runE (prs_C xl es nm s s6_0) (callE (prs_C xl es nm s s6_0) 100000 10) 10 100000 qcur qk qs qor []
noncomputable def prs_l0 : Code := (loopAt Tryd.prog 10 0).1
noncomputable def prs_k0 : List It := (loopAt Tryd.prog 10 0).2
/- loop 0: n14:=(0 : Int); -/
noncomputable def prs_s0 (xl : Bool) (es : Es) (nm : ByteArray → Bool) (s : ByteArray) (n14 : Int) : St := ⟨envOf 23 [(4, D.slice xl es none), (12, D.slice xl es none), (13, D.int .i64 (↑(List.length es) : Int)), (14, D.int .i64 n14)], []⟩
def prs_at0 (xl : Bool) (es : Es) (nm : ByteArray → Bool) (s : ByteArray) (n14 : Int) (r : D) (H1 : GD.Heap) : Prop := GD.Fin Tryd.prog (tyOf Tryd.prog) (fnAt P 10) 0 (.code (.loop prs_l0)) prs_k0 (prs_s0 xl es nm s n14) r H1

theorem prs_in_0 {xl : Bool} {es : Es} {nm : ByteArray → Bool} {s : ByteArray} (h0 : (↑(List.length es) : Int) > (16 : Int)) (h1 : Ret P T 26 [D.str s, D.str (ByteArray.mk #[(46 : UInt8)])] [] (D.slice xl es none) []) : Ret P T 10 [D.str s] [] (D.tuple [D.slice false [] none, D.bool false]) [] :=
  have bq0 := decide_eq_true h0
  fin_call prs_fn prs_body prs_name (fr 10 0 (prs_ok xl es nm s bE) (pth 1 1) (ac bq0 (ac h1 an)))

theorem prs_in_1 {xl : Bool} {es : Es} {nm : ByteArray → Bool} {s : ByteArray} {r : D} {H1 : GD.Heap} (h0 : ¬ ((↑(List.length es) : Int) > (16 : Int))) (h1 : Ret P T 26 [D.str s, D.str (ByteArray.mk #[(46 : UInt8)])] [] (D.slice xl es none) []) (g : prs_at0 xl es nm s ((0 : Int)) r H1) : Ret P T 10 [D.str s] [] r H1 :=
  have bq0 := decide_eq_false h0
  fin_call prs_fn prs_body prs_name (fs (fun z => Nat.beq 1 z) 10 0 [4, 12, 13, 14] (prs_ok xl es nm s bE) (pth 1 0) (ac bq0 (ac h1 an)) g)

theorem prs_0_0 {xl : Bool} {es : Es} {nm : ByteArray → Bool} {s : ByteArray} {n14 : Int} {s6_0 : ByteArray} {r : D} {H1 : GD.Heap} (h0 : n14 < (↑(List.length es) : Int)) (h1 : nm s6_0 = true) (h2 : Ret P T 27 [D.str s6_0] [] (D.bool (nm s6_0)) []) (h3 : (0 : Int) ≤ n14) (h4 : es[n14.toNat]? = some [D.str s6_0]) (g : prs_at0 xl es nm s (IntKind.i64.wrap (n14 + (1 : Int))) r H1) : prs_at0 xl es nm s n14 r H1 :=
  have bq0 := decide_eq_true h0
  have bq1 := h1
  fin_loop (fs (fun z => Nat.beq 1 z) 10 0 [4, 12, 13, 14] (prs_ok xl es nm s s6_0) (pth 2 1) (ac (nb0 bq1) (ac h2 (ac h3 (ac h4 (ac bq0 an))))) g)

theorem prs_0_1 {xl : Bool} {es : Es} {nm : ByteArray → Bool} {s : ByteArray} {n14 : Int} {s6_0 : ByteArray} (h0 : n14 < (↑(List.length es) : Int)) (h1 : nm s6_0 = false) (h2 : Ret P T 27 [D.str s6_0] [] (D.bool (nm s6_0)) []) (h3 : (0 : Int) ≤ n14) (h4 : es[n14.toNat]? = some [D.str s6_0]) : prs_at0 xl es nm s n14 (D.tuple [D.slice false [] none, D.bool false]) [] :=
  have bq0 := decide_eq_true h0
  have bq1 := h1
  fin_loop (fr 10 0 (prs_ok xl es nm s s6_0) (pth 2 3) (ac (nb1 bq1) (ac h2 (ac h3 (ac h4 (ac bq0 an))))))

theorem prs_0_2 {xl : Bool} {es : Es} {nm : ByteArray → Bool} {s : ByteArray} {n14 : Int} (h0 : ¬ (n14 < (↑(List.length es) : Int))) : prs_at0 xl es nm s n14 (D.tuple [D.slice xl es none, D.bool true]) [] :=
  have bq0 := decide_eq_false h0
  fin_loop (fr 10 0 (prs_ok xl es nm s bE) (pth 1 0) (ac bq0 an))


/-! ### function 11 -/
theorem ppt_fn : Tryd.prog.funcs[(11 : Nat)]? = some (fnAt P 11) := by kernel_rfl
theorem ppt_body : (fnAt P 11).body = some (bodyAt P 11) := by kernel_rfl
theorem ppt_name : ((fnAt P 11).name == "runtime.NumGoroutine") = false := by kernel_rfl
noncomputable def ppt_C (xl : Bool) (es : Es) (nm : ByteArray → Bool) (s : ByteArray) : Cf := cfg Tryd.prog (hintOf [((11 : Nat), (10 : Nat), (2 : Nat), Hint.tok)]) (tPa xl es nm s) (fun _ => false) 2 true (fun _ => false)
theorem ppt_ok (xl : Bool) (es : Es) (nm : ByteArray → Bool) (s : ByteArray) : CfOk (ppt_C xl es nm s) := cfg_ok (by kernel_rfl)
noncomputable def ppt_run (xl : Bool) (es : Es) (nm : ByteArray → Bool) (s : ByteArray) (qcur : Cur) (qk : List It) (qs : St) (qor : GD.Or) := runE (ppt_C xl es nm s) (callE (ppt_C xl es nm s) 100000 10) 11 100000 qcur qk qs qor []
noncomputable def ppt_l0 : Code := (loopAt Tryd.prog 11 0).1
noncomputable def ppt_k0 : List It := (loopAt Tryd.prog 11 0).2
/- loop 0: x4:=false; e4:=[]; n5:=(0 : Int); n6:=(0 : Int); kh:=(0 : Nat); -/
noncomputable def ppt_s0 (xl : Bool) (es : Es) (nm : ByteArray → Bool) (s : ByteArray) (x4 : Bool) (e4 : List (List D)) (n5 n6 : Int) (kh : Nat) : St := ⟨envOf 52 [(0, D.str s), (4, D.slice x4 e4 (some 0)), (5, D.int .i64 n5), (6, D.int .i64 n6)], [some (HObj.tok kh (1 : Nat))]⟩
def ppt_at0 (xl : Bool) (es : Es) (nm : ByteArray → Bool) (s : ByteArray) (x4 : Bool) (e4 : List (List D)) (n5 n6 : Int) (kh : Nat) (r : D) (H1 : GD.Heap) : Prop := GD.Fin Tryd.prog (tyOf Tryd.prog) (fnAt P 11) 0 (.code (.loop ppt_l0)) ppt_k0 (ppt_s0 xl es nm s x4 e4 n5 n6 kh) r H1

theorem ppt_in_0 {xl : Bool} {es : Es} {nm : ByteArray → Bool} {s : ByteArray} {r : D} {H1 : GD.Heap} (g : ppt_at0 xl es nm s (false) ([]) ((0 : Int)) ((0 : Int)) ((0 : Nat)) r H1) : Ret P T 11 [D.str s] [] r H1 :=
  fin_call ppt_fn ppt_body ppt_name (fst (fun _ => false) 11 0 [0, 4, 5, 6] (ppt_ok xl es nm s) (pth 0 0) an ((ppt_s0 xl es nm s (false) ([]) ((0 : Int)) ((0 : Int)) ((0 : Nat))).env.set 4 (.slice false [] none)) ((ppt_s0 xl es nm s (false) ([]) ((0 : Int)) ((0 : Int)) ((0 : Nat))).H.take 0) (fin_toks [(4, 1)] (by kernel_rfl) (by kernel_rfl) g))

theorem ppt_0_0 {xl : Bool} {es : Es} {nm : ByteArray → Bool} {s : ByteArray} {x4 : Bool} {e4 : List (List D)} {n5 n6 : Int} {kh : Nat} {r : D} {H1 : GD.Heap} (h0 : n6 ≤ (↑s.size : Int)) (h1 : n6 < (↑s.size : Int)) (h2 : (↑(s.data.getD n6.toNat (0 : UInt8)).toNat : Int) ≠ (46 : Int)) (h3 : (0 : Int) ≤ n6 ∧ n6 < (↑s.size : Int)) (g : ppt_at0 xl es nm s (x4) (e4) (n5) (IntKind.i64.wrap (n6 + (1 : Int))) (kh) r H1) : ppt_at0 xl es nm s x4 e4 n5 n6 kh r H1 :=
  have bq0 := decide_eq_true h0
  have bq1 := decide_eq_true h1
  have bq2 : ((↑(s.data.getD n6.toNat (0 : UInt8)).toNat : Int) != (46 : Int)) = true := bne_iff_ne.2 h2
  fin_loop (fs (fun _ => false) 11 1 [0, 4, 5, 6] (ppt_ok xl es nm s) (pth 7 127) (ac bq2 (ac bq1 (ac (ktt bq1) (ac h3 (ac (ktt bq1) (ac (ktt bq1) (ac (ktt bq1) (ac bq0 an)))))))) g)

theorem ppt_0_1 {xl : Bool} {es : Es} {nm : ByteArray → Bool} {s : ByteArray} {x4 : Bool} {e4 : List (List D)} {n5 n6 : Int} {kh : Nat} (h0 : n6 ≤ (↑s.size : Int)) (h1 : n6 < (↑s.size : Int)) (h2 : (↑(s.data.getD n6.toNat (0 : UInt8)).toNat : Int) = (46 : Int)) (h3 : (s.extract n5.toNat n6.toNat).toList = bE.toList) (h4 : (0 : Int) ≤ n5 ∧ n5 ≤ n6 ∧ n6 ≤ (↑s.size : Int)) (h5 : (0 : Int) ≤ n6 ∧ n6 < (↑s.size : Int)) : ppt_at0 xl es nm s x4 e4 n5 n6 kh (D.tuple [D.slice false [] none, D.bool false]) [] :=
  have bq0 := decide_eq_true h0
  have bq1 := decide_eq_true h1
  have bq2 : ((↑(s.data.getD n6.toNat (0 : UInt8)).toNat : Int) != (46 : Int)) = false := (by rw [bne, Bool.not_eq_false']; exact beq_iff_eq.2 h2)
  have bq3 := beq_iff_eq.2 h3
  fin_loop (fr 11 0 (ppt_ok xl es nm s) (pth 20 803903) (ac tru (ac tru (ac (show false = false from rfl) (ac (show false = false from rfl) (ac (show false = false from rfl) (ac tru (ac (show false = false from rfl) (ac (show false = false from rfl) (ac (show false = false from rfl) (ac bq3 (ac (ktf bq3) (ac (ktf bq3) (ac (ktf bq3) (ac h4 (ac bq2 (ac bq1 (ac (ktt bq1) (ac h5 (ac (ktt bq1) (ac (ktt bq1) (ac (ktt bq1) (ac bq0 an)))))))))))))))))))))))

theorem ppt_0_2 {xl : Bool} {es : Es} {nm : ByteArray → Bool} {s : ByteArray} {x4 : Bool} {e4 : List (List D)} {n5 n6 : Int} {kh : Nat} (h0 : n6 ≤ (↑s.size : Int)) (h1 : n6 < (↑s.size : Int)) (h2 : (↑(s.data.getD n6.toNat (0 : UInt8)).toNat : Int) = (46 : Int)) (h3 : (s.extract n5.toNat n6.toNat).toList ≠ bE.toList) (h4 : (↑((s.extract n5.toNat n6.toNat).data.getD (Int.toNat (0 : Int)) (0 : UInt8)).toNat : Int) = (36 : Int)) (h5 : (0 : Int) ≤ (0 : Int) ∧ (0 : Int) < (↑(s.extract n5.toNat n6.toNat).size : Int)) (h6 : (0 : Int) ≤ n5 ∧ n5 ≤ n6 ∧ n6 ≤ (↑s.size : Int)) (h7 : (0 : Int) ≤ n6 ∧ n6 < (↑s.size : Int)) : ppt_at0 xl es nm s x4 e4 n5 n6 kh (D.tuple [D.slice false [] none, D.bool false]) [] :=
  have bq0 := decide_eq_true h0
  have bq1 := decide_eq_true h1
  have bq2 : ((↑(s.data.getD n6.toNat (0 : UInt8)).toNat : Int) != (46 : Int)) = false := (by rw [bne, Bool.not_eq_false']; exact beq_iff_eq.2 h2)
  have bq3 := beq_eq_false_iff_ne.2 h3
  have bq4 := beq_iff_eq.2 h4
  fin_loop (fr 11 0 (ppt_ok xl es nm s) (pth 20 803775) (ac tru (ac tru (ac (show false = false from rfl) (ac (show false = false from rfl) (ac (show false = false from rfl) (ac bq4 (ac (ktf bq4) (ac (ktf bq4) (ac (ktf bq4) (ac bq3 (ac (kff bq3) (ac h5 (ac (kff bq3) (ac (kff bq3) (ac h6 (ac bq2 (ac bq1 (ac (ktt bq1) (ac h7 (ac (ktt bq1) (ac (ktt bq1) (ac (ktt bq1) (ac bq0 an))))))))))))))))))))))))

theorem ppt_0_3 {xl : Bool} {es : Es} {nm : ByteArray → Bool} {s : ByteArray} {x4 : Bool} {e4 : List (List D)} {n5 n6 : Int} {kh : Nat} (h0 : n6 ≤ (↑s.size : Int)) (h1 : n6 < (↑s.size : Int)) (h2 : (↑(s.data.getD n6.toNat (0 : UInt8)).toNat : Int) = (46 : Int)) (h3 : (s.extract n5.toNat n6.toNat).toList ≠ bE.toList) (h4 : (↑((s.extract n5.toNat n6.toNat).data.getD (Int.toNat (0 : Int)) (0 : UInt8)).toNat : Int) ≠ (36 : Int)) (h5 : nm (s.extract n5.toNat n6.toNat) = true) (h6 : (↑e4.length : Int) ≥ (16 : Int)) (h7 : Ret P T 21 [D.str (s.extract n5.toNat n6.toNat)] [] (D.bool (nm (s.extract n5.toNat n6.toNat))) []) (h8 : (0 : Int) ≤ (0 : Int) ∧ (0 : Int) < (↑(s.extract n5.toNat n6.toNat).size : Int)) (h9 : (0 : Int) ≤ n5 ∧ n5 ≤ n6 ∧ n6 ≤ (↑s.size : Int)) (h10 : (0 : Int) ≤ n6 ∧ n6 < (↑s.size : Int)) : ppt_at0 xl es nm s x4 e4 n5 n6 kh (D.tuple [D.slice false [] none, D.bool false]) [] :=
  have bq0 := decide_eq_true h0
  have bq1 := decide_eq_true h1
  have bq2 : ((↑(s.data.getD n6.toNat (0 : UInt8)).toNat : Int) != (46 : Int)) = false := (by rw [bne, Bool.not_eq_false']; exact beq_iff_eq.2 h2)
  have bq3 := beq_eq_false_iff_ne.2 h3
  have bq4 := beq_eq_false_iff_ne.2 h4
  have bq5 := h5
  have bq6 := decide_eq_true h6
  fin_loop (fr 11 0 (ppt_ok xl es nm s) (pth 20 768959) (ac bq6 (ac (nb0 bq5) (ac (kff (nb0 bq5)) (ac (kff (nb0 bq5)) (ac (kff (nb0 bq5)) (ac bq4 (ac (kff bq4) (ac h7 (ac (kff bq4) (ac (kff bq4) (ac bq3 (ac (kff bq3) (ac h8 (ac (kff bq3) (ac (kff bq3) (ac h9 (ac bq2 (ac bq1 (ac (ktt bq1) (ac h10 (ac (ktt bq1) (ac (ktt bq1) (ac (ktt bq1) (ac bq0 an)))))))))))))))))))))))))

theorem ppt_0_4 {xl : Bool} {es : Es} {nm : ByteArray → Bool} {s : ByteArray} {x4 : Bool} {e4 : List (List D)} {n5 n6 : Int} {kh : Nat} {r : D} {H1 : GD.Heap} (h0 : n6 ≤ (↑s.size : Int)) (h1 : n6 < (↑s.size : Int)) (h2 : (↑(s.data.getD n6.toNat (0 : UInt8)).toNat : Int) = (46 : Int)) (h3 : (s.extract n5.toNat n6.toNat).toList ≠ bE.toList) (h4 : (↑((s.extract n5.toNat n6.toNat).data.getD (Int.toNat (0 : Int)) (0 : UInt8)).toNat : Int) ≠ (36 : Int)) (h5 : nm (s.extract n5.toNat n6.toNat) = true) (h6 : ¬ ((↑e4.length : Int) ≥ (16 : Int))) (h7 : e4.length = kh ∧ (e4.length + (1 : Nat)) * (16 : Nat) ≤ (140737488355328 : Nat) ∧ true = true) (h8 : Ret P T 21 [D.str (s.extract n5.toNat n6.toNat)] [] (D.bool (nm (s.extract n5.toNat n6.toNat))) []) (h9 : (0 : Int) ≤ (0 : Int) ∧ (0 : Int) < (↑(s.extract n5.toNat n6.toNat).size : Int)) (h10 : (0 : Int) ≤ n5 ∧ n5 ≤ n6 ∧ n6 ≤ (↑s.size : Int)) (h11 : (0 : Int) ≤ n6 ∧ n6 < (↑s.size : Int)) (g : ppt_at0 xl es nm s (x4 || true) (e4 ++ [[D.str (s.extract n5.toNat n6.toNat)]]) (IntKind.i64.wrap (n6 + (1 : Int))) (IntKind.i64.wrap (n6 + (1 : Int))) (kh + (1 : Nat)) r H1) : ppt_at0 xl es nm s x4 e4 n5 n6 kh r H1 :=
  have bq0 := decide_eq_true h0
  have bq1 := decide_eq_true h1
  have bq2 : ((↑(s.data.getD n6.toNat (0 : UInt8)).toNat : Int) != (46 : Int)) = false := (by rw [bne, Bool.not_eq_false']; exact beq_iff_eq.2 h2)
  have bq3 := beq_eq_false_iff_ne.2 h3
  have bq4 := beq_eq_false_iff_ne.2 h4
  have bq5 := h5
  have bq6 := decide_eq_false h6
  fin_loop (fs (fun _ => false) 11 1 [0, 4, 5, 6] (ppt_ok xl es nm s) (pth 20 244671) (ac h7 (ac bq6 (ac (nb0 bq5) (ac (kff (nb0 bq5)) (ac (kff (nb0 bq5)) (ac (kff (nb0 bq5)) (ac bq4 (ac (kff bq4) (ac h8 (ac (kff bq4) (ac (kff bq4) (ac bq3 (ac (kff bq3) (ac h9 (ac (kff bq3) (ac (kff bq3) (ac h10 (ac bq2 (ac bq1 (ac (ktt bq1) (ac h11 (ac (ktt bq1) (ac (ktt bq1) (ac (ktt bq1) (ac bq0 an))))))))))))))))))))))))) g)

theorem ppt_0_5 {xl : Bool} {es : Es} {nm : ByteArray → Bool} {s : ByteArray} {x4 : Bool} {e4 : List (List D)} {n5 n6 : Int} {kh : Nat} (h0 : n6 ≤ (↑s.size : Int)) (h1 : n6 < (↑s.size : Int)) (h2 : (↑(s.data.getD n6.toNat (0 : UInt8)).toNat : Int) = (46 : Int)) (h3 : (s.extract n5.toNat n6.toNat).toList ≠ bE.toList) (h4 : (↑((s.extract n5.toNat n6.toNat).data.getD (Int.toNat (0 : Int)) (0 : UInt8)).toNat : Int) ≠ (36 : Int)) (h5 : nm (s.extract n5.toNat n6.toNat) = false) (h6 : Ret P T 21 [D.str (s.extract n5.toNat n6.toNat)] [] (D.bool (nm (s.extract n5.toNat n6.toNat))) []) (h7 : (0 : Int) ≤ (0 : Int) ∧ (0 : Int) < (↑(s.extract n5.toNat n6.toNat).size : Int)) (h8 : (0 : Int) ≤ n5 ∧ n5 ≤ n6 ∧ n6 ≤ (↑s.size : Int)) (h9 : (0 : Int) ≤ n6 ∧ n6 < (↑s.size : Int)) : ppt_at0 xl es nm s x4 e4 n5 n6 kh (D.tuple [D.slice false [] none, D.bool false]) [] :=
  have bq0 := decide_eq_true h0
  have bq1 := decide_eq_true h1
  have bq2 : ((↑(s.data.getD n6.toNat (0 : UInt8)).toNat : Int) != (46 : Int)) = false := (by rw [bne, Bool.not_eq_false']; exact beq_iff_eq.2 h2)
  have bq3 := beq_eq_false_iff_ne.2 h3
  have bq4 := beq_eq_false_iff_ne.2 h4
  have bq5 := h5
  fin_loop (fr 11 0 (ppt_ok xl es nm s) (pth 20 801727) (ac tru (ac (nb1 bq5) (ac (ktf (nb1 bq5)) (ac (ktf (nb1 bq5)) (ac (ktf (nb1 bq5)) (ac bq4 (ac (kff bq4) (ac h6 (ac (kff bq4) (ac (kff bq4) (ac bq3 (ac (kff bq3) (ac h7 (ac (kff bq3) (ac (kff bq3) (ac h8 (ac bq2 (ac bq1 (ac (ktt bq1) (ac h9 (ac (ktt bq1) (ac (ktt bq1) (ac (ktt bq1) (ac bq0 an)))))))))))))))))))))))))

theorem ppt_0_6 {xl : Bool} {es : Es} {nm : ByteArray → Bool} {s : ByteArray} {x4 : Bool} {e4 : List (List D)} {n5 n6 : Int} {kh : Nat} (h0 : n6 ≤ (↑s.size : Int)) (h1 : ¬ (n6 < (↑s.size : Int))) (h2 : (s.extract n5.toNat n6.toNat).toList = bE.toList) (h3 : (0 : Int) ≤ n5 ∧ n5 ≤ n6 ∧ n6 ≤ (↑s.size : Int)) : ppt_at0 xl es nm s x4 e4 n5 n6 kh (D.tuple [D.slice false [] none, D.bool false]) [] :=
  have bq0 := decide_eq_true h0
  have bq1 := decide_eq_false h1
  have bq2 := beq_iff_eq.2 h2
  fin_loop (fr 11 0 (ppt_ok xl es nm s) (pth 20 803841) (ac tru (ac tru (ac (show false = false from rfl) (ac (show false = false from rfl) (ac (show false = false from rfl) (ac tru (ac (show false = false from rfl) (ac (show false = false from rfl) (ac (show false = false from rfl) (ac bq2 (ac (ktf bq2) (ac (ktf bq2) (ac (ktf bq2) (ac h3 (ac (show false = false from rfl) (ac bq1 (ac (kft bq1) (ac (kft bq1) (ac (kft bq1) (ac (kft bq1) (ac bq0 an))))))))))))))))))))))

theorem ppt_0_7 {xl : Bool} {es : Es} {nm : ByteArray → Bool} {s : ByteArray} {x4 : Bool} {e4 : List (List D)} {n5 n6 : Int} {kh : Nat} (h0 : n6 ≤ (↑s.size : Int)) (h1 : ¬ (n6 < (↑s.size : Int))) (h2 : (s.extract n5.toNat n6.toNat).toList ≠ bE.toList) (h3 : (↑((s.extract n5.toNat n6.toNat).data.getD (Int.toNat (0 : Int)) (0 : UInt8)).toNat : Int) = (36 : Int)) (h4 : (0 : Int) ≤ (0 : Int) ∧ (0 : Int) < (↑(s.extract n5.toNat n6.toNat).size : Int)) (h5 : (0 : Int) ≤ n5 ∧ n5 ≤ n6 ∧ n6 ≤ (↑s.size : Int)) : ppt_at0 xl es nm s x4 e4 n5 n6 kh (D.tuple [D.slice false [] none, D.bool false]) [] :=
  have bq0 := decide_eq_true h0
  have bq1 := decide_eq_false h1
  have bq2 := beq_eq_false_iff_ne.2 h2
  have bq3 := beq_iff_eq.2 h3
  fin_loop (fr 11 0 (ppt_ok xl es nm s) (pth 20 803713) (ac tru (ac tru (ac (show false = false from rfl) (ac (show false = false from rfl) (ac (show false = false from rfl) (ac bq3 (ac (ktf bq3) (ac (ktf bq3) (ac (ktf bq3) (ac bq2 (ac (kff bq2) (ac h4 (ac (kff bq2) (ac (kff bq2) (ac h5 (ac (show false = false from rfl) (ac bq1 (ac (kft bq1) (ac (kft bq1) (ac (kft bq1) (ac (kft bq1) (ac bq0 an)))))))))))))))))))))))

theorem ppt_0_8 {xl : Bool} {es : Es} {nm : ByteArray → Bool} {s : ByteArray} {x4 : Bool} {e4 : List (List D)} {n5 n6 : Int} {kh : Nat} (h0 : n6 ≤ (↑s.size : Int)) (h1 : ¬ (n6 < (↑s.size : Int))) (h2 : (s.extract n5.toNat n6.toNat).toList ≠ bE.toList) (h3 : (↑((s.extract n5.toNat n6.toNat).data.getD (Int.toNat (0 : Int)) (0 : UInt8)).toNat : Int) ≠ (36 : Int)) (h4 : nm (s.extract n5.toNat n6.toNat) = true) (h5 : (↑e4.length : Int) ≥ (16 : Int)) (h6 : Ret P T 21 [D.str (s.extract n5.toNat n6.toNat)] [] (D.bool (nm (s.extract n5.toNat n6.toNat))) []) (h7 : (0 : Int) ≤ (0 : Int) ∧ (0 : Int) < (↑(s.extract n5.toNat n6.toNat).size : Int)) (h8 : (0 : Int) ≤ n5 ∧ n5 ≤ n6 ∧ n6 ≤ (↑s.size : Int)) : ppt_at0 xl es nm s x4 e4 n5 n6 kh (D.tuple [D.slice false [] none, D.bool false]) [] :=
  have bq0 := decide_eq_true h0
  have bq1 := decide_eq_false h1
  have bq2 := beq_eq_false_iff_ne.2 h2
  have bq3 := beq_eq_false_iff_ne.2 h3
  have bq4 := h4
  have bq5 := decide_eq_true h5
  fin_loop (fr 11 0 (ppt_ok xl es nm s) (pth 20 768897) (ac bq5 (ac (nb0 bq4) (ac (kff (nb0 bq4)) (ac (kff (nb0 bq4)) (ac (kff (nb0 bq4)) (ac bq3 (ac (kff bq3) (ac h6 (ac (kff bq3) (ac (kff bq3) (ac bq2 (ac (kff bq2) (ac h7 (ac (kff bq2) (ac (kff bq2) (ac h8 (ac (show false = false from rfl) (ac bq1 (ac (kft bq1) (ac (kft bq1) (ac (kft bq1) (ac (kft bq1) (ac bq0 an))))))))))))))))))))))))

theorem ppt_0_9 {xl : Bool} {es : Es} {nm : ByteArray → Bool} {s : ByteArray} {x4 : Bool} {e4 : List (List D)} {n5 n6 : Int} {kh : Nat} {r : D} {H1 : GD.Heap} (h0 : n6 ≤ (↑s.size : Int)) (h1 : ¬ (n6 < (↑s.size : Int))) (h2 : (s.extract n5.toNat n6.toNat).toList ≠ bE.toList) (h3 : (↑((s.extract n5.toNat n6.toNat).data.getD (Int.toNat (0 : Int)) (0 : UInt8)).toNat : Int) ≠ (36 : Int)) (h4 : nm (s.extract n5.toNat n6.toNat) = true) (h5 : ¬ ((↑e4.length : Int) ≥ (16 : Int))) (h6 : e4.length = kh ∧ (e4.length + (1 : Nat)) * (16 : Nat) ≤ (140737488355328 : Nat) ∧ true = true) (h7 : Ret P T 21 [D.str (s.extract n5.toNat n6.toNat)] [] (D.bool (nm (s.extract n5.toNat n6.toNat))) []) (h8 : (0 : Int) ≤ (0 : Int) ∧ (0 : Int) < (↑(s.extract n5.toNat n6.toNat).size : Int)) (h9 : (0 : Int) ≤ n5 ∧ n5 ≤ n6 ∧ n6 ≤ (↑s.size : Int)) (g : ppt_at0 xl es nm s (x4 || true) (e4 ++ [[D.str (s.extract n5.toNat n6.toNat)]]) (IntKind.i64.wrap (n6 + (1 : Int))) (IntKind.i64.wrap (n6 + (1 : Int))) (kh + (1 : Nat)) r H1) : ppt_at0 xl es nm s x4 e4 n5 n6 kh r H1 :=
  have bq0 := decide_eq_true h0
  have bq1 := decide_eq_false h1
  have bq2 := beq_eq_false_iff_ne.2 h2
  have bq3 := beq_eq_false_iff_ne.2 h3
  have bq4 := h4
  have bq5 := decide_eq_false h5
  fin_loop (fs (fun _ => false) 11 1 [0, 4, 5, 6] (ppt_ok xl es nm s) (pth 20 244609) (ac h6 (ac bq5 (ac (nb0 bq4) (ac (kff (nb0 bq4)) (ac (kff (nb0 bq4)) (ac (kff (nb0 bq4)) (ac bq3 (ac (kff bq3) (ac h7 (ac (kff bq3) (ac (kff bq3) (ac bq2 (ac (kff bq2) (ac h8 (ac (kff bq2) (ac (kff bq2) (ac h9 (ac (show false = false from rfl) (ac bq1 (ac (kft bq1) (ac (kft bq1) (ac (kft bq1) (ac (kft bq1) (ac bq0 an)))))))))))))))))))))))) g)

theorem ppt_0_10 {xl : Bool} {es : Es} {nm : ByteArray → Bool} {s : ByteArray} {x4 : Bool} {e4 : List (List D)} {n5 n6 : Int} {kh : Nat} (h0 : n6 ≤ (↑s.size : Int)) (h1 : ¬ (n6 < (↑s.size : Int))) (h2 : (s.extract n5.toNat n6.toNat).toList ≠ bE.toList) (h3 : (↑((s.extract n5.toNat n6.toNat).data.getD (Int.toNat (0 : Int)) (0 : UInt8)).toNat : Int) ≠ (36 : Int)) (h4 : nm (s.extract n5.toNat n6.toNat) = false) (h5 : Ret P T 21 [D.str (s.extract n5.toNat n6.toNat)] [] (D.bool (nm (s.extract n5.toNat n6.toNat))) []) (h6 : (0 : Int) ≤ (0 : Int) ∧ (0 : Int) < (↑(s.extract n5.toNat n6.toNat).size : Int)) (h7 : (0 : Int) ≤ n5 ∧ n5 ≤ n6 ∧ n6 ≤ (↑s.size : Int)) : ppt_at0 xl es nm s x4 e4 n5 n6 kh (D.tuple [D.slice false [] none, D.bool false]) [] :=
  have bq0 := decide_eq_true h0
  have bq1 := decide_eq_false h1
  have bq2 := beq_eq_false_iff_ne.2 h2
  have bq3 := beq_eq_false_iff_ne.2 h3
  have bq4 := h4
  fin_loop (fr 11 0 (ppt_ok xl es nm s) (pth 20 801665) (ac tru (ac (nb1 bq4) (ac (ktf (nb1 bq4)) (ac (ktf (nb1 bq4)) (ac (ktf (nb1 bq4)) (ac bq3 (ac (kff bq3) (ac h5 (ac (kff bq3) (ac (kff bq3) (ac bq2 (ac (kff bq2) (ac h6 (ac (kff bq2) (ac (kff bq2) (ac h7 (ac (show false = false from rfl) (ac bq1 (ac (kft bq1) (ac (kft bq1) (ac (kft bq1) (ac (kft bq1) (ac bq0 an))))))))))))))))))))))))

theorem ppt_0_11 {xl : Bool} {es : Es} {nm : ByteArray → Bool} {s : ByteArray} {x4 : Bool} {e4 : List (List D)} {n5 n6 : Int} {kh : Nat} (h0 : ¬ (n6 ≤ (↑s.size : Int))) : ppt_at0 xl es nm s x4 e4 n5 n6 kh (D.tuple [D.slice x4 e4 (some 0), D.bool true]) [some (HObj.tok kh (1 : Nat))] :=
  have bq0 := decide_eq_false h0
  fin_loop (fr 11 1 (ppt_ok xl es nm s) (pth 1 0) (ac bq0 an))


/-! ### function 33 -/
theorem gsp_fn : Tryd.prog.funcs[(33 : Nat)]? = some (fnAt P 33) := by kernel_rfl
theorem gsp_body : (fnAt P 33).body = some (bodyAt P 33) := by kernel_rfl
theorem gsp_name : ((fnAt P 33).name == "runtime.NumGoroutine") = false := by kernel_rfl
noncomputable def gsp_C (cn ix : ByteArray → Int) (s s14_8 s17_4 : ByteArray) : Cf := cfg Tryd.prog (hintOf [((33 : Nat), (14 : Nat), (8 : Nat), Hint.c [D.str s14_8]), ((33 : Nat), (17 : Nat), (4 : Nat), Hint.c [D.str s17_4])]) (tG1 cn ix s) (fun _ => false) 2 true (fun z => Nat.beq 1 z)
theorem gsp_ok (cn ix : ByteArray → Int) (s s14_8 s17_4 : ByteArray) : CfOk (gsp_C cn ix s s14_8 s17_4) := cfg_ok (by kernel_rfl)
noncomputable def gsp_run (cn ix : ByteArray → Int) (s s14_8 s17_4 : ByteArray) (qcur : Cur) (qk : List It) (qs : St) (qor : GD.Or) := runE (gsp_C cn ix s s14_8 s17_4) (callE (gsp_C cn ix s s14_8 s17_4) 100000 10) 33 100000 qcur qk qs qor []
noncomputable def gsp_l0 : Code := (loopAt Tryd.prog 33 0).1
noncomputable def gsp_k0 : List It := (loopAt Tryd.prog 33 0).2
/- loop 0: s0:=s; n10:=(0 : Int); eh:=List.replicate
  (if IntKind.i64.wrap ((↑s.size : Int) + (1 : Int)) < IntKind.i64.wrap (cn s + (1 : Int)) then IntKind.i64.wrap ((↑s.size : Int) + (1 : Int)) else IntKind.i64.wrap (cn s + (1 : Int))).toNat [D.str bE]; -/
noncomputable def gsp_s0 (cn ix : ByteArray → Int) (s s0 : ByteArray) (n10 : Int) (eh : List (List D)) : St := ⟨envOf 66 [(0, D.str s0), (1, D.str (ByteArray.mk #[(46 : UInt8)])), (2, D.int .i64 (0 : Int)), (3, D.int .i64 (IntKind.i64.wrap ((if IntKind.i64.wrap ((↑s.size : Int) + (1 : Int)) < IntKind.i64.wrap (cn s + (1 : Int)) then IntKind.i64.wrap ((↑s.size : Int) + (1 : Int)) else IntKind.i64.wrap (cn s + (1 : Int))) - (1 : Int)))), (9, D.view 0 (0 : Nat) (if IntKind.i64.wrap ((↑s.size : Int) + (1 : Int)) < IntKind.i64.wrap (cn s + (1 : Int)) then IntKind.i64.wrap ((↑s.size : Int) + (1 : Int)) else IntKind.i64.wrap (cn s + (1 : Int))).toNat), (10, D.int .i64 n10)], [some (.row 1 eh)]⟩
def gsp_at0 (cn ix : ByteArray → Int) (s s0 : ByteArray) (n10 : Int) (eh : List (List D)) (r : D) (H1 : GD.Heap) : Prop := GD.Fin Tryd.prog (tyOf Tryd.prog) (fnAt P 33) 0 (.code (.loop gsp_l0)) gsp_k0 (gsp_s0 cn ix s s0 n10 eh) r H1

theorem gsp_in_0 {cn ix : ByteArray → Int} {s : ByteArray} {r : D} {H1 : GD.Heap} (h0 : FlatEs (List.replicate (if IntKind.i64.wrap ((↑s.size : Int) + (1 : Int)) < IntKind.i64.wrap (cn s + (1 : Int)) then IntKind.i64.wrap ((↑s.size : Int) + (1 : Int)) else IntKind.i64.wrap (cn s + (1 : Int))).toNat [D.str bE])) (h1 : ((0 : Int) ≤ if IntKind.i64.wrap ((↑s.size : Int) + (1 : Int)) < IntKind.i64.wrap (cn s + (1 : Int)) then IntKind.i64.wrap ((↑s.size : Int) + (1 : Int)) else IntKind.i64.wrap (cn s + (1 : Int))) ∧ ((if IntKind.i64.wrap ((↑s.size : Int) + (1 : Int)) < IntKind.i64.wrap (cn s + (1 : Int)) then IntKind.i64.wrap ((↑s.size : Int) + (1 : Int)) else IntKind.i64.wrap (cn s + (1 : Int))) ≤ if IntKind.i64.wrap ((↑s.size : Int) + (1 : Int)) < IntKind.i64.wrap (cn s + (1 : Int)) then IntKind.i64.wrap ((↑s.size : Int) + (1 : Int)) else IntKind.i64.wrap (cn s + (1 : Int))) ∧ ((↑(16 : Nat) : Int) * if IntKind.i64.wrap ((↑s.size : Int) + (1 : Int)) < IntKind.i64.wrap (cn s + (1 : Int)) then IntKind.i64.wrap ((↑s.size : Int) + (1 : Int)) else IntKind.i64.wrap (cn s + (1 : Int))) ≤ (281474976710656 : Int) ∧ (if IntKind.i64.wrap ((↑s.size : Int) + (1 : Int)) < IntKind.i64.wrap (cn s + (1 : Int)) then IntKind.i64.wrap ((↑s.size : Int) + (1 : Int)) else IntKind.i64.wrap (cn s + (1 : Int))) ≤ (9223372036854775807 : Int)) (h2 : Ret P T 41 [D.str s, D.str (ByteArray.mk #[(46 : UInt8)])] [] (D.int .i64 (cn s)) []) (g : gsp_at0 cn ix s (s) ((0 : Int)) (List.replicate (if IntKind.i64.wrap ((↑s.size : Int) + (1 : Int)) < IntKind.i64.wrap (cn s + (1 : Int)) then IntKind.i64.wrap ((↑s.size : Int) + (1 : Int)) else IntKind.i64.wrap (cn s + (1 : Int))).toNat [D.str bE]) r H1) : Ret P T 33 [D.str s, D.str (ByteArray.mk #[(46 : UInt8)]), D.int .i64 (0 : Int), D.int .i64 (-1 : Int)] [] r H1 :=
  fin_call gsp_fn gsp_body gsp_name (fs (fun z => Nat.beq 1 z) 33 1 [0, 1, 2, 3, 9, 10] (gsp_ok cn ix s bE bE) (pth 3 4) (ac h0 (ac h1 (ac h2 (ac tru (ac (show false = false from rfl) (ac (show false = false from rfl) an)))))) g)

theorem gsp_0_0 {cn ix : ByteArray → Int} {s s0 : ByteArray} {n10 : Int} {eh : List (List D)} {s17_4 : ByteArray} (h0 : n10 < IntKind.i64.wrap ((if IntKind.i64.wrap ((↑s.size : Int) + (1 : Int)) < IntKind.i64.wrap (cn s + (1 : Int)) then IntKind.i64.wrap ((↑s.size : Int) + (1 : Int)) else IntKind.i64.wrap (cn s + (1 : Int))) - (1 : Int))) (h1 : ix s0 < (0 : Int)) (h2 : (0 : Int) ≤ (0 : Int) ∧ (0 : Int) ≤ IntKind.i64.wrap (n10 + (1 : Int)) ∧ (↑(0 : Nat) : Int) + IntKind.i64.wrap (n10 + (1 : Int)) ≤ (↑(eh.set ((0 : Nat) + n10.toNat) [D.str s0]).length : Int)) (h3 : eh[(0 : Nat) + n10.toNat]? = some [D.str s17_4]) (h4 : (0 : Int) ≤ n10 ∧ n10 < (↑(if IntKind.i64.wrap ((↑s.size : Int) + (1 : Int)) < IntKind.i64.wrap (cn s + (1 : Int)) then IntKind.i64.wrap ((↑s.size : Int) + (1 : Int)) else IntKind.i64.wrap (cn s + (1 : Int))).toNat : Int)) (h5 : Ret P T 42 [D.str s0, D.str (ByteArray.mk #[(46 : UInt8)])] [] (D.int .i64 (ix s0)) []) : gsp_at0 cn ix s s0 n10 eh (D.view 0 (0 : Nat) (IntKind.i64.wrap (n10 + (1 : Int)) - (0 : Int)).toNat) [some (.row 1 (eh.set ((0 : Nat) + n10.toNat) [D.str s0]))] :=
  have bq0 := decide_eq_true h0
  have bq1 := decide_eq_true h1
  fin_loop (fr 33 1 (gsp_ok cn ix s bE s17_4) (pth 2 3) (ac h2 (ac h3 (ac h4 (ac bq1 (ac h5 (ac bq0 an)))))))

theorem gsp_0_1 {cn ix : ByteArray → Int} {s s0 : ByteArray} {n10 : Int} {eh : List (List D)} {s14_8 : ByteArray} {r : D} {H1 : GD.Heap} (h0 : n10 < IntKind.i64.wrap ((if IntKind.i64.wrap ((↑s.size : Int) + (1 : Int)) < IntKind.i64.wrap (cn s + (1 : Int)) then IntKind.i64.wrap ((↑s.size : Int) + (1 : Int)) else IntKind.i64.wrap (cn s + (1 : Int))) - (1 : Int))) (h1 : ¬ (ix s0 < (0 : Int))) (h2 : FlatEs (eh.set ((0 : Nat) + n10.toNat) [D.str (s0.extract (0 : Nat) (IntKind.i64.wrap (ix s0 + (0 : Int))).toNat)])) (h3 : (0 : Int) ≤ IntKind.i64.wrap (ix s0 + (↑(1 : Nat) : Int)) ∧ IntKind.i64.wrap (ix s0 + (↑(1 : Nat) : Int)) ≤ (↑s0.size : Int) ∧ (↑s0.size : Int) ≤ (↑s0.size : Int)) (h4 : eh[(0 : Nat) + n10.toNat]? = some [D.str s14_8]) (h5 : (0 : Int) ≤ n10 ∧ n10 < (↑(if IntKind.i64.wrap ((↑s.size : Int) + (1 : Int)) < IntKind.i64.wrap (cn s + (1 : Int)) then IntKind.i64.wrap ((↑s.size : Int) + (1 : Int)) else IntKind.i64.wrap (cn s + (1 : Int))).toNat : Int)) (h6 : (0 : Int) ≤ (0 : Int) ∧ (0 : Int) ≤ IntKind.i64.wrap (ix s0 + (0 : Int)) ∧ IntKind.i64.wrap (ix s0 + (0 : Int)) ≤ (↑s0.size : Int)) (h7 : Ret P T 42 [D.str s0, D.str (ByteArray.mk #[(46 : UInt8)])] [] (D.int .i64 (ix s0)) []) (g : gsp_at0 cn ix s (s0.extract (IntKind.i64.wrap (ix s0 + (↑(1 : Nat) : Int))).toNat (↑s0.size : Int).toNat) (IntKind.i64.wrap (n10 + (1 : Int))) (eh.set ((0 : Nat) + n10.toNat) [D.str (s0.extract (0 : Nat) (IntKind.i64.wrap (ix s0 + (0 : Int))).toNat)]) r H1) : gsp_at0 cn ix s s0 n10 eh r H1 :=
  have bq0 := decide_eq_true h0
  have bq1 := decide_eq_false h1
  fin_loop (fs (fun z => Nat.beq 1 z) 33 1 [0, 1, 2, 3, 9, 10] (gsp_ok cn ix s s14_8 bE) (pth 2 1) (ac h2 (ac h3 (ac h4 (ac h5 (ac h6 (ac bq1 (ac h7 (ac bq0 an)))))))) g)

theorem gsp_0_2 {cn ix : ByteArray → Int} {s s0 : ByteArray} {n10 : Int} {eh : List (List D)} {s17_4 : ByteArray} (h0 : ¬ (n10 < IntKind.i64.wrap ((if IntKind.i64.wrap ((↑s.size : Int) + (1 : Int)) < IntKind.i64.wrap (cn s + (1 : Int)) then IntKind.i64.wrap ((↑s.size : Int) + (1 : Int)) else IntKind.i64.wrap (cn s + (1 : Int))) - (1 : Int)))) (h1 : (0 : Int) ≤ (0 : Int) ∧ (0 : Int) ≤ IntKind.i64.wrap (n10 + (1 : Int)) ∧ (↑(0 : Nat) : Int) + IntKind.i64.wrap (n10 + (1 : Int)) ≤ (↑(eh.set ((0 : Nat) + n10.toNat) [D.str s0]).length : Int)) (h2 : eh[(0 : Nat) + n10.toNat]? = some [D.str s17_4]) (h3 : (0 : Int) ≤ n10 ∧ n10 < (↑(if IntKind.i64.wrap ((↑s.size : Int) + (1 : Int)) < IntKind.i64.wrap (cn s + (1 : Int)) then IntKind.i64.wrap ((↑s.size : Int) + (1 : Int)) else IntKind.i64.wrap (cn s + (1 : Int))).toNat : Int)) : gsp_at0 cn ix s s0 n10 eh (D.view 0 (0 : Nat) (IntKind.i64.wrap (n10 + (1 : Int)) - (0 : Int)).toNat) [some (.row 1 (eh.set ((0 : Nat) + n10.toNat) [D.str s0]))] :=
  have bq0 := decide_eq_false h0
  fin_loop (fr 33 1 (gsp_ok cn ix s bE s17_4) (pth 1 0) (ac h1 (ac h2 (ac h3 (ac bq0 an)))))



end Go.Proofs.YtlccdfilbiipmaaDoor.ordk
