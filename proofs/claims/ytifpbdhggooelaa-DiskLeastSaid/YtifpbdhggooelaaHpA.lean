/- The free numbers' heap: Less, Swap, Push, Pop of numbers, and container/heap over them: roads. -/
import Derived.Test.YtifpbdhggooelaaGd34
import Derived.Test.YtifpbdhggooelaaRows
namespace Go.Proofs.Ytifpbdhggooelaa.dsk
open Go Ytifpbdhggooelaa.GD
set_option linter.unusedVariables false
set_option linter.unusedSimpArgs false
set_option maxRecDepth 100000

abbrev Tab := FuncId → List D → GD.Heap → Option (D × GD.Heap)
abbrev Es := List (List D)
noncomputable abbrev P : Program := Try.prog
noncomputable abbrev T : Tys := tyOf Try.prog
def hAny : Hint := .c []
def hOff : Hint := .b false
def cellO (len : Nat) : HObj := .row 1 [[.view 1 0 len]]
def aLs (es : Es) (len : Nat) (i j : Int) : List D × GD.Heap := ([.view 0 0 len, .int .i64 i, .int .i64 j], [some (.row 1 es)])
def tLs (es : Es) (len : Nat) (i j : Int) : Tab := fun _ _ _ => none
def aPs (es : Es) (len : Nat) (x : Int) : List D × GD.Heap := ([.ptr 0 0 0, .iface 3 (.int .i64 x)], [some (cellO len), some (.row 1 es)])
def tPs (es : Es) (len : Nat) (x : Int) : Tab := fun _ _ _ => none
def aPp (es : Es) (len : Nat) : List D × GD.Heap := ([.ptr 0 0 0], [some (cellO len), some (.row 1 es)])
def tPp (es : Es) (len : Nat) : Tab := fun _ _ _ => none
/-- up and down: Less and Swap stand for themselves. -/
def tHp (ls : Es → Int → Int → Bool) (sw : Es → Int → Int → Es) : Tab := fun k args H =>
  match k with
  | 82 => match args, H with | [.view 0 0 ln, .int .i64 i, .int .i64 j], [some (.row 1 e)] => some (.bool (ls e i j), [some (.row 1 e)]) | _, _ => none
  | 85 => match args, H with | [.view 0 0 ln, .int .i64 i, .int .i64 j], [some (.row 1 e)] => some (.tuple [], [some (.row 1 (sw e i j))]) | _, _ => none
  | _ => none
def aUp (ls : Es → Int → Int → Bool) (sw : Es → Int → Int → Es) (es : Es) (len : Nat) (j : Int) : List D × GD.Heap := ([.iface 84 (.ptr 0 0 0), .int .i64 j], [some (cellO len), some (.row 1 es)])
def tUp (ls : Es → Int → Int → Bool) (sw : Es → Int → Int → Es) (es : Es) (len : Nat) (j : Int) : Tab := tHp ls sw
def aDn (ls : Es → Int → Int → Bool) (sw : Es → Int → Int → Es) (es : Es) (len : Nat) (i0 n : Int) : List D × GD.Heap := ([.iface 84 (.ptr 0 0 0), .int .i64 i0, .int .i64 n], [some (cellO len), some (.row 1 es)])
def tDn (ls : Es → Int → Int → Bool) (sw : Es → Int → Int → Es) (es : Es) (len : Nat) (i0 n : Int) : Tab := tHp ls sw
/-- heap.Push and heap.Pop. -/
def aHp (e1 e2 : Es) (v : Int) (bd : Bool) (es : Es) (len : Nat) (x : Int) : List D × GD.Heap := ([.iface 84 (.ptr 0 0 0), .iface 3 (.int .i64 x)], [some (cellO len), some (.row 1 es)])
def tHq (e1 e2 : Es) (v : Int) (bd : Bool) (es : Es) (len : Nat) (x : Int) : Tab := fun k args H =>
  match k with
  | 84 => match args, H with | [.ptr 0 0 0, .iface 3 (.int .i64 y)], [some (.row 1 [[.view 1 0 ln]]), some (.row 1 e)] => some (.tuple [], [some (.row 1 [[.view 9 0 (ln + 1)]]), some .dead, none, none, none, none, none, none, some (.tok 1 1), some (.row 1 e1)]) | _, _ => none
  | 63 => match args, H with | [.iface 84 (.ptr 0 0 0), .int .i64 j], [some (.row 1 [[.view 1 0 ln]]), some (.row 1 e)] => some (.tuple [], [some (.row 1 [[.view 1 0 ln]]), some (.row 1 e2)]) | _, _ => none
  | 85 => match args, H with | [.view 0 0 ln, .int .i64 i, .int .i64 j], [some (.row 1 e)] => some (.tuple [], [some (.row 1 e1)]) | _, _ => none
  | 61 => match args, H with | [.iface 84 (.ptr 0 0 0), .int .i64 i, .int .i64 j], [some (.row 1 [[.view 1 0 ln]]), some (.row 1 e)] => some (.bool bd, [some (.row 1 [[.view 1 0 ln]]), some (.row 1 e2)]) | _, _ => none
  | 83 => match args, H with | [.ptr 0 0 0], [some (.row 1 [[.view 1 0 ln]]), some (.row 1 e)] => some (.iface 3 (.int .i64 v), [some (.row 1 [[.view 1 0 (ln - 1)]]), some (.row 1 e)]) | _, _ => none
  | _ => none
def aHo (e1 e2 : Es) (v : Int) (bd : Bool) (es : Es) (len : Nat) : List D × GD.Heap := ([.iface 84 (.ptr 0 0 0)], [some (cellO len), some (.row 1 es)])
def tHo (e1 e2 : Es) (v : Int) (bd : Bool) (es : Es) (len : Nat) : Tab := tHq e1 e2 v bd es len 0

/-! ### function 82 -/
theorem lss_fn : Try.prog.funcs[(82 : Nat)]? = some (fnAt P 82) := by kernel_rfl
theorem lss_body : (fnAt P 82).body = some (bodyAt P 82) := by kernel_rfl
theorem lss_name : ((fnAt P 82).name == "runtime.NumGoroutine") = false := by kernel_rfl
noncomputable def lss_C (es : Es) (len : Nat) (i j : Int) (n1_3 n1_7 : Int) : Cf := cfg Try.prog (hintOf [((82 : Nat), (1 : Nat), (3 : Nat), Hint.c [D.int .i64 n1_3]), ((82 : Nat), (1 : Nat), (7 : Nat), Hint.c [D.int .i64 n1_7])]) (tLs es len i j) (fun _ => false) 2 true (fun z => Nat.beq 1 z)
theorem lss_ok (es : Es) (len : Nat) (i j : Int) (n1_3 n1_7 : Int) : CfOk (lss_C es len i j n1_3 n1_7) := cfg_ok (by kernel_rfl)
noncomputable def lss_run (es : Es) (len : Nat) (i j : Int) (n1_3 n1_7 : Int) (qcur : Cur) (qk : List It) (qs : St) (qor : GD.Or) := runE (lss_C es len i j n1_3 n1_7) (callE (lss_C es len i j n1_3 n1_7) 100000 10) 82 100000 qcur qk qs qor []

theorem lss_in_0 {es : Es} {len : Nat} {i j : Int} {n1_3 n1_7 : Int} (h0 : es[(0 : Nat) + j.toNat]? = some [D.int .i64 n1_7]) (h1 : (0 : Int) ≤ j ∧ j < (↑len : Int)) (h2 : es[(0 : Nat) + i.toNat]? = some [D.int .i64 n1_3]) (h3 : (0 : Int) ≤ i ∧ i < (↑len : Int)) : Ret P T 82 [D.view 0 (0 : Nat) len, D.int .i64 i, D.int .i64 j] [some (.row 1 es)] (D.bool (decide (n1_3 < n1_7))) [some (.row 1 es)] :=
  fin_call lss_fn lss_body lss_name (fr 82 1 (lss_ok es len i j n1_3 n1_7) (pth 0 0) (ac h0 (ac h1 (ac h2 (ac h3 an)))))


/-! ### function 85 -/
theorem swp_fn : Try.prog.funcs[(85 : Nat)]? = some (fnAt P 85) := by kernel_rfl
theorem swp_body : (fnAt P 85).body = some (bodyAt P 85) := by kernel_rfl
theorem swp_name : ((fnAt P 85).name == "runtime.NumGoroutine") = false := by kernel_rfl
noncomputable def swp_C (es : Es) (len : Nat) (i j : Int) (n0_7 n0_11 : Int) (n0_13 n0_15 : Int) : Cf := cfg Try.prog (hintOf [((85 : Nat), (0 : Nat), (7 : Nat), Hint.c [D.int .i64 n0_7]), ((85 : Nat), (0 : Nat), (11 : Nat), Hint.c [D.int .i64 n0_11]), ((85 : Nat), (0 : Nat), (13 : Nat), Hint.c [D.int .i64 n0_13]), ((85 : Nat), (0 : Nat), (15 : Nat), Hint.c [D.int .i64 n0_15])]) (tLs es len i j) (fun _ => false) 2 true (fun z => Nat.beq 1 z)
theorem swp_ok (es : Es) (len : Nat) (i j : Int) (n0_7 n0_11 : Int) (n0_13 n0_15 : Int) : CfOk (swp_C es len i j n0_7 n0_11 n0_13 n0_15) := cfg_ok (by kernel_rfl)
noncomputable def swp_run (es : Es) (len : Nat) (i j : Int) (n0_7 n0_11 : Int) (n0_13 n0_15 : Int) (qcur : Cur) (qk : List It) (qs : St) (qor : GD.Or) := runE (swp_C es len i j n0_7 n0_11 n0_13 n0_15) (callE (swp_C es len i j n0_7 n0_11 n0_13 n0_15) 100000 10) 85 100000 qcur qk qs qor []

theorem swp_in_0 {es : Es} {len : Nat} {i j : Int} {n0_7 n0_11 : Int} {n0_13 n0_15 : Int} (h0 : (List.set es ((0 : Nat) + i.toNat) [D.int .i64 n0_7])[(0 : Nat) + j.toNat]? = some [D.int .i64 n0_15]) (h1 : (0 : Int) ≤ j ∧ j < (↑len : Int)) (h2 : es[(0 : Nat) + i.toNat]? = some [D.int .i64 n0_13]) (h3 : (0 : Int) ≤ i ∧ i < (↑len : Int)) (h4 : es[(0 : Nat) + i.toNat]? = some [D.int .i64 n0_11]) (h5 : es[(0 : Nat) + j.toNat]? = some [D.int .i64 n0_7]) : Ret P T 85 [D.view 0 (0 : Nat) len, D.int .i64 i, D.int .i64 j] [some (.row 1 es)] (D.tuple []) [some (.row 1 ((List.set es ((0 : Nat) + i.toNat) [D.int .i64 n0_7]).set ((0 : Nat) + j.toNat) [D.int .i64 n0_11]))] :=
  fin_call swp_fn swp_body swp_name (fr 85 1 (swp_ok es len i j n0_7 n0_11 n0_13 n0_15) (pth 0 0) (ac h0 (ac h1 (ac h2 (ac h3 (ac h4 (ac h3 (ac h5 (ac h1 an)))))))))


/-! ### function 84 -/
theorem psh_fn : Try.prog.funcs[(84 : Nat)]? = some (fnAt P 84) := by kernel_rfl
theorem psh_body : (fnAt P 84).body = some (bodyAt P 84) := by kernel_rfl
theorem psh_name : ((fnAt P 84).name == "runtime.NumGoroutine") = false := by kernel_rfl
noncomputable def psh_C (es : Es) (len : Nat) (x : Int) : Cf := cfg Try.prog (hintOf [((84 : Nat), (0 : Nat), (6 : Nat), hOff), ((84 : Nat), (0 : Nat), (7 : Nat), hAny)]) (tPs es len x) (fun _ => false) 1 true (fun z => Nat.beq 1 z || Nat.beq 1048577 z)
theorem psh_ok (es : Es) (len : Nat) (x : Int) : CfOk (psh_C es len x) := cfg_ok (by kernel_rfl)
noncomputable def psh_run (es : Es) (len : Nat) (x : Int) (qcur : Cur) (qk : List It) (qs : St) (qor : GD.Or) := runE (psh_C es len x) (callE (psh_C es len x) 100000 10) 84 100000 qcur qk qs qor []

theorem psh_in_0 {es : Es} {len : Nat} {x : Int} (h0 : (0 : Nat) = (0 : Nat) ∧ (0 : Nat) < len + (1 : Nat) ∧ len ≤ List.length es ∧ (len + (1 : Nat)) * (8 : Nat) ≤ (140737488355328 : Nat) ∧ true = true) : Ret P T 84 [D.ptr 0 0 0, D.iface (3 : Nat) (D.int .i64 x)] [some (.row 1 [[D.view 1 (0 : Nat) len]]), some (.row 1 es)] (D.tuple []) [some (.row 1 [[D.view 9 (0 : Nat) (len + (1 : Nat))]]), some HObj.dead, none, none, none, none, none, none, some (HObj.tok (1 : Nat) (1 : Nat)), some (.row 1 (List.take len es ++ [[D.int .i64 x]]))] :=
  fin_call psh_fn psh_body psh_name (fr 84 10 (psh_ok es len x) (pth 0 0) (ac h0 an))


/-! ### function 83 -/
theorem pop_fn : Try.prog.funcs[(83 : Nat)]? = some (fnAt P 83) := by kernel_rfl
theorem pop_body : (fnAt P 83).body = some (bodyAt P 83) := by kernel_rfl
theorem pop_name : ((fnAt P 83).name == "runtime.NumGoroutine") = false := by kernel_rfl
noncomputable def pop_C (es : Es) (len : Nat) (n2_5 : Int) : Cf := cfg Try.prog (hintOf [((83 : Nat), (2 : Nat), (5 : Nat), Hint.c [D.int .i64 n2_5])]) (tPp es len) (fun _ => false) 1 true (fun z => Nat.beq 1 z || Nat.beq 1048577 z)
theorem pop_ok (es : Es) (len : Nat) (n2_5 : Int) : CfOk (pop_C es len n2_5) := cfg_ok (by kernel_rfl)
noncomputable def pop_run (es : Es) (len : Nat) (n2_5 : Int) (qcur : Cur) (qk : List It) (qs : St) (qor : GD.Or) := runE (pop_C es len n2_5) (callE (pop_C es len n2_5) 100000 10) 83 100000 qcur qk qs qor []

theorem pop_in_0 {es : Es} {len : Nat} {n2_5 : Int} (h0 : (0 : Int) ≤ (0 : Int) ∧ (0 : Int) ≤ IntKind.i64.wrap ((↑len : Int) - (1 : Int)) ∧ (↑(0 : Nat) : Int) + IntKind.i64.wrap ((↑len : Int) - (1 : Int)) ≤ (↑(List.length es) : Int)) (h1 : es[(0 : Nat) + (IntKind.i64.wrap ((↑len : Int) - (1 : Int))).toNat]? = some [D.int .i64 n2_5]) (h2 : (0 : Int) ≤ IntKind.i64.wrap ((↑len : Int) - (1 : Int)) ∧ IntKind.i64.wrap ((↑len : Int) - (1 : Int)) < (↑len : Int)) : Ret P T 83 [D.ptr 0 0 0] [some (.row 1 [[D.view 1 (0 : Nat) len]]), some (.row 1 es)] (D.iface (3 : Nat) (D.int .i64 n2_5)) [some (.row 1 [[D.view 1 (0 : Nat) (IntKind.i64.wrap ((↑len : Int) - (1 : Int)) - (0 : Int)).toNat]]), some (.row 1 es)] :=
  fin_call pop_fn pop_body pop_name (fr 83 2 (pop_ok es len n2_5) (pth 0 0) (ac h0 (ac h1 (ac h2 an))))


/-! ### function 63 -/
theorem hup_fn : Try.prog.funcs[(63 : Nat)]? = some (fnAt P 63) := by kernel_rfl
theorem hup_body : (fnAt P 63).body = some (bodyAt P 63) := by kernel_rfl
theorem hup_name : ((fnAt P 63).name == "runtime.NumGoroutine") = false := by kernel_rfl
noncomputable def hup_C (ls : Es → Int → Int → Bool) (sw : Es → Int → Int → Es) (es : Es) (len : Nat) (j : Int) : Cf := cfg Try.prog (hintOf []) (tUp ls sw es len j) (fun _ => false) 1 true (fun z => Nat.beq 1 z || Nat.beq 1048577 z) (ms := [(84, "Push", 84), (84, "Pop", 83)]) (ml := [(84, "Len", 56, 86), (84, "Less", 82, 86), (84, "Swap", 85, 86)])
theorem hup_ok (ls : Es → Int → Int → Bool) (sw : Es → Int → Int → Es) (es : Es) (len : Nat) (j : Int) : CfOk (hup_C ls sw es len j) := cfg_ok (by kernel_rfl) (h1 := by kernel_rfl) (h2 := by kernel_rfl)
noncomputable def hup_run (ls : Es → Int → Int → Bool) (sw : Es → Int → Int → Es) (es : Es) (len : Nat) (j : Int) (qcur : Cur) (qk : List It) (qs : St) (qor : GD.Or) := runE (hup_C ls sw es len j) (callE (hup_C ls sw es len j) 100000 10) 63 100000 qcur qk qs qor []
noncomputable def hup_l0 : Code := (loopAt Try.prog 63 0).1
noncomputable def hup_k0 : List It := (loopAt Try.prog 63 0).2
/- loop 0: n1:=j; eh:=es; -/
noncomputable def hup_s0 (ls : Es → Int → Int → Bool) (sw : Es → Int → Int → Es) (es : Es) (len : Nat) (j n1 : Int) (eh : List (List D)) : St := ⟨envOf 23 [(0, D.iface (84 : Nat) (D.ptr 0 0 0)), (1, D.int .i64 n1)], [some (.row 1 [[D.view 1 (0 : Nat) len]]), some (.row 1 eh)]⟩
def hup_at0 (ls : Es → Int → Int → Bool) (sw : Es → Int → Int → Es) (es : Es) (len : Nat) (j n1 : Int) (eh : List (List D)) (r : D) (H1 : GD.Heap) : Prop := GD.Fin Try.prog (tyOf Try.prog) (fnAt P 63) 2 (.code (.loop hup_l0)) hup_k0 (hup_s0 ls sw es len j n1 eh) r H1

theorem hup_in_0 {ls : Es → Int → Int → Bool} {sw : Es → Int → Int → Es} {es : Es} {len : Nat} {j : Int} {r : D} {H1 : GD.Heap} (h0 : FlatEs es) (g : hup_at0 ls sw es len j (j) (es) r H1) : Ret P T 63 [D.iface (84 : Nat) (D.ptr 0 0 0), D.int .i64 j] [some (.row 1 [[D.view 1 (0 : Nat) len]]), some (.row 1 es)] r H1 :=
  fin_call hup_fn hup_body hup_name (fs (fun z => Nat.beq 1 z || Nat.beq 1048577 z) 63 2 [0, 1] (hup_ok ls sw es len j) (pth 0 0) (ac h0 an) g)

theorem hup_0_0 {ls : Es → Int → Int → Bool} {sw : Es → Int → Int → Es} {es : Es} {len : Nat} {j n1 : Int} {eh : List (List D)} (h0 : IntKind.i64.wrap ((IntKind.i64.wrap (n1 - (1 : Int))).tdiv (2 : Int)) = n1) : hup_at0 ls sw es len j n1 eh (D.tuple []) [some (.row 1 [[D.view 1 (0 : Nat) len]]), some (.row 1 eh)] :=
  have bq0 := beq_iff_eq.2 h0
  fin_loop (fr 63 2 (hup_ok ls sw es len j) (pth 7 96) (ac tru (ac bq0 (ac (ktf bq0) (ac (ktf bq0) (ac (ktf bq0) (ac (ktf bq0) (ac (ktf bq0) (ac (show (2 : Int) ≠ (0 : Int) by decide) an)))))))))

theorem hup_0_1 {ls : Es → Int → Int → Bool} {sw : Es → Int → Int → Es} {es : Es} {len : Nat} {j n1 : Int} {eh : List (List D)} {r : D} {H1 : GD.Heap} (h0 : IntKind.i64.wrap ((IntKind.i64.wrap (n1 - (1 : Int))).tdiv (2 : Int)) ≠ n1) (h1 : ls eh n1 (IntKind.i64.wrap ((IntKind.i64.wrap (n1 - (1 : Int))).tdiv (2 : Int))) = true) (h2 : FlatEs (sw eh (IntKind.i64.wrap ((IntKind.i64.wrap (n1 - (1 : Int))).tdiv (2 : Int))) n1)) (h3 : FlatEs eh) (h4 : Ret P T 85 [D.view 0 (0 : Nat) len, D.int .i64 (IntKind.i64.wrap ((IntKind.i64.wrap (n1 - (1 : Int))).tdiv (2 : Int))), D.int .i64 n1] [some (.row 1 eh)] (D.tuple []) [some (.row 1 (sw eh (IntKind.i64.wrap ((IntKind.i64.wrap (n1 - (1 : Int))).tdiv (2 : Int))) n1))]) (h5 : Ret P T 82 [D.view 0 (0 : Nat) len, D.int .i64 n1, D.int .i64 (IntKind.i64.wrap ((IntKind.i64.wrap (n1 - (1 : Int))).tdiv (2 : Int)))] [some (.row 1 eh)] (D.bool (ls eh n1 (IntKind.i64.wrap ((IntKind.i64.wrap (n1 - (1 : Int))).tdiv (2 : Int))))) [some (.row 1 eh)]) (g : hup_at0 ls sw es len j (IntKind.i64.wrap ((IntKind.i64.wrap (n1 - (1 : Int))).tdiv (2 : Int))) (sw eh (IntKind.i64.wrap ((IntKind.i64.wrap (n1 - (1 : Int))).tdiv (2 : Int))) n1) r H1) : hup_at0 ls sw es len j n1 eh r H1 :=
  have bq0 := beq_eq_false_iff_ne.2 h0
  have bq1 := h1
  fin_loop (fs (fun z => Nat.beq 1 z || Nat.beq 1048577 z) 63 2 [0, 1] (hup_ok ls sw es len j) (pth 7 31) (ac h2 (ac h3 (ac h2 (ac h4 (ac (nb0 bq1) (ac bq0 (ac (kff bq0) (ac h3 (ac h3 (ac h5 (ac (kff bq0) (ac (kff bq0) (ac (kff bq0) (ac (kff bq0) (ac (show (2 : Int) ≠ (0 : Int) by decide) an))))))))))))))) g)

theorem hup_0_2 {ls : Es → Int → Int → Bool} {sw : Es → Int → Int → Es} {es : Es} {len : Nat} {j n1 : Int} {eh : List (List D)} (h0 : IntKind.i64.wrap ((IntKind.i64.wrap (n1 - (1 : Int))).tdiv (2 : Int)) ≠ n1) (h1 : ls eh n1 (IntKind.i64.wrap ((IntKind.i64.wrap (n1 - (1 : Int))).tdiv (2 : Int))) = false) (h2 : FlatEs eh) (h3 : Ret P T 82 [D.view 0 (0 : Nat) len, D.int .i64 n1, D.int .i64 (IntKind.i64.wrap ((IntKind.i64.wrap (n1 - (1 : Int))).tdiv (2 : Int)))] [some (.row 1 eh)] (D.bool (ls eh n1 (IntKind.i64.wrap ((IntKind.i64.wrap (n1 - (1 : Int))).tdiv (2 : Int))))) [some (.row 1 eh)]) : hup_at0 ls sw es len j n1 eh (D.tuple []) [some (.row 1 [[D.view 1 (0 : Nat) len]]), some (.row 1 eh)] :=
  have bq0 := beq_eq_false_iff_ne.2 h0
  have bq1 := h1
  fin_loop (fr 63 2 (hup_ok ls sw es len j) (pth 7 95) (ac (nb1 bq1) (ac bq0 (ac (kff bq0) (ac h2 (ac h2 (ac h3 (ac (kff bq0) (ac (kff bq0) (ac (kff bq0) (ac (kff bq0) (ac (show (2 : Int) ≠ (0 : Int) by decide) an))))))))))))


/-! ### function 61 -/
theorem hdn_fn : Try.prog.funcs[(61 : Nat)]? = some (fnAt P 61) := by kernel_rfl
theorem hdn_body : (fnAt P 61).body = some (bodyAt P 61) := by kernel_rfl
theorem hdn_name : ((fnAt P 61).name == "runtime.NumGoroutine") = false := by kernel_rfl
noncomputable def hdn_C (ls : Es → Int → Int → Bool) (sw : Es → Int → Int → Es) (es : Es) (len : Nat) (i0 n : Int) : Cf := cfg Try.prog (hintOf []) (tDn ls sw es len i0 n) (fun _ => false) 1 true (fun z => Nat.beq 1 z || Nat.beq 1048577 z) (ms := [(84, "Push", 84), (84, "Pop", 83)]) (ml := [(84, "Len", 56, 86), (84, "Less", 82, 86), (84, "Swap", 85, 86)])
theorem hdn_ok (ls : Es → Int → Int → Bool) (sw : Es → Int → Int → Es) (es : Es) (len : Nat) (i0 n : Int) : CfOk (hdn_C ls sw es len i0 n) := cfg_ok (by kernel_rfl) (h1 := by kernel_rfl) (h2 := by kernel_rfl)
noncomputable def hdn_run (ls : Es → Int → Int → Bool) (sw : Es → Int → Int → Es) (es : Es) (len : Nat) (i0 n : Int) (qcur : Cur) (qk : List It) (qs : St) (qor : GD.Or) := runE (hdn_C ls sw es len i0 n) (callE (hdn_C ls sw es len i0 n) 100000 10) 61 100000 qcur qk qs qor []
noncomputable def hdn_l0 : Code := (loopAt Try.prog 61 0).1
noncomputable def hdn_k0 : List It := (loopAt Try.prog 61 0).2
/- loop 0: n7:=i0; eh:=es; -/
noncomputable def hdn_s0 (ls : Es → Int → Int → Bool) (sw : Es → Int → Int → Es) (es : Es) (len : Nat) (i0 n n7 : Int) (eh : List (List D)) : St := ⟨envOf 48 [(0, D.iface (84 : Nat) (D.ptr 0 0 0)), (1, D.int .i64 i0), (2, D.int .i64 n), (7, D.int .i64 n7)], [some (.row 1 [[D.view 1 (0 : Nat) len]]), some (.row 1 eh)]⟩
def hdn_at0 (ls : Es → Int → Int → Bool) (sw : Es → Int → Int → Es) (es : Es) (len : Nat) (i0 n n7 : Int) (eh : List (List D)) (r : D) (H1 : GD.Heap) : Prop := GD.Fin Try.prog (tyOf Try.prog) (fnAt P 61) 2 (.code (.loop hdn_l0)) hdn_k0 (hdn_s0 ls sw es len i0 n n7 eh) r H1

theorem hdn_in_0 {ls : Es → Int → Int → Bool} {sw : Es → Int → Int → Es} {es : Es} {len : Nat} {i0 n : Int} {r : D} {H1 : GD.Heap} (h0 : FlatEs es) (g : hdn_at0 ls sw es len i0 n (i0) (es) r H1) : Ret P T 61 [D.iface (84 : Nat) (D.ptr 0 0 0), D.int .i64 i0, D.int .i64 n] [some (.row 1 [[D.view 1 (0 : Nat) len]]), some (.row 1 es)] r H1 :=
  fin_call hdn_fn hdn_body hdn_name (fs (fun z => Nat.beq 1 z || Nat.beq 1048577 z) 61 2 [0, 1, 2, 7] (hdn_ok ls sw es len i0 n) (pth 0 0) (ac h0 an) g)

theorem hdn_0_0 {ls : Es → Int → Int → Bool} {sw : Es → Int → Int → Es} {es : Es} {len : Nat} {i0 n n7 : Int} {eh : List (List D)} (h0 : IntKind.i64.wrap (IntKind.i64.wrap ((2 : Int) * n7) + (1 : Int)) ≥ n) : hdn_at0 ls sw es len i0 n n7 eh (D.bool (decide (n7 > i0))) [some (.row 1 [[D.view 1 (0 : Nat) len]]), some (.row 1 eh)] :=
  have bq0 := decide_eq_true h0
  fin_loop (fr 61 2 (hdn_ok ls sw es len i0 n) (pth 4 12) (ac tru (ac bq0 (ac (ktf bq0) (ac (ktf bq0) an)))))

theorem hdn_0_1 {ls : Es → Int → Int → Bool} {sw : Es → Int → Int → Es} {es : Es} {len : Nat} {i0 n n7 : Int} {eh : List (List D)} (h0 : ¬ (IntKind.i64.wrap (IntKind.i64.wrap ((2 : Int) * n7) + (1 : Int)) ≥ n)) (h1 : IntKind.i64.wrap (IntKind.i64.wrap ((2 : Int) * n7) + (1 : Int)) < (0 : Int)) : hdn_at0 ls sw es len i0 n n7 eh (D.bool (decide (n7 > i0))) [some (.row 1 [[D.view 1 (0 : Nat) len]]), some (.row 1 eh)] :=
  have bq0 := decide_eq_false h0
  have bq1 := decide_eq_true h1
  fin_loop (fr 61 2 (hdn_ok ls sw es len i0 n) (pth 4 11) (ac bq1 (ac bq0 (ac (kff bq0) (ac (kff bq0) an)))))

theorem hdn_0_2 {ls : Es → Int → Int → Bool} {sw : Es → Int → Int → Es} {es : Es} {len : Nat} {i0 n n7 : Int} {eh : List (List D)} {r : D} {H1 : GD.Heap} (h0 : ¬ (IntKind.i64.wrap (IntKind.i64.wrap ((2 : Int) * n7) + (1 : Int)) ≥ n)) (h1 : ¬ (IntKind.i64.wrap (IntKind.i64.wrap ((2 : Int) * n7) + (1 : Int)) < (0 : Int))) (h2 : IntKind.i64.wrap (IntKind.i64.wrap (IntKind.i64.wrap ((2 : Int) * n7) + (1 : Int)) + (1 : Int)) < n) (h3 : ls eh (IntKind.i64.wrap (IntKind.i64.wrap (IntKind.i64.wrap ((2 : Int) * n7) + (1 : Int)) + (1 : Int))) (IntKind.i64.wrap (IntKind.i64.wrap ((2 : Int) * n7) + (1 : Int))) = true) (h4 : ls eh (IntKind.i64.wrap (IntKind.i64.wrap (IntKind.i64.wrap ((2 : Int) * n7) + (1 : Int)) + (1 : Int))) n7 = true) (h5 : FlatEs (sw eh n7 (IntKind.i64.wrap (IntKind.i64.wrap (IntKind.i64.wrap ((2 : Int) * n7) + (1 : Int)) + (1 : Int))))) (h6 : FlatEs eh) (h7 : Ret P T 85 [D.view 0 (0 : Nat) len, D.int .i64 n7, D.int .i64 (IntKind.i64.wrap (IntKind.i64.wrap (IntKind.i64.wrap ((2 : Int) * n7) + (1 : Int)) + (1 : Int)))] [some (.row 1 eh)] (D.tuple []) [some (.row 1 (sw eh n7 (IntKind.i64.wrap (IntKind.i64.wrap (IntKind.i64.wrap ((2 : Int) * n7) + (1 : Int)) + (1 : Int)))))]) (h8 : Ret P T 82 [D.view 0 (0 : Nat) len, D.int .i64 (IntKind.i64.wrap (IntKind.i64.wrap (IntKind.i64.wrap ((2 : Int) * n7) + (1 : Int)) + (1 : Int))), D.int .i64 n7] [some (.row 1 eh)] (D.bool (ls eh (IntKind.i64.wrap (IntKind.i64.wrap (IntKind.i64.wrap ((2 : Int) * n7) + (1 : Int)) + (1 : Int))) n7)) [some (.row 1 eh)]) (h9 : Ret P T 82 [D.view 0 (0 : Nat) len, D.int .i64 (IntKind.i64.wrap (IntKind.i64.wrap (IntKind.i64.wrap ((2 : Int) * n7) + (1 : Int)) + (1 : Int))), D.int .i64 (IntKind.i64.wrap (IntKind.i64.wrap ((2 : Int) * n7) + (1 : Int)))] [some (.row 1 eh)] (D.bool (ls eh (IntKind.i64.wrap (IntKind.i64.wrap (IntKind.i64.wrap ((2 : Int) * n7) + (1 : Int)) + (1 : Int))) (IntKind.i64.wrap (IntKind.i64.wrap ((2 : Int) * n7) + (1 : Int))))) [some (.row 1 eh)]) (g : hdn_at0 ls sw es len i0 n (IntKind.i64.wrap (IntKind.i64.wrap (IntKind.i64.wrap ((2 : Int) * n7) + (1 : Int)) + (1 : Int))) (sw eh n7 (IntKind.i64.wrap (IntKind.i64.wrap (IntKind.i64.wrap ((2 : Int) * n7) + (1 : Int)) + (1 : Int)))) r H1) : hdn_at0 ls sw es len i0 n n7 eh r H1 :=
  have bq0 := decide_eq_false h0
  have bq1 := decide_eq_false h1
  have bq2 := decide_eq_true h2
  have bq3 := h3
  have bq4 := h4
  fin_loop (fs (fun z => Nat.beq 1 z || Nat.beq 1048577 z) 61 2 [0, 1, 2, 7] (hdn_ok ls sw es len i0 n) (pth 11 1011) (ac h5 (ac h6 (ac h5 (ac h7 (ac (nb0 bq4) (ac h6 (ac h6 (ac h8 (ac bq3 (ac bq2 (ac h6 (ac h6 (ac h9 (ac (ktt bq2) (ac (ktt bq2) (ac (ktt bq2) (ac (ktt bq2) (ac bq1 (ac bq0 (ac (kff bq0) (ac (kff bq0) an))))))))))))))))))))) g)

theorem hdn_0_3 {ls : Es → Int → Int → Bool} {sw : Es → Int → Int → Es} {es : Es} {len : Nat} {i0 n n7 : Int} {eh : List (List D)} (h0 : ¬ (IntKind.i64.wrap (IntKind.i64.wrap ((2 : Int) * n7) + (1 : Int)) ≥ n)) (h1 : ¬ (IntKind.i64.wrap (IntKind.i64.wrap ((2 : Int) * n7) + (1 : Int)) < (0 : Int))) (h2 : IntKind.i64.wrap (IntKind.i64.wrap (IntKind.i64.wrap ((2 : Int) * n7) + (1 : Int)) + (1 : Int)) < n) (h3 : ls eh (IntKind.i64.wrap (IntKind.i64.wrap (IntKind.i64.wrap ((2 : Int) * n7) + (1 : Int)) + (1 : Int))) (IntKind.i64.wrap (IntKind.i64.wrap ((2 : Int) * n7) + (1 : Int))) = true) (h4 : ls eh (IntKind.i64.wrap (IntKind.i64.wrap (IntKind.i64.wrap ((2 : Int) * n7) + (1 : Int)) + (1 : Int))) n7 = false) (h5 : FlatEs eh) (h6 : Ret P T 82 [D.view 0 (0 : Nat) len, D.int .i64 (IntKind.i64.wrap (IntKind.i64.wrap (IntKind.i64.wrap ((2 : Int) * n7) + (1 : Int)) + (1 : Int))), D.int .i64 n7] [some (.row 1 eh)] (D.bool (ls eh (IntKind.i64.wrap (IntKind.i64.wrap (IntKind.i64.wrap ((2 : Int) * n7) + (1 : Int)) + (1 : Int))) n7)) [some (.row 1 eh)]) (h7 : Ret P T 82 [D.view 0 (0 : Nat) len, D.int .i64 (IntKind.i64.wrap (IntKind.i64.wrap (IntKind.i64.wrap ((2 : Int) * n7) + (1 : Int)) + (1 : Int))), D.int .i64 (IntKind.i64.wrap (IntKind.i64.wrap ((2 : Int) * n7) + (1 : Int)))] [some (.row 1 eh)] (D.bool (ls eh (IntKind.i64.wrap (IntKind.i64.wrap (IntKind.i64.wrap ((2 : Int) * n7) + (1 : Int)) + (1 : Int))) (IntKind.i64.wrap (IntKind.i64.wrap ((2 : Int) * n7) + (1 : Int))))) [some (.row 1 eh)]) : hdn_at0 ls sw es len i0 n n7 eh (D.bool (decide (n7 > i0))) [some (.row 1 [[D.view 1 (0 : Nat) len]]), some (.row 1 eh)] :=
  have bq0 := decide_eq_false h0
  have bq1 := decide_eq_false h1
  have bq2 := decide_eq_true h2
  have bq3 := h3
  have bq4 := h4
  fin_loop (fr 61 2 (hdn_ok ls sw es len i0 n) (pth 11 2035) (ac (nb1 bq4) (ac h5 (ac h5 (ac h6 (ac bq3 (ac bq2 (ac h5 (ac h5 (ac h7 (ac (ktt bq2) (ac (ktt bq2) (ac (ktt bq2) (ac (ktt bq2) (ac bq1 (ac bq0 (ac (kff bq0) (ac (kff bq0) an))))))))))))))))))

theorem hdn_0_4 {ls : Es → Int → Int → Bool} {sw : Es → Int → Int → Es} {es : Es} {len : Nat} {i0 n n7 : Int} {eh : List (List D)} {r : D} {H1 : GD.Heap} (h0 : ¬ (IntKind.i64.wrap (IntKind.i64.wrap ((2 : Int) * n7) + (1 : Int)) ≥ n)) (h1 : ¬ (IntKind.i64.wrap (IntKind.i64.wrap ((2 : Int) * n7) + (1 : Int)) < (0 : Int))) (h2 : IntKind.i64.wrap (IntKind.i64.wrap (IntKind.i64.wrap ((2 : Int) * n7) + (1 : Int)) + (1 : Int)) < n) (h3 : ls eh (IntKind.i64.wrap (IntKind.i64.wrap (IntKind.i64.wrap ((2 : Int) * n7) + (1 : Int)) + (1 : Int))) (IntKind.i64.wrap (IntKind.i64.wrap ((2 : Int) * n7) + (1 : Int))) = false) (h4 : ls eh (IntKind.i64.wrap (IntKind.i64.wrap ((2 : Int) * n7) + (1 : Int))) n7 = true) (h5 : FlatEs (sw eh n7 (IntKind.i64.wrap (IntKind.i64.wrap ((2 : Int) * n7) + (1 : Int))))) (h6 : FlatEs eh) (h7 : Ret P T 85 [D.view 0 (0 : Nat) len, D.int .i64 n7, D.int .i64 (IntKind.i64.wrap (IntKind.i64.wrap ((2 : Int) * n7) + (1 : Int)))] [some (.row 1 eh)] (D.tuple []) [some (.row 1 (sw eh n7 (IntKind.i64.wrap (IntKind.i64.wrap ((2 : Int) * n7) + (1 : Int)))))]) (h8 : Ret P T 82 [D.view 0 (0 : Nat) len, D.int .i64 (IntKind.i64.wrap (IntKind.i64.wrap ((2 : Int) * n7) + (1 : Int))), D.int .i64 n7] [some (.row 1 eh)] (D.bool (ls eh (IntKind.i64.wrap (IntKind.i64.wrap ((2 : Int) * n7) + (1 : Int))) n7)) [some (.row 1 eh)]) (h9 : Ret P T 82 [D.view 0 (0 : Nat) len, D.int .i64 (IntKind.i64.wrap (IntKind.i64.wrap (IntKind.i64.wrap ((2 : Int) * n7) + (1 : Int)) + (1 : Int))), D.int .i64 (IntKind.i64.wrap (IntKind.i64.wrap ((2 : Int) * n7) + (1 : Int)))] [some (.row 1 eh)] (D.bool (ls eh (IntKind.i64.wrap (IntKind.i64.wrap (IntKind.i64.wrap ((2 : Int) * n7) + (1 : Int)) + (1 : Int))) (IntKind.i64.wrap (IntKind.i64.wrap ((2 : Int) * n7) + (1 : Int))))) [some (.row 1 eh)]) (g : hdn_at0 ls sw es len i0 n (IntKind.i64.wrap (IntKind.i64.wrap ((2 : Int) * n7) + (1 : Int))) (sw eh n7 (IntKind.i64.wrap (IntKind.i64.wrap ((2 : Int) * n7) + (1 : Int)))) r H1) : hdn_at0 ls sw es len i0 n n7 eh r H1 :=
  have bq0 := decide_eq_false h0
  have bq1 := decide_eq_false h1
  have bq2 := decide_eq_true h2
  have bq3 := h3
  have bq4 := h4
  fin_loop (fs (fun z => Nat.beq 1 z || Nat.beq 1048577 z) 61 2 [0, 1, 2, 7] (hdn_ok ls sw es len i0 n) (pth 11 499) (ac h5 (ac h6 (ac h5 (ac h7 (ac (nb0 bq4) (ac h6 (ac h6 (ac h8 (ac bq3 (ac bq2 (ac h6 (ac h6 (ac h9 (ac (ktt bq2) (ac (ktt bq2) (ac (ktt bq2) (ac (ktt bq2) (ac bq1 (ac bq0 (ac (kff bq0) (ac (kff bq0) an))))))))))))))))))))) g)

theorem hdn_0_5 {ls : Es → Int → Int → Bool} {sw : Es → Int → Int → Es} {es : Es} {len : Nat} {i0 n n7 : Int} {eh : List (List D)} (h0 : ¬ (IntKind.i64.wrap (IntKind.i64.wrap ((2 : Int) * n7) + (1 : Int)) ≥ n)) (h1 : ¬ (IntKind.i64.wrap (IntKind.i64.wrap ((2 : Int) * n7) + (1 : Int)) < (0 : Int))) (h2 : IntKind.i64.wrap (IntKind.i64.wrap (IntKind.i64.wrap ((2 : Int) * n7) + (1 : Int)) + (1 : Int)) < n) (h3 : ls eh (IntKind.i64.wrap (IntKind.i64.wrap (IntKind.i64.wrap ((2 : Int) * n7) + (1 : Int)) + (1 : Int))) (IntKind.i64.wrap (IntKind.i64.wrap ((2 : Int) * n7) + (1 : Int))) = false) (h4 : ls eh (IntKind.i64.wrap (IntKind.i64.wrap ((2 : Int) * n7) + (1 : Int))) n7 = false) (h5 : FlatEs eh) (h6 : Ret P T 82 [D.view 0 (0 : Nat) len, D.int .i64 (IntKind.i64.wrap (IntKind.i64.wrap ((2 : Int) * n7) + (1 : Int))), D.int .i64 n7] [some (.row 1 eh)] (D.bool (ls eh (IntKind.i64.wrap (IntKind.i64.wrap ((2 : Int) * n7) + (1 : Int))) n7)) [some (.row 1 eh)]) (h7 : Ret P T 82 [D.view 0 (0 : Nat) len, D.int .i64 (IntKind.i64.wrap (IntKind.i64.wrap (IntKind.i64.wrap ((2 : Int) * n7) + (1 : Int)) + (1 : Int))), D.int .i64 (IntKind.i64.wrap (IntKind.i64.wrap ((2 : Int) * n7) + (1 : Int)))] [some (.row 1 eh)] (D.bool (ls eh (IntKind.i64.wrap (IntKind.i64.wrap (IntKind.i64.wrap ((2 : Int) * n7) + (1 : Int)) + (1 : Int))) (IntKind.i64.wrap (IntKind.i64.wrap ((2 : Int) * n7) + (1 : Int))))) [some (.row 1 eh)]) : hdn_at0 ls sw es len i0 n n7 eh (D.bool (decide (n7 > i0))) [some (.row 1 [[D.view 1 (0 : Nat) len]]), some (.row 1 eh)] :=
  have bq0 := decide_eq_false h0
  have bq1 := decide_eq_false h1
  have bq2 := decide_eq_true h2
  have bq3 := h3
  have bq4 := h4
  fin_loop (fr 61 2 (hdn_ok ls sw es len i0 n) (pth 11 1523) (ac (nb1 bq4) (ac h5 (ac h5 (ac h6 (ac bq3 (ac bq2 (ac h5 (ac h5 (ac h7 (ac (ktt bq2) (ac (ktt bq2) (ac (ktt bq2) (ac (ktt bq2) (ac bq1 (ac bq0 (ac (kff bq0) (ac (kff bq0) an))))))))))))))))))

theorem hdn_0_6 {ls : Es → Int → Int → Bool} {sw : Es → Int → Int → Es} {es : Es} {len : Nat} {i0 n n7 : Int} {eh : List (List D)} {r : D} {H1 : GD.Heap} (h0 : ¬ (IntKind.i64.wrap (IntKind.i64.wrap ((2 : Int) * n7) + (1 : Int)) ≥ n)) (h1 : ¬ (IntKind.i64.wrap (IntKind.i64.wrap ((2 : Int) * n7) + (1 : Int)) < (0 : Int))) (h2 : ¬ (IntKind.i64.wrap (IntKind.i64.wrap (IntKind.i64.wrap ((2 : Int) * n7) + (1 : Int)) + (1 : Int)) < n)) (h3 : ls eh (IntKind.i64.wrap (IntKind.i64.wrap ((2 : Int) * n7) + (1 : Int))) n7 = true) (h4 : FlatEs (sw eh n7 (IntKind.i64.wrap (IntKind.i64.wrap ((2 : Int) * n7) + (1 : Int))))) (h5 : FlatEs eh) (h6 : Ret P T 85 [D.view 0 (0 : Nat) len, D.int .i64 n7, D.int .i64 (IntKind.i64.wrap (IntKind.i64.wrap ((2 : Int) * n7) + (1 : Int)))] [some (.row 1 eh)] (D.tuple []) [some (.row 1 (sw eh n7 (IntKind.i64.wrap (IntKind.i64.wrap ((2 : Int) * n7) + (1 : Int)))))]) (h7 : Ret P T 82 [D.view 0 (0 : Nat) len, D.int .i64 (IntKind.i64.wrap (IntKind.i64.wrap ((2 : Int) * n7) + (1 : Int))), D.int .i64 n7] [some (.row 1 eh)] (D.bool (ls eh (IntKind.i64.wrap (IntKind.i64.wrap ((2 : Int) * n7) + (1 : Int))) n7)) [some (.row 1 eh)]) (g : hdn_at0 ls sw es len i0 n (IntKind.i64.wrap (IntKind.i64.wrap ((2 : Int) * n7) + (1 : Int))) (sw eh n7 (IntKind.i64.wrap (IntKind.i64.wrap ((2 : Int) * n7) + (1 : Int)))) r H1) : hdn_at0 ls sw es len i0 n n7 eh r H1 :=
  have bq0 := decide_eq_false h0
  have bq1 := decide_eq_false h1
  have bq2 := decide_eq_false h2
  have bq3 := h3
  fin_loop (fs (fun z => Nat.beq 1 z || Nat.beq 1048577 z) 61 2 [0, 1, 2, 7] (hdn_ok ls sw es len i0 n) (pth 11 3) (ac h4 (ac h5 (ac h4 (ac h6 (ac (nb0 bq3) (ac h5 (ac h5 (ac h7 (ac (show false = false from rfl) (ac bq2 (ac (kft bq2) (ac (kft bq2) (ac (kft bq2) (ac (kft bq2) (ac bq1 (ac bq0 (ac (kff bq0) (ac (kff bq0) an)))))))))))))))))) g)

theorem hdn_0_7 {ls : Es → Int → Int → Bool} {sw : Es → Int → Int → Es} {es : Es} {len : Nat} {i0 n n7 : Int} {eh : List (List D)} (h0 : ¬ (IntKind.i64.wrap (IntKind.i64.wrap ((2 : Int) * n7) + (1 : Int)) ≥ n)) (h1 : ¬ (IntKind.i64.wrap (IntKind.i64.wrap ((2 : Int) * n7) + (1 : Int)) < (0 : Int))) (h2 : ¬ (IntKind.i64.wrap (IntKind.i64.wrap (IntKind.i64.wrap ((2 : Int) * n7) + (1 : Int)) + (1 : Int)) < n)) (h3 : ls eh (IntKind.i64.wrap (IntKind.i64.wrap ((2 : Int) * n7) + (1 : Int))) n7 = false) (h4 : FlatEs eh) (h5 : Ret P T 82 [D.view 0 (0 : Nat) len, D.int .i64 (IntKind.i64.wrap (IntKind.i64.wrap ((2 : Int) * n7) + (1 : Int))), D.int .i64 n7] [some (.row 1 eh)] (D.bool (ls eh (IntKind.i64.wrap (IntKind.i64.wrap ((2 : Int) * n7) + (1 : Int))) n7)) [some (.row 1 eh)]) : hdn_at0 ls sw es len i0 n n7 eh (D.bool (decide (n7 > i0))) [some (.row 1 [[D.view 1 (0 : Nat) len]]), some (.row 1 eh)] :=
  have bq0 := decide_eq_false h0
  have bq1 := decide_eq_false h1
  have bq2 := decide_eq_false h2
  have bq3 := h3
  fin_loop (fr 61 2 (hdn_ok ls sw es len i0 n) (pth 11 1027) (ac (nb1 bq3) (ac h4 (ac h4 (ac h5 (ac (show false = false from rfl) (ac bq2 (ac (kft bq2) (ac (kft bq2) (ac (kft bq2) (ac (kft bq2) (ac bq1 (ac bq0 (ac (kff bq0) (ac (kff bq0) an)))))))))))))))


/-! ### function 60 -/
theorem hps_fn : Try.prog.funcs[(60 : Nat)]? = some (fnAt P 60) := by kernel_rfl
theorem hps_body : (fnAt P 60).body = some (bodyAt P 60) := by kernel_rfl
theorem hps_name : ((fnAt P 60).name == "runtime.NumGoroutine") = false := by kernel_rfl
noncomputable def hps_C (e1 e2 : Es) (v : Int) (bd : Bool) (es : Es) (len : Nat) (x : Int) : Cf := cfg Try.prog (hintOf []) (tHq e1 e2 v bd es len x) (fun _ => false) 1 true (fun z => Nat.beq 1 z || Nat.beq 1048577 z) (ms := [(84, "Push", 84), (84, "Pop", 83)]) (ml := [(84, "Len", 56, 86), (84, "Less", 82, 86), (84, "Swap", 85, 86)])
theorem hps_ok (e1 e2 : Es) (v : Int) (bd : Bool) (es : Es) (len : Nat) (x : Int) : CfOk (hps_C e1 e2 v bd es len x) := cfg_ok (by kernel_rfl) (h1 := by kernel_rfl) (h2 := by kernel_rfl)
noncomputable def hps_run (e1 e2 : Es) (v : Int) (bd : Bool) (es : Es) (len : Nat) (x : Int) (qcur : Cur) (qk : List It) (qs : St) (qor : GD.Or) := runE (hps_C e1 e2 v bd es len x) (callE (hps_C e1 e2 v bd es len x) 100000 10) 60 100000 qcur qk qs qor []

theorem hps_in_0 {e1 e2 : Es} {v : Int} {bd : Bool} {es : Es} {len : Nat} {x : Int} (h0 : FlatEs e1) (h1 : FlatEs e2) (h2 : Ret P T 63 [D.iface (84 : Nat) (D.ptr 0 0 0), D.int .i64 (IntKind.i64.wrap ((↑(len + (1 : Nat)) : Int) - (1 : Int)))] [some (.row 1 [[D.view 1 (0 : Nat) (len + (1 : Nat))]]), some (.row 1 e1)] (D.tuple []) [some (.row 1 [[D.view 1 (0 : Nat) (len + (1 : Nat))]]), some (.row 1 e2)]) (h3 : FlatEs es) (h4 : Ret P T 84 [D.ptr 0 0 0, D.iface (3 : Nat) (D.int .i64 x)] [some (.row 1 [[D.view 1 (0 : Nat) len]]), some (.row 1 es)] (D.tuple []) [some (.row 1 [[D.view 9 (0 : Nat) (len + (1 : Nat))]]), some HObj.dead, none, none, none, none, none, none, some (HObj.tok (1 : Nat) (1 : Nat)), some (.row 1 e1)]) : Ret P T 60 [D.iface (84 : Nat) (D.ptr 0 0 0), D.iface (3 : Nat) (D.int .i64 x)] [some (.row 1 [[D.view 1 (0 : Nat) len]]), some (.row 1 es)] (D.tuple []) [some (.row 1 [[D.view 9 (0 : Nat) (len + (1 : Nat))]]), some HObj.dead, none, none, none, none, none, none, some (HObj.tok (1 : Nat) (1 : Nat)), some (.row 1 e2)] :=
  fin_call hps_fn hps_body hps_name (fr 60 10 (hps_ok e1 e2 v bd es len x) (pth 0 0) (ac h0 (ac h1 (ac h2 (ac h0 (ac h0 (ac h3 (ac h0 (ac h4 an)))))))))


/-! ### function 57 -/
theorem hpp_fn : Try.prog.funcs[(57 : Nat)]? = some (fnAt P 57) := by kernel_rfl
theorem hpp_body : (fnAt P 57).body = some (bodyAt P 57) := by kernel_rfl
theorem hpp_name : ((fnAt P 57).name == "runtime.NumGoroutine") = false := by kernel_rfl
noncomputable def hpp_C (e1 e2 : Es) (v : Int) (bd : Bool) (es : Es) (len : Nat) : Cf := cfg Try.prog (hintOf []) (tHo e1 e2 v bd es len) (fun _ => false) 1 true (fun z => Nat.beq 1 z || Nat.beq 1048577 z) (ms := [(84, "Push", 84), (84, "Pop", 83)]) (ml := [(84, "Len", 56, 86), (84, "Less", 82, 86), (84, "Swap", 85, 86)])
theorem hpp_ok (e1 e2 : Es) (v : Int) (bd : Bool) (es : Es) (len : Nat) : CfOk (hpp_C e1 e2 v bd es len) := cfg_ok (by kernel_rfl) (h1 := by kernel_rfl) (h2 := by kernel_rfl)
noncomputable def hpp_run (e1 e2 : Es) (v : Int) (bd : Bool) (es : Es) (len : Nat) (qcur : Cur) (qk : List It) (qs : St) (qor : GD.Or) := runE (hpp_C e1 e2 v bd es len) (callE (hpp_C e1 e2 v bd es len) 100000 10) 57 100000 qcur qk qs qor []

theorem hpp_in_0 {e1 e2 : Es} {v : Int} {bd : Bool} {es : Es} {len : Nat} (h0 : FlatEs e2) (h1 : Ret P T 83 [D.ptr 0 0 0] [some (.row 1 [[D.view 1 (0 : Nat) len]]), some (.row 1 e2)] (D.iface (3 : Nat) (D.int .i64 v)) [some (.row 1 [[D.view 1 (0 : Nat) (len - (1 : Nat))]]), some (.row 1 e2)]) (h2 : FlatEs e1) (h3 : Ret P T 61 [D.iface (84 : Nat) (D.ptr 0 0 0), D.int .i64 (0 : Int), D.int .i64 (IntKind.i64.wrap ((↑len : Int) - (1 : Int)))] [some (.row 1 [[D.view 1 (0 : Nat) len]]), some (.row 1 e1)] (D.bool bd) [some (.row 1 [[D.view 1 (0 : Nat) len]]), some (.row 1 e2)]) (h4 : FlatEs es) (h5 : Ret P T 85 [D.view 0 (0 : Nat) len, D.int .i64 (0 : Int), D.int .i64 (IntKind.i64.wrap ((↑len : Int) - (1 : Int)))] [some (.row 1 es)] (D.tuple []) [some (.row 1 e1)]) : Ret P T 57 [D.iface (84 : Nat) (D.ptr 0 0 0)] [some (.row 1 [[D.view 1 (0 : Nat) len]]), some (.row 1 es)] (D.iface (3 : Nat) (D.int .i64 v)) [some (.row 1 [[D.view 1 (0 : Nat) (len - (1 : Nat))]]), some (.row 1 e2)] :=
  fin_call hpp_fn hpp_body hpp_name (fr 57 2 (hpp_ok e1 e2 v bd es len) (pth 0 0) (ac h0 (ac h0 (ac h1 (ac h2 (ac h0 (ac h3 (ac h4 (ac h2 (ac h5 (ac h4 (ac h4 an))))))))))))



end Go.Proofs.Ytifpbdhggooelaa.dsk
