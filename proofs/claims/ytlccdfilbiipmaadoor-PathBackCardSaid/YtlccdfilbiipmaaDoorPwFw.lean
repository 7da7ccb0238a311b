/- Few names: roads and what they come to. -/
import Derived.Test.YtlccdfilbiipmaaDoorPwPm
namespace Go.Proofs.YtlccdfilbiipmaaDoor.ordk
open Go YtlccdfilbiipmaaDoor.GD
set_option linter.unusedVariables false
set_option linter.unusedSimpArgs false
set_option maxRecDepth 100000

def aFw (xp : Bool) (ep : Es) : List D × GD.Heap := ([.slice xp ep none], [])
def tFw (xp : Bool) (ep : Es) : Tab := t0
/-! ### function 14 -/
theorem few_fn : Tryd.prog.funcs[(14 : Nat)]? = some (fnAt P 14) := by kernel_rfl
theorem few_body : (fnAt P 14).body = some (bodyAt P 14) := by kernel_rfl
theorem few_name : ((fnAt P 14).name == "runtime.NumGoroutine") = false := by kernel_rfl
noncomputable def few_C (xp : Bool) (ep : Es) (s5_3 : ByteArray) : Cf := cfg Tryd.prog (hintOf [((14 : Nat), (5 : Nat), (3 : Nat), Hint.c [D.str s5_3])]) (tFw xp ep) (fun _ => false) 2 true (fun _ => false)
theorem few_ok (xp : Bool) (ep : Es) (s5_3 : ByteArray) : CfOk (few_C xp ep s5_3) := cfg_ok (by kernel_rfl)
noncomputable def few_run (xp : Bool) (ep : Es) (s5_3 : ByteArray) (qcur : Cur) (qk : List It) (qs : St) (qor : GD.Or) := runE (few_C xp ep s5_3) (callE (few_C xp ep s5_3) 100000 10) 14 100000 qcur qk qs qor []
noncomputable def few_l0 : Code := (loopAt Tryd.prog 14 0).1
noncomputable def few_k0 : List It := (loopAt Tryd.prog 14 0).2
/- loop 0: n3:=(0 : Int); n4:=(0 : Int); -/
noncomputable def few_s0 (xp : Bool) (ep : Es) (n3 n4 : Int) : St := ⟨envOf 25 [(0, D.slice xp ep none), (3, D.int .i64 n3), (4, D.int .i64 n4)], []⟩
def few_at0 (xp : Bool) (ep : Es) (n3 n4 : Int) (r : D) (H1 : GD.Heap) : Prop := GD.Fin Tryd.prog (tyOf Tryd.prog) (fnAt P 14) 0 (.code (.loop few_l0)) few_k0 (few_s0 xp ep n3 n4) r H1

theorem few_in_0 {xp : Bool} {ep : Es} {r : D} {H1 : GD.Heap} (g : few_at0 xp ep ((0 : Int)) ((0 : Int)) r H1) : Ret P T 14 [D.slice xp ep none] [] r H1 :=
  fin_call few_fn few_body few_name (fs (fun _ => false) 14 0 [0, 3, 4] (few_ok xp ep bE) (pth 0 0) an g)

theorem few_0_0 {xp : Bool} {ep : Es} {n3 n4 : Int} {s5_3 : ByteArray} {r : D} {H1 : GD.Heap} (h0 : n4 < (↑(List.length ep) : Int)) (h1 : (0 : Int) ≤ n4) (h2 : ep[n4.toNat]? = some [D.str s5_3]) (g : few_at0 xp ep (IntKind.i64.wrap (n3 + (↑s5_3.size : Int))) (IntKind.i64.wrap (n4 + (1 : Int))) r H1) : few_at0 xp ep n3 n4 r H1 :=
  have bq0 := decide_eq_true h0
  fin_loop (fs (fun _ => false) 14 0 [0, 3, 4] (few_ok xp ep s5_3) (pth 1 1) (ac h1 (ac h2 (ac bq0 an))) g)

theorem few_0_1 {xp : Bool} {ep : Es} {n3 n4 : Int} (h0 : ¬ (n4 < (↑(List.length ep) : Int))) (h1 : (↑(List.length ep) : Int) ≤ (40 : Int)) : few_at0 xp ep n3 n4 (D.bool (decide (n3 ≤ (1000 : Int)))) [] :=
  have bq0 := decide_eq_false h0
  have bq1 := decide_eq_true h1
  fin_loop (fr 14 0 (few_ok xp ep bE) (pth 4 14) (ac bq1 (ac (ktt bq1) (ac (ktt bq1) (ac bq0 an)))))

theorem few_0_2 {xp : Bool} {ep : Es} {n3 n4 : Int} (h0 : ¬ (n4 < (↑(List.length ep) : Int))) (h1 : ¬ ((↑(List.length ep) : Int) ≤ (40 : Int))) : few_at0 xp ep n3 n4 (D.bool false) [] :=
  have bq0 := decide_eq_false h0
  have bq1 := decide_eq_false h1
  fin_loop (fr 14 0 (few_ok xp ep bE) (pth 4 0) (ac bq1 (ac (kft bq1) (ac (kft bq1) (ac bq0 an)))))



/-! ### Few -/
def sizes : List (List UInt8) → Nat
  | [] => 0
  | s :: t => s.length + sizes t
theorem sizes_app : ∀ a b, sizes (a ++ b) = sizes a + sizes b
  | [], b => by simp [sizes]
  | x :: t, b => by rw [List.cons_append, sizes, sizes, sizes_app t b]; omega
theorem sizes_mem {l : List (List UInt8)} {s : List UInt8} (h : s ∈ l) : s.length ≤ sizes l := by
  induction l with
  | nil => cases h
  | cons x t ih =>
    rw [sizes]
    rcases List.mem_cons.1 h with rfl | h
    · omega
    · have := ih h; omega
def wsum : Int → List (List UInt8) → Int
  | n, [] => n
  | n, s :: t => wsum (IntKind.i64.wrap (n + ((tx s).size : Int))) t
theorem wsum_eq : ∀ (l : List (List UInt8)) (n : Nat), n + sizes l ≤ 4611686018427387904 → wsum n l = ((n + sizes l : Nat) : Int)
  | [], n, _ => by simp [wsum, sizes]
  | s :: t, n, h => by
    rw [sizes] at h
    have e : IntKind.i64.wrap ((n : Int) + ((tx s).size : Int)) = ((n + s.length : Nat) : Int) := by rw [size_bs, bs_tx, wrap_i64 (by omega)]; omega
    rw [wsum, e, wsum_eq t (n + s.length) (by omega), sizes]
    congr 1; omega
def fewW (ps : List (List UInt8)) : Bool := decide (ps.length ≤ 40) && decide (wsum 0 ps ≤ 1000)
theorem few14 (xp : Bool) (ps : List (List UInt8)) (hl : ps.length ≤ maxLen) : Ret P T 14 [.slice xp (txE ps) none] [] (.bool (fewW ps)) [] := by
  have hlen := txE_len ps
  have hmx : maxLen = 9223372036854775807 := rfl
  have key : ∀ (m i : Nat), i + m = ps.length → ∀ n : Int, few_at0 xp (txE ps) n i (.bool (decide (ps.length ≤ 40) && decide (wsum n (ps.drop i) ≤ 1000))) [] := by
    intro m
    induction m with
    | zero =>
      intro i hi n
      rw [List.drop_of_length_le (by omega), wsum]
      by_cases h : ps.length ≤ 40
      · simp only [h, decide_true, Bool.true_and]
        exact few_0_1 (by omega) (by omega)
      · simp only [h, decide_false, Bool.false_and]
        exact few_0_2 (by omega) (by omega)
    | succ m ih =>
      intro i hi n
      have hlt : i < ps.length := by omega
      have g := ih (i + 1) (by omega) (IntKind.i64.wrap (n + ((tx ps[i]).size : Int)))
      have w1 : IntKind.i64.wrap ((i : Int) + (1 : Int)) = ((i + 1 : Nat) : Int) := by rw [wrap_i64 (by omega)]; omega
      rw [← w1] at g
      rw [List.drop_eq_getElem_cons hlt, wsum]
      exact few_0_0 (by omega) (by omega) (txE_get hlt) g
  exact few_in_0 (by simpa [fewW] using key ps.length 0 (by omega) 0)
theorem few_len {ps : List (List UInt8)} (h : fewW ps = true) : ps.length ≤ 40 := by
  rw [fewW, Bool.and_eq_true, decide_eq_true_iff] at h
  exact h.1
theorem few_bd {ps : List (List UInt8)} (hs : sizes ps ≤ 4611686018427387904) (h : fewW ps = true) : ps.length ≤ 40 ∧ sizes ps ≤ 1000 := by
  rw [fewW, Bool.and_eq_true, decide_eq_true_iff, decide_eq_true_iff] at h
  have := wsum_eq ps 0 (by omega)
  refine ⟨h.1, ?_⟩
  have h2 := h.2
  simp only [Int.natCast_zero] at this
  omega

end Go.Proofs.YtlccdfilbiipmaaDoor.ordk
