/- The law OrderNumbers. -/
import Derived.Test.YtbkacmcijimbfaaOrdNb
namespace Go.Proofs.Ytbkacmcijimbfaa.ordk
open Go Ytbkacmcijimbfaa.GD valk
set_option linter.unusedVariables false
set_option linter.unusedSimpArgs false
set_option maxRecDepth 100000

def aLaw (w : Bool) (a b : Int) (s t : ByteArray) : List D × GD.Heap := ([.agg [.int .i64 a, .int .i64 b], .str s, .str t], [])
def tLaw (w : Bool) (a b : Int) (s t : ByteArray) : Tab := fun k args H =>
  match k with
  | 30 => match args, H with | [], [] => some (.bool true, []) | _, _ => none
  | 38 => match args, H with | [.int .i64 _, .int .i64 _, .str _, .str _], [] => some (.bool w, []) | _, _ => none
  | _ => none

/-! ### function 11 -/
theorem lel_fn : Try.prog.funcs[(11 : Nat)]? = some (fnAt Try.prog 11) := by kernel_rfl
theorem lel_body : (fnAt Try.prog 11).body = some (bodyAt Try.prog 11) := by kernel_rfl
theorem lel_name : ((fnAt Try.prog 11).name == "runtime.NumGoroutine") = false := by kernel_rfl
noncomputable def lel_C (w : Bool) (a : Int) (b : Int) (s : ByteArray) (t : ByteArray) : Cf := cfg Try.prog (hintOf []) (tLaw w a b s t) (fun _ => false) 2 true (fun _ => false)
theorem lel_ok (w : Bool) (a : Int) (b : Int) (s : ByteArray) (t : ByteArray) : CfOk (lel_C w a b s t) := cfg_ok (by kernel_rfl)
noncomputable def lel_run (w : Bool) (a : Int) (b : Int) (s : ByteArray) (t : ByteArray) (qcur : Cur) (qk : List It) (qs : St) (qor : GD.Or) := runE (lel_C w a b s t) (callE (lel_C w a b s t) 100000 10) 11 100000 qcur qk qs qor []

theorem lel_in_0 {w : Bool} {a : Int} {b : Int} {s : ByteArray} {t : ByteArray}
    (h0 : Ret Try.prog (tyOf Try.prog) (38 : Nat) [D.int IntKind.i64 a, D.int IntKind.i64 b, D.str s, D.str t] [] (D.bool w) [])
    (h1 : Ret Try.prog (tyOf Try.prog) (30 : Nat) [] [] (D.bool true) []) :
    Ret Try.prog (tyOf Try.prog) 11 [D.agg [D.int IntKind.i64 a, D.int IntKind.i64 b], D.str s, D.str t] [] (D.bool w) [] :=
  fin_call lel_fn lel_body lel_name (fin_ret (h := 0) (lel_ok w a b s t) (show outF (tyOf Try.prog) (fnAt Try.prog 11) 0 (lel_run w a b s t (.code (bodyAt Try.prog 11)) [] (beginE (fnAt Try.prog 11) [D.agg [D.int IntKind.i64 a, D.int IntKind.i64 b], D.str s, D.str t] []) (.path [false])) = some (D.bool w, [],
    [Ret Try.prog (tyOf Try.prog) (38 : Nat) [D.int IntKind.i64 a, D.int IntKind.i64 b, D.str s, D.str t] [] (D.bool w) [],
      (0 : Int) ≤ (1 : Int) ∧ (1 : Int) < (↑(2 : Nat) : Int),
      (0 : Int) ≤ (0 : Int) ∧ (0 : Int) < (↑(2 : Nat) : Int),
      false = false,
      Ret Try.prog (tyOf Try.prog) (30 : Nat) [] [] (D.bool true) []]) by kernel_rfl)
    (all_cons.2 ⟨h0, all_cons.2 ⟨(by decide), all_cons.2 ⟨(by decide), all_cons.2 ⟨rfl, all_cons.2 ⟨h1, all_nil.2 trivial⟩⟩⟩⟩⟩))



def nv (k n : Int) (s : ByteArray) : Cs := valk.val k n s false [] false [] false []
def lv (l : Es) : Cs := valk.val 7 0 (ByteArray.mk #[]) false [] false [] true l
theorem cmp_n {k : Int} (hk : k = 4 ∨ k = 11) (a b : Int) (s t : ByteArray) : cmpV (nv k a s) (nv k b t) = sgnU a b := by
  unfold nv
  rw [cmpV_eq, lx_zero (sgn_self _)]
  unfold bodyV
  rw [if_pos (by omega)]
theorem cmp_t (s t : ByteArray) : cmpV (nv 5 0 s) (nv 5 0 t) = lexB s t := by
  unfold nv
  rw [cmpV_eq, lx_zero (sgn_self _)]
  unfold bodyV
  rw [if_neg (by omega), if_pos rfl]
theorem cmp_l (l m : Es) : cmpV (lv l) (lv m) = cmpLs l m := by
  unfold lv
  rw [cmpV_eq, lx_zero (sgn_self _)]
  unfold bodyV
  rw [if_neg (by omega), if_neg (by omega), if_neg (by omega), if_pos rfl]
theorem vs_n (k n : Int) (s : ByteArray) (hk : -9223372036854775808 ≤ k ∧ k ≤ 9223372036854775807) (hn : -9223372036854775808 ≤ n ∧ n ≤ 9223372036854775807) (hs : s.size ≤ maxLen) : VS (nv k n s) :=
  .mk k n s _ _ _ _ _ _ [] hk hn hs rfl (fun x hx => by cases hx) (by decide) (by decide) (by decide) (fun _ => rfl) (fun _ => rfl) (fun _ => rfl) (fun r hr => by cases hr) (fun nm c hc => by cases hc) (fun r hr => by cases hr)
theorem vs_l (l : Es) (hl : l.length ≤ maxLen) (h : ∀ r ∈ l, VS r) : VS (lv l) :=
  .mk 7 0 _ _ _ _ _ _ _ [] (by omega) (by omega) (by decide) rfl (fun x hx => by cases hx) (by decide) (by decide) hl (fun _ => rfl) (fun _ => rfl) (fun hx => by cases hx) (fun r hr => by cases hr) (fun nm c hc => by cases hc) h

theorem lex_cases (s t : ByteArray) : Op.bytesLess s.toList t.toList = true ∧ (Op.bytesLess s.toList t.toList || s.toList == t.toList) = true ∧ lexB s t = -1 ∨
    Op.bytesLess s.toList t.toList = false ∧ (Op.bytesLess s.toList t.toList || s.toList == t.toList) = true ∧ lexB s t = 0 ∨
    Op.bytesLess s.toList t.toList = false ∧ (Op.bytesLess s.toList t.toList || s.toList == t.toList) = false ∧ lexB s t = 1 := by
  obtain ⟨h1, h2⟩ := less_lex s.toList t.toList
  rcases lex_range s.toList t.toList with h | h | h
  · have hl := h1.2 h
    exact .inl ⟨hl, by rw [hl]; rfl, h⟩
  · have hl : Op.bytesLess s.toList t.toList = false := by
      cases hb : Op.bytesLess s.toList t.toList with
      | false => rfl
      | true => have := h1.1 hb; rw [h] at this; cases this
    have he := h2.2 h
    exact .inr (.inl ⟨hl, by rw [he]; simp, h⟩)
  · have hl : Op.bytesLess s.toList t.toList = false := by
      cases hb : Op.bytesLess s.toList t.toList with
      | false => rfl
      | true => have := h1.1 hb; rw [h] at this; cases this
    have hne : s.toList ≠ t.toList := fun e => by have := h2.1 e; rw [h] at this; cases this
    exact .inr (.inr ⟨hl, by rw [hl]; simpa using hne, h⟩)

theorem ret_true {k : Nat} {args : List D} {H H1 : GD.Heap} {z : Bool} (hz : z = true) (e : Ret P T k args H (.bool z) H1) : Ret P T k args H (.bool true) H1 := hz ▸ e

theorem law38 (a b : Int) (s t : ByteArray) (ha : -9223372036854775808 ≤ a ∧ a ≤ 9223372036854775807) (hb : -9223372036854775808 ≤ b ∧ b ≤ 9223372036854775807) (hs : s.size ≤ maxLen) (ht : t.size ≤ maxLen) :
    Ret P T 38 [.int .i64 a, .int .i64 b, .str s, .str t] [] (.bool true) [] := by
  by_cases h0 : ((s.size : Int)) > 1000
  · exact lnu_in_0 (byE := byE) h0 awake30
  by_cases h1 : ((t.size : Int)) > 1000
  · exact lnu_in_1 (byE := byE) h0 h1 awake30
  have e0 : (ByteArray.mk #[]).size ≤ maxLen := by decide
  have vx := vs_n 4 a _ (by omega) ha e0
  have vy := vs_n 4 b _ (by omega) hb e0
  have vd := vs_n 11 a _ (by omega) ha e0
  have ve := vs_n 11 b _ (by omega) hb e0
  have vu := vs_n 5 0 s (by omega) (by omega) hs
  have vv := vs_n 5 0 t (by omega) (by omega) ht
  have vsh := vs_l [nv 4 a (ByteArray.mk #[])] (by show 1 ≤ maxLen; decide) (fun r hr => by simp only [List.mem_cons, List.not_mem_nil, or_false] at hr; subst hr; exact vx)
  have vlo := vs_l [nv 4 a (ByteArray.mk #[]), nv 5 0 s] (by show 2 ≤ maxLen; decide) (fun r hr => by
    simp only [List.mem_cons, List.not_mem_nil, or_false] at hr
    rcases hr with rfl | rfl
    · exact vx
    · exact vu)
  have c1 := cmp32 vx vy
  have c2 := cmp32 vd ve
  have c3 := cmp32 vu vv
  have c4 := cmp32 vsh vlo
  have c5 := cmp32 vlo vsh
  have hBy := by39 true (ea := [nv 4 a (ByteArray.mk #[])]) true (eb := [nv 4 b (ByteArray.mk #[])]) true (ed := [[D.bool true]]) (fun r hr => by simp only [List.mem_cons, List.not_mem_nil, or_false] at hr; subst hr; exact vx) (fun r hr => by simp only [List.mem_cons, List.not_mem_nil, or_false] at hr; subst hr; exact vy)
    (fun r hr => by simp only [List.mem_cons, List.not_mem_nil, or_false] at hr; subst hr; exact ⟨true, rfl⟩) (by show 1 ≤ maxLen; decide) (by show 1 ≤ maxLen; decide)
  have f1 := cmp_n (k := 4) (.inl rfl) a b (ByteArray.mk #[]) (ByteArray.mk #[])
  have f2 := cmp_n (k := 11) (.inr rfl) a b (ByteArray.mk #[]) (ByteArray.mk #[])
  have f3 := cmp_t s t
  have f4 : cmpV (lv [nv 4 a (ByteArray.mk #[])]) (lv [nv 4 a (ByteArray.mk #[]), nv 5 0 s]) = -1 := by
    rw [cmp_l]; simp only [cmpLs]; exact lx_zero (cmp_self vx)
  have f5 : cmpV (lv [nv 4 a (ByteArray.mk #[]), nv 5 0 s]) (lv [nv 4 a (ByteArray.mk #[])]) = 1 := by
    rw [cmp_l]; simp only [cmpLs]; exact lx_zero (cmp_self vx)
  have f6 : byE [nv 4 a (ByteArray.mk #[])] [nv 4 b (ByteArray.mk #[])] [[D.bool true]] = -sgnU a b := by
    have : byE [nv 4 a (ByteArray.mk #[])] [nv 4 b (ByteArray.mk #[])] [[D.bool true]] = lx (-cmpV (nv 4 a (ByteArray.mk #[])) (nv 4 b (ByteArray.mk #[]))) 0 := rfl
    rw [this, f1]
    unfold lx
    split <;> omega
  rcases Int.lt_trichotomy a b with hlt | heq | hgt
  · have hsg : sgnU a b = -1 := sgn_lt hlt
    rw [hsg] at f1 f2 f6
    have hr : (byE [nv 4 a (ByteArray.mk #[])] [nv 4 b (ByteArray.mk #[])] [[D.bool true]] == IntKind.i64.wrap (0 - (-1))) = true := by rw [f6]; rfl
    rcases lex_cases s t with ⟨g1, g2, g3⟩ | ⟨g1, g2, g3⟩ | ⟨g1, g2, g3⟩ <;> rw [g3] at f3
    · exact ret_true hr (lnu_in_6 (byE := byE) h0 h1 hlt (by omega) g1 g2 f1 f2 f3 f4 f5 hBy c5 c4 c3 c2 c1 awake30)
    · exact ret_true hr (lnu_in_8 (byE := byE) h0 h1 hlt (by omega) g1 g2 f1 f2 f3 f4 f5 hBy c5 c4 c3 c2 c1 awake30)
    · exact ret_true hr (lnu_in_9 (byE := byE) h0 h1 hlt (by omega) g1 g2 f1 f2 f3 f4 f5 hBy c5 c4 c3 c2 c1 awake30)
  · have hsg : sgnU a b = 0 := sgn_eq heq
    rw [hsg] at f1 f2 f6
    have hr : (byE [nv 4 a (ByteArray.mk #[])] [nv 4 b (ByteArray.mk #[])] [[D.bool true]] == IntKind.i64.wrap (0 - (0))) = true := by rw [f6]; rfl
    rcases lex_cases s t with ⟨g1, g2, g3⟩ | ⟨g1, g2, g3⟩ | ⟨g1, g2, g3⟩ <;> rw [g3] at f3
    · exact ret_true hr (lnu_in_14 (byE := byE) h0 h1 (by omega) (by omega) g1 g2 f1 f2 f3 f4 f5 hBy c5 c4 c3 c2 c1 awake30)
    · exact ret_true hr (lnu_in_16 (byE := byE) h0 h1 (by omega) (by omega) g1 g2 f1 f2 f3 f4 f5 hBy c5 c4 c3 c2 c1 awake30)
    · exact ret_true hr (lnu_in_17 (byE := byE) h0 h1 (by omega) (by omega) g1 g2 f1 f2 f3 f4 f5 hBy c5 c4 c3 c2 c1 awake30)
  · have hsg : sgnU a b = 1 := sgn_gt hgt
    rw [hsg] at f1 f2 f6
    have hr : (byE [nv 4 a (ByteArray.mk #[])] [nv 4 b (ByteArray.mk #[])] [[D.bool true]] == IntKind.i64.wrap (0 - (1))) = true := by rw [f6]; rfl
    rcases lex_cases s t with ⟨g1, g2, g3⟩ | ⟨g1, g2, g3⟩ | ⟨g1, g2, g3⟩ <;> rw [g3] at f3
    · exact ret_true hr (lnu_in_10 (byE := byE) h0 h1 (by omega) hgt g1 g2 f1 f2 f3 f4 f5 hBy c5 c4 c3 c2 c1 awake30)
    · exact ret_true hr (lnu_in_12 (byE := byE) h0 h1 (by omega) hgt g1 g2 f1 f2 f3 f4 f5 hBy c5 c4 c3 c2 c1 awake30)
    · exact ret_true hr (lnu_in_13 (byE := byE) h0 h1 (by omega) hgt g1 g2 f1 f2 f3 f4 f5 hBy c5 c4 c3 c2 c1 awake30)

theorem law11 (a b : Int) (s t : ByteArray) (ha : -9223372036854775808 ≤ a ∧ a ≤ 9223372036854775807) (hb : -9223372036854775808 ≤ b ∧ b ≤ 9223372036854775807) (hs : s.size ≤ maxLen) (ht : t.size ≤ maxLen) :
    Ret P T 11 [.agg [.int .i64 a, .int .i64 b], .str s, .str t] [] (.bool true) [] := by
  exact lel_in_0 (w := true) (law38 a b s t ha hb hs ht) awake30

end Go.Proofs.Ytbkacmcijimbfaa.ordk
