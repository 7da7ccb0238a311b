/- Cut gives the first of the least. -/
import Derived.Test.YtbkacmcijimbfaaOrdT
namespace Go.Proofs.Ytbkacmcijimbfaa.ordk
open Go Ytbkacmcijimbfaa.GD valk
set_option linter.unusedVariables false
set_option linter.unusedSimpArgs false
set_option maxRecDepth 100000

def od (dn : Bool) (a b : Cs) : Int := if dn then cmpV b a else cmpV a b
theorem od_Q (dn : Bool) {a b c : Cs} (ha : VS a) (hb : VS b) (hc : VS c) : Q (od dn a b) (od dn b c) (od dn a c) := by
  cases dn with
  | false => exact cmp_Q ha hb hc
  | true =>
    have h := cmp_Q hc hb ha
    refine ⟨fun h1 h2 => ?_, fun h1 h2 => h.2 h2 h1⟩
    have h3 := h.1 h2 h1
    exact ⟨h3.1, fun e => ⟨(h3.2 e).2, (h3.2 e).1⟩⟩
theorem od_neg (dn : Bool) {a b : Cs} (ha : VS a) (hb : VS b) : od dn b a = -od dn a b := by
  cases dn with
  | false => exact (cmp_R ha hb).2
  | true => exact (cmp_R hb ha).2
theorem cutL_cons (dn : Bool) {best x : Cs} (r : Es) (hb : VS best) (hx : VS x) : cutL dn best (x :: r) = cutL dn (if od dn x best < 0 then x else best) r := by
  rw [cutL]
  congr 1
  have h := (cmp_R hx hb).2
  cases dn with
  | false => rfl
  | true =>
    by_cases hp : cmpV x best > 0
    · rw [if_pos (by simpa using hp), if_pos (by show cmpV best x < 0; omega)]
    · rw [if_neg (by simpa using hp), if_neg (by show ¬ cmpV best x < 0; omega)]

theorem cut_first (dn : Bool) : ∀ (l : Es) (best : Cs), VS best → (∀ r ∈ l, VS r) →
    (∀ x ∈ best :: l, ¬ od dn x (cutL dn best l) < 0) ∧ ∃ l1 l2, best :: l = l1 ++ cutL dn best l :: l2 ∧ ∀ y ∈ l1, od dn y (cutL dn best l) ≠ 0
  | [], best, hb, _ => by
    have h := od_neg dn hb hb
    refine ⟨fun x hx => ?_, [], [], rfl, fun y hy => by cases hy⟩
    simp only [List.mem_cons, List.not_mem_nil, or_false] at hx
    subst hx
    show ¬ od dn x x < 0
    omega
  | x :: r, best, hb, hl => by
    have hx := hl x (by simp)
    have hr : ∀ y ∈ r, VS y := fun y hy => hl y (List.mem_cons_of_mem _ hy)
    rw [cutL_cons dn r hb hx]
    by_cases hc : od dn x best < 0
    · rw [if_pos hc]
      obtain ⟨h1, l1, l2, h2, h3⟩ := cut_first dn r x hx hr
      have hA := vs_cutL dn r x hx hr
      generalize cutL dn x r = A at *
      have a1 := h1 x (by simp)
      have n1 := od_neg dn hx hA
      have n2 := od_neg dn hb hA
      have q := od_Q dn hA hx hb
      have q1 := q.1 (by omega) (by omega)
      refine ⟨fun y hy => ?_, best :: l1, l2, by rw [h2]; rfl, fun y hy => ?_⟩
      · rcases List.mem_cons.1 hy with rfl | hy
        · omega
        · exact h1 y hy
      · rcases List.mem_cons.1 hy with rfl | hy
        · intro e
          have := (q1.2 (by omega)).2
          omega
        · exact h3 y hy
    · rw [if_neg hc]
      obtain ⟨h1, l1, l2, h2, h3⟩ := cut_first dn r best hb hr
      have hA := vs_cutL dn r best hb hr
      generalize cutL dn best r = A at *
      have a1 := h1 best (by simp)
      have n1 := od_neg dn hb hA
      have n2 := od_neg dn hx hA
      have n3 := od_neg dn hx hb
      have q := od_Q dn hA hb hx
      have q1 := q.1 (by omega) (by omega)
      refine ⟨fun y hy => ?_, ?_⟩
      · rcases List.mem_cons.1 hy with rfl | hy
        · exact a1
        · rcases List.mem_cons.1 hy with rfl | hy
          · omega
          · exact h1 y (List.mem_cons_of_mem _ hy)
      · cases l1 with
        | nil =>
          simp only [List.nil_append, List.cons.injEq] at h2
          exact ⟨[], x :: r, by rw [h2.1]; rfl, fun y hy => by cases hy⟩
        | cons z l1 =>
          simp only [List.cons_append, List.cons.injEq] at h2
          obtain ⟨rfl, h2⟩ := h2
          refine ⟨best :: x :: l1, l2, by rw [h2]; rfl, fun y hy => ?_⟩
          have hbA := h3 best (by simp)
          rcases List.mem_cons.1 hy with rfl | hy
          · exact hbA
          · rcases List.mem_cons.1 hy with rfl | hy
            · intro e
              have := (q1.2 (by omega)).1
              omega
            · exact h3 y (by simp [hy])

/-- Of a list that is not empty, from its first item on. -/
theorem cut_list (dn : Bool) {l : Es} (h0 : l ≠ []) (hl : ∀ r ∈ l, VS r) :
    (∀ x ∈ l, ¬ od dn x (cutL dn (valAt l 0) l) < 0) ∧ ∃ l1 l2, l = l1 ++ cutL dn (valAt l 0) l :: l2 ∧ ∀ y ∈ l1, od dn y (cutL dn (valAt l 0) l) ≠ 0 := by
  cases l with
  | nil => exact absurd rfl h0
  | cons x r =>
    have hx := hl x (by simp)
    have e : valAt (x :: r) 0 = x := rfl
    have n := od_neg dn hx hx
    rw [e, cutL_cons dn r hx hx, if_neg (by omega)]
    exact cut_first dn r x hx (fun y hy => hl y (List.mem_cons_of_mem _ hy))

end Go.Proofs.Ytbkacmcijimbfaa.ordk
