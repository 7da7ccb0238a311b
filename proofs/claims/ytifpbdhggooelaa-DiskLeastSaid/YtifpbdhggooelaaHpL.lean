/- Heaps of whole numbers, as rows: plain laws. -/
import Derived.Test.YtifpbdhggooelaaHpA
namespace Go.Proofs.Ytifpbdhggooelaa.dsk
open Go Ytifpbdhggooelaa.GD
set_option linter.unusedVariables false
set_option linter.unusedSimpArgs false

def gt (l : List Int) (i : Nat) : Int := l.getD i 0
def swp (l : List Int) (i j : Nat) : List Int := (l.set i (gt l j)).set j (gt l i)
theorem swp_len (l : List Int) (i j : Nat) : (swp l i j).length = l.length := by simp [swp]
theorem gt_set {l : List Int} {i k : Nat} {v : Int} (h : i < l.length) : gt (l.set i v) k = if k = i then v else gt l k := by
  unfold gt
  rw [List.getD_eq_getElem?_getD, List.getD_eq_getElem?_getD, List.getElem?_set]
  by_cases e : i = k
  · subst e; simp [h]
  · rw [if_neg e, if_neg (fun h => e h.symm)]
theorem gt_swp {l : List Int} {i j k : Nat} (hi : i < l.length) (hj : j < l.length) : gt (swp l i j) k = if k = j then gt l i else if k = i then gt l j else gt l k := by
  unfold swp
  rw [gt_set (by simpa using hj), gt_set hi]
theorem swp_perm {l : List Int} {i j : Nat} (hi : i < l.length) (hj : j < l.length) : (swp l i j).Perm l := by
  unfold swp gt
  rw [List.getD_eq_getElem?_getD, List.getD_eq_getElem?_getD, List.getElem?_eq_getElem hi, List.getElem?_eq_getElem hj]
  exact List.set_set_perm hi hj
theorem gt_app {l r : List Int} {i : Nat} (h : i < l.length) : gt (l ++ r) i = gt l i := by
  unfold gt
  rw [List.getD_eq_getElem?_getD, List.getD_eq_getElem?_getD, List.getElem?_append_left h]

/-- A heap: none is below its parent. -/
def HP (l : List Int) (n : Nat) : Prop := ∀ i, 0 < i → i < n → gt l ((i - 1) / 2) ≤ gt l i
/-- A heap but for what is at j, which may be below its parent. -/
def UP (l : List Int) (n j : Nat) : Prop := (∀ i, 0 < i → i < n → i ≠ j → gt l ((i - 1) / 2) ≤ gt l i) ∧ (∀ i, 0 < i → i < n → (i - 1) / 2 = j → 0 < j → gt l ((j - 1) / 2) ≤ gt l i)
/-- A heap but for what is at i, which may be above its children. -/
def DN (l : List Int) (n i : Nat) : Prop := (∀ k, 0 < k → k < n → (k - 1) / 2 ≠ i → gt l ((k - 1) / 2) ≤ gt l k) ∧ (∀ k, 0 < k → k < n → (k - 1) / 2 = i → 0 < i → gt l ((i - 1) / 2) ≤ gt l k)

theorem up_zero {l : List Int} {n : Nat} (h : UP l n 0) : HP l n := fun i h1 h2 => h.1 i h1 h2 (by omega)
theorem up_stop {l : List Int} {n j : Nat} (h : UP l n j) (hj : gt l ((j - 1) / 2) ≤ gt l j) : HP l n := by
  intro i h1 h2
  by_cases e : i = j
  · subst e; exact hj
  · exact h.1 i h1 h2 e
theorem up_step {l : List Int} {n j : Nat} (h : UP l n j) (hn : n ≤ l.length) (hj : 0 < j) (hjn : j < n) (hlt : gt l j < gt l ((j - 1) / 2)) : UP (swp l ((j - 1) / 2) j) n ((j - 1) / 2) := by
  have hp : (j - 1) / 2 < j := by omega
  have G : ∀ k, gt (swp l ((j - 1) / 2) j) k = if k = j then gt l ((j - 1) / 2) else if k = (j - 1) / 2 then gt l j else gt l k := fun k => gt_swp (by omega) (by omega)
  constructor
  · intro i h1 h2 h3
    rw [G, G]
    by_cases e1 : i = j
    · subst e1
      rw [if_neg (by omega), if_pos rfl, if_pos rfl]; omega
    · rw [if_neg e1, if_neg h3]
      by_cases e2 : (i - 1) / 2 = j
      · rw [if_pos e2]; exact h.2 i h1 h2 e2 hj
      · rw [if_neg e2]
        have := h.1 i h1 h2 e1
        by_cases e3 : (i - 1) / 2 = (j - 1) / 2
        · rw [if_pos e3]; rw [e3] at this; omega
        · rw [if_neg e3]; exact this
  · intro i h1 h2 h3 h4
    rw [G, G]
    rw [if_neg (by omega), if_neg (by omega)]
    have hpp := h.1 ((j - 1) / 2) h4 (by omega) (by omega)
    by_cases e1 : i = j
    · rw [if_pos e1]; exact hpp
    · rw [if_neg e1, if_neg (by omega)]
      have := h.1 i h1 h2 e1
      rw [h3] at this
      omega

theorem dn_none {l : List Int} {n i : Nat} (h : DN l n i) (hc : n ≤ 2 * i + 1) : HP l n := fun k h1 h2 => h.1 k h1 h2 (by omega)
theorem dn_stop {l : List Int} {n i : Nat} (h : DN l n i) (h1 : gt l i ≤ gt l (2 * i + 1)) (h2 : 2 * i + 2 < n → gt l i ≤ gt l (2 * i + 2)) : HP l n := by
  intro k h3 h4
  by_cases e : (k - 1) / 2 = i
  · rw [e]
    by_cases e2 : k = 2 * i + 1
    · subst e2; exact h1
    · have : k = 2 * i + 2 := by omega
      subst this; exact h2 h4
  · exact h.1 k h3 h4 e
theorem dn_step {l : List Int} {n i j : Nat} (h : DN l n i) (hn : n ≤ l.length) (hj : j = 2 * i + 1 ∨ j = 2 * i + 2) (hjn : j < n) (hlt : gt l j < gt l i)
    (ho : ∀ k, 0 < k → k < n → (k - 1) / 2 = i → gt l j ≤ gt l k) : DN (swp l i j) n j := by
  have hp : (j - 1) / 2 = i := by omega
  have G : ∀ k, gt (swp l i j) k = if k = j then gt l i else if k = i then gt l j else gt l k := fun k => gt_swp (by omega) (by omega)
  constructor
  · intro k h1 h2 h3
    rw [G, G, if_neg h3]
    by_cases e1 : (k - 1) / 2 = i
    · rw [if_pos e1]
      by_cases e2 : k = j
      · rw [if_pos e2]; omega
      · rw [if_neg e2, if_neg (by omega)]; exact ho k h1 h2 e1
    · rw [if_neg e1]
      rw [if_neg (by intro e; subst e; exact e1 hp)]
      by_cases e3 : k = i
      · subst e3
        rw [if_pos rfl]
        exact h.2 j (by omega) hjn hp h1
      · rw [if_neg e3]; exact h.1 k h1 h2 e1
  · intro k h1 h2 h3 h4
    rw [G, G, hp, if_neg (by omega), if_pos rfl, if_neg (by omega), if_neg (by omega)]
    have := h.1 k h1 h2 (by omega)
    rw [h3] at this
    exact this

/-- Put behind a heap: all is in order but for what is last. -/
theorem up_of {l : List Int} {x : Int} (h : HP l l.length) : UP (l ++ [x]) (l.length + 1) l.length := by
  constructor
  · intro i h1 h2 h3
    rw [gt_app (by omega), gt_app (by omega)]
    exact h i h1 (by omega)
  · intro i h1 h2 h3 h4
    omega
/-- The first and the last exchanged: all ahead of the last is in order but for what is first. -/
theorem dn_of {l : List Int} (h : HP l l.length) (h0 : 0 < l.length) : DN (swp l 0 (l.length - 1)) (l.length - 1) 0 := by
  have G : ∀ k, gt (swp l 0 (l.length - 1)) k = if k = l.length - 1 then gt l 0 else if k = 0 then gt l (l.length - 1) else gt l k := fun k => gt_swp (by omega) (by omega)
  constructor
  · intro k h1 h2 h3
    rw [G, G, if_neg (by omega), if_neg h3, if_neg (by omega), if_neg (by omega)]
    exact h k h1 (by omega)
  · intro k h1 h2 h3 h4
    omega
/-- The first is the least. -/
theorem hp_least {l : List Int} {n : Nat} (h : HP l n) : ∀ i, i < n → gt l 0 ≤ gt l i := by
  intro i
  induction i using Nat.strongRecOn with
  | _ i ih =>
    intro hi
    by_cases e : i = 0
    · subst e; omega
    · have h1 := h i (by omega) hi
      have h2 := ih ((i - 1) / 2) (by omega) (by omega)
      omega

end Go.Proofs.Ytifpbdhggooelaa.dsk
