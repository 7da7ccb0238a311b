/- DiskLeast: plain laws of numbers in use and numbers that are free. -/
import Derived.Test.YtifpbdhggooelaaHpL
namespace Go.Proofs.Ytifpbdhggooelaa.dsk
open Go Ytifpbdhggooelaa.GD
set_option linter.unusedVariables false
set_option linter.unusedSimpArgs false

theorem sub_len : ∀ {a b : List Int}, a.Nodup → (∀ x ∈ a, x ∈ b) → a.length ≤ b.length
  | [], b, _, _ => Nat.zero_le _
  | x :: a, b, hn, hs => by
    have hx := hs x (by simp)
    obtain ⟨h1, h2⟩ := List.nodup_cons.1 hn
    have := sub_len (a := a) (b := b.erase x) h2 (fun y hy => by
      have hne : y ≠ x := fun e => h1 (e ▸ hy)
      exact (List.mem_erase_of_ne hne).2 (hs y (by simp [hy])))
    rw [List.length_erase_of_mem hx] at this
    have hp := List.length_pos_of_mem hx
    simp; omega
theorem sub_all {a b : List Int} (hn : a.Nodup) (hs : ∀ x ∈ a, x ∈ b) (hl : b.length ≤ a.length) {y : Int} (hy : y ∈ b) : y ∈ a := by
  rcases Classical.em (y ∈ a) with h | h
  · exact h
  · have := sub_len (a := y :: a) (b := b) (List.nodup_cons.2 ⟨h, hn⟩) (fun x hx => by
      rcases List.mem_cons.1 hx with rfl | hx
      · exact hy
      · exact hs x hx)
    simp at this
    omega
def rgI (n : Nat) : List Int := (List.range n).map fun (i : Nat) => (i : Int)
theorem rgI_len (n : Nat) : (rgI n).length = n := by simp [rgI]
theorem rgI_mem {n : Nat} {x : Int} : x ∈ rgI n ↔ 0 ≤ x ∧ x < n := by
  unfold rgI
  constructor
  · intro h
    obtain ⟨i, hi, rfl⟩ := List.mem_map.1 h
    have := List.mem_range.1 hi
    omega
  · rintro ⟨h1, h2⟩
    exact List.mem_map.2 ⟨x.toNat, List.mem_range.2 (by omega), by omega⟩
theorem rgI_nodup (n : Nat) : (rgI n).Nodup := by
  unfold rgI
  refine List.Pairwise.map _ (fun a b hab => ?_) List.nodup_range
  intro e
  exact hab (by omega)

theorem find_none : ∀ {ks : List Int} {k : Int} {i : Nat}, findI ks k i = none ↔ k ∉ ks
  | [], k, i => by simp [findI]
  | a :: r, k, i => by
    unfold findI
    by_cases h : k = a
    · rw [if_pos h]; simp [h]
    · rw [if_neg h, find_none]; simp [h]
theorem findI_shift : ∀ (ks : List Int) (k : Int) (i : Nat), findI ks k (i + 1) = (findI ks k i).map (· + 1)
  | [], k, i => rfl
  | a :: r, k, i => by
    unfold findI
    by_cases h : k = a
    · rw [if_pos h, if_pos h]; rfl
    · rw [if_neg h, if_neg h]; exact findI_shift r k (i + 1)
theorem delK_erase : ∀ {ks : List Int} {k : Int}, k ∈ ks → delK ks k = ks.erase k
  | [], k, h => by cases h
  | a :: r, k, h => by
    by_cases e : k = a
    · subst e
      unfold delK findI
      rw [if_pos rfl, List.erase_cons_head]
      rfl
    · have hr : k ∈ r := by
        rcases List.mem_cons.1 h with h | h
        · exact absurd h e
        · exact h
      have ih := delK_erase hr
      unfold delK at ih ⊢
      unfold findI
      rw [if_neg e, findI_shift]
      cases hf : findI r k 0 with
      | none => exact absurd (find_none.1 hf) (fun h => h hr)
      | some j =>
        rw [hf] at ih
        simp only [Option.map_some, Option.getD_some] at ih ⊢
        rw [List.eraseIdx_cons_succ, ih, List.erase_cons_tail (by simpa using fun h => e h.symm)]

/-- What holds between two operations: numbers in use, numbers that are free (a heap), how many were ever in use. -/
structure Inv (n hi : Nat) (ks l : List Int) : Prop where
  n1 : 1 ≤ n
  n12 : n ≤ 12
  hn : hi ≤ n
  kd : ks.Nodup
  kr : ∀ k ∈ ks, 0 ≤ k ∧ k < (hi : Int)
  ld : l.Nodup
  lm : ∀ x, x ∈ l ↔ (0 ≤ x ∧ x < (hi : Int)) ∧ x ∉ ks
  hp : HP l l.length

variable {n hi : Nat} {ks l : List Int}
theorem Inv.llen (h : Inv n hi ks l) : l.length ≤ 12 := by
  have := sub_len (b := rgI hi) h.ld (fun x hx => rgI_mem.2 ((h.lm x).1 hx).1)
  rw [rgI_len] at this
  have := h.hn; have := h.n12
  omega
theorem Inv.start (n1 : 1 ≤ n) (n12 : n ≤ 12) : Inv n 0 [] [] :=
  ⟨n1, n12, by omega, List.nodup_nil, fun k hk => (by cases hk), List.nodup_nil, fun x => ⟨fun h => (by cases h), fun h => (by have := h.1; simp at this; omega)⟩, fun i h1 h2 => by simp at h2⟩
theorem gt_mem {l : List Int} {i : Nat} (h : i < l.length) : gt l i ∈ l := by
  unfold gt
  rw [List.getD_eq_getElem?_getD, List.getElem?_eq_getElem h]
  exact List.getElem_mem h
theorem mem_gt {l : List Int} {x : Int} (h : x ∈ l) : ∃ i, i < l.length ∧ gt l i = x := by
  obtain ⟨i, hi, rfl⟩ := List.getElem_of_mem h
  exact ⟨i, hi, by unfold gt; rw [List.getD_eq_getElem?_getD, List.getElem?_eq_getElem hi]; rfl⟩

/-- All are in use just when there are as many. -/
theorem Inv.full (h : Inv n hi ks l) : (∀ j : Nat, j < n → (j : Int) ∈ ks) ↔ n ≤ ks.length := by
  constructor
  · intro hall
    have := sub_len (b := ks) (rgI_nodup n) (fun x hx => by
      obtain ⟨h1, h2⟩ := rgI_mem.1 hx
      have := hall x.toNat (by omega)
      rwa [Int.toNat_of_nonneg h1] at this)
    rwa [rgI_len] at this
  · intro hl j hj
    refine sub_all (b := rgI n) h.kd (fun x hx => rgI_mem.2 ?_) (by rw [rgI_len]; exact hl) (rgI_mem.2 ⟨by omega, by omega⟩)
    have := h.kr x hx
    have := h.hn
    omega
/-- A number that is in use is given back. -/
theorem Inv.free (h : Inv n hi ks l) {k : Int} (hk : k ∈ ks) {l' : List Int} (hp : l'.Perm (l ++ [k])) (hh : HP l' (l.length + 1)) : Inv n hi (delK ks k) l' := by
  have hl : l'.length = l.length + 1 := by rw [hp.length_eq]; simp
  have hkl : k ∉ l := fun hx => ((h.lm k).1 hx).2 hk
  refine ⟨h.n1, h.n12, h.hn, ?_, ?_, ?_, ?_, by rw [hl]; exact hh⟩
  · rw [delK_erase hk]; exact h.kd.erase _
  · intro x hx
    rw [delK_erase hk] at hx
    exact h.kr x (List.mem_of_mem_erase hx)
  · rw [hp.nodup_iff, List.nodup_append]
    exact ⟨h.ld, by simp, fun a ha b hb => by
      simp at hb
      subst hb
      intro e; subst e; exact hkl ha⟩
  · intro x
    rw [hp.mem_iff, delK_erase hk, h.kd.mem_erase_iff]
    simp only [List.mem_append, List.mem_singleton, h.lm]
    constructor
    · rintro (⟨h1, h2⟩ | rfl)
      · exact ⟨h1, fun h3 => h2 h3.2⟩
      · exact ⟨h.kr _ hk, fun h3 => h3.1 rfl⟩
    · rintro ⟨h1, h2⟩
      by_cases e : x = k
      · exact .inr e
      · exact .inl ⟨h1, fun h3 => h2 ⟨e, h3⟩⟩
/-- The least number that is free is on top. -/
theorem Inv.top (h : Inv n hi ks l) (h0 : 0 < l.length) {w : Nat} (hw : ∀ j : Nat, j < w → (j : Int) ∈ ks) (hwk : (w : Int) ∉ ks) : gt l 0 = w := by
  obtain ⟨h1, h2⟩ := (h.lm _).1 (gt_mem h0)
  have hge : (w : Int) ≤ gt l 0 := by
    rcases Int.lt_or_le (gt l 0) w with h3 | h3
    · exact absurd (by have := hw (gt l 0).toNat (by omega); rwa [Int.toNat_of_nonneg h1.1] at this) h2
    · exact h3
  have hwl : (w : Int) ∈ l := (h.lm _).2 ⟨⟨by omega, by omega⟩, hwk⟩
  obtain ⟨i, hi, e⟩ := mem_gt hwl
  have := hp_least h.hp i hi
  omega
theorem Inv.pop (h : Inv n hi ks l) (h0 : 0 < l.length) {m : List Int} (hp : (m ++ [gt l 0]).Perm l) (hh : HP m m.length) : Inv n hi (ks ++ [gt l 0]) m := by
  have hmem := (h.lm _).1 (gt_mem h0)
  have hnd : (m ++ [gt l 0]).Nodup := hp.nodup_iff.2 h.ld
  rw [List.nodup_append] at hnd
  obtain ⟨hm1, _, hm2⟩ := hnd
  refine ⟨h.n1, h.n12, h.hn, ?_, ?_, hm1, ?_, hh⟩
  · rw [List.nodup_append]
    exact ⟨h.kd, by simp, fun a ha b hb => by
      simp at hb
      subst hb
      intro e; exact hmem.2 (e ▸ ha)⟩
  · intro k hk
    rcases List.mem_append.1 hk with hk | hk
    · exact h.kr k hk
    · rw [List.mem_singleton.1 hk]; exact hmem.1
  · intro x
    have hx := hp.mem_iff (a := x)
    rw [List.mem_append, List.mem_singleton, h.lm] at hx
    rw [List.mem_append, List.mem_singleton]
    constructor
    · intro hxm
      obtain ⟨q1, q2⟩ := hx.1 (.inl hxm)
      exact ⟨q1, fun q3 => q3.elim q2 (fun e => hm2 x hxm _ (by simp) e)⟩
    · rintro ⟨q1, q2⟩
      rcases hx.2 ⟨q1, fun q => q2 (.inl q)⟩ with q | q
      · exact q
      · exact absurd (.inr q) q2
/-- Where none is free below, the next one is the least. -/
theorem Inv.next (h : Inv n hi ks l) (h0 : l.length = 0) {w : Nat} (hw : ∀ j : Nat, j < w → (j : Int) ∈ ks) (hwk : (w : Int) ∉ ks) : hi = w := by
  have hl : l = [] := List.length_eq_zero_iff.1 h0
  have hall : ∀ j : Nat, j < hi → (j : Int) ∈ ks := by
    intro j hj
    rcases Classical.em ((j : Int) ∈ ks) with h1 | h1
    · exact h1
    · have := (h.lm (j : Int)).2 ⟨⟨by omega, by omega⟩, h1⟩
      rw [hl] at this
      cases this
  have h1 : ¬ w < hi := fun hlt => hwk (hall w hlt)
  have h2 : ¬ hi < w := fun hlt => by
    have := h.kr _ (hw hi hlt)
    omega
  omega
theorem Inv.high (h : Inv n hi ks l) (h0 : l.length = 0) (hn : hi < n) : Inv n (hi + 1) (ks ++ [(hi : Int)]) l := by
  have hl : l = [] := List.length_eq_zero_iff.1 h0
  have hk : (hi : Int) ∉ ks := fun hk => by have := h.kr _ hk; omega
  refine ⟨h.n1, h.n12, hn, ?_, ?_, h.ld, ?_, h.hp⟩
  · rw [List.nodup_append]
    exact ⟨h.kd, by simp, fun a ha b hb => by
      simp at hb
      subst hb
      intro e; exact hk (e ▸ ha)⟩
  · intro k hk'
    rcases List.mem_append.1 hk' with hk' | hk'
    · have := h.kr k hk'; omega
    · rw [List.mem_singleton.1 hk']; omega
  · intro x
    rw [hl]
    refine ⟨fun hx => (by cases hx), ?_⟩
    rintro ⟨q1, q2⟩
    exfalso
    simp only [List.mem_append, List.mem_singleton, not_or] at q2
    have := (h.lm x).2 ⟨⟨q1.1, by omega⟩, q2.1⟩
    rw [hl] at this
    cases this

end Go.Proofs.Ytifpbdhggooelaa.dsk
