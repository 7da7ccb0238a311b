/- Calls that are handed some of the objects: there and back. -/
import Derived.Test.YtifpbdhggooelaaGd20
namespace Go.Proofs.Ytifpbdhggooelaa.GD
open Go
set_option linter.unusedVariables false
set_option linter.unusedSimpArgs false

variable {P : Program} {T : Tys}

theorem idx_get : ∀ {fp : List Nat} {n o j : Nat}, idx fp n o = some j → n ≤ j ∧ fp[j - n]? = some o
  | [], n, o, j, h => by simp [idx] at h
  | p :: r, n, o, j, h => by
    simp only [idx] at h
    split at h
    · rename_i e
      simp only [Option.some.injEq] at h
      subst h; subst e
      simp
    · obtain ⟨h1, h2⟩ := idx_get h
      refine ⟨by omega, ?_⟩
      rw [show j - n = (j - (n + 1)) + 1 by omega]
      simpa using h2

def subMu (μ : List Loc) (fp : List Nat) : List Loc := fp.map fun p => (μ[p]?).getD ⟨0, 0, 0, 0, false⟩

theorem subMu_get {μ : List Loc} {fp : List Nat} (hlt : ∀ p ∈ fp, p < μ.length) {j p : Nat} (hj : fp[j]? = some p) : (subMu μ fp)[j]? = μ[p]? := by
  have : p < μ.length := hlt p (List.mem_of_getElem? hj)
  simp [subMu, hj, List.getElem?_eq_getElem this]

theorem hget_getElem? {H : Heap} {o : Nat} {x : HObj} : hget H o = some x ↔ H[o]? = some (some x) := by
  unfold hget
  rw [List.getD_eq_getElem?_getD]
  cases H[o]? <;> simp

section
variable {I : Im} {w : World} {μ : List Loc} {H : Heap}

theorem nodup_get {fp : List Nat} (hnd : fp.Nodup) {i j p : Nat} (hi : fp[i]? = some p) (hj : fp[j]? = some p) : i = j := by
  obtain ⟨h1, e1⟩ := List.getElem?_eq_some_iff.1 hi
  obtain ⟨h2, e2⟩ := List.getElem?_eq_some_iff.1 hj
  exact (List.getElem_inj hnd).1 (e1.trans e2.symm)

/-- The heap that a callee is handed. -/
theorem sub_some {fp : List Nat} {H0 : Heap} (h0 : renH (idx fp 0) (fp.map (hget H)) = some H0) {j : Nat} {x' : HObj} (hx : hget H0 j = some x') :
    ∃ p y, fp[j]? = some p ∧ hget H p = some y ∧ renO (idx fp 0) (some y) = some (some x') := by
  obtain ⟨_, k⟩ := renH_get h0
  obtain ⟨d, h1, h2⟩ := k j _ (hget_getElem?.1 hx)
  obtain ⟨y, rfl, h3⟩ := renO_some h2
  rw [List.getElem?_map] at h1
  obtain ⟨p, hp, hy⟩ := Option.map_eq_some_iff.1 h1
  exact ⟨p, y, hp, hy, h3⟩

theorem sub_hmu {fp : List Nat} (hw : WOk I w μ H) (hlt : ∀ p ∈ fp, p < H.length) : ∀ o j m, idx fp 0 o = some j → μ[o]? = some m → (subMu μ fp)[j]? = some m := by
  intro o j m h1 h2
  obtain ⟨_, h3⟩ := idx_get h1
  rw [subMu_get (fun p hp => by rw [hw.len]; exact hlt p hp) (by simpa using h3), h2]

theorem sub_ok {fp : List Nat} {H0 : Heap} (hw : WOk I w μ H) (hnd : fp.Nodup) (hlt : ∀ p ∈ fp, p < H.length) (h0 : renH (idx fp 0) (fp.map (hget H)) = some H0) :
    WOk I w (subMu μ fp) H0 := by
  have hlt' : ∀ p ∈ fp, p < μ.length := fun p hp => by rw [hw.len]; exact hlt p hp
  have hlen : H0.length = fp.length := by have := (renH_get h0).1; simpa using this
  have key : ∀ j x', hget H0 j = some x' → ∃ p y m, fp[j]? = some p ∧ hget H p = some y ∧ μ[p]? = some m ∧ (subMu μ fp)[j]? = some m ∧ ObjOk I w (subMu μ fp) m x' ∧ x'.owns m = y.owns m := by
    intro j x' hx
    obtain ⟨p, y, hp, hy, hr⟩ := sub_some h0 hx
    obtain ⟨m, hm, hok⟩ := hw.obj p y hy
    obtain ⟨k1, k2⟩ := renO_ok (sub_hmu hw hlt) hr hok
    exact ⟨p, y, m, hp, hy, hm, by rw [subMu_get hlt' hp, hm], k1, k2⟩
  refine ⟨by simp [subMu, hlen], fun j x' hx => ?_, fun j j' x x' m m' hne hx hx' hm hm' o1 o2 => ?_, hw.imm, fun j m hx hm => ?_, hw.glb⟩
  · obtain ⟨p, y, m, _, _, _, h4, h5, _⟩ := key j x' hx
    exact ⟨m, h4, h5⟩
  · obtain ⟨p, y, n, a1, a2, a3, a4, _, a5⟩ := key j x hx
    obtain ⟨p', y', n', b1, b2, b3, b4, _, b5⟩ := key j' x' hx'
    rw [hm] at a4; obtain rfl := Option.some.inj a4
    rw [hm'] at b4; obtain rfl := Option.some.inj b4
    refine hw.inj p p' y y' m m' (fun e => ?_) a2 b2 a3 b3 (a5 ▸ o1) (b5 ▸ o2)
    subst e
    exact hne (nodup_get hnd a1 b1)
  · have hj : j < fp.length := by
      have := (List.getElem?_eq_some_iff.1 hm).1
      simpa [subMu] using this
    have hp : fp[j]? = some fp[j] := List.getElem?_eq_getElem hj
    rw [subMu_get hlt' hp] at hm
    refine hw.dum fp[j] m ?_ hm
    have hj0 : j < H0.length := by omega
    have he : H0[j]? = some H0[j] := List.getElem?_eq_getElem hj0
    have hn : H0[j] = none := by
      unfold hget at hx
      rw [List.getD_eq_getElem?_getD, he] at hx
      exact hx
    obtain ⟨d, g1, g2⟩ := (renH_get h0).2 j _ he
    rw [hn] at g2
    have := renO_none g2
    subst this
    simp only [List.getElem?_map, hp, Option.map_some, Option.some.injEq] at g1
    exact g1

theorem sub_own {fp : List Nat} {H0 : Heap} (hw : WOk I w μ H) (hlt : ∀ p ∈ fp, p < H.length) (h0 : renH (idx fp 0) (fp.map (hget H)) = some H0) {b : Nat}
    (h : Own H0 (subMu μ fp) b) : ∃ p y m, p ∈ fp ∧ hget H p = some y ∧ μ[p]? = some m ∧ y.owns m = true ∧ m.b = b := by
  obtain ⟨j, x', m, hx, hm, ho, rfl⟩ := h
  obtain ⟨p, y, hp, hy, hr⟩ := sub_some h0 hx
  rw [subMu_get (fun p hp => by rw [hw.len]; exact hlt p hp) hp] at hm
  obtain ⟨m', hm', hok⟩ := hw.obj p y hy
  rw [hm] at hm'
  obtain rfl := Option.some.inj hm'
  exact ⟨p, y, m, List.mem_of_getElem? hp, hy, hm, by rw [← (renO_ok (sub_hmu hw hlt) hr hok).2]; exact ho, rfl⟩

end

theorem setAll_not {α : Type} : ∀ {W : List (Nat × α)} {l : List α} {o : Nat}, (∀ x, (o, x) ∉ W) → (setAll l W)[o]? = l[o]?
  | [], l, o, h => rfl
  | (p, x) :: r, l, o, h => by
    simp only [setAll]
    rw [setAll_not (fun y hy => h y (List.mem_cons_of_mem _ hy)), List.getElem?_set_ne]
    rintro rfl
    exact h x (by simp)

theorem setAll_len {α : Type} : ∀ (W : List (Nat × α)) (l : List α), (setAll l W).length = l.length
  | [], l => rfl
  | (p, x) :: r, l => by simp only [setAll]; rw [setAll_len]; simp

theorem setAll_mem {α : Type} : ∀ {W : List (Nat × α)} {l : List α} {o : Nat} {x : α}, (o, x) ∈ W → (∀ y, (o, y) ∈ W → y = x) → o < l.length → (setAll l W)[o]? = some x
  | [], l, o, x, h, _, _ => by simp at h
  | (p, y) :: r, l, o, x, h, hu, hl => by
    simp only [setAll]
    by_cases hr : ∃ z, (o, z) ∈ r
    · obtain ⟨z, hz⟩ := hr
      have : z = x := hu z (List.mem_cons_of_mem _ hz)
      subst this
      exact setAll_mem hz (fun y hy => hu y (List.mem_cons_of_mem _ hy)) (by simpa using hl)
    · rw [setAll_not (fun z hz => hr ⟨z, hz⟩)]
      rcases List.mem_cons.1 h with h | h
      · injection h with e1 e2
        subst e1; subst e2
        simp [hl]
      · exact absurd ⟨x, h⟩ hr

theorem wrB_mem {ρ : Nat → Option Nat} {α : Type} : ∀ {l : List α} {n : Nat} {o : Nat} {x : α}, (o, x) ∈ wrB ρ n l ↔ ∃ i, l[i]? = some x ∧ ρ (n + i) = some o
  | [], n, o, x => by simp [wrB]
  | y :: r, n, o, x => by
    have ih := wrB_mem (ρ := ρ) (l := r) (n := n + 1) (o := o) (x := x)
    have hs : (∃ i, r[i]? = some x ∧ ρ (n + 1 + i) = some o) ↔ ∃ i, (y :: r)[i + 1]? = some x ∧ ρ (n + (i + 1)) = some o := by
      constructor <;> rintro ⟨i, h1, h2⟩
      · exact ⟨i, by simpa using h1, by rw [show n + (i + 1) = n + 1 + i by omega]; exact h2⟩
      · exact ⟨i, by simpa using h1, by rw [show n + 1 + i = n + (i + 1) by omega]; exact h2⟩
    have hsplit : (∃ i, (y :: r)[i]? = some x ∧ ρ (n + i) = some o) ↔ (y = x ∧ ρ n = some o) ∨ ∃ i, (y :: r)[i + 1]? = some x ∧ ρ (n + (i + 1)) = some o := by
      constructor
      · rintro ⟨i, h1, h2⟩
        cases i with
        | zero => left; simp at h1; exact ⟨h1, by simpa using h2⟩
        | succ i => exact .inr ⟨i, h1, h2⟩
      · rintro (⟨rfl, h⟩ | ⟨i, h1, h2⟩)
        · exact ⟨0, by simp, h⟩
        · exact ⟨i + 1, h1, h2⟩
    rw [hsplit, ← hs, ← ih]
    simp only [wrB]
    cases hρ : ρ n with
    | none => simp
    | some p =>
      simp only [List.mem_cons, Prod.mk.injEq, Option.some.injEq]
      constructor
      · rintro (⟨rfl, rfl⟩ | h)
        · exact .inl ⟨rfl, rfl⟩
        · exact .inr h
      · rintro (⟨rfl, rfl⟩ | h)
        · exact .inl ⟨rfl, rfl⟩
        · exact .inr h

end Go.Proofs.Ytifpbdhggooelaa.GD
