/- The code of a function on data: what it comes to is what the machine comes to. The theorem, proved. -/
import Derived.Test.YtbkacmcijimbfaaGd17
namespace Go.Proofs.Ytbkacmcijimbfaa.GD
open Go
set_option linter.unusedVariables false
set_option linter.unusedSimpArgs false

variable {P : Program} {T : Tys}

theorem wok_nil {I : Im} {w : World} {μ : List Loc} {H : Heap} (hw : WOk I w μ H) : WOk I w [] [] :=
  ⟨rfl, fun o x h => by simp [hget] at h, fun o o' x x' m m' _ h => by simp [hget] at h, hw.imm, fun o m _ hm => by simp at hm⟩

theorem own_nil {μ : List Loc} {b : Nat} : ¬ Own [] μ b := by
  rintro ⟨o, x, m, h, _⟩
  simp [hget] at h

/-- What a call hands back reads, all that it made being immutable from now on. -/
theorem froz_ok {I1 I2 : Im} {w1 : World} {μ1 : List Loc} {H1 : Heap} (hw : WOk I1 w1 μ1 H1) (hk : Keeps I1 w1 I2 w1) (hown : ∀ b, Own H1 μ1 b → ∀ k, I2 b k) {d r : D} (hf : Froz H1 d r) :
    ∀ {v : Value}, Rep I1 w1 μ1 d v → RepP I2 w1 r v := by
  induction hf with
  | pure d d' h => intro v hr; exact (pur_ok h hr).keeps hk
  | view o st len sz es es' ho hle hp he =>
    intro v hr
    subst he
    obtain ⟨m, a, hm, hfx, hle', ha, rfl⟩ := rep_view hr
    obtain ⟨m', em, hok⟩ := hw.obj o _ ho
    rw [hm] at em
    obtain rfl := Option.some.inj em
    obtain ⟨_, hms, hcap, arr, E, fr, hbk, hs, hl, hrep, hfree⟩ := hok
    have hlen : ((es.drop st).take len).length = len := by simp; omega
    have hlen' : (purStrip ((es.drop st).take len)).length = len := by simp only [purStrip, List.length_map]; exact hlen
    have hget : ∀ (i : Nat) c, ((es.drop st).take len)[i]? = some c → es[st + i]? = some c ∧ i < len := by
      intro i c h
      rw [List.getElem?_take] at h
      split at h
      · rename_i hi; rw [List.getElem?_drop] at h; exact ⟨h, hi⟩
      · cases h
    have hb : st * m.sz + len * m.sz ≤ arr.size := by
      rw [hs, ← Nat.add_mul]; exact Nat.mul_le_mul_right _ (by omega)
    have hrow : RowOk I1 w1 μ1 m.sz ((es.drop st).take len) (arr.extract (st * m.sz) (st * m.sz + len * m.sz)) := by
      refine ⟨fun i c hi => hl _ c (hget i c hi).1, fun i j c d hi hj => ?_⟩
      obtain ⟨h1, h2⟩ := hget i c hi
      obtain ⟨v, hv, hR, h3⟩ := hrep _ j c d h1 hj
      have hjl : j < m.sz := by rw [← hl _ c h1]; exact (List.getElem?_eq_some_iff.1 hj).1
      have : i * m.sz + m.sz ≤ len * m.sz := by rw [← Nat.succ_mul]; exact Nat.mul_le_mul_right _ h2
      refine ⟨v, ?_, hR, h3⟩
      rw [Array.getElem?_extract, if_pos (by omega), show st * m.sz + (i * m.sz + j) = (st + i) * m.sz + j by rw [Nat.add_mul]; omega]
      exact hv
    obtain ⟨hp1, _⟩ := strip_ok hp hrow (by simp [hlen]; omega)
    have hpos : 0 < len → a = ⟨m.b, st * m.sz, none⟩ := fun h => ha (by omega)
    have hown' : Own H1 μ1 m.b := ⟨o, _, m, ho, hm, rfl, rfl⟩
    have key := RepP.slice (I := I2) (w := w1) (purStrip ((es.drop st).take len)) a (m.cap - st) m.sz (fun i j => (arr.extract (st * m.sz) (st * m.sz + len * m.sz)).getD (i * m.sz + j) Go.undef) (by omega) hp1.1
      (fun i j hi hj => by
        rw [hlen'] at hi
        obtain rfl := hpos (by omega)
        have h1 : (purStrip ((es.drop st).take len))[i]? = some (purStrip ((es.drop st).take len))[i] := List.getElem?_eq_getElem (by omega)
        have h2 := hp1.1 i _ h1
        obtain ⟨v, hv, _, hone⟩ := hp1.2 i j _ _ h1 (List.getElem?_eq_getElem (by omega))
        have e : (arr.extract (st * m.sz) (st * m.sz + len * m.sz)).getD (i * m.sz + j) Go.undef = v := by rw [Array.getD_eq_getD_getElem?, hv]; rfl
        rw [e, add_lit]
        refine ⟨hown m.b hown' _, ?_, hone⟩
        simp only [World.cell?, hbk]
        have : i * m.sz + m.sz ≤ len * m.sz := by rw [← Nat.succ_mul]; exact Nat.mul_le_mul_right _ hi
        rw [Array.getElem?_extract, if_pos (by omega)] at hv
        simpa using hv)
      (fun i j c d hi hj => by
        obtain ⟨v, hv, hR, _⟩ := hp1.2 i j c d hi hj
        have e : (arr.extract (st * m.sz) (st * m.sz + len * m.sz)).getD (i * m.sz + j) Go.undef = v := by rw [Array.getD_eq_getD_getElem?, hv]; rfl
        rw [e]; exact hR.keeps hk)
    rwa [hlen'] at key
  | agg ds es hl _ ih =>
    intro v hr
    obtain ⟨vs, rfl, h1, h2⟩ := rep_agg hr
    refine .agg es vs (by omega) (fun i e u he hu => ?_)
    have hi : i < ds.length := by rw [hl]; exact (List.getElem?_eq_some_iff.1 he).1
    exact ih i _ e (List.getElem?_eq_getElem hi) he (h2 i _ u (List.getElem?_eq_getElem hi) hu)
  | tuple ds es hl _ ih =>
    intro v hr
    obtain ⟨vs, rfl, h1, h2⟩ := rep_tuple hr
    refine .tuple es vs (by omega) (fun i e u he hu => ?_)
    have hi : i < ds.length := by rw [hl]; exact (List.getElem?_eq_some_iff.1 he).1
    exact ih i _ e (List.getElem?_eq_getElem hi) he (h2 i _ u (List.getElem?_eq_getElem hi) hu)

/-- Behind a call that had nothing of the caller's: the caller's objects are as they were. -/
theorem pure_call {I I1 : Im} {w w1 : World} {μ μ1 : List Loc} {H H1 : Heap} (hw : WOk I w μ H) (hx : Ext 0 I w [] [] I1 w1 μ1 H1) (hw1 : WOk I1 w1 μ1 H1) {r0 r : D} {v : Value} (hr : Rep I1 w1 μ1 r0 v) (hf : Froz H1 r0 r) :
    ∃ I2, WOk I2 w1 μ H ∧ Ext μ.length I w μ H I2 w1 μ H ∧ RepP I2 w1 r v := by
  let I2 : Im := fun b k => I1 b k ∨ (w.heap.size ≤ b ∧ b < w1.heap.size)
  have hk : Keeps I1 w1 I2 w1 := ⟨fun b k h => ⟨.inl h, rfl⟩⟩
  have hk0 : Keeps I w I2 w1 := ⟨fun b k h => ⟨.inl (hx.imm b k h).1, (hx.imm b k h).2⟩⟩
  have hI : ∀ b k, I2 b k → I b k ∨ w.heap.size ≤ b := by
    intro b k h
    rcases h with h | h
    · rcases hx.imr b k h with h | h | h
      · exact .inl h
      · exact absurd h own_nil
      · exact .inr h
    · exact .inr h.1
  have hb : ∀ b, b < w.heap.size → w1.heap[b]? = w.heap[b]? := fun b h => hx.frame b h own_nil
  refine ⟨I2, ⟨hw.len, fun o x ho => ?_, hw.inj, fun b k h => ?_, hw.dum⟩, ?_, ?_⟩
  · obtain ⟨m, hm, hok⟩ := hw.obj o x ho
    refine ⟨m, hm, objOk_keep hok hk0 (MuExt.refl _) (fun h => ?_)⟩
    have hlt := own_lt hok h
    exact ⟨hb _ hlt, fun k hk' => (hI _ k hk').resolve_right (by omega)⟩
  · rcases h with h | h
    · exact hw1.imm b k h
    · exact h.2
  · exact ⟨hk0.imm, fun o m _ hm => ⟨m, hm, Nat.le_refl _, fun _ => rfl, fun _ => rfl⟩, hx.size, fun b h => .inl h, fun b h _ => hb b h, hx.os, hx.tape, hx.output,
      fun b k h => by
        rcases hI b k h with h | h
        · exact .inl h
        · exact .inr (.inr h)⟩
  · refine froz_ok hw1 hk (fun b h k => ?_) hf hr
    right
    rcases hx.own b h with h1 | h1
    · exact absurd h1 own_nil
    · obtain ⟨o, x, m, ho, hm, hox, rfl⟩ := h
      obtain ⟨m', em, hok⟩ := hw1.obj o x ho
      rw [hm] at em
      obtain rfl := Option.some.inj em
      exact ⟨h1, own_lt hok hox⟩

end Go.Proofs.Ytbkacmcijimbfaa.GD
