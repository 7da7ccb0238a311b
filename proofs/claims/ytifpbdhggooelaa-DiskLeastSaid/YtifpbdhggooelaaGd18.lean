/- The code of a function on data: what it comes to is what the machine comes to. The theorem, proved. -/
import Derived.Test.YtifpbdhggooelaaGd17
namespace Go.Proofs.Ytifpbdhggooelaa.GD
open Go
set_option linter.unusedVariables false
set_option linter.unusedSimpArgs false

variable {P : Program} {T : Tys}

theorem wok_nil {I : Im} {w : World} {μ : List Loc} {H : Heap} (hw : WOk I w μ H) : WOk I w [] [] :=
  ⟨rfl, fun o x h => by simp [hget] at h, fun o o' x x' m m' _ h => by simp [hget] at h, hw.imm, fun o m _ hm => by simp at hm, hw.glb⟩

theorem own_nil {μ : List Loc} {b : Nat} : ¬ Own [] μ b := by
  rintro ⟨o, x, m, h, _⟩
  simp [hget] at h

/-- What a call hands back reads, all that it made being immutable from now on. -/
theorem froz_ok {I1 I2 : Im} {w1 : World} {μ1 : List Loc} {H1 : Heap} (hw : WOk I1 w1 μ1 H1) (hk : Keeps I1 w1 I2 w1) (hown : ∀ b, Own H1 μ1 b → ∀ k, I2 b k) {d r : D} (hf : Froz H1 d r) :
    ∀ {v : Value}, Rep I1 w1 μ1 d v → RepP I2 w1 r v := by
  induction hf with
  | pure d d' h => intro v hr; exact (pur_ok h hr).keeps hk
  | view o st len sz es es' ho hle hp he =>
    intro v hr
    subst he
    obtain ⟨m, a, hm, hfx, hle', ha, rfl⟩ := rep_view hr
    obtain ⟨m', em, hok⟩ := hw.obj o _ ho
    rw [hm] at em
    obtain rfl := Option.some.inj em
    obtain ⟨_, hms, hcap, arr, E, fr, hbk, hs, hl, hrep, hfree⟩ := hok
    have hlen : ((es.drop st).take len).length = len := by simp; omega
    have hlen' : (purStrip ((es.drop st).take len)).length = len := by simp only [purStrip, List.length_map]; exact hlen
    have hget : ∀ (i : Nat) c, ((es.drop st).take len)[i]? = some c → es[st + i]? = some c ∧ i < len := by
      intro i c h
      rw [List.getElem?_take] at h
      split at h
      · rename_i hi; rw [List.getElem?_drop] at h; exact ⟨h, hi⟩
      · cases h
    have hb : st * m.sz + len * m.sz ≤ arr.size := by
      rw [hs, ← Nat.add_mul]; exact Nat.mul_le_mul_right _ (by omega)
    have hrow : RowOk I1 w1 μ1 m.sz ((es.drop st).take len) (arr.extract (st * m.sz) (st * m.sz + len * m.sz)) := by
      refine ⟨fun i c hi => hl _ c (hget i c hi).1, fun i j c d hi hj => ?_⟩
      obtain ⟨h1, h2⟩ := hget i c hi
      obtain ⟨v, hv, hR, h3⟩ := hrep _ j c d h1 hj
      have hjl : j < m.sz := by rw [← hl _ c h1]; exact (List.getElem?_eq_some_iff.1 hj).1
      have : i * m.sz + m.sz ≤ len * m.sz := by rw [← Nat.succ_mul]; exact Nat.mul_le_mul_right _ h2
      refine ⟨v, ?_, hR, h3⟩
      rw [Array.getElem?_extract, if_pos (by omega), show st * m.sz + (i * m.sz + j) = (st + i) * m.sz + j by rw [Nat.add_mul]; omega]
      exact hv
    obtain ⟨hp1, _⟩ := strip_ok hp hrow (by simp [hlen]; omega)
    have hpos : 0 < len → a = ⟨m.b, st * m.sz, none⟩ := fun h => ha (by omega)
    have hown' : Own H1 μ1 m.b := ⟨o, _, m, ho, hm, rfl, rfl⟩
    have key := RepP.slice (I := I2) (w := w1) (purStrip ((es.drop st).take len)) a (m.cap - st) m.sz (fun i j => (arr.extract (st * m.sz) (st * m.sz + len * m.sz)).getD (i * m.sz + j) Go.undef) (by omega) hp1.1
      (fun i j hi hj => by
        rw [hlen'] at hi
        obtain rfl := hpos (by omega)
        have h1 : (purStrip ((es.drop st).take len))[i]? = some (purStrip ((es.drop st).take len))[i] := List.getElem?_eq_getElem (by omega)
        have h2 := hp1.1 i _ h1
        obtain ⟨v, hv, _, hone⟩ := hp1.2 i j _ _ h1 (List.getElem?_eq_getElem (by omega))
        have e : (arr.extract (st * m.sz) (st * m.sz + len * m.sz)).getD (i * m.sz + j) Go.undef = v := by rw [Array.getD_eq_getD_getElem?, hv]; rfl
        rw [e, add_lit]
        refine ⟨hown m.b hown' _, ?_, hone⟩
        simp only [World.cell?, hbk]
        have : i * m.sz + m.sz ≤ len * m.sz := by rw [← Nat.succ_mul]; exact Nat.mul_le_mul_right _ hi
        rw [Array.getElem?_extract, if_pos (by omega)] at hv
        simpa using hv)
      (fun i j c d hi hj => by
        obtain ⟨v, hv, hR, _⟩ := hp1.2 i j c d hi hj
        have e : (arr.extract (st * m.sz) (st * m.sz + len * m.sz)).getD (i * m.sz + j) Go.undef = v := by rw [Array.getD_eq_getD_getElem?, hv]; rfl
        rw [e]; exact hR.keeps hk)
    rwa [hlen'] at key
  | agg ds es hl _ ih =>
    intro v hr
    obtain ⟨vs, rfl, h1, h2⟩ := rep_agg hr
    refine .agg es vs (by omega) (fun i e u he hu => ?_)
    have hi : i < ds.length := by rw [hl]; exact (List.getElem?_eq_some_iff.1 he).1
    exact ih i _ e (List.getElem?_eq_getElem hi) he (h2 i _ u (List.getElem?_eq_getElem hi) hu)
  | tuple ds es hl _ ih =>
    intro v hr
    obtain ⟨vs, rfl, h1, h2⟩ := rep_tuple hr
    refine .tuple es vs (by omega) (fun i e u he hu => ?_)
    have hi : i < ds.length := by rw [hl]; exact (List.getElem?_eq_some_iff.1 he).1
    exact ih i _ e (List.getElem?_eq_getElem hi) he (h2 i _ u (List.getElem?_eq_getElem hi) hu)

/-- All that is there, looked at as what cannot turn. -/
theorem look_args {I : Im} {w : World} {μ : List Loc} {H : Heap} (hw : WOk I w μ H) {args args' : List D} {vs : Array Value} (hl : args.length = vs.size)
    (hr : ∀ (i : Nat) d v, args[i]? = some d → vs[i]? = some v → Rep I w μ d v) (ha : FrozAll H args args') :
    args'.length = vs.size ∧ ∀ (i : Nat) d v, args'[i]? = some d → vs[i]? = some v → RepP (fun b _ => b < w.heap.size) w d v := by
  obtain ⟨h1, h2⟩ := ha
  refine ⟨h1 ▸ hl, fun i e v he hv => ?_⟩
  have hi : i < args.length := by rw [h1]; exact (List.getElem?_eq_some_iff.1 he).1
  have hd := List.getElem?_eq_getElem hi
  refine froz_ok hw ⟨fun b k h => ⟨hw.imm b k h, rfl⟩⟩ (fun b hb k => ?_) (h2 i _ e hd he) (hr i _ v hd hv)
  obtain ⟨o, x, m, ho, hm, hox, rfl⟩ := hb
  obtain ⟨m', em, hok⟩ := hw.obj o x ho
  rw [hm] at em
  obtain rfl := Option.some.inj em
  exact own_lt hok hox

/-- A call that only looked leaves all as it was. -/
theorem look_call {I I0 I1 : Im} {w w1 : World} {μ μ1 : List Loc} {H H1 : Heap} (hw : WOk I w μ H) (hx : Ext 0 I0 w [] [] I1 w1 μ1 H1) :
    WOk I w1 μ H ∧ Ext μ.length I w μ H I w1 μ H := by
  have hb : ∀ b, b < w.heap.size → w1.heap[b]? = w.heap[b]? := fun b h => hx.frame b h own_nil
  have hk0 : Keeps I w I w1 := ⟨fun b k h => ⟨h, by
    have := hb b (hw.imm b k h)
    simp only [World.cell?, this]⟩⟩
  refine ⟨⟨hw.len, fun o x ho => ?_, hw.inj, fun b k h => Nat.lt_of_lt_of_le (hw.imm b k h) hx.size, hw.dum, fun g => (hw.glb g).keeps hk0⟩, ?_⟩
  · obtain ⟨m, hm, hok⟩ := hw.obj o x ho
    exact ⟨m, hm, objOk_keep hok hk0 (MuExt.refl _) (fun h => ⟨hb _ (own_lt hok h), fun _ h => h⟩)⟩
  · exact ⟨hk0.imm, fun o m _ hm => ⟨m, hm, Nat.le_refl _, fun _ => rfl, fun _ => rfl⟩, hx.size, fun b h => .inl h, fun b h _ => hb b h, hx.os, hx.tape, hx.output, fun _ _ h => .inl h⟩

/-- Behind a call that had nothing of the caller's: the caller's objects are as they were. -/
theorem pure_call {I I1 : Im} {w w1 : World} {μ μ1 : List Loc} {H H1 : Heap} (hw : WOk I w μ H) (hx : Ext 0 I w [] [] I1 w1 μ1 H1) (hw1 : WOk I1 w1 μ1 H1) {r0 r : D} {v : Value} (hr : Rep I1 w1 μ1 r0 v) (hf : Froz H1 r0 r) :
    ∃ I2, WOk I2 w1 μ H ∧ Ext μ.length I w μ H I2 w1 μ H ∧ RepP I2 w1 r v := by
  let I2 : Im := fun b k => I1 b k ∨ (w.heap.size ≤ b ∧ b < w1.heap.size)
  have hk : Keeps I1 w1 I2 w1 := ⟨fun b k h => ⟨.inl h, rfl⟩⟩
  have hk0 : Keeps I w I2 w1 := ⟨fun b k h => ⟨.inl (hx.imm b k h).1, (hx.imm b k h).2⟩⟩
  have hI : ∀ b k, I2 b k → I b k ∨ w.heap.size ≤ b := by
    intro b k h
    rcases h with h | h
    · rcases hx.imr b k h with h | h | h
      · exact .inl h
      · exact absurd h own_nil
      · exact .inr h
    · exact .inr h.1
  have hb : ∀ b, b < w.heap.size → w1.heap[b]? = w.heap[b]? := fun b h => hx.frame b h own_nil
  refine ⟨I2, ⟨hw.len, fun o x ho => ?_, hw.inj, fun b k h => ?_, hw.dum, fun g => (hw.glb g).keeps hk0⟩, ?_, ?_⟩
  · obtain ⟨m, hm, hok⟩ := hw.obj o x ho
    refine ⟨m, hm, objOk_keep hok hk0 (MuExt.refl _) (fun h => ?_)⟩
    have hlt := own_lt hok h
    exact ⟨hb _ hlt, fun k hk' => (hI _ k hk').resolve_right (by omega)⟩
  · rcases h with h | h
    · exact hw1.imm b k h
    · exact h.2
  · exact ⟨hk0.imm, fun o m _ hm => ⟨m, hm, Nat.le_refl _, fun _ => rfl, fun _ => rfl⟩, hx.size, fun b h => .inl h, fun b h _ => hb b h, hx.os, hx.tape, hx.output,
      fun b k h => by
        rcases hI b k h with h | h
        · exact .inl h
        · exact .inr (.inr h)⟩
  · refine froz_ok hw1 hk (fun b h k => ?_) hf hr
    right
    rcases hx.own b h with h1 | h1
    · exact absurd h1 own_nil
    · obtain ⟨o, x, m, ho, hm, hox, rfl⟩ := h
      obtain ⟨m', em, hok⟩ := hw1.obj o x ho
      rw [hm] at em
      obtain rfl := Option.some.inj em
      exact ⟨h1, own_lt hok hox⟩

theorem flats : ∀ {cs : List D}, flatDs cs = true → ∀ d ∈ cs, flatD d = true
  | [], _, d, h => by simp at h
  | c :: cs, hf, d, h => by
    simp only [flatDs, Bool.and_eq_true] at hf
    rcases List.mem_cons.1 h with rfl | h
    · exact hf.1
    · exact flats hf.2 d h

theorem views_mem {p : Nat} {d : D} {ds : List D} (h : d ∈ ds) (hp : p ∈ viewsD d) : p ∈ viewsDs ds := by
  induction ds with
  | nil => simp at h
  | cons c cs ih =>
    simp only [viewsDs, List.mem_append]
    rcases List.mem_cons.1 h with rfl | h
    · exact .inl hp
    · exact .inr (ih h)

theorem froz_congr {H H' : Heap} {d e : D} (h : Froz H d e) : (∀ p ∈ viewsD d, hget H' p = hget H p) → Froz H' d e := by
  induction h with
  | pure d d' h => intro _; exact .pure d d' h
  | view o st len sz es es' ho hle hp he =>
    intro hv
    exact .view o st len sz es es' (by rw [hv o (by simp [viewsD])]; exact ho) hle hp he
  | agg ds es hl _ ih =>
    intro hv
    exact .agg ds es hl (fun i d e h1 h2 => ih i d e h1 h2 (fun p hp => hv p (by simp only [viewsD]; exact views_mem (List.mem_of_getElem? h1) hp)))
  | tuple ds es hl _ ih =>
    intro hv
    exact .tuple ds es hl (fun i d e h1 h2 => ih i d e h1 h2 (fun p hp => hv p (by simp only [viewsD]; exact views_mem (List.mem_of_getElem? h1) hp)))

/-- A flat result is the same wherever it is read. -/
theorem flat_rep' {I I' : Im} {w w' : World} {μ : List Loc} : ∀ (n : Nat) (d : D) (v : Value), SizeOf.sizeOf d < n → flatD d = true → Rep I w μ d v → RepP I' w' d v := by
  intro n
  induction n with
  | zero => intro d v h; omega
  | succ n ih =>
    intro d v hn hf h
    have sub : ∀ cs : List D, SizeOf.sizeOf cs < n → flatDs cs = true → ∀ d ∈ cs, ∀ v, Rep I w μ d v → RepP I' w' d v := fun cs hs hc d hd v hr =>
      ih d v (by have := List.sizeOf_lt_of_mem hd; omega) (flats hc d hd) hr
    cases d with
    | bool b => cases h with | pure h => cases h; exact .bool _
    | int k m => cases h with | pure h => cases h; exact .int _ _
    | str s => cases h with | pure h => cases h; exact .str _
    | pnil => cases h with | pure h => cases h; exact .pnil
    | inil => cases h with | pure h => cases h; exact .inil
    | slice nn es t =>
      simp only [flatD, Bool.and_eq_true, Bool.not_eq_true', List.isEmpty_iff, Option.isNone_iff_eq_none] at hf
      obtain ⟨⟨rfl, rfl⟩, rfl⟩ := hf
      cases h with | pure h => cases h; exact .sliceN
    | agg cs =>
      have hs := sub cs (by simp at hn; omega) hf
      cases h with
      | pure h =>
        cases h with
        | agg _ vs hl h => exact .agg cs vs hl (fun i d v a b => hs d (List.mem_of_getElem? a) v (.pure (h i d v a b)))
      | agg _ vs hl h => exact .agg cs vs hl (fun i d v a b => hs d (List.mem_of_getElem? a) v (h i d v a b))
    | tuple cs =>
      have hs := sub cs (by simp at hn; omega) hf
      cases h with
      | pure h =>
        cases h with
        | tuple _ vs hl h => exact .tuple cs vs hl (fun i d v a b => hs d (List.mem_of_getElem? a) v (.pure (h i d v a b)))
      | tuple _ vs hl h => exact .tuple cs vs hl (fun i d v a b => hs d (List.mem_of_getElem? a) v (h i d v a b))
    | _ => simp [flatD] at hf

theorem flat_rep {I I' : Im} {w w' : World} {μ : List Loc} {d : D} {v : Value} (hf : flatD d = true) (h : Rep I w μ d v) : RepP I' w' d v := flat_rep' _ d v (Nat.lt_succ_self _) hf h

end Go.Proofs.Ytifpbdhggooelaa.GD
