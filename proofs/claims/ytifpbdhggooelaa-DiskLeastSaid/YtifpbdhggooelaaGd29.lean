/- How arguments read as data. -/
import Derived.Test.YtifpbdhggooelaaGd28
import Derived.ProofKit
import Derived.OpenShut
namespace Go.Proofs.Ytifpbdhggooelaa.GD
open Go Go.ChangeShapes Go.WideShapes Go.RowKit
set_option linter.unusedVariables false
set_option linter.unusedSimpArgs false

/-- The cells of a struct: its fields, one behind the other. -/
def shpFs (S : TypeId → List D → Prop) : List Field → List D → Prop
  | [], ds => ds = []
  | f :: r, ds => ∃ a b, ds = a ++ b ∧ S f.type a ∧ shpFs S r b

/-- What the cells of a type are, as their reading tells. -/
def shp (P : Program) : Nat → TypeId → List D → Prop
  | 0, _, _ => False
  | n + 1, t, ds =>
    match P.underlying t with
    | some .bool => ∃ b, ds = [.bool b]
    | some (.int k) => ∃ m, ds = [.int k m] ∧ (Lit.int k m).wf = true
    | some .string => ∃ s, ds = [.str s] ∧ s.size ≤ maxLen
    | some (.slice e) => ds = [.slice false [] none] ∨ ∃ es, ds = [.slice true es none] ∧ (∀ c ∈ es, shp P n e c) ∧ es.length ≤ maxLen
    | some (.struct fs) => shpFs (shp P n) fs.toList ds
    | some (.array m e) => ∃ rows : List (List D), rows.length = m ∧ (∀ r ∈ rows, shp P n e r) ∧ ds = rows.flatten
    | _ => True

section
variable {H : Type} {enc : TypeId × Value → H} {P : Program} {w : World} {base : Nat} {spare : Nat → Bool} {held : Bool}

def Cells (w : World) (ds : List D) (cs : List Value) : Prop :=
  ds.length = cs.length ∧ ∀ (j : Nat) d v, ds[j]? = some d → cs[j]? = some v → RepP (fun b _ => b < w.heap.size) w d v ∧ v.oneCell' = true

theorem Cells.one {d : D} {v : Value} (h : RepP (fun b _ => b < w.heap.size) w d v) (ho : v.oneCell' = true) : Cells w [d] [v] := by
  refine ⟨rfl, fun j e u he hu => ?_⟩
  cases j with
  | zero => simp at he hu; subst he; subst hu; exact ⟨h, ho⟩
  | succ j => simp at he

theorem Cells.append {a b : List D} {x y : List Value} (h : Cells w a x) (k : Cells w b y) : Cells w (a ++ b) (x ++ y) := by
  refine ⟨by simp [h.1, k.1], fun j d v hd hv => ?_⟩
  rw [List.getElem?_append] at hd hv
  split at hd
  · rename_i hj; rw [if_pos (by rw [← h.1]; exact hj)] at hv; exact h.2 j d v hd hv
  · rename_i hj; rw [if_neg (by rw [← h.1]; exact hj), ← h.1] at hv; exact k.2 _ d v hd hv

theorem Cells.nil : Cells w [] [] := ⟨rfl, fun j d v h => by simp at h⟩

theorem fields_ok {n : Nat} {S : TypeId → List D → Prop}
    (ih : ∀ t cs x, isVar P t = true → DataW.trod enc P w base spare held n t cs = some x → ∃ ds, S t ds ∧ Cells w ds cs ∧ cs.length = P.cellsOf t) :
    ∀ (fs : List Field) (o : Nat) (cs : List Value), (∀ f ∈ fs, isVar P f.type = true) → (∀ (j : Nat) f, fs[j]? = some f → f.offset = o + ((fs.take j).map fun f => P.cellsOf f.type).sum) →
      (∀ f ∈ fs, ∃ x, DataW.trod enc P w base spare held n f.type ((cs.drop f.offset).take (P.cellsOf f.type)) = some x) → cs.length = o + (fs.map fun f => P.cellsOf f.type).sum →
      ∃ ds, shpFs S fs ds ∧ Cells w ds (cs.drop o)
  | [], o, cs, _, _, _, hl => ⟨[], rfl, by
      rw [List.drop_of_length_le (by simp at hl; omega)]
      exact Cells.nil⟩
  | f :: r, o, cs, hv, ho, ht, hl => by
    have h0 : f.offset = o := by simpa using ho 0 f rfl
    obtain ⟨x, hx⟩ := ht f (by simp)
    rw [h0] at hx
    obtain ⟨a, ha, hca, hlen⟩ := ih _ _ _ (hv f (by simp)) hx
    obtain ⟨b, hb, hcb⟩ := fields_ok ih r (o + P.cellsOf f.type) cs (fun g hg => hv g (List.mem_cons_of_mem _ hg))
      (fun j g hj => by
        have := ho (j + 1) g (by simpa using hj)
        rw [List.take_succ_cons, List.map_cons, List.sum_cons] at this
        omega) (fun g hg => ht g (List.mem_cons_of_mem _ hg)) (by simp at hl; omega)
    refine ⟨a ++ b, ⟨a, b, rfl, ha, hb⟩, ?_⟩
    have : cs.drop o = (cs.drop o).take (P.cellsOf f.type) ++ cs.drop (o + P.cellsOf f.type) := by
      rw [← List.drop_drop, List.take_append_drop]
    rw [this]
    exact hca.append hcb

theorem fine_of {t : TypeId} (hl : laidOutB P = true) (hv : isVar P t = true) : rowFine P t = true := by
  unfold laidOutB at hl
  simp only [Bool.and_eq_true] at hl
  unfold isVar at hv
  simp only [Bool.and_eq_true, decide_eq_true_eq] at hv
  exact List.all_eq_true.1 hl.1.1 t (List.mem_range.2 hv.1)

/-- Single cells: what is not looked into. -/
theorem cells_undef {cs : List Value} (h : ∀ v ∈ cs, v.oneCell' = true) : Cells w (List.replicate cs.length .undef) cs := by
  refine ⟨by simp, fun j d v hd hv => ?_⟩
  rw [List.getElem?_replicate] at hd
  split at hd
  · obtain rfl := Option.some.inj hd
    exact ⟨.undef _, h v (List.mem_of_getElem? hv)⟩
  · cases hd

theorem cells_one {ds : List D} {cs : List Value} (h : Cells w ds cs) : ∀ v ∈ cs, v.oneCell' = true := by
  intro v hv
  obtain ⟨j, hj⟩ := List.getElem?_of_mem hv
  have hj' : j < ds.length := by rw [h.1]; exact (List.getElem?_eq_some_iff.1 hj).1
  exact (h.2 j _ v (List.getElem?_eq_getElem hj') hj).2

theorem cells_rows {rows : List (List D)} {cs : List Value} {sz : Nat} (h : ∀ (i : Nat) c, rows[i]? = some c → Cells w c ((cs.drop (i * sz)).take sz)) : ∀ k, k ≤ rows.length → Cells w ((rows.take k).flatten) (cs.take (k * sz))
  | 0, _ => by simpa using Cells.nil
  | k + 1, hk => by
    have hlt : k < rows.length := by omega
    have ih := cells_rows h k (by omega)
    have h1 := h k _ (List.getElem?_eq_getElem hlt)
    rw [List.take_succ_eq_append_getElem hlt, List.flatten_append, Nat.add_mul, Nat.one_mul, List.take_add]
    simp only [List.flatten_cons, List.flatten_nil, List.append_nil]
    exact ih.append h1

theorem list_choice {α : Type} {Q : Nat → α → Prop} : ∀ (n : Nat), (∀ i, i < n → ∃ c, Q i c) → ∃ es : List α, es.length = n ∧ ∀ (i : Nat) c, es[i]? = some c → Q i c
  | 0, _ => ⟨[], rfl, fun i c h => by simp at h⟩
  | n + 1, h => by
    obtain ⟨es, h1, h2⟩ := list_choice n (fun i hi => h i (by omega))
    obtain ⟨c, hc⟩ := h n (by omega)
    refine ⟨es ++ [c], by simp [h1], fun i d hd => ?_⟩
    rw [List.getElem?_append] at hd
    split at hd
    · exact h2 i d hd
    · rename_i hge
      have : i = n := by
        have := (List.getElem?_eq_some_iff.1 hd).1
        simp at this
        omega
      subst this
      simp [h1] at hd
      subst hd
      exact hc

theorem cell_block {p : Addr} {v : Value} (h : w.cell? p = some v) : p.block < w.heap.size := by
  rcases Nat.lt_or_ge p.block w.heap.size with h1 | h1
  · exact h1
  · exfalso
    unfold World.cell? at h
    rw [Array.getElem?_eq_none h1] at h
    simp at h

theorem add_add' (a : Addr) (x y : Nat) : (a.add x).add y = a.add (x + y) := by
  cases a
  simp only [Addr.add]
  split <;> split <;> simp_all [Nat.add_assoc]

theorem read_ok (hl : laidOutB P = true) : ∀ (n : Nat) (t : TypeId) (cs : List Value) (x : DataW H × List MemPlace), isVar P t = true → DataW.trod enc P w base spare held n t cs = some x →
    ∃ ds, shp P n t ds ∧ Cells w ds cs ∧ cs.length = P.cellsOf t := by
  intro n
  induction n with
  | zero => intro t cs x _ h; simp [DataW.trod] at h
  | succ n ih =>
    intro t cs x hv h
    have fine := fine_of hl hv
    unfold rowFine at fine
    rw [hv] at fine
    simp only [Bool.not_true, Bool.false_or] at fine
    cases hu : P.underlying t with
    | none => unfold DataW.trod at h; rw [hu] at h; simp at h
    | some k =>
      rw [hu] at fine
      have one : ∀ (v : Value), cs = [v] → v.oneCell' = true → P.cellsOf t = 1 → Cells w [D.undef] cs ∧ cs.length = P.cellsOf t := by
        rintro v rfl h1 h2
        exact ⟨Cells.one (.undef _) h1, by simp [h2]⟩
      cases k with
      | struct fs =>
        simp only [Bool.and_eq_true, beq_iff_eq] at fine
        obtain ⟨⟨f1, f2⟩, f3⟩ := fine
        obtain ⟨xs, m, hm, _, hlen, hxs, hf⟩ := DataW.trod_struct hu h
        obtain rfl : n = m := by omega
        obtain ⟨ds, g1, g2⟩ := fields_ok (S := shp P n) ih fs.toList 0 cs (fun f hf => List.all_eq_true.1 f1 f hf)
          (fun j f hj => by
            have hj' : j < fs.toList.length := (List.getElem?_eq_some_iff.1 hj).1
            have := List.all_eq_true.1 f3 j (List.mem_range.2 hj')
            rw [hj] at this
            simpa using this)
          (fun f hf' => by
            obtain ⟨j, hj⟩ := List.getElem?_of_mem hf'
            have hj' : j < xs.length := by rw [hxs]; have := (List.getElem?_eq_some_iff.1 hj).1; simpa using this
            exact ⟨xs[j], by rw [hf j f (by rw [← Array.getElem?_toList]; exact hj), List.getElem?_eq_getElem hj']⟩)
          (by rw [hlen, f2]; omega)
        exact ⟨ds, by simp only [shp, hu]; exact g1, by simpa using g2, hlen⟩
      | bool =>
        unfold DataW.trod at h
        rw [hu] at h
        split at h <;> simp_all
        rename_i b
        exact ⟨[.bool b], by simp [shp, hu], Cells.one (.bool b) rfl⟩
      | int kk =>
        unfold DataW.trod at h
        rw [hu] at h
        split at h <;> simp_all
        rename_i m hw
        obtain ⟨⟨rfl, hwf⟩, _⟩ := h
        exact ⟨[.int _ m], by simp [shp, hu, hwf], Cells.one (.int _ m) rfl⟩
      | string =>
        unfold DataW.trod at h
        rw [hu] at h
        split at h <;> simp_all
        rename_i str
        exact ⟨[.str str], by simp [shp, hu, h.1], Cells.one (.str str) rfl⟩
      | slice e =>
        simp only [Bool.and_eq_true, beq_iff_eq] at fine
        rcases DataW.trod_slice hu h with ⟨rfl, _⟩ | ⟨a, len, cap, elems, rest, m, hm, rfl, _, hb, hlc, hcm, hel, hge, _, _⟩
        · exact ⟨[.slice false [] none], by simp [shp, hu], Cells.one .sliceN rfl, by simp [fine.2]⟩
        · obtain rfl : n = m := by omega
          have hrow : ∀ i, i < len → ∃ c, shp P n e c ∧ ∃ vs : List Value, vs.length = P.cellsOf e ∧ Cells w c vs ∧ ∀ j, j < P.cellsOf e → w.cell? ((a.add (i * P.cellsOf e)).add j) = vs[j]? := by
            intro i hi
            have h1 := hge i hi
            have hi' : i < elems.length := by omega
            rw [List.getElem?_eq_getElem hi'] at h1
            obtain ⟨vs, h2, h3⟩ := Option.bind_eq_some_iff.1 h1
            obtain ⟨_, h4, h5⟩ := World.cells?_some h2
            obtain ⟨c, c1, c2, c3⟩ := ih _ _ _ fine.1 h3
            exact ⟨c, c1, vs, h4, c2, h5⟩
          obtain ⟨es, e1, e2⟩ := list_choice len hrow
          have hcell : ∀ i j, i < len → j < P.cellsOf e → ∃ v, w.cell? (a.add (i * P.cellsOf e + j)) = some v ∧ v.oneCell' = true ∧ ∀ c d, es[i]? = some c → c[j]? = some d → RepP (fun b _ => b < w.heap.size) w d v := by
            intro i j hi hj
            have hil : i < es.length := by omega
            have hi' : es[i]? = some es[i] := List.getElem?_eq_getElem hil
            obtain ⟨_, vs, v1, v2, v3⟩ := e2 i _ hi'
            have hvl : j < vs.length := by omega
            have hcl : j < (es[i]).length := by rw [v2.1]; omega
            have hjv : vs[j]? = some vs[j] := List.getElem?_eq_getElem hvl
            have hjc : (es[i])[j]? = some (es[i])[j] := List.getElem?_eq_getElem hcl
            have := v3 j hj
            rw [add_add', hjv] at this
            refine ⟨_, this, (v2.2 j _ _ hjc hjv).2, fun c d hc hd => ?_⟩
            rw [hi'] at hc
            obtain rfl := Option.some.inj hc
            exact (v2.2 j _ _ hd hjv).1
          have hR := RepP.slice (I := fun b _ => b < w.heap.size) (w := w) es a cap (P.cellsOf e) (fun i j => (w.cell? (a.add (i * P.cellsOf e + j))).getD Go.undef) (by omega)
            (fun i c hi => by obtain ⟨_, vs, v1, v2, _⟩ := e2 i c hi; rw [v2.1, v1])
            (fun i j hi hj => by
              obtain ⟨v, hv, ho, _⟩ := hcell i j (by omega) hj
              rw [hv]
              exact ⟨cell_block hv, rfl, ho⟩)
            (fun i j c d hi hj => by
              have h1 : i < len := by rw [← e1]; exact (List.getElem?_eq_some_iff.1 hi).1
              have h2 : j < P.cellsOf e := by
                obtain ⟨_, vs, v1, v2, _⟩ := e2 i c hi
                rw [← v1, ← v2.1]
                exact (List.getElem?_eq_some_iff.1 hj).1
              obtain ⟨v, hv, _, hR⟩ := hcell i j h1 h2
              simp only [hv]
              exact hR c d hi hj)
          rw [e1] at hR
          refine ⟨[.slice true es none], ?_, Cells.one hR rfl, by simp [fine.2]⟩
          simp only [shp, hu]
          refine .inr ⟨es, rfl, fun c hc => ?_, by omega⟩
          obtain ⟨i, hi⟩ := List.getElem?_of_mem hc
          exact (e2 i c hi).1
      | array m e =>
        simp only [Bool.and_eq_true, beq_iff_eq] at fine
        obtain ⟨xs, q, hq, _, hlen, hxs, hf⟩ := DataW.trod_array hu h
        obtain rfl : n = q := by omega
        have hrow : ∀ i, i < m → ∃ c, shp P n e c ∧ Cells w c ((cs.drop (i * P.cellsOf e)).take (P.cellsOf e)) := by
          intro i hi
          have hx := hf i hi
          rw [List.getElem?_eq_getElem (by omega)] at hx
          obtain ⟨c, c1, c2, c3⟩ := ih _ _ _ fine.1 hx
          exact ⟨c, c1, c2⟩
        obtain ⟨rows, e1, e2⟩ := list_choice m hrow
        have hc := cells_rows (fun i c hi => (e2 i c hi).2) rows.length (Nat.le_refl _)
        rw [List.take_length, e1, ← fine.2, ← hlen, List.take_length] at hc
        refine ⟨rows.flatten, ?_, hc, hlen⟩
        simp only [shp, hu]
        refine ⟨rows, e1, fun c hc => ?_, rfl⟩
        obtain ⟨i, hi⟩ := List.getElem?_of_mem hc
        exact (e2 i c hi).1
      | _ =>
        unfold DataW.trod at h
        rw [hu] at h
        split at h <;> simp_all
        all_goals exact ⟨[.undef], by simp [shp, hu], Cells.one (.undef _) rfl⟩

end
end Go.Proofs.Ytifpbdhggooelaa.GD
