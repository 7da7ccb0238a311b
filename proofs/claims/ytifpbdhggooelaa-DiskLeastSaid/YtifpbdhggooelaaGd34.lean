/- How arguments read as data, with their bulk: for statements that speak of inputs up to a bulk. -/
import Derived.Test.YtifpbdhggooelaaGd33
namespace Go.Proofs.Ytifpbdhggooelaa.GD
open Go Go.ChangeShapes Go.WideShapes Go.RowKit
set_option linter.unusedVariables false
set_option linter.unusedSimpArgs false

mutual
/-- Values and letters. -/
def wtD : D → Nat
  | .str s => s.size + 1
  | .slice _ es _ => 1 + wtEs es
  | .agg ds => 1 + wtDs ds
  | _ => 1
def wtDs : List D → Nat
  | [] => 0
  | d :: r => wtD d + wtDs r
def wtEs : List (List D) → Nat
  | [] => 0
  | c :: r => wtDs c + wtEs r
end
theorem wtDs_app : ∀ a b, wtDs (a ++ b) = wtDs a + wtDs b
  | [], b => by simp [wtDs]
  | x :: t, b => by rw [List.cons_append, wtDs, wtDs, wtDs_app t b]; omega
theorem wtDs_flat : ∀ es : List (List D), wtDs es.flatten = wtEs es
  | [] => by simp [wtDs, wtEs]
  | x :: t => by rw [List.flatten_cons, wtDs_app, wtEs, wtDs_flat t]

/-- A measure of what is read. -/
structure Bulk (H : Type) where
  B : DataW H → Nat
  BA : List (DataW H) → Nat
  one : ∀ d, 1 ≤ B d
  str : ∀ l, B (.lit (.string l)) = l.length + 1
  slice : ∀ es sp, B (.slice es sp) = BA es + BA sp + 1
  agg : ∀ ps, B (.agg ps) = BA ps + 1
  nil : BA [] = 0
  cons : ∀ d r, BA (d :: r) = B d + BA r

section
variable {H : Type} {enc : TypeId × Value → H} {P : Program} {w : World} {base : Nat} {spare : Nat → Bool} {held : Bool} (K : Bulk H)

theorem rows_bulk : ∀ (es : List (List D)) (xs : List (DataW H × List MemPlace)), es.length ≤ xs.length → (∀ (i : Nat) c x, es[i]? = some c → xs[i]? = some x → wtDs c ≤ K.B x.1) → wtEs es ≤ K.BA (xs.map (·.1))
  | [], xs, _, _ => by simp [wtEs]
  | c :: es, [], h, _ => by simp at h
  | c :: es, x :: xs, h, hh => by
    have h1 := hh 0 c x rfl rfl
    have h2 := rows_bulk es xs (by simpa using h) (fun i c x a b => hh (i + 1) c x (by simpa using a) (by simpa using b))
    rw [wtEs, List.map_cons, K.cons]
    omega
theorem fields_bulk {S : TypeId → List D → Prop} : ∀ (fs : List Field) (o : Nat) (cs : List Value) (xs : List (DataW H × List MemPlace)) (n : Nat),
    (∀ t (cs : List Value) (x : DataW H × List MemPlace), isVar P t = true → DataW.trod enc P w base spare held n t cs = some x → ∃ ds, S t ds ∧ Cells w ds cs ∧ cs.length = P.cellsOf t ∧ wtDs ds ≤ K.B x.1) →
    (∀ f ∈ fs, isVar P f.type = true) → (∀ j f, fs[j]? = some f → f.offset = o + ((fs.take j).map fun g => P.cellsOf g.type).sum) →
    xs.length = fs.length → (∀ (j : Nat) f, fs[j]? = some f → DataW.trod enc P w base spare held n f.type ((cs.drop f.offset).take (P.cellsOf f.type)) = xs[j]?) →
    cs.length = o + (fs.map fun g => P.cellsOf g.type).sum → ∃ ds, shpFs S fs ds ∧ Cells w ds (cs.drop o) ∧ wtDs ds ≤ K.BA (xs.map (·.1))
  | [], o, cs, xs, n, _, _, _, hx, _, hl => by
    have e : xs = [] := List.length_eq_zero_iff.1 (by simpa using hx)
    subst e
    refine ⟨[], rfl, ?_, by simp [wtDs]⟩
    rw [List.drop_of_length_le (by simp at hl; omega)]
    exact Cells.nil
  | f :: r, o, cs, [], n, _, _, _, hx, _, _ => by simp at hx
  | f :: r, o, cs, x :: xs, n, ih, hv, ho, hx, ht, hl => by
    have h0 : f.offset = o := by have := ho 0 f rfl; simpa using this
    have hx0 := ht 0 f rfl
    rw [h0] at hx0
    obtain ⟨a, ha, hca, hlen, hwa⟩ := ih _ _ _ (hv f (by simp)) hx0
    obtain ⟨b, hb, hcb, hwb⟩ := fields_bulk r (o + P.cellsOf f.type) cs xs n ih (fun g hg => hv g (List.mem_cons_of_mem _ hg))
      (fun j g hj => by
        have := ho (j + 1) g (by simpa using hj)
        rw [List.take_succ_cons, List.map_cons, List.sum_cons] at this
        omega) (by simpa using hx) (fun j g hg => by have := ht (j + 1) g (by simpa using hg); simpa using this) (by simp at hl; omega)
    refine ⟨a ++ b, ⟨a, b, rfl, ha, hb⟩, ?_, ?_⟩
    · have : cs.drop o = (cs.drop o).take (P.cellsOf f.type) ++ cs.drop (o + P.cellsOf f.type) := by
        rw [← List.drop_drop, List.take_append_drop]
      rw [this]
      exact hca.append hcb
    · rw [wtDs_app, List.map_cons, K.cons]
      omega

theorem read_bulk (hl : laidOutB P = true) : ∀ (n : Nat) (t : TypeId) (cs : List Value) (x : DataW H × List MemPlace), isVar P t = true → DataW.trod enc P w base spare held n t cs = some x →
    ∃ ds, shp P n t ds ∧ Cells w ds cs ∧ cs.length = P.cellsOf t ∧ wtDs ds ≤ K.B x.1 := by
  intro n
  induction n with
  | zero => intro t cs x _ h; simp [DataW.trod] at h
  | succ n ih =>
    intro t cs x hv h
    have hone := K.one x.1
    have fine := fine_of hl hv
    unfold rowFine at fine
    rw [hv] at fine
    simp only [Bool.not_true, Bool.false_or] at fine
    cases hu : P.underlying t with
    | none => unfold DataW.trod at h; rw [hu] at h; simp at h
    | some k =>
      rw [hu] at fine
      cases k with
      | struct fs =>
        simp only [Bool.and_eq_true, beq_iff_eq] at fine
        obtain ⟨⟨f1, f2⟩, f3⟩ := fine
        obtain ⟨xs, m, hm, hxe, hlen, hxs, hf⟩ := DataW.trod_struct hu h
        obtain rfl : n = m := by omega
        obtain ⟨ds, g1, g2, g3⟩ := fields_bulk K (S := shp P n) fs.toList 0 cs xs n ih (fun f hf => List.all_eq_true.1 f1 f hf)
          (fun j f hj => by
            have hj' : j < fs.toList.length := (List.getElem?_eq_some_iff.1 hj).1
            have := List.all_eq_true.1 f3 j (List.mem_range.2 hj')
            rw [hj] at this
            simpa using this)
          (by simpa using hxs)
          (fun j f hj => hf j f (by rw [← Array.getElem?_toList]; exact hj))
          (by rw [hlen, f2]; omega)
        refine ⟨ds, by simp only [shp, hu]; exact g1, by simpa using g2, hlen, ?_⟩
        subst hxe
        rw [K.agg]; omega
      | bool =>
        clear ih hone
        unfold DataW.trod at h
        rw [hu] at h
        split at h <;> simp_all
        rename_i b
        exact ⟨[.bool b], by simp [shp, hu], Cells.one (.bool b) rfl, by simp [wtDs, wtD]; exact K.one _⟩
      | int kk =>
        clear ih hone
        unfold DataW.trod at h
        rw [hu] at h
        split at h <;> simp_all
        rename_i m hw
        obtain ⟨⟨rfl, hwf⟩, _⟩ := h
        exact ⟨[.int _ m], by simp [shp, hu, hwf], Cells.one (.int _ m) rfl, by simp [wtDs, wtD]; exact K.one _⟩
      | string =>
        clear ih hone
        unfold DataW.trod at h
        rw [hu] at h
        split at h <;> simp_all
        rename_i str
        obtain ⟨h1, rfl⟩ := h
        exact ⟨[.str str], by simp [shp, hu, h1], Cells.one (.str str) rfl, by simp [wtDs, wtD, K.str]⟩
      | slice e =>
        simp only [Bool.and_eq_true, beq_iff_eq] at fine
        rcases DataW.trod_slice hu h with ⟨rfl, _⟩ | ⟨a, len, cap, elems, rest, m, hm, rfl, hxe, hb, hlc, hcm, hel, hge, _, _⟩
        · exact ⟨[.slice false [] none], by simp [shp, hu], Cells.one .sliceN rfl, by simp [fine.2], by simp [wtDs, wtD, wtEs]; omega⟩
        · obtain rfl : n = m := by omega
          have hrow : ∀ i, i < len → ∃ c, shp P n e c ∧ (∀ y, elems[i]? = some y → wtDs c ≤ K.B y.1) ∧ ∃ vs : List Value, vs.length = P.cellsOf e ∧ Cells w c vs ∧ ∀ j, j < P.cellsOf e → w.cell? ((a.add (i * P.cellsOf e)).add j) = vs[j]? := by
            intro i hi
            have h1 := hge i hi
            have hi' : i < elems.length := by omega
            rw [List.getElem?_eq_getElem hi'] at h1
            obtain ⟨vs, h2, h3⟩ := Option.bind_eq_some_iff.1 h1
            obtain ⟨_, h4, h5⟩ := World.cells?_some h2
            obtain ⟨c, c1, c2, c3, c4⟩ := ih _ _ _ fine.1 h3
            refine ⟨c, c1, fun y hy => ?_, vs, h4, c2, h5⟩
            rw [List.getElem?_eq_getElem hi'] at hy
            obtain rfl := Option.some.inj hy
            exact c4
          obtain ⟨es, e1, e2⟩ := list_choice len hrow
          have hcell : ∀ i j, i < len → j < P.cellsOf e → ∃ v, w.cell? (a.add (i * P.cellsOf e + j)) = some v ∧ v.oneCell' = true ∧ ∀ c d, es[i]? = some c → c[j]? = some d → RepP (fun b _ => b < w.heap.size) w d v := by
            intro i j hi hj
            have hil : i < es.length := by omega
            have hi' : es[i]? = some es[i] := List.getElem?_eq_getElem hil
            obtain ⟨_, _, vs, v1, v2, v3⟩ := e2 i _ hi'
            have hvl : j < vs.length := by omega
            have hcl : j < (es[i]).length := by rw [v2.1]; omega
            have hjv : vs[j]? = some vs[j] := List.getElem?_eq_getElem hvl
            have hjc : (es[i])[j]? = some (es[i])[j] := List.getElem?_eq_getElem hcl
            have := v3 j hj
            rw [add_add', hjv] at this
            refine ⟨_, this, (v2.2 j _ _ hjc hjv).2, fun c d hc hd => ?_⟩
            rw [hi'] at hc
            obtain rfl := Option.some.inj hc
            exact (v2.2 j _ _ hd hjv).1
          have hR := RepP.slice (I := fun b _ => b < w.heap.size) (w := w) es a cap (P.cellsOf e) (fun i j => (w.cell? (a.add (i * P.cellsOf e + j))).getD Go.undef) (by omega)
            (fun i c hi => by obtain ⟨_, _, vs, v1, v2, _⟩ := e2 i c hi; rw [v2.1, v1])
            (fun i j hi hj => by
              obtain ⟨v, hv, ho, _⟩ := hcell i j (by omega) hj
              rw [hv]
              exact ⟨cell_block hv, rfl, ho⟩)
            (fun i j c d hi hj => by
              have h1 : i < len := by rw [← e1]; exact (List.getElem?_eq_some_iff.1 hi).1
              have h2 : j < P.cellsOf e := by
                obtain ⟨_, _, vs, v1, v2, _⟩ := e2 i c hi
                rw [← v1, ← v2.1]
                exact (List.getElem?_eq_some_iff.1 hj).1
              obtain ⟨v, hv, _, hR⟩ := hcell i j h1 h2
              simp only [hv]
              exact hR c d hi hj)
          rw [e1] at hR
          refine ⟨[.slice true es none], ?_, Cells.one hR rfl, by simp [fine.2], ?_⟩
          · simp only [shp, hu]
            refine .inr ⟨es, rfl, fun c hc => ?_, by omega⟩
            obtain ⟨i, hi⟩ := List.getElem?_of_mem hc
            exact (e2 i c hi).1
          · have := rows_bulk K es elems (by omega) (fun i c y hc hy => (e2 i c hc).2.1 y hy)
            subst hxe
            rw [K.slice]
            simp only [wtDs, wtD]
            omega
      | array m e =>
        simp only [Bool.and_eq_true, beq_iff_eq] at fine
        obtain ⟨xs, q, hq, hxe, hlen, hxs, hf⟩ := DataW.trod_array hu h
        obtain rfl : n = q := by omega
        have hrow : ∀ i, i < m → ∃ c, shp P n e c ∧ Cells w c ((cs.drop (i * P.cellsOf e)).take (P.cellsOf e)) ∧ ∀ y, xs[i]? = some y → wtDs c ≤ K.B y.1 := by
          intro i hi
          have hx := hf i hi
          have hi' : i < xs.length := by omega
          rw [List.getElem?_eq_getElem hi'] at hx
          obtain ⟨c, c1, c2, c3, c4⟩ := ih _ _ _ fine.1 hx
          refine ⟨c, c1, c2, fun y hy => ?_⟩
          rw [List.getElem?_eq_getElem hi'] at hy
          obtain rfl := Option.some.inj hy
          exact c4
        obtain ⟨rows, e1, e2⟩ := list_choice m hrow
        have hc := cells_rows (fun i c hi => (e2 i c hi).2.1) rows.length (Nat.le_refl _)
        rw [List.take_length, e1, ← fine.2, ← hlen, List.take_length] at hc
        refine ⟨rows.flatten, ?_, hc, hlen, ?_⟩
        · simp only [shp, hu]
          refine ⟨rows, e1, fun c hc => ?_, rfl⟩
          obtain ⟨i, hi⟩ := List.getElem?_of_mem hc
          exact (e2 i c hi).1
        · have := rows_bulk K rows xs (by omega) (fun i c y hc hy => (e2 i c hc).2.2 y hy)
          subst hxe
          rw [K.agg, wtDs_flat]
          omega
      | _ =>
        have hone' : wtDs [D.undef] ≤ K.B x.1 := by simp only [wtDs, wtD]; omega
        clear ih hone
        refine ⟨[.undef], by simp [shp, hu], ?_, ?_, hone'⟩ <;> clear hone' <;> (unfold DataW.trod at h; rw [hu] at h; split at h <;> simp_all) <;> exact Cells.one (.undef _) rfl

theorem arg_bulk (hl : laidOutB P = true) {t : TypeId} (hv : isVar P t = true) {r : Reach} {b0 : Nat} {v : Value} {d : DataW H} {ps : List MemPlace} (ho : Value.okWide P w r b0 t v)
    (ht : DataW.Trod enc P w base spare held t v d ps) : ∃ n x, shpA P n t x ∧ RepP (fun b _ => b < w.heap.size) w x v ∧ wtD x ≤ K.B d + 1 := by
  obtain ⟨n, hn⟩ := ht
  obtain ⟨ds, h1, h2, h3, h4⟩ := read_bulk K hl n t _ _ hv hn
  change wtDs ds ≤ K.B d at h4
  have fine := fine_of hl hv
  unfold rowFine at fine
  rw [hv] at fine
  simp only [Bool.not_true, Bool.false_or] at fine
  have agg : ∀ cs, v = .agg cs → ∃ x, x = D.agg ds ∧ RepP (fun b _ => b < w.heap.size) w x v := by
    rintro cs rfl
    refine ⟨_, rfl, .agg ds cs (by rw [h2.1]; simp [Value.cells]) (fun i d v a b => (h2.2 i d v a (by simpa [Value.cells] using b)).1)⟩
  have one : (∀ cs, v ≠ .agg cs) → ∃ x, ds = [x] ∧ RepP (fun b _ => b < w.heap.size) w x v := by
    intro hne
    have hc : v.cells.toList = [v] := by
      cases v <;> simp_all [Value.cells]
    rw [hc] at h2
    match ds, h2 with
    | [x], h2 => exact ⟨x, rfl, (h2.2 0 x v rfl rfl).1⟩
    | [], h2 => have := h2.1; simp at this
    | _ :: _ :: _, h2 => have := h2.1; simp at this
  unfold Value.okWide at ho
  unfold shpA
  cases hu : P.underlying t with
  | none => unfold DataW.trod at hn; cases n <;> simp [DataW.trod, hu] at hn
  | some k =>
    rw [hu] at ho
    cases k with
    | struct fs =>
      obtain ⟨cs, rfl, _⟩ := ho
      obtain ⟨x, rfl, hx⟩ := agg cs rfl
      exact ⟨n, _, ⟨ds, rfl, h1⟩, hx, by rw [wtD]; omega⟩
    | array m e =>
      obtain ⟨cs, rfl, _⟩ := ho
      obtain ⟨x, rfl, hx⟩ := agg cs rfl
      exact ⟨n, _, ⟨ds, rfl, h1⟩, hx, by rw [wtD]; omega⟩
    | _ =>
      obtain ⟨x, rfl, hx⟩ := one (fun cs hcs => by subst hcs; simp [Cell.okWide, Cell.ok, hu] at ho)
      exact ⟨n, x, h1, hx, by simp only [wtDs] at h4; omega⟩
end
end Go.Proofs.Ytifpbdhggooelaa.GD
