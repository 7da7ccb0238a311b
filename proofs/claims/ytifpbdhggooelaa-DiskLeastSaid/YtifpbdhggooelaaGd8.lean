/- One operation on data is what the machine does: literals, conversions, new variables, stores. -/
import Derived.Test.YtifpbdhggooelaaGd7
namespace Go.Proofs.Ytifpbdhggooelaa.GD
open Go
set_option linter.unusedVariables false
set_option linter.unusedSimpArgs false

variable {P : Program} {T : Tys}
section
variable {I : Im} {w : World} {μ : List Loc} {H : Heap}

theorem foldl_set (off : Nat) : ∀ (l : List Value) (k : Nat) (cells : Array Value), off + k + l.length ≤ cells.size →
    ((l.zipIdx k).foldl (fun (cs : Array Value) (p : Value × Nat) => cs.setIfInBounds (off + p.2) p.1) cells).size = cells.size ∧
    ∀ j, ((l.zipIdx k).foldl (fun (cs : Array Value) (p : Value × Nat) => cs.setIfInBounds (off + p.2) p.1) cells)[j]? =
      if off + k ≤ j ∧ j < off + k + l.length then l[j - (off + k)]? else cells[j]?
  | [], k, cells, h => by simp; intro j h1 h2; omega
  | v :: l, k, cells, h => by
    simp only [List.zipIdx_cons, List.foldl_cons]
    obtain ⟨h1, h2⟩ := foldl_set off l (k + 1) (cells.setIfInBounds (off + k) v) (by simp at h ⊢; omega)
    refine ⟨by rw [h1]; simp, fun j => ?_⟩
    rw [h2 j]
    simp only [List.length_cons] at h ⊢
    by_cases hj : j = off + k
    · subst hj
      rw [if_neg (by omega), if_pos (by omega)]
      rw [Array.getElem?_setIfInBounds_self_of_lt (by omega)]
      simp
    · by_cases hin : off + (k + 1) ≤ j ∧ j < off + (k + 1) + l.length
      · rw [if_pos hin, if_pos (by omega)]
        have : j - (off + k) = (j - (off + (k + 1))) + 1 := by omega
        rw [this]; simp
      · rw [if_neg hin, if_neg (by omega), Array.getElem?_setIfInBounds_ne (by omega)]

theorem getElem?_splice {α : Type} (l ns : List α) (off : Nat) (h : off + ns.length ≤ l.length) (j : Nat) :
    (l.take off ++ ns ++ l.drop (off + ns.length))[j]? = if off ≤ j ∧ j < off + ns.length then ns[j - off]? else l[j]? := by
  rw [List.append_assoc]
  have hl : (l.take off).length = off := by simp; omega
  by_cases h1 : j < off
  · rw [List.getElem?_append_left (by omega), if_neg (by omega), List.getElem?_take, if_pos h1]
  · rw [List.getElem?_append_right (by omega), hl]
    by_cases h2 : j - off < ns.length
    · rw [List.getElem?_append_left h2, if_pos (by omega)]
    · rw [List.getElem?_append_right (by omega), if_neg (by omega), List.getElem?_drop]
      congr 1; omega

/-- The cells of a datum and of an array agree. -/
def CellsOk (I : Im) (w : World) (μ : List Loc) (cs : List D) (vs : Array Value) : Prop :=
  cs.length = vs.size ∧ ∀ (i : Nat) c u, cs[i]? = some c → vs[i]? = some u → Rep I w μ c u

theorem fill_ok (place : Nat → Option (Nat × Nat)) : ∀ (l : List (Nat × D)) (vl : List (Nat × Value)) (cells out : List D) (cs : Array Value),
    fillD place cells l = some out → CellsOk I w μ cells cs → l.length = vl.length →
    (∀ (i : Nat) p q, l[i]? = some p → vl[i]? = some q → p.1 = q.1 ∧ Rep I w μ p.2 q.2) →
    ∃ arr, Instr.fill place cs vl = some arr ∧ CellsOk I w μ out arr ∧ ((∀ c ∈ cells, D.one c = true) → ∀ c ∈ out, D.one c = true)
  | [], vl, cells, out, cs, h, hc, hl, hr => by
    have : vl = [] := List.eq_nil_of_length_eq_zero hl.symm
    subst this
    simp only [fillD, Option.some.injEq] at h
    subst h
    exact ⟨cs, rfl, hc, fun h => h⟩
  | (i, x) :: l, vl, cells, out, cs, h, hc, hl, hr => by
    cases vl with
    | nil => simp at hl
    | cons q vl =>
      obtain ⟨i', v⟩ := q
      obtain ⟨rfl, hx⟩ := hr 0 (i, x) (i', v) rfl rfl
      simp only [fillD] at h
      split at h
      · rename_i off size ns hp hcs
        split at h
        · rename_i hcond
          obtain ⟨rfl, hle⟩ := hcond
          obtain ⟨e1, e2, e3⟩ := cells_of hx hcs
          have hvl : v.cells.toList.length = ns.length := by simp [e1]
          obtain ⟨f1, f2⟩ := foldl_set off v.cells.toList 0 cs (by rw [hvl, ← hc.1]; omega)
          have hz : v.cells.zipIdx.foldl (fun (cs : Array Value) (p : Value × Nat) => cs.setIfInBounds (off + p.2) p.1) cs =
              ((v.cells.toList.zipIdx 0).foldl (fun (cs : Array Value) (p : Value × Nat) => cs.setIfInBounds (off + p.2) p.1) cs) := by
            rw [← Array.foldl_toList]; simp
          have hok : CellsOk I w μ (cells.take off ++ ns ++ cells.drop (off + ns.length)) (v.cells.zipIdx.foldl (fun (cs : Array Value) (p : Value × Nat) => cs.setIfInBounds (off + p.2) p.1) cs) := by
            rw [hz]
            refine ⟨?_, fun j c u hj hu => ?_⟩
            · rw [f1, ← hc.1]; simp; omega
            · rw [getElem?_splice _ _ _ hle] at hj
              rw [f2] at hu
              simp only [Nat.add_zero, hvl] at hu
              split at hj
              · rename_i hin
                rw [if_pos hin] at hu
                exact e3 _ c u hj (by simpa using hu)
              · rename_i hin
                rw [if_neg hin] at hu
                exact hc.2 j c u hj hu
          obtain ⟨arr, g1, g2, g3⟩ := fill_ok place l vl _ out _ h hok (by simpa using hl) (fun j p q a b => hr (j + 1) p q a b)
          refine ⟨arr, ?_, g2, fun h1 => g3 (fun c hcm => ?_)⟩
          · rw [Instr.fill, hp]
            have hn : ¬ (v.cells.size ≠ ns.length ∨ off + v.cells.size > cs.size) := by
              have := hc.1
              have : v.cells.size = ns.length := by simpa using hvl
              omega
            simp only [ne_eq, decide_not, Bool.or_eq_true, Bool.not_eq_eq_eq_not, Bool.not_true, decide_eq_false_iff_not, gt_iff_lt, decide_eq_true_eq]
            rw [if_neg (by simpa using hn)]
            exact g1
          · simp only [List.mem_append] at hcm
            rcases hcm with (hcm | hcm) | hcm
            · exact h1 c (List.mem_of_mem_take hcm)
            · exact e2 c hcm
            · exact h1 c (List.mem_of_mem_drop hcm)
        · cases h
      · cases h

theorem sizes_ok (hT : TOk P T) : ∀ (fs : List (TypeId × Nat)) (l : List (Nat × Nat)), sizes T fs = some l →
    l.length = fs.length ∧ ∀ (i : Nat) p, fs[i]? = some p → ∃ y, T p.1 = some y ∧ l[i]? = some (p.2, y.size)
  | [], l, h => by simp only [sizes, Option.some.injEq] at h; subst h; exact ⟨rfl, fun i p hp => by simp at hp⟩
  | (t, off) :: r, l, h => by
    simp only [sizes] at h
    split at h
    · rename_i y l' hy hl
      obtain rfl := Option.some.inj h
      obtain ⟨h1, h2⟩ := sizes_ok hT r l' hl
      refine ⟨by simp [h1], fun i p hp => ?_⟩
      cases i with
      | zero => simp at hp; subst hp; exact ⟨y, hy, rfl⟩
      | succ i => exact h2 i p (by simpa using hp)
    · cases h

theorem mapM_places (gs : Array Go.Field) (l : List (Nat × Nat)) (hl : l.length = gs.size)
    (h : ∀ (i : Nat) g, gs[i]? = some g → ∃ info, P.info? g.type = some info ∧ l[i]? = some (g.offset, info.size)) (w : World) :
    (gs.mapM fun f => (do pure (f.offset, ← sizeOf f.type) : Sem (Nat × Nat))).run P w = .ok l.toArray w := by
  have key : ∀ (fs : List Go.Field) (l : List (Nat × Nat)), l.length = fs.length → (∀ (i : Nat) g, fs[i]? = some g → ∃ info, P.info? g.type = some info ∧ l[i]? = some (g.offset, info.size)) →
      (fs.mapM fun f => (do pure (f.offset, ← sizeOf f.type) : Sem (Nat × Nat))).run P w = .ok l w := by
    intro fs
    induction fs with
    | nil =>
      intro l hl _
      obtain rfl := List.eq_nil_of_length_eq_zero hl
      rfl
    | cons f fs ih =>
      intro l hl h
      cases l with
      | nil => simp at hl
      | cons p l =>
        obtain ⟨info, hi, hp⟩ := h 0 f rfl
        simp at hp
        subst hp
        have := ih l (by simpa using hl) (fun i g hg => h (i + 1) g hg)
        simp at this
        simp [List.mapM_cons, run_sizeOf hi w, this]
  have h1 := key gs.toList l (by simpa using hl) (fun i g hg => h i g (by simpa using hg))
  rw [← Array.toArray_toList (xs := gs), List.mapM_toArray]
  simp at h1
  simp [h1]

theorem run_zero {t : TypeId} {y : Ty} {z : List D} (hT : TOk P T) (hy : T t = some y) (hz : cellsOf y.zero = some z) (w : World) :
    ∃ v, (zeroValue t).run P w = .ok v w ∧ RepP I w y.zero v := by
  obtain ⟨i, d, hi, hd, hk, _, _, hzero⟩ := ty_of hT hy
  cases hiz : i.zero with
  | none => rw [hiz] at hzero; rw [hzero] at hz; simp [cellsOf] at hz
  | some v =>
    rw [hiz] at hzero
    refine ⟨v, by simp [zeroValue, typeInfo, hi, hiz], ?_⟩
    rw [hzero]
    exact rep_ofVs v

theorem rep_pairs {parts : Array (Nat × Operand)} {ρ : Operand → D} {ev : Operand → Value} (h : ∀ p ∈ parts.toList, Rep I w μ (ρ p.2) (ev p.2)) :
    (parts.toList.map fun p => (p.1, ρ p.2)).length = (parts.map fun p => (p.1, ev p.2)).toList.length ∧
    ∀ (i : Nat) p q, (parts.toList.map fun p => (p.1, ρ p.2))[i]? = some p → (parts.map fun p => (p.1, ev p.2)).toList[i]? = some q → p.1 = q.1 ∧ Rep I w μ p.2 q.2 := by
  refine ⟨by simp, fun i p q hp hq => ?_⟩
  rw [Array.toList_map, List.getElem?_map] at hq
  rw [List.getElem?_map] at hp
  obtain ⟨a, ha, rfl⟩ := Option.map_eq_some_iff.1 hp
  rw [ha] at hq
  obtain rfl := Option.some.inj hq
  exact ⟨rfl, h a (List.mem_of_getElem? ha)⟩

theorem good_build {t : TypeId} {parts : Array (Nat × Operand)} {ρ : Operand → D} {ev : Operand → Value} {r : SR} (hT : TOk P T) (hw : WOk I w μ H)
    (hp : ∀ p ∈ parts.toList, Rep I w μ (ρ p.2) (ev p.2)) (hr : buildF T t (parts.toList.map fun p => (p.1, ρ p.2)) = some r) :
    GoodV P (Instr.build t (parts.map fun p => (p.1, ev p.2))) I w μ H r := by
  obtain ⟨hpl, hpr⟩ := rep_pairs hp
  unfold buildF at hr
  split at hr
  · rename_i fs sz by_ z tw ht
    split at hr
    · rename_i l hl
      obtain ⟨out, ho, rfl⟩ := Option.map_eq_some_iff.1 hr
      obtain ⟨i, d, hi, hd, hk, _, _, hzero⟩ := ty_of hT ht
      obtain ⟨gs, rfl, rfl⟩ := tk_struct hk
      obtain ⟨s1, s2⟩ := sizes_ok hT _ _ hl
      have hz : ∃ vz, (zeroValue t).run P w = .ok (.agg vz) w ∧ CellsOk I w μ z vz := by
        cases hiz : i.zero with
        | none => rw [hiz] at hzero; cases hzero
        | some v =>
          rw [hiz] at hzero
          have hzero' : D.agg z = ofVs v := hzero
          have hrep : Rep I w μ (.agg z) v := by rw [hzero']; exact .pure (rep_ofVs v)
          obtain ⟨vz, rfl, a, b⟩ := rep_agg hrep
          exact ⟨vz, by simp [zeroValue, typeInfo, hi, hiz], a, b⟩
      obtain ⟨vz, hz1, hz2⟩ := hz
      obtain ⟨arr, g1, g2, _⟩ := fill_ok (I := I) (w := w) (μ := μ) (fun i => l[i]?) _ _ z out vz ho hz2 hpl hpr
      have hm := mapM_places (P := P) gs l (by simpa using s1) (fun j g hg => by
        obtain ⟨y, hy, hlj⟩ := s2 j (g.type, g.offset) (by rw [List.getElem?_map]; simp [hg])
        obtain ⟨i', _, hi', _, _, hs', _⟩ := ty_of hT hy
        exact ⟨i', hi', by rw [hlj, hs']⟩) w
      refine goodV_same (v := .agg arr) hw ?_ rfl (.agg _ _ g2.1 g2.2)
      simp at hm g1
      simp [Instr.build, hz1, Value.cells, run_underlying hd w, hm, g1]
    · cases hr
  · rename_i n e sz by_ z tw ht
    split at hr
    · rename_i y hy
      obtain ⟨out, ho, rfl⟩ := Option.map_eq_some_iff.1 hr
      obtain ⟨i, d, hi, hd, hk, _, _, hzero⟩ := ty_of hT ht
      obtain rfl := tk_array hk
      obtain ⟨i', _, hi', _, _, hs', _⟩ := ty_of hT hy
      have hz : ∃ vz, (zeroValue t).run P w = .ok (.agg vz) w ∧ CellsOk I w μ z vz := by
        cases hiz : i.zero with
        | none => rw [hiz] at hzero; cases hzero
        | some v =>
          rw [hiz] at hzero
          have hzero' : D.agg z = ofVs v := hzero
          have hrep : Rep I w μ (.agg z) v := by rw [hzero']; exact .pure (rep_ofVs v)
          obtain ⟨vz, rfl, a, b⟩ := rep_agg hrep
          exact ⟨vz, by simp [zeroValue, typeInfo, hi, hiz], a, b⟩
      obtain ⟨vz, hz1, hz2⟩ := hz
      obtain ⟨arr, g1, g2, _⟩ := fill_ok (I := I) (w := w) (μ := μ) (fun i => some (i * y.size, y.size)) _ _ z out vz ho hz2 hpl hpr
      refine goodV_same (v := .agg arr) hw ?_ rfl (.agg _ _ g2.1 g2.2)
      rw [hs'] at g1
      simp at g1
      simp [Instr.build, hz1, Value.cells, run_underlying hd w, run_sizeOf hi' w, g1]
    · cases hr
  · cases hr

theorem good_typeAssert {x : D} {v : Value} {xt a : TypeId} {ok : Bool} {r : SR} (hT : TOk P T) (hw : WOk I w μ H) (hx : Rep I w μ x v) (hr : typeAssertF T x a ok = some r) :
    GoodV P (Instr.typeAssert v xt a ok) I w μ H r := by
  unfold typeAssertF at hr
  split at hr
  · rename_i y t d hy
    obtain ⟨i, td, hi, hd, hk, _⟩ := ty_of hT hy
    obtain ⟨u, rfl, hu⟩ := rep_iface hx
    split at hr
    · cases hr
    · rename_i hne
      split at hr
      · rename_i hta
        subst hta
        obtain rfl := Option.some.inj hr
        have hrun : (Instr.typeAssert (.iface t u) xt t ok).run P w = .ok (if ok then .tuple #[u, .bool true] else u) w := by
          cases td <;> first | (exfalso; exact hne (by rw [hk]; rfl)) | (cases ok <;> simp [Instr.typeAssert, run_underlying hd w])
        refine goodV_same hw hrun rfl ?_
        cases ok
        · exact hu
        · refine .tuple _ _ rfl (fun i d u' h1 h2 => ?_)
          match i with
          | 0 => simp at h1 h2; subst h1; subst h2; exact hu
          | 1 => simp at h1 h2; subst h1; subst h2; exact .pure (.bool true)
          | n + 2 => simp at h1
      · cases hr
  · cases hr

end
end Go.Proofs.Ytifpbdhggooelaa.GD
