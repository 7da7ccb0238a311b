/- One operation on data is what the machine does: copy, literals, make, conversions; all together. -/
import Derived.Test.YtifpbdhggooelaaGd12
import Derived.Laws.IdiomStrings
import Derived.Laws.BytesArg
namespace Go.Proofs.Ytifpbdhggooelaa.GD
open Go
set_option linter.unusedVariables false
set_option linter.unusedSimpArgs false

variable {P : Program} {T : Tys}
section
variable {I : Im} {w : World} {μ : List Loc} {H : Heap}

theorem getElem?_splice' {α : Type} (l ns : List α) (off : Nat) (k : Nat) (hk : k = ns.length) (h : off + ns.length ≤ l.length) (j : Nat) :
    (l.take off ++ ns ++ l.drop (off + k))[j]? = if off ≤ j ∧ j < off + ns.length then ns[j - off]? else l[j]? := by
  subst hk; exact getElem?_splice l ns off h j

theorem good_copy {t u ty : TypeId} {d s : D} {vd vs : Value} {h : Hint} {r : SR} (hT : TOk P T) (hw : WOk I w μ H) (hd : Rep I w μ d vd) (hs : Rep I w μ s vs)
    (hr : copyF T t d s (hget H) h = some r) (hc : ∀ c ∈ r.cs, c) : GoodV P (Builtin.copy_ #[t, u] ty #[vd, vs]) I w μ H r := by
  unfold copyF at hr
  split at hr
  · rename_i e sz0 by0 z0 tw0 ys o st len ht hsrc
    split at hr
    · rename_i y sz es hy ho
      split at hr
      · rename_i hcond
        obtain ⟨hstr, hsz⟩ := hcond
        subst hsz
        obtain ⟨c0, hv0, hr⟩ := Option.bind_eq_some_iff.1 hr
        obtain ⟨cs, hq, rfl⟩ := Option.map_eq_some_iff.1 hr
        have hview := viewReq_ok hv0 (fun c hcc => hc c (List.mem_append_left _ hcc))
        replace hc : ∀ c ∈ cs, c := fun c hcc => hc c (List.mem_append_right _ hcc)
        obtain ⟨hle, hall⟩ := req_ok hq hc
        obtain ⟨ti, td, hti, htd, htk, _⟩ := ty_of hT ht
        obtain rfl := tk_slice htk
        obtain ⟨i, ed, hi, hed, hek, hsz, hby, hzero⟩ := ty_of hT hy
        obtain ⟨m, a, hm, hfx, hle', ha, rfl⟩ := rep_view hd
        obtain ⟨m', em, hok⟩ := hw.obj o _ ho
        rw [hm] at em
        obtain rfl := Option.some.inj em
        obtain ⟨_, hms, hcap, arr, E, fr, hbk, hs', hl, hrep, hfree⟩ := hok
        obtain ⟨vals, s1, s2, s3, s4, s5⟩ := src_ok (P := P) (sz := i.size) hw hs hsrc (by rw [← hsz]; exact all_len hall)
          (by rintro s rfl; rw [← hsz]; simpa [strFits] using hstr) (by rintro o st len rfl; simpa [viewFits] using hview)
        have hn : Nat.min ys.length len ≤ ys.length := Nat.min_le_left _ _
        have hn2 : Nat.min ys.length len ≤ len := Nat.min_le_right _ _
        have hf := s3 w (fun _ => rfl) _ hn
        have hvl : (vals.take (Nat.min ys.length len * i.size)).length = Nat.min ys.length len * i.size := by
          rw [List.length_take, s2]; exact Nat.min_eq_left (Nat.mul_le_mul_right _ hn)
        have htake : (ys.take len).length = Nat.min ys.length len := by rw [List.length_take, Nat.min_comm]
        have hmsz : m.sz = i.size := hms.trans hsz
        have hin : st * m.sz + (vals.take (Nat.min ys.length len * i.size)).length ≤ m.cap * m.sz := by
          rw [hvl, hmsz, ← Nat.add_mul]; exact Nat.mul_le_mul_right _ (by omega)
        have hones : ∀ v ∈ vals.take (Nat.min ys.length len * i.size), v.oneCell' = true := fun v hv => row_ones s4 s2 v (List.mem_of_mem_take hv)
        have hsrow : RowOk I w μ i.size (ys.take len) (vals.take (Nat.min ys.length len * i.size)).toArray := by
          refine ⟨fun j c hj => ?_, fun j q c d hj hq => ?_⟩
          · rw [List.getElem?_take] at hj
            split at hj
            · exact s4.1 j c hj
            · cases hj
          · rw [List.getElem?_take] at hj
            split at hj
            · rename_i hjl
              obtain ⟨v, hv, hR, h1⟩ := s4.2 j q c d hj hq
              have hql : q < i.size := by rw [← s4.1 j c hj]; exact (List.getElem?_eq_some_iff.1 hq).1
              have hjy : j < ys.length := (List.getElem?_eq_some_iff.1 hj).1
              have : j * i.size + i.size ≤ Nat.min ys.length len * i.size := by rw [← Nat.succ_mul]; exact Nat.mul_le_mul_right _ (Nat.lt_min.2 ⟨hjy, hjl⟩)
              refine ⟨v, ?_, hR, h1⟩
              simp only [List.getElem?_toArray] at hv ⊢
              rw [List.getElem?_take, if_pos (by omega), hv]
            · cases hj
        have hput : st * m.sz + (vals.take (Nat.min ys.length len * i.size)).length ≤ arr.size := by rw [hs']; exact hin
        have hrow : RowOk I w μ m.sz (es.take st ++ ys.take len ++ es.drop (st + min ys.length len)) (putAt arr (st * m.sz) 0 (vals.take (Nat.min ys.length len * i.size))) := by
          have hsp := getElem?_splice' es (ys.take len) st (min ys.length len) htake.symm (by rw [htake]; omega)
          refine ⟨fun j c hj => ?_, fun j q c d hj hq => ?_⟩
          · rw [hsp] at hj
            split at hj
            · rw [hmsz]; exact hsrow.1 _ c hj
            · exact hl _ c hj
          · rw [hsp] at hj
            rw [putAt_get hput, hvl]
            split at hj
            · rename_i hjin
              rw [htake] at hjin
              have hql : q < m.sz := by rw [hmsz, ← hsrow.1 _ c hj]; exact (List.getElem?_eq_some_iff.1 hq).1
              have e1 : j * m.sz = st * m.sz + (j - st) * m.sz := by rw [← Nat.add_mul]; congr 1; omega
              have e2 : (j - st) * m.sz + m.sz ≤ Nat.min ys.length len * m.sz := by rw [← Nat.succ_mul]; exact Nat.mul_le_mul_right _ (by omega)
              rw [← hmsz, if_pos (by omega)]
              obtain ⟨v, hv, hR, h1⟩ := hsrow.2 _ q c d hj hq
              refine ⟨v, ?_, hR, h1⟩
              rw [show j * m.sz + q - st * m.sz = (j - st) * m.sz + q by omega]
              simpa [hmsz] using hv
            · rename_i hjin
              rw [htake] at hjin
              have hql : q < m.sz := by rw [← hl _ c hj]; exact (List.getElem?_eq_some_iff.1 hq).1
              rw [← hmsz, if_neg ?_]
              · exact hrep j q c d hj hq
              · rcases Nat.lt_or_ge j st with h1 | h1
                · have : j * m.sz + m.sz ≤ st * m.sz := by rw [← Nat.succ_mul]; exact Nat.mul_le_mul_right _ h1
                  omega
                · have h2 : st + Nat.min ys.length len ≤ j := by omega
                  have : (st + Nat.min ys.length len) * m.sz ≤ j * m.sz := Nat.mul_le_mul_right _ h2
                  rw [Nat.add_mul] at this
                  omega
        obtain ⟨k1, k2⟩ := set_row (es' := es.take st ++ ys.take len ++ es.drop (st + min ys.length len)) (off := st * m.sz) (vs := vals.take (Nat.min ys.length len * i.size)) hw ho hm hbk hin
          (by simp; omega) hrow
        have hst : st < m.cap ∨ vals.take (Nat.min ys.length len * i.size) = [] := by
          by_cases h0 : st < m.cap
          · exact .inl h0
          · right
            have : len = 0 := by omega
            subst this
            simp
        have hrunst : (storeCells a (vals.take (Nat.min ys.length len * i.size))).run P w = .ok () (w.setCells m.b (st * m.sz) (vals.take (Nat.min ys.length len * i.size))) := by
          rcases hst with h0 | h0
          · obtain rfl := ha h0
            have := run_storeCells_cells (P := P) m.b (st * m.sz) (vals.take (Nat.min ys.length len * i.size)) 0 w (fun j hj => by
                simp only [World.cell?, hbk]
                have : st * m.sz + 0 + j < arr.size := by omega
                simp at this
                simp [this]) (fun j hj => by
                have := (hfree (st * m.sz + j) (by omega)).2
                simpa using this) hones
            simpa using this
          · rw [h0]; rfl
        refine ⟨_, I, _, μ, ?_, k2, k1, .pure (.int .i64 _)⟩
        simp only [Builtin.copy_, List.getElem?_toArray, List.getElem?_cons_zero, List.getElem?_cons_succ, Sem.run_bind, Sem.run_pure, Result.andThen_ok, run_underlying htd, s1, run_sizeOf hi, hf, hrunst]
        rfl
      · cases hr
    · cases hr
  · cases hr

/-! ### literals of slices -/
theorem lit_ok {sz : Nat} : ∀ (l : List (Nat × D)) (vl : List (Nat × Value)) (es out : List (List D)) (cs : Array Value),
    litEs sz es l = some out → RowOk I w μ sz es cs → cs.size = es.length * sz → l.length = vl.length →
    (∀ (i : Nat) p q, l[i]? = some p → vl[i]? = some q → p.1 = q.1 ∧ Rep I w μ p.2 q.2) →
    ∃ arr, Instr.fill (fun i => some (i * sz, sz)) cs vl = some arr ∧ RowOk I w μ sz out arr ∧ arr.size = out.length * sz ∧ out.length = es.length
  | [], vl, es, out, cs, h, hc, hs, hl, hr => by
    have : vl = [] := List.eq_nil_of_length_eq_zero hl.symm
    subst this
    simp only [litEs, Option.some.injEq] at h
    subst h
    exact ⟨cs, rfl, hc, hs, rfl⟩
  | (i, x) :: l, vl, es, out, cs, h, hc, hs, hl, hr => by
    cases vl with
    | nil => simp at hl
    | cons q vl =>
      obtain ⟨i', v⟩ := q
      obtain ⟨rfl, hx⟩ := hr 0 (i, x) (i', v) rfl rfl
      simp only [litEs] at h
      split at h
      · rename_i ns hns
        split at h
        · rename_i hcond
          obtain ⟨hnl, hil⟩ := hcond
          obtain ⟨e1, e2, e3⟩ := cells_of hx hns
          have hvl : v.cells.toList.length = sz := by simp [← e1, hnl]
          have hb : i * sz + sz ≤ es.length * sz := by rw [← Nat.succ_mul]; exact Nat.mul_le_mul_right _ hil
          have hput : i * sz + v.cells.toList.length ≤ cs.size := by rw [hvl, hs]; exact hb
          have hz : v.cells.zipIdx.foldl (fun (cs : Array Value) (p : Value × Nat) => cs.setIfInBounds (i * sz + p.2) p.1) cs = putAt cs (i * sz) 0 v.cells.toList := by
            unfold putAt; rw [← Array.foldl_toList]; simp
          have hrow : RowOk I w μ sz (es.set i ns) (putAt cs (i * sz) 0 v.cells.toList) := by
            refine ⟨fun j c hj => ?_, fun j q c d hj hq => ?_⟩
            · by_cases e : i = j
              · subst e
                rw [List.getElem?_set_self hil] at hj
                obtain rfl := Option.some.inj hj
                exact hnl
              · rw [List.getElem?_set_ne e] at hj; exact hc.1 j c hj
            · rw [putAt_get hput, hvl]
              by_cases e : i = j
              · subst e
                rw [List.getElem?_set_self hil] at hj
                obtain rfl := Option.some.inj hj
                have hql : q < sz := by rw [← hnl]; exact (List.getElem?_eq_some_iff.1 hq).1
                rw [if_pos (by omega)]
                have hqv : q < v.cells.size := by rw [← e1, hnl]; exact hql
                have hR := e3 q d _ hq (Array.getElem?_eq_getElem hqv)
                refine ⟨v.cells[q], ?_, hR, one_cell hR (e2 d (List.mem_of_getElem? hq))⟩
                rw [Nat.add_sub_cancel_left]
                simp [Array.getElem?_eq_getElem hqv]
              · rw [List.getElem?_set_ne e] at hj
                have hql : q < sz := by rw [← hc.1 j c hj]; exact (List.getElem?_eq_some_iff.1 hq).1
                rw [if_neg ?_]
                · exact hc.2 j q c d hj hq
                · rcases Nat.lt_or_gt_of_ne e with h1 | h1
                  · have : i * sz + sz ≤ j * sz := by rw [← Nat.succ_mul]; exact Nat.mul_le_mul_right _ h1
                    omega
                  · have : j * sz + sz ≤ i * sz := by rw [← Nat.succ_mul]; exact Nat.mul_le_mul_right _ h1
                    omega
          have hsz2 : (putAt cs (i * sz) 0 v.cells.toList).size = cs.size := (foldl_set _ _ 0 cs (by omega)).1
          obtain ⟨arr, g1, g2, g3, g4⟩ := lit_ok l vl _ out _ h hrow (by rw [hsz2, hs]; simp) (by simpa using hl) (fun j p q a b => hr (j + 1) p q a b)
          refine ⟨arr, ?_, g2, g3, by rw [g4]; simp⟩
          rw [Instr.fill]
          have hvs : v.cells.size = sz := by simpa using hvl
          have hn : ¬ (v.cells.size ≠ sz ∨ i * sz + v.cells.size > cs.size) := by
            rw [hs]; omega
          dsimp only
          rw [if_neg (by simpa using hn), hz]
          exact g1
        · cases h
      · cases h

theorem replicate_row {len sz : Nat} {z : List D} {zv : Array Value} (hl : z.length = sz) (hz : CellsOk I w μ z zv) (hone : ∀ c ∈ z, D.one c = true) :
    RowOk I w μ sz (List.replicate len z) ((Array.range (len * sz)).map (zv[· % zv.size]!)) := by
  have hzs : zv.size = sz := by rw [← hz.1, hl]
  refine ⟨fun i c hi => ?_, fun i j c d hi hj => ?_⟩
  · rw [List.getElem?_replicate] at hi
    split at hi
    · obtain rfl := Option.some.inj hi; exact hl
    · cases hi
  · rw [List.getElem?_replicate] at hi
    split at hi
    · rename_i hil
      obtain rfl := Option.some.inj hi
      have hjl : j < sz := by rw [← hl]; exact (List.getElem?_eq_some_iff.1 hj).1
      have hlt : i * sz + j < len * sz := by
        have : i * sz + sz ≤ len * sz := by rw [← Nat.succ_mul]; exact Nat.mul_le_mul_right _ hil
        omega
      have hjz : j < zv.size := by omega
      have hR := hz.2 j d _ hj (Array.getElem?_eq_getElem hjz)
      refine ⟨zv[j], ?_, hR, one_cell hR (hone d (List.mem_of_getElem? hj))⟩
      have e : (i * sz + j) % zv.size = j := by rw [hzs, Nat.mul_comm, Nat.mul_add_mod, Nat.mod_eq_of_lt hjl]
      simp [hlt, e, hjz]
    · cases hi

theorem purEs_ok : ∀ {es es' : List (List D)}, purEs es = some es' → es'.length = es.length ∧ ∀ (i : Nat) c', es'[i]? = some c' → ∃ c, es[i]? = some c ∧ purs c = some c'
  | [], es', h => by simp only [purEs, Option.some.injEq] at h; subst h; exact ⟨rfl, fun i c h => by simp at h⟩
  | c :: r, es', h => by
    simp only [purEs] at h
    split at h
    · rename_i x y hx hy
      obtain rfl := Option.some.inj h
      obtain ⟨h1, h2⟩ := purEs_ok hy
      refine ⟨by simp [h1], fun i c' hi => ?_⟩
      cases i with
      | zero => simp at hi; subst hi; exact ⟨c, rfl, hx⟩
      | succ i => exact h2 i c' (by simpa using hi)
    · cases h

theorem pure_of_row {es es' : List (List D)} {sz : Nat} {arr : Array Value} (hr : RowOk I w μ sz es arr) (hs : arr.size = es.length * sz) (hl : es'.length = es.length)
    (h : ∀ (i : Nat) c', es'[i]? = some c' → ∃ c, es[i]? = some c ∧ purs c = some c') : PureRow I w sz es' arr := by
  have hall : es.all purC = true := by
    rw [List.all_eq_true]
    intro c hc
    obtain ⟨i, hi, rfl⟩ := List.getElem_of_mem hc
    obtain ⟨c, h1, h2⟩ := h i _ (List.getElem?_eq_getElem (by rw [hl]; exact hi))
    rw [List.getElem?_eq_getElem hi] at h1
    obtain rfl := Option.some.inj h1
    simp [purC, h2]
  have he : es' = purStrip es := by
    apply List.ext_getElem?
    intro i
    unfold purStrip
    rw [List.getElem?_map]
    cases hc : es'[i]? with
    | none =>
      have : es.length ≤ i := by rw [← hl]; exact List.getElem?_eq_none_iff.1 hc
      rw [List.getElem?_eq_none this]; rfl
    | some c' =>
      obtain ⟨c, h1, h2⟩ := h i c' hc
      rw [h1]; simp [h2]
  rw [he]
  exact (strip_ok hall hr hs).1

theorem run_zero_cells {t : TypeId} {y : Ty} {z : List D} (hT : TOk P T) (hy : T t = some y) (hz : cellsOf y.zero = some z) (w : World) :
    ∃ v, (zeroValue t).run P w = .ok v w ∧ CellsOk I w μ z v.cells ∧ ∀ c ∈ z, D.one c = true := by
  obtain ⟨v, h1, h2⟩ := run_zero hT hy hz w
  obtain ⟨e1, e2, e3⟩ := cells_of (I := I) (w := w) (μ := μ) (.pure (h2.keeps ⟨fun _ _ h => ⟨h, rfl⟩⟩)) hz
  exact ⟨v, h1, ⟨e1, e3⟩, e2⟩

theorem good_buildSlice {t len : Nat} {parts : Array (Nat × Operand)} {ρ : Operand → D} {ev : Operand → Value} {f : Nat} {h : Hint} {r : SR} (hT : TOk P T) (hw : WOk I w μ H) (hf : FreshOk μ H f)
    (hp : ∀ p ∈ parts.toList, Rep I w μ (ρ p.2) (ev p.2)) (hr : buildSliceF T t len (parts.toList.map fun p => (p.1, ρ p.2)) f h = some r) :
    GoodV P (Instr.buildSlice t len (parts.map fun p => (p.1, ev p.2))) I w μ H r := by
  obtain ⟨hpl, hpr⟩ := rep_pairs hp
  unfold buildSliceF at hr
  split at hr
  · rename_i e sz0 by0 z0 tw0 ht
    split at hr
    · rename_i y hy
      split at hr
      · rename_i z hz
        split at hr
        · rename_i hcond
          obtain ⟨hzl, hmax⟩ := hcond
          split at hr
          · rename_i es hes
            obtain ⟨ti, td, hti, htd, htk, _⟩ := ty_of hT ht
            obtain rfl := tk_slice htk
            obtain ⟨i, ed, hi, hed, hek, hsz, hby, hzero⟩ := ty_of hT hy
            obtain ⟨zv, hzrun, hzok, hzone⟩ := run_zero_cells (I := I) (μ := μ) hT hy hz w
            have hzs : zv.cells.size = i.size := by rw [← hzok.1, hzl, hsz]
            have hrow := replicate_row (I := I) (w := w) (μ := μ) (len := len) hzl hzok hzone
            obtain ⟨arr, g1, g2, g3, g4⟩ := lit_ok (I := I) (w := w) (μ := μ) _ _ _ es _ hes hrow (by simp) hpl hpr
            have hlen : es.length = len := by rw [g4]; simp
            have hrun : (Instr.buildSlice t len (parts.map fun p => (p.1, ev p.2))).run P w = .ok (.slice (some ⟨w.heap.size, 0, none⟩) len len) (w.alloc (.cells arr e)) := by
              rw [hsz] at g1
              have hng : ¬ len * i.size > 2 ^ 24 := by rw [← hsz]; omega
              by_cases h0 : len * i.size = 0
              · have hz0 : (Array.range (len * i.size)).map (zv.cells[· % zv.cells.size]!) = (Array.range (len * i.size)).map ((#[] : Array Value)[· % (#[] : Array Value).size]!) := by
                  rw [h0]; simp
                rw [hz0] at g1
                rw [h0] at g1
                simp only [Instr.buildSlice, Sem.run_bind, run_underlying htd, Result.andThen_ok, run_sizeOf hi, h0, if_true, Sem.run_pure, Sem.run_ite, if_neg (show ¬ 0 > 2 ^ 24 by decide)]
                rw [g1]
                simp [run_newRow]
              · simp only [Instr.buildSlice, Sem.run_bind, run_underlying htd, Result.andThen_ok, run_sizeOf hi, if_neg hng, h0, if_false, hzrun, Sem.run_pure, Sem.run_ite]
                rw [g1]
                simp [run_newRow]
            split at hr
            · obtain rfl := Option.some.inj hr
              obtain ⟨p1, p2, p3⟩ := alloc_row (E := e) (fr := (0, 0)) (cap := len) hw hf (by omega) (by rw [g3, hlen]) (fun k _ => by simp) g2
              refine ⟨_, I, _, _, hrun, p2, p1, ?_⟩
              have := Rep.view (I := I) (w := w.alloc (.cells arr e)) f 0 len _ ⟨w.heap.size, 0, none⟩ p3 rfl (by simp) (fun _ => by simp)
              simpa using this
            · obtain ⟨es', he', rfl⟩ := Option.map_eq_some_iff.1 hr
              obtain ⟨q1, q2⟩ := purEs_ok he'
              have hpure := pure_of_row g2 g3 q1 q2
              have hlen' : es'.length = len := by rw [q1, hlen]
              obtain ⟨I', μ', h1, h2, h3⟩ := alloc_tok (E := e) (fr := (0, 0)) (o := f) (cap := len) hw (fresh_le hf) (by rw [hlen']; exact fresh_tok hw hf) (by rw [g3, hlen]) (by omega) (fun k _ => by simp) hpure
              rw [hlen'] at h1 h2 h3
              refine ⟨_, I', _, μ', hrun, h2, h1, ?_⟩
              show Rep _ _ _ (D.slice true es' (if h.noTok then none else some f)) _
              split
              · exact .pure (pur_ok rfl h3)
              · exact h3
          · cases hr
        · cases hr
      · cases hr
    · cases hr
  · cases hr

theorem good_makeSlice {t : Nat} {l c : D} {vl vc : Value} {f : Nat} {h : Hint} {r : SR} (hT : TOk P T) (hw : WOk I w μ H) (hf : FreshOk μ H f)
    (hl : Rep I w μ l vl) (hc' : Rep I w μ c vc) (hr : makeSliceF T t l c f h = some r) (hc : ∀ c ∈ r.cs, c) : GoodV P (Instr.makeSlice t vl vc) I w μ H r := by
  unfold makeSliceF at hr
  split at hr
  · rename_i e sz0 by0 z0 tw0 n k ht
    split at hr
    · rename_i y hy
      split at hr
      · rename_i z hz
        split at hr
        · rename_i hzl
          obtain ⟨cs, hq, hr⟩ := Option.bind_eq_some_iff.1 hr
          obtain rfl := rep_int hl
          obtain rfl := rep_int hc'
          obtain ⟨ti, td, hti, htd, htk, _⟩ := ty_of hT ht
          obtain rfl := tk_slice htk
          obtain ⟨i, ed, hi, hed, hek, hsz, hby, hzero⟩ := ty_of hT hy
          obtain ⟨zv, hzrun, hzok, hzone⟩ := run_zero_cells (I := I) (μ := μ) hT hy hz w
          have hzs : zv.cells.size = i.size := by rw [← hzok.1, hzl, hsz]
          have main : (0 ≤ n ∧ n ≤ k ∧ (y.bytes : Int) * k ≤ 281474976710656 ∧ k ≤ 9223372036854775807) →
              (Instr.makeSlice t (.int .i64 n) (.int .i64 k)).run P w = .ok (.slice (some ⟨w.heap.size, 0, none⟩) n.toNat k.toNat) (w.alloc (.cells ((Array.range (k.toNat * i.size)).map (zv.cells[· % zv.cells.size]!)) e)) := by
            rintro ⟨h0, h1, h2, h3⟩
            have w1 : IntKind.i64.wrap n = n := by
              unfold IntKind.wrap; simp [IntKind.bits, IntKind.signed]; omega
            have w2 : IntKind.i64.wrap k = k := by
              unfold IntKind.wrap; simp [IntKind.bits, IntKind.signed]; omega
            have hinfo : (typeInfo e).run P w = .ok i w := by simp [typeInfo, hi]
            have hask : ∀ (m : Nat), (askRoom m).run P w = .ok () w := fun m => by unfold askRoom; split <;> simp [mark, Sem.run]
            have hbad : ¬ ((decide (k < 0) || decide ((i.bytes : Int) * k > 2 ^ 48) || decide (n < 0) || decide (n > k)) = true) := by
              rw [hby] at h2
              have e48 : (2 : Int) ^ 48 = 281474976710656 := by decide
              simp only [Bool.or_eq_true, decide_eq_true_eq, e48]
              omega
            by_cases hz0 : k.toNat * i.size = 0
            · have he : (Array.range (k.toNat * i.size)).map (zv.cells[· % zv.cells.size]!) = (Array.range (k.toNat * i.size)).map ((#[] : Array Value)[· % (#[] : Array Value).size]!) := by rw [hz0]; simp
              rw [he]
              simp only [Instr.makeSlice, Sem.run_bind, run_underlying htd, Result.andThen_ok, asInt, asIntOf, Sem.run_pure, hinfo, w1, w2, if_neg hbad, hask, run_sizeOf hi, hz0, if_true, run_newRow]
            · simp only [Instr.makeSlice, Sem.run_bind, run_underlying htd, Result.andThen_ok, asInt, asIntOf, Sem.run_pure, hinfo, w1, w2, if_neg hbad, hask, run_sizeOf hi, hz0, if_false, hzrun, run_newRow, Sem.run_ite]
          split at hr
          · split at hr
            · rename_i z' hz'
              obtain rfl := Option.some.inj hr
              have hB := req_ok hq hc
              have hrun := main hB
              have hrow := replicate_row (I := I) (w := w) (μ := μ) (len := n.toNat) hzl hzok hzone
              have hpr : PureRow I w y.size (List.replicate n.toNat z') ((Array.range (k.toNat * i.size)).map (zv.cells[· % zv.cells.size]!)) := by
                have hrowk := replicate_row (I := I) (w := w) (μ := μ) (len := k.toNat) hzl hzok hzone
                rw [← hsz]
                have := pure_of_row (es' := List.replicate k.toNat z') hrowk (by simp) (by simp) (fun j c' hj => by
                  rw [List.getElem?_replicate] at hj
                  split at hj
                  · rename_i hjl
                    obtain rfl := Option.some.inj hj
                    exact ⟨z, by rw [List.getElem?_replicate, if_pos hjl], hz'⟩
                  · cases hj)
                refine ⟨fun j c hj => ?_, fun j q c d hj hq' => ?_⟩
                · refine this.1 j c ?_
                  rw [List.getElem?_replicate] at hj ⊢
                  split at hj
                  · rw [if_pos (by omega)]; exact hj
                  · cases hj
                · refine this.2 j q c d ?_ hq'
                  rw [List.getElem?_replicate] at hj ⊢
                  split at hj
                  · rw [if_pos (by omega)]; exact hj
                  · cases hj
              obtain ⟨I', μ', h1, h2, h3⟩ := alloc_tok (E := e) (fr := (0, 0)) (o := f) (es := List.replicate n.toNat z') (cap := k.toNat) (sz := y.size) hw (fresh_le hf) (fresh_tok hw hf) (by simp [hsz]) (by simp; omega) (fun k _ => by simp) hpr
              simp only [List.length_replicate] at h1 h2 h3
              exact ⟨_, I', _, μ', hrun, h2, h1, h3⟩
            · cases hr
          · obtain rfl := Option.some.inj hr
            have hB := req_ok hq hc
            have hrun := main hB
            have hrow := replicate_row (I := I) (w := w) (μ := μ) (len := k.toNat) hzl hzok hzone
            obtain ⟨p1, p2, p3⟩ := alloc_row (E := e) (fr := (0, 0)) (cap := k.toNat) (sz := y.size) (es := List.replicate k.toNat z) hw hf (by simp) (arr := (Array.range (k.toNat * i.size)).map (zv.cells[· % zv.cells.size]!)) (by simp [hsz]) (fun k _ => by simp) (by rw [← hsz]; exact hrow)
            refine ⟨_, I, _, _, hrun, p2, p1, ?_⟩
            have := Rep.view (I := I) (w := w.alloc (.cells ((Array.range (k.toNat * i.size)).map (zv.cells[· % zv.cells.size]!)) e)) f 0 n.toNat _ ⟨w.heap.size, 0, none⟩ p3 rfl (by simp; omega) (fun _ => by simp)
            simpa using this
        · cases hr
      · cases hr
    · cases hr
  · cases hr

/-! ### conversions -/
theorem byte_cell {c : List D} (h : isByteC c = true) : ∃ n : Int, c = [.int .u8 n] ∧ ((byteOf c).toNat : Int) = n := by
  unfold isByteC at h
  split at h
  · rename_i n
    simp at h
    refine ⟨n, rfl, ?_⟩
    simp [byteOf]
    omega
  · cases h

theorem freeze_cell (w : World) (b n : Nat) (a : Addr) : (w.freeze ⟨b, n, none⟩ 1).cell? a = w.cell? a := by
  unfold World.freeze
  rw [if_neg (by decide)]
  unfold World.cell?
  simp only [Array.getElem?_modify]
  by_cases h : b = a.block
  · rw [if_pos h]
    cases hb : w.heap[a.block]? with
    | none => rfl
    | some o => cases o <;> rfl
  · rw [if_neg h]

/-- Bytes that may be shared with a string are marked behind their end: their name is forgotten. -/
theorem good_mark {src e : TypeId} {es : List (List D)} {t n sz : Nat} {v : Value} (hw : WOk I w μ H) (hs : P.underlying src = some (.slice e)) (he : P.underlying e = some (.int .u8))
    (hx : Rep I w μ (.slice true es (some t)) v) (hg : hget H t = some (.tok n sz)) (hn : 0 < es.length) (hne : n = es.length) :
    GoodV P (convert src src v) I w μ H { v := .slice true es none, wr := [(t, some .dead)] } := by
  cases hx with
  | pure h => cases h
  | tok _ a cap _ m hm hst hat hp hsz =>
    obtain ⟨m', em, hok⟩ := hw.obj t _ hg
    rw [hm] at em
    obtain rfl := Option.some.inj em
    obtain ⟨h1, h2, h3, h4, h5⟩ := hok
    have hc : 0 < m.cap := by omega
    obtain ⟨c, E, fr, hbk, hcs, hfree⟩ := h5 hc
    obtain ⟨q1, q2⟩ := hat (by omega)
    obtain rfl := q2 (by omega)
    have hlt : m.b < w.heap.size := (Array.getElem?_eq_some_iff.1 hbk).1
    have htl : t < H.length := by
      rcases Nat.lt_or_ge t H.length with h | h
      · exact h
      · rw [hget, List.getD_eq_getElem?_getD, List.getElem?_eq_none h] at hg; cases hg
    have hrun : (convert src src (.slice (some ⟨m.b, 0, none⟩) es.length cap)).run P w = .ok (.slice (some ⟨m.b, 0, none⟩) es.length cap) (w.freeze ⟨m.b, c.size, none⟩ 1) := by
      have hsh : w.shape? m.b = some (E, c.size) := by simp [World.shape?, hbk]
      simp [convert, run_underlying hs, run_underlying he, markStringish, hsh]
    have hk : Keeps I w I (w.freeze ⟨m.b, c.size, none⟩ 1) := ⟨fun b k h => ⟨h, freeze_cell ..⟩⟩
    have u : Upd I w μ H t m .dead I (w.freeze ⟨m.b, c.size, none⟩ 1) := by
      refine ⟨by omega, fun m0 hm0 => ?_, hk, by simp [World.freeze], fun b hb hne => ?_, fun b k h => .inl h, .inr (.inr ⟨rfl, fun _ _ h => h⟩), rfl, rfl, rfl⟩
      · rw [hm] at hm0
        obtain rfl := Option.some.inj hm0
        exact ⟨Nat.le_refl _, fun _ => rfl, fun _ => rfl⟩
      · have := hne _ m hg hm (by simp [HObj.owns, hc])
        unfold World.freeze
        rw [if_neg (by decide)]
        simp only [Array.getElem?_modify]
        rw [if_neg (fun h => this h.symm)]
    obtain ⟨k1, k2⟩ := upd_ok hw u trivial
    exact ⟨_, I, _, _, hrun, k2, k1, .pure (hp.keeps hk)⟩

theorem good_convert {src dst : TypeId} {x : D} {v : Value} {f : Nat} {h : Hint} {r : SR} (hT : TOk P T) (hw : WOk I w μ H) (hf : FreshOk μ H f) (hx : Rep I w μ x v)
    (hr : convertF T src dst x (hget H) f h = some r) (hc : ∀ c ∈ r.cs, c) : GoodV P (convert src dst v) I w μ H r := by
  unfold convertF at hr
  split at hr
  · rename_i s d hs hd
    obtain ⟨si, sd, hsi, hsd, hsk, _⟩ := ty_of hT hs
    obtain ⟨di, dd, hdi, hdd, hdk, _⟩ := ty_of hT hd
    split at hr
    · rename_i k k' n hk
      rw [hk] at hdk; obtain rfl := tk_int hdk
      obtain rfl := Option.some.inj hr
      obtain rfl := rep_int hx
      refine good_int hw ?_
      simp [convert, run_underlying hsd w, run_underlying hdd w, Conv.intToInt]
    · rename_i st hk
      rw [hk] at hdk; obtain rfl := tk_str hdk
      obtain rfl := Option.some.inj hr
      obtain rfl := rep_str hx
      refine good_str hw ?_
      simp [convert, run_underlying hsd w, run_underlying hdd w]
    · rename_i e es t hk
      rw [hk] at hdk; obtain rfl := tk_slice hdk
      split at hr
      · rename_i sz0 by0 z0 tw0 n sz he hg
        obtain ⟨ei, ed, hei, hed, hek, _⟩ := ty_of hT he
        obtain rfl := tk_int hek
        split at hr
        · rename_i hcond
          obtain ⟨rfl, hpos, hne⟩ := hcond
          obtain rfl := Option.some.inj hr
          exact good_mark hw hdd hed hx hg hpos hne
        · cases hr
      · cases hr
    · rename_i e st hk
      rw [hk] at hdk; obtain rfl := tk_slice hdk
      obtain rfl := rep_str hx
      split at hr
      · rename_i sz0 by0 z0 tw0 hsk' he
        obtain ⟨ei, ed, hei, hed, hek, _⟩ := ty_of hT he
        obtain rfl := tk_int hek
        have hss : P.underlying src = some .string := by
          rw [hsk'] at hsk
          rw [hsd, tk_str hsk]
        have hcap := grownCap_ge w st.size 0 e
        have hrun := run_bytes_of_string (P := P) w src dst e st hss hdd hed
        have hbs : (bytesRow st (grownCap w st.size 0 e)).size = grownCap w st.size 0 e * 1 := by
          have : st.data.size = st.size := rfl
          simp [bytesRow]; omega
        have hpure : PureRow I w.drew 1 (st.data.toList.map byteC) (bytesRow st (grownCap w st.size 0 e)) := by
          refine ⟨fun i c hi => ?_, fun i j c d hi hj => ?_⟩
          · rw [List.getElem?_map] at hi
            obtain ⟨b, _, rfl⟩ := Option.map_eq_some_iff.1 hi
            rfl
          · rw [List.getElem?_map] at hi
            obtain ⟨b, hb, rfl⟩ := Option.map_eq_some_iff.1 hi
            cases j with
            | zero =>
              simp [byteC] at hj
              subst hj
              have hb' : st.data[i]? = some b := by simpa using hb
              have hlt : i < st.data.size := (Array.getElem?_eq_some_iff.1 hb').1
              refine ⟨.int .u8 (b.toNat : Int), ?_, .int _ _, rfl⟩
              simp only [bytesRow, Nat.mul_one, Nat.add_zero]
              rw [Array.getElem?_append_left (by simpa using hlt), Array.getElem?_map, hb']
              rfl
            | succ j => simp [byteC] at hj
        have hlen : (st.data.toList.map byteC).length = st.size := by simp
        split at hr
        · obtain rfl := Option.some.inj hr
          obtain ⟨p1, p2, p3⟩ := alloc_row (E := e) (fr := ((bytesRow st (grownCap w st.size 0 e)).size, (bytesRow st (grownCap w st.size 0 e)).size + 1)) (cap := grownCap w st.size 0 e) (sz := 1)
            (es := st.data.toList.map byteC) (arr := bytesRow st (grownCap w st.size 0 e)) (wok_drew hw) hf (by rw [hlen]; exact hcap) hbs (fun k hk => by simp; omega) hpure.row
          refine ⟨_, I, _, _, hrun, (ext_drew _).trans p2 (Nat.le_refl _), p1, ?_⟩
          have := Rep.view (I := I) (w := w.drew.alloc (.cells (bytesRow st (grownCap w st.size 0 e)) e ((bytesRow st (grownCap w st.size 0 e)).size, (bytesRow st (grownCap w st.size 0 e)).size + 1))) f 0 st.size _ ⟨w.heap.size, 0, none⟩ p3 rfl (by simpa using hcap) (fun _ => by simp)
          simpa using this
        · obtain rfl := Option.some.inj hr
          obtain ⟨I', μ', h1, h2, h3⟩ := alloc_tok (E := e) (fr := ((bytesRow st (grownCap w st.size 0 e)).size, (bytesRow st (grownCap w st.size 0 e)).size + 1)) (o := f) (cap := grownCap w st.size 0 e) (sz := 1)
            (es := st.data.toList.map byteC) (arr := bytesRow st (grownCap w st.size 0 e)) (wok_drew hw) (fresh_le hf) (fresh_tok (wok_drew hw) hf) hbs (by rw [hlen]; exact hcap) (fun k hk => by simp; omega) hpure
          rw [hlen] at h1 h2 h3
          exact ⟨_, I', _, μ', hrun, (ext_drew _).trans h2 (Nat.le_refl _), h1, h3⟩
      · cases hr
    · rename_i hk hn2
      rw [hk] at hdk; obtain rfl := tk_str hdk
      split at hr
      · rename_i e hsk'
        rw [hsk'] at hsk; obtain rfl := tk_slice hsk
        split at hr
        · rename_i sz0 by0 z0 tw0 es he hes
          obtain ⟨ei, ed, hei, hed, hek, hesz, _⟩ := ty_of hT he
          obtain rfl := tk_int hek
          obtain ⟨c0, hv0, hr1⟩ := Option.bind_eq_some_iff.1 hr
          obtain ⟨cs, hq, hre⟩ := Option.map_eq_some_iff.1 hr1
          clear hr hr1
          subst hre
          have hvf := viewReq_ok hv0 (fun c hcc => hc c (List.mem_append_left _ hcc))
          replace hc : ∀ c ∈ cs, c := fun c hcc => hc c (List.mem_append_right _ hcc)
          have hB := req_ok hq hc
          change GoodV P (convert src dst v) I w μ H { v := .str (bytesOf es), cs }
          have hall : ∀ c ∈ es, isByteC c = true := fun c hc => List.all_eq_true.1 hB c hc
          -- the cells, wherever they lie
          have key : ∀ (a : Addr) (cap : Nat), (∀ (j : Nat) c, es[j]? = some c → ∃ u, w.cell? (a.add j) = some u ∧ ∀ d, c[0]? = some d → Rep I w μ d u) →
              GoodV P (convert src dst (.slice (some a) es.length cap)) I w μ H { v := .str (bytesOf es), cs } := by
            intro a cap hcell
            have hl : es.length = (es.map byteOf).length := by simp
            have := run_convert_bytes_back (P := P) w src dst e a cap (es.map byteOf) hsd hed hdd (fun j hj => by
              have hj' : j < es.length := by simpa using hj
              obtain ⟨n, hn, hb⟩ := byte_cell (hall _ (List.getElem_mem hj'))
              obtain ⟨u, hu, hR⟩ := hcell j _ (List.getElem?_eq_getElem hj')
              have := rep_int (hR (.int .u8 n) (by rw [hn]; rfl))
              subst this
              rw [hu]
              simp [hb])
            rw [← hl] at this
            exact good_str hw this
          unfold srcEs at hes
          split at hes
          · rename_i nn ys tok
            obtain rfl := Option.some.inj hes
            rcases rep_slice hx with ⟨rfl, rfl, rfl⟩ | ⟨rfl, a, cap, rfl, hp⟩
            · have := run_convert_bytes_nil (P := P) w src e hsd hed 0 0 dst hdd
              exact good_str hw (show _ = Result.ok (Value.string (bytesOf [])) w from this)
            · obtain ⟨_, hcap, s, f, hsz, h1, h2⟩ := repP_slice hp
              refine key a cap (fun j c hj => ?_)
              have hjl := (List.getElem?_eq_some_iff.1 hj).1
              obtain ⟨n, rfl, _⟩ := byte_cell (hall c (List.mem_of_getElem? hj))
              have hs1 : s = 1 := by rw [← hsz j _ hj]; rfl
              subst hs1
              have := (h1 j 0 hjl (by omega)).2.1
              rw [Nat.mul_one, Nat.add_zero] at this
              exact ⟨_, this, fun d hd => .pure (h2 j 0 _ d hj hd)⟩
          · rename_i st
            exact absurd rfl (hn2 st)
          · rename_i o st len
            split at hes
            · rename_i sz0' es0 ho
              obtain rfl := Option.some.inj hes
              obtain ⟨m, a, hm, hfx, hle, ha, rfl⟩ := rep_view hx
              obtain ⟨m', em, hok⟩ := hw.obj o _ ho
              rw [hm] at em
              obtain rfl := Option.some.inj em
              obtain ⟨_, hms, hcap, arr, E, fr, hbk, hs', hl, hrep, hfree⟩ := hok
              have hlen : ((es0.drop st).take len).length = len := by simpa [viewFits] using hvf
              have := key a (m.cap - st) (fun j c hj => by
                have hjl : j < len := by rw [← hlen]; exact (List.getElem?_eq_some_iff.1 hj).1
                rw [List.getElem?_take, if_pos hjl, List.getElem?_drop] at hj
                have hst : st < m.cap := by omega
                obtain rfl := ha hst
                obtain ⟨n, hn, _⟩ := byte_cell (hall c (by
                  refine List.mem_of_getElem? (i := j) ?_
                  rw [List.getElem?_take, if_pos hjl, List.getElem?_drop]; exact hj))
                have hsz1 : m.sz = 1 := by rw [← hl _ c hj, hn]; rfl
                obtain ⟨v, hv, hR, _⟩ := hrep (st + j) 0 c (.int .u8 n) hj (by rw [hn]; rfl)
                refine ⟨v, ?_, fun d hd => ?_⟩
                · rw [add_lit, hsz1]
                  rw [hsz1] at hv
                  simp only [World.cell?, hbk]
                  simpa using hv
                · rw [hn] at hd
                  obtain rfl := Option.some.inj hd
                  exact hR)
              rwa [hlen] at this
            · cases hes
          · cases hes
        · cases hr
      · cases hr
    · cases hr
  · cases hr

end
end Go.Proofs.Ytifpbdhggooelaa.GD
