/- One operation on data is what the machine does: new rows, stores. -/
import Derived.Test.YtifpbdhggooelaaGd8
namespace Go.Proofs.Ytifpbdhggooelaa.GD
open Go
set_option linter.unusedVariables false
set_option linter.unusedSimpArgs false

variable {P : Program} {T : Tys}
section
variable {I : Im} {w : World} {μ : List Loc} {H : Heap}

/-- A block's cells are those of elements laid one behind another. -/
def RowOk (I : Im) (w : World) (μ : List Loc) (sz : Nat) (es : List (List D)) (arr : Array Value) : Prop :=
  (∀ (i : Nat) cs, es[i]? = some cs → cs.length = sz) ∧
  (∀ (i j : Nat) (cs : List D) d, es[i]? = some cs → cs[j]? = some d → ∃ v, arr[i * sz + j]? = some v ∧ Rep I w μ d v ∧ v.oneCell' = true)

theorem fresh_le {f : Nat} (hf : FreshOk μ H f) : f ≤ H.length := by rcases hf with h | ⟨h, _⟩ <;> omega

theorem fresh_mu {f : Nat} {m' : Loc} (hw : WOk I w μ H) (hf : FreshOk μ H f) (h1 : 1 ≤ m'.st) : ∀ m, μ[f]? = some m → m.st ≤ m'.st ∧ (m'.st = m.st ∨ m.fx = true → m' = m) ∧ (1 ≤ m.st → m'.sz = m.sz) := by
  intro m hm
  rcases hf with h | ⟨_, h, _⟩
  · have := (List.getElem?_eq_some_iff.1 hm).1
    have := hw.len
    omega
  · obtain ⟨a, b⟩ := hw.dum _ m h hm
    refine ⟨by omega, fun q => ?_, fun q => by omega⟩
    rcases q with q | q
    · omega
    · rw [b] at q; cases q

theorem fresh_none {f : Nat} (hf : FreshOk μ H f) : hget H f = none := by
  rcases hf with h | ⟨_, h, _⟩
  · subst h; simp [hget]
  · exact h

theorem keeps_alloc (hw : WOk I w μ H) (o : Obj) : Keeps I w I (w.alloc o) :=
  ⟨fun b k h => ⟨h, World.cell?_alloc_lt w o _ (hw.imm b k h)⟩⟩

theorem alloc_row {f cap : Nat} {es : List (List D)} {arr : Array Value} {sz : Nat} {E : TypeId} {fr : Nat × Nat} (hw : WOk I w μ H) (hf : FreshOk μ H f) (hcap : es.length ≤ cap) (hs : arr.size = cap * sz)
    (hfr : ∀ k, k < arr.size → (fr.1 ≤ k && k < fr.2) = false) (hr : RowOk I w μ sz es arr) :
    WOk I (w.alloc (.cells arr E fr)) (mset μ f { b := w.heap.size, sz, cap, st := 1, fx := true }) (hset H f (some (.row sz es))) ∧
    Ext μ.length I w μ H I (w.alloc (.cells arr E fr)) (mset μ f { b := w.heap.size, sz, cap, st := 1, fx := true }) (hset H f (some (.row sz es))) ∧
    (mset μ f { b := w.heap.size, sz, cap, st := 1, fx := true })[f]? = some { b := w.heap.size, sz, cap, st := 1, fx := true } := by
  have u : Upd I w μ H f { b := w.heap.size, sz, cap, st := 1, fx := true } (.row sz es) I (w.alloc (.cells arr E fr)) :=
    { le := fresh_le hf, mu := fresh_mu hw hf (Nat.le_refl _), keeps := keeps_alloc hw _, size := by simp, frame := fun b hb _ => RowKit.Below.heap_alloc _ _ _ hb
      im := fun b k h => .inl h, blk := .inr (.inl ⟨Nat.le_refl _, by simp⟩), os := rfl, tape := rfl, output := rfl }
  have hmu := upd_mu hw u
  have hk := keeps_alloc hw (.cells arr E fr)
  obtain ⟨h1, h2⟩ := upd_ok hw u (by
    refine ⟨⟨rfl, Nat.le_refl _⟩, rfl, hcap, arr, E, fr, ?_, hs, hr.1, fun i j cs d a b => ?_, fun k hk' => ⟨fun h => ?_, ?_⟩⟩
    · show (w.heap.push _)[w.heap.size]? = _
      simp
    · obtain ⟨v, hv, hR, h1⟩ := hr.2 i j cs d a b
      exact ⟨v, hv, hR.keeps hk hmu, h1⟩
    · have := hw.imm _ _ h; simp at this
    · have := hfr k (by rw [hs]; exact hk')
      show World.frozen? { w with heap := w.heap.push _ } _ = _
      simp only [World.frozen?, Array.getElem?_push_size]
      exact this)
  exact ⟨h1, h2, mset_same (by rw [hw.len]; exact fresh_le hf)⟩

theorem run_newRow (E : TypeId) (arr : Array Value) (w : World) : (newRow E arr).run P w = .ok ⟨w.heap.size, 0, none⟩ (w.alloc (.cells arr E)) := by
  simp [newRow, newObj, Sem.run]

theorem rowOk_one {cs : List D} {v : Value} {d : D} (h : Rep I w μ d v) (hc : cellsOf d = some cs) : v.cells.size = cs.length ∧ RowOk I w μ cs.length [cs] v.cells := by
  obtain ⟨e1, e2, e3⟩ := cells_of h hc
  refine ⟨e1.symm, fun i c hi => ?_, fun i j c d hi hj => ?_⟩
  · cases i with
    | zero => simp at hi; subst hi; rfl
    | succ i => simp at hi
  · cases i with
    | succ i => simp at hi
    | zero =>
      simp at hi
      subst hi
      have hlt : j < v.cells.size := by rw [← e1]; exact (List.getElem?_eq_some_iff.1 hj).1
      have hR := e3 j d _ hj (Array.getElem?_eq_getElem hlt)
      exact ⟨v.cells[j], by simp [Array.getElem?_eq_getElem hlt], hR, one_cell hR (e2 d (List.mem_of_getElem? hj))⟩

theorem good_var {E : TypeId} {x : D} {v : Value} {z : List D} {f : Nat} (hw : WOk I w μ H) (hf : FreshOk μ H f) (hx : Rep I w μ x v) (hz : cellsOf x = some z) :
    GoodV P (do pure (Value.pointer (some (← newVar E v)))) I w μ H { v := .ptr f 0 0, wr := [(f, some (.row z.length [z]))] } := by
  obtain ⟨e1, e2⟩ := rowOk_one hx hz
  obtain ⟨h1, h2, h3⟩ := alloc_row (E := E) (fr := (0, 0)) (cap := 1) hw hf (Nat.le_refl _) (es := [z]) (arr := v.cells) (sz := z.length) (by simp [e1]) (fun k _ => by simp) e2
  refine ⟨_, I, _, _, ?_, h2, h1, Rep.ptr f 0 0 _ h3 rfl⟩
  simp [newVar, run_newRow]

/-- A new variable that nobody writes. -/
theorem good_snap {E : TypeId} {x : D} {v : Value} {z z' : List D} (hw : WOk I w μ H) (hx : Rep I w μ x v) (hz : cellsOf x = some z) (hp : purs z = some z') :
    GoodV P (do pure (Value.pointer (some (← newVar E v)))) I w μ H { v := .sptr z' } := by
  obtain ⟨e1, _, e3⟩ := cells_of hx hz
  obtain ⟨l1, l2⟩ := purs_ok (vs := v.cells.toList) hp (by simp [e1]) (fun i d u a b => e3 i d u a (by simpa using b))
  let I' : Im := fun b k => I b k ∨ (b = w.heap.size ∧ k < z'.length)
  have hk : Keeps I w I' (w.alloc (.cells v.cells E)) := ⟨fun b k h => ⟨.inl h, World.cell?_alloc_lt w _ _ (hw.imm b k h)⟩⟩
  have hcell : ∀ k, (w.alloc (.cells v.cells E)).cell? ⟨w.heap.size, k, none⟩ = v.cells[k]? := by
    intro k
    show World.cell? { w with heap := w.heap.push _ } _ = _
    simp [World.cell?]
  have hfr : ∀ b, b < w.heap.size → (w.alloc (.cells v.cells E)).heap[b]? = w.heap[b]? := fun b hb => RowKit.Below.heap_alloc _ _ _ hb
  have hok : ∀ o x, hget H o = some x → ∃ m, μ[o]? = some m ∧ ObjOk I' (w.alloc (.cells v.cells E)) μ m x := by
    intro o x ho
    obtain ⟨m, hm, hob⟩ := hw.obj o x ho
    refine ⟨m, hm, objOk_keep hob hk (MuExt.refl _) (fun how => ?_)⟩
    have hlt := own_lt hob how
    refine ⟨hfr _ hlt, fun k h => ?_⟩
    rcases h with h | ⟨h, _⟩
    · exact h
    · omega
  refine ⟨.pointer (some ⟨w.heap.size, 0, none⟩), I', w.alloc (.cells v.cells E), μ, by simp [newVar, run_newRow], ?_, ?_, .pure ?_⟩
  · refine ⟨hk.imm, fun o m _ hm => ⟨m, hm, Nat.le_refl _, fun _ => rfl, fun _ => rfl⟩, by simp, fun b hb => .inl hb, fun b hb _ => hfr b hb, rfl, rfl, rfl, fun b k h => ?_⟩
    rcases h with h | ⟨h, _⟩
    · exact .inl h
    · exact .inr (.inr (by omega))
  · refine ⟨hw.len, hok, hw.inj, fun b k h => ?_, hw.dum, fun g => (hw.glb g).keeps hk⟩
    rcases h with h | ⟨h, _⟩
    · have := hw.imm b k h; simp; omega
    · simp [h]
  · refine .sptr _ _ (fun j => v.cells.getD j Go.undef) (fun j hj => ?_) (fun j d hd => ?_)
    · rw [add_lit, Nat.zero_add]
      have hj' : j < v.cells.size := by rw [l1] at hj; simpa using hj
      exact ⟨.inr ⟨rfl, hj⟩, by rw [hcell]; simp [Array.getD_eq_getD_getElem?, hj']⟩
    · have hj : j < v.cells.size := by have := (List.getElem?_eq_some_iff.1 hd).1; rw [l1] at this; simpa using this
      have := l2 j d v.cells[j] hd (by simp [hj])
      have e : v.cells.getD j Go.undef = v.cells[j] := by simp [Array.getD_eq_getD_getElem?, hj]
      rw [e]
      exact this.keeps hk

theorem good_alloc {E : TypeId} {y : Ty} {z : List D} {f : Nat} (hT : TOk P T) (hw : WOk I w μ H) (hf : FreshOk μ H f) (hy : T E = some y) (hz : cellsOf y.zero = some z) :
    GoodV P (Instr.alloc E true (.tuple #[])) I w μ H { v := .ptr f 0 0, wr := [(f, some (.row z.length [z]))] } := by
  obtain ⟨v, hv, hR⟩ := run_zero hT hy hz w
  obtain ⟨u, I', w', μ', h1, h2⟩ := good_var (P := P) (E := E) hw hf (.pure hR) hz
  exact ⟨u, I', w', μ', by simp [Instr.alloc, hv]; simpa using h1, h2⟩

def putAt (arr : Array Value) (o k : Nat) (vs : List Value) : Array Value :=
  (vs.zipIdx k).foldl (fun (cs : Array Value) (p : Value × Nat) => cs.setIfInBounds (o + p.2) p.1) arr

theorem setCells_heap (b off : Nat) (E : TypeId) (fr : Nat × Nat) : ∀ (vs : List Value) (k : Nat) (arr : Array Value) (w : World), w.heap[b]? = some (.cells arr E fr) →
    (w.setCells b (off + k) vs).heap[b]? = some (.cells (putAt arr off k vs) E fr) ∧ (∀ b', b' ≠ b → (w.setCells b (off + k) vs).heap[b']? = w.heap[b']?) ∧
    (w.setCells b (off + k) vs).heap.size = w.heap.size ∧ (w.setCells b (off + k) vs).os = w.os ∧ (w.setCells b (off + k) vs).tape = w.tape ∧ (w.setCells b (off + k) vs).output = w.output
  | [], k, arr, w, h => ⟨h, fun _ _ => rfl, rfl, rfl, rfl, rfl⟩
  | v :: r, k, arr, w, h => by
    have h0 : (w.setCell ⟨b, off + k, none⟩ v).heap[b]? = some (.cells (arr.setIfInBounds (off + k) v) E fr) := by
      simp [World.setCell, Array.getElem?_modify, h]
    obtain ⟨h1, h2, h3, h4, h5, h6⟩ := setCells_heap b off E fr r (k + 1) _ _ h0
    rw [World.setCells, show off + k + 1 = off + (k + 1) by omega]
    refine ⟨by rw [h1]; simp [putAt], fun b' hb' => ?_, by rw [h3]; simp, h4, h5, h6⟩
    rw [h2 b' hb']
    exact RowKit.Below.heap_setCell _ _ _ _ hb'

theorem keeps_set {b off : Nat} {vs : List Value} (hn : ∀ k, off ≤ k → k < off + vs.length → ¬ I b k) : Keeps I w I (w.setCells b off vs) :=
  ⟨fun b' k h => ⟨h, World.cell?_setCells_out b vs off w _ (fun e _ => by
    rcases Nat.lt_or_ge k off with h1 | h1
    · exact .inl h1
    · rcases Nat.lt_or_ge k (off + vs.length) with h2 | h2
      · simp only at e; subst e; exact absurd h (hn k h1 h2)
      · exact .inr h2)⟩⟩

/-- A row's elements are changed in place. -/
theorem set_row {o sz : Nat} {m : Loc} {es es' : List (List D)} {arr : Array Value} {E : TypeId} {fr : Nat × Nat} {off : Nat} {vs : List Value} (hw : WOk I w μ H) (ho : hget H o = some (.row sz es)) (hm : μ[o]? = some m)
    (hbk : w.heap[m.b]? = some (.cells arr E fr)) (hin : off + vs.length ≤ m.cap * m.sz) (hle : es'.length ≤ m.cap) (hrow : RowOk I w μ m.sz es' (putAt arr off 0 vs)) :
    WOk I (w.setCells m.b off vs) μ (hset H o (some (.row sz es'))) ∧ Ext μ.length I w μ H I (w.setCells m.b off vs) μ (hset H o (some (.row sz es'))) := by
  obtain ⟨m', em, hok⟩ := hw.obj o _ ho
  rw [hm] at em
  obtain rfl := Option.some.inj em
  obtain ⟨hfx, hms, hcap, arr', E', fr', hbk', hs, hl, hrep, hfree⟩ := hok
  rw [hbk] at hbk'
  injection hbk' with hbk'
  injection hbk' with e1 e2 e3
  subst e1; subst e2; subst e3
  obtain ⟨g1, g2, g3, g4, g5, g6⟩ := setCells_heap m.b off E fr vs 0 arr w hbk
  simp only [Nat.add_zero] at g1 g2 g3 g4 g5 g6
  have hol : o < H.length := by
    rcases Nat.lt_or_ge o H.length with h | h
    · exact h
    · rw [hget, List.getD_eq_getElem?_getD, List.getElem?_eq_none h] at ho; cases ho
  have hmm : mset μ o m = μ := by
    unfold mset
    rw [if_neg (by have := hw.len; omega)]
    apply List.ext_getElem?
    intro i
    by_cases e : i = o
    · subst e
      have : i < μ.length := by have := hw.len; omega
      rw [List.getElem?_set_self this, hm]
    · rw [List.getElem?_set_ne (by omega)]
  have hk : Keeps I w I (w.setCells m.b off vs) := keeps_set (fun k h1 h2 => (hfree k (by omega)).1)
  have u : Upd I w μ H o m (.row sz es') I (w.setCells m.b off vs) :=
    { le := by omega
      mu := fun n hn => by
        rw [hm] at hn
        obtain rfl := Option.some.inj hn
        exact ⟨Nat.le_refl _, fun _ => rfl, fun _ => rfl⟩
      keeps := hk
      size := by rw [g3]; exact Nat.le_refl _
      frame := fun b _ hb => g2 b (hb _ _ ho hm rfl)
      im := fun b k h => .inl h
      blk := .inl ⟨_, m, ho, hm, rfl, rfl⟩
      os := g4, tape := g5, output := g6 }
  have := upd_ok hw u (by
    rw [hmm]
    refine ⟨hfx, hms, hle, putAt arr off 0 vs, E, fr, g1, ?_, hrow.1, fun i j cs d a b => ?_, fun k hk' => ⟨(hfree k hk').1, ?_⟩⟩
    · rw [← hs]
      exact (foldl_set off vs 0 arr (by rw [hs]; omega)).1
    · obtain ⟨v, hv, hR, h1⟩ := hrow.2 i j cs d a b
      exact ⟨v, hv, hR.keeps hk (MuExt.refl _), h1⟩
    · rw [World.frozen?_setCells]; exact (hfree k hk').2)
  rw [hmm] at this
  exact this

theorem putAt_get {arr : Array Value} {off : Nat} {vs : List Value} (h : off + vs.length ≤ arr.size) (j : Nat) :
    (putAt arr off 0 vs)[j]? = if off ≤ j ∧ j < off + vs.length then vs[j - off]? else arr[j]? := by
  have := (foldl_set off vs 0 arr (by omega)).2 j
  simpa [putAt] using this

/-- A store into an element of a row. -/
theorem good_store {t : TypeId} {a x : D} {va vx : Value} {h : Hint} {r : SR} (hT : TOk P T) (hw : WOk I w μ H) (ha : Rep I w μ a va) (hx : Rep I w μ x vx)
    (hr : storeF T t a x (hget H) h = some r) (hc : ∀ c ∈ r.cs, c) : Good P (do Instr.storeAt t va vx; pure Next.skip) I w μ H r := by
  unfold storeF at hr
  split at hr
  · rename_i y o i off nc hy hnc
    split at hr
    · rename_i sz es ho
      obtain ⟨⟨c, p⟩, hg, hr⟩ := Option.bind_eq_some_iff.1 hr
      dsimp only at hr
      split at hr
      · rename_i hcond
        obtain ⟨hsz, hle⟩ := hcond
        obtain rfl := Option.some.inj hr
        have hci := row_get hg hc
        obtain ⟨ti, td, hti, htd, hk, hts, _⟩ := ty_of hT hy
        obtain ⟨m, hm, hfx, rfl⟩ := rep_ptr ha
        obtain ⟨m', em, hok⟩ := hw.obj o _ ho
        rw [hm] at em
        obtain rfl := Option.some.inj em
        obtain ⟨_, _, hcap, arr, E, fr, hbk, hs, hl, hrep, hfree⟩ := hok
        obtain ⟨e1, e2, e3⟩ := cells_of hx hnc
        have hilt : i < es.length := (List.getElem?_eq_some_iff.1 hci).1
        have hcl := hl i c hci
        have hbase : i * m.sz + m.sz ≤ arr.size := by
          rw [hs, ← Nat.succ_mul]; exact Nat.mul_le_mul_right _ (by omega)
        have hvl : vx.cells.toList.length = nc.length := by simp [e1]
        have hone : ∀ v ∈ vx.cells.toList, v.oneCell' = true := ones (I := I) (w := w) (μ := μ) hvl.symm e2 (fun i c u a b => e3 i c u a (by simpa using b))
        have hcell : ∀ j, j < vx.cells.toList.length → (w.cell? ⟨m.b, i * m.sz + off + 0 + j, none⟩).isSome = true := by
          intro j hj
          simp only [World.cell?, hbk]
          rw [hvl] at hj
          have : i * m.sz + off + j < arr.size := by omega
          simp [this]
        have hfroz : ∀ j, j < vx.cells.toList.length → w.frozen? ⟨m.b, i * m.sz + off + 0 + j, none⟩ = false := by
          intro j hj
          rw [hvl] at hj
          have := (hfree (i * m.sz + off + j) (by rw [← hs]; omega)).2
          simpa using this
        have hrun := run_storeCells_cells (P := P) m.b (i * m.sz + off) vx.cells.toList 0 w hcell hfroz hone
        simp only [Nat.add_zero] at hrun
        have hput : i * m.sz + off + vx.cells.toList.length ≤ arr.size := by rw [hvl]; omega
        obtain ⟨k1, k2⟩ := set_row (es' := es.set i (c.take off ++ nc ++ c.drop (off + y.size))) (off := i * m.sz + off) (vs := vx.cells.toList) hw ho hm hbk (by rw [hvl, ← hs]; omega) (by simpa using hcap) (by
          have hnl : off + nc.length ≤ c.length := by omega
          refine ⟨fun i' cs' h' => ?_, fun i' j cs' d h' hd => ?_⟩
          · by_cases e : i = i'
            · subst e
              rw [List.getElem?_set_self hilt] at h'
              obtain rfl := Option.some.inj h'
              simp; omega
            · rw [List.getElem?_set_ne e] at h'; exact hl i' cs' h'
          · rw [putAt_get hput, hvl]
            by_cases e : i = i'
            · subst e
              rw [List.getElem?_set_self hilt] at h'
              obtain rfl := Option.some.inj h'
              rw [← hsz, getElem?_splice c nc off hnl] at hd
              split at hd
              · rename_i hin
                rw [if_pos (by omega)]
                have hlt : j - off < vx.cells.size := by rw [← e1]; omega
                have hR := e3 (j - off) d _ hd (Array.getElem?_eq_getElem hlt)
                refine ⟨vx.cells[j - off], ?_, hR, one_cell hR (e2 d (List.mem_of_getElem? hd))⟩
                rw [show i * m.sz + j - (i * m.sz + off) = j - off by omega]
                simp [Array.getElem?_eq_getElem hlt]
              · rename_i hin
                rw [if_neg (by omega)]
                exact hrep i j c d hci hd
            · rw [List.getElem?_set_ne e] at h'
              have hjl : j < m.sz := by rw [← hl i' cs' h']; exact (List.getElem?_eq_some_iff.1 hd).1
              rw [if_neg ?_]
              · exact hrep i' j cs' d h' hd
              · rcases Nat.lt_or_gt_of_ne e with h1 | h1
                · have : i * m.sz + m.sz ≤ i' * m.sz := by rw [← Nat.succ_mul]; exact Nat.mul_le_mul_right _ h1
                  omega
                · have : i' * m.sz + m.sz ≤ i * m.sz := by rw [← Nat.succ_mul]; exact Nat.mul_le_mul_right _ h1
                  omega)
        refine ⟨.skip, Go.undef, I, _, μ, ?_, .inr ⟨rfl, rfl⟩, k2, k1, .pure (.undef _)⟩
        have hvs : vx.cells.size = ti.size := by rw [← hts, ← hsz, e1]
        simp [Instr.storeAt, Instr.sureAddr, storeVar, run_sizeOf hti w, hvs, hrun]
      · cases hr
    · cases hr
  · cases hr

end
end Go.Proofs.Ytifpbdhggooelaa.GD
