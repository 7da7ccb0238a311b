/- One operation on data is what the machine does: slices made, extended, copied. -/
import Derived.Test.YtifpbdhggooelaaGd9
namespace Go.Proofs.Ytifpbdhggooelaa.GD
open Go
set_option linter.unusedVariables false
set_option linter.unusedSimpArgs false

variable {P : Program} {T : Tys}
section
variable {I : Im} {w : World} {μ : List Loc} {H : Heap}

def PureRow (I : Im) (w : World) (sz : Nat) (es : List (List D)) (arr : Array Value) : Prop :=
  (∀ (i : Nat) cs, es[i]? = some cs → cs.length = sz) ∧
  (∀ (i j : Nat) (cs : List D) d, es[i]? = some cs → cs[j]? = some d → ∃ v, arr[i * sz + j]? = some v ∧ RepP I w d v ∧ v.oneCell' = true)

theorem PureRow.row {sz : Nat} {es : List (List D)} {arr : Array Value} (h : PureRow I w sz es arr) : RowOk I w μ sz es arr :=
  ⟨h.1, fun i j cs d a b => by obtain ⟨v, h1, h2, h3⟩ := h.2 i j cs d a b; exact ⟨v, h1, .pure h2, h3⟩⟩

/-- Cells of a block that nobody writes. -/
theorem repP_block {b sz cap : Nat} {es : List (List D)} {arr : Array Value} (hcap : es.length ≤ cap) (hp : PureRow I w sz es arr)
    (hI : ∀ k, k < es.length * sz → I b k) (hc : ∀ k, k < es.length * sz → w.cell? ⟨b, k, none⟩ = arr[k]?) :
    RepP I w (.slice true es none) (.slice (some ⟨b, 0, none⟩) es.length cap) := by
  have hlt : ∀ i j, i < es.length → j < sz → i * sz + j < es.length * sz := by
    intro i j hi hj
    have : i * sz + sz ≤ es.length * sz := by rw [← Nat.succ_mul]; exact Nat.mul_le_mul_right _ hi
    omega
  have hget : ∀ i j, i < es.length → j < sz → ∃ v d c, es[i]? = some c ∧ c[j]? = some d ∧ arr[i * sz + j]? = some v ∧ RepP I w d v ∧ v.oneCell' = true := by
    intro i j hi hj
    have h1 : es[i]? = some es[i] := List.getElem?_eq_getElem hi
    have h2 := hp.1 i _ h1
    have h3 : es[i][j]? = some (es[i][j]'(by omega)) := List.getElem?_eq_getElem _
    obtain ⟨v, a, b, c⟩ := hp.2 i j _ _ h1 h3
    exact ⟨v, _, _, h1, h3, a, b, c⟩
  refine .slice es ⟨b, 0, none⟩ cap sz (fun i j => arr.getD (i * sz + j) Go.undef) hcap hp.1 (fun i j hi hj => ?_) (fun i j c d h1 h2 => ?_)
  · obtain ⟨v, d, c, _, _, hv, _, hone⟩ := hget i j hi hj
    rw [add_lit, Nat.zero_add]
    have e : arr.getD (i * sz + j) Go.undef = v := by simp [Array.getD_eq_getD_getElem?, hv]
    refine ⟨hI _ (hlt i j hi hj), ?_, ?_⟩
    · rw [hc _ (hlt i j hi hj), hv, e]
    · rw [e]; exact hone
  · obtain ⟨v, a, b, _⟩ := hp.2 i j c d h1 h2
    have e : arr.getD (i * sz + j) Go.undef = v := by simp [Array.getD_eq_getD_getElem?, a]
    rw [e]; exact b

/-- A token's new block. -/
theorem alloc_tok {o : Nat} {es : List (List D)} {arr : Array Value} {sz cap : Nat} {E : TypeId} {fr : Nat × Nat} (hw : WOk I w μ H) (hle : o ≤ H.length)
    (hmu : ∀ m, μ[o]? = some m → m.st ≤ es.length + 1 ∧ (es.length + 1 = m.st ∨ m.fx = true → False) ∧ (1 ≤ m.st → sz = m.sz)) (hs : arr.size = cap * sz) (hcap : es.length ≤ cap)
    (hfr : ∀ k, k < arr.size → (fr.1 ≤ k && k < fr.2) = false) (hr : PureRow I w sz es arr) :
    ∃ I' μ', WOk I' (w.alloc (.cells arr E fr)) μ' (hset H o (some (.tok es.length sz))) ∧
    Ext μ.length I w μ H I' (w.alloc (.cells arr E fr)) μ' (hset H o (some (.tok es.length sz))) ∧
    Rep I' (w.alloc (.cells arr E fr)) μ' (.slice true es (some o)) (.slice (some ⟨w.heap.size, 0, none⟩) es.length cap) := by
  let I' : Im := fun b k => I b k ∨ (b = w.heap.size ∧ k < es.length * sz)
  let m' : Loc := { b := w.heap.size, sz, cap, st := es.length + 1, fx := false }
  have hk : Keeps I w I' (w.alloc (.cells arr E fr)) := ⟨fun b k h => ⟨.inl h, World.cell?_alloc_lt w _ _ (hw.imm b k h)⟩⟩
  have u : Upd I w μ H o m' (.tok es.length sz) I' (w.alloc (.cells arr E fr)) :=
    { le := hle
      mu := fun m hm => by
        obtain ⟨a, b, c⟩ := hmu m hm
        exact ⟨a, fun q => (b q).elim, c⟩
      keeps := hk, size := by simp, frame := fun b hb _ => RowKit.Below.heap_alloc _ _ _ hb
      im := fun b k h => by rcases h with h | ⟨h, _⟩; exact .inl h; exact .inr h
      blk := .inr (.inl ⟨Nat.le_refl _, by simp [m']⟩), os := rfl, tape := rfl, output := rfl }
  have hcell : ∀ k, (w.alloc (.cells arr E fr)).cell? ⟨w.heap.size, k, none⟩ = arr[k]? := by
    intro k
    show World.cell? { w with heap := w.heap.push _ } _ = _
    simp [World.cell?]
  obtain ⟨h1, h2⟩ := upd_ok hw u (by
    refine ⟨rfl, rfl, rfl, hcap, fun _ => ⟨arr, E, fr, ?_, hs, fun k h1 h2 => ⟨fun h => ?_, ?_⟩⟩⟩
    · show (w.heap.push _)[w.heap.size]? = _
      simp
    · rcases h with h | ⟨_, h⟩
      · have := hw.imm _ _ h; simp [m'] at this
      · simp only [m'] at h1; omega
    · have := hfr k (by rw [hs]; exact h2)
      show World.frozen? { w with heap := w.heap.push _ } _ = _
      simp only [m', World.frozen?, Array.getElem?_push_size]
      exact this)
  have hp : RepP I' (w.alloc (.cells arr E fr)) (.slice true es none) (.slice (some ⟨w.heap.size, 0, none⟩) es.length cap) :=
    repP_block hcap ⟨hr.1, fun i j cs d a b => by obtain ⟨v, x, y, z⟩ := hr.2 i j cs d a b; exact ⟨v, x, y.keeps hk, z⟩⟩ (fun k h => .inr ⟨rfl, h⟩) (fun k _ => hcell k)
  exact ⟨I', _, h1, h2, .tok es _ cap o m' (mset_same (by rw [hw.len]; exact hle)) (Nat.le_refl _) (fun _ => ⟨rfl, fun _ => rfl⟩) hp hr.1⟩

theorem fresh_tok {f n sz : Nat} (hw : WOk I w μ H) (hf : FreshOk μ H f) : ∀ m, μ[f]? = some m → m.st ≤ n + 1 ∧ (n + 1 = m.st ∨ m.fx = true → False) ∧ (1 ≤ m.st → sz = m.sz) := by
  intro m hm
  rcases hf with h | ⟨_, h, _⟩
  · have := (List.getElem?_eq_some_iff.1 hm).1
    have := hw.len
    omega
  · obtain ⟨a, b⟩ := hw.dum _ m h hm
    refine ⟨by omega, fun q => ?_, fun q => by omega⟩
    rcases q with q | q
    · omega
    · rw [b] at q; cases q

theorem hset_self {o : Nat} {x : HObj} (h : hget H o = some x) : hset H o (some x) = H := by
  have hol : o < H.length := by
    rcases Nat.lt_or_ge o H.length with h' | h'
    · exact h'
    · rw [hget, List.getD_eq_getElem?_getD, List.getElem?_eq_none h'] at h; cases h
  unfold hset
  rw [if_neg (by omega)]
  apply List.ext_getElem?
  intro i
  by_cases e : i = o
  · subst e
    rw [List.getElem?_set_self hol]
    rw [hget, List.getD_eq_getElem?_getD] at h
    rw [List.getElem?_eq_getElem hol] at h ⊢
    simp at h
    rw [h]
  · rw [List.getElem?_set_ne (by omega)]

/-- A token without a block: nil. -/
theorem nil_tok {f : Nat} (sz : Nat) (hw : WOk I w μ H) (hf : FreshOk μ H f) :
    ∃ μ', WOk I w μ' (hset H f (some (.tok 0 sz))) ∧ Ext μ.length I w μ H I w μ' (hset H f (some (.tok 0 sz))) ∧ Rep I w μ' (.slice false [] (some f)) (.slice none 0 0) := by
  let m' : Loc := { b := 0, sz, cap := 0, st := 1, fx := false }
  have u : Upd I w μ H f m' (.tok 0 sz) I w :=
    { le := fresh_le hf, mu := fresh_mu hw hf (Nat.le_refl _), keeps := Keeps.refl _ _, size := Nat.le_refl _, frame := fun b hb _ => rfl
      im := fun b k h => .inl h, blk := .inr (.inr ⟨rfl, fun _ _ h => h⟩), os := rfl, tape := rfl, output := rfl }
  obtain ⟨h1, h2⟩ := upd_ok hw u ⟨rfl, rfl, rfl, Nat.le_refl _, fun h => absurd h (by simp [m'])⟩
  exact ⟨_, h1, h2, .tokN f m' (mset_same (by rw [hw.len]; exact fresh_le hf)) (Nat.le_refl _) (fun _ => rfl)⟩

/-! ### what is put behind -/
theorem run_firstCells (a : Addr) (size n len cap : Nat) (f : Nat → Value) (h : ∀ j, j < n * size → w.cell? (a.add j) = some (f j)) :
    (Builtin.firstCells size n (.slice (some a) len cap)).run P w = .ok ((List.range (n * size)).map f).toArray w := by
  simp only [Builtin.firstCells]
  exact run_loadCells w a (n * size) f h

def byteVal (b : UInt8) : Value := .int .u8 (b.toNat : Int)

/-- Reading what is put behind or copied. -/
theorem src_ok {x : D} {vx : Value} {ys : List (List D)} {sz : Nat} (hw : WOk I w μ H) (hx : Rep I w μ x vx) (hs : srcEs x (hget H) = some ys) (hl : ∀ c ∈ ys, c.length = sz)
    (hpos : ∀ s, x = .str s → sz = 1) (hview : ∀ o st len, x = .view o st len → ys.length = len) :
    ∃ vals : List Value, (Builtin.lenOf vx).run P w = .ok ys.length w ∧ vals.length = ys.length * sz ∧
      (∀ w0 : World, (∀ a, w0.cell? a = w.cell? a) → ∀ n, n ≤ ys.length → (Builtin.firstCells sz n vx).run P w0 = .ok (vals.take (n * sz)).toArray w0) ∧ RowOk I w μ sz ys vals.toArray ∧ (srcPure x = true → PureRow I w sz ys vals.toArray) := by
  unfold srcEs at hs
  split at hs
  · rename_i nn ys' tok
    obtain rfl := Option.some.inj hs
    rcases rep_slice hx with ⟨rfl, rfl, rfl⟩ | ⟨rfl, a, cap, rfl, hp⟩
    · refine ⟨[], by simp [Builtin.lenOf], by simp, fun w0 h0 n hn => ?_, ⟨fun i c h => by simp at h, fun i j c d h => by simp at h⟩, fun _ => ⟨fun i c h => by simp at h, fun i j c d h => by simp at h⟩⟩
      simp [Builtin.firstCells]
    · obtain ⟨_, hcap, s, f, hsz, h1, h2⟩ := repP_slice hp
      by_cases hy : ys' = []
      · subst hy
        refine ⟨[], by simp [Builtin.lenOf], by simp, fun w0 h0 n hn => ?_, ⟨fun i c h => by simp at h, fun i j c d h => by simp at h⟩, fun _ => ⟨fun i c h => by simp at h, fun i j c d h => by simp at h⟩⟩
        have : n = 0 := by simpa using hn
        subst this
        have := run_firstCells (P := P) (w := w0) a sz 0 0 cap (fun _ => Go.undef) (by simp)
        simpa using this
      · have hse : s = sz := by
          have h0 : 0 < ys'.length := List.length_pos_iff.2 hy
          have e1 := hsz 0 _ (List.getElem?_eq_getElem h0)
          have e2 := hl _ (List.getElem_mem h0)
          omega
        subst hse
        have hcell : ∀ j, j < ys'.length * s → I (a.add j).block (a.add j).off ∧ w.cell? (a.add j) = some (f (j / s) (j % s)) ∧ (f (j / s) (j % s)).oneCell' = true := by
          intro j hj
          have hs0 : 0 < s := by
            rcases Nat.eq_zero_or_pos s with h | h
            · subst h; omega
            · exact h
          have hq : j / s < ys'.length := (Nat.div_lt_iff_lt_mul hs0).2 hj
          have := h1 (j / s) (j % s) hq (Nat.mod_lt _ hs0)
          rwa [Nat.div_add_mod' j s] at this
        have hpure : PureRow I w s ys' ((List.range (ys'.length * s)).map fun j => f (j / s) (j % s)).toArray := by
          refine ⟨hsz, fun i j c d hi hj => ?_⟩
          have hil : i < ys'.length := (List.getElem?_eq_some_iff.1 hi).1
          have hjl : j < s := by rw [← hsz i c hi]; exact (List.getElem?_eq_some_iff.1 hj).1
          have hlt : i * s + j < ys'.length * s := by
            have : i * s + s ≤ ys'.length * s := by rw [← Nat.succ_mul]; exact Nat.mul_le_mul_right _ hil
            omega
          have e1 : (i * s + j) / s = i := by
            rw [Nat.mul_comm, Nat.mul_add_div (by omega), Nat.div_eq_of_lt hjl]; rfl
          have e2 : (i * s + j) % s = j := by
            rw [Nat.mul_comm, Nat.mul_add_mod, Nat.mod_eq_of_lt hjl]
          refine ⟨f i j, ?_, h2 i j c d hi hj, (h1 i j hil hjl).2.2⟩
          simp [List.getElem?_map, List.getElem?_range hlt, e1, e2]
        refine ⟨(List.range (ys'.length * s)).map fun j => f (j / s) (j % s), by simp [Builtin.lenOf], by simp, fun w0 h0 n hn => ?_, hpure.row, fun _ => hpure⟩
        rw [run_firstCells (P := P) (w := w0) a s n ys'.length cap (fun j => f (j / s) (j % s)) (fun j hj => (h0 _).trans (hcell j (Nat.lt_of_lt_of_le hj (Nat.mul_le_mul_right _ hn))).2.1)]
        congr 2
        rw [← List.map_take, List.take_range, Nat.min_eq_left (Nat.mul_le_mul_right _ hn)]
  · rename_i s
    obtain rfl := Option.some.inj hs
    obtain rfl := rep_str hx
    obtain rfl := hpos s rfl
    have hpure : PureRow I w 1 (s.data.toList.map byteC) (s.data.toList.map byteVal).toArray := by
      refine ⟨fun i c hi => ?_, fun i j c d hi hj => ?_⟩
      · rw [List.getElem?_map] at hi
        obtain ⟨b, _, rfl⟩ := Option.map_eq_some_iff.1 hi
        rfl
      · rw [List.getElem?_map] at hi
        obtain ⟨b, hb, rfl⟩ := Option.map_eq_some_iff.1 hi
        cases j with
        | zero =>
          simp [byteC] at hj
          subst hj
          exact ⟨byteVal b, by simp [hb], .int _ _, rfl⟩
        | succ j => simp [byteC] at hj
    refine ⟨s.data.toList.map byteVal, by simp only [Builtin.lenOf, Sem.run_pure, List.length_map, Array.length_toList]; rfl, by simp, fun w0 h0 n hn => ?_, hpure.row, fun _ => hpure⟩
    simp only [Builtin.firstCells, Nat.mul_one]
    have : ((s.extract 0 n).data.map fun b => Value.int .u8 (b.toNat : Int)) = (List.take n (s.data.toList.map byteVal)).toArray := by
      apply Array.ext'
      simp only [Array.toList_map, ByteArray.data_extract, Array.toList_extract, List.extract_eq_take_drop, Nat.sub_zero, List.drop_zero, List.map_take]
      rfl
    show Sem.run P (pure ((s.extract 0 n).data.map fun b => Value.int .u8 (b.toNat : Int))) w0 = _
    rw [this]
    rfl
  · rename_i o st len
    split at hs
    · rename_i _ es ho
      obtain rfl := Option.some.inj hs
      obtain ⟨m, a, hm, hfx, hle, ha, rfl⟩ := rep_view hx
      obtain ⟨m', em, hok⟩ := hw.obj o _ ho
      rw [hm] at em
      obtain rfl := Option.some.inj em
      obtain ⟨_, _, hcap, arr, E, fr, hbk, hsz, hll, hrep, hfree⟩ := hok
      have hlen := hview o st len rfl
      by_cases hy : len = 0
      · subst hy
        have hnil : (es.drop st).take 0 = [] := by simp
        rw [hnil]
        refine ⟨[], by simp [Builtin.lenOf], by simp, fun w0 h0 n hn => ?_, ⟨fun i c h => by simp at h, fun i j c d h => by simp at h⟩, fun h => by simp [srcPure] at h⟩
        have : n = 0 := by simpa using hn
        subst this
        have := run_firstCells (P := P) (w := w0) a sz 0 0 (m.cap - st) (fun _ => Go.undef) (by simp)
        simpa using this
      · have hst : st < m.cap := by omega
        obtain rfl := ha hst
        have hfull : st + len ≤ es.length := by simp at hlen; omega
        have hget : ∀ (i : Nat) c, ((es.drop st).take len)[i]? = some c → es[st + i]? = some c ∧ i < len := by
          intro i c h
          rw [List.getElem?_take] at h
          split at h
          · rename_i hi; rw [List.getElem?_drop] at h; exact ⟨h, hi⟩
          · cases h
        have hse : m.sz = sz := by
          have h0 : 0 < ((es.drop st).take len).length := by omega
          have e0 := List.getElem?_eq_getElem h0
          have e1 := hll _ _ (hget 0 _ e0).1
          have e2 := hl _ (List.getElem_mem h0)
          omega
        subst hse
        have hcell : ∀ j, j < len * m.sz → w.cell? ((⟨m.b, st * m.sz, none⟩ : Addr).add j) = some (arr.getD (st * m.sz + j) Go.undef) := by
          intro j hj
          rw [add_lit]
          have hb : st * m.sz + j < arr.size := by
            rw [hsz]
            have : (st + len) * m.sz ≤ m.cap * m.sz := Nat.mul_le_mul_right _ (by omega)
            rw [Nat.add_mul] at this; omega
          simp [World.cell?, hbk, hb]
        refine ⟨(List.range (len * m.sz)).map fun j => arr.getD (st * m.sz + j) Go.undef, by simp [Builtin.lenOf, hlen], by simp [hlen], fun w0 h0 n hn => ?_, ⟨fun i c h => hll _ _ (hget i c h).1, fun i j c d hi hj => ?_⟩, fun h => by simp [srcPure] at h⟩
        · rw [hlen] at hn
          rw [run_firstCells (P := P) (w := w0) _ m.sz n len (m.cap - st) (fun j => arr.getD (st * m.sz + j) Go.undef) (fun j hj => (h0 _).trans (hcell j (Nat.lt_of_lt_of_le hj (Nat.mul_le_mul_right _ hn))))]
          congr 2
          rw [← List.map_take, List.take_range, Nat.min_eq_left (Nat.mul_le_mul_right _ hn)]
        · obtain ⟨h1, h2⟩ := hget i c hi
          obtain ⟨v, hv, hR, hone⟩ := hrep (st + i) j c d h1 hj
          have hjl : j < m.sz := by rw [← hll _ c h1]; exact (List.getElem?_eq_some_iff.1 hj).1
          have hlt : i * m.sz + j < len * m.sz := by
            have : i * m.sz + m.sz ≤ len * m.sz := by rw [← Nat.succ_mul]; exact Nat.mul_le_mul_right _ h2
            omega
          refine ⟨v, ?_, hR, hone⟩
          have e : st * m.sz + (i * m.sz + j) = (st + i) * m.sz + j := by rw [Nat.add_mul]; omega
          simp [List.getElem?_map, List.getElem?_range hlt, e, hv]
    · cases hs
  · cases hs

end
end Go.Proofs.Ytifpbdhggooelaa.GD
