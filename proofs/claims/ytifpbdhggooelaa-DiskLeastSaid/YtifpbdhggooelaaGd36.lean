/- One operation on data is what the machine does: maps of whole numbers, structs of two numbers. -/
import Derived.Test.YtifpbdhggooelaaGd13
namespace Go.Proofs.Ytifpbdhggooelaa.GD
open Go
set_option linter.unusedVariables false
set_option linter.unusedSimpArgs false

variable {P : Program} {T : Tys}
section
variable {I : Im} {w : World} {μ : List Loc} {H : Heap}

theorem alloc_map {f : Nat} (k : IntKind) (hw : WOk I w μ H) (hf : FreshOk μ H f) :
    WOk I (w.alloc (.map #[] 0)) (mset μ f { b := w.heap.size, sz := 0, cap := 0, st := 1, fx := true }) (hset H f (some (.mp k [] []))) ∧
    Ext μ.length I w μ H I (w.alloc (.map #[] 0)) (mset μ f { b := w.heap.size, sz := 0, cap := 0, st := 1, fx := true }) (hset H f (some (.mp k [] []))) ∧
    (mset μ f { b := w.heap.size, sz := 0, cap := 0, st := 1, fx := true })[f]? = some { b := w.heap.size, sz := 0, cap := 0, st := 1, fx := true } := by
  have u : Upd I w μ H f { b := w.heap.size, sz := 0, cap := 0, st := 1, fx := true } (.mp k [] []) I (w.alloc (.map #[] 0)) :=
    { le := fresh_le hf, mu := fresh_mu hw hf (Nat.le_refl _), keeps := keeps_alloc hw _, size := by simp, frame := fun b hb _ => RowKit.Below.heap_alloc _ _ _ hb
      im := fun b k h => .inl h, blk := .inr (.inl ⟨Nat.le_refl _, by simp⟩), os := rfl, tape := rfl, output := rfl }
  obtain ⟨h1, h2⟩ := upd_ok hw u (by
    refine ⟨rfl, Nat.le_refl _, #[], 0, ?_, rfl, fun i a h => by simp at h, fun i d h => by simp at h⟩
    show (w.heap.push _)[w.heap.size]? = _
    simp)
  exact ⟨h1, h2, mset_same (by rw [hw.len]; exact fresh_le hf)⟩

theorem set_map {o : Nat} {m : Loc} {k : IntKind} {ks ks' : List Int} {vs vs' : List D} {E E' : Array MapEntry} {cl cl' : Nat} (hw : WOk I w μ H) (ho : hget H o = some (.mp k ks vs)) (hm : μ[o]? = some m) (hx : m.fx = true)
    (hb : w.heap[m.b]? = some (.map E cl)) (hl : vs'.length ≤ ks'.length) (hs : E'.size = ks'.length) (hk : ∀ (i : Nat) a, ks'[i]? = some a → ∃ x, E'[i]? = some x ∧ x.key = .int k a)
    (hv : ∀ (i : Nat) d, vs'[i]? = some d → ∃ x, E'[ks'.length - vs'.length + i]? = some x ∧ Rep I w μ d x.val) :
    WOk I { w with heap := w.heap.setIfInBounds m.b (.map E' cl') } (mset μ o m) (hset H o (some (.mp k ks' vs'))) ∧
    Ext μ.length I w μ H I { w with heap := w.heap.setIfInBounds m.b (.map E' cl') } (mset μ o m) (hset H o (some (.mp k ks' vs'))) := by
  have hlt : m.b < w.heap.size := (Array.getElem?_eq_some_iff.1 hb).1
  have hoth : ∀ b, b ≠ m.b → (w.heap.setIfInBounds m.b (.map E' cl'))[b]? = w.heap[b]? := fun b hne => by
    rw [Array.getElem?_setIfInBounds]; simp [Ne.symm hne]
  have hsame : (w.heap.setIfInBounds m.b (.map E' cl'))[m.b]? = some (.map E' cl') := by
    rw [Array.getElem?_setIfInBounds]; simp [hlt]
  have keeps : Keeps I w I { w with heap := w.heap.setIfInBounds m.b (.map E' cl') } := ⟨fun b j hi => ⟨hi, by
    by_cases e : b = m.b
    · subst e
      simp only [World.cell?]
      rw [hsame, hb]
    · simp only [World.cell?]
      rw [hoth b e]⟩⟩
  have hle : o ≤ H.length := by
    unfold hget at ho
    rw [List.getD_eq_getElem?_getD] at ho
    by_cases h : o < H.length
    · omega
    · rw [List.getElem?_eq_none (by omega)] at ho; simp at ho
  have u : Upd I w μ H o m (.mp k ks' vs') I { w with heap := w.heap.setIfInBounds m.b (.map E' cl') } :=
    { le := hle, mu := fun m0 h => by rw [hm] at h; obtain rfl := Option.some.inj h; exact ⟨Nat.le_refl _, fun _ => rfl, fun _ => rfl⟩
      keeps := keeps, size := by simp, frame := fun b hb' hne => hoth b (hne _ _ ho hm rfl)
      im := fun b k h => .inl h, blk := .inl ⟨_, m, ho, hm, rfl, rfl⟩, os := rfl, tape := rfl, output := rfl }
  have hmu := upd_mu hw u
  exact upd_ok hw u ⟨hx, hl, E', cl', hsame, hs, hk, fun i d hd => by
    obtain ⟨x, e, hR⟩ := hv i d hd
    exact ⟨x, e, hR.keeps keeps hmu⟩⟩

theorem rep_mapp {o : Nat} {v : Value} (h : Rep I w μ (.mapp o) v) : ∃ m, μ[o]? = some m ∧ m.fx = true ∧ v = .map (some m.b) := by
  cases h with
  | pure h => cases h
  | mapp o m hm hx => exact ⟨m, hm, hx, rfl⟩

/-- What is found of a key. -/
theorem find_ok {k : IntKind} {n : Int} : ∀ (ks : List Int) (es : List MapEntry) (i0 : Nat), es.length = ks.length → (∀ (i : Nat) a, ks[i]? = some a → ∃ x, es[i]? = some x ∧ x.key = .int k a) →
    Instr.findNow (.int k) (.int k n) es i0 = some (match findI ks n i0 with | some i => (es[i - i0]?).map fun x => (i, x.val) | none => none) ∧ (∀ i, findI ks n i0 = some i → i0 ≤ i ∧ i - i0 < ks.length)
  | [], es, i0, hl, _ => by
    have e : es = [] := List.length_eq_zero_iff.1 (by simpa using hl)
    subst e
    exact ⟨rfl, fun i h => by simp [findI] at h⟩
  | a :: ks, [], i0, hl, _ => by simp at hl
  | a :: ks, x :: es, i0, hl, h => by
    obtain ⟨y, hy, hk⟩ := h 0 a rfl
    obtain rfl : x = y := by simpa using hy
    obtain ⟨ih1, ih2⟩ := find_ok ks es (i0 + 1) (by simpa using hl) (fun i a hi => by simpa using h (i + 1) a (by simpa using hi))
    unfold Instr.findNow findI
    rw [hk]
    simp only [Instr.sameNow, if_true]
    by_cases e : n = a
    · subst e
      simp
    · have e' : (n == a) = false := by simpa using e
      rw [e', if_neg e]
      simp only
      refine ⟨ih1.trans ?_, fun i hi => ?_⟩
      · cases hf : findI ks n (i0 + 1) with
        | none => rfl
        | some i =>
          obtain ⟨h1, h2⟩ := ih2 i hf
          have : i - i0 = (i - (i0 + 1)) + 1 := by omega
          simp [this]
      · obtain ⟨h1, h2⟩ := ih2 i hi
        simp; omega

theorem run_getMap {m : Loc} {E : Array MapEntry} {cl : Nat} (hb : w.heap[m.b]? = some (.map E cl)) : (getObj m.b).run P w = .ok (.map E cl) w := by
  simp [getObj, Sem.run, hb]

/-- The map that is named. -/
theorem map_at {o : Nat} {k : IntKind} {ks : List Int} {vs : List D} (hw : WOk I w μ H) (ho : hget H o = some (.mp k ks vs)) {v : Value} (hv : Rep I w μ (.mapp o) v) :
    ∃ m E cl, μ[o]? = some m ∧ m.fx = true ∧ v = .map (some m.b) ∧ w.heap[m.b]? = some (.map E cl) ∧ vs.length ≤ ks.length ∧ E.size = ks.length ∧
      (∀ (i : Nat) a, ks[i]? = some a → ∃ x, E[i]? = some x ∧ x.key = .int k a) ∧ (∀ (i : Nat) d, vs[i]? = some d → ∃ x, E[ks.length - vs.length + i]? = some x ∧ Rep I w μ d x.val) := by
  obtain ⟨m, hm, hx, rfl⟩ := rep_mapp hv
  obtain ⟨m1, hm1, _, hl, E, cl, e1, e2, e3, e4⟩ := hw.obj o _ ho
  rw [hm] at hm1
  obtain rfl := Option.some.inj hm1
  exact ⟨m, E, cl, hm, hx, rfl, e1, hl, e2, e3, e4⟩

theorem run_findKey {kt : TypeId} {k : IntKind} {n : Int} {ks : List Int} {E : Array MapEntry} (hd : P.underlying kt = some (.int k)) (hs : E.size = ks.length)
    (hk : ∀ (i : Nat) a, ks[i]? = some a → ∃ x, E[i]? = some x ∧ x.key = .int k a) :
    (Instr.findKey kt (.int k n) E.toList).run P w = .ok (match findI ks n 0 with | some i => (E[i]?).map fun x => (i, x.val) | none => none) w ∧ (∀ i, findI ks n 0 = some i → i < ks.length) := by
  obtain ⟨h1, h2⟩ := find_ok (n := n) ks E.toList 0 (by simpa using hs) (fun i a hi => by simpa using hk i a hi)
  refine ⟨?_, fun i hi => by have := (h2 i hi).2; omega⟩
  simp only [Instr.findKey]
  simp [run_underlying hd w, h1]
theorem run_checkKey {kt : TypeId} {k : IntKind} {n : Int} (b : Bool) (hd : P.underlying kt = some (.int k)) : (Instr.checkKey b 10000 kt (.int k n)).run P w = .ok () w := by
  rw [show Instr.checkKey b 10000 kt (.int k n) = Instr.checkKey b (9999 + 1) kt (.int k n) from rfl]
  unfold Instr.checkKey
  simp [run_underlying hd w]

theorem good_lookup {t : TypeId} {x ix : D} {vx vi : Value} {ok : Bool} {h : Hint} {r : SR} (hT : TOk P T) (hw : WOk I w μ H) (hx : Rep I w μ x vx) (hi : Rep I w μ ix vi)
    (hr : lookupF T t x ix ok (hget H) h = some r) (hcs : ∀ c ∈ r.cs, c) : GoodV P (Instr.lookup t vx vi ok) I w μ H r := by
  unfold lookupF at hr
  split at hr
  · rename_i kt et _ _ _ _ o k n hty
    obtain ⟨i0, d0, hi0, hd0, hk0, _⟩ := ty_of hT hty
    have hmap := tk_map hk0
    subst hmap
    split at hr
    · rename_i k1 _ _ _ _ y k2 ks vs hkt hye ho
      obtain ⟨i1, d1, hi1, hd1, hk1, _⟩ := ty_of hT hkt
      have hint := tk_int hk1
      subst hint
      split at hr
      · rename_i hc
        obtain ⟨rfl, rfl⟩ := hc
        obtain rfl := rep_int hi
        obtain ⟨m, E, cl, hm, hfx, rfl, hb, hl, hs, hk, hv⟩ := map_at hw ho hx
        obtain ⟨f1, f2⟩ := run_findKey (w := w) (n := n) hd1 hs hk
        split at hr
        · -- the key is there, what it leads to is not told
          obtain rfl := Option.some.inj hr
          have hne : findI ks n 0 ≠ none := hcs _ (by simp)
          cases hf : findI ks n 0 with
          | none => exact absurd hf hne
          | some i =>
            rw [hf] at f1
            have hltE : i < E.size := by have := f2 i hf; omega
            simp only [Array.getElem?_eq_getElem hltE, Option.map_some] at f1
            cases ok with
            | true =>
              refine goodV_same (v := .tuple #[E[i].val, .bool true]) hw ?_ rfl (.tuple _ _ rfl fun j d v a b => ?_)
              · simp [Instr.lookup, run_underlying hd0 w, run_getMap hb, run_checkKey _ hd1, f1]
              · match j with
                | 0 => simp at a b; subst a; exact .pure (.undef _)
                | 1 => simp at a b; subst a; subst b; exact .pure (.bool _)
                | j + 2 => simp at a
            | false =>
              refine goodV_same (v := E[i].val) hw ?_ rfl (.pure (.undef _))
              simp [Instr.lookup, run_underlying hd0 w, run_getMap hb, run_checkKey _ hd1, f1]
        split at hr
        · -- the last one
          split at hr
          case h_2 => cases hr
          rename_i v0 hv0
          obtain rfl := Option.some.inj hr
          have hf : findI ks n 0 = some (ks.length - 1) := hcs _ (by simp)
          rw [hf] at f1
          have hvl : 0 < vs.length := by
            rcases Nat.eq_zero_or_pos vs.length with h0 | h0
            · rw [List.length_eq_zero_iff.1 h0] at hv0; cases hv0
            · exact h0
          rw [List.getLast?_eq_getElem?] at hv0
          obtain ⟨x, hx1, hR⟩ := hv (vs.length - 1) _ hv0
          rw [show ks.length - vs.length + (vs.length - 1) = ks.length - 1 by omega] at hx1
          simp only [hx1, Option.map_some] at f1
          cases ok with
          | true =>
            refine goodV_same (v := .tuple #[x.val, .bool true]) hw ?_ rfl (.tuple _ _ rfl fun j d v a b => ?_)
            · simp [Instr.lookup, run_underlying hd0 w, run_getMap hb, run_checkKey _ hd1, f1]
            · match j with
              | 0 => simp at a b; subst a; subst b; exact hR
              | 1 => simp at a b; subst a; subst b; exact .pure (.bool _)
              | j + 2 => simp at a
          | false =>
            refine goodV_same (v := x.val) hw ?_ rfl hR
            simp [Instr.lookup, run_underlying hd0 w, run_getMap hb, run_checkKey _ hd1, f1]
        cases hF : (findH h ks n).1 with
        | some i =>
          rw [hF] at hr
          simp only at hr
          split at hr
          case isFalse => cases hr
          rename_i hoff
          split at hr
          case h_2 => cases hr
          rename_i v0 hv0
          obtain rfl := Option.some.inj hr
          have hf := (findH_ok hcs).trans hF
          rw [hf] at f1
          obtain ⟨x, hx1, hR⟩ := hv (i - (ks.length - vs.length)) _ hv0
          rw [show ks.length - vs.length + (i - (ks.length - vs.length)) = i by omega] at hx1
          simp only [hx1, Option.map_some] at f1
          cases ok with
          | true =>
            refine goodV_same (v := .tuple #[x.val, .bool true]) hw ?_ rfl (.tuple _ _ rfl fun j d v a b => ?_)
            · simp [Instr.lookup, run_underlying hd0 w, run_getMap hb, run_checkKey _ hd1, f1]
            · match j with
              | 0 => simp at a b; subst a; subst b; exact hR
              | 1 => simp at a b; subst a; subst b; exact .pure (.bool _)
              | j + 2 => simp at a
          | false =>
            refine goodV_same (v := x.val) hw ?_ rfl hR
            simp [Instr.lookup, run_underlying hd0 w, run_getMap hb, run_checkKey _ hd1, f1]
        | none =>
          rw [hF] at hr
          simp only [Option.map_eq_some_iff] at hr
          obtain ⟨z, hz, rfl⟩ := hr
          have hf := (findH_ok hcs).trans hF
          rw [hf] at f1
          obtain ⟨zv, z1, z2⟩ := run_zero hT hye hz w
          cases ok with
          | true =>
            refine goodV_same (v := .tuple #[zv, .bool false]) hw ?_ rfl (.tuple _ _ rfl fun j d v a b => ?_)
            · simp [Instr.lookup, run_underlying hd0 w, run_getMap hb, run_checkKey _ hd1, f1, z1]
            · match j with
              | 0 => simp at a b; subst a; subst b; exact .pure z2
              | 1 => simp at a b; subst a; subst b; exact .pure (.bool _)
              | j + 2 => simp at a
          | false =>
            refine goodV_same (v := zv) hw ?_ rfl (.pure z2)
            simp [Instr.lookup, run_underlying hd0 w, run_getMap hb, run_checkKey _ hd1, f1, z1]
      · cases hr
    · cases hr
  · cases hr

theorem good_makeMap {t : TypeId} {rv : Option Value} {rd : Option D} {f : Nat} {r : SR} (hT : TOk P T) (hw : WOk I w μ H) (hf : FreshOk μ H f) (hrd : rd = none → rv = none)
    (hr : makeMapF T t rd f = some r) : GoodV P (Instr.makeMap t rv) I w μ H r := by
  unfold makeMapF at hr
  split at hr
  · rename_i kt et _ _ _ _ hty
    split at hr
    · rename_i k _ _ _ _ hkt
      split at hr
      · rw [hrd rfl]
        obtain rfl := Option.some.inj hr
        obtain ⟨h1, h2, h3⟩ := alloc_map k hw hf
        refine ⟨_, I, _, _, ?_, h2, h1, Rep.mapp f _ h3 rfl⟩
        simp [Instr.makeMap, newObj, Sem.run]
      · cases hr
    · cases hr
  · cases hr

theorem good_mapUpdate {t : TypeId} {x ix vl : D} {vx vi vv : Value} {h : Hint} {r : SR} (hT : TOk P T) (hw : WOk I w μ H) (hx : Rep I w μ x vx) (hi : Rep I w μ ix vi) (hv : Rep I w μ vl vv)
    (hr : mapUpdateF T t x ix vl (hget H) h = some r) (hcs : ∀ c ∈ r.cs, c) : Good P (do Instr.mapUpdate t vx vi vv; pure Next.skip) I w μ H r := by
  unfold mapUpdateF at hr
  split at hr
  · rename_i kt et _ _ _ _ o k n hty
    obtain ⟨i0, d0, hi0, hd0, hk0, _⟩ := ty_of hT hty
    have hmap := tk_map hk0
    subst hmap
    split at hr
    · rename_i k1 _ _ _ _ k2 ks vs hkt ho
      obtain ⟨i1, d1, hi1, hd1, hk1, _⟩ := ty_of hT hkt
      have hint := tk_int hk1
      subst hint
      split at hr
      · rename_i hc
        obtain ⟨rfl, rfl⟩ := hc
        obtain rfl := rep_int hi
        obtain ⟨m, E, cl, hm, hfx, rfl, hb, hl, hs, hk, hvs⟩ := map_at hw ho hx
        obtain ⟨f1, f2⟩ := run_findKey (w := w) (n := n) hd1 hs hk
        have hks : ∀ (j : Nat) a, (ks ++ [n])[j]? = some a → ∃ x, (E.push { key := .int k2 n, val := vv, born := cl })[j]? = some x ∧ x.key = .int k2 a := fun j a ha => by
          by_cases e : j < ks.length
          · rw [List.getElem?_append_left e] at ha
            obtain ⟨y, hy, hyk⟩ := hk j a ha
            exact ⟨y, by rw [Array.getElem?_push_lt (by omega)]; rw [Array.getElem?_eq_getElem (by omega)] at hy; exact hy, hyk⟩
          · have hj : j = ks.length := by have := (List.getElem?_eq_some_iff.1 ha).1; simp at this; omega
            subst hj
            simp at ha
            subst ha
            exact ⟨{ key := .int k2 n, val := vv, born := cl }, by rw [← hs]; simp, rfl⟩
        have hvs0 : ∀ (j : Nat) d, (vs ++ [vl])[j]? = some d → ∃ x, (E.push { key := .int k2 n, val := vv, born := cl })[(ks ++ [n]).length - (vs ++ [vl]).length + j]? = some x ∧ Rep I w μ d x.val := fun j d hd => by
          have eoff : (ks ++ [n]).length - (vs ++ [vl]).length = ks.length - vs.length := by simp
          rw [eoff]
          by_cases e : j < vs.length
          · rw [List.getElem?_append_left e] at hd
            obtain ⟨y, hy, hR⟩ := hvs j d hd
            have hjl := (Array.getElem?_eq_some_iff.1 hy).1
            exact ⟨y, by rw [Array.getElem?_push_lt hjl]; rw [Array.getElem?_eq_getElem hjl] at hy; exact hy, hR⟩
          · have hj : j = vs.length := by have := (List.getElem?_eq_some_iff.1 hd).1; simp at this; omega
            subst hj
            simp at hd
            subst hd
            exact ⟨{ key := .int k2 n, val := vv, born := cl }, by rw [show ks.length - vs.length + vs.length = E.size by omega]; simp, hv⟩
        have run0 : findI ks n 0 = none → (do Instr.mapUpdate t (.map (some m.b)) (.int k2 n) vv; pure Next.skip : Sem Next).run P w = .ok .skip { w with heap := w.heap.setIfInBounds m.b (.map (E.push { key := .int k2 n, val := vv, born := cl }) (cl + 1)) } := fun hf => by
          rw [hf] at f1
          simp [Instr.mapUpdate, run_underlying hd0 w, run_getMap hb, run_checkKey _ hd1, f1, setObj, Sem.run, hb]
        have missF : ∀ cs, findI ks n 0 = none → Good P (do Instr.mapUpdate t (.map (some m.b)) (.int k2 n) vv; pure Next.skip) I w μ H { v := .undef, wr := [(o, some (.mp k2 (ks ++ [n]) (vs ++ [vl])))], cs } := fun cs hf => by
          obtain ⟨g1, g2⟩ := set_map (ks' := ks ++ [n]) (vs' := vs ++ [vl]) (E' := E.push { key := .int k2 n, val := vv, born := cl }) (cl' := cl + 1) hw ho hm hfx hb (by simpa using hl) (by simpa using hs) hks hvs0
          exact ⟨.skip, Go.undef, I, _, _, run0 hf, .inr ⟨rfl, rfl⟩, g2, g1, .pure (.undef _)⟩
        have hit : ∀ i vs', findI ks n 0 = some i → vs'.length ≤ ks.length → (∀ (j : Nat) d, vs'[j]? = some d → ∃ x, (E.modify i fun e => { e with key := .int k2 n, val := vv })[ks.length - vs'.length + j]? = some x ∧ Rep I w μ d x.val) →
            Good P (do Instr.mapUpdate t (.map (some m.b)) (.int k2 n) vv; pure Next.skip) I w μ H { v := .undef, wr := [(o, some (.mp k2 ks vs'))] } := by
          intro i vs' hf hl' hvs'
          rw [hf] at f1
          have hlt := f2 i hf
          have hltE : i < E.size := by omega
          simp only [Array.getElem?_eq_getElem hltE, Option.map_some] at f1
          have hkey : E[i].key = .int k2 n := by
            obtain ⟨y, hy, hyk⟩ := hk i _ (List.getElem?_eq_getElem hlt)
            rw [Array.getElem?_eq_getElem hltE] at hy
            obtain rfl := Option.some.inj hy
            rw [hyk]
            have := (findI_eq ks n 0 i hf).1
            simp only [Nat.sub_zero] at this
            rw [List.getElem?_eq_getElem hlt] at this
            rw [Option.some.inj this]
          have hsb : Instr.sameBits 10000 (.int k2 n) (.int k2 n) = true := by
            rw [show Instr.sameBits 10000 (.int k2 n) (.int k2 n) = (k2 == k2 && n == n) from by rw [show (10000 : Nat) = 9999 + 1 from rfl]; rfl]
            simp
          obtain ⟨g1, g2⟩ := set_map (ks' := ks) (vs' := vs') (E' := E.modify i fun e => { e with key := .int k2 n, val := vv }) (cl' := cl) hw ho hm hfx hb hl' (by simpa using hs)
            (fun j a ha => by
              obtain ⟨y, hy, hyk⟩ := hk j a ha
              rw [Array.getElem?_modify, hy]
              by_cases e : i = j
              · subst e
                rw [Array.getElem?_eq_getElem hltE] at hy
                obtain rfl := Option.some.inj hy
                rw [hkey] at hyk
                exact ⟨{ E[i] with key := .int k2 n, val := vv }, by simp, hyk⟩
              · exact ⟨y, by simp [e], hyk⟩)
            hvs'
          refine ⟨.skip, Go.undef, I, _, _, ?_, .inr ⟨rfl, rfl⟩, g2, g1, .pure (.undef _)⟩
          simp [Instr.mapUpdate, run_underlying hd0 w, run_getMap hb, run_checkKey _ hd1, f1, Instr.keyThatStays, hkey, hsb, Array.getElem?_eq_getElem hltE, setObj, Sem.run, hb]
        split at hr
        · obtain rfl := Option.some.inj hr
          exact missF _ (hcs _ (by simp))
        · obtain rfl := Option.some.inj hr
          have hne : findI ks n 0 ≠ none := hcs _ (by simp)
          cases hf : findI ks n 0 with
          | none => exact absurd hf hne
          | some i =>
            obtain ⟨nx, v, I', w', μ', g⟩ := hit i [] hf (by simp) (fun j d hd => by simp at hd)
            exact ⟨nx, v, I', w', μ', g⟩
        cases hf : findI ks n 0 with
        | some i =>
          rw [hf] at hr
          simp only at hr
          split at hr
          case isFalse => cases hr
          rename_i hoff
          obtain rfl := Option.some.inj hr
          have hltE : i < E.size := by have := f2 i hf; omega
          refine hit i _ hf (by simpa using hl) (fun j d hd => ?_)
          rw [List.length_set, Array.getElem?_modify]
          by_cases e : i - (ks.length - vs.length) = j
          · subst e
            have hjl : i - (ks.length - vs.length) < vs.length := by have := (List.getElem?_eq_some_iff.1 hd).1; simpa using this
            rw [List.getElem?_set_self hjl] at hd
            obtain rfl := Option.some.inj hd
            rw [show ks.length - vs.length + (i - (ks.length - vs.length)) = i by omega]
            exact ⟨{ E[i] with key := .int k2 n, val := vv }, by simp [Array.getElem?_eq_getElem hltE], hv⟩
          · rw [List.getElem?_set_ne e] at hd
            obtain ⟨y, hy, hR⟩ := hvs j d hd
            exact ⟨y, by rw [if_neg (by omega)]; exact hy, hR⟩
        | none =>
          rw [hf] at hr
          simp only at hr
          obtain rfl := Option.some.inj hr
          exact missF _ hf
      · cases hr
    · cases hr
  · cases hr

theorem good_lenM {ts : Array TypeId} {ty t : TypeId} {args : Array Value} {o : Nat} {v : Value} {r : SR} (hT : TOk P T) (hw : WOk I w μ H) (h1 : ts[0]? = some t) (h2 : args[0]? = some v) (hx : Rep I w μ (.mapp o) v)
    (hr : lenMF T t o (hget H) = some r) : GoodV P (Builtin.len_ ts ty args) I w μ H r := by
  unfold lenMF at hr
  split at hr
  · rename_i kt et _ _ _ _ k2 ks vs hty ho
    obtain ⟨i0, d0, hi0, hd0, hk0, _⟩ := ty_of hT hty
    have hmap := tk_map hk0
    subst hmap
    obtain rfl := Option.some.inj hr
    obtain ⟨m, E, cl, hm, hfx, rfl, hb, hl, hs, hk, hvs⟩ := map_at hw ho hx
    refine good_int hw ?_
    simp [Builtin.len_, h1, h2, run_underlying hd0 w, run_getMap hb, goInt, hs]
  · cases hr

theorem good_delete {ts : Array TypeId} {ty t : TypeId} {x ix : D} {vx vi : Value} {h : Hint} {r : SR} (hT : TOk P T) (hw : WOk I w μ H) (h1 : ts[0]? = some t) (hx : Rep I w μ x vx) (hi : Rep I w μ ix vi)
    (hr : deleteF T t x ix (hget H) h = some r) (hcs : ∀ c ∈ r.cs, c) : GoodV P (Builtin.delete_ ts ty #[vx, vi]) I w μ H r := by
  unfold deleteF at hr
  split at hr
  · rename_i kt et _ _ _ _ o k n hty
    obtain ⟨i0, d0, hi0, hd0, hk0, _⟩ := ty_of hT hty
    have hmap := tk_map hk0
    subst hmap
    split at hr
    · rename_i k1 _ _ _ _ k2 ks vs hkt ho
      obtain ⟨i1, d1, hi1, hd1, hk1, _⟩ := ty_of hT hkt
      have hint := tk_int hk1
      subst hint
      split at hr
      · rename_i hc
        obtain ⟨rfl, rfl⟩ := hc
        obtain rfl := rep_int hi
        obtain ⟨m, E, cl, hm, hfx, rfl, hb, hl, hs, hk, hvs⟩ := map_at hw ho hx
        obtain ⟨f1, f2⟩ := run_findKey (w := w) (n := n) hd1 hs hk
        have rep0 : ∀ {I' : Im} {w' : World} {μ' : List Loc}, Rep I' w' μ' (.tuple []) (.tuple #[]) := .pure (.tuple _ _ rfl fun i d v a b => by simp at a)
        have del : ∀ i vs' cs, findI ks n 0 = some i → vs'.length ≤ (ks.eraseIdx i).length → (∀ (j : Nat) d, vs'[j]? = some d → ∃ x, (E.eraseIdxIfInBounds i)[(ks.eraseIdx i).length - vs'.length + j]? = some x ∧ Rep I w μ d x.val) →
            GoodV P (Builtin.delete_ ts ty #[.map (some m.b), .int k2 n]) I w μ H { v := .tuple [], wr := [(o, some (.mp k2 (ks.eraseIdx i) vs'))], cs } := by
          intro i vs' cs hf hl' hvs'
          rw [hf] at f1
          have hlt := f2 i hf
          have hltE : i < E.size := by omega
          simp only [Array.getElem?_eq_getElem hltE, Option.map_some] at f1
          have hE : ∀ j, (E.eraseIdxIfInBounds i)[j]? = if j < i then E[j]? else E[j + 1]? := by
            intro j
            rw [← Array.getElem?_toList, Array.toList_eraseIdxIfInBounds, List.getElem?_eraseIdx]
            simp
          obtain ⟨g1, g2⟩ := set_map (ks' := ks.eraseIdx i) (vs' := vs') (E' := E.eraseIdxIfInBounds i) (cl' := cl) hw ho hm hfx hb hl'
            (by rw [← Array.length_toList, Array.toList_eraseIdxIfInBounds, List.length_eraseIdx, List.length_eraseIdx]; simp [hs])
            (fun j a ha => by
              rw [List.getElem?_eraseIdx] at ha
              rw [hE]
              split at ha
              · rename_i h; rw [if_pos h]; exact hk _ _ ha
              · rename_i h; rw [if_neg h]; exact hk _ _ ha)
            hvs'
          refine ⟨.tuple #[], I, _, _, ?_, g2, g1, rep0⟩
          simp [Builtin.delete_, h1, run_underlying hd0 w, run_getMap hb, run_checkKey _ hd1, f1, setObj, Sem.run, hb]
        split at hr
        · obtain rfl := Option.some.inj hr
          have hne : findI ks n 0 ≠ none := hcs _ (by simp)
          cases hf : findI ks n 0 with
          | none => exact absurd hf hne
          | some i =>
            have e : delK ks n = ks.eraseIdx i := by unfold delK; rw [hf]; rfl
            rw [e]
            exact del i [] _ hf (by simp) (fun j d hd => by simp at hd)
        cases hf : findI ks n 0 with
        | some i =>
          rw [hf] at hr
          have hlt := f2 i hf
          have hltE : i < E.size := by omega
          simp only at hr
          split at hr
          case isFalse => cases hr
          rename_i hoff
          simp only [Option.some.injEq] at hr
          subst hr
          have hE : ∀ j, (E.eraseIdxIfInBounds i)[j]? = if j < i then E[j]? else E[j + 1]? := by
            intro j
            rw [← Array.getElem?_toList, Array.toList_eraseIdxIfInBounds, List.getElem?_eraseIdx]
            simp
          have e1 : (ks.eraseIdx i).length = ks.length - 1 := by rw [List.length_eraseIdx, if_pos hlt]
          have e2 : (vs.eraseIdx (i - (ks.length - vs.length))).length = vs.length - 1 := by rw [List.length_eraseIdx, if_pos (by omega)]
          refine del i _ _ hf (by rw [e1, e2]; omega) (fun j d hd => ?_)
          rw [e1, e2, hE]
          rw [List.getElem?_eraseIdx] at hd
          split at hd
          · rename_i h
            obtain ⟨y, hy, hR⟩ := hvs _ _ hd
            refine ⟨y, ?_, hR⟩
            rw [show ks.length - 1 - (vs.length - 1) + j = ks.length - vs.length + j by omega, if_pos (by omega)]
            exact hy
          · rename_i h
            obtain ⟨y, hy, hR⟩ := hvs _ _ hd
            refine ⟨y, ?_, hR⟩
            have hjl := (List.getElem?_eq_some_iff.1 hd).1
            rw [show ks.length - 1 - (vs.length - 1) + j = ks.length - vs.length + j by omega, if_neg (by omega)]
            rw [show ks.length - vs.length + j + 1 = ks.length - vs.length + (j + 1) by omega]
            exact hy
        | none =>
          rw [hf] at hr f1
          simp only [Option.some.injEq] at hr
          subst hr
          obtain ⟨g1, g2⟩ := set_map (ks' := ks) (vs' := vs) (E' := E) (cl' := cl) hw ho hm hfx hb hl hs hk hvs
          refine ⟨.tuple #[], I, _, _, ?_, g2, g1, rep0⟩
          simp [Builtin.delete_, h1, run_underlying hd0 w, run_getMap hb, run_checkKey _ hd1, f1, setObj, Sem.run, hb]
      · cases hr
    · cases hr
  · cases hr

/-- A token for what has no room. -/
theorem fresh_tok3 {f sz : Nat} (hw : WOk I w μ H) (hf : FreshOk μ H f) :
    WOk I w (mset μ f { b := 0, sz, cap := 0, st := 1, fx := false }) (hset H f (some (.tok 0 sz))) ∧
    Ext μ.length I w μ H I w (mset μ f { b := 0, sz, cap := 0, st := 1, fx := false }) (hset H f (some (.tok 0 sz))) ∧
    (mset μ f { b := 0, sz, cap := 0, st := 1, fx := false })[f]? = some { b := 0, sz, cap := 0, st := 1, fx := false } := by
  have u : Upd I w μ H f { b := 0, sz, cap := 0, st := 1, fx := false } (.tok 0 sz) I w :=
    { le := fresh_le hf, mu := fresh_mu hw hf (Nat.le_refl _), keeps := Keeps.refl _ _, size := Nat.le_refl _, frame := fun b hb _ => rfl
      im := fun b k h => .inl h, blk := .inr (.inr ⟨rfl, fun _ _ h => h⟩), os := rfl, tape := rfl, output := rfl }
  obtain ⟨h1, h2⟩ := upd_ok hw u ⟨rfl, rfl, rfl, Nat.le_refl _, fun h => absurd h (by simp)⟩
  exact ⟨h1, h2, mset_same (by rw [hw.len]; exact fresh_le hf)⟩

theorem good_slice3 {t : TypeId} {x : D} {vx : Value} {lo hi mx : Option D} {vlo vhi vmx : Option Value} {f : Nat} {r : SR} (hT : TOk P T) (hw : WOk I w μ H) (hf : FreshOk μ H f) (hx : Rep I w μ x vx)
    (h2 : ∀ d, hi = some d → ∃ u, vhi = some u ∧ Rep I w μ d u) (n1 : lo = none → vlo = none) (h3 : ∀ d, mx = some d → ∃ u, vmx = some u ∧ Rep I w μ d u)
    (hr : slice3F T t x lo hi mx f = some r) : GoodV P (Instr.sliceAt t vx vlo vhi vmx) I w μ H r := by
  unfold slice3F at hr
  split at hr
  · rename_i e _ _ _ _ kb b kc c hty
    obtain ⟨i0, d0, hi0, hd0, hk0, _⟩ := ty_of hT hty
    have hsl := tk_slice hk0
    subst hsl
    obtain rfl := n1 rfl
    obtain ⟨u2, rfl, hR2⟩ := h2 _ rfl
    obtain ⟨u3, rfl, hR3⟩ := h3 _ rfl
    obtain rfl := rep_int hR2
    obtain rfl := rep_int hR3
    split at hr
    · rename_i hbc
      obtain ⟨rfl, rfl⟩ := hbc
      have key : ∀ (z : Ty) (hz : T e = some z) (a : Option Addr) (n cap : Nat), (Instr.sliceAt t (.slice a n cap) none (some (.int kb 0)) (some (.int kc 0))).run P w = .ok (.slice a 0 0) w := by
        intro z hz a n cap
        obtain ⟨i1, d1, hi1, hd1, _⟩ := ty_of hT hz
        simp [Instr.sliceAt, run_underlying hd0 w, Instr.slice, Instr.sliceBounds, Instr.sliceBound, asIntOf, run_sizeOf hi1 w]
      have tok : ∀ (z : Ty) (hz : T e = some z) (a : Addr) (n cap : Nat), GoodV P (Instr.sliceAt t (.slice (some a) n cap) none (some (.int kb 0)) (some (.int kc 0))) I w μ H { v := .slice true [] (some f), wr := [(f, some (.tok 0 z.size))] } := by
        intro z hz a n cap
        obtain ⟨g1, g2, g3⟩ := fresh_tok3 (sz := z.size) hw hf
        refine ⟨_, I, w, _, key z hz _ _ _, g2, g1, Rep.tok [] a 0 f _ g3 (Nat.le_refl _) (fun _ => ⟨rfl, fun h => absurd h (by omega)⟩) (.slice [] a 0 z.size (fun _ _ => Go.undef) (Nat.le_refl _) (fun i c h => by simp at h) (fun i j h => by simp at h) (fun i j c d h => by simp at h)) (fun i c h => by simp at h)⟩
      split at hr
      · rename_i z es tk hz
        obtain rfl := Option.some.inj hr
        obtain ⟨a, cap, rfl⟩ : ∃ a cap, vx = .slice (some a) es.length cap := by
          cases hx with
          | pure h => cases h with
            | slice _ a cap _ _ _ _ _ _ => exact ⟨a, cap, rfl⟩
          | tok _ a cap => exact ⟨a, cap, rfl⟩
        exact tok z hz a _ cap
      · rename_i z hz
        obtain rfl := Option.some.inj hr
        have hvx : vx = .slice none 0 0 := by
          cases hx with
          | pure h => cases h; rfl
        subst hvx
        exact goodV_same hw (key z hz _ _ _) rfl (.pure .sliceN)
      · rename_i z o st len hz
        obtain rfl := Option.some.inj hr
        obtain ⟨a, cap, rfl⟩ : ∃ a cap, vx = .slice (some a) len cap := by
          cases hx with
          | pure h => cases h
          | view _ _ _ m a => exact ⟨a, _, rfl⟩
        exact tok z hz a _ cap
      · cases hr
    · cases hr
  · cases hr

end
end Go.Proofs.Ytifpbdhggooelaa.GD
