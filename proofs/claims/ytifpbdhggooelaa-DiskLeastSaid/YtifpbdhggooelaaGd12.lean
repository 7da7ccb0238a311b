/- One operation on data is what the machine does: append, the cases. -/
import Derived.Test.YtifpbdhggooelaaGd11
namespace Go.Proofs.Ytifpbdhggooelaa.GD
open Go
set_option linter.unusedVariables false
set_option linter.unusedSimpArgs false

variable {P : Program} {T : Tys}
section
variable {I : Im} {w : World} {μ : List Loc} {H : Heap}

/-- What is known at an append. -/
structure AppCtx (P : Program) (w : World) (t u e : TypeId) (i : TypeInfo) (x : Value) (k : Nat) (vals : List Value) : Prop where
  hu : P.underlying t = some (.slice e)
  hd : ∃ du, P.underlying u = some du ∧ ∀ k, du ≠ .int k
  hi : P.info? e = some i
  hz : ∃ z, i.zero = some z ∧ z.cells.size = i.size
  hb0 : 0 < i.bytes
  hl : (Builtin.lenOf x).run P w = .ok k w
  hlen : vals.length = k * i.size
  hf : (Builtin.firstCells i.size k x).run P w = .ok vals.toArray w
  hf' : (Builtin.firstCells i.size k x).run P w.drew = .ok vals.toArray w.drew

theorem zeroCells_size (z : Array Value) (n : Nat) : (Builtin.zeroCells z n).size = n * z.size := by simp [Builtin.zeroCells]

theorem toArr (a b : List Value) (c : Array Value) : a.toArray ++ b.toArray ++ c = (a ++ b ++ c.toList).toArray := by
  apply Array.ext'; simp

theorem rep_tok {nn : Bool} {es : List (List D)} {t : Nat} {v : Value} (h : Rep I w μ (.slice nn es (some t)) v) :
    ∃ m, μ[t]? = some m ∧ ((nn = false ∧ es = [] ∧ v = .slice none 0 0 ∧ 1 ≤ m.st ∧ (m.st = 1 → m.cap = 0)) ∨
      (nn = true ∧ ∃ a cap, v = .slice (some a) es.length cap ∧ es.length + 1 ≤ m.st ∧ (m.st = es.length + 1 → m.cap = cap ∧ (0 < cap → a = ⟨m.b, 0, none⟩)) ∧
        RepP I w (.slice true es none) (.slice (some a) es.length cap) ∧ ∀ (i : Nat) c, es[i]? = some c → c.length = m.sz)) := by
  cases h with
  | pure h => cases h
  | tokN _ m hm h1 h0 => exact ⟨m, hm, .inl ⟨rfl, rfl, rfl, h1, h0⟩⟩
  | tok _ a cap _ m hm hst hat hp hsz => exact ⟨m, hm, .inr ⟨rfl, a, cap, rfl, hst, hat, hp, hsz⟩⟩

theorem app_tok {t u ty e : TypeId} {i : TypeInfo} {x vs : Value} {vals : List Value} {nn : Bool} {es ys : List (List D)} {tk : Nat} {cs : List Prop} (hw : WOk I w μ H)
    (A : AppCtx P w t u e i x ys.length vals) (hs : Rep I w μ (.slice nn es (some tk)) vs) (hg : hget H tk = some (.tok es.length i.size))
    (hy : PureRow I w i.size ys vals.toArray) (hbytes : (es.length + ys.length) * i.bytes ≤ 140737488355328) :
    GoodV P (Builtin.append_ #[t, u] ty #[vs, x]) I w μ H { v := .slice (nn || !ys.isEmpty) (es ++ ys) (some tk), wr := [(tk, some (.tok (es.length + ys.length) i.size))], cs } := by
  obtain ⟨du, hd, hnu⟩ := A.hd
  obtain ⟨z, hz, hzs⟩ := A.hz
  obtain ⟨m, hm, hcase⟩ := rep_tok hs
  obtain ⟨m', em, hok⟩ := hw.obj tk _ hg
  rw [hm] at em
  obtain rfl := Option.some.inj em
  obtain ⟨hfx, hmsz, hst, hcapn, hblk⟩ := hok
  by_cases hk : ys = []
  · -- nothing is put behind
    subst hk
    have hv0 : vals = [] := List.eq_nil_of_length_eq_zero (by simpa using A.hlen)
    subst hv0
    have hsame : hset H tk (some (.tok (es.length + ([] : List (List D)).length) i.size)) = H := by simpa using hset_self hg
    refine ⟨vs, I, w, μ, ?_, ?_, ?_, ?_⟩
    · rcases hcase with ⟨_, rfl, rfl, _⟩ | ⟨_, a, cap, rfl, _, _, hp, _⟩
      · have := run_app_fit (ty := ty) (w := w) (w' := w) A.hu hd hnu A.hi A.hl (base := none) (sLen := 0) (sCap := 0) (by simp) A.hf (by simp) (by simp)
        simpa using this
      · have := run_app_fit (ty := ty) (w := w) (w' := w) A.hu hd hnu A.hi A.hl (base := some a) (sLen := es.length) (sCap := cap) (by simpa using (repP_slice hp).2.1) A.hf (by intro a' _; simp [storeCells]) (by simp)
        simpa using this
    · simp only [applyWr]; rw [hsame]; exact Ext.refl ..
    · simp only [applyWr]; rw [hsame]; exact hw
    · simpa using hs
  · have hk0 : 0 < ys.length := List.length_pos_iff.2 hk
    have hne : (nn || !ys.isEmpty) = true := by cases ys <;> simp_all
    have hlen2 : (es ++ ys).length = es.length + ys.length := by simp
    -- a new block
    have grow : ∀ (base : Option Addr) (sCap : Nat) (old : List Value), vs = .slice base es.length sCap → ¬ es.length + ys.length ≤ sCap →
        old.length = es.length * i.size → PureRow I w i.size es old.toArray → (Builtin.firstCells i.size es.length (.slice base es.length sCap)).run P w.drew = .ok old.toArray w.drew →
        GoodV P (Builtin.append_ #[t, u] ty #[vs, x]) I w μ H { v := .slice (nn || !ys.isEmpty) (es ++ ys) (some tk), wr := [(tk, some (.tok (es.length + ys.length) i.size))], cs } := by
      intro base sCap old hvs hfit hol hop ho
      subst hvs
      obtain ⟨cap, hcap, hrun⟩ := run_app_grow (ty := ty) (w := w) A.hu hd hnu A.hi hz A.hb0 A.hl hfit hbytes ho A.hf'
      rw [toArr] at hrun
      have hp := pureRow_append (rest := (Builtin.zeroCells z.cells (cap - (es.length + ys.length))).toList) hop hy hol A.hlen
      have hp' : PureRow I w.drew i.size (es ++ ys) (old ++ vals ++ (Builtin.zeroCells z.cells (cap - (es.length + ys.length))).toList).toArray :=
        ⟨hp.1, fun i j c d a b => by obtain ⟨v, x1, x2, x3⟩ := hp.2 i j c d a b; exact ⟨v, x1, x2.keeps keeps_drew, x3⟩⟩
      obtain ⟨I', μ', h1, h2, h3⟩ := alloc_tok (E := e) (fr := (0, 0)) (o := tk) (cap := cap) (wok_drew hw) (by
          rcases Nat.lt_or_ge tk H.length with h | h
          · omega
          · rw [hget, List.getD_eq_getElem?_getD, List.getElem?_eq_none h] at hg; cases hg)
        (fun n hn => by
          rw [hm] at hn
          obtain rfl := Option.some.inj hn
          refine ⟨by rw [hlen2]; omega, fun q => ?_, fun _ => hmsz.symm⟩
          rcases q with q | q
          · rw [hlen2] at q; omega
          · rw [hfx] at q; cases q)
        (by
          have : (Builtin.zeroCells z.cells (cap - (es.length + ys.length))).toList.length = (cap - (es.length + ys.length)) * i.size := by simp [zeroCells_size, hzs]
          simp only [List.size_toArray, List.length_append, this, hol, A.hlen]
          rw [← Nat.add_mul, ← Nat.add_mul]; congr 1; omega) (by rw [hlen2]; exact hcap) (fun k _ => by simp) hp'
      rw [hlen2] at h1 h2 h3
      refine ⟨_, I', _, μ', hrun, ?_, h1, ?_⟩
      · exact (ext_drew _).trans h2 (Nat.le_refl _)
      · rw [hne]; exact h3
    rcases hcase with ⟨rfl, rfl, rfl, h1, h0⟩ | ⟨rfl, a, cap, rfl, _, hat, hp, hes⟩
    · have hc0 := h0 (by simpa using hst)
      exact grow none 0 [] rfl (by simp; omega) (by simp) ⟨fun i c h => by simp at h, fun i j c d h => by simp at h⟩ (by simp [Builtin.firstCells])
    · obtain ⟨hcm, haddr⟩ := hat hst
      by_cases hfit : es.length + ys.length ≤ cap
      · -- in place
        have hcap0 : 0 < cap := by omega
        obtain rfl := haddr hcap0
        obtain ⟨arr, E, fr, hbk, hsz, hfree⟩ := hblk (by omega)
        have hin : es.length * i.size + vals.length ≤ arr.size := by
          rw [hsz, hcm, hmsz, A.hlen, ← Nat.add_mul]; exact Nat.mul_le_mul_right _ hfit
        have hone : ∀ v ∈ vals, v.oneCell' = true := by
          intro v hv
          obtain ⟨j, hj, rfl⟩ := List.getElem_of_mem hv
          by_cases hs0 : i.size = 0
          · rw [A.hlen, hs0] at hj; omega
          · have hj' : j / i.size < ys.length := (Nat.div_lt_iff_lt_mul (by omega)).2 (by rw [← A.hlen]; exact hj)
            have hc := List.getElem?_eq_getElem hj'
            have hcl := hy.1 _ _ hc
            have hmod : j % i.size < (ys[j / i.size]).length := by rw [hcl]; exact Nat.mod_lt _ (by omega)
            obtain ⟨v', hv', _, ho⟩ := hy.2 _ _ _ _ hc (List.getElem?_eq_getElem hmod)
            rw [Nat.div_add_mod'] at hv'
            have : vals[j]? = some v' := by simpa using hv'
            rw [List.getElem?_eq_getElem hj] at this
            obtain rfl := Option.some.inj this
            exact ho
        have hrunst := run_storeCells_cells (P := P) m.b (es.length * i.size) vals 0 w (fun j hj => by
            simp only [World.cell?, hbk]
            have : es.length * i.size + 0 + j < arr.size := by omega
            simp at this
            simp [this]) (fun j hj => by
            have := (hfree (es.length * i.size + j) (by rw [hmsz]; omega) (by rw [← hsz]; omega)).2
            simpa using this) hone
        simp only [Nat.add_zero] at hrunst
        have hrun := run_app_fit (ty := ty) (w := w) (w' := w.setCells m.b (es.length * i.size) vals) A.hu hd hnu A.hi A.hl (base := some ⟨m.b, 0, none⟩) (sLen := es.length) (sCap := cap) hfit A.hf
          (by
            intro a' ha'
            obtain rfl := Option.some.inj ha'
            rw [add_lit, Nat.zero_add]
            exact hrunst) (by intro h; cases h)
        let I' : Im := fun b k => I b k ∨ (b = m.b ∧ es.length * i.size ≤ k ∧ k < (es.length + ys.length) * i.size)
        let m' : Loc := { m with st := es.length + ys.length + 1 }
        have hlv : (es.length + ys.length) * i.size = es.length * i.size + vals.length := by rw [A.hlen, Nat.add_mul]
        have hkeep : Keeps I w I (w.setCells m.b (es.length * i.size) vals) := keeps_set (fun k h1 h2 => (hfree k (by rw [hmsz]; omega) (by rw [← hsz]; omega)).1)
        have hk' : Keeps I w I' (w.setCells m.b (es.length * i.size) vals) := ⟨fun b k h => ⟨.inl h, (hkeep.imm b k h).2⟩⟩
        obtain ⟨g1, g2, g3, g4, g5, g6⟩ := setCells_heap m.b (es.length * i.size) E fr vals 0 arr w hbk
        simp only [Nat.add_zero] at g1 g2 g3 g4 g5 g6
        have hown : (HObj.tok es.length i.size).owns m = true := by simp [HObj.owns]; omega
        have htl : tk < H.length := by
          rcases Nat.lt_or_ge tk H.length with h | h
          · exact h
          · rw [hget, List.getD_eq_getElem?_getD, List.getElem?_eq_none h] at hg; cases hg
        have up : Upd I w μ H tk m' (.tok (es.length + ys.length) i.size) I' (w.setCells m.b (es.length * i.size) vals) :=
          { le := by omega
            mu := fun n hn => by
              rw [hm] at hn
              obtain rfl := Option.some.inj hn
              refine ⟨by simp only [m']; omega, fun q => ?_, fun _ => rfl⟩
              rcases q with q | q
              · simp only [m'] at q; omega
              · rw [hfx] at q; cases q
            keeps := hk'
            size := by rw [g3]; exact Nat.le_refl _
            frame := fun b _ hb => g2 b (hb _ _ hg hm hown)
            im := fun b k h => by rcases h with h | ⟨h, _⟩; exact .inl h; exact .inr h
            blk := .inl ⟨_, m, hg, hm, hown, rfl⟩
            os := g4, tape := g5, output := g6 }
        obtain ⟨h1, h2⟩ := upd_ok hw up (by
          refine ⟨hfx, hmsz, rfl, by simp only [m']; omega, fun _ => ⟨putAt arr (es.length * i.size) 0 vals, E, fr, g1, ?_, fun k k1 k2 => ⟨fun h => ?_, ?_⟩⟩⟩
          · rw [show m'.cap * m'.sz = arr.size by rw [hsz]]
            exact (foldl_set _ vals 0 arr (by omega)).1
          · simp only [m'] at k1 k2
            rw [hmsz] at k1
            rcases h with h | ⟨_, _, h⟩
            · exact (hfree k (by rw [hmsz]; omega) k2).1 h
            · omega
          · rw [World.frozen?_setCells]
            exact (hfree k (by simp only [m', hmsz] at k1 ⊢; omega) k2).2)
        refine ⟨_, I', _, _, hrun, h2, h1, ?_⟩
        have hcell : ∀ k, k < (es.length + ys.length) * i.size → (w.setCells m.b (es.length * i.size) vals).cell? ⟨m.b, k, none⟩ = (putAt arr (es.length * i.size) 0 vals)[k]? := by
          intro k hk
          simp only [World.cell?, g1]
          simp
        have hrow : PureRow I' (w.setCells m.b (es.length * i.size) vals) i.size (es ++ ys) (putAt arr (es.length * i.size) 0 vals) := by
          refine ⟨fun j c hj => ?_, fun j q c d hj hq => ?_⟩
          · rw [List.getElem?_append] at hj
            split at hj
            · rw [← hmsz]; exact hes j c hj
            · exact hy.1 _ c hj
          · rw [putAt_get hin]
            rw [List.getElem?_append] at hj
            split at hj
            · rename_i hlt
              have hql : q < i.size := by rw [← hmsz, ← hes j c hj]; exact (List.getElem?_eq_some_iff.1 hq).1
              have hb : j * i.size + i.size ≤ es.length * i.size := by rw [← Nat.succ_mul]; exact Nat.mul_le_mul_right _ hlt
              rw [if_neg (by omega)]
              obtain ⟨_, _, s, f, q1, q2, q3⟩ := repP_slice hp
              have hs' : s = i.size := by rw [← q1 j c hj, hes j c hj, hmsz]
              subst hs'
              obtain ⟨_, c2, c3⟩ := q2 j q hlt hql
              rw [add_lit, Nat.zero_add] at c2
              refine ⟨f j q, ?_, (q3 j q c d hj hq).keeps hk', c3⟩
              simp only [World.cell?, hbk] at c2
              simpa using c2
            · rename_i hge
              obtain ⟨v, hv, hR, ho⟩ := hy.2 _ q c d hj hq
              have hql : q < i.size := by rw [← hy.1 _ c hj]; exact (List.getElem?_eq_some_iff.1 hq).1
              have hjl : j - es.length < ys.length := (List.getElem?_eq_some_iff.1 hj).1
              have hb : (j - es.length) * i.size + i.size ≤ ys.length * i.size := by rw [← Nat.succ_mul]; exact Nat.mul_le_mul_right _ hjl
              have he : j * i.size = es.length * i.size + (j - es.length) * i.size := by rw [← Nat.add_mul]; congr 1; omega
              rw [if_pos (by rw [A.hlen]; omega)]
              refine ⟨v, ?_, hR.keeps hk', ho⟩
              rw [show j * i.size + q - es.length * i.size = (j - es.length) * i.size + q by omega]
              simpa using hv
        have hpp : RepP I' (w.setCells m.b (es.length * i.size) vals) (.slice true (es ++ ys) none) (.slice (some ⟨m.b, 0, none⟩) (es ++ ys).length cap) :=
          repP_block (by rw [hlen2]; exact hfit) hrow (fun k hk => by
            rw [hlen2] at hk
            by_cases h : k < es.length * i.size
            · obtain ⟨_, _, s, f, q1, q2, q3⟩ := repP_slice hp
              have hs0 : 0 < i.size := by
                rcases Nat.eq_zero_or_pos i.size with h' | h'
                · rw [h'] at h; omega
                · exact h'
              have hj : k / i.size < es.length := (Nat.div_lt_iff_lt_mul hs0).2 h
              have hs' : s = i.size := by rw [← q1 _ _ (List.getElem?_eq_getElem hj), hes _ _ (List.getElem?_eq_getElem hj), hmsz]
              subst hs'
              have := (q2 (k / i.size) (k % i.size) hj (Nat.mod_lt _ hs0)).1
              rw [add_lit, Nat.zero_add, Nat.div_add_mod'] at this
              exact .inl this
            · exact .inr ⟨rfl, by omega, hk⟩) (fun k hk => hcell k (by rw [hlen2] at hk; exact hk))
        rw [hne]
        rw [hlen2] at hpp
        refine hlen2 ▸ Rep.tok (es ++ ys) ⟨m.b, 0, none⟩ cap tk m' (mset_same (by rw [hw.len]; omega)) (by rw [hlen2]; exact Nat.le_refl _) (fun _ => ⟨hcm, fun _ => rfl⟩) (by rw [hlen2]; exact hpp) (fun j c hj => ?_)
        show c.length = m.sz
        rw [hmsz]; exact hrow.1 j c hj
      · -- beyond
        obtain ⟨_, _, s, f, q1, q2, q3⟩ := repP_slice hp
        by_cases hes0 : es = []
        · subst hes0
          refine grow (some a) cap [] rfl hfit (by simp) ⟨fun i c h => by simp at h, fun i j c d h => by simp at h⟩ ?_
          have := run_firstCells (P := P) (w := w.drew) a i.size 0 0 cap (fun _ => Go.undef) (by simp)
          simpa using this
        · have hs' : s = i.size := by
            have h0 : 0 < es.length := List.length_pos_iff.2 hes0
            rw [← q1 _ _ (List.getElem?_eq_getElem h0), hes _ _ (List.getElem?_eq_getElem h0), hmsz]
          subst hs'
          obtain ⟨vals1, t1, t2, t3, t4, t5⟩ := src_ok (P := P) (sz := i.size) hw hs (ys := es) rfl (fun c hc => by
              obtain ⟨j, hj, rfl⟩ := List.getElem_of_mem hc
              exact q1 _ _ (List.getElem?_eq_getElem hj)) (by intro s h; cases h) (by intro o st len h; cases h)
          have hpr := t5 rfl
          refine grow (some a) cap vals1 rfl hfit t2 hpr ?_
          have := t3 w.drew (fun _ => rfl) es.length (Nat.le_refl _)
          rw [← t2, List.take_length] at this
          exact this

/-- Behind nil. -/
theorem app_nil {t u ty e : TypeId} {i : TypeInfo} {x vs : Value} {vals : List Value} {ys : List (List D)} {f : Nat} {cs : List Prop} (hw : WOk I w μ H) (hf : FreshOk μ H f)
    (A : AppCtx P w t u e i x ys.length vals) (hs : Rep I w μ (.slice false [] none) vs)
    (hy : PureRow I w i.size ys vals.toArray) (hbytes : ys.length * i.bytes ≤ 140737488355328) :
    GoodV P (Builtin.append_ #[t, u] ty #[vs, x]) I w μ H { v := .slice (!ys.isEmpty) ys (some f), wr := [(f, some (.tok ys.length i.size))], cs } := by
  rcases rep_slice hs with ⟨_, _, rfl⟩ | ⟨h, _⟩
  · obtain ⟨μ1, h1, h2, h3⟩ := nil_tok (sz := i.size) hw hf
    have hfl : f ≤ H.length := fresh_le hf
    have hg : hget (hset H f (some (.tok ([] : List (List D)).length i.size))) f = some (.tok ([] : List (List D)).length i.size) := hget_hset_same hfl
    obtain ⟨v, I', w', μ', q1, q2, q3, q4⟩ := app_tok (cs := cs) (ty := ty) h1 A h3 hg hy (by simpa using hbytes)
    have hset2 : applyWr (hset H f (some (.tok ([] : List (List D)).length i.size))) [(f, some (.tok (([] : List (List D)).length + ys.length) i.size))] = applyWr H [(f, some (.tok ys.length i.size))] := by
      simp only [applyWr, List.length_nil, Nat.zero_add]
      unfold hset
      by_cases e : f = H.length
      · subst e
        simp
      · simp [e]
    refine ⟨v, I', w', μ', q1, ?_, ?_, ?_⟩
    · refine h2.trans (n' := μ1.length) ?_ (by
        have := h1.len; have := hw.len
        have h4 := length_hset (H := H) (o := f) (x := some (.tok 0 i.size))
        omega)
      show Ext _ _ _ _ _ _ _ _ (applyWr H [(f, some (.tok ys.length i.size))])
      rw [← hset2]; exact q2
    · show WOk _ _ _ (applyWr H [(f, some (.tok ys.length i.size))])
      rw [← hset2]; exact q3
    · simpa using q4
  · cases h

/-- Behind nil, as a row. -/
theorem app_nil_row {t u ty e : TypeId} {i : TypeInfo} {x vs : Value} {vals : List Value} {ys : List (List D)} {f : Nat} {cs : List Prop} (hw : WOk I w μ H) (hf : FreshOk μ H f)
    (A : AppCtx P w t u e i x ys.length vals) (hs : Rep I w μ (.slice false [] none) vs) (hk : 0 < ys.length)
    (hy : RowOk I w μ i.size ys vals.toArray) (hbytes : ys.length * i.bytes ≤ 140737488355328) :
    GoodV P (Builtin.append_ #[t, u] ty #[vs, x]) I w μ H { v := .view f 0 ys.length, wr := [(f, some (.row i.size ys))], cs } := by
  obtain ⟨du, hd, hnu⟩ := A.hd
  obtain ⟨z, hz, hzs⟩ := A.hz
  rcases rep_slice hs with ⟨_, _, rfl⟩ | ⟨h, _⟩
  · obtain ⟨cap, hcap, hrun⟩ := run_app_grow (ty := ty) (w := w) (base := none) (sLen := 0) (sCap := 0) (old := #[]) A.hu hd hnu A.hi hz A.hb0 A.hl (by omega) (by simpa using hbytes) (by simp [Builtin.firstCells]) A.hf'
    simp only [Nat.zero_add] at hrun hcap
    have e1 : (#[] : Array Value) ++ vals.toArray ++ Builtin.zeroCells z.cells (cap - ys.length) = (vals ++ (Builtin.zeroCells z.cells (cap - ys.length)).toList).toArray := by
      apply Array.ext'; simp
    rw [e1] at hrun
    have hrow : RowOk I w.drew μ i.size ys (vals ++ (Builtin.zeroCells z.cells (cap - ys.length)).toList).toArray := by
      refine ⟨hy.1, fun a b c d ha hb => ?_⟩
      obtain ⟨v, x1, x2, x3⟩ := hy.2 a b c d ha hb
      refine ⟨v, ?_, rep_drew x2, x3⟩
      simp only [List.getElem?_toArray] at x1 ⊢
      rw [List.getElem?_append_left (List.getElem?_eq_some_iff.1 x1).1, x1]
    obtain ⟨h1, h2, h3⟩ := alloc_row (E := e) (fr := (0, 0)) (cap := cap) (f := f) (wok_drew hw) hf hcap (by
      have : (Builtin.zeroCells z.cells (cap - ys.length)).toList.length = (cap - ys.length) * i.size := by simp [zeroCells_size, hzs]
      simp only [List.size_toArray, List.length_append, this, A.hlen]
      rw [← Nat.add_mul]; congr 1; omega) (fun k _ => by simp) hrow
    refine ⟨_, I, _, _, hrun, (ext_drew _).trans h2 (Nat.le_refl _), h1, ?_⟩
    have := Rep.view (I := I) (w := w.drew.alloc (.cells (vals ++ (Builtin.zeroCells z.cells (cap - ys.length)).toList).toArray e)) f 0 ys.length _ ⟨w.heap.size, 0, none⟩ h3 rfl (by simpa using hcap) (fun _ => by simp)
    simpa using this
  · cases h

/-- Within a row. -/
theorem app_in {t u ty e : TypeId} {i : TypeInfo} {x vs : Value} {vals : List Value} {es ys : List (List D)} {o st len : Nat} {cs : List Prop} (hw : WOk I w μ H)
    (A : AppCtx P w t u e i x ys.length vals) (hs : Rep I w μ (.view o st len) vs) (ho : hget H o = some (.row i.size es)) (hk : 0 < ys.length)
    (hy : RowOk I w μ i.size ys vals.toArray) (hsz : ∀ c ∈ ys, c.length = i.size) (hfit : st + len + ys.length ≤ es.length) (hone : ∀ v ∈ vals, v.oneCell' = true) :
    GoodV P (Builtin.append_ #[t, u] ty #[vs, x]) I w μ H
      { v := .view o st (len + ys.length), wr := [(o, some (.row i.size (es.take (st + len) ++ ys ++ es.drop (st + len + ys.length))))], cs } := by
  obtain ⟨du, hd, hnu⟩ := A.hd
  obtain ⟨m, a, hm, hfx, hle, ha, rfl⟩ := rep_view hs
  obtain ⟨m', em, hok⟩ := hw.obj o _ ho
  rw [hm] at em
  obtain rfl := Option.some.inj em
  obtain ⟨_, hms, hcap, arr, E, fr, hbk, hs', hl, hrep, hfree⟩ := hok
  have hst : st < m.cap := by omega
  obtain rfl := ha hst
  have hin : (st + len) * m.sz + vals.length ≤ m.cap * m.sz := by
    rw [A.hlen, hms, ← Nat.add_mul]; exact Nat.mul_le_mul_right _ (by omega)
  have hrunst := run_storeCells_cells (P := P) m.b ((st + len) * m.sz) vals 0 w (fun j hj => by
      simp only [World.cell?, hbk]
      have : (st + len) * m.sz + 0 + j < arr.size := by omega
      simp at this
      simp [this]) (fun j hj => by
      have := (hfree ((st + len) * m.sz + j) (by omega)).2
      simpa using this) hone
  simp only [Nat.add_zero] at hrunst
  have hrun := run_app_fit (ty := ty) (w := w) (w' := w.setCells m.b ((st + len) * m.sz) vals) A.hu hd hnu A.hi A.hl (base := some ⟨m.b, st * m.sz, none⟩) (sLen := len) (sCap := m.cap - st) (by omega) A.hf
    (by
      intro a' ha'
      obtain rfl := Option.some.inj ha'
      rw [add_lit, ← hms, ← Nat.add_mul]
      exact hrunst) (by intro h; cases h)
  have hput : (st + len) * m.sz + vals.length ≤ arr.size := by omega
  obtain ⟨k1, k2⟩ := set_row (es' := es.take (st + len) ++ ys ++ es.drop (st + len + ys.length)) (off := (st + len) * m.sz) (vs := vals) hw ho hm hbk hin (by simp; omega) (by
    refine ⟨fun j c hj => ?_, fun j q c d hj hq => ?_⟩
    · rw [getElem?_splice _ _ _ hfit] at hj
      split at hj
      · rw [hms]; exact hy.1 _ c hj
      · exact hl _ c hj
    · rw [getElem?_splice _ _ _ hfit] at hj
      rw [putAt_get hput]
      split at hj
      · rename_i hjin
        have hql : q < m.sz := by rw [hms, ← hy.1 _ c hj]; exact (List.getElem?_eq_some_iff.1 hq).1
        have e1 : j * m.sz = (st + len) * m.sz + (j - (st + len)) * m.sz := by rw [← Nat.add_mul]; congr 1; omega
        have e2 : (j - (st + len)) * m.sz + m.sz ≤ ys.length * m.sz := by rw [← Nat.succ_mul]; exact Nat.mul_le_mul_right _ (by omega)
        have e3 : vals.length = ys.length * m.sz := by rw [A.hlen, hms]
        rw [if_pos (by omega)]
        obtain ⟨v, hv, hR, h1⟩ := hy.2 _ q c d hj hq
        refine ⟨v, ?_, hR, h1⟩
        rw [show j * m.sz + q - (st + len) * m.sz = (j - (st + len)) * i.size + q by rw [← hms]; omega]
        simpa using hv
      · rename_i hjin
        have hql : q < m.sz := by rw [← hl _ c hj]; exact (List.getElem?_eq_some_iff.1 hq).1
        have e3 : vals.length = ys.length * m.sz := by rw [A.hlen, hms]
        rw [if_neg ?_]
        · exact hrep j q c d hj hq
        · rcases Nat.lt_or_ge j (st + len) with h1 | h1
          · have : j * m.sz + m.sz ≤ (st + len) * m.sz := by rw [← Nat.succ_mul]; exact Nat.mul_le_mul_right _ h1
            omega
          · have h2 : st + len + ys.length ≤ j := by omega
            have : (st + len + ys.length) * m.sz ≤ j * m.sz := Nat.mul_le_mul_right _ h2
            rw [Nat.add_mul] at this
            omega)
  refine ⟨_, I, _, μ, hrun, k2, k1, ?_⟩
  exact Rep.view o st (len + ys.length) m _ hm hfx (by omega) (fun _ => rfl)

/-- Beyond a row. -/
theorem app_out {t u ty e : TypeId} {i : TypeInfo} {x vs : Value} {vals : List Value} {es ys : List (List D)} {o len f : Nat} {cs : List Prop} (hw : WOk I w μ H) (hf : FreshOk μ H f)
    (A : AppCtx P w t u e i x ys.length vals) (hs : Rep I w μ (.view o 0 len) vs) (ho : hget H o = some (.row i.size es)) (hpos : 0 < len + ys.length) (hle0 : len ≤ es.length)
    (hy : RowOk I w μ i.size ys vals.toArray) (hone : ∀ v ∈ vals, v.oneCell' = true) (hbytes : (len + ys.length) * i.bytes ≤ 140737488355328) :
    GoodV P (Builtin.append_ #[t, u] ty #[vs, x]) I w μ H
      { v := .view f 0 (len + ys.length), wr := [(o, some .dead), (f, some (.row i.size (es.take len ++ ys)))], cs } := by
  obtain ⟨du, hd, hnu⟩ := A.hd
  obtain ⟨z, hz, hzs⟩ := A.hz
  obtain ⟨m, a, hm, hfx, hle, ha, rfl⟩ := rep_view hs
  obtain ⟨m', em, hok⟩ := hw.obj o _ ho
  rw [hm] at em
  obtain rfl := Option.some.inj em
  have hok0 := hok
  obtain ⟨⟨_, hst1⟩, hms, hcap, arr, E, fr, hbk, hs', hl, hrep, hfree⟩ := hok
  have hol : o < H.length := by
    rcases Nat.lt_or_ge o H.length with h | h
    · exact h
    · rw [hget, List.getD_eq_getElem?_getD, List.getElem?_eq_none h] at ho; cases ho
  have hof : f ≠ o := fun h => by rw [← h, fresh_none hf] at ho; cases ho
  have hlk : (es.take len ++ ys).length = len + ys.length := by simp; omega
  -- the elements over an array that begins with the old ones and the new ones
  have rowOf : ∀ (cells : Array Value), (∀ j, j < len * i.size → cells[j]? = arr[j]?) → (∀ j, j < ys.length * i.size → cells[len * i.size + j]? = vals[j]?) → RowOk I w μ i.size (es.take len ++ ys) cells := by
    intro cells h1 h2
    have htl : (es.take len).length = len := by simp; omega
    refine ⟨fun j c hj => ?_, fun j q c d hj hq => ?_⟩
    · rw [List.getElem?_append] at hj
      split at hj
      · rw [List.getElem?_take] at hj
        split at hj
        · rw [← hms]; exact hl _ c hj
        · cases hj
      · exact hy.1 _ c hj
    · rw [List.getElem?_append] at hj
      split at hj
      · rename_i hlt'
        rw [htl] at hlt'
        rw [List.getElem?_take, if_pos hlt'] at hj
        obtain ⟨v, hv, hR, h3⟩ := hrep j q c d hj hq
        have hql : q < i.size := by rw [← hms, ← hl _ c hj]; exact (List.getElem?_eq_some_iff.1 hq).1
        have : j * i.size + i.size ≤ len * i.size := by rw [← Nat.succ_mul]; exact Nat.mul_le_mul_right _ hlt'
        refine ⟨v, ?_, hR, h3⟩
        rw [h1 _ (by omega), ← hms]; exact hv
      · rename_i hge
        rw [htl] at hj hge
        obtain ⟨v, hv, hR, h3⟩ := hy.2 _ q c d hj hq
        have hql : q < i.size := by rw [← hy.1 _ c hj]; exact (List.getElem?_eq_some_iff.1 hq).1
        have hjl : j - len < ys.length := (List.getElem?_eq_some_iff.1 hj).1
        have hb : (j - len) * i.size + i.size ≤ ys.length * i.size := by rw [← Nat.succ_mul]; exact Nat.mul_le_mul_right _ hjl
        have he : j * i.size = len * i.size + (j - len) * i.size := by rw [← Nat.add_mul]; congr 1; omega
        refine ⟨v, ?_, hR, h3⟩
        rw [show j * i.size + q = len * i.size + ((j - len) * i.size + q) by omega, h2 _ (by omega)]
        simpa using hv
  by_cases hfit : len + ys.length ≤ m.cap
  · -- in place: the object goes on under the new name
    by_cases hc0 : m.cap = 0
    · omega
    have hst : 0 < m.cap := by omega
    obtain rfl := ha hst
    have hin : len * m.sz + vals.length ≤ m.cap * m.sz := by
      rw [A.hlen, hms, ← Nat.add_mul]; exact Nat.mul_le_mul_right _ hfit
    have hrunst := run_storeCells_cells (P := P) m.b (len * m.sz) vals 0 w (fun j hj => by
        simp only [World.cell?, hbk]
        have : len * m.sz + 0 + j < arr.size := by omega
        simp at this
        simp [this]) (fun j hj => by
        have := (hfree (len * m.sz + j) (by omega)).2
        simpa using this) hone
    simp only [Nat.add_zero] at hrunst
    have hrun := run_app_fit (ty := ty) (w := w) (w' := w.setCells m.b (len * m.sz) vals) A.hu hd hnu A.hi A.hl (base := some ⟨m.b, 0 * m.sz, none⟩) (sLen := len) (sCap := m.cap - 0) (by simpa using hfit) A.hf
      (by
        intro a' ha'
        obtain rfl := Option.some.inj ha'
        rw [add_lit, ← hms, Nat.zero_mul, Nat.zero_add]
        exact hrunst) (by intro h; cases h)
    have hput : len * m.sz + vals.length ≤ arr.size := by omega
    have hrow : RowOk I w μ m.sz (es.take len ++ ys) (putAt arr (len * m.sz) 0 vals) := by
      rw [hms]
      refine rowOf _ (fun j hj => ?_) (fun j hj => ?_)
      · rw [← hms] at hj ⊢
        rw [putAt_get hput, if_neg (by omega)]
      · rw [← hms] at hj ⊢
        rw [putAt_get hput, if_pos (by rw [A.hlen, ← hms]; omega), Nat.add_sub_cancel_left]
    obtain ⟨k1, k2⟩ := set_row (es' := es.take len ++ ys) (off := len * m.sz) (vs := vals) hw ho hm hbk hin (by rw [hlk]; exact hfit) hrow
    have hg' : hget (hset H o (some (.row i.size (es.take len ++ ys)))) o = some (.row i.size (es.take len ++ ys)) := hget_hset_same (by omega)
    have hne : ¬ o = H.length := by omega
    have hlen' : (hset H o (some (.row i.size (es.take len ++ ys)))).length = H.length := by rw [hset, if_neg hne]; simp
    have hf' : FreshOk μ (hset H o (some (.row i.size (es.take len ++ ys)))) f := by
      rcases hf with h | ⟨h1, h2, h3⟩
      · exact .inl (by rw [hlen']; exact h)
      · exact .inr ⟨by rw [hlen']; exact h1, by rw [hget_hset_other hof]; exact h2, h3⟩
    obtain ⟨j1, j2⟩ := move_ok k1 hg' hm hf' hst1
    have hset3 : hset (hset (hset H o (some (.row i.size (es.take len ++ ys)))) o (some .dead)) f (some (.row i.size (es.take len ++ ys))) =
        applyWr H [(o, some .dead), (f, some (.row i.size (es.take len ++ ys)))] := by
      simp only [applyWr]
      congr 1
      simp [hset, hne]
    rw [hset3] at j1 j2
    refine ⟨_, I, _, _, hrun, k2.trans j2 (Nat.le_refl _), j1, ?_⟩
    refine Rep.view f 0 (len + ys.length) m _ (mset_same ?_) hfx (by omega) (fun _ => rfl)
    have := fresh_le hf
    rw [hw.len]; exact this
  · -- a new block
    have hbk' : w.drew.heap[m.b]? = some (.cells arr E fr) := hbk
    have hold : ∃ old : List Value, old.length = len * i.size ∧ (Builtin.firstCells i.size len (.slice (some a) len (m.cap - 0))).run P w.drew = .ok old.toArray w.drew ∧
        ∀ j, j < len * i.size → old[j]? = arr[j]? := by
      by_cases hl0 : len = 0
      · subst hl0
        refine ⟨[], by simp, ?_, fun j hj => by omega⟩
        have := run_firstCells (P := P) (w := w.drew) a i.size 0 0 (m.cap - 0) (fun _ => Go.undef) (by simp)
        simpa using this
      · have hst : 0 < m.cap := by omega
        obtain rfl := ha hst
        have hb : ∀ j, j < len * i.size → j < arr.size := by
          intro j hj
          rw [hs', hms]
          exact Nat.lt_of_lt_of_le hj (Nat.mul_le_mul_right _ (by omega))
        refine ⟨(List.range (len * i.size)).map fun j => arr.getD j Go.undef, by simp, ?_, fun j hj => ?_⟩
        · refine run_firstCells (P := P) (w := w.drew) _ i.size len len _ (fun j => arr.getD j Go.undef) (fun j hj => ?_)
          rw [add_lit, Nat.zero_mul, Nat.zero_add]
          have := hb j hj
          simp [World.cell?, hbk', this]
        · have := hb j hj
          simp [List.getElem?_map, List.getElem?_range hj, this]
    obtain ⟨old, hol1, hol2, hol3⟩ := hold
    obtain ⟨cap, hcap', hrun⟩ := run_app_grow (ty := ty) (w := w) (base := some a) (sLen := len) (sCap := m.cap - 0) A.hu hd hnu A.hi hz A.hb0 A.hl (by simpa using hfit) hbytes hol2 A.hf'
    rw [toArr] at hrun
    obtain ⟨q1, q2⟩ := kill_ok (wok_drew hw) hol
    have hne : ¬ o = H.length := by omega
    have hlen' : (hset H o (some .dead)).length = H.length := by rw [hset, if_neg hne]; simp
    have hf' : FreshOk μ (hset H o (some .dead)) f := by
      rcases hf with h | ⟨h1, h2, h3⟩
      · exact .inl (by rw [hlen']; exact h)
      · exact .inr ⟨by rw [hlen']; exact h1, by rw [hget_hset_other hof]; exact h2, h3⟩
    have hrow : RowOk I w.drew μ i.size (es.take len ++ ys) (old ++ vals ++ (Builtin.zeroCells z.cells (cap - (len + ys.length))).toList).toArray := by
      have h0 := rowOf (old ++ vals ++ (Builtin.zeroCells z.cells (cap - (len + ys.length))).toList).toArray (fun j hj => by
          simp only [List.getElem?_toArray]
          rw [List.append_assoc, List.getElem?_append_left (by omega), hol3 j hj]) (fun j hj => by
          simp only [List.getElem?_toArray]
          rw [List.append_assoc, List.getElem?_append_right (by omega), hol1, Nat.add_sub_cancel_left, List.getElem?_append_left (by rw [A.hlen]; exact hj)])
      refine ⟨h0.1, fun j q c d hj hq => ?_⟩
      obtain ⟨v, x1, x2, x3⟩ := h0.2 j q c d hj hq
      exact ⟨v, x1, rep_drew x2, x3⟩
    obtain ⟨p1, p2, p3⟩ := alloc_row (E := e) (fr := (0, 0)) (cap := cap) q1 hf' (by rw [hlk]; exact hcap') (by
      have : (Builtin.zeroCells z.cells (cap - (len + ys.length))).toList.length = (cap - (len + ys.length)) * i.size := by simp [zeroCells_size, hzs]
      simp only [List.size_toArray, List.length_append, this, hol1, A.hlen]
      rw [← Nat.add_mul, ← Nat.add_mul]; congr 1; omega) (fun k _ => by simp) hrow
    refine ⟨_, I, _, _, hrun, ((ext_drew _).trans q2 (Nat.le_refl _)).trans p2 (Nat.le_refl _), p1, ?_⟩
    have := Rep.view (I := I) (w := w.drew.alloc (.cells (old ++ vals ++ (Builtin.zeroCells z.cells (cap - (len + ys.length))).toList).toArray e)) f 0 (len + ys.length) _ ⟨w.heap.size, 0, none⟩ p3 rfl (by simpa using hcap') (fun _ => by simp)
    simpa using this

theorem row_ones {sz : Nat} {ys : List (List D)} {vals : List Value} (hy : RowOk I w μ sz ys vals.toArray) (hl : vals.length = ys.length * sz) : ∀ v ∈ vals, v.oneCell' = true := by
  intro v hv
  obtain ⟨j, hj, rfl⟩ := List.getElem_of_mem hv
  by_cases hs0 : sz = 0
  · rw [hl, hs0] at hj; omega
  · have hj' : j / sz < ys.length := (Nat.div_lt_iff_lt_mul (by omega)).2 (by rw [← hl]; exact hj)
    have hc := List.getElem?_eq_getElem hj'
    have hcl := hy.1 _ _ hc
    have hmod : j % sz < (ys[j / sz]).length := by rw [hcl]; exact Nat.mod_lt _ (by omega)
    obtain ⟨v', hv', _, ho⟩ := hy.2 _ _ _ _ hc (List.getElem?_eq_getElem hmod)
    rw [Nat.div_add_mod'] at hv'
    have : vals[j]? = some v' := by simpa using hv'
    rw [List.getElem?_eq_getElem hj] at this
    obtain rfl := Option.some.inj this
    exact ho

theorem viewReq_ok {x : D} {n : Nat} {h : Hint} {cs : List Prop} (hv : viewReq x n h = some cs) (hc : ∀ c ∈ cs, c) : viewFits x n = true := by
  unfold viewReq at hv
  split at hv
  · rename_i o st len
    split at hv
    · split at hv
      · rename_i e; simp [viewFits, e]
      · cases hv
    · obtain rfl := Option.some.inj hv
      have : n = len := hc _ (List.mem_cons_self ..)
      simp [viewFits, this]
  · rename_i hne
    cases x with
    | view o st len => exact absurd rfl (hne o st len)
    | _ => rfl

theorem good_append {t u ty : TypeId} {s x : D} {vs vx : Value} {f : Nat} {h : Hint} {r : SR} (hT : TOk P T) (hw : WOk I w μ H) (hf : FreshOk μ H f) (hs : Rep I w μ s vs) (hx : Rep I w μ x vx)
    (hu : ∃ du, P.underlying u = some du ∧ ∀ k, du ≠ .int k) (hr : appendF T t s x (hget H) f h = some r) (hc : ∀ c ∈ r.cs, c) :
    GoodV P (Builtin.append_ #[t, u] ty #[vs, vx]) I w μ H r := by
  unfold appendF at hr
  split at hr
  · rename_i e sz0 by0 z0 tw0 ys ht hsrc
    split at hr
    · rename_i y hy
      split at hr
      · rename_i z hz
        split at hr
        · rename_i hcond
          obtain ⟨hzl, hb0, hstr⟩ := hcond
          obtain ⟨c0, hv0, hr1⟩ := Option.bind_eq_some_iff.1 hr
          obtain ⟨r0, hr2, hre⟩ := Option.map_eq_some_iff.1 hr1
          clear hr hr1
          subst hre
          have hr := hr2
          clear hr2
          have hview := viewReq_ok hv0 (fun c hcc => hc c (List.mem_append_left _ hcc))
          replace hc : ∀ c ∈ r0.cs, c := fun c hcc => hc c (List.mem_append_right _ hcc)
          change GoodV P (Builtin.append_ #[t, u] ty #[vs, vx]) I w μ H r0
          unfold appCore at hr
          obtain ⟨ti, td, hti, htd, htk, _⟩ := ty_of hT ht
          obtain rfl := tk_slice htk
          obtain ⟨i, ed, hi, hed, hek, hsz, hby, hzero⟩ := ty_of hT hy
          obtain ⟨zv, hzrun, hzrep⟩ := run_zero hT hy hz w
          have hizero : i.zero = some zv := by
            cases hiz : i.zero with
            | none => rw [hiz] at hzero; rw [hzero] at hz; simp [cellsOf] at hz
            | some v =>
              simp [zeroValue, typeInfo, hi, hiz] at hzrun
              rw [hzrun]
          have hzcells : zv.cells.size = i.size := by
            rw [← hsz, ← hzl, (cells_of (I := I) (w := w) (μ := μ) (.pure hzrep) hz).1]
          have mk : ys.all (fun c => c.length == y.size) = true → ∃ vals : List Value, AppCtx P w t u e i vx ys.length vals ∧ RowOk I w μ i.size ys vals.toArray ∧ (srcPure x = true → PureRow I w i.size ys vals.toArray) := by
            intro hall
            have hpos : ∀ s, x = .str s → i.size = 1 := by
              rintro s rfl; rw [← hsz]; simpa [strFits] using hstr
            have hv : ∀ o st len, x = .view o st len → ys.length = len := by
              rintro o st len rfl; simpa [viewFits] using hview
            obtain ⟨vals, s1, s2, s3, s4, s5⟩ := src_ok (P := P) (sz := i.size) hw hx hsrc (by rw [← hsz]; exact all_len hall) hpos hv
            have f1 := s3 w (fun _ => rfl) ys.length (Nat.le_refl _)
            have f2 := s3 w.drew (fun _ => rfl) ys.length (Nat.le_refl _)
            rw [← s2, List.take_length] at f1 f2
            exact ⟨vals, ⟨htd, hu, hi, ⟨zv, hizero, hzcells⟩, by rw [← hby]; exact hb0, s1, s2, f1, f2⟩, s4, s5⟩
          split at hr
          · -- a slice that may be extended
            rename_i nn es tk
            split at hr
            · rename_i n sz hg
              split at hr
              · rename_i hszy
                subst hszy
                unfold appTok at hr
                split at hr
                · rename_i hpure
                  obtain ⟨cs, hq, rfl⟩ := Option.map_eq_some_iff.1 hr
                  obtain ⟨h1, h2, h3⟩ := req_ok hq hc
                  subst h1
                  obtain ⟨vals, A, hrow, hp⟩ := mk h3
                  have := app_tok (ty := ty) (cs := cs) hw A hs (by rw [← hsz]; exact hg) (hp hpure) (by rw [← hby]; exact h2)
                  rw [← hsz] at this
                  exact this
                · obtain ⟨cs, hq, rfl⟩ := Option.map_eq_some_iff.1 hr
                  obtain ⟨h1, h2, h3, h4⟩ := req_ok hq hc
                  subst h1
                  obtain ⟨vals, A, hrow, _⟩ := mk h3
                  obtain ⟨hp, hpl⟩ := strip_ok h4 hrow (by simpa using A.hlen)
                  rw [← hpl] at A h2
                  have := app_tok (ty := ty) (cs := cs) hw A hs (by rw [← hsz]; exact hg) hp (by rw [← hby]; exact h2)
                  rw [← hsz, hpl] at this
                  have he : (purStrip ys).isEmpty = ys.isEmpty := by cases ys <;> simp [purStrip]
                  rw [he] at this
                  exact this
              · cases hr
            · cases hr
          · -- nil
            unfold appNil at hr
            split at hr
            · obtain ⟨cs, hq, rfl⟩ := Option.map_eq_some_iff.1 hr
              obtain ⟨h1, h2, h3⟩ := req_ok hq hc
              obtain ⟨vals, A, hrow, _⟩ := mk h2
              have := app_nil_row (ty := ty) (cs := cs) hw hf A hs h3 hrow (by rw [← hby]; exact h1)
              rw [← hsz] at this
              exact this
            · split at hr
              · rename_i hpure
                obtain ⟨cs, hq, rfl⟩ := Option.map_eq_some_iff.1 hr
                obtain ⟨h1, h2⟩ := req_ok hq hc
                obtain ⟨vals, A, hrow, hp⟩ := mk h2
                have := app_nil (ty := ty) (cs := cs) hw hf A hs (hp hpure) (by rw [← hby]; exact h1)
                rw [← hsz] at this
                exact this
              · obtain ⟨cs, hq, rfl⟩ := Option.map_eq_some_iff.1 hr
                obtain ⟨h1, h2, h3⟩ := req_ok hq hc
                obtain ⟨vals, A, hrow, _⟩ := mk h2
                obtain ⟨hp, hpl⟩ := strip_ok h3 hrow (by simpa using A.hlen)
                rw [← hpl] at A h1
                have := app_nil (ty := ty) (cs := cs) hw hf A hs hp (by rw [← hby]; exact h1)
                rw [← hsz, hpl] at this
                have he : (purStrip ys).isEmpty = ys.isEmpty := by cases ys <;> simp [purStrip]
                rw [he] at this
                exact this
          · -- a row
            rename_i o st len
            split at hr
            · rename_i sz es ho
              split at hr
              · rename_i hszy
                subst hszy
                have hin : ∀ h r, appIn y o st len es ys h = some r → (∀ c ∈ r.cs, c) → GoodV P (Builtin.append_ #[t, u] ty #[vs, vx]) I w μ H r := by
                  intro h r hr hc
                  obtain ⟨cs, hq, rfl⟩ := Option.map_eq_some_iff.1 hr
                  obtain ⟨h1, h2, h3⟩ := req_ok hq hc
                  obtain ⟨vals, A, hrow, _⟩ := mk h2
                  have := app_in (ty := ty) (cs := cs) hw A hs (by rw [← hsz]; exact ho) h3 hrow (by rw [← hsz]; exact all_len h2) h1 (row_ones hrow A.hlen)
                  rw [← hsz] at this
                  exact this
                have hout : ∀ h r, appOut y o st len es ys f h = some r → (∀ c ∈ r.cs, c) → GoodV P (Builtin.append_ #[t, u] ty #[vs, vx]) I w μ H r := by
                  intro h r hr hc
                  obtain ⟨cs, hq, rfl⟩ := Option.map_eq_some_iff.1 hr
                  obtain ⟨h1, h2, h3, h4, h5⟩ := req_ok hq hc
                  subst h1
                  obtain ⟨vals, A, hrow, _⟩ := mk h5
                  have := app_out (ty := ty) (cs := cs) hw hf A hs (by rw [← hsz]; exact ho) (by omega) h3 hrow (row_ones hrow A.hlen) (by rw [← hby]; exact h4)
                  rw [← hsz] at this
                  exact this
                have hend : ∀ h r, appEnd y o st len es ys f h = some r → (∀ c ∈ r.cs, c) → GoodV P (Builtin.append_ #[t, u] ty #[vs, vx]) I w μ H r := by
                  intro h r hr hc
                  obtain ⟨cs, hq, rfl⟩ := Option.map_eq_some_iff.1 hr
                  obtain ⟨h1, h2, h3, h4, h5⟩ := req_ok hq hc
                  subst h1
                  obtain ⟨vals, A, hrow, _⟩ := mk h5
                  have := app_out (ty := ty) (cs := cs) hw hf A hs (by rw [← hsz]; exact ho) (by omega) (by omega) hrow (row_ones hrow A.hlen) (by rw [← hby]; exact h4)
                  rw [← hsz, List.take_of_length_le (by omega)] at this
                  exact this
                have hany : ∀ h r, appAny y o st len es ys f h = some r → (∀ c ∈ r.cs, c) → GoodV P (Builtin.append_ #[t, u] ty #[vs, vx]) I w μ H r := by
                  intro h r hr hc
                  obtain ⟨cs, hq, rfl⟩ := Option.map_eq_some_iff.1 hr
                  obtain ⟨h1, h2, h3, h4, h5⟩ := req_ok hq hc
                  subst h1
                  obtain ⟨vals, A, hrow, _⟩ := mk h5
                  have := app_out (ty := ty) (cs := cs) hw hf A hs (by rw [← hsz]; exact ho) h2 h3 hrow (row_ones hrow A.hlen) (by rw [← hby]; exact h4)
                  rw [← hsz] at this
                  exact this
                split at hr
                · exact hin _ r0 hr hc
                · exact hout _ r0 hr hc
                · exact hend _ r0 hr hc
                · exact hany _ r0 hr hc
                · split at hr
                  · split at hr
                    · exact hin _ r0 hr hc
                    · exact hout _ r0 hr hc
                  · cases hr
              · cases hr
            · cases hr
          · cases hr
        · cases hr
      · cases hr
    · cases hr
  · cases hr

end
end Go.Proofs.Ytifpbdhggooelaa.GD
