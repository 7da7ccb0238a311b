/- One operation on data is what the machine does: loads, indexes, cuts, lengths, conversions. -/
import Derived.Test.YtifpbdhggooelaaGd6
namespace Go.Proofs.Ytifpbdhggooelaa.GD
open Go
set_option linter.unusedVariables false
set_option linter.unusedSimpArgs false

variable {P : Program} {T : Tys}
section
variable {I : Im} {w : World} {μ : List Loc} {H : Heap}

theorem run_load_cell {a : Addr} {v : Value} (h : w.cell? a = some v) : (load a).run P w = .ok v w := by simp [h]

/-- Loading a variable whose cells read. -/
theorem load_ok {t : TypeId} {y : Ty} {cs : List D} {a : Addr} {d : D} {f : Nat → Value} (hT : TOk P T) (hy : T t = some y) (hp : pickCells y cs = some d)
    (hc : ∀ j, j < cs.length → w.cell? (a.add j) = some (f j)) (hr : ∀ (j : Nat) c, cs[j]? = some c → Rep I w μ c (f j)) :
    ∃ v, (loadVar t a).run P w = .ok v w ∧ Rep I w μ d v := by
  obtain ⟨i, td, hi, hd, hk, hsz, _⟩ := ty_of hT hy
  unfold pickCells at hp
  split at hp
  · rename_i hagg
    split at hp
    · rename_i hle
      obtain rfl := Option.some.inj hp
      have hl := run_loadCells (P := P) w a i.size f (fun j hj => hc j (by omega))
      refine ⟨.agg ((List.range i.size).map f).toArray, by simp [loadVar, isAgg_run hT hy w, hagg, run_sizeOf hi w, hl], .agg _ _ (by simp; omega) (fun j c u h1 h2 => ?_)⟩
      rw [List.getElem?_take] at h1
      split at h1
      · have h2' : ((List.range i.size).map f)[j]? = some u := by simpa using h2
        rw [List.getElem?_map] at h2'
        obtain ⟨n, hn, rfl⟩ := Option.map_eq_some_iff.1 h2'
        have hj := (List.getElem?_eq_some_iff.1 hn).2
        simp at hj
        subst hj
        exact hr j c h1
      · cases h1
    · cases hp
  · rename_i hagg
    split at hp
    · rename_i c rest
      obtain rfl := Option.some.inj hp
      have h0 := hc 0 (by simp)
      have ha : a.add 0 = a := by simp [Addr.add]
      rw [ha] at h0
      refine ⟨f 0, ?_, hr 0 c rfl⟩
      have hagg' : y.k.isAgg = false := by simpa using hagg
      simp [loadVar, isAgg_run hT hy w, hagg', h0]
    · cases hp

theorem load_spec {t : TypeId} {a : D} {v : Value} {h : Hint} {r : SR} (hT : TOk P T) (hw : WOk I w μ H) (ha : Rep I w μ a v)
    (hr : loadF T t a (hget H) h = some r) (hc : ∀ c ∈ r.cs, c) : ∃ ad u, v = .pointer (some ad) ∧ (loadVar t ad).run P w = .ok u w ∧ Rep I w μ r.v u ∧ r.wr = [] := by
  unfold loadF at hr
  split at hr
  · cases hr
  · rename_i y hy
    split at hr
    · rename_i cs
      obtain ⟨d, hp, rfl⟩ := Option.map_eq_some_iff.1 hr
      obtain ⟨ad, f, rfl, h1, h2⟩ := rep_sptr ha
      obtain ⟨u, hu, hR⟩ := load_ok (I := I) (μ := μ) (a := ad) hT hy hp (fun j hj => (h1 j hj).2) (fun j c hc => .pure (h2 j c hc))
      exact ⟨_, u, rfl, hu, hR, rfl⟩
    · rename_i o i off
      obtain ⟨m, hm, _, rfl⟩ := rep_ptr ha
      split at hr
      · rename_i _ es ho
        obtain ⟨⟨c, p⟩, hg, hr⟩ := Option.bind_eq_some_iff.1 hr
        obtain ⟨d, hp, rfl⟩ := Option.map_eq_some_iff.1 hr
        have hci := row_get hg hc
        obtain ⟨m', em, hok⟩ := hw.obj o _ ho
        rw [hm] at em
        obtain rfl := Option.some.inj em
        obtain ⟨_, _, hle, cc, E, fr, hb, hs, hl, hrep, hfree⟩ := hok
        have key : ∀ (j : Nat) e, c[off + j]? = some e → w.cell? ((⟨m.b, i * m.sz + off, none⟩ : Addr).add j) = some (cc.getD (i * m.sz + (off + j)) Go.undef) ∧
            Rep I w μ e (cc.getD (i * m.sz + (off + j)) Go.undef) := by
          intro j e he
          obtain ⟨u, hu, hR, _⟩ := hrep i (off + j) c e hci he
          rw [add_lit]
          have : cc.getD (i * m.sz + (off + j)) Go.undef = u := by simp [Array.getD_eq_getD_getElem?, hu]
          rw [this]
          refine ⟨?_, hR⟩
          simp only [World.cell?, hb]
          simpa [Nat.add_assoc] using hu
        obtain ⟨u, hu, hR⟩ := load_ok (I := I) (μ := μ) (w := w) (a := ⟨m.b, i * m.sz + off, none⟩) (f := fun j => cc.getD (i * m.sz + (off + j)) Go.undef) hT hy hp
          (fun j hj => by
            simp at hj
            exact (key j _ (List.getElem?_eq_getElem (by omega))).1)
          (fun j e he => by
            rw [List.getElem?_drop] at he
            exact (key j e he).2)
        exact ⟨_, u, rfl, hu, hR, rfl⟩
      · rename_i _ es ho
        obtain ⟨⟨c, p⟩, hg, hr⟩ := Option.bind_eq_some_iff.1 hr
        obtain ⟨d, hp, rfl⟩ := Option.map_eq_some_iff.1 hr
        have hci := row_get hg hc
        obtain ⟨m', em, hok⟩ := hw.obj o _ ho
        rw [hm] at em
        obtain rfl := Option.some.inj em
        obtain ⟨_, _, hl, hrep⟩ := hok
        have key : ∀ (j : Nat) e, c[off + j]? = some e → ∃ u, w.cell? ((⟨m.b, i * m.sz + off, none⟩ : Addr).add j) = some u ∧ Rep I w μ e u := by
          intro j e he
          obtain ⟨_, u, hu, hR⟩ := hrep i (off + j) c e hci he
          exact ⟨u, by rw [add_lit, Nat.add_assoc]; exact hu, .pure hR⟩
        obtain ⟨u, hu, hR⟩ := load_ok (I := I) (μ := μ) (w := w) (a := ⟨m.b, i * m.sz + off, none⟩)
            (f := fun j => (w.cell? ((⟨m.b, i * m.sz + off, none⟩ : Addr).add j)).getD Go.undef) hT hy hp
          (fun j hj => by
            simp at hj
            obtain ⟨u, hu, _⟩ := key j _ (List.getElem?_eq_getElem (by omega))
            rw [hu]; rfl)
          (fun j e he => by
            rw [List.getElem?_drop] at he
            obtain ⟨u, hu, hR⟩ := key j e he
            rw [hu]; exact hR)
        exact ⟨_, u, rfl, hu, hR, rfl⟩
      · cases hr
    · cases hr

theorem good_load {t : TypeId} {a : D} {v : Value} {h : Hint} {r : SR} (hT : TOk P T) (hw : WOk I w μ H) (ha : Rep I w μ a v)
    (hr : loadF T t a (hget H) h = some r) (hc : ∀ c ∈ r.cs, c) : GoodV P (Instr.loadAt t v) I w μ H r := by
  obtain ⟨ad, u, rfl, hu, hR, h0⟩ := load_spec hT hw ha hr hc
  exact goodV_same hw (by simp [Instr.loadAt, Instr.sureAddr, hu]) h0 hR

theorem load_sym {t : TypeId} {a : D} {g : Nat → Option HObj} {r : SR} (hr : loadF T t a g .sym = some r) : r.cs = [] := by
  unfold loadF at hr
  have hrow : ∀ {es : List (List D)} {i : Nat} {c : List D} {p : List Prop}, rowGet .sym es i = some (c, p) → p = [] := by
    intro es i c p h
    unfold rowGet at h
    split at h
    · rename_i hh; cases hh
    · split at h
      · simp only [Option.some.injEq, Prod.mk.injEq] at h; exact h.2.symm
      · cases h
  split at hr
  · cases hr
  · split at hr
    · obtain ⟨d, _, rfl⟩ := Option.map_eq_some_iff.1 hr; rfl
    · split at hr
      · obtain ⟨⟨c, p⟩, hg, hr⟩ := Option.bind_eq_some_iff.1 hr
        obtain ⟨d, _, rfl⟩ := Option.map_eq_some_iff.1 hr; exact hrow hg
      · obtain ⟨⟨c, p⟩, hg, hr⟩ := Option.bind_eq_some_iff.1 hr
        obtain ⟨d, _, rfl⟩ := Option.map_eq_some_iff.1 hr; exact hrow hg
      · cases hr
    · cases hr

theorem chunks_get {sz : Nat} : ∀ {n : Nat} {cs : List D} {i : Nat} {c : List D}, (chunks sz cs n)[i]? = some c → c = (cs.drop (i * sz)).take sz
  | 0, cs, i, c, h => by simp [chunks] at h
  | n + 1, cs, i, c, h => by
    cases i with
    | zero => simp [chunks] at h; simp [h]
    | succ i =>
      simp only [chunks, List.getElem?_cons_succ] at h
      have := chunks_get h
      rw [this, List.drop_drop, Nat.succ_mul, Nat.add_comm]

theorem chunks_len {sz : Nat} : ∀ {n : Nat} {cs : List D}, (chunks sz cs n).length = n
  | 0, cs => rfl
  | n + 1, cs => by simp [chunks, chunks_len]

theorem good_indexAddr {t : TypeId} {x ix : D} {vx vi : Value} {h : Hint} {r : SR} (hT : TOk P T) (hw : WOk I w μ H) (hx : Rep I w μ x vx) (hi : Rep I w μ ix vi)
    (hr : indexAddrF T t x ix (hget H) h = some r) (hc : ∀ c ∈ r.cs, c) : GoodV P (Instr.indexAt t vx vi) I w μ H r := by
  unfold indexAddrF at hr
  split at hr
  · rename_i y k i hy
    obtain ⟨ti, td, hti, htd, hk, _⟩ := ty_of hT hy
    obtain rfl := rep_int hi
    have hu := run_underlying htd w
    split at hr
    · rename_i n e o i0 off hyk
      rw [hyk] at hk
      obtain rfl := tk_array hk
      obtain ⟨z, hz, hr⟩ := Option.bind_eq_some_iff.1 hr
      obtain ⟨cs, hq, rfl⟩ := Option.map_eq_some_iff.1 hr
      obtain ⟨zi, _, hzi, _, _, hzs, _⟩ := ty_of hT hz
      have hb := req_ok hq hc
      obtain ⟨m, hm, hf, rfl⟩ := rep_ptr hx
      refine goodV_same (v := .pointer (some ⟨m.b, i0 * m.sz + (off + i.toNat * z.size), none⟩)) hw ?_ rfl (.ptr o i0 _ m hm hf)
      simp [Instr.indexAt, asIntOf, hu, Instr.sureAddr, hb, run_sizeOf hzi w, add_lit, hzs, Nat.add_assoc]
    · rename_i n e cs0 hyk
      rw [hyk] at hk
      obtain rfl := tk_array hk
      obtain ⟨z, hz, hr⟩ := Option.bind_eq_some_iff.1 hr
      obtain ⟨cs, hq, hr⟩ := Option.map_eq_some_iff.1 hr
      obtain ⟨zi, _, hzi, _, _, hzs, _⟩ := ty_of hT hz
      obtain ⟨a, f, rfl, h1, h2⟩ := rep_sptr hx
      have hrun : (0 ≤ i ∧ i < (n : Int)) → (Instr.indexAt t (.pointer (some a)) (.int k i)).run P w = .ok (.pointer (some (a.add (i.toNat * z.size)))) w := by
        intro hb
        simp [Instr.indexAt, asIntOf, hu, Instr.sureAddr, hb, run_sizeOf hzi w, hzs]
      split at hr
      · rename_i cells
        subst hr
        have hb := req_ok hq (fun c hc' => hc c (List.mem_append_left _ hc'))
        have hk := hc _ (List.mem_append_right _ (List.mem_singleton.2 rfl))
        have hk' := chunks_get hk
        have hd := repP_drop (i.toNat * z.size) h1 h2
        refine goodV_same (v := .pointer (some (a.add (i.toNat * z.size)))) hw (hrun hb) rfl (.pure ?_)
        obtain ⟨a', f', e, g1, g2⟩ := rep_sptr (I := I) (w := w) (μ := μ) (.pure hd)
        cases e
        subst hk'
        refine .sptr _ _ f' (fun j hj => g1 j ?_) (fun j d hd => g2 j d ?_)
        · rw [List.length_take] at hj; omega
        · rw [List.getElem?_take] at hd; split at hd
          · exact hd
          · cases hd
      · subst hr
        have hb := req_ok hq hc
        exact goodV_same (v := .pointer (some (a.add (i.toNat * z.size)))) hw (hrun hb) rfl (.pure (repP_drop _ h1 h2))
    · rename_i e nn es tok hyk
      rw [hyk] at hk
      obtain rfl := tk_slice hk
      obtain ⟨z, hz, hr⟩ := Option.bind_eq_some_iff.1 hr
      obtain ⟨cs, hq, hr⟩ := Option.bind_eq_some_iff.1 hr
      obtain ⟨⟨c, p⟩, hg, hr⟩ := Option.bind_eq_some_iff.1 hr
      obtain ⟨zi, _, hzi, _, _, hzs, _⟩ := ty_of hT hz
      dsimp only at hr
      split at hr
      · rename_i hlen
        obtain rfl := Option.some.inj hr
        have hb := req_ok hq (fun c hc' => hc c (List.mem_append_left _ hc'))
        have hgc := row_get hg (fun c hc' => hc c (List.mem_append_right _ hc'))
        rcases rep_slice hx with ⟨_, rfl, _⟩ | ⟨_, a, cap, rfl, hp⟩
        · simp at hgc
        · obtain ⟨_, hcap, sz, f, hsz, h1, h2⟩ := repP_slice hp
          have hs : sz = z.size := by rw [← hlen]; exact (hsz _ _ hgc).symm
          subst hs
          have hlt : i.toNat < es.length := (List.getElem?_eq_some_iff.1 hgc).1
          refine goodV_same (v := .pointer (some (a.add (i.toNat * z.size)))) hw ?_ rfl (.pure (.sptr _ _ (fun j => f i.toNat j) (fun j hj => ?_) (fun j d hd => ?_)))
          · have : i < (es.length : Int) := by omega
            simp [Instr.indexAt, asIntOf, hu, hb, this, run_sizeOf hzi w, hzs]
          · rw [addr_add]; exact ⟨(h1 _ _ hlt (by omega)).1, (h1 _ _ hlt (by omega)).2.1⟩
          · exact h2 _ _ _ _ hgc hd
      · cases hr
    · rename_i e o st len hyk
      rw [hyk] at hk
      obtain rfl := tk_slice hk
      obtain ⟨z, hz, hr⟩ := Option.bind_eq_some_iff.1 hr
      obtain ⟨zi, _, hzi, _, _, hzs, _⟩ := ty_of hT hz
      split at hr
      · rename_i sz es ho
        split at hr
        · rename_i hszz
          obtain ⟨cs, hq, rfl⟩ := Option.map_eq_some_iff.1 hr
          have hb := req_ok hq hc
          obtain ⟨m, a, hm, hf, hle, ha, rfl⟩ := rep_view hx
          obtain ⟨m', em, hok⟩ := hw.obj o _ ho
          rw [hm] at em
          obtain rfl := Option.some.inj em
          have hsz : m.sz = z.size := hok.2.1.trans hszz
          have hst : st < m.cap := by omega
          obtain rfl := ha hst
          refine goodV_same (v := .pointer (some ⟨m.b, st * m.sz + i.toNat * z.size, none⟩)) hw ?_ rfl ?_
          · have hi2 : i < (len : Int) := hb.2
            simp [Instr.indexAt, asIntOf, hu, hb.1, hi2, run_sizeOf hzi w, add_lit, hzs]
          · have := Rep.ptr (I := I) (w := w) o (st + i.toNat) 0 m hm hf
            rwa [show (st + i.toNat) * m.sz + 0 = st * m.sz + i.toNat * z.size by rw [hsz, Nat.add_mul]; rfl] at this
        · cases hr
      · cases hr
    · cases hr
  · cases hr

theorem good_index {t : TypeId} {x ix : D} {vx vi : Value} {h : Hint} {r : SR} (hT : TOk P T) (hw : WOk I w μ H) (hx : Rep I w μ x vx) (hi : Rep I w μ ix vi)
    (hr : indexF T t x ix h = some r) (hc : ∀ c ∈ r.cs, c) : GoodV P (Instr.index t vx vi) I w μ H r := by
  unfold indexF at hr
  split at hr
  · rename_i y k i hy
    obtain ⟨ti, td, hti, htd, hk, _⟩ := ty_of hT hy
    obtain rfl := rep_int hi
    have hu := run_underlying htd w
    split at hr
    · rename_i n e cs0 hyk
      rw [hyk] at hk
      obtain rfl := tk_array hk
      obtain ⟨z, hz, hr⟩ := Option.bind_eq_some_iff.1 hr
      obtain ⟨cs, hq, hr⟩ := Option.bind_eq_some_iff.1 hr
      obtain ⟨d, hp, rfl⟩ := Option.map_eq_some_iff.1 hr
      obtain ⟨zi, _, hzi, _, _, hzs, _⟩ := ty_of hT hz
      have hb := req_ok hq hc
      obtain ⟨vs, rfl, hl, hrep⟩ := rep_agg hx
      obtain ⟨u, hu', hR⟩ := part_ok hT hz hl hrep hp
      exact goodV_same hw (by simp [Instr.index, asIntOf, hu, hb, run_sizeOf hzi w, ← hzs, hu']) rfl hR
    · rename_i s hyk
      rw [hyk] at hk
      obtain rfl := tk_str hk
      obtain ⟨cs, hq, rfl⟩ := Option.map_eq_some_iff.1 hr
      have hb := req_ok hq hc
      obtain rfl := rep_str hx
      have hlt : i.toNat < s.size := by omega
      refine good_int hw ?_
      have : s[i.toNat]? = some (s.data.getD i.toNat 0) := by
        have h2 : i.toNat < s.data.size := hlt
        rw [getElem?_pos s i.toNat hlt]
        congr 1
        show s[i.toNat] = if h : i.toNat < s.data.size then s.data[i.toNat] else 0
        rw [dif_pos h2]
        rfl
      simp [Instr.index, asIntOf, hu, hb.1, this]
    · cases hr
  · cases hr

theorem good_len {t ty : TypeId} {ts : Array TypeId} {args : Array Value} {x : D} {v : Value} {r : SR} (hT : TOk P T) (hw : WOk I w μ H) (ht : ts[0]? = some t) (hv : args[0]? = some v)
    (hx : Rep I w μ x v) (hr : lenF T t x = some r) : GoodV P (Builtin.len_ ts ty args) I w μ H r := by
  unfold lenF at hr
  split at hr
  · rename_i y hy
    obtain ⟨ti, td, hti, htd, hk, _⟩ := ty_of hT hy
    have hu := run_underlying htd w
    split at hr
    · rename_i s hyk
      rw [hyk] at hk; obtain rfl := tk_str hk
      obtain rfl := Option.some.inj hr; obtain rfl := rep_str hx
      exact good_int hw (by simp [Builtin.len_, ht, hv, hu, goInt])
    · rename_i n e hyk
      rw [hyk] at hk; obtain rfl := tk_array hk
      obtain rfl := Option.some.inj hr
      exact good_int hw (by simp [Builtin.len_, ht, hv, hu, goInt])
    · rename_i e nn es tok hyk
      rw [hyk] at hk; obtain rfl := tk_slice hk
      obtain rfl := Option.some.inj hr
      rcases rep_slice hx with ⟨_, rfl, rfl⟩ | ⟨_, a, cap, rfl, _⟩
      · exact good_int hw (by simp [Builtin.len_, ht, hv, hu, goInt])
      · exact good_int hw (by simp [Builtin.len_, ht, hv, hu, goInt])
    · rename_i e o st len hyk
      rw [hyk] at hk; obtain rfl := tk_slice hk
      obtain rfl := Option.some.inj hr
      obtain ⟨m, a, _, _, _, _, rfl⟩ := rep_view hx
      exact good_int hw (by simp [Builtin.len_, ht, hv, hu, goInt])
    · cases hr
  · cases hr

theorem fold_ok {f : D → D → Option D} {g : Value → Value → Sem Value} (hfg : ∀ a b c va vb, f a b = some c → Rep I w μ a va → Rep I w μ b vb → ∃ vc, (g va vb).run P w = .ok vc w ∧ Rep I w μ c vc) :
    ∀ (l : List D) (vs : List Value) (d e : D) (v : Value), foldD f d l = some e → Rep I w μ d v → l.length = vs.length →
      (∀ (i : Nat) x u, l[i]? = some x → vs[i]? = some u → Rep I w μ x u) → ∃ u, (vs.foldlM g v).run P w = .ok u w ∧ Rep I w μ e u
  | [], vs, d, e, v, h, hd, hl, hr => by
    have : vs = [] := List.eq_nil_of_length_eq_zero hl.symm
    subst this
    simp only [foldD, Option.some.injEq] at h
    subst h
    exact ⟨v, by simp, hd⟩
  | x :: l, vs, d, e, v, h, hd, hl, hr => by
    cases vs with
    | nil => simp at hl
    | cons u vs =>
      simp only [foldD] at h
      split at h
      · rename_i c hc
        obtain ⟨vc, h1, h2⟩ := hfg d x c v u hc hd (hr 0 x u rfl rfl)
        obtain ⟨z, h3, h4⟩ := fold_ok hfg l vs c e vc h h2 (by simpa using hl) (fun i y t a b => hr (i + 1) y t a b)
        exact ⟨z, by simp [List.foldlM_cons, h1, h3], h4⟩
      · cases h

theorem min_ok {a b c : D} {va vb : Value} (h : minD a b = some c) (ha : Rep I w μ a va) (hb : Rep I w μ b vb) : ∃ vc, (Builtin.min2 va vb).run P w = .ok vc w ∧ Rep I w μ c vc := by
  unfold minD at h
  split at h
  · obtain rfl := Option.some.inj h; obtain rfl := rep_int ha; obtain rfl := rep_int hb
    exact ⟨_, rfl, .pure (.int _ _)⟩
  · cases h
theorem max_ok {a b c : D} {va vb : Value} (h : maxD a b = some c) (ha : Rep I w μ a va) (hb : Rep I w μ b vb) : ∃ vc, (Builtin.max2 va vb).run P w = .ok vc w ∧ Rep I w μ c vc := by
  unfold maxD at h
  split at h
  · obtain rfl := Option.some.inj h; obtain rfl := rep_int ha; obtain rfl := rep_int hb
    exact ⟨_, rfl, .pure (.int _ _)⟩
  · cases h

/-! ### strings and slices cut -/
def bM (v : Option Value) (m : Nat) (code : BoundsCode) (dflt : Sem Nat) : Sem Nat :=
  match v with
  | some v => Instr.sliceBound v m code
  | none => dflt

theorem bound_ok {x : Option D} {v : Option Value} {n : Nat} {b : Int} (code : BoundsCode) (hx : ∀ d, x = some d → ∃ u, v = some u ∧ Rep I w μ d u) (hn : x = none → v = none)
    (hb : boundD x n = some b) (m : Nat) (h0 : 0 ≤ b) (hm : b ≤ m) : (bM v m code (pure n)).run P w = .ok b.toNat w := by
  cases x with
  | none =>
    obtain rfl := hn rfl
    simp only [boundD, Option.some.injEq] at hb
    subst hb
    simp [bM]
  | some d =>
    obtain ⟨u, rfl, hR⟩ := hx d rfl
    cases d <;> simp only [boundD, Option.some.injEq, reduceCtorEq] at hb
    subst hb
    obtain rfl := rep_int hR
    simp [bM, Instr.sliceBound, asIntOf, h0, hm]

theorem bounds_ok {isSlice : Bool} {len cap : Nat} {lo hi : Option D} {vlo vhi : Option Value} {a b : Int}
    (h1 : ∀ d, lo = some d → ∃ u, vlo = some u ∧ Rep I w μ d u) (n1 : lo = none → vlo = none)
    (h2 : ∀ d, hi = some d → ∃ u, vhi = some u ∧ Rep I w μ d u) (n2 : hi = none → vhi = none)
    (hb : boundD hi len = some b) (ha : boundD lo (0 : Nat) = some a) (h0 : 0 ≤ a) (hab : a ≤ b) (hbc : b ≤ cap) :
    (Instr.sliceBounds isSlice len cap vlo vhi none).run P w = .ok (a.toNat, b.toNat, cap) w := by
  have hH := fun code : BoundsCode => bound_ok (P := P) code h2 n2 hb cap (by omega) hbc
  have hL := fun code : BoundsCode => bound_ok (P := P) code h1 n1 ha b.toNat h0 (by omega)
  have e : Instr.sliceBounds isSlice len cap vlo vhi none = (do
      let h ← bM vhi cap (if isSlice then .sliceAcap else .sliceAlen) (pure len)
      let l ← bM vlo h .sliceB (pure 0)
      pure (l, h, cap)) := by
    cases vhi <;> cases vlo <;> simp [Instr.sliceBounds, bM]
  rw [e]
  simp [hH, hL]

/-- A part of what is immutable. -/
theorem repP_part {es : List (List D)} {a : Addr} {cap sz : Nat} (hp : RepP I w (.slice true es none) (.slice (some a) es.length cap)) (lo hi : Nat) (hlo : lo ≤ hi) (hhi : hi ≤ es.length)
    (hs : lo = 0 ∨ es.all (fun c => c.length == sz) = true) :
    RepP I w (.slice true ((es.take hi).drop lo) none) (.slice (some (if cap = lo then a else a.add (lo * sz))) (hi - lo) (cap - lo)) := by
  obtain ⟨_, hcap, s, f, hsz, h1, h2⟩ := repP_slice hp
  have hlen : ((es.take hi).drop lo).length = hi - lo := by simp; omega
  have hget : ∀ (i : Nat) c, ((es.take hi).drop lo)[i]? = some c → es[lo + i]? = some c ∧ lo + i < hi := by
    intro i c h
    rw [List.getElem?_drop, List.getElem?_take] at h
    split at h
    · rename_i hlt; exact ⟨h, hlt⟩
    · cases h
  have hadr : ∀ i j, i < hi - lo → j < s → (if cap = lo then a else a.add (lo * sz)).add (i * s + j) = a.add ((lo + i) * s + j) := by
    intro i j hi' hj
    rw [if_neg (by omega), addr_add]
    congr 1
    have : lo * sz = lo * s := by
      rcases hs with rfl | hs
      · simp
      · have hlt : lo < es.length := by omega
        have e1 := hsz lo _ (List.getElem?_eq_getElem hlt)
        have e2 := List.all_eq_true.1 hs _ (List.getElem_mem hlt)
        simp at e2
        rw [← e1, ← e2]
    rw [this, Nat.add_mul]; omega
  have := RepP.slice (I := I) (w := w) ((es.take hi).drop lo) (if cap = lo then a else a.add (lo * sz)) (cap - lo) s (fun i j => f (lo + i) j) (by omega)
    (fun i c h => hsz _ _ (hget i c h).1)
    (fun i j hi' hj => by rw [hlen] at hi'; rw [hadr i j hi' hj]; exact h1 (lo + i) j (by omega) hj)
    (fun i j c d h h' => h2 _ _ _ _ (hget i c h).1 h')
  rwa [hlen] at this

theorem good_slice {t : TypeId} {x : D} {vx : Value} {lo hi mx : Option D} {vlo vhi vmx : Option Value} {h : Hint} {r : SR} (hT : TOk P T) (hw : WOk I w μ H) (hx : Rep I w μ x vx)
    (h1 : ∀ d, lo = some d → ∃ u, vlo = some u ∧ Rep I w μ d u) (n1 : lo = none → vlo = none)
    (h2 : ∀ d, hi = some d → ∃ u, vhi = some u ∧ Rep I w μ d u) (n2 : hi = none → vhi = none) (n3 : mx = none → vmx = none)
    (hr : sliceF T t x lo hi mx (hget H) h = some r) (hc : ∀ c ∈ r.cs, c) : GoodV P (Instr.sliceAt t vx vlo vhi vmx) I w μ H r := by
  unfold sliceF at hr
  split at hr
  · rename_i y hy
    obtain rfl := n3 rfl
    obtain ⟨ti, td, hti, htd, hk, _⟩ := ty_of hT hy
    have hu := run_underlying htd w
    split at hr
    · -- a string
      rename_i s hyk
      rw [hyk] at hk; obtain rfl := tk_str hk
      obtain ⟨b, hb, hr⟩ := Option.bind_eq_some_iff.1 hr
      obtain ⟨a, ha, hr⟩ := Option.bind_eq_some_iff.1 hr
      obtain ⟨cs, hq, rfl⟩ := Option.map_eq_some_iff.1 hr
      have hB := req_ok hq hc
      obtain rfl := rep_str hx
      have hbd := bounds_ok (P := P) (isSlice := false) (cap := s.size) h1 n1 h2 n2 hb ha hB.1 hB.2.1 hB.2.2
      exact good_str hw (by simp [Instr.sliceAt, hu, Instr.slice, hbd])
    · -- a slice
      rename_i e nn es tok hyk
      rw [hyk] at hk; obtain rfl := tk_slice hk
      obtain ⟨z, hz, hr⟩ := Option.bind_eq_some_iff.1 hr
      obtain ⟨zi, _, hzi, _, _, hzs, _⟩ := ty_of hT hz
      split at hr
      · -- whole
        obtain rfl := Option.some.inj hr
        obtain rfl := n1 rfl
        obtain rfl := n2 rfl
        refine goodV_same hw ?_ rfl hx
        rcases rep_slice hx with ⟨rfl, rfl, rfl⟩ | ⟨rfl, ad, cap, rfl, hp⟩ <;> simp [Instr.sliceAt, hu, Instr.slice, Instr.sliceBounds, run_sizeOf hzi w, Addr.add]
      · -- up to
        rename_i kb b _
        obtain ⟨cs, hq, rfl⟩ := Option.map_eq_some_iff.1 hr
        have hB := req_ok hq hc
        rcases rep_slice hx with ⟨rfl, rfl, rfl⟩ | ⟨rfl, ad, cap, rfl, hp⟩
        · have hbd : (Instr.sliceBounds true 0 0 vlo vhi none).run P w = .ok ((0 : Int).toNat, b.toNat, 0) w := bounds_ok (P := P) h1 n1 h2 n2 rfl rfl (by omega) hB.1 (by have := hB.2; simp at this ⊢; omega)
          have e2 : b.toNat = 0 := by have := hB.2; simp at this; omega
          refine goodV_same (v := .slice none 0 0) hw ?_ rfl (.pure ?_)
          · simp [Instr.sliceAt, hu, Instr.slice, hbd, run_sizeOf hzi w, e2]
          · simpa using RepP.sliceN
        · have hcap := (repP_slice hp).2.1
          have hbd : (Instr.sliceBounds true es.length cap vlo vhi none).run P w = .ok ((0 : Int).toNat, b.toNat, cap) w := bounds_ok (P := P) h1 n1 h2 n2 rfl rfl (by omega) hB.1 (by have := hB.2; omega)
          have hpp := repP_part hp 0 b.toNat (by omega) (by have := hB.2; omega) (sz := z.size) (.inl rfl)
          have e0 : (if cap = 0 then ad else ad.add (0 * z.size)) = ad := by simp [Addr.add]
          rw [e0, List.drop_zero] at hpp
          refine goodV_same (v := _) hw ?_ rfl (.pure hpp)
          simp [Instr.sliceAt, hu, Instr.slice, hbd, run_sizeOf hzi w, Addr.add]
      · -- from
        rename_i ka a _
        obtain ⟨b, hb, hr⟩ := Option.bind_eq_some_iff.1 hr
        obtain ⟨cs, hq, rfl⟩ := Option.map_eq_some_iff.1 hr
        have hB := req_ok hq hc
        rcases rep_slice hx with ⟨rfl, rfl, rfl⟩ | ⟨rfl, ad, cap, rfl, hp⟩
        · have hbd : (Instr.sliceBounds true 0 0 vlo vhi none).run P w = .ok (a.toNat, b.toNat, 0) w := bounds_ok (P := P) h1 n1 h2 n2 hb rfl hB.1 hB.2.1 (by have := hB.2.2.1; simp at this ⊢; omega)
          have e1 : a.toNat = 0 := by have := hB.2.2.1; simp at this; omega
          have e2 : b.toNat = 0 := by have := hB.2.2.1; simp at this; omega
          refine goodV_same (v := .slice none 0 0) hw ?_ rfl (.pure ?_)
          · simp [Instr.sliceAt, hu, Instr.slice, hbd, run_sizeOf hzi w, e1, e2]
          · simpa using RepP.sliceN
        · have hcap := (repP_slice hp).2.1
          have hbd : (Instr.sliceBounds true es.length cap vlo vhi none).run P w = .ok (a.toNat, b.toNat, cap) w := bounds_ok (P := P) h1 n1 h2 n2 hb rfl hB.1 hB.2.1 (by have := hB.2.2.1; omega)
          have hpp := repP_part hp a.toNat b.toNat (by omega) (by have := hB.2.2.1; omega) (sz := z.size) (.inr hB.2.2.2)
          refine goodV_same (v := _) hw ?_ rfl (.pure hpp)
          simp [Instr.sliceAt, hu, Instr.slice, hbd, run_sizeOf hzi w, ← hzs]
          split <;> simp_all
      · cases hr
    · -- a view
      rename_i e o st len hyk
      rw [hyk] at hk; obtain rfl := tk_slice hk
      split at hr
      · rename_i sz es z ho hz
        split at hr
        · rename_i hszz
          obtain ⟨b, hb, hr⟩ := Option.bind_eq_some_iff.1 hr
          obtain ⟨a, ha', hr⟩ := Option.bind_eq_some_iff.1 hr
          obtain ⟨cs, hq, rfl⟩ := Option.map_eq_some_iff.1 hr
          have hB := req_ok hq hc
          obtain ⟨zi, _, hzi, _, _, hzs, _⟩ := ty_of hT hz
          obtain ⟨m, ad, hm, hf, hle, had, rfl⟩ := rep_view hx
          obtain ⟨m', em, hok⟩ := hw.obj o _ ho
          rw [hm] at em
          obtain rfl := Option.some.inj em
          have hcap := hok.2.2.1
          have h0 : m.sz = z.size := hok.2.1.trans hszz
          have hbd : (Instr.sliceBounds true len (m.cap - st) vlo vhi none).run P w = .ok (a.toNat, b.toNat, m.cap - st) w := bounds_ok (P := P) h1 n1 h2 n2 hb ha' hB.1 hB.2.1 (by have := hB.2.2; omega)
          refine goodV_same (v := .slice (some (if m.cap - st = a.toNat then ad else ad.add (a.toNat * z.size))) (b.toNat - a.toNat) (m.cap - st - a.toNat)) hw ?_ rfl ?_
          · simp [Instr.sliceAt, hu, Instr.slice, hbd, run_sizeOf hzi w, ← hzs]
            split <;> simp_all
          · have e1 : (b - a).toNat = b.toNat - a.toNat := by omega
            have e2 : m.cap - st - a.toNat = m.cap - (st + a.toNat) := by omega
            rw [e2]
            refine e1 ▸ Rep.view (I := I) (w := w) o (st + a.toNat) (b - a).toNat m _ hm hf (by have := hB.2.2; omega) (fun hlt => ?_)
            rw [if_neg (by omega), had (by omega), add_lit]
            rw [h0, Nat.add_mul]
        · cases hr
      · cases hr
    · -- an array that stays
      rename_i n e cs0 hyk
      rw [hyk] at hk; obtain rfl := tk_array hk
      split at hr
      · obtain ⟨z, hz, hr⟩ := Option.bind_eq_some_iff.1 hr
        split at hr
        · rename_i hcond
          obtain ⟨hone, hlen⟩ := hcond
          obtain rfl := Option.some.inj hr
          obtain rfl := n1 rfl
          obtain rfl := n2 rfl
          obtain ⟨zi, _, hzi, _, _, hzs, _⟩ := ty_of hT hz
          obtain ⟨a, f, rfl, h1', h2'⟩ := rep_sptr hx
          have hlt : ∀ i j, i < n → j < z.size → i * z.size + j < cs0.length := by
            intro i j hi hj
            have : i * z.size + z.size ≤ n * z.size := by rw [← Nat.succ_mul]; exact Nat.mul_le_mul_right _ hi
            omega
          refine goodV_same (v := .slice (some a) n n) hw ?_ rfl (.pure ?_)
          · simp [Instr.sliceAt, hu, Instr.sureAddr, Instr.sliceBounds, run_sizeOf hzi w, Addr.add]
          · have := RepP.slice (I := I) (w := w) (chunks z.size cs0 n) a n z.size (fun i j => f (i * z.size + j)) (by rw [chunks_len]; exact Nat.le_refl _)
              (fun i c hc' => by
                have hi : i < n := by have := (List.getElem?_eq_some_iff.1 hc').1; rwa [chunks_len] at this
                rw [chunks_get hc', List.length_take, List.length_drop]
                have : i * z.size + z.size ≤ n * z.size := by rw [← Nat.succ_mul]; exact Nat.mul_le_mul_right _ hi
                omega)
              (fun i j hi hj => by
                rw [chunks_len] at hi
                have hl := hlt i j hi hj
                obtain ⟨g1, g2⟩ := h1' _ hl
                have hd : cs0[i * z.size + j]? = some cs0[i * z.size + j] := List.getElem?_eq_getElem hl
                exact ⟨g1, g2, one_cell (.pure (h2' _ _ hd) : Rep I w μ _ _) (List.all_eq_true.1 hone _ (List.getElem_mem hl))⟩)
              (fun i j c d hc' hd => by
                rw [chunks_get hc', List.getElem?_take] at hd
                split at hd
                · rw [List.getElem?_drop] at hd; exact h2' _ _ hd
                · cases hd)
            rwa [chunks_len] at this
        · cases hr
      · cases hr
    · cases hr
  · cases hr

end
end Go.Proofs.Ytifpbdhggooelaa.GD
