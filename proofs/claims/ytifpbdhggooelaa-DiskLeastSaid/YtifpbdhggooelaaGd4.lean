/- One operation on data is what the machine does: reading and writing. -/
import Derived.Test.YtifpbdhggooelaaGd3
import Derived.Laws.Cells
namespace Go.Proofs.Ytifpbdhggooelaa.GD
open Go
set_option linter.unusedVariables false
set_option linter.unusedSimpArgs false

variable {P : Program} {T : Tys}

def TOk (P : Program) (T : Tys) : Prop := ∀ t y, T t = some y → tyOf P t = some y

theorem ty_of (hT : TOk P T) {t : TypeId} {y : Ty} (h : T t = some y) :
    ∃ i d, P.info? t = some i ∧ P.underlying t = some d ∧ y.k = tkOf d ∧ y.size = i.size ∧ y.bytes = i.bytes ∧
      y.zero = (match i.zero with | some z => ofVs z | none => .undef) := by
  have := hT t y h
  unfold tyOf at this
  split at this
  · rename_i i d hi hd
    obtain rfl := Option.some.inj this
    exact ⟨i, d, hi, hd, rfl, rfl, rfl, rfl⟩
  · cases this

def Good (P : Program) (s : Sem Next) (I : Im) (w : World) (μ : List Loc) (H : Heap) (r : SR) : Prop :=
  ∃ nx v I' w' μ', s.run P w = .ok nx w' ∧ (nx = .value v ∨ (nx = .skip ∧ v = Go.undef)) ∧ Ext μ.length I w μ H I' w' μ' (applyWr H r.wr) ∧
    WOk I' w' μ' (applyWr H r.wr) ∧ Rep I' w' μ' r.v v

section
variable {I : Im} {w : World} {μ : List Loc} {H : Heap}

theorem good_pure {s : Sem Next} {v : Value} {r : SR} (hw : WOk I w μ H) (hr : s.run P w = .ok (.value v) w) (h0 : r.wr = []) (hv : Rep I w μ r.v v) : Good P s I w μ H r :=
  ⟨_, v, I, w, μ, hr, .inl rfl, by rw [h0]; exact Ext.refl .., by rw [h0]; exact hw, hv⟩

/-! ### what a datum's value is -/
theorem rep_bool {b : Bool} {v : Value} (h : Rep I w μ (.bool b) v) : v = .bool b := by
  cases h with | pure h => cases h; rfl
theorem rep_int {k : IntKind} {n : Int} {v : Value} (h : Rep I w μ (.int k n) v) : v = .int k n := by
  cases h with | pure h => cases h; rfl
theorem rep_str {s : ByteArray} {v : Value} (h : Rep I w μ (.str s) v) : v = .string s := by
  cases h with | pure h => cases h; rfl
theorem rep_pnil {v : Value} (h : Rep I w μ .pnil v) : v = .pointer none := by
  cases h with | pure h => cases h; rfl
theorem rep_fnil {v : Value} (h : Rep I w μ .fnil v) : v = .nilFunc := by
  cases h with | pure h => cases h; rfl
theorem rep_inil {v : Value} (h : Rep I w μ .inil v) : v = .nilIface := by
  cases h with | pure h => cases h; rfl
theorem rep_non {v : Value} (h : Rep I w μ .non v) : v = Go.undef := by
  cases h with | pure h => cases h; rfl
theorem rep_mnil {v : Value} (h : Rep I w μ .mnil v) : v = .map none := by
  cases h with | pure h => cases h; rfl
theorem rep_agg {ds : List D} {v : Value} (h : Rep I w μ (.agg ds) v) :
    ∃ vs, v = .agg vs ∧ ds.length = vs.size ∧ ∀ (i : Nat) d u, ds[i]? = some d → vs[i]? = some u → Rep I w μ d u := by
  cases h with
  | pure h => cases h with | agg _ vs hl h => exact ⟨vs, rfl, hl, fun i d u a b => .pure (h i d u a b)⟩
  | agg _ vs hl h => exact ⟨vs, rfl, hl, h⟩
theorem rep_tuple {ds : List D} {v : Value} (h : Rep I w μ (.tuple ds) v) :
    ∃ vs, v = .tuple vs ∧ ds.length = vs.size ∧ ∀ (i : Nat) d u, ds[i]? = some d → vs[i]? = some u → Rep I w μ d u := by
  cases h with
  | pure h => cases h with | tuple _ vs hl h => exact ⟨vs, rfl, hl, fun i d u a b => .pure (h i d u a b)⟩
  | tuple _ vs hl h => exact ⟨vs, rfl, hl, h⟩
theorem rep_ptr {o i off : Nat} {v : Value} (h : Rep I w μ (.ptr o i off) v) : ∃ m, μ[o]? = some m ∧ m.fx = true ∧ v = .pointer (some ⟨m.b, i * m.sz + off, none⟩) := by
  cases h with
  | pure h => cases h
  | ptr _ _ _ m hm hx => exact ⟨m, hm, hx, rfl⟩
theorem rep_sptr {cs : List D} {v : Value} (h : Rep I w μ (.sptr cs) v) :
    ∃ (a : Addr) (f : Nat → Value), v = .pointer (some a) ∧ (∀ j, j < cs.length → I (a.add j).block (a.add j).off ∧ w.cell? (a.add j) = some (f j)) ∧
      (∀ (j : Nat) d, cs[j]? = some d → RepP I w d (f j)) := by
  cases h with | pure h => cases h with | sptr _ a f h1 h2 => exact ⟨a, f, rfl, h1, h2⟩
theorem rep_slice {nn : Bool} {es : List (List D)} {tok : Option Nat} {v : Value} (h : Rep I w μ (.slice nn es tok) v) :
    (nn = false ∧ es = [] ∧ v = .slice none 0 0) ∨ (nn = true ∧ ∃ a cap, v = .slice (some a) es.length cap ∧ RepP I w (.slice true es none) (.slice (some a) es.length cap)) := by
  cases h with
  | pure h =>
    cases h with
    | sliceN => exact .inl ⟨rfl, rfl, rfl⟩
    | slice _ a cap sz f h1 h2 h3 h4 => exact .inr ⟨rfl, a, cap, rfl, .slice _ a cap sz f h1 h2 h3 h4⟩
  | tokN => exact .inl ⟨rfl, rfl, rfl⟩
  | tok _ a cap t m hm hst hat hp hsz => exact .inr ⟨rfl, a, cap, rfl, hp⟩
theorem repP_slice {es : List (List D)} {a : Addr} {n cap : Nat} (h : RepP I w (.slice true es none) (.slice (some a) n cap)) :
    n = es.length ∧ es.length ≤ cap ∧ ∃ (sz : Nat) (f : Nat → Nat → Value), (∀ (i : Nat) c, es[i]? = some c → c.length = sz) ∧
      (∀ i j, i < es.length → j < sz → I (a.add (i * sz + j)).block (a.add (i * sz + j)).off ∧ w.cell? (a.add (i * sz + j)) = some (f i j) ∧ (f i j).oneCell' = true) ∧
      (∀ (i j : Nat) (c : List D) d, es[i]? = some c → c[j]? = some d → RepP I w d (f i j)) := by
  cases h with | slice _ _ _ sz f h1 h2 h3 h4 => exact ⟨rfl, h1, sz, f, h2, h3, h4⟩
theorem rep_view {o st len : Nat} {v : Value} (h : Rep I w μ (.view o st len) v) :
    ∃ m a, μ[o]? = some m ∧ m.fx = true ∧ st + len ≤ m.cap ∧ (st < m.cap → a = ⟨m.b, st * m.sz, none⟩) ∧ v = .slice (some a) len (m.cap - st) := by
  cases h with
  | pure h => cases h
  | view _ _ _ m a hm hx hle ha => exact ⟨m, a, hm, hx, hle, ha, rfl⟩
theorem rep_func {fn : Fn} {ds es : List D} {v : Value} (h : Rep I w μ (.func fn ds es) v) :
    ∃ vs us, v = .func fn vs us ∧ ds.length = vs.size ∧ es.length = us.size ∧ (∀ (i : Nat) d u, ds[i]? = some d → vs[i]? = some u → Rep I w μ d u) ∧
      (∀ (i : Nat) d u, es[i]? = some d → us[i]? = some u → Rep I w μ d u) := by
  cases h with
  | pure h => cases h with | func _ _ _ vs us hl hm h h' => exact ⟨vs, us, rfl, hl, hm, fun i d u a b => .pure (h i d u a b), fun i d u a b => .pure (h' i d u a b)⟩
  | func _ _ _ vs us hl hm h h' => exact ⟨vs, us, rfl, hl, hm, h, h'⟩
theorem rep_iface {t : TypeId} {d : D} {v : Value} (h : Rep I w μ (.iface t d) v) : ∃ u, v = .iface t u ∧ Rep I w μ d u := by
  cases h with
  | pure h => cases h with | iface _ _ u h => exact ⟨u, rfl, .pure h⟩
  | iface _ _ u h => exact ⟨u, rfl, h⟩

theorem rep_ofV (v : Value) : RepP I w (ofV v) v := by
  unfold ofV
  split <;> first | exact .bool _ | exact .int _ _ | exact .str _ | exact .pnil | exact .sliceN | exact .fnil | exact .inil | exact .mnil | exact .undef _

theorem rep_ofVs (v : Value) : RepP I w (ofVs v) v := by
  unfold ofVs
  split
  · rename_i vs
    refine .agg _ _ (by simp) (fun i d u hd hu => ?_)
    have : vs.toList[i]? = some u := by simpa using hu
    rw [List.getElem?_map, this] at hd
    obtain rfl := Option.some.inj hd
    exact rep_ofV u
  · exact rep_ofV _

theorem one_cell {d : D} {v : Value} (h : Rep I w μ d v) (ho : d.one = true) : v.oneCell' = true := by
  cases h with
  | pure h => cases h <;> first | rfl | cases ho
  | agg => cases ho
  | tuple => cases ho
  | _ => rfl

/-- The cells of a datum are those of its value. -/
theorem cells_of {d : D} {v : Value} {cs : List D} (h : Rep I w μ d v) (hc : cellsOf d = some cs) :
    cs.length = v.cells.size ∧ (∀ c ∈ cs, D.one c = true) ∧ ∀ (i : Nat) c u, cs[i]? = some c → v.cells[i]? = some u → Rep I w μ c u := by
  by_cases ha : ∃ ds, d = .agg ds
  · obtain ⟨ds, rfl⟩ := ha
    obtain ⟨vs, rfl, hl, hr⟩ := rep_agg h
    by_cases hall : ds.all D.one = true
    · simp only [cellsOf, if_pos hall, Option.some.injEq] at hc
      subst hc
      exact ⟨hl, by simpa using hall, hr⟩
    · simp [cellsOf, hall] at hc
  · have hone : d.one = true ∧ cs = [d] := by
      cases d <;> first | exact absurd ⟨_, rfl⟩ ha | (simp [cellsOf] at hc; done) | (simp only [cellsOf, Option.some.injEq] at hc; exact ⟨rfl, hc.symm⟩)
    obtain ⟨ho, rfl⟩ := hone
    have hv : v.cells = #[v] := by
      have := one_cell h ho
      cases v <;> first | rfl | (simp [Value.oneCell'] at this)
    rw [hv]
    refine ⟨rfl, by simpa using ho, fun i c u a b => ?_⟩
    cases i with
    | zero => simp at a b; subst a; subst b; exact h
    | succ i => simp at a

theorem ones {cs : List D} {vs : List Value} (hl : cs.length = vs.length) (h : ∀ c ∈ cs, D.one c = true)
    (hr : ∀ (i : Nat) c u, cs[i]? = some c → vs[i]? = some u → Rep I w μ c u) : ∀ v ∈ vs, v.oneCell' = true := by
  intro v hv
  obtain ⟨i, hi, rfl⟩ := List.getElem_of_mem hv
  have h1 : cs[i]? = some (cs[i]'(by omega)) := List.getElem?_eq_getElem _
  exact one_cell (hr i _ _ h1 (List.getElem?_eq_getElem hi)) (h _ (List.getElem_mem _))

/-! ### purity -/
mutual
theorem pur_ok : ∀ {d d' : D} {v : Value}, pur d = some d' → Rep I w μ d v → RepP I w d' v
  | .undef, d', v, h, hr => by simp only [pur, Option.some.injEq] at h; subst h; exact .undef v
  | .bool b, d', v, h, hr => by simp only [pur, Option.some.injEq] at h; subst h; rw [rep_bool hr]; exact .bool b
  | .int k n, d', v, h, hr => by simp only [pur, Option.some.injEq] at h; subst h; rw [rep_int hr]; exact .int k n
  | .str s, d', v, h, hr => by simp only [pur, Option.some.injEq] at h; subst h; rw [rep_str hr]; exact .str s
  | .pnil, d', v, h, hr => by simp only [pur, Option.some.injEq] at h; subst h; rw [rep_pnil hr]; exact .pnil
  | .sptr cs, d', v, h, hr => by
    simp only [pur, Option.some.injEq] at h; subst h
    obtain ⟨a, f, rfl, h1, h2⟩ := rep_sptr hr
    exact .sptr cs a f h1 h2
  | .fnil, d', v, h, hr => by simp only [pur, Option.some.injEq] at h; subst h; rw [rep_fnil hr]; exact .fnil
  | .inil, d', v, h, hr => by simp only [pur, Option.some.injEq] at h; subst h; rw [rep_inil hr]; exact .inil
  | .non, d', v, h, hr => by simp only [pur, Option.some.injEq] at h; subst h; rw [rep_non hr]; exact .non
  | .mnil, d', v, h, hr => by simp only [pur, Option.some.injEq] at h; subst h; rw [rep_mnil hr]; exact .mnil
  | .slice nn es tok, d', v, h, hr => by
    simp only [pur, Option.some.injEq] at h; subst h
    rcases rep_slice hr with ⟨rfl, rfl, rfl⟩ | ⟨rfl, a, cap, rfl, hp⟩
    · exact .sliceN
    · exact hp
  | .ptr _ _ _, _, _, h, _ => by simp [pur] at h
  | .view _ _ _, _, _, h, _ => by simp [pur] at h
  | .mapp _, _, _, h, _ => by simp [pur] at h
  | .iter _, _, _, h, _ => by simp [pur] at h
  | .agg cs, d', v, h, hr => by
    obtain ⟨vs, rfl, hl, hc⟩ := rep_agg hr
    simp only [pur] at h
    split at h
    · rename_i l hp
      obtain rfl := Option.some.inj h
      obtain ⟨h1, h2⟩ := purs_ok (vs := vs.toList) hp (by simpa using hl) (fun i d u a b => hc i d u a (by simpa using b))
      exact .agg l vs (by simpa using h1) (fun i d u a b => h2 i d u a (by simpa using b))
    · cases h
  | .tuple cs, d', v, h, hr => by
    obtain ⟨vs, rfl, hl, hc⟩ := rep_tuple hr
    simp only [pur] at h
    split at h
    · rename_i l hp
      obtain rfl := Option.some.inj h
      obtain ⟨h1, h2⟩ := purs_ok (vs := vs.toList) hp (by simpa using hl) (fun i d u a b => hc i d u a (by simpa using b))
      exact .tuple l vs (by simpa using h1) (fun i d u a b => h2 i d u a (by simpa using b))
    · cases h
  | .func fn as bs, d', v, h, hr => by
    obtain ⟨vs, us, rfl, hl, hm, hc, hd⟩ := rep_func hr
    simp only [pur] at h
    split at h
    · rename_i x y hx hy
      obtain rfl := Option.some.inj h
      obtain ⟨h1, h2⟩ := purs_ok (vs := vs.toList) hx (by simpa using hl) (fun i d u a b => hc i d u a (by simpa using b))
      obtain ⟨k1, k2⟩ := purs_ok (vs := us.toList) hy (by simpa using hm) (fun i d u a b => hd i d u a (by simpa using b))
      exact .func fn x y vs us (by simpa using h1) (by simpa using k1) (fun i d u a b => h2 i d u a (by simpa using b)) (fun i d u a b => k2 i d u a (by simpa using b))
    · cases h
  | .iface t x, d', v, h, hr => by
    obtain ⟨u, rfl, hu⟩ := rep_iface hr
    simp only [pur] at h
    split at h
    · rename_i y hy
      obtain rfl := Option.some.inj h
      exact .iface t y u (pur_ok hy hu)
    · cases h
theorem purs_ok : ∀ {ds ds' : List D} {vs : List Value}, purs ds = some ds' → ds.length = vs.length →
    (∀ (i : Nat) d u, ds[i]? = some d → vs[i]? = some u → Rep I w μ d u) →
    ds'.length = vs.length ∧ (∀ (i : Nat) d u, ds'[i]? = some d → vs[i]? = some u → RepP I w d u)
  | [], ds', vs, h, hl, hr => by
    simp only [purs, Option.some.injEq] at h; subst h
    exact ⟨hl, fun i d u a _ => by simp at a⟩
  | d :: r, ds', vs, h, hl, hr => by
    simp only [purs] at h
    split at h
    · rename_i x y hx hy
      obtain rfl := Option.some.inj h
      cases vs with
      | nil => simp at hl
      | cons v vs =>
        have h0 := pur_ok hx (hr 0 d v rfl rfl)
        obtain ⟨h1, h2⟩ := purs_ok (vs := vs) hy (by simpa using hl) (fun i d u a b => hr (i + 1) d u a b)
        refine ⟨by simpa using h1, fun i e u a b => ?_⟩
        cases i with
        | zero => simp at a b; subst a; subst b; exact h0
        | succ i => exact h2 i e u a b
    · cases h
end

end
end Go.Proofs.Ytifpbdhggooelaa.GD
