/- Data of Go programs without memory, and how a machine's value reads as such a datum: definitions and first lemmas. -/
import Derived.Test.YtifpbdhggooelaaGd0
namespace Go.Proofs.Ytifpbdhggooelaa.GD
open Go
set_option linter.unusedVariables false
set_option linter.unusedSimpArgs false

abbrev Im := Nat → Nat → Prop

/-- Data that name no object of the call's own: they read the same as long as the cells in 'I' stay. -/
inductive RepP (I : Im) (w : World) : D → Value → Prop
  | undef (v : Value) : RepP I w .undef v
  | non : RepP I w .non Go.undef
  | bool (b : Bool) : RepP I w (.bool b) (.bool b)
  | int (k : IntKind) (n : Int) : RepP I w (.int k n) (.int k n)
  | str (s : ByteArray) : RepP I w (.str s) (.string s)
  | agg (ds : List D) (vs : Array Value) (hl : ds.length = vs.size)
      (h : ∀ (i : Nat) d v, ds[i]? = some d → vs[i]? = some v → RepP I w d v) : RepP I w (.agg ds) (.agg vs)
  | tuple (ds : List D) (vs : Array Value) (hl : ds.length = vs.size)
      (h : ∀ (i : Nat) d v, ds[i]? = some d → vs[i]? = some v → RepP I w d v) : RepP I w (.tuple ds) (.tuple vs)
  | pnil : RepP I w .pnil (.pointer none)
  | sptr (cs : List D) (a : Addr) (f : Nat → Value)
      (h1 : ∀ j, j < cs.length → I (a.add j).block (a.add j).off ∧ w.cell? (a.add j) = some (f j))
      (h2 : ∀ (j : Nat) d, cs[j]? = some d → RepP I w d (f j)) : RepP I w (.sptr cs) (.pointer (some a))
  | sliceN : RepP I w (.slice false [] none) (.slice none 0 0)
  | slice (es : List (List D)) (a : Addr) (cap sz : Nat) (f : Nat → Nat → Value) (hcap : es.length ≤ cap)
      (hsz : ∀ (i : Nat) c, es[i]? = some c → c.length = sz)
      (h1 : ∀ i j, i < es.length → j < sz → I (a.add (i * sz + j)).block (a.add (i * sz + j)).off ∧ w.cell? (a.add (i * sz + j)) = some (f i j) ∧ (f i j).oneCell' = true)
      (h2 : ∀ (i j : Nat) (c : List D) d, es[i]? = some c → c[j]? = some d → RepP I w d (f i j)) :
      RepP I w (.slice true es none) (.slice (some a) es.length cap)
  | func (fn : Fn) (ds es : List D) (vs us : Array Value) (hl : ds.length = vs.size) (hm : es.length = us.size)
      (h : ∀ (i : Nat) d v, ds[i]? = some d → vs[i]? = some v → RepP I w d v)
      (h' : ∀ (i : Nat) d v, es[i]? = some d → us[i]? = some v → RepP I w d v) : RepP I w (.func fn ds es) (.func fn vs us)
  | fnil : RepP I w .fnil .nilFunc
  | iface (t : TypeId) (d : D) (v : Value) (h : RepP I w d v) : RepP I w (.iface t d) (.iface t v)
  | inil : RepP I w .inil .nilIface
  | mnil : RepP I w .mnil (.map none)

/-- Where an object lies: its block, the cells of an element, how many elements there is room for, a stamp, and whether it stays. -/
structure Loc where
  b : Nat
  sz : Nat
  cap : Nat
  st : Nat
  fx : Bool

/-- The general reading: pointers into objects, slices that may be extended. -/
inductive Rep (I : Im) (w : World) (μ : List Loc) : D → Value → Prop
  | pure {d : D} {v : Value} (h : RepP I w d v) : Rep I w μ d v
  | agg (ds : List D) (vs : Array Value) (hl : ds.length = vs.size)
      (h : ∀ (i : Nat) d v, ds[i]? = some d → vs[i]? = some v → Rep I w μ d v) : Rep I w μ (.agg ds) (.agg vs)
  | tuple (ds : List D) (vs : Array Value) (hl : ds.length = vs.size)
      (h : ∀ (i : Nat) d v, ds[i]? = some d → vs[i]? = some v → Rep I w μ d v) : Rep I w μ (.tuple ds) (.tuple vs)
  | ptr (o i off : Nat) (m : Loc) (hm : μ[o]? = some m) (hx : m.fx = true) : Rep I w μ (.ptr o i off) (.pointer (some ⟨m.b, i * m.sz + off, none⟩))
  | tokN (t : Nat) (m : Loc) (hm : μ[t]? = some m) (h1 : 1 ≤ m.st) (h0 : m.st = 1 → m.cap = 0) :
      Rep I w μ (.slice false [] (some t)) (.slice none 0 0)
  | tok (es : List (List D)) (a : Addr) (cap t : Nat) (m : Loc) (hm : μ[t]? = some m) (hst : es.length + 1 ≤ m.st)
      (hat : m.st = es.length + 1 → m.cap = cap ∧ (0 < cap → a = ⟨m.b, 0, none⟩))
      (hp : RepP I w (.slice true es none) (.slice (some a) es.length cap))
      (hsz : ∀ (i : Nat) c, es[i]? = some c → c.length = m.sz) :
      Rep I w μ (.slice true es (some t)) (.slice (some a) es.length cap)
  | view (o st len : Nat) (m : Loc) (a : Addr) (hm : μ[o]? = some m) (hx : m.fx = true) (hle : st + len ≤ m.cap) (ha : st < m.cap → a = ⟨m.b, st * m.sz, none⟩) :
      Rep I w μ (.view o st len) (.slice (some a) len (m.cap - st))
  | func (fn : Fn) (ds es : List D) (vs us : Array Value) (hl : ds.length = vs.size) (hm : es.length = us.size)
      (h : ∀ (i : Nat) d v, ds[i]? = some d → vs[i]? = some v → Rep I w μ d v)
      (h' : ∀ (i : Nat) d v, es[i]? = some d → us[i]? = some v → Rep I w μ d v) : Rep I w μ (.func fn ds es) (.func fn vs us)
  | iface (t : TypeId) (d : D) (v : Value) (h : Rep I w μ d v) : Rep I w μ (.iface t d) (.iface t v)
  | mapp (o : Nat) (m : Loc) (hm : μ[o]? = some m) (hx : m.fx = true) : Rep I w μ (.mapp o) (.map (some m.b))
  | iter (o : Nat) (m : Loc) (hm : μ[o]? = some m) (hx : m.fx = true) : Rep I w μ (.iter o) (.pointer (some ⟨m.b, 0, none⟩))

/-- What lies in the small heap. -/
inductive HObj where
  | row (sz : Nat) (es : List (List D))
  | fro (sz : Nat) (es : List (List D))
  | tok (n sz : Nat)
  | sit (s : ByteArray) (pos : Nat)
  | mp (k : IntKind) (ks : List Int) (vs : List D)
  | dead

abbrev Heap := List (Option HObj)

def hget (H : Heap) (o : Nat) : Option HObj := H.getD o none

/-- Does an object lie in a block that may be written? -/
def HObj.owns (m : Loc) : HObj → Bool
  | .row _ _ => true
  | .fro _ _ => false
  | .tok _ _ => 0 < m.cap
  | .sit _ _ => true
  | .mp _ _ _ => true
  | .dead => false

def ObjOk (I : Im) (w : World) (μ : List Loc) (m : Loc) : HObj → Prop
  | .row sz es => (m.fx = true ∧ 1 ≤ m.st) ∧ m.sz = sz ∧ es.length ≤ m.cap ∧ ∃ c E fr, w.heap[m.b]? = some (.cells c E fr) ∧ c.size = m.cap * m.sz ∧
      (∀ (i : Nat) cs, es[i]? = some cs → cs.length = m.sz) ∧
      (∀ (i j : Nat) (cs : List D) d, es[i]? = some cs → cs[j]? = some d → ∃ v, c[i * m.sz + j]? = some v ∧ Rep I w μ d v ∧ v.oneCell' = true) ∧
      (∀ k, k < m.cap * m.sz → ¬ I m.b k ∧ w.frozen? ⟨m.b, k, none⟩ = false)
  | .fro sz es => m.fx = true ∧ m.sz = sz ∧
      (∀ (i : Nat) cs, es[i]? = some cs → cs.length = m.sz) ∧
      (∀ (i j : Nat) (cs : List D) d, es[i]? = some cs → cs[j]? = some d → I m.b (i * m.sz + j) ∧ ∃ v, w.cell? ⟨m.b, i * m.sz + j, none⟩ = some v ∧ RepP I w d v)
  | .tok n sz => m.fx = false ∧ m.sz = sz ∧ m.st = n + 1 ∧ n ≤ m.cap ∧ (0 < m.cap → ∃ c E fr, w.heap[m.b]? = some (.cells c E fr) ∧ c.size = m.cap * m.sz ∧
      (∀ k, n * m.sz ≤ k → k < m.cap * m.sz → ¬ I m.b k ∧ w.frozen? ⟨m.b, k, none⟩ = false))
  | .sit s pos => m.fx = true ∧ w.heap[m.b]? = some (.stringIter s pos)
  | .mp k ks vs => m.fx = true ∧ vs.length ≤ ks.length ∧ ∃ E clock, w.heap[m.b]? = some (.map E clock) ∧ E.size = ks.length ∧
      (∀ (i : Nat) a, ks[i]? = some a → ∃ x, E[i]? = some x ∧ x.key = .int k a) ∧ (∀ (i : Nat) d, vs[i]? = some d → ∃ x, E[ks.length - vs.length + i]? = some x ∧ Rep I w μ d x.val)
  | .dead => True

structure WOk (I : Im) (w : World) (μ : List Loc) (H : Heap) : Prop where
  len : μ.length = H.length
  obj : ∀ o x, hget H o = some x → ∃ m, μ[o]? = some m ∧ ObjOk I w μ m x
  inj : ∀ o o' x x' m m', o ≠ o' → hget H o = some x → hget H o' = some x' → μ[o]? = some m → μ[o']? = some m' →
    x.owns m = true → x'.owns m' = true → m.b ≠ m'.b
  imm : ∀ b k, I b k → b < w.heap.size
  dum : ∀ o m, hget H o = none → μ[o]? = some m → m.st = 0 ∧ m.fx = false
  glb : ∀ g, RepP I w (glT g) (.pointer (some ⟨g, 0, none⟩))

/-- The blocks that may be written. -/
def Own (H : Heap) (μ : List Loc) (b : Nat) : Prop := ∃ o x m, hget H o = some x ∧ μ[o]? = some m ∧ x.owns m = true ∧ m.b = b

/-- How memory goes on: what is immutable stays; objects below 'n' stay where they are; only what may be written is written. -/
structure Ext (n : Nat) (I : Im) (w : World) (μ : List Loc) (H : Heap) (I' : Im) (w' : World) (μ' : List Loc) (H' : Heap) : Prop where
  imm : ∀ b k, I b k → I' b k ∧ w'.cell? ⟨b, k, none⟩ = w.cell? ⟨b, k, none⟩
  mu : ∀ (o : Nat) m, o < n → μ[o]? = some m → ∃ m', μ'[o]? = some m' ∧ m.st ≤ m'.st ∧ (1 ≤ m.st ∧ m'.st = m.st ∨ m.fx = true → m' = m) ∧ (1 ≤ m.st → m'.sz = m.sz)
  size : w.heap.size ≤ w'.heap.size
  own : ∀ b, Own H' μ' b → Own H μ b ∨ w.heap.size ≤ b
  frame : ∀ b, b < w.heap.size → ¬ Own H μ b → w'.heap[b]? = w.heap[b]?
  os : w'.os = w.os
  tape : w'.tape = w.tape
  output : w'.output = w.output
  imr : ∀ b k, I' b k → I b k ∨ Own H μ b ∨ w.heap.size ≤ b

theorem Ext.refl (n : Nat) (I : Im) (w : World) (μ : List Loc) (H : Heap) : Ext n I w μ H I w μ H :=
  ⟨fun _ _ h => ⟨h, rfl⟩, fun _ m _ h => ⟨m, h, Nat.le_refl _, fun _ => rfl, fun _ => rfl⟩, Nat.le_refl _, fun _ h => .inl h, fun _ _ _ => rfl, rfl, rfl, rfl, fun _ _ h => .inl h⟩

theorem Ext.trans {n n' : Nat} {I I1 I2 : Im} {w w1 w2 : World} {μ μ1 μ2 : List Loc} {H H1 H2 : Heap} (h : Ext n I w μ H I1 w1 μ1 H1)
    (k : Ext n' I1 w1 μ1 H1 I2 w2 μ2 H2) (hn : n ≤ n') : Ext n I w μ H I2 w2 μ2 H2 where
  imm b o hi := by
    obtain ⟨h1, h2⟩ := h.imm b o hi
    obtain ⟨k1, k2⟩ := k.imm b o h1
    exact ⟨k1, k2.trans h2⟩
  mu o m ho hm := by
    obtain ⟨m1, e1, l1, q1, z1⟩ := h.mu o m ho hm
    obtain ⟨m2, e2, l2, q2, z2⟩ := k.mu o m1 (by omega) e1
    refine ⟨m2, e2, by omega, fun hst => ?_, fun h1 => (z2 (by omega)).trans (z1 h1)⟩
    have h1 : 1 ≤ m.st ∧ m1.st = m.st ∨ m.fx = true := by
      rcases hst with h | h
      · exact .inl (by omega)
      · exact .inr h
    have := q1 h1
    subst this
    exact q2 hst
  size := Nat.le_trans h.size k.size
  own b hb := by
    rcases k.own b hb with h1 | h1
    · exact h.own b h1
    · exact .inr (Nat.le_trans h.size h1)
  frame b hb hn' := by
    rw [k.frame b (Nat.lt_of_lt_of_le hb h.size) ?_, h.frame b hb hn']
    intro h1
    rcases h.own b h1 with h2 | h2
    · exact hn' h2
    · omega
  os := k.os.trans h.os
  tape := k.tape.trans h.tape
  output := k.output.trans h.output
  imr b o hb := by
    rcases k.imr b o hb with h1 | h1 | h1
    · exact h.imr b o h1
    · rcases h.own b h1 with h2 | h2
      · exact .inr (.inl h2)
      · exact .inr (.inr h2)
    · exact .inr (.inr (Nat.le_trans h.size h1))

theorem Ext.mono {n n' : Nat} {I I1 : Im} {w w1 : World} {μ μ1 : List Loc} {H H1 : Heap} (h : Ext n I w μ H I1 w1 μ1 H1) (hn : n' ≤ n) :
    Ext n' I w μ H I1 w1 μ1 H1 := ⟨h.imm, fun o m ho => h.mu o m (by omega), h.size, h.own, h.frame, h.os, h.tape, h.output, h.imr⟩

/-- What is immutable reads the same. -/
structure Keeps (I : Im) (w : World) (I' : Im) (w' : World) : Prop where
  imm : ∀ b k, I b k → I' b k ∧ w'.cell? ⟨b, k, none⟩ = w.cell? ⟨b, k, none⟩

theorem Ext.keeps {n : Nat} {I I1 : Im} {w w1 : World} {μ μ1 : List Loc} {H H1 : Heap} (h : Ext n I w μ H I1 w1 μ1 H1) : Keeps I w I1 w1 := ⟨h.imm⟩
theorem Keeps.refl (I : Im) (w : World) : Keeps I w I w := ⟨fun _ _ h => ⟨h, rfl⟩⟩

theorem cell?_spot {w : World} {a : Addr} {v : Value} (h : w.cell? a = some v) : a = ⟨a.block, a.off, none⟩ := by
  obtain ⟨b, k, s⟩ := a
  cases s with
  | none => rfl
  | some s =>
    exfalso
    simp only [World.cell?] at h
    split at h <;> simp at h

theorem Keeps.cell {I I' : Im} {w w' : World} (h : Keeps I w I' w') {a : Addr} {v : Value} (hi : I a.block a.off) (hc : w.cell? a = some v) :
    I' a.block a.off ∧ w'.cell? a = some v := by
  obtain ⟨h1, h2⟩ := h.imm _ _ hi
  refine ⟨h1, ?_⟩
  rw [← hc]
  have e := cell?_spot hc
  rw [e]
  exact h2

theorem RepP.keeps {I I' : Im} {w w' : World} (k : Keeps I w I' w') {d : D} {v : Value} (h : RepP I w d v) : RepP I' w' d v := by
  induction h with
  | undef v => exact .undef v
  | non => exact .non
  | bool b => exact .bool b
  | int k n => exact .int k n
  | str s => exact .str s
  | agg ds vs hl _ ih => exact .agg ds vs hl ih
  | tuple ds vs hl _ ih => exact .tuple ds vs hl ih
  | pnil => exact .pnil
  | sptr cs a f h1 _ ih => exact .sptr cs a f (fun j hj => k.cell (h1 j hj).1 (h1 j hj).2) ih
  | sliceN => exact .sliceN
  | slice es a cap sz f hcap hsz h1 _ ih => exact .slice es a cap sz f hcap hsz (fun i j hi hj => ⟨(k.cell (h1 i j hi hj).1 (h1 i j hi hj).2.1).1, (k.cell (h1 i j hi hj).1 (h1 i j hi hj).2.1).2, (h1 i j hi hj).2.2⟩) ih
  | func fn ds es vs us hl hm _ _ ih ih' => exact .func fn ds es vs us hl hm ih ih'
  | fnil => exact .fnil
  | iface t d v _ ih => exact .iface t d v ih
  | inil => exact .inil
  | mnil => exact .mnil

/-- How objects' places go on. -/
def MuExt (μ μ' : List Loc) : Prop := ∀ (o : Nat) m, μ[o]? = some m → ∃ m', μ'[o]? = some m' ∧ m.st ≤ m'.st ∧ (1 ≤ m.st ∧ m'.st = m.st ∨ m.fx = true → m' = m) ∧ (1 ≤ m.st → m'.sz = m.sz)

theorem MuExt.refl (μ : List Loc) : MuExt μ μ := fun _ m h => ⟨m, h, Nat.le_refl _, fun _ => rfl, fun _ => rfl⟩

theorem Ext.muExt {n : Nat} {I I1 : Im} {w w1 : World} {μ μ1 : List Loc} {H H1 : Heap} (h : Ext n I w μ H I1 w1 μ1 H1) (hn : μ.length ≤ n) : MuExt μ μ1 := by
  intro o m ho
  have : o < μ.length := (List.getElem?_eq_some_iff.1 ho).1
  exact h.mu o m (by omega) ho

theorem Rep.keeps {I I' : Im} {w w' : World} {μ μ' : List Loc} (k : Keeps I w I' w') (mu : MuExt μ μ') {d : D} {v : Value} (h : Rep I w μ d v) :
    Rep I' w' μ' d v := by
  induction h with
  | pure h => exact .pure (h.keeps k)
  | agg ds vs hl _ ih => exact .agg ds vs hl ih
  | tuple ds vs hl _ ih => exact .tuple ds vs hl ih
  | ptr o i off m hm hx =>
    obtain ⟨m', e, _, q, _⟩ := mu o m hm
    obtain rfl := q (.inr hx)
    exact .ptr o i off _ e hx
  | tokN t m hm h1 h0 =>
    obtain ⟨m', e, l, q, z⟩ := mu t m hm
    refine .tokN t m' e (by omega) (fun h => ?_)
    have := q (.inl (by omega))
    subst this
    exact h0 h
  | tok es a cap t m hm hst hat hp hsz =>
    obtain ⟨m', e, l, q, z⟩ := mu t m hm
    refine .tok es a cap t m' e (by omega) (fun h => ?_) (hp.keeps k) ?_
    · have := q (.inl (by omega))
      subst this
      exact hat h
    · rw [z (by omega)]; exact hsz
  | view o st len m a hm hx hle ha =>
    obtain ⟨m', e, _, q, _⟩ := mu o m hm
    obtain rfl := q (.inr hx)
    exact .view o st len _ a e hx hle ha
  | func fn ds es vs us hl hm _ _ ih ih' => exact .func fn ds es vs us hl hm ih ih'
  | iface t d v _ ih => exact .iface t d v ih
  | mapp o m hm hx =>
    obtain ⟨m', e, _, q, _⟩ := mu o m hm
    obtain rfl := q (.inr hx)
    exact .mapp o _ e hx
  | iter o m hm hx =>
    obtain ⟨m', e, _, q, _⟩ := mu o m hm
    obtain rfl := q (.inr hx)
    exact .iter o _ e hx

theorem Below.of_ext {n : Nat} {I I1 : Im} {w w1 : World} {μ μ1 : List Loc} {H H1 : Heap} (h : Ext n I w μ H I1 w1 μ1 H1)
    (hH : ∀ b, ¬ Own H μ b) : RowKit.Below w.heap.size w w1 :=
  ⟨h.os, h.tape, h.output, h.size, fun b hb => h.frame b hb (hH b)⟩

end Go.Proofs.Ytifpbdhggooelaa.GD
