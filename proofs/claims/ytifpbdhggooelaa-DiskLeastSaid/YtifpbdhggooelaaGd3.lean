/- How one object of the small heap is changed: the general lemma. -/
import Derived.Test.YtifpbdhggooelaaGd2
import Derived.Laws.AppendOwn
import Derived.Laws.IdiomCopy
namespace Go.Proofs.Ytifpbdhggooelaa.GD
open Go
set_option linter.unusedVariables false
set_option linter.unusedSimpArgs false

def mset (μ : List Loc) (o : Nat) (m : Loc) : List Loc := if o = μ.length then μ ++ [m] else μ.set o m

theorem hget_hset_same {H : Heap} {o : Nat} {x : Option HObj} (h : o ≤ H.length) : hget (hset H o x) o = x := by
  unfold hget hset
  split
  · rename_i e; subst e; simp
  · have : o < H.length := by omega
    simp [this]

theorem hget_hset_other {H : Heap} {o p : Nat} {x : Option HObj} (hne : p ≠ o) : hget (hset H o x) p = hget H p := by
  unfold hget hset
  split
  · rename_i e
    subst e
    rcases Nat.lt_or_ge p H.length with h | h
    · simp [List.getElem?_append_left h]
    · have h1 : H.length + 1 ≤ p := by omega
      rw [List.getD_eq_getElem?_getD, List.getD_eq_getElem?_getD, List.getElem?_eq_none (by simpa using h1), List.getElem?_eq_none h]
  · rw [List.getD_eq_getElem?_getD, List.getD_eq_getElem?_getD, List.getElem?_set_ne (by omega)]

theorem length_hset {H : Heap} {o : Nat} {x : Option HObj} : H.length ≤ (hset H o x).length := by
  unfold hset; split <;> simp

theorem mset_same {μ : List Loc} {o : Nat} {m : Loc} (h : o ≤ μ.length) : (mset μ o m)[o]? = some m := by
  unfold mset
  split
  · rename_i e; subst e; simp
  · have : o < μ.length := by omega
    simp [this]

theorem mset_other {μ : List Loc} {o p : Nat} {m : Loc} (hne : p ≠ o) : (mset μ o m)[p]? = if p < μ.length then μ[p]? else none := by
  unfold mset
  split
  · rename_i e
    subst e
    split
    · rename_i h; rw [List.getElem?_append_left h]
    · rename_i h; rw [List.getElem?_eq_none (by simp; omega)]
  · rw [List.getElem?_set_ne (by omega)]
    split
    · rfl
    · rename_i h; exact List.getElem?_eq_none (by omega)

theorem mset_other' {μ : List Loc} {o p : Nat} {m : Loc} (hne : p ≠ o) : (mset μ o m)[p]? = μ[p]? := by
  rw [mset_other hne]
  split
  · rfl
  · rename_i h; exact (List.getElem?_eq_none (by omega)).symm

theorem length_mset {μ : List Loc} {H : Heap} {o : Nat} {m : Loc} {x : Option HObj} (h : μ.length = H.length) : (mset μ o m).length = (hset H o x).length := by
  unfold mset hset
  rw [h]
  split <;> simp [h]

/-- May an object be laid at this name? -/
def FreshOk (μ : List Loc) (H : Heap) (o : Nat) : Prop :=
  o = H.length ∨ (o < H.length ∧ hget H o = none ∧ μ = μ)

structure Upd (I : Im) (w : World) (μ : List Loc) (H : Heap) (o : Nat) (m' : Loc) (x' : HObj) (I' : Im) (w' : World) : Prop where
  le : o ≤ H.length
  mu : ∀ m, μ[o]? = some m → m.st ≤ m'.st ∧ (m'.st = m.st ∨ m.fx = true → m' = m) ∧ (1 ≤ m.st → m'.sz = m.sz)
  keeps : Keeps I w I' w'
  size : w.heap.size ≤ w'.heap.size
  frame : ∀ b, b < w.heap.size → (∀ x m, hget H o = some x → μ[o]? = some m → x.owns m = true → b ≠ m.b) → w'.heap[b]? = w.heap[b]?
  im : ∀ b k, I' b k → I b k ∨ b = m'.b
  blk : (∃ x m, hget H o = some x ∧ μ[o]? = some m ∧ x.owns m = true ∧ m.b = m'.b) ∨ (w.heap.size ≤ m'.b ∧ m'.b < w'.heap.size) ∨ (x'.owns m' = false ∧ ∀ b k, I' b k → I b k)
  os : w'.os = w.os
  tape : w'.tape = w.tape
  output : w'.output = w.output

theorem upd_mu {I I' : Im} {w w' : World} {μ : List Loc} {H : Heap} {o : Nat} {m' : Loc} {x' : HObj} (hw : WOk I w μ H) (u : Upd I w μ H o m' x' I' w') : MuExt μ (mset μ o m') := by
  intro p m hp
  by_cases e : p = o
  · subst e
    obtain ⟨h1, h2, h3⟩ := u.mu m hp
    exact ⟨m', mset_same (by rw [hw.len]; exact u.le), h1, fun h => h2 (h.imp_left And.right), h3⟩
  · exact ⟨m, by rw [mset_other' e]; exact hp, Nat.le_refl _, fun _ => rfl, fun _ => rfl⟩

theorem own_lt {I : Im} {w : World} {μ : List Loc} {m : Loc} {x : HObj} (h : ObjOk I w μ m x) (ho : x.owns m = true) : m.b < w.heap.size := by
  cases x with
  | row sz es => obtain ⟨_, _, _, c, E, fr, hc, _⟩ := h; exact (Array.getElem?_eq_some_iff.1 hc).1
  | fro sz es => simp [HObj.owns] at ho
  | tok n sz =>
    obtain ⟨_, _, _, _, h⟩ := h
    obtain ⟨c, E, fr, hc, _⟩ := h (by simpa [HObj.owns] using ho)
    exact (Array.getElem?_eq_some_iff.1 hc).1
  | sit s p => exact (Array.getElem?_eq_some_iff.1 h.2).1
  | mp k ks vs => obtain ⟨_, _, E, cl, hc, _⟩ := h; exact (Array.getElem?_eq_some_iff.1 hc).1
  | dead => simp [HObj.owns] at ho

theorem objOk_keep {I I' : Im} {w w' : World} {μ μ' : List Loc} {m : Loc} {x : HObj} (h : ObjOk I w μ m x) (k : Keeps I w I' w') (mu : MuExt μ μ')
    (hb : x.owns m = true → w'.heap[m.b]? = w.heap[m.b]? ∧ ∀ k, I' m.b k → I m.b k) : ObjOk I' w' μ' m x := by
  cases x with
  | row sz es =>
    obtain ⟨h1, h0, h2, c, E, fr, hc, hs, hl, hr, hi⟩ := h
    obtain ⟨e, hI⟩ := hb rfl
    refine ⟨h1, h0, h2, c, E, fr, e.trans hc, hs, hl, fun i j cs d a b => ?_, fun k hk => ⟨fun q => (hi k hk).1 (hI _ q), ?_⟩⟩
    · obtain ⟨v, hv, hR, h1⟩ := hr i j cs d a b
      exact ⟨v, hv, hR.keeps k mu, h1⟩
    · rw [World.frozen?_of_block (w := w) (by exact e)]; exact (hi k hk).2
  | fro sz es =>
    obtain ⟨h1, h0, hl, hr⟩ := h
    refine ⟨h1, h0, hl, fun i j cs d a b => ?_⟩
    obtain ⟨hI, v, hv, hR⟩ := hr i j cs d a b
    obtain ⟨h1, h2⟩ := k.cell (a := ⟨m.b, i * m.sz + j, none⟩) hI hv
    exact ⟨h1, v, h2, hR.keeps k⟩
  | tok n sz =>
    obtain ⟨h1, h0, h2, h3, h4⟩ := h
    refine ⟨h1, h0, h2, h3, fun hc => ?_⟩
    obtain ⟨c, E, fr, hc', hs, hi⟩ := h4 hc
    obtain ⟨e, hI⟩ := hb (by simpa [HObj.owns] using hc)
    refine ⟨c, E, fr, e.trans hc', hs, fun k hk hk' => ⟨fun q => (hi k hk hk').1 (hI _ q), ?_⟩⟩
    rw [World.frozen?_of_block (w := w) (by exact e)]; exact (hi k hk hk').2
  | sit s p => exact ⟨h.1, (hb rfl).1.trans h.2⟩
  | mp kk ks vs =>
    obtain ⟨h1, h2, E, cl, hc, hs, hk, hv⟩ := h
    refine ⟨h1, h2, E, cl, (hb rfl).1.trans hc, hs, hk, fun i d hd => ?_⟩
    obtain ⟨x, e, hR⟩ := hv i d hd
    exact ⟨x, e, hR.keeps k mu⟩
  | dead => trivial

theorem upd_ok {I I' : Im} {w w' : World} {μ : List Loc} {H : Heap} {o : Nat} {m' : Loc} {x' : HObj} (hw : WOk I w μ H) (u : Upd I w μ H o m' x' I' w')
    (hx : ObjOk I' w' (mset μ o m') m' x') :
    WOk I' w' (mset μ o m') (hset H o (some x')) ∧ Ext μ.length I w μ H I' w' (mset μ o m') (hset H o (some x')) := by
  have hmu := upd_mu hw u
  have hlen := hw.len
  have other : ∀ p x m, p ≠ o → hget H p = some x → μ[p]? = some m → x.owns m = true →
      w'.heap[m.b]? = w.heap[m.b]? ∧ (∀ k, I' m.b k → I m.b k) ∧ (x'.owns m' = true → m.b ≠ m'.b) := by
    intro p x m hp hg hm ho
    have hlt : m.b < w.heap.size := by
      obtain ⟨m1, e1, h1⟩ := hw.obj p x hg
      rw [hm] at e1
      obtain rfl := Option.some.inj e1
      exact own_lt h1 ho
    have hne : ∀ y n, hget H o = some y → μ[o]? = some n → y.owns n = true → m.b ≠ n.b := fun y n hy hn hyo => hw.inj p o x y m n hp hg hy hm hn ho hyo
    refine ⟨u.frame _ hlt hne, ?_⟩
    have key : m.b ≠ m'.b → (∀ k, I' m.b k → I m.b k) ∧ (x'.owns m' = true → m.b ≠ m'.b) := fun h =>
      ⟨fun k hk => (u.im _ _ hk).resolve_right h, fun _ => h⟩
    rcases u.blk with ⟨y, n, hy, hn, hyo, hb⟩ | ⟨hb, _⟩ | ⟨hb, hI⟩
    · exact key (by rw [← hb]; exact hne y n hy hn hyo)
    · exact key (by omega)
    · exact ⟨fun k hk => hI _ _ hk, fun h => by rw [hb] at h; cases h⟩
  have hsame : (mset μ o m')[o]? = some m' := mset_same (by rw [hlen]; exact u.le)
  constructor
  · refine ⟨length_mset hlen, fun p x hp => ?_, fun p q x y m n hpq hxx hy hm hn ho ho' => ?_, fun b k hk => ?_, fun p m hp hm => ?_, fun g => (hw.glb g).keeps u.keeps⟩
    · by_cases e : p = o
      · subst e
        rw [hget_hset_same u.le] at hp
        obtain rfl := Option.some.inj hp
        exact ⟨m', hsame, hx⟩
      · rw [hget_hset_other e] at hp
        obtain ⟨m, hm, hok⟩ := hw.obj p x hp
        refine ⟨m, by rw [mset_other' e]; exact hm, objOk_keep hok u.keeps hmu (fun ho => ?_)⟩
        obtain ⟨h1, h2, _⟩ := other p x m e hp hm ho
        exact ⟨h1, h2⟩
    · by_cases e : p = o
      · subst e
        have e' : q ≠ p := fun h => hpq h.symm
        rw [hget_hset_same u.le] at hxx
        obtain rfl := Option.some.inj hxx
        rw [hsame] at hm
        obtain rfl := Option.some.inj hm
        rw [hget_hset_other e'] at hy
        rw [mset_other' e'] at hn
        exact fun h => (other q y n e' hy hn ho').2.2 ho h.symm
      · rw [hget_hset_other e] at hxx
        rw [mset_other' e] at hm
        by_cases e2 : q = o
        · subst e2
          rw [hget_hset_same u.le] at hy
          obtain rfl := Option.some.inj hy
          rw [hsame] at hn
          obtain rfl := Option.some.inj hn
          exact (other p x m e hxx hm ho).2.2 ho'
        · rw [hget_hset_other e2] at hy
          rw [mset_other' e2] at hn
          exact hw.inj p q x y m n hpq hxx hy hm hn ho ho'
    · rcases u.im b k hk with h | h
      · exact Nat.lt_of_lt_of_le (hw.imm b k h) u.size
      · rcases u.blk with ⟨y, n, hy, hn, hyo, hb⟩ | ⟨_, hb⟩ | ⟨_, hI⟩
        · obtain ⟨m1, e1, h1⟩ := hw.obj o y hy
          rw [hn] at e1
          obtain rfl := Option.some.inj e1
          have := own_lt h1 hyo
          have := u.size
          omega
        · omega
        · exact Nat.lt_of_lt_of_le (hw.imm b k (hI b k hk)) u.size
    · by_cases e : p = o
      · subst e; rw [hget_hset_same u.le] at hp; cases hp
      · rw [hget_hset_other e] at hp
        rw [mset_other' e] at hm
        exact hw.dum p m hp hm
  · refine ⟨u.keeps.imm, fun p m _ hm => hmu p m hm, u.size, fun b hb => ?_, fun b hb hn => ?_, u.os, u.tape, u.output, fun b k hb => ?_⟩
    · obtain ⟨p, x, m, hg, hm, ho, rfl⟩ := hb
      by_cases e : p = o
      · subst e
        rw [hget_hset_same u.le] at hg
        obtain rfl := Option.some.inj hg
        rw [hsame] at hm
        obtain rfl := Option.some.inj hm
        rcases u.blk with ⟨y, n, hy, hn, hyo, hb⟩ | ⟨hb, _⟩ | ⟨hb, hI⟩
        · exact .inl ⟨p, y, n, hy, hn, hyo, hb⟩
        · exact .inr hb
        · rw [hb] at ho; cases ho
      · rw [hget_hset_other e] at hg
        rw [mset_other' e] at hm
        exact .inl ⟨p, x, m, hg, hm, ho, rfl⟩
    · exact u.frame b hb (fun x m hx hm ho e => hn ⟨o, x, m, hx, hm, ho, e.symm⟩)
    · rcases u.im b k hb with h | h
      · exact .inl h
      · rcases u.blk with ⟨y, n, hy, hn, hyo, hb'⟩ | ⟨hb', _⟩ | ⟨_, hI⟩
        · exact .inr (.inl ⟨o, y, n, hy, hn, hyo, hb'.trans h.symm⟩)
        · exact .inr (.inr (by omega))
        · exact .inl (hI b k hb)

/-- An object is forgotten. -/
theorem kill_ok {I : Im} {w : World} {μ : List Loc} {H : Heap} {o : Nat} (hw : WOk I w μ H) (ho : o < H.length) :
    WOk I w μ (hset H o (some .dead)) ∧ Ext μ.length I w μ H I w μ (hset H o (some .dead)) := by
  have hne : ¬ o = H.length := by omega
  have hget' : ∀ p x, hget (hset H o (some .dead)) p = some x → (p = o ∧ x = .dead) ∨ (p ≠ o ∧ hget H p = some x) := by
    intro p x hp
    by_cases e : p = o
    · subst e; rw [hget_hset_same (by omega)] at hp; exact .inl ⟨rfl, (Option.some.inj hp).symm⟩
    · rw [hget_hset_other e] at hp; exact .inr ⟨e, hp⟩
  constructor
  · refine ⟨?_, fun p x hp => ?_, fun p q x y m n hpq hx hy hm hn ho ho' => ?_, hw.imm, fun p m hp hm => ?_, hw.glb⟩
    · rw [hset, if_neg hne]; simp [hw.len]
    · rcases hget' p x hp with ⟨rfl, rfl⟩ | ⟨_, h⟩
      · have : p < μ.length := by rw [hw.len]; exact ho
        exact ⟨_, List.getElem?_eq_getElem this, trivial⟩
      · exact hw.obj p x h
    · rcases hget' p x hx with ⟨rfl, rfl⟩ | ⟨_, h⟩
      · cases ho
      · rcases hget' q y hy with ⟨rfl, rfl⟩ | ⟨_, h'⟩
        · cases ho'
        · exact hw.inj p q x y m n hpq h h' hm hn ho ho'
    · by_cases e : p = o
      · subst e; rw [hget_hset_same (by omega)] at hp; cases hp
      · rw [hget_hset_other e] at hp; exact hw.dum p m hp hm
  · refine ⟨fun b k h => ⟨h, rfl⟩, fun p m _ hm => ⟨m, hm, Nat.le_refl _, fun _ => rfl, fun _ => rfl⟩, Nat.le_refl _, fun b hb => ?_, fun _ _ _ => rfl, rfl, rfl, rfl, fun _ _ h => .inl h⟩
    obtain ⟨p, x, m, hg, hm, ho, rfl⟩ := hb
    rcases hget' p x hg with ⟨rfl, rfl⟩ | ⟨_, h⟩
    · cases ho
    · exact .inl ⟨p, x, m, h, hm, ho, rfl⟩

/-- An object goes on under another name. -/
theorem move_ok {I : Im} {w : World} {μ : List Loc} {H : Heap} {o f : Nat} {x : HObj} {m : Loc} (hw : WOk I w μ H) (ho : hget H o = some x) (hm : μ[o]? = some m)
    (hf : FreshOk μ H f) (h1 : 1 ≤ m.st) :
    WOk I w (mset μ f m) (hset (hset H o (some .dead)) f (some x)) ∧ Ext μ.length I w μ H I w (mset μ f m) (hset (hset H o (some .dead)) f (some x)) := by
  have hol : o < H.length := by
    rcases Nat.lt_or_ge o H.length with h | h
    · exact h
    · rw [hget, List.getD_eq_getElem?_getD, List.getElem?_eq_none h] at ho; cases ho
  have hof : o ≠ f := by
    rcases hf with h | ⟨_, h, _⟩
    · omega
    · intro e; subst e; rw [ho] at h; cases h
  have hlen1 : (hset H o (some .dead)).length = H.length := by rw [hset, if_neg (by omega)]; simp
  have hfl : f ≤ (hset H o (some .dead)).length := by rw [hlen1]; rcases hf with h | ⟨h, _⟩ <;> omega
  have hfl' : f ≤ μ.length := by rw [hw.len]; rw [hlen1] at hfl; exact hfl
  have g1 : ∀ p y, hget (hset (hset H o (some .dead)) f (some x)) p = some y → (p = f ∧ y = x) ∨ (p ≠ f ∧ p = o ∧ y = .dead) ∨ (p ≠ f ∧ p ≠ o ∧ hget H p = some y) := by
    intro p y hp
    by_cases e : p = f
    · subst e; rw [hget_hset_same hfl] at hp; exact .inl ⟨rfl, (Option.some.inj hp).symm⟩
    · rw [hget_hset_other e] at hp
      by_cases e2 : p = o
      · subst e2; rw [hget_hset_same (by omega)] at hp; exact .inr (.inl ⟨e, rfl, (Option.some.inj hp).symm⟩)
      · rw [hget_hset_other e2] at hp; exact .inr (.inr ⟨e, e2, hp⟩)
  have hmu : MuExt μ (mset μ f m) := by
    intro p n hp
    by_cases e : p = f
    · subst e
      rcases hf with h | ⟨_, h, _⟩
      · have : p < μ.length := (List.getElem?_eq_some_iff.1 hp).1
        have := hw.len; omega
      · obtain ⟨a, b⟩ := hw.dum p n h hp
        refine ⟨m, mset_same hfl', by omega, fun q => ?_, fun q => by omega⟩
        rcases q with q | q
        · omega
        · rw [b] at q; cases q
    · exact ⟨n, by rw [mset_other' e]; exact hp, Nat.le_refl _, fun _ => rfl, fun _ => rfl⟩
  obtain ⟨mo, emo, hok⟩ := hw.obj o x ho
  rw [hm] at emo
  obtain rfl := Option.some.inj emo
  constructor
  · refine ⟨?_, fun p y hp => ?_, fun p q y z a b hpq hy hz ha hb oa ob => ?_, hw.imm, fun p n hp hn => ?_, hw.glb⟩
    · have := length_mset (o := f) (m := m) (x := some x) (H := hset H o (some .dead)) (μ := μ) (by rw [hlen1]; exact hw.len)
      exact this
    · rcases g1 p y hp with ⟨rfl, rfl⟩ | ⟨e, rfl, rfl⟩ | ⟨e, e2, h⟩
      · exact ⟨m, mset_same hfl', objOk_keep hok (Keeps.refl _ _) hmu (fun _ => ⟨rfl, fun _ h => h⟩)⟩
      · exact ⟨m, by rw [mset_other' e]; exact hm, trivial⟩
      · obtain ⟨n, hn, hnk⟩ := hw.obj p y h
        exact ⟨n, by rw [mset_other' e]; exact hn, objOk_keep hnk (Keeps.refl _ _) hmu (fun _ => ⟨rfl, fun _ h => h⟩)⟩
    · rcases g1 p y hy with ⟨rfl, rfl⟩ | ⟨e, rfl, rfl⟩ | ⟨e, e2, h⟩
      · rw [mset_same hfl'] at ha
        obtain rfl := Option.some.inj ha
        rcases g1 q z hz with ⟨rfl, rfl⟩ | ⟨e', rfl, rfl⟩ | ⟨e', e2', h'⟩
        · exact absurd rfl hpq
        · cases ob
        · rw [mset_other' e'] at hb
          exact hw.inj o q _ z _ b (fun h => e2' h.symm) ho h' hm hb oa ob
      · cases oa
      · rw [mset_other' e] at ha
        rcases g1 q z hz with ⟨rfl, rfl⟩ | ⟨e', rfl, rfl⟩ | ⟨e', e2', h'⟩
        · rw [mset_same hfl'] at hb
          obtain rfl := Option.some.inj hb
          exact hw.inj p o y _ a _ e2 h ho ha hm oa ob
        · cases ob
        · rw [mset_other' e'] at hb
          exact hw.inj p q y z a b hpq h h' ha hb oa ob
    · by_cases e : p = f
      · subst e; rw [hget_hset_same hfl] at hp; cases hp
      · rw [hget_hset_other e] at hp
        rw [mset_other' e] at hn
        by_cases e2 : p = o
        · subst e2; rw [hget_hset_same (by omega)] at hp; cases hp
        · rw [hget_hset_other e2] at hp; exact hw.dum p n hp hn
  · refine ⟨fun b k h => ⟨h, rfl⟩, fun p n _ hn => hmu p n hn, Nat.le_refl _, fun b hb => ?_, fun _ _ _ => rfl, rfl, rfl, rfl, fun _ _ h => .inl h⟩
    obtain ⟨p, y, n, hg, hn, hon, rfl⟩ := hb
    rcases g1 p y hg with ⟨rfl, rfl⟩ | ⟨e, rfl, rfl⟩ | ⟨e, e2, h⟩
    · rw [mset_same hfl'] at hn
      obtain rfl := Option.some.inj hn
      exact .inl ⟨o, _, _, ho, hm, hon, rfl⟩
    · cases hon
    · rw [mset_other' e] at hn
      exact .inl ⟨p, y, n, h, hn, hon, rfl⟩

end Go.Proofs.Ytifpbdhggooelaa.GD
