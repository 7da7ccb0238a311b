/- The code of a function on data: what it comes to is what the machine comes to. The theorem, proved: all judgements. -/
import Derived.Test.YtifpbdhggooelaaGd25
namespace Go.Proofs.Ytifpbdhggooelaa.GD
open Go
set_option linter.unusedVariables false
set_option linter.unusedSimpArgs false

variable {P : Program} {T : Tys}

theorem purs_rep {I : Im} {w : World} {μ : List Loc} {args args' : List D} {vs : Array Value} (hl : args.length = vs.size)
    (hr : ∀ (i : Nat) d v, args[i]? = some d → vs[i]? = some v → Rep I w μ d v) (hp : purs args = some args') :
    args'.length = vs.size ∧ ∀ (i : Nat) d v, args'[i]? = some d → vs[i]? = some v → RepP I w d v := by
  obtain ⟨h1, h2⟩ := purs_ok (vs := vs.toList) hp (by simpa using hl) (fun i d v a b => hr i d v a (by simpa using b))
  exact ⟨by simpa using h1, fun i d v a b => h2 i d v a (by simpa using b)⟩

theorem After.normal_of {n : Nat} {I : Im} {w : World} {μ : List Loc} {H : Heap} {e : Ex} {s' : St} {x : Exit} {a : Act} {w' : World} (h : After n I w μ H e s' x a w') : x = e.to := h.1

/-- A nil slice may be told as one that can be extended: nothing lies behind it. -/
theorem wok_tok {I : Im} {w : World} {μ : List Loc} {H : Heap} (hw : WOk I w μ H) (sz : Nat) :
    WOk I w (μ ++ [⟨0, sz, 0, 1, false⟩]) (H ++ [some (.tok 0 sz)]) := by
  have hmu : MuExt μ (μ ++ [⟨0, sz, 0, 1, false⟩]) := fun o m ho => ⟨m, by rw [List.getElem?_append_left (List.getElem?_eq_some_iff.1 ho).1]; exact ho, Nat.le_refl _, fun _ => rfl, fun _ => rfl⟩
  have hold : ∀ o x, hget (H ++ [some (.tok 0 sz)]) o = some x → hget H o = some x ∨ (o = H.length ∧ x = .tok 0 sz) := by
    intro o x h
    unfold hget at h ⊢
    rw [List.getD_eq_getElem?_getD] at h ⊢
    by_cases ho : o < H.length
    · rw [List.getElem?_append_left ho] at h
      exact .inl h
    · by_cases ho' : o = H.length
      · subst ho'
        simp at h
        exact .inr ⟨rfl, h.symm⟩
      · rw [List.getElem?_eq_none (by simp; omega)] at h
        simp at h
  have hloc : ∀ (o : Nat) m, o < H.length → (μ ++ [⟨0, sz, 0, 1, false⟩])[o]? = some m → μ[o]? = some m := by
    intro o m ho h
    rwa [List.getElem?_append_left (by rw [hw.len]; exact ho)] at h
  have hlt : ∀ o x, hget H o = some x → o < H.length := by
    intro o x h
    unfold hget at h
    rw [List.getD_eq_getElem?_getD] at h
    by_cases ho : o < H.length
    · exact ho
    · rw [List.getElem?_eq_none (by omega)] at h
      simp at h
  refine ⟨by simp [hw.len], fun o x hx => ?_, fun o o' x x' m m' hne hx hx' hm hm' h1 h2 => ?_, hw.imm, fun o m hx hm => ?_, hw.glb⟩
  · rcases hold o x hx with h | ⟨rfl, rfl⟩
    · obtain ⟨m, h1, h2⟩ := hw.obj o x h
      refine ⟨m, by rw [List.getElem?_append_left (List.getElem?_eq_some_iff.1 h1).1]; exact h1, ?_⟩
      cases x with
      | row sz' es =>
        obtain ⟨a1, a2, a3, c, E, fr, a4, a5, a6, a7, a8⟩ := h2
        exact ⟨a1, a2, a3, c, E, fr, a4, a5, a6, fun i j cs d p q => by
          obtain ⟨v, b1, b2, b3⟩ := a7 i j cs d p q
          exact ⟨v, b1, b2.keeps (Keeps.refl _ _) hmu, b3⟩, a8⟩
      | fro sz' es => exact h2
      | tok n' sz' => exact h2
      | sit s pos => exact h2
      | mp k ks vs =>
        obtain ⟨a1, a2, E, cl, a4, a5, a6, a7⟩ := h2
        exact ⟨a1, a2, E, cl, a4, a5, a6, fun i d p => by
          obtain ⟨x, b1, b2⟩ := a7 i d p
          exact ⟨x, b1, b2.keeps (Keeps.refl _ _) hmu⟩⟩
      | dead => trivial
    · refine ⟨⟨0, sz, 0, 1, false⟩, by rw [← hw.len]; simp, rfl, rfl, rfl, Nat.le_refl _, fun h => absurd h (by simp)⟩
  · rcases hold o x hx with h | ⟨rfl, rfl⟩
    · rcases hold o' x' hx' with h' | ⟨rfl, rfl⟩
      · exact hw.inj o o' x x' m m' hne h h' (hloc o m (hlt o x h) hm) (hloc o' m' (hlt o' x' h') hm') h1 h2
      · rw [← hw.len] at hm'
        simp at hm'
        subst hm'
        simp [HObj.owns] at h2
    · rw [← hw.len] at hm
      simp at hm
      subst hm
      simp [HObj.owns] at h1
  · by_cases ho : o < H.length
    · refine hw.dum o m ?_ (hloc o m ho hm)
      unfold hget at hx ⊢
      rw [List.getD_eq_getElem?_getD] at hx ⊢
      rwa [List.getElem?_append_left ho] at hx
    · by_cases ho' : o = H.length
      · subst ho'
        unfold hget at hx
        rw [List.getD_eq_getElem?_getD] at hx
        simp at hx
      · rw [List.getElem?_eq_none (by simp [hw.len]; omega)] at hm
        cases hm

theorem ext_tok {n : Nat} {I : Im} {w : World} {μ : List Loc} {H : Heap} (hw : WOk I w μ H) (sz : Nat) :
    Ext n I w μ H I w (μ ++ [⟨0, sz, 0, 1, false⟩]) (H ++ [some (.tok 0 sz)]) where
  imm b k h := ⟨h, rfl⟩
  mu o m ho hm := ⟨m, by rw [List.getElem?_append_left (List.getElem?_eq_some_iff.1 hm).1]; exact hm, Nat.le_refl _, fun _ => rfl, fun _ => rfl⟩
  size := Nat.le_refl _
  own b hb := by
    obtain ⟨o, x, m, h1, h2, h3, h4⟩ := hb
    by_cases ho : o < H.length
    · refine .inl ⟨o, x, m, ?_, ?_, h3, h4⟩
      · unfold hget at h1 ⊢
        rw [List.getD_eq_getElem?_getD] at h1 ⊢
        rwa [List.getElem?_append_left ho] at h1
      · rwa [List.getElem?_append_left (by rw [hw.len]; exact ho)] at h2
    · exfalso
      by_cases ho' : o = H.length
      · subst ho'
        rw [← hw.len] at h2
        simp at h2
        subst h2
        unfold hget at h1
        rw [List.getD_eq_getElem?_getD] at h1
        simp at h1
        subst h1
        simp [HObj.owns] at h3
      · rw [List.getElem?_eq_none (by simp [hw.len]; omega)] at h2
        cases h2
  frame b _ _ := rfl
  os := rfl
  tape := rfl
  output := rfl
  imr b k h := .inl h

theorem env_tok {I : Im} {w : World} {μ : List Loc} {env : List D} {a : Act} {i sz : Nat} {H : Heap} (hl : μ.length = H.length) (he : EnvOk I w μ env a) (hi : env[i]? = some (.slice false [] none)) :
    EnvOk I w (μ ++ [⟨0, sz, 0, 1, false⟩]) (env.set i (.slice false [] (some H.length))) a := by
  have hmu : MuExt μ (μ ++ [⟨0, sz, 0, 1, false⟩]) := fun o m ho => ⟨m, by rw [List.getElem?_append_left (List.getElem?_eq_some_iff.1 ho).1]; exact ho, Nat.le_refl _, fun _ => rfl, fun _ => rfl⟩
  refine ⟨by simpa using he.len, he.def_, fun t d v hd hv => ?_⟩
  rw [List.getElem?_set] at hd
  by_cases ht : i = t
  · subst ht
    have hlt : i < env.length := (List.getElem?_eq_some_iff.1 hi).1
    simp only [if_true, hlt] at hd
    simp only [Option.some.injEq] at hd
    subst hd
    have hr := he.rep i _ v hi hv
    have hv0 : v = .slice none 0 0 := by
      cases hr with
      | pure h => cases h; rfl
    subst hv0
    exact .tokN H.length ⟨0, sz, 0, 1, false⟩ (by rw [← hl]; simp) (Nat.le_refl _) (fun _ => rfl)
  · rw [if_neg ht] at hd
    exact (he.rep t d v hd hv).keeps (Keeps.refl _ _) hmu

/-- A cell of a row, told as something else that reads the same. -/
theorem wok_reread {I : Im} {w : World} {μ : List Loc} {H : Heap} (hw : WOk I w μ H) {o i j sz : Nat} {es : List (List D)} {cs : List D} {d d' : D} (ho : hget H o = some (.row sz es)) (hi : es[i]? = some cs) (hj : cs[j]? = some d)
    (hd : ∀ v, Rep I w μ d v → Rep I w μ d' v) :
    WOk I w μ (H.set o (some (.row sz (es.set i (cs.set j d'))))) ∧ ∀ n, Ext n I w μ H I w μ (H.set o (some (.row sz (es.set i (cs.set j d'))))) := by
  have hol : o < H.length := by
    rcases Nat.lt_or_ge o H.length with h | h
    · exact h
    · rw [hget, List.getD_eq_getElem?_getD, List.getElem?_eq_none h] at ho; cases ho
  have hsame : hget (H.set o (some (.row sz (es.set i (cs.set j d'))))) o = some (.row sz (es.set i (cs.set j d'))) := by
    simp [hget, List.getD_eq_getElem?_getD, hol]
  have hother : ∀ p, p ≠ o → hget (H.set o (some (.row sz (es.set i (cs.set j d'))))) p = hget H p := by
    intro p hp
    simp only [hget, List.getD_eq_getElem?_getD]
    rw [List.getElem?_set_ne (by omega)]
  have hget' : ∀ p x, hget (H.set o (some (.row sz (es.set i (cs.set j d'))))) p = some x → (p ≠ o ∧ hget H p = some x) ∨ (p = o ∧ x = .row sz (es.set i (cs.set j d'))) := by
    intro p x hx
    by_cases hp : p = o
    · subst hp; rw [hsame] at hx; exact .inr ⟨rfl, (Option.some.inj hx).symm⟩
    · rw [hother p hp] at hx; exact .inl ⟨hp, hx⟩
  have hilt : i < es.length := (List.getElem?_eq_some_iff.1 hi).1
  have hjlt : j < cs.length := (List.getElem?_eq_some_iff.1 hj).1
  have howns : ∀ p x m, hget (H.set o (some (.row sz (es.set i (cs.set j d'))))) p = some x → μ[p]? = some m → x.owns m = true → ∃ y, hget H p = some y ∧ y.owns m = true := by
    intro p x m hx hm hox
    rcases hget' p x hx with ⟨_, h⟩ | ⟨rfl, rfl⟩
    · exact ⟨x, h, hox⟩
    · exact ⟨_, ho, rfl⟩
  refine ⟨⟨by rw [hw.len]; simp, fun p x hx => ?_, fun p p' x x' m m' hne hx hx' hm hm' h1 h2 => ?_, hw.imm, fun p m hx hm => ?_, hw.glb⟩, fun n => ?_⟩
  · rcases hget' p x hx with ⟨_, h⟩ | ⟨rfl, rfl⟩
    · exact hw.obj p x h
    · obtain ⟨m, hm, a0, a1, a2, c, E, fr, a3, a4, a5, a6, a7⟩ := hw.obj p _ ho
      refine ⟨m, hm, a0, a1, by rw [List.length_set]; exact a2, c, E, fr, a3, a4, fun q c' hc' => ?_, fun q t c' e hc' he => ?_, a7⟩
      · by_cases hq : i = q
        · subst hq
          rw [List.getElem?_set_self hilt] at hc'
          obtain rfl := Option.some.inj hc'
          rw [List.length_set]; exact a5 _ _ hi
        · rw [List.getElem?_set_ne hq] at hc'
          exact a5 q c' hc'
      · by_cases hq : i = q
        · subst hq
          rw [List.getElem?_set_self hilt] at hc'
          obtain rfl := Option.some.inj hc'
          by_cases ht : j = t
          · subst ht
            rw [List.getElem?_set_self hjlt] at he
            obtain rfl := Option.some.inj he
            obtain ⟨v, h1, h2, h3⟩ := a6 _ _ _ _ hi hj
            exact ⟨v, h1, hd v h2, h3⟩
          · rw [List.getElem?_set_ne ht] at he
            exact a6 _ _ _ _ hi he
        · rw [List.getElem?_set_ne hq] at hc'
          exact a6 q t c' e hc' he
  · obtain ⟨y, e1, e2⟩ := howns p x m hx hm h1
    obtain ⟨y', e1', e2'⟩ := howns p' x' m' hx' hm' h2
    exact hw.inj p p' y y' m m' hne e1 e1' hm hm' e2 e2'
  · by_cases hp : p = o
    · subst hp; rw [hsame] at hx; cases hx
    · rw [hother p hp] at hx; exact hw.dum p m hx hm
  · refine ⟨fun _ _ h => ⟨h, rfl⟩, fun p m _ hm => ⟨m, hm, Nat.le_refl _, fun _ => rfl, fun _ => rfl⟩, Nat.le_refl _, fun b hb => ?_, fun _ _ _ => rfl, rfl, rfl, rfl, fun _ _ h => .inl h⟩
    obtain ⟨p, x, m, h1, h2, h3, h4⟩ := hb
    obtain ⟨y, e1, e2⟩ := howns p x m h1 h2 h3
    exact .inl ⟨p, y, m, e1, h2, e2, h4⟩

theorem hget_cut {h : Nat} {H : Heap} (hl : h ≤ H.length) (o : Nat) : hget (cutH h H) o = if o < h then some .dead else hget H o := by
  unfold hget cutH
  rw [List.getD_eq_getElem?_getD, List.getD_eq_getElem?_getD]
  by_cases ho : o < h
  · rw [if_pos ho, List.getElem?_append_left (by simpa using ho), List.getElem?_replicate, if_pos ho]
    rfl
  · rw [if_neg ho, List.getElem?_append_right (by simp; omega), List.length_replicate, List.getElem?_drop, show h + (o - h) = o by omega]

theorem wok_cut {I : Im} {w : World} {μ : List Loc} {H : Heap} {h : Nat} (hw : WOk I w μ H) (hl : h ≤ H.length) : WOk I w μ (cutH h H) := by
  refine ⟨by rw [hw.len]; simp [cutH]; omega, fun o x hx => ?_, fun o o' x x' m m' hne hx hx' hm hm' h1 h2 => ?_, hw.imm, fun o m hx hm => ?_, hw.glb⟩
  · rw [hget_cut hl] at hx
    split at hx
    · rename_i ho
      obtain rfl := Option.some.inj hx
      exact ⟨_, List.getElem?_eq_getElem (by rw [hw.len]; omega), trivial⟩
    · exact hw.obj o x hx
  · rw [hget_cut hl] at hx hx'
    split at hx
    · obtain rfl := Option.some.inj hx; simp [HObj.owns] at h1
    · split at hx'
      · obtain rfl := Option.some.inj hx'; simp [HObj.owns] at h2
      · exact hw.inj o o' x x' m m' hne hx hx' hm hm' h1 h2
  · rw [hget_cut hl] at hx
    split at hx
    · cases hx
    · exact hw.dum o m hx hm

/-- What a call made is immutable from now on, as far as it is handed back. -/
theorem cut_ok {n : Nat} {I I1 : Im} {w w1 : World} {μ μ1 : List Loc} {H H1 : Heap} {h : Nat} (hx : Ext n I w μ H I1 w1 μ1 H1) (hw1 : WOk I1 w1 μ1 H1) (hl : h ≤ H1.length) (hn : n ≤ h) (hk : (H1.take h).all (objRefs (below h)) = true)
    {r0 r : D} {v : Value} (hr : Rep I1 w1 μ1 r0 v) (hf : Froz (cutH h H1) r0 r) :
    ∃ I2, WOk I2 w1 (μ1.take h) (H1.take h) ∧ Ext n I w μ H I2 w1 (μ1.take h) (H1.take h) ∧ RepP I2 w1 r v := by
  let I2 : Im := fun b k => I1 b k ∨ Own (cutH h H1) μ1 b
  have hkp : Keeps I1 w1 I2 w1 := ⟨fun b k h => ⟨.inl h, rfl⟩⟩
  have hwc := wok_cut hw1 hl
  have hwt := wok_take hw1 hl hk
  have own1 : ∀ b, Own (cutH h H1) μ1 b → ∃ o x m, h ≤ o ∧ hget H1 o = some x ∧ μ1[o]? = some m ∧ x.owns m = true ∧ m.b = b := by
    rintro b ⟨o, x, m, h1, h2, h3, h4⟩
    rw [hget_cut hl] at h1
    split at h1
    · obtain rfl := Option.some.inj h1; simp [HObj.owns] at h3
    · exact ⟨o, x, m, by omega, h1, h2, h3, h4⟩
  have ht := ext_take (n := n) hn hw1
  refine ⟨I2, ⟨hwt.len, fun o x ho => ?_, hwt.inj, fun b k h => ?_, hwt.dum, fun g => (hwt.glb g).keeps hkp⟩, ?_, ?_⟩
  · obtain ⟨m, hm, hok⟩ := hwt.obj o x ho
    refine ⟨m, hm, objOk_keep hok hkp (MuExt.refl _) (fun hox => ⟨rfl, fun k hk' => ?_⟩)⟩
    rcases hk' with h1 | h1
    · exact h1
    · exfalso
      obtain ⟨o', x', m', g1, g2, g3, g4, g5⟩ := own1 _ h1
      have hlt : o < h := by
        rw [hget_take] at ho
        split at ho
        · assumption
        · cases ho
      rw [hget_take, if_pos hlt] at ho
      rw [List.getElem?_take, if_pos hlt] at hm
      exact hw1.inj o o' x x' m m' (by omega) ho g2 hm g3 hox g4 g5.symm
  · rcases h with h | h
    · exact hw1.imm b k h
    · obtain ⟨o, x, m, _, g2, g3, g4, rfl⟩ := own1 _ h
      obtain ⟨m', e, hok⟩ := hw1.obj o x g2
      rw [g3] at e
      obtain rfl := Option.some.inj e
      exact own_lt hok g4
  · have hc := hx.trans ht (Nat.le_refl _)
    refine ⟨fun b k h => ⟨.inl (hc.imm b k h).1, (hc.imm b k h).2⟩, hc.mu, hc.size, hc.own, hc.frame, hc.os, hc.tape, hc.output, fun b k h => ?_⟩
    rcases h with h | h
    · exact hc.imr b k h
    · obtain ⟨o, x, m, _, g2, g3, g4, rfl⟩ := own1 _ h
      exact .inr (hx.own _ ⟨o, x, m, g2, g3, g4, rfl⟩)
  · exact froz_ok hwc hkp (fun b hb k => .inr hb) hf hr

theorem ld_ok {I : Im} {w : World} {μ : List Loc} {H : Heap} (hT : TOk P T) (hw : WOk I w μ H) : LdOk P I w μ (ldOf T H) := by
  intro e v d u hd hv
  obtain ⟨r, hr, rfl⟩ := Option.map_eq_some_iff.1 hd
  obtain ⟨ad, x, h1, h2, h3, _⟩ := load_spec hT hw hv hr (by rw [load_sym hr]; intro c hc; cases hc)
  exact ⟨ad, x, h1, h2, h3⟩
theorem ld_pad {H : Heap} (n : Nat) : ldOf T (H ++ List.replicate n none) = ldOf T H := by
  funext e v
  unfold ldOf
  have : hget (H ++ List.replicate n none) = hget H := funext fun o => hget_pad
  rw [this]

theorem sound (hT : TOk P T) {j : Jd} (h : Ev P T j) : Sound P j := by
  induction h with
  | skip n s =>
    intro I w μ a hw he hn
    exact wp_skip ⟨rfl, I, μ, Ext.refl .., hw, he, hn⟩
  | seqN n x y s s1 s2 e _ _ ih1 ih2 =>
    intro I w μ a hw he hn
    refine wp_seq (Code.wp_mono (fun e' a' w' h => ?_) (ih1 I w μ a hw he hn).wp)
    obtain ⟨rfl, I1, μ1, h1, h2, h3, h4⟩ := h
    exact Code.wp_mono (fun e' a' w' h => After.trans h1 h) (ih2 I1 w' μ1 a' h2 h3 h4).wp
  | seqX n x y s s1 e he' _ ih =>
    intro I w μ a hw he hn
    refine wp_seq (Code.wp_mono (fun e' a' w' h => ?_) (ih I w μ a hw he hn).wp)
    have hx := h.1
    cases e' with
    | normal => exact absurd hx.symm (Ex.to_ne he')
    | _ => exact h
  | cond n o x y s s1 e b ho _ ih =>
    intro I w μ a hw he hn
    have hb := he.opd hw o
    rw [ho] at hb
    have := (ih I w μ a hw he hn).wp
    exact wp_cond (rep_bool hb) (by cases b <;> exact this)
  | blockN n id c s s1 e he' _ ih =>
    intro I w μ a hw he hn
    refine wp_block (Code.wp_mono (fun e' a' w' h => ?_) (ih I w μ a hw he hn).wp)
    obtain ⟨rfl, h⟩ := h
    rcases he' with rfl | rfl
    · exact ⟨rfl, h⟩
    · simp only [Ex.to, Exit.inBlock, if_true]
      exact ⟨rfl, h⟩
  | blockX n id c s s1 e he1 he2 _ ih =>
    intro I w μ a hw he hn
    refine wp_block (Code.wp_mono (fun e' a' w' h => ?_) (ih I w μ a hw he hn).wp)
    have hh := h
    obtain ⟨rfl, _⟩ := h
    cases e with
    | normal => exact absurd rfl he2
    | exit id' =>
      have : id' ≠ id := fun h => he1 (by rw [h])
      simp only [Ex.to, Exit.inBlock, if_neg this]
      exact hh
    | ret => exact hh
  | loopN n c s s1 s2 e _ _ ih1 ih2 =>
    intro I w μ a hw he hn
    refine loopWp_next (Code.wp_mono (fun e' a' w' h => ?_) (ih1 I w μ a hw he hn).wp)
    obtain ⟨rfl, I1, μ1, h1, h2, h3, h4⟩ := h
    exact CodeWp.mono (c := .loop c) (fun e' a' w' h => After.trans h1 h) (ih2 I1 w' μ1 a' h2 h3 h4)
  | loopX n c s s1 e he' _ ih =>
    intro I w μ a hw he hn
    refine loopWp_next (Code.wp_mono (fun e' a' w' h => ?_) (ih I w μ a hw he hn).wp)
    have hx := h.1
    cases e' with
    | normal => exact absurd hx.symm (Ex.to_ne he')
    | _ => exact h
  | exit n id s =>
    intro I w μ a hw he hn
    exact wp_exit ⟨rfl, I, μ, Ext.refl .., hw, he, hn⟩
  | ret n s =>
    intro I w μ a hw he hn
    exact wp_ret ⟨rfl, I, μ, Ext.refl .., hw, he, hn⟩
  | keep n c s s1 e keep h hn' hh hk _ ih =>
    intro I w μ a hw he hn
    simp only [St.keepOk, Bool.and_eq_true] at hk
    have h1 := wok_take hw hh hk.2
    have h2 := env_mask he hk.1
    exact CodeWp.mono (fun e' a' w' h => After.trans (ext_take hn' hw) h) (ih I w (μ.take h) a h1 h2 (by simp only [St.keep, List.length_take]; omega))
  | pack n c s s0 s1 e keep fp hnd hlt hn' hp henv hH _ ih =>
    intro I w μ a hw he hn
    exact CodeWp.mono (fun e' a' w' h => After.trans (ext_pack hw hlt hn' hp hH) h)
      (ih I w (subMu μ fp) a (sub_ok hw hnd hlt hH) (env_pack hw he hlt henv) (by have := (renH_get hH).1; rw [List.length_map] at this; omega))
  | tokn n c env H s1 e i sz hi _ ih =>
    intro I w μ a hw he hn
    exact CodeWp.mono (fun e' a' w' h => After.trans (ext_tok hw sz) h) (ih I w _ a (wok_tok hw sz) (env_tok hw.len he hi) (by have h1 : n ≤ H.length := hn; show n ≤ (H ++ [_]).length; simp; omega))
  | region n id ops s s1 _ ih =>
    intro I w μ a hw he hn
    exact wp_region_list (ih I w μ a hw he hn _ (fun a' w' h => h))
  | opsNil n all s =>
    intro I w μ a hw he hn Q hQ
    exact hQ a w ⟨rfl, I, μ, Ext.refl .., hw, he, hn⟩
  | opsSkip n all o l s s1 hg _ ih =>
    intro I w μ a hw he hn Q hQ
    exact wpList_skip (guard_ok he hg) (ih I w μ _ hw (he.put (.pure .non)) hn Q hQ)
  | opsPrim n all o l s s1 h r hg hr hc _ ih =>
    intro I w μ a hw he hn Q hQ
    obtain ⟨nx, v, I1, w1, μ1, h1, h2, h3, h4, h5⟩ := step_ok hT hw (.inl rfl) (he.opd hw) hr hc
    have hlen := applyWr_len r.wr s.H
    have henv := (he.keeps h3.keeps (h3.muExt (Nat.le_refl _))).put (dst := o.dst) h5
    have hnext := ih I1 w1 μ1 _ h4 henv (by show n ≤ (applyWr s.H r.wr).length; omega) Q
      (fun a' w' h => hQ a' w' (After.trans (h3.mono (by rw [hw.len]; exact hn)) h))
    refine wpList_one (guard_ok he hg) ?_
    unfold Oper.wp
    rw [h1]
    rcases h2 with rfl | ⟨rfl, rfl⟩
    · exact hnext
    · exact hnext
  | opsCall n all o l s s1 c f args r H1 hg ho ht hcall' _ ih1 ih2 =>
    intro I w μ a hw he hn Q hQ
    obtain ⟨vs, q1, q2, q3⟩ := tgt_ok ht (he.opd hw) (ld_ok hT hw) o.type
    have hcall := ih1 I w μ vs hw q1 q2
    refine wpList_one (guard_ok he hg) (upon_enter ho ?_ (hcall.mono fun e w' h => ?_))
    · rw [q3]; exact callee_runs hcall'
    · obtain ⟨v, I', μ', rfl, h1, h2, h3, h4⟩ := h
      exact ⟨v, rfl, ih2 I' w' μ' _ h2 ((he.keeps h1.keeps (h1.muExt (by rw [hw.len]; exact Nat.le_refl _))).put h3) (by show n ≤ H1.length; omega) Q
        (fun a' w' h => hQ a' w' (After.trans (h1.mono hn) h))⟩
  | opsPure n all o l s s1 c f args args' r0 r H1 hg ho ht ha hf hcall' _ ih1 ih2 =>
    intro I w μ a hw he hn Q hQ
    obtain ⟨vs, q1, q2, q3⟩ := tgt_ok ht (he.opd hw) (ld_ok hT hw) o.type
    obtain ⟨p1, p2⟩ := purs_rep q1 q2 ha
    have hcall := ih1 I w [] vs (wok_nil hw) p1 (fun i d v a b => .pure (p2 i d v a b))
    refine wpList_one (guard_ok he hg) (upon_enter ho ?_ (hcall.mono fun e w' h => ?_))
    · rw [q3]; exact callee_runs hcall'
    · obtain ⟨v, I', μ', rfl, h1, h2, h3, h4⟩ := h
      obtain ⟨I2, k1, k2, k3⟩ := pure_call hw h1 h2 h3 hf
      exact ⟨v, rfl, ih2 I2 w' μ _ k1 ((he.keeps k2.keeps (MuExt.refl _)).put (.pure k3)) hn Q (fun a' w' h => hQ a' w' (After.trans (k2.mono (by rw [hw.len]; exact hn)) h))⟩
  | opsExt n all o l s s1 c f args args' r hg ho ht ha hx _ ih =>
    intro I w μ a hw he hn Q hQ
    obtain ⟨vs, q1, q2, q3⟩ := tgt_ok ht (he.opd hw) (ld_ok hT hw) o.type
    obtain ⟨p1, p2⟩ := purs_rep q1 q2 ha
    obtain ⟨v, hv, hR⟩ := hx I w vs p1 p2
    refine wpList_one (guard_ok he hg) ?_
    unfold Oper.wp
    have : execOp a.eval o = (do let d ← resolve a.eval c o.type; invoke d.target d.args) := by unfold execOp; rw [ho]
    rw [this, q3, hv]
    exact ih I w μ _ hw (he.put (.pure hR)) hn Q hQ
  | opsLook n all o l s s1 c f args args' r H1 hg ho ht ha hf hcall' _ ih1 ih2 =>
    intro I w μ a hw he hn Q hQ
    obtain ⟨vs, q1, q2, q3⟩ := tgt_ok ht (he.opd hw) (ld_ok hT hw) o.type
    obtain ⟨p1, p2⟩ := look_args hw q1 q2 ha
    have hcall := ih1 (fun b _ => b < w.heap.size) w [] vs ⟨rfl, fun o x h => by simp [hget] at h, fun o o' x x' m m' _ h => by simp [hget] at h, fun _ _ h => h, fun o m _ hm => by simp at hm, fun g => (hw.glb g).keeps ⟨fun b k hi => ⟨hw.imm b k hi, rfl⟩⟩⟩ p1 (fun i d v a b => .pure (p2 i d v a b))
    refine wpList_one (guard_ok he hg) (upon_enter ho ?_ (hcall.mono fun e w' h => ?_))
    · rw [q3]; exact callee_runs hcall'
    · obtain ⟨v, I', μ', rfl, h1, h2, h3, h4⟩ := h
      obtain ⟨k1, k2⟩ := look_call hw h1
      exact ⟨v, rfl, ih2 I w' μ _ k1 ((he.keeps k2.keeps (MuExt.refl _)).put (.pure (flat_rep hf h3))) hn Q (fun a' w' h => hQ a' w' (After.trans (k2.mono (by rw [hw.len]; exact hn)) h))⟩
  | opsFrame n all o l s s1 c k args r H1 fp h args' H0 r' W hg ho ht hf hcall' _ ih1 ih2 =>
    intro I w μ a hw he hn Q hQ
    obtain ⟨hwp, hxp⟩ := pad_ok (h - fp.length) hw
    have hlen : μ.length = s.H.length := hw.len
    have hep := he.keeps hxp.keeps (hxp.muExt (Nat.le_refl _))
    refine wpList_one (guard_ok he hg) (frame_call (s := ⟨s.env, s.H ++ List.replicate (h - fp.length) none⟩) hwp (hep.opd hwp) ho ((ld_pad (T := T) (H := s.H) (h - fp.length)).symm ▸ ht) (ld_ok hT hwp)
      (framed_congr (s' := ⟨s.env, s.H ++ List.replicate (h - fp.length) none⟩) (by simp) (fun p _ => hget_pad) hf) (fun x h1 h2 => ⟨by simp; omega, ?_⟩) hcall' ih1 (fun v I' w' μ' h1 h2 h3 => ?_))
    · rw [hget_pad]; exact hget_none.2 (.inl (List.getElem?_eq_none (by omega)))
    · have hx := hxp.trans h1 (by rw [hlen]; simp)
      exact ih2 I' w' μ' _ h2 ((hep.keeps h1.keeps (h1.muExt (by rw [hwp.len]; exact Nat.le_refl _))).put h3) (by show n ≤ (setAll _ _).length; rw [setAll_len]; simp; omega) Q
        (fun a' w' h => hQ a' w' (After.trans (hx.mono (by rw [hlen]; exact hn)) h))
  | draw n id ops s K m Ls hl hK hm ho h ih =>
    intro I w μ a hw he hn
    obtain ⟨hw1, hx1⟩ := drawn_ok (w.drawn + 1) μ.length hw
    obtain ⟨hwp, hxp⟩ := pad_ok (ops.size * K) hw1
    have hO := orderB_spec ho
    have hx := hx1.trans hxp (Nat.le_refl _)
    have hep := he.keeps hx.keeps (hx.muExt (Nat.le_refl _))
    have hnone : ∀ (l : List (Nat × Oper × Lab)) (u : St), runSet l (fun _ => false) u = u := by
      intro l
      induction l with
      | nil => intro u; rfl
      | cons p l ih => intro u; simp [runSet, ih]
    have hemp : (fun k => (Array.replicate ops.size false).getD k false) = fun _ => false := by
      funext k
      simp only [Array.getD]
      split <;> simp
    refine wp_region_any hm (draw_any (n := n) (I := I) (w := w) (μ := μ) (Hb := s.H) hO hl hK ih (by simp) (fun x hx => ?_) hn (fun I' w' μ' a' h1 h2 h3 => ?_) ops.size _ I { w with drawn := w.drawn + 1 }
      (μ ++ List.replicate (ops.size * K) ⟨0, 0, 0, 0, false⟩) a (by simp) ?_ ?_ ?_ ?_ ?_)
    · rw [hget_pad]; exact hget_none.2 (.inl (List.getElem?_eq_none hx))
    · exact ⟨rfl, I', μ', h1, h2, h3, by rw [(runSet_len _ _ _).2]; simp; omega⟩
    · rw [Array.toList_replicate, List.count_replicate]; simp
    · rw [hemp]; intro k hk; cases hk
    · rw [hemp, hnone]; exact hx.mono (by rw [hw.len]; exact hn)
    · rw [hemp, hnone]; exact hwp
    · rw [hemp, hnone]; exact hep
  | labSkip all o f K s hg =>
    intro s' hlen hlook hrd I w μ a hw he hK hf hfree
    exact .inl ⟨guard_ok he (guard_looks hlook hg), rfl, rfl⟩
  | labPrim all o f K s h r hg hr hc hk =>
    intro s' hlen hlook hrd I w μ a hw he hK hf hfree
    have hops := opd_looks hlook
    have hr' : stepF T o (opd s'.env) (hget s'.H) f h = some r := by
      rw [← hr]
      refine stepF_congr hops (fun p hp => hget_of (hrd p ?_))
      rw [← rdsF_congr hops]; exact hp
    obtain ⟨nx, v, I1, w1, μ1, h1, h2, h3, h4, h5⟩ := step_ok hT hw (.inr ⟨by omega, hfree f (Nat.le_refl _) (by omega), rfl⟩) (he.opd hw) hr' hc
    rw [applyWr_eq (fun x hx => by rw [hlen]; exact hk x hx)] at h3 h4
    refine .inr ⟨guard_ok he (guard_looks hlook hg), fun next Q hnext => ?_⟩
    have hn2 := hnext v I1 w1 μ1 (h3.mono (by rw [hw.len]; exact Nat.le_refl _)) h4 h5
    unfold Oper.wp
    rw [h1]
    rcases h2 with rfl | ⟨rfl, rfl⟩
    · exact hn2
    · exact hn2
  | labPure all o f K s c k args args' r0 r H1 hg ho ht ha hf' hcall' ih =>
    intro s' hlen hlook hrd I w μ a hw he hK hf hfree
    have hops := opd_looks hlook
    have ht' := tgt_congr (fun x hx => hops x (by rw [ho]; exact hx)) ht
    obtain ⟨vs, q1, q2, q3⟩ := tgt_ok ht' (he.opd hw) noLd_ok o.type
    obtain ⟨p1, p2⟩ := purs_rep q1 q2 ha
    have hcall := ih I w [] vs (wok_nil hw) p1 (fun i d v a b => .pure (p2 i d v a b))
    refine .inr ⟨guard_ok he (guard_looks hlook hg), fun next Q hnext => upon_enter ho ?_ (hcall.mono fun e w' h => ?_)⟩
    · rw [q3]; exact callee_runs hcall'
    · obtain ⟨v, I', μ', rfl, h1, h2, h3, h4⟩ := h
      obtain ⟨I2, k1, k2, k3⟩ := pure_call hw h1 h2 h3 hf'
      exact ⟨v, rfl, hnext v I2 w' μ (k2.mono (by rw [hw.len]; exact Nat.le_refl _)) k1 (.pure k3)⟩
  | labExt all o f K s c k args args' r hg ho ht ha hx =>
    intro s' hlen hlook hrd I w μ a hw he hK hf hfree
    have hops := opd_looks hlook
    have ht' := tgt_congr (fun x hx => hops x (by rw [ho]; exact hx)) ht
    obtain ⟨vs, q1, q2, q3⟩ := tgt_ok ht' (he.opd hw) noLd_ok o.type
    obtain ⟨p1, p2⟩ := purs_rep q1 q2 ha
    obtain ⟨v, hv, hR⟩ := hx I w vs p1 p2
    refine .inr ⟨guard_ok he (guard_looks hlook hg), fun next Q hnext => ?_⟩
    have hn2 := hnext v I w μ (Ext.refl ..) hw (.pure hR)
    unfold Oper.wp
    have : execOp a.eval o = (do let d ← resolve a.eval c o.type; invoke d.target d.args) := by unfold execOp; rw [ho]
    rw [this, q3, hv]
    exact hn2
  | labLook all o f K s c k args args' r H1 hg ho ht ha hf' hcall' ih =>
    intro s' hlen hlook hrd I w μ a hw he hK hf hfree
    have hops := opd_looks hlook
    have ht' := tgt_congr (fun x hx => hops x (by rw [ho]; exact hx)) ht
    obtain ⟨vs, q1, q2, q3⟩ := tgt_ok ht' (he.opd hw) noLd_ok o.type
    have ha' : FrozAll s'.H args args' := ⟨ha.1, fun i d e h1 h2 => froz_congr (ha.2 i d e h1 h2) (fun p hp => hget_of (hrd p (views_mem (List.mem_of_getElem? h1) hp)))⟩
    obtain ⟨p1, p2⟩ := look_args hw q1 q2 ha'
    have hcall := ih (fun b _ => b < w.heap.size) w [] vs ⟨rfl, fun o x h => by simp [hget] at h, fun o o' x x' m m' _ h => by simp [hget] at h, fun _ _ h => h, fun o m _ hm => by simp at hm, fun g => (hw.glb g).keeps ⟨fun b k hi => ⟨hw.imm b k hi, rfl⟩⟩⟩ p1 (fun i d v a b => .pure (p2 i d v a b))
    refine .inr ⟨guard_ok he (guard_looks hlook hg), fun next Q hnext => upon_enter ho ?_ (hcall.mono fun e w' h => ?_)⟩
    · rw [q3]; exact callee_runs hcall'
    · obtain ⟨v, I', μ', rfl, h1, h2, h3, h4⟩ := h
      obtain ⟨k1, k2⟩ := look_call hw h1
      exact ⟨v, rfl, hnext v I w' μ (k2.mono (by rw [hw.len]; exact Nat.le_refl _)) k1 (.pure (flat_rep hf' h3))⟩
  | labFrame all o f K s c k args r H1 fp h args' H0 r' W hg ho ht hf' hK' hcall' ih =>
    intro s' hlen hlook hrd I w μ a hw he hK hf hfree
    have hops := opd_looks hlook
    have ht' := tgt_congr (fun x hx => hops x (by rw [ho]; exact hx)) ht
    refine .inr ⟨guard_ok he (guard_looks hlook hg), fun next Q hnext => ?_⟩
    exact frame_call hw (he.opd hw) ho ht' noLd_ok (framed_congr (by omega) (fun p hp => hget_of (hrd p hp)) hf') (fun x h1 h2 => by
      simp only at h2
      exact ⟨by omega, hfree x h1 (by omega)⟩) hcall' ih hnext
  | callPur f args H r r' H1 hp _ ih =>
    intro I w μ vs hw hl hrep
    refine (ih I w μ vs hw hl hrep).mono fun e w' h => ?_
    obtain ⟨v, I', μ', rfl, h1, h2, h3, h4⟩ := h
    exact ⟨v, I', μ', rfl, h1, h2, .pure (pur_ok hp h3), h4⟩
  | callTok f args H r H1 o i j sz sz0 es cs ho hi hj _ ih =>
    intro I w μ vs hw hl hrep
    have hlen : (H.set o (some (.row sz0 (es.set i (cs.set j (.slice false [] (some H.length))))))).length = H.length := by simp
    have hmu : MuExt μ (μ ++ [⟨0, sz, 0, 1, false⟩]) := fun o m ho => ⟨m, by rw [List.getElem?_append_left (List.getElem?_eq_some_iff.1 ho).1]; exact ho, Nat.le_refl _, fun _ => rfl, fun _ => rfl⟩
    have hw1 := wok_tok hw sz
    have hol : o < H.length := by
      rcases Nat.lt_or_ge o H.length with h | h
      · exact h
      · rw [hget, List.getD_eq_getElem?_getD, List.getElem?_eq_none h] at ho; cases ho
    have ho1 : hget (H ++ [some (HObj.tok 0 sz)]) o = some (.row sz0 es) := by
      unfold hget at ho ⊢
      rw [List.getD_eq_getElem?_getD] at ho ⊢
      rw [List.getElem?_append_left hol]; exact ho
    obtain ⟨hw2, hx2⟩ := wok_reread hw1 (d' := .slice false [] (some H.length)) ho1 hi hj (fun v hv => by
      have hv0 : v = .slice none 0 0 := by
        cases hv with
        | pure h => cases h; rfl
      subst hv0
      exact .tokN H.length ⟨0, sz, 0, 1, false⟩ (by rw [← hw.len]; simp) (Nat.le_refl _) (fun _ => rfl))
    have hset : (H ++ [some (HObj.tok 0 sz)]).set o (some (.row sz0 (es.set i (cs.set j (.slice false [] (some H.length)))))) = H.set o (some (.row sz0 (es.set i (cs.set j (.slice false [] (some H.length)))))) ++ [some (.tok 0 sz)] := List.set_append_left _ _ hol
    rw [hset] at hw2 hx2
    refine (ih I w _ vs hw2 hl (fun q d v a b => (hrep q d v a b).keeps (Keeps.refl _ _) hmu)).mono fun e w' h => ?_
    obtain ⟨v, I', μ', rfl, h1, h2, h3, h4⟩ := h
    refine ⟨v, I', μ', rfl, ((ext_tok hw sz).trans (hx2 _) (Nat.le_refl _)).trans h1 (by simp), h2, h3, by rw [List.length_append, hlen] at h4; omega⟩
  | callSkip f args args' H r0 r H1 ha hf _ ih =>
    intro I w μ vs hw hl hrep
    obtain ⟨p1, p2⟩ := purs_rep hl hrep ha
    refine (ih I w [] vs (wok_nil hw) p1 (fun i d v a b => .pure (p2 i d v a b))).mono fun e w' h => ?_
    obtain ⟨v, I', μ', rfl, h1, h2, h3, h4⟩ := h
    obtain ⟨I2, k1, k2, k3⟩ := pure_call hw h1 h2 h3 hf
    exact ⟨v, I2, μ, rfl, by rw [← hw.len]; exact k2, k1, .pure k3, Nat.le_refl _⟩
  | callCut f args H r0 r H1 hl hk hf _ ih =>
    intro I w μ vs hw hlen hrep
    refine (ih I w μ vs hw hlen hrep).mono fun e w' h => ?_
    obtain ⟨v, I', μ', rfl, h1, h2, h3, h4⟩ := h
    obtain ⟨I2, k1, k2, k3⟩ := cut_ok h1 h2 hl (Nat.le_refl _) hk h3 hf
    exact ⟨v, I2, _, rfl, k2, k1, .pure k3, by rw [List.length_take]; omega⟩
  | call f args H fn code e s1 r hf hb hnum he' hr _ ih =>
    intro I w μ vs hw hl hrep
    have hlen : (args ++ List.replicate (fn.ntmps - args.length) D.undef).length = (vs ++ Array.replicate (fn.ntmps - vs.size) Go.undef).size := by simp [hl]
    have henv : EnvOk I w μ (args ++ List.replicate (fn.ntmps - args.length) .undef) { tmps := vs ++ Array.replicate (fn.ntmps - vs.size) Go.undef, defers := [] } := by
      refine ⟨hlen, rfl, fun t d v hd hv => ?_⟩
      simp only at hv
      rw [List.getElem?_append] at hd
      rw [Array.getElem?_append] at hv
      split at hd
      · rename_i hlt; rw [if_pos (by omega)] at hv; exact hrep t d v hd hv
      · rw [List.getElem?_replicate] at hd
        split at hd
        · obtain rfl := Option.some.inj hd; exact .pure (.undef _)
        · cases hd
    refine calls_of_wp hf hb (Code.wp_mono (fun x a' w' h => ?_) (ih I w μ _ hw henv (Nat.le_refl _)).wp)
    obtain ⟨rfl, I', μ', h1, h2, h3, h4⟩ := h
    obtain ⟨v, hv, hR⟩ := res_ok hT h2 h3 hr
    have hR' : ∃ v' I' μ', Ending.returned v = .returned v' ∧ Ext H.length I w μ H I' w' μ' s1.H ∧ WOk I' w' μ' s1.H ∧ Rep I' w' μ' r v' ∧ H.length ≤ s1.H.length := ⟨v, I', μ', rfl, h1, h2, hR, h4⟩
    rcases he' with rfl | rfl
    · exact ⟨h3.def_, v, hv, hR'⟩
    · exact ⟨h3.def_, v, hv, hR'⟩

end Go.Proofs.Ytifpbdhggooelaa.GD
