/- Calls that are handed some of the objects: the way back. -/
import Derived.Test.YtifpbdhggooelaaGd21
namespace Go.Proofs.Ytifpbdhggooelaa.GD
open Go
set_option linter.unusedVariables false
set_option linter.unusedSimpArgs false

variable {P : Program} {T : Tys}
section
variable {I I1 : Im} {w w1 : World} {μ μ1 : List Loc} {H H0 H1 H1' : Heap} {fp : List Nat} {f h : Nat}

theorem back_cases {j o : Nat} (hb : back fp f h j = some o) : (j < fp.length ∧ fp[j]? = some o) ∨ (fp.length ≤ j ∧ j < h ∧ o = f + (j - fp.length)) := by
  unfold back at hb
  split at hb
  · rename_i e; exact .inl ⟨e, hb⟩
  · split at hb
    · rename_i e e2; exact .inr ⟨by omega, e2, (Option.some.inj hb).symm⟩
    · cases hb

theorem back_inj (hnd : fp.Nodup) (hout : ∀ p ∈ fp, p < f ∨ f + (h - fp.length) ≤ p) {i j o : Nat} (hi : back fp f h i = some o) (hj : back fp f h j = some o) : i = j := by
  rcases back_cases hi with ⟨a1, a2⟩ | ⟨a1, a2, a3⟩ <;> rcases back_cases hj with ⟨b1, b2⟩ | ⟨b1, b2, b3⟩
  · exact nodup_get hnd a2 b2
  · have := hout o (List.mem_of_getElem? a2); omega
  · have := hout o (List.mem_of_getElem? b2); omega
  · omega

theorem hget_none {H : Heap} {o : Nat} : hget H o = none ↔ H[o]? = none ∨ H[o]? = some none := by
  unfold hget
  rw [List.getD_eq_getElem?_getD]
  cases H[o]? <;> simp

theorem join_ok (hw : WOk I w μ H) (hx : Ext H0.length I w (subMu μ fp) H0 I1 w1 μ1 H1) (hw1 : WOk I1 w1 μ1 H1) (hnd : fp.Nodup) (hlt : ∀ p ∈ fp, p < H.length)
    (hout : ∀ p ∈ fp, p < f ∨ f + (h - fp.length) ≤ p) (hle : fp.length ≤ h) (h0 : renH (idx fp 0) (fp.map (hget H)) = some H0)
    (hfree : ∀ x, f ≤ x → x < f + (h - fp.length) → x < H.length ∧ hget H x = none) (hlen0 : H0.length ≤ H1.length) (hw' : renH (back fp f h) (H1.take h) = some H1') :
    ∃ μ', WOk I1 w1 μ' (setAll H (wrB (back fp f h) 0 H1')) ∧ Ext H.length I w μ H I1 w1 μ' (setAll H (wrB (back fp f h) 0 H1')) ∧
      ∀ d v d', Rep I1 w1 μ1 d v → ren (back fp f h) d = some d' → Rep I1 w1 μ' d' v := by
  have hfl : H0.length = fp.length := by have := (renH_get h0).1; simpa using this
  have hrange : ∀ j o, back fp f h j = some o → o < H.length ∧ j < h := by
    intro j o hb
    rcases back_cases hb with ⟨a1, a2⟩ | ⟨a1, a2, a3⟩
    · exact ⟨hlt o (List.mem_of_getElem? a2), by omega⟩
    · exact ⟨(hfree o (by omega) (by omega)).1, a2⟩
  have hinj : ∀ i j o, back fp f h i = some o → back fp f h j = some o → i = j := fun i j o => back_inj hnd hout
  generalize hρ : back fp f h = ρ at *
  have hmuget : ∀ j o m, ρ j = some o → μ1[j]? = some m → (setAll μ (wrB ρ 0 (μ1.take h)))[o]? = some m := by
    intro j o m hj hm
    obtain ⟨r1, r2⟩ := hrange j o hj
    refine setAll_mem (wrB_mem.2 ⟨j, by rw [List.getElem?_take, if_pos r2, hm], by simpa using hj⟩) (fun y hy => ?_) (by rw [hw.len]; exact r1)
    obtain ⟨i, h1, h2⟩ := wrB_mem.1 hy
    rw [Nat.zero_add] at h2
    obtain rfl := hinj i j o h2 hj
    rw [List.getElem?_take, if_pos r2, hm] at h1
    exact (Option.some.inj h1).symm
  obtain ⟨hl1, hren⟩ := renH_get hw'
  have hl1' : H1'.length = min h H1.length := by rw [hl1, List.length_take]
  have hHget : ∀ j o, ρ j = some o → j < H1.length → ∃ x, H1'[j]? = some x ∧ (setAll H (wrB ρ 0 H1'))[o]? = some x ∧ renO ρ (hget H1 j) = some x := by
    intro j o hj hlt1
    obtain ⟨r1, r2⟩ := hrange j o hj
    have hjl : j < H1'.length := by omega
    have he : H1'[j]? = some H1'[j] := List.getElem?_eq_getElem hjl
    obtain ⟨d, g1, g2⟩ := hren j _ he
    have hd : hget H1 j = d := by
      rw [List.getElem?_take, if_pos r2] at g1
      unfold hget
      rw [List.getD_eq_getElem?_getD, g1]
      rfl
    refine ⟨_, he, setAll_mem (wrB_mem.2 ⟨j, he, by simpa using hj⟩) (fun y hy => ?_) r1, by rw [hd]; exact g2⟩
    obtain ⟨i, h1, h2⟩ := wrB_mem.1 hy
    rw [Nat.zero_add] at h2
    obtain rfl := hinj i j o h2 hj
    rw [he] at h1
    exact (Option.some.inj h1).symm
  have hnot : ∀ o, (∀ j, j < H1.length → ρ j ≠ some o) → (setAll μ (wrB ρ 0 (μ1.take h)))[o]? = μ[o]? ∧ hget (setAll H (wrB ρ 0 H1')) o = hget H o := by
    intro o ho
    constructor
    · refine setAll_not (fun x hx' => ?_)
      obtain ⟨i, h1, h2⟩ := wrB_mem.1 hx'
      rw [Nat.zero_add] at h2
      refine ho i ?_ h2
      have := (List.getElem?_eq_some_iff.1 h1).1
      rw [List.length_take, hw1.len] at this
      omega
    · have : (setAll H (wrB ρ 0 H1'))[o]? = H[o]? := setAll_not (fun x hx' => by
        obtain ⟨i, h1, h2⟩ := wrB_mem.1 hx'
        rw [Nat.zero_add] at h2
        refine ho i ?_ h2
        have := (List.getElem?_eq_some_iff.1 h1).1
        omega)
      unfold hget
      rw [List.getD_eq_getElem?_getD, List.getD_eq_getElem?_getD, this]
  have hcase : ∀ o, (∃ j, j < H1.length ∧ ρ j = some o) ∨ (∀ j, j < H1.length → ρ j ≠ some o) := by
    intro o
    by_cases h : ∃ j, j < H1.length ∧ ρ j = some o
    · exact .inl h
    · exact .inr (fun j hj he => h ⟨j, hj, he⟩)
  have hsomeget : ∀ j o x', ρ j = some o → j < H1.length → hget (setAll H (wrB ρ 0 H1')) o = some x' →
      ∃ y m, hget H1 j = some y ∧ μ1[j]? = some m ∧ ObjOk I1 w1 μ1 m y ∧ renO ρ (some y) = some (some x') ∧ (setAll μ (wrB ρ 0 (μ1.take h)))[o]? = some m := by
    intro j o x' hj hlt1 hx'
    obtain ⟨x, g1, g2, g3⟩ := hHget j o hj hlt1
    rw [hget_getElem?, g2] at hx'
    obtain rfl := Option.some.inj hx'
    obtain ⟨y, e, hy⟩ := renO_some g3
    obtain ⟨m, hm, hok⟩ := hw1.obj j y e
    exact ⟨y, m, e, hm, hok, hy, hmuget j o m hj hm⟩
  have hfpmap : ∀ p ∈ fp, ∃ j, j < H1.length ∧ ρ j = some p := by
    intro p hp
    obtain ⟨j, hj, e⟩ := List.getElem_of_mem hp
    refine ⟨j, by omega, ?_⟩
    rw [← hρ]
    unfold back
    rw [if_pos hj, List.getElem?_eq_getElem hj, e]
  have hmu : MuExt μ (setAll μ (wrB ρ 0 (μ1.take h))) := by
    intro o m hm
    rcases hcase o with ⟨j, hj, hb⟩ | hno
    · have hb' := hb
      rw [← hρ] at hb'
      rcases back_cases hb' with ⟨a1, a2⟩ | ⟨a1, a2, a3⟩
      · have h1 : (subMu μ fp)[j]? = some m := by rw [subMu_get (fun p hp => by rw [hw.len]; exact hlt p hp) a2, hm]
        obtain ⟨m', e1, e2, e3, e4⟩ := hx.mu j m (by omega) h1
        exact ⟨m', hmuget j o m' hb e1, e2, e3, e4⟩
      · obtain ⟨q1, q2⟩ := hw.dum o m (hfree o (by omega) (by omega)).2 hm
        have hj' : j < μ1.length := by rw [hw1.len]; exact hj
        refine ⟨μ1[j], hmuget j o _ hb (List.getElem?_eq_getElem hj'), by omega, fun h => ?_, fun h => by omega⟩
        rcases h with h | h
        · omega
        · rw [q2] at h; cases h
    · exact ⟨m, by rw [(hnot o hno).1]; exact hm, Nat.le_refl _, fun _ => rfl, fun _ => rfl⟩
  have hno_own : ∀ o x m, (∀ j, j < H1.length → ρ j ≠ some o) → hget H o = some x → μ[o]? = some m → x.owns m = true → ¬ Own H0 (subMu μ fp) m.b := by
    intro o x m hno hxo hm ho hown
    obtain ⟨p, y, n, p1, p2, p3, p4, p5⟩ := sub_own hw hlt h0 hown
    obtain ⟨j, hj, hb⟩ := hfpmap p p1
    refine hw.inj o p x y m n (fun e => ?_) hxo p2 hm p3 ho p4 p5.symm
    subst e
    exact hno j hj hb
  have hownlt : ∀ o x m, hget H o = some x → μ[o]? = some m → x.owns m = true → m.b < w.heap.size := by
    intro o x m hxo hm ho
    obtain ⟨m', e, hok⟩ := hw.obj o x hxo
    rw [hm] at e
    obtain rfl := Option.some.inj e
    exact own_lt hok ho
  refine ⟨setAll μ (wrB ρ 0 (μ1.take h)), ⟨?_, fun o x' hx' => ?_, fun o o' x x' m m' hne hx' hx'' hm hm' o1 o2 => ?_, hw1.imm, fun o m hn hm => ?_, hw1.glb⟩,
    ⟨hx.imm, fun o m _ hm => hmu o m hm, hx.size, fun b hb => ?_, fun b hb hn => hx.frame b hb (fun h => ?_), hx.os, hx.tape, hx.output, fun b k h => ?_⟩, fun d v d' hr hd => ren_ok hmuget hr hd⟩
  · rw [setAll_len, setAll_len, hw.len]
  · rcases hcase o with ⟨j, hj, hb⟩ | hno
    · obtain ⟨y, m, _, _, hok, hy, hm⟩ := hsomeget j o x' hb hj hx'
      exact ⟨m, hm, (renO_ok hmuget hy hok).1⟩
    · obtain ⟨e1, e2⟩ := hnot o hno
      rw [e2] at hx'
      obtain ⟨m, hm, hok⟩ := hw.obj o x' hx'
      refine ⟨m, by rw [e1]; exact hm, objOk_keep hok hx.keeps hmu (fun ho => ?_)⟩
      have hlt2 := own_lt hok ho
      have hno2 := hno_own o x' m hno hx' hm ho
      exact ⟨hx.frame _ hlt2 hno2, fun k hk => by
        rcases hx.imr _ _ hk with h | h | h
        · exact h
        · exact absurd h hno2
        · omega⟩
  · rcases hcase o with ⟨j, hj, hb⟩ | hno <;> rcases hcase o' with ⟨j', hj', hb'⟩ | hno'
    · obtain ⟨y, n, a1, a2, a3, a4, a5⟩ := hsomeget j o x hb hj hx'
      obtain ⟨y', n', b1, b2, b3, b4, b5⟩ := hsomeget j' o' x' hb' hj' hx''
      rw [hm] at a5; obtain rfl := Option.some.inj a5
      rw [hm'] at b5; obtain rfl := Option.some.inj b5
      refine hw1.inj j j' y y' m m' (fun e => ?_) a1 b1 a2 b2 ((renO_ok hmuget a4 a3).2 ▸ o1) ((renO_ok hmuget b4 b3).2 ▸ o2)
      subst e
      rw [hb] at hb'
      exact hne (Option.some.inj hb')
    · obtain ⟨y, n, a1, a2, a3, a4, a5⟩ := hsomeget j o x hb hj hx'
      rw [hm] at a5; obtain rfl := Option.some.inj a5
      obtain ⟨e1, e2⟩ := hnot o' hno'
      rw [e1] at hm'
      rw [e2] at hx''
      have hl := hownlt o' x' m' hx'' hm' o2
      intro e
      rcases hx.own m.b ⟨j, y, m, a1, a2, (renO_ok hmuget a4 a3).2 ▸ o1, rfl⟩ with h | h
      · exact hno_own o' x' m' hno' hx'' hm' o2 (e ▸ h)
      · omega
    · obtain ⟨y, n, a1, a2, a3, a4, a5⟩ := hsomeget j' o' x' hb' hj' hx''
      rw [hm'] at a5; obtain rfl := Option.some.inj a5
      obtain ⟨e1, e2⟩ := hnot o hno
      rw [e1] at hm
      rw [e2] at hx'
      have hl := hownlt o x m hx' hm o1
      intro e
      rcases hx.own m'.b ⟨j', y, m', a1, a2, (renO_ok hmuget a4 a3).2 ▸ o2, rfl⟩ with h | h
      · exact hno_own o x m hno hx' hm o1 (e ▸ h)
      · omega
    · obtain ⟨e1, e2⟩ := hnot o hno
      obtain ⟨e1', e2'⟩ := hnot o' hno'
      rw [e1] at hm; rw [e2] at hx'; rw [e1'] at hm'; rw [e2'] at hx''
      exact hw.inj o o' x x' m m' hne hx' hx'' hm hm' o1 o2
  · rcases hcase o with ⟨j, hj, hb⟩ | hno
    · obtain ⟨x, g1, g2, g3⟩ := hHget j o hb hj
      have hxn : x = none := by
        rcases hget_none.1 hn with h | h
        · rw [g2] at h; cases h
        · rw [g2] at h; exact Option.some.inj h
      subst hxn
      have hn1 := renO_none g3
      have hj' : j < μ1.length := by rw [hw1.len]; exact hj
      have hm1 := hmuget j o _ hb (List.getElem?_eq_getElem hj')
      rw [hm] at hm1
      obtain rfl := Option.some.inj hm1
      exact hw1.dum j _ hn1 (List.getElem?_eq_getElem hj')
    · obtain ⟨e1, e2⟩ := hnot o hno
      rw [e1] at hm
      rw [e2] at hn
      exact hw.dum o m hn hm
  · obtain ⟨o, x', m, hx', hm, ho, rfl⟩ := hb
    rcases hcase o with ⟨j, hj, hb⟩ | hno
    · obtain ⟨y, n, a1, a2, a3, a4, a5⟩ := hsomeget j o x' hb hj hx'
      rw [hm] at a5; obtain rfl := Option.some.inj a5
      rcases hx.own m.b ⟨j, y, m, a1, a2, (renO_ok hmuget a4 a3).2 ▸ ho, rfl⟩ with h | h
      · obtain ⟨p, y', n, p1, p2, p3, p4, p5⟩ := sub_own hw hlt h0 h
        exact .inl ⟨p, y', n, p2, p3, p4, p5⟩
      · exact .inr h
    · obtain ⟨e1, e2⟩ := hnot o hno
      rw [e1] at hm
      rw [e2] at hx'
      exact .inl ⟨o, x', m, hx', hm, ho, rfl⟩
  · obtain ⟨p, y', n, p1, p2, p3, p4, p5⟩ := sub_own hw hlt h0 h
    exact hn ⟨p, y', n, p2, p3, p4, p5⟩
  · rcases hx.imr b k h with h | h | h
    · exact .inl h
    · obtain ⟨p, y', n, p1, p2, p3, p4, p5⟩ := sub_own hw hlt h0 h
      exact .inr (.inl ⟨p, y', n, p2, p3, p4, p5⟩)
    · exact .inr (.inr h)

/-- Room for names that are not yet taken. -/
theorem pad_ok (n : Nat) (hw : WOk I w μ H) : WOk I w (μ ++ List.replicate n ⟨0, 0, 0, 0, false⟩) (H ++ List.replicate n none) ∧
    Ext μ.length I w μ H I w (μ ++ List.replicate n ⟨0, 0, 0, 0, false⟩) (H ++ List.replicate n none) := by
  have hg : ∀ o, hget (H ++ List.replicate n none) o = hget H o := by
    intro o
    unfold hget
    rw [List.getD_eq_getElem?_getD, List.getD_eq_getElem?_getD, List.getElem?_append]
    split
    · rfl
    · rename_i h
      rw [List.getElem?_eq_none (Nat.le_of_not_lt h), List.getElem?_replicate]
      split <;> rfl
  have hm : ∀ (o : Nat) m, μ[o]? = some m → (μ ++ List.replicate n (⟨0, 0, 0, 0, false⟩ : Loc))[o]? = some m := by
    intro o m h
    rw [List.getElem?_append, if_pos (List.getElem?_eq_some_iff.1 h).1, h]
  have hsome : ∀ (o : Nat) x m, hget H o = some x → (μ ++ List.replicate n (⟨0, 0, 0, 0, false⟩ : Loc))[o]? = some m → μ[o]? = some m := by
    intro o x m h1 h2
    obtain ⟨m', e, _⟩ := hw.obj o x h1
    rw [hm o m' e] at h2
    obtain rfl := Option.some.inj h2
    exact e
  have hmu : MuExt μ (μ ++ List.replicate n ⟨0, 0, 0, 0, false⟩) := fun o m h => ⟨m, hm o m h, Nat.le_refl _, fun _ => rfl, fun _ => rfl⟩
  refine ⟨⟨by simp [hw.len], fun o x hx => ?_, fun o o' x x' m m' hne hx hx' h h' => ?_, hw.imm, fun o m hn h => ?_, hw.glb⟩,
    ⟨fun _ _ h => ⟨h, rfl⟩, fun o m _ h => hmu o m h, Nat.le_refl _, fun b hb => ?_, fun _ _ _ => rfl, rfl, rfl, rfl, fun _ _ h => .inl h⟩⟩
  · rw [hg] at hx
    obtain ⟨m, h1, h2⟩ := hw.obj o x hx
    exact ⟨m, hm o m h1, objOk_keep h2 (Keeps.refl _ _) hmu (fun _ => ⟨rfl, fun _ h => h⟩)⟩
  · rw [hg] at hx hx'
    exact hw.inj o o' x x' m m' hne hx hx' (hsome o x m hx h) (hsome o' x' m' hx' h')
  · rw [hg] at hn
    rw [List.getElem?_append] at h
    split at h
    · exact hw.dum o m hn h
    · rw [List.getElem?_replicate] at h
      split at h
      · obtain rfl := Option.some.inj h; exact ⟨rfl, rfl⟩
      · cases h
  · obtain ⟨o, x, m, h1, h2, h3, h4⟩ := hb
    rw [hg] at h1
    exact .inl ⟨o, x, m, h1, hsome o x m h1 h2, h3, h4⟩

theorem hget_pad {n o : Nat} : hget (H ++ List.replicate n none) o = hget H o := by
  unfold hget
  rw [List.getD_eq_getElem?_getD, List.getD_eq_getElem?_getD, List.getElem?_append]
  split
  · rfl
  · rename_i h
    rw [List.getElem?_eq_none (Nat.le_of_not_lt h), List.getElem?_replicate]
    split <;> rfl

/-- The arguments of such a call. -/
theorem frame_args {fp : List Nat} {args args' : List D} {vs : Array Value} (hw : WOk I w μ H) (hlt : ∀ p ∈ fp, p < H.length) (hl : args.length = vs.size)
    (hr : ∀ (i : Nat) d v, args[i]? = some d → vs[i]? = some v → Rep I w μ d v) (ha : rens (idx fp 0) args = some args') :
    args'.length = vs.size ∧ ∀ (i : Nat) d v, args'[i]? = some d → vs[i]? = some v → Rep I w (subMu μ fp) d v := by
  obtain ⟨h1, h2⟩ := rens_get ha
  refine ⟨by omega, fun i d v hd hv => ?_⟩
  obtain ⟨d0, e1, e2⟩ := h2 i d hd
  exact ren_ok (sub_hmu hw hlt) (hr i d0 v e1 hv) e2

end
end Go.Proofs.Ytifpbdhggooelaa.GD
