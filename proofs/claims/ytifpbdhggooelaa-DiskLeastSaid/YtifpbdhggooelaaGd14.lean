/- One operation on data is what the machine does: any operation that calls no function. -/
import Derived.Test.YtifpbdhggooelaaGd36
namespace Go.Proofs.Ytifpbdhggooelaa.GD
open Go
set_option linter.unusedVariables false
set_option linter.unusedSimpArgs false

variable {P : Program} {T : Tys}
section
variable {I : Im} {w : World} {μ : List Loc} {H : Heap}

theorem good_nilCheck {x : D} {v : Value} {r : SR} (hx : Rep I w μ x v) (hr : nilCheckF x = some r) :
    ((∃ a, v = .pointer (some a)) ∨ (∃ f a b, v = .func (.func f) a b) ∨ ∃ t u, v = .iface t u) ∧ r.wr = [] ∧ Rep I w μ r.v v := by
  unfold nilCheckF at hr
  split at hr
  · obtain rfl := Option.some.inj hr
    obtain ⟨m, hm, hf, rfl⟩ := rep_ptr hx
    exact ⟨.inl ⟨_, rfl⟩, rfl, hx⟩
  · obtain rfl := Option.some.inj hr
    obtain ⟨a, f, rfl, h1, h2⟩ := rep_sptr hx
    exact ⟨.inl ⟨_, rfl⟩, rfl, hx⟩
  · obtain rfl := Option.some.inj hr
    obtain ⟨vs, us, rfl, a, b, c, d⟩ := rep_func hx
    exact ⟨.inr (.inl ⟨_, _, _, rfl⟩), rfl, hx⟩
  · obtain rfl := Option.some.inj hr
    obtain ⟨u, rfl, h⟩ := rep_iface hx
    exact ⟨.inr (.inr ⟨_, _, rfl⟩), rfl, hx⟩
  · cases hr

theorem good_builtin {b : Builtin} {ts : Array TypeId} {ty : TypeId} {consts : Array Bool} {args : Array Operand} {ρ : Operand → D} {ev : Operand → Value} {f : Nat} {h : Hint} {r : SR} (hT : TOk P T) (hw : WOk I w μ H) (hf : FreshOk μ H f)
    (ha : ∀ x ∈ args.toList, Rep I w μ (ρ x) (ev x)) (hr : builtinF T b ts.toList (args.toList.map ρ) (hget H) f h = some r) (hc : ∀ c ∈ r.cs, c) :
    Good P (builtin b ts ty consts (args.map ev)) I w μ H r := by
  unfold builtinF at hr
  split at hr
  · -- len of a map
    rename_i t ts' o rest ht hx
    obtain ⟨x0, xs, hargs, hx0, _⟩ : ∃ x0 xs, args.toList = x0 :: xs ∧ ρ x0 = .mapp o ∧ xs.map ρ = rest := by
      cases h' : args.toList with
      | nil => rw [h'] at hx; cases hx
      | cons a l => rw [h'] at hx; injection hx with e1 e2; exact ⟨a, l, rfl, e1, e2⟩
    have h1 : ts[0]? = some t := by rw [← Array.getElem?_toList, ht]; rfl
    have h2 : (args.map ev)[0]? = some (ev x0) := by rw [← Array.getElem?_toList, Array.toList_map, hargs]; rfl
    exact (good_lenM (P := P) (ty := ty) hT hw h1 h2 (by have := ha x0 (by rw [hargs]; simp); rw [hx0] at this; exact this) hr).good
  · -- len
    rename_i t ts' x rest _ ht hx
    obtain ⟨x0, xs, hargs, hx0, _⟩ : ∃ x0 xs, args.toList = x0 :: xs ∧ ρ x0 = x ∧ xs.map ρ = rest := by
      cases h' : args.toList with
      | nil => rw [h'] at hx; cases hx
      | cons a l => rw [h'] at hx; injection hx with e1 e2; exact ⟨a, l, rfl, e1, e2⟩
    have h1 : ts[0]? = some t := by rw [← Array.getElem?_toList, ht]; rfl
    have h2 : (args.map ev)[0]? = some (ev x0) := by rw [← Array.getElem?_toList, Array.toList_map, hargs]; rfl
    have := good_len (P := P) (ty := ty) hT hw h1 h2 (by have := ha x0 (by rw [hargs]; simp); rw [hx0] at this; exact this) hr
    exact this.good
  · -- delete
    rename_i t ts' x ix ht hx
    obtain ⟨s0, x0, hargs, hs0, hx0⟩ : ∃ s0 x0, args.toList = [s0, x0] ∧ ρ s0 = x ∧ ρ x0 = ix := by
      match h' : args.toList with
      | [] => rw [h'] at hx; cases hx
      | [a] => rw [h'] at hx; cases hx
      | [a, b] => rw [h'] at hx; simp at hx; exact ⟨a, b, rfl, hx.1, hx.2⟩
      | a :: b :: c :: l => rw [h'] at hx; simp at hx
    have h1 : ts[0]? = some t := by rw [← Array.getElem?_toList, ht]; rfl
    have e2 : args.map ev = #[ev s0, ev x0] := by apply Array.ext'; rw [Array.toList_map, hargs]; rfl
    have hR1 := ha s0 (by rw [hargs]; simp)
    have hR2 := ha x0 (by rw [hargs]; simp)
    rw [hs0] at hR1
    rw [hx0] at hR2
    rw [e2]
    exact (good_delete (P := P) (ty := ty) hT hw h1 hR1 hR2 hr hc).good
  · -- append
    rename_i t u s x ht hx
    obtain ⟨s0, x0, hargs, hs0, hx0⟩ : ∃ s0 x0, args.toList = [s0, x0] ∧ ρ s0 = s ∧ ρ x0 = x := by
      match h' : args.toList with
      | [] => rw [h'] at hx; cases hx
      | [a] => rw [h'] at hx; cases hx
      | [a, b] => rw [h'] at hx; simp at hx; exact ⟨a, b, rfl, hx.1, hx.2⟩
      | a :: b :: c :: l => rw [h'] at hx; simp at hx
    have e1 : ts = #[t, u] := by apply Array.ext'; rw [ht]
    have e2 : args.map ev = #[ev s0, ev x0] := by apply Array.ext'; rw [Array.toList_map, hargs]; rfl
    have hR1 := ha s0 (by rw [hargs]; simp)
    have hR2 := ha x0 (by rw [hargs]; simp)
    rw [hs0] at hR1
    rw [hx0] at hR2
    split at hr
    · rename_i y hy
      split at hr
      · cases hr
      · rename_i hnu
        have hu : ∃ du, P.underlying u = some du ∧ ∀ k, du ≠ .int k := by
          obtain ⟨i, d, hi, hd, hk, _⟩ := ty_of hT hy
          refine ⟨d, hd, ?_⟩
          rintro k rfl
          exact hnu k hk
        rw [e1, e2]
        exact (good_append (ty := ty) hT hw hf hR1 hR2 hu hr hc).good
    · cases hr
  · -- copy
    rename_i t ts' d s ht hx
    obtain ⟨s0, x0, hargs, hs0, hx0⟩ : ∃ s0 x0, args.toList = [s0, x0] ∧ ρ s0 = d ∧ ρ x0 = s := by
      match h' : args.toList with
      | [] => rw [h'] at hx; cases hx
      | [a] => rw [h'] at hx; cases hx
      | [a, b] => rw [h'] at hx; simp at hx; exact ⟨a, b, rfl, hx.1, hx.2⟩
      | a :: b :: c :: l => rw [h'] at hx; simp at hx
    have e2 : args.map ev = #[ev s0, ev x0] := by apply Array.ext'; rw [Array.toList_map, hargs]; rfl
    have hR1 := ha s0 (by rw [hargs]; simp)
    have hR2 := ha x0 (by rw [hargs]; simp)
    rw [hs0] at hR1
    rw [hx0] at hR2
    rw [e2]
    have key := good_copy (u := 0) (ty := ty) hT hw hR1 hR2 hr hc
    have e3 : Builtin.copy_ ts ty #[ev s0, ev x0] = Builtin.copy_ #[t, 0] ty #[ev s0, ev x0] := by
      have h1 : ts[0]? = some t := by rw [← Array.getElem?_toList, ht]; rfl
      simp only [Builtin.copy_, h1, List.getElem?_toArray, List.getElem?_cons_zero]
    show Good P (do pure (Next.value (← Builtin.copy_ ts ty #[ev s0, ev x0]))) I w μ H r
    rw [e3]
    exact key.good
  · -- min
    rename_i x rest hx
    obtain ⟨x0, xs, hargs, hx0, hxs⟩ : ∃ x0 xs, args.toList = x0 :: xs ∧ ρ x0 = x ∧ xs.map ρ = rest := by
      cases h' : args.toList with
      | nil => rw [h'] at hx; cases hx
      | cons a l => rw [h'] at hx; injection hx with e1 e2; exact ⟨a, l, rfl, e1, e2⟩
    obtain ⟨d, hd, rfl⟩ := Option.map_eq_some_iff.1 hr
    subst hx0; subst hxs
    obtain ⟨u, hu, hR⟩ := fold_ok (I := I) (w := w) (μ := μ) (P := P) (g := Builtin.min2) (fun a b c va vb => min_ok) _ (xs.map ev) (ρ x0) d (ev x0) hd (ha x0 (by rw [hargs]; simp)) (by simp)
      (rep_list (fun y hy => ha y (by rw [hargs]; exact List.mem_cons_of_mem _ hy)))
    refine (goodV_same (s := Builtin.min_ ts ty (args.map ev)) (v := u) hw ?_ rfl hR).good
    simp only [Builtin.min_, Array.toList_map, hargs, List.map_cons]
    exact hu
  · rename_i x rest hx
    obtain ⟨x0, xs, hargs, hx0, hxs⟩ : ∃ x0 xs, args.toList = x0 :: xs ∧ ρ x0 = x ∧ xs.map ρ = rest := by
      cases h' : args.toList with
      | nil => rw [h'] at hx; cases hx
      | cons a l => rw [h'] at hx; injection hx with e1 e2; exact ⟨a, l, rfl, e1, e2⟩
    obtain ⟨d, hd, rfl⟩ := Option.map_eq_some_iff.1 hr
    subst hx0; subst hxs
    obtain ⟨u, hu, hR⟩ := fold_ok (I := I) (w := w) (μ := μ) (P := P) (g := Builtin.max2) (fun a b c va vb => max_ok) _ (xs.map ev) (ρ x0) d (ev x0) hd (ha x0 (by rw [hargs]; simp)) (by simp)
      (rep_list (fun y hy => ha y (by rw [hargs]; exact List.mem_cons_of_mem _ hy)))
    refine (goodV_same (s := Builtin.max_ ts ty (args.map ev)) (v := u) hw ?_ rfl hR).good
    simp only [Builtin.max_, Array.toList_map, hargs, List.map_cons]
    exact hu
  · cases hr

/-- ANY OPERATION THAT CALLS NO FUNCTION. -/
theorem step_ok {o : Oper} {ρ : Operand → D} {ev : Operand → Value} {f : Nat} {h : Hint} {r : SR} (hT : TOk P T) (hw : WOk I w μ H) (hf : FreshOk μ H f)
    (ha : ∀ x, Rep I w μ (ρ x) (ev x)) (hr : stepF T o ρ (hget H) f h = some r) (hc : ∀ c ∈ r.cs, c) :
    Good P (execOp ev o) I w μ H r := by
  unfold stepF at hr
  unfold execOp
  split at hr <;> rename_i ho <;> (try (rw [ho]; dsimp only))
  · obtain rfl := Option.some.inj hr; exact good_pure hw rfl rfl (ha _)
  · obtain rfl := Option.some.inj hr; exact good_pure hw rfl rfl (ha _)
  · exact good_pick hw (ha _) (ha _) (ha _) hr hc
  · split at hr
    · rename_i y hy
      obtain ⟨z, hz, rfl⟩ := Option.map_eq_some_iff.1 hr
      exact (good_alloc hT hw hf hy hz).good
    · cases hr
  · split at hr
    · obtain ⟨z, hz, hr⟩ := Option.bind_eq_some_iff.1 hr
      obtain ⟨z', hz', rfl⟩ := Option.map_eq_some_iff.1 hr
      exact (good_snap (P := P) hw (ha _) hz hz').good
    · obtain ⟨z, hz, rfl⟩ := Option.map_eq_some_iff.1 hr
      exact (good_var (P := P) hw hf (ha _) hz).good
  · exact (good_build hT hw (fun p _ => ha _) hr).good
  · exact (good_buildSlice hT hw hf (fun p _ => ha _) hr).good
  · exact (good_load hT hw (ha _) hr hc).good
  · exact good_store hT hw (ha _) (ha _) hr hc
  · rename_i x
    obtain ⟨hv, h0, hR⟩ := good_nilCheck (ha x) hr
    rcases hv with ⟨a, hv⟩ | ⟨g, a, b, hv⟩ | ⟨t, u, hv⟩ <;> rw [hv] at hR ⊢ <;> exact good_pure hw rfl h0 hR
  · exact (good_bin hT hw (ha _) (ha _) hr hc).good
  · exact (good_un hw (ha _) hr).good
  · exact (good_convert hT hw hf (ha _) hr hc).good
  · exact (good_makeInterface hT hw (ha _) hr).good
  · obtain rfl := Option.some.inj hr
    exact (good_makeFunc hw (fun x _ => ha x) (fun x _ => ha x)).good
  · exact (good_makeSlice hT hw hf (ha _) (ha _) hr hc).good
  · rename_i t x lo hi mx
    split at hr
    · rename_i hmx
      exact (good_slice3 hT hw hf (ha _) (fun d hd => by obtain ⟨a, rfl, rfl⟩ := Option.map_eq_some_iff.1 hd; exact ⟨_, rfl, ha a⟩) (fun hn => by rw [Option.map_eq_none_iff] at hn; rw [hn]; rfl)
        (fun d hd => by obtain ⟨a, rfl, rfl⟩ := Option.map_eq_some_iff.1 hd; exact ⟨_, rfl, ha a⟩) hr).good
    exact (good_slice hT hw (ha _) (fun d hd => by obtain ⟨a, rfl, rfl⟩ := Option.map_eq_some_iff.1 hd; exact ⟨_, rfl, ha a⟩) (fun hn => by rw [Option.map_eq_none_iff] at hn; rw [hn]; rfl)
      (fun d hd => by obtain ⟨a, rfl, rfl⟩ := Option.map_eq_some_iff.1 hd; exact ⟨_, rfl, ha a⟩) (fun hn => by rw [Option.map_eq_none_iff] at hn; rw [hn]; rfl)
      (fun hn => by rw [Option.map_eq_none_iff] at hn; rw [hn]; rfl) hr hc).good
  · exact (good_fieldAddr hT hw (ha _) hr).good
  · exact (good_field hT hw (ha _) hr).good
  · exact (good_indexAddr hT hw (ha _) (ha _) hr hc).good
  · exact (good_index hT hw (ha _) (ha _) hr hc).good
  · exact (good_extract hw (ha _) hr).good
  · exact (good_typeAssert hT hw (ha _) hr).good
  · exact (good_makeMap hT hw hf (fun hn => by rw [Option.map_eq_none_iff] at hn; rw [hn]; rfl) hr).good
  · exact (good_lookup hT hw (ha _) (ha _) hr hc).good
  · exact good_mapUpdate hT hw (ha _) (ha _) (ha _) hr hc
  · rename_i b args argTypes
    have := good_builtin (P := P) (ty := o.type) (consts := args.map fun | .const _ => true | _ => false) hT hw hf (fun x _ => ha x) hr hc
    exact this
  · cases hr

end
end Go.Proofs.Ytifpbdhggooelaa.GD
