/- The law OrderCuts. -/
import Derived.Test.YtbkacmcijimbfaaOrdH
import Derived.Test.YtbkacmcijimbfaaOrdI
namespace Go.Proofs.Ytbkacmcijimbfaa.ordk
open Go Ytbkacmcijimbfaa.GD valk
set_option linter.unusedVariables false
set_option linter.unusedSimpArgs false
set_option maxRecDepth 100000

theorem od_zero (dn : Bool) {a b : Cs} (ha : VS a) (hb : VS b) : od dn a b = 0 ↔ cmpV a b = 0 := by
  have h := (cmp_R ha hb).2
  cases dn with
  | false => exact Iff.rfl
  | true => show cmpV b a = 0 ↔ cmpV a b = 0; omega
/-- The first that is alike the cut is the cut. -/
theorem first_is (dn : Bool) {l : Es} (h0 : l ≠ []) (hl : ∀ r ∈ l, VS r) {i : Nat} (hi : i < l.length)
    (hn : ∀ j < i, cmpV (valAt l j) (cutL dn (valAt l 0) l) ≠ 0) (hz : cmpV (valAt l i) (cutL dn (valAt l 0) l) = 0) : valAt l i = cutL dn (valAt l 0) l := by
  obtain ⟨_, l1, l2, h2, h3⟩ := cut_list dn h0 hl
  have hA := vs_cutL dn l (valAt l 0) (vs_at hl 0) hl
  generalize cutL dn (valAt l 0) l = A at *
  have at1 : valAt l l1.length = A := by unfold valAt; rw [h2]; simp
  rcases Nat.lt_trichotomy i l1.length with h | h | h
  · have hm : valAt l i ∈ l1 := by
      have : valAt l i = l1[i] := by unfold valAt; rw [h2, List.getElem?_append_left h, List.getElem?_eq_getElem h]
      rw [this]; exact List.getElem_mem h
    exact absurd ((od_zero dn (vs_at hl i) hA).2 hz) (h3 _ hm)
  · rw [h]; exact at1
  · exact absurd (by rw [at1]; exact cmp_self hA) (hn _ h)
theorem some_is (dn : Bool) {l : Es} (h0 : l ≠ []) (hl : ∀ r ∈ l, VS r) : ∃ j, j < l.length ∧ cmpV (valAt l j) (cutL dn (valAt l 0) l) = 0 := by
  obtain ⟨_, l1, l2, h2, h3⟩ := cut_list dn h0 hl
  have hA := vs_cutL dn l (valAt l 0) (vs_at hl 0) hl
  generalize cutL dn (valAt l 0) l = A at *
  have at1 : valAt l l1.length = A := by unfold valAt; rw [h2]; simp
  exact ⟨l1.length, by rw [h2]; simp, by rw [at1]; exact cmp_self hA⟩

theorem law9 (xa : Bool) {ea : Es} (ha : ∀ r ∈ ea, VS r) (la : ea.length ≤ maxLen) (na : xa = false → ea = []) : Ret P T 9 [.slice xa ea none] [] (.bool true) [] := by
  have hf := few_E xa la ha
  have hV : VS (valk.val 7 0 (ByteArray.mk #[]) false [] false [] xa ea) :=
    .mk 7 0 _ _ _ _ _ _ _ [] (by omega) (by omega) (by decide) rfl (fun x hx => by cases hx) (by decide) (by decide) la (fun _ => rfl) (fun _ => rfl) na (fun r hr => by cases hr) (fun nm c hc => by cases hc) ha
  have cA := cut36 hV false
  have cB := cut36 hV true
  have eA : cutV (valk.val 7 0 (ByteArray.mk #[]) false [] false [] xa ea) false = cutL false (valAt ea 0) ea := rfl
  have eB : cutV (valk.val 7 0 (ByteArray.mk #[]) false [] false [] xa ea) true = cutL true (valAt ea 0) ea := rfl
  have vA := vs_cut hV false
  have vB := vs_cut hV true
  have kA := cells_of vA
  have kB := cells_of vB
  rw [← kA] at cA
  rw [← kB] at cB
  cases hw : fewE ea with
  | false => exact lct_in_2 (cV := cmpV) (byF := byE) (cutF := cutC) (cS := fun _ _ => true) hw hf awake30
  | true =>
    by_cases h0 : ea = []
    · subst h0
      exact lct_in_0 (cV := cmpV) (byF := byE) (cutF := cutC) (cS := fun _ _ => true) hw rfl rfl cB cA hf awake30
    · have hA1 := (cut_list false h0 ha).1
      have hB1 := (cut_list true h0 ha).1
      have key : ∀ (m i : Nat) (p q : Bool), i + m = ea.length → (p = false → ∀ j < i, cmpV (valAt ea j) (cutL false (valAt ea 0) ea) ≠ 0) → (q = false → ∀ j < i, cmpV (valAt ea j) (cutL true (valAt ea 0) ea) ≠ 0) →
          lct_at0 cmpV fewE byE cutC (fun _ _ => true) xa ea p q i (.bool true) [] := by
        intro m
        induction m with
        | zero =>
          intro i p q hi hp hq
          obtain ⟨j, hj, hjz⟩ := some_is false h0 ha
          obtain ⟨j', hj', hjz'⟩ := some_is true h0 ha
          have p1 : p = true := by cases p with | true => rfl | false => exact absurd hjz (hp rfl j (by omega))
          have q1 : q = true := by cases q with | true => rfl | false => exact absurd hjz' (hq rfl j' (by omega))
          subst p1; subst q1
          exact lct_0_9 (by omega) rfl
        | succ m ihm =>
          intro i p q hi hp hq
          have hlt : i < ea.length := by omega
          have hg : ea[((i : Int)).toNat]? = some (valAt ea i) := by rw [Int.toNat_natCast, List.getElem?_eq_getElem hlt, val_lt hlt]
          have mem : valAt ea i ∈ ea := by rw [val_lt hlt]; exact List.getElem_mem hlt
          have vx := vs_at ha i
          have rA := cmp33 vx vA
          have rB := cmp33 vx vB
          have n1 : ¬ cmpV (valAt ea i) (cutV (valk.val 7 0 (ByteArray.mk #[]) false [] false [] xa ea) false) < 0 := hA1 _ mem
          have n2 : ¬ cmpV (valAt ea i) (cutV (valk.val 7 0 (ByteArray.mk #[]) false [] false [] xa ea) true) > 0 := by
            have h1 : ¬ cmpV (cutV (valk.val 7 0 (ByteArray.mk #[]) false [] false [] xa ea) true) (valAt ea i) < 0 := hB1 _ mem
            have h := (cmp_R vx vB).2
            omega
          have sA : cmpV (valAt ea i) (cutV (valk.val 7 0 (ByteArray.mk #[]) false [] false [] xa ea) false) = 0 → p = false → Ret P T 17 [.agg (valAt ea i), .agg (cutV (valk.val 7 0 (ByteArray.mk #[]) false [] false [] xa ea) false)] [] (.bool true) [] := fun hz hpf => by
            rw [first_is false h0 ha hlt (hp hpf) hz]; exact same17 vA
          have sB : cmpV (valAt ea i) (cutV (valk.val 7 0 (ByteArray.mk #[]) false [] false [] xa ea) true) = 0 → q = false → Ret P T 17 [.agg (valAt ea i), .agg (cutV (valk.val 7 0 (ByteArray.mk #[]) false [] false [] xa ea) true)] [] (.bool true) [] := fun hz hqf => by
            rw [first_is true h0 ha hlt (hq hqf) hz]; exact same17 vB
          have st : ∀ p' q', (p' = false → p = false ∧ cmpV (valAt ea i) (cutV (valk.val 7 0 (ByteArray.mk #[]) false [] false [] xa ea) false) ≠ 0) → (q' = false → q = false ∧ cmpV (valAt ea i) (cutV (valk.val 7 0 (ByteArray.mk #[]) false [] false [] xa ea) true) ≠ 0) → lct_at0 cmpV fewE byE cutC (fun _ _ => true) xa ea p' q' (IntKind.i64.wrap ((i : Int) + 1)) (.bool true) [] := fun p' q' hp' hq' => by
            rw [up hlt la]
            refine ihm (i + 1) p' q' (by omega) (fun e j hj => ?_) (fun e j hj => ?_)
            · rcases Nat.lt_succ_iff_lt_or_eq.1 hj with h | rfl
              · exact hp (hp' e).1 j h
              · exact (hp' e).2
            · rcases Nat.lt_succ_iff_lt_or_eq.1 hj with h | rfl
              · exact hq (hq' e).1 j h
              · exact (hq' e).2
          have T0 : ∀ {X : Prop}, (true = false → X) := fun h => by cases h
          rw [← kA] at rA n1 sA st
          rw [← kB] at rB n2 sB st
          obtain ⟨ck, cn, cs, yb, cb, yf, cf, yl, cl, he⟩ := vx.get
          rw [he] at rA rB n1 n2 sA sB st hg
          by_cases zA : cmpV (valk.val ck cn cs yb cb yf cf yl cl) (cellsT (ctOf (cutV (valk.val 7 0 (ByteArray.mk #[]) false [] false [] xa ea) false))) = 0 <;> by_cases zB : cmpV (valk.val ck cn cs yb cb yf cf yl cl) (cellsT (ctOf (cutV (valk.val 7 0 (ByteArray.mk #[]) false [] false [] xa ea) true))) = 0 <;> cases p <;> cases q
          · exact lct_0_4 (by omega) n1 n2 rfl zA rfl rfl zB rfl (sB zB rfl) (by omega) hg rB hg (sA zA rfl) hg rA hg rB hg rA hg (st true true T0 T0)
          · exact lct_0_3 (by omega) n1 n2 rfl zA rfl rfl (sA zA rfl) (by omega) hg rA hg rB hg rA hg (st true true T0 T0)
          · exact lct_0_1 (by omega) n1 n2 rfl rfl zB rfl (sB zB rfl) (by omega) hg rB hg rB hg rA hg (st true true T0 T0)
          · exact lct_0_0 (by omega) n1 n2 rfl rfl rB (by omega) hg rA hg (st true true T0 T0)
          · exact lct_0_5 (by omega) n1 n2 rfl zA rfl rfl zB rB (by omega) hg (sA zA rfl) hg rA hg rB hg rA hg (st true false T0 (fun _ => ⟨rfl, zB⟩))
          · exact lct_0_3 (by omega) n1 n2 rfl zA rfl rfl (sA zA rfl) (by omega) hg rA hg rB hg rA hg (st true true T0 T0)
          · exact lct_0_2 (by omega) n1 n2 rfl rfl zB rB (by omega) hg rB hg rA hg (st true false T0 (fun _ => ⟨rfl, zB⟩))
          · exact lct_0_0 (by omega) n1 n2 rfl rfl rB (by omega) hg rA hg (st true true T0 T0)
          · exact lct_0_7 (by omega) n1 n2 rfl zA rfl zB rfl (sB zB rfl) (by omega) hg rB hg rA hg rB hg rA hg (st false true (fun _ => ⟨rfl, zA⟩) T0)
          · exact lct_0_6 (by omega) n1 n2 rfl zA rfl rA (by omega) hg rB hg rA hg (st false true (fun _ => ⟨rfl, zA⟩) T0)
          · exact lct_0_1 (by omega) n1 n2 rfl rfl zB rfl (sB zB rfl) (by omega) hg rB hg rB hg rA hg (st true true T0 T0)
          · exact lct_0_0 (by omega) n1 n2 rfl rfl rB (by omega) hg rA hg (st true true T0 T0)
          · exact lct_0_8 (by omega) n1 n2 rfl zA rfl zB rB (by omega) hg rA hg rB hg rA hg (st false false (fun _ => ⟨rfl, zA⟩) (fun _ => ⟨rfl, zB⟩))
          · exact lct_0_6 (by omega) n1 n2 rfl zA rfl rA (by omega) hg rB hg rA hg (st false true (fun _ => ⟨rfl, zA⟩) T0)
          · exact lct_0_2 (by omega) n1 n2 rfl rfl zB rB (by omega) hg rB hg rA hg (st true false T0 (fun _ => ⟨rfl, zB⟩))
          · exact lct_0_0 (by omega) n1 n2 rfl rfl rB (by omega) hg rA hg (st true true T0 T0)
      exact lct_in_1 hw (by simpa using h0) cB cA hf awake30 (by simpa using key ea.length 0 false false (by omega) (fun _ j hj => by omega) (fun _ j hj => by omega))

end Go.Proofs.Ytbkacmcijimbfaa.ordk
