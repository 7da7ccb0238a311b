/- PROVED: the law DiskLeast hands back true, whatever the number and the bytes. No conditions. -/
import Derived.Test.YtifpbdhggooelaaHpH
import Derived.WalkKit
namespace Go.Proofs.Ytifpbdhggooelaa.diskLeast
open Go Go.ChangeShapes Go.WideShapes Go.ChangeAt Go.RowKit Ytifpbdhggooelaa.GD
set_option linter.unusedVariables false

theorem own : ownKnob Try.prog.godebug = none := by kernel_rfl
theorem laid : laidOutB Try.prog = true := by kernel_rfl

theorem wf_u8 {m : Int} (h : (Lit.int .u8 m).wf = true) : 0 ≤ m ∧ m ≤ 255 := by
  simp only [Lit.wf, Bool.and_eq_true, decide_eq_true_eq] at h
  exact h
theorem walk {w : World} {v0 v1 : Value} {n0 n1 : Nat} {x0 x1 : D} (h0 : shpA Try.prog n0 5 x0) (h1 : shpA Try.prog n1 38 x1)
    (r0 : RepP (fun b _ => b < w.heap.size) w x0 v0) (r1 : RepP (fun b _ => b < w.heap.size) w x1 v1) :
    Calls Try.prog 14 #[v0, v1] w fun e w' => e = .returned (.bool true) ∧ Below w.heap.size w w' := by
  obtain ⟨mo, rfl, hmo⟩ := shpA_int Try.underlying5 h0
  obtain ⟨nn, es, rfl, hn, hl, hes⟩ := shpA_slice Try.underlying38 h1
  have hm := wf_u8 hmo
  obtain ⟨X, hev⟩ := dsk.law14 mo.toNat (by omega) nn es (fun i hi => by
    obtain ⟨p, hp1, hp⟩ := shp_int Try.underlying5 (hes es[i] (List.getElem_mem hi))
    have hw := wf_u8 hp
    exact ⟨p.toNat, by omega, by rw [List.getElem?_eq_getElem hi, hp1, Int.toNat_of_nonneg hw.1]⟩)
  rw [Int.toNat_of_nonneg hm.1] at hev
  exact law_calls (P := Try.prog) (I := fun b _ => b < w.heap.size) dsk.cKOk.hT hev (fun _ _ h => h) rfl (reps_cons r0 (reps_cons r1 reps_nil))

set_option maxRecDepth 100000 in
theorem lifted (os : Os) (started : os.Started) (H : Type) (enc : TypeId × Value → H) :
    ReturnsInHanded {} Try.checked os 14 .any (Rows.diskLeastSpec.pre6 enc Try.prog Try.f14 Rows.diskLeastRow.domain false) (Rows.diskLeastSpec.post enc Try.prog Try.f14 false true false false) := by
  refine returnsInHanded_of_change (C := Try.checked) own started (by kernel_rfl) Try.func14
    (ChangeSpec.witness6 (enc := enc) (C := Try.checked) false ⟨#[], #[.int .u8 0,.slice none 0 0], []⟩ 8 (by kernel_rfl) (by kernel_rfl) (by kernel_rfl) (by kernel_rfl)) ?_
  intro W base args ds gs before hval0 hW hcnd _
  have hval : ∀ (j : Nat) t v, Try.f14.params[j]? = some t → args[j]? = some v → Value.okWide Try.prog W .any base t v := hval0
  have hW' := hW
  obtain ⟨p, q, hA0, hV, rfl, hfz, hnd⟩ := hW
  have hA : DataW.TrodAll enc Try.prog W 0 (fun _ => true) true Try.f14.params.toList args.toList ds p := hA0
  rw [Try.params14] at hA hval
  obtain ⟨v0, v1, d0, d1, p0, p1, rfl, rfl, rfl, h0, h1⟩ := trodAll_two hA
  obtain ⟨rfl, rfl⟩ := trodVars_none hV
  obtain ⟨n0, x0, s0, r0⟩ := arg_read laid (by kernel_rfl) (hval 0 5 v0 rfl rfl) h0
  obtain ⟨n1, x1, s1, r1⟩ := arg_read laid (by kernel_rfl) (hval 1 38 v1 rfl rfl) h1
  clear hA0 hval0
  refine (walk s0 s1 r0 r1).mono fun e W' ⟨he, hg⟩ => ?_
  subst he
  exact ⟨_, rfl, law_post laid (by kernel_rfl) rfl (by kernel_rfl) Try.underlying4 rfl hW' hg⟩

theorem over : Rows.diskLeastRow.holds Try.pinned (OpenSpec.ofChange Rows.diskLeastSpec) :=
  OpenClaim.holds_of_wide 14 Try.f14 rfl rfl rfl rfl rfl rfl rfl ⟨rfl, rfl, rfl, rfl, rfl⟩ rfl rfl rfl rfl rfl (by kernel_rfl) Try.func14 (by kernel_rfl)
    (of_decide_eq_true (by kernel_rfl)) (by unfold Func.isWrapper; first | (rw [if_pos (by decide +kernel)]; kernel_rfl) | (rw [if_neg (by decide +kernel)]; exact ⟨rfl, rfl⟩))
    (fun os started H enc _ => lifted os started H enc)

/-- ████ THE STATEMENT ████ -/
theorem proved : Rows.DiskLeastSaid := over
#print axioms proved
end Go.Proofs.Ytifpbdhggooelaa.diskLeast
