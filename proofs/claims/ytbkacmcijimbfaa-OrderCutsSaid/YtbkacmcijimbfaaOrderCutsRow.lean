/- PROVED: the law OrderCuts hands back true, whatever the list. No conditions. -/
import Derived.Test.YtbkacmcijimbfaaOrdJ
import Derived.WalkKit
namespace Go.Proofs.Ytbkacmcijimbfaa.orderCuts
open Go Go.ChangeShapes Go.WideShapes Go.ChangeAt Go.RowKit Ytbkacmcijimbfaa.GD
set_option linter.unusedVariables false

theorem own : ownKnob Try.prog.godebug = none := by kernel_rfl
theorem laid : laidOutB Try.prog = true := by kernel_rfl

open valk in
theorem walk {w : World} {v0 : Value} {n0 : Nat} {x0 : D} (h0 : shpA Try.prog n0 24 x0) (r0 : RepP (fun b _ => b < w.heap.size) w x0 v0) :
    Calls Try.prog 9 #[v0] w fun e w' => e = .returned (.bool true) ∧ Below w.heap.size w w' := by
  obtain ⟨nn, es, rfl, hn, hl, hes⟩ := shpA_slice Try.underlying24 h0
  obtain ⟨X, hev⟩ := ordk.law9 nn (fun r hr => vs_of _ (hes r hr)) hl hn
  exact law_calls (P := Try.prog) (I := fun b _ => b < w.heap.size) valk.c0Ok.hT hev (fun _ _ h => h) rfl (reps_cons r0 reps_nil)

set_option maxRecDepth 100000 in
theorem lifted (os : Os) (started : os.Started) (H : Type) (enc : TypeId × Value → H) :
    ReturnsInHanded {} Try.checked os 9 .any (Rows.orderCutsSpec.pre6 enc Try.prog Try.f9 Rows.orderCutsRow.domain false) (Rows.orderCutsSpec.post enc Try.prog Try.f9 false true false false) := by
  refine returnsInHanded_of_change (C := Try.checked) own started (by kernel_rfl) Try.func9
    (ChangeSpec.witness6 (enc := enc) (C := Try.checked) false ⟨#[], #[.slice none 0 0], []⟩ 8 (by kernel_rfl) (by kernel_rfl) (by kernel_rfl) (by kernel_rfl)) ?_
  intro W base args ds gs before hval0 hW hcnd _
  have hval : ∀ (j : Nat) t v, Try.f9.params[j]? = some t → args[j]? = some v → Value.okWide Try.prog W .any base t v := hval0
  have hW' := hW
  obtain ⟨p, q, hA0, hV, rfl, hfz, hnd⟩ := hW
  have hA : DataW.TrodAll enc Try.prog W 0 (fun _ => true) true Try.f9.params.toList args.toList ds p := hA0
  rw [Try.params9] at hA hval
  obtain ⟨v0, d0, rfl, rfl, h0⟩ := trodAll_one hA
  obtain ⟨rfl, rfl⟩ := trodVars_none hV
  obtain ⟨n0, x0, s0, r0⟩ := arg_read laid (by kernel_rfl) (hval 0 24 v0 rfl rfl) h0
  clear hA0 hval0
  refine (walk s0 r0).mono fun e W' ⟨he, hg⟩ => ?_
  subst he
  exact ⟨_, rfl, law_post laid (by kernel_rfl) rfl (by kernel_rfl) Try.underlying4 rfl hW' hg⟩

theorem over : Rows.orderCutsRow.holds Try.pinned (OpenSpec.ofChange Rows.orderCutsSpec) :=
  OpenClaim.holds_of_wide 9 Try.f9 rfl rfl rfl rfl rfl rfl rfl ⟨rfl, rfl, rfl, rfl, rfl⟩ rfl rfl rfl rfl rfl (by kernel_rfl) Try.func9 (by kernel_rfl)
    (of_decide_eq_true (by kernel_rfl)) (by unfold Func.isWrapper; first | (rw [if_pos (by decide +kernel)]; kernel_rfl) | (rw [if_neg (by decide +kernel)]; exact ⟨rfl, rfl⟩))
    (fun os started H enc _ => lifted os started H enc)

/-- ████ THE STATEMENT ████ -/
theorem proved : Rows.OrderCutsSaid := over
#print axioms proved
end Go.Proofs.Ytbkacmcijimbfaa.orderCuts
