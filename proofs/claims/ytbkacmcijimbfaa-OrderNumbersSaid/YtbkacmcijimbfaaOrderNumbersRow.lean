/- PROVED: the law OrderNumbers hands back true, whatever the two numbers and the two texts. No conditions. -/
import Derived.Test.YtbkacmcijimbfaaOrdM
import Derived.WalkKit
namespace Go.Proofs.Ytbkacmcijimbfaa.orderNumbers
open Go Go.ChangeShapes Go.WideShapes Go.ChangeAt Go.RowKit Ytbkacmcijimbfaa.GD
set_option linter.unusedVariables false

theorem own : ownKnob Try.prog.godebug = none := by kernel_rfl
theorem laid : laidOutB Try.prog = true := by kernel_rfl

open valk in
theorem walk {w : World} {v0 v1 v2 : Value} {n0 n1 n2 : Nat} {x0 x1 x2 : D} (h0 : shpA Try.prog n0 50 x0) (h1 : shpA Try.prog n1 9 x1) (h2 : shpA Try.prog n2 9 x2)
    (r0 : RepP (fun b _ => b < w.heap.size) w x0 v0) (r1 : RepP (fun b _ => b < w.heap.size) w x1 v1) (r2 : RepP (fun b _ => b < w.heap.size) w x2 v2) :
    Calls Try.prog 11 #[v0, v1, v2] w fun e w' => e = .returned (.bool true) ∧ Below w.heap.size w w' := by
  obtain ⟨rows, rfl, hlen, hrows⟩ := shpA_array Try.underlying50 h0
  obtain ⟨s, rfl, hs⟩ := shpA_str Try.underlying9 h1
  obtain ⟨t, rfl, ht⟩ := shpA_str Try.underlying9 h2
  match rows, hlen, hrows, r0 with
  | [p, q], _, hrows, r0 =>
    obtain ⟨a, rfl, wa⟩ := shp_int Try.underlying2 (hrows p (by simp))
    obtain ⟨b, rfl, wb⟩ := shp_int Try.underlying2 (hrows q (by simp))
    obtain ⟨X, hev⟩ := ordk.law11 a b s t (wf_i64 wa) (wf_i64 wb) hs ht
    exact law_calls (P := Try.prog) (I := fun b _ => b < w.heap.size) valk.c0Ok.hT hev (fun _ _ h => h) rfl (reps_cons r0 (reps_cons r1 (reps_cons r2 reps_nil)))

set_option maxRecDepth 100000 in
theorem lifted (os : Os) (started : os.Started) (H : Type) (enc : TypeId × Value → H) :
    ReturnsInHanded {} Try.checked os 11 .any (Rows.orderNumbersSpec.pre6 enc Try.prog Try.f11 Rows.orderNumbersRow.domain false) (Rows.orderNumbersSpec.post enc Try.prog Try.f11 false true false false) := by
  refine returnsInHanded_of_change (C := Try.checked) own started (by kernel_rfl) Try.func11
    (ChangeSpec.witness6 (enc := enc) (C := Try.checked) false ⟨#[], #[.agg #[.int .i64 0, .int .i64 0], .string ByteArray.empty, .string ByteArray.empty], []⟩ 8 (by kernel_rfl) (by kernel_rfl) (by kernel_rfl) (by kernel_rfl)) ?_
  intro W base args ds gs before hval0 hW hcnd _
  have hval : ∀ (j : Nat) t v, Try.f11.params[j]? = some t → args[j]? = some v → Value.okWide Try.prog W .any base t v := hval0
  have hW' := hW
  obtain ⟨p, q, hA0, hV, rfl, hfz, hnd⟩ := hW
  have hA : DataW.TrodAll enc Try.prog W 0 (fun _ => true) true Try.f11.params.toList args.toList ds p := hA0
  rw [Try.params11] at hA hval
  obtain ⟨v0, v1, v2, d0, d1, d2, p0, p1, p2, rfl, rfl, rfl, h0, h1, h2⟩ := trodAll_three hA
  obtain ⟨rfl, rfl⟩ := trodVars_none hV
  obtain ⟨n0, x0, s0, r0⟩ := arg_read laid (by kernel_rfl) (hval 0 50 v0 rfl rfl) h0
  obtain ⟨n1, x1, s1, r1⟩ := arg_read laid (by kernel_rfl) (hval 1 9 v1 rfl rfl) h1
  obtain ⟨n2, x2, s2, r2⟩ := arg_read laid (by kernel_rfl) (hval 2 9 v2 rfl rfl) h2
  clear hA0 hval0
  refine (walk s0 s1 s2 r0 r1 r2).mono fun e W' ⟨he, hg⟩ => ?_
  subst he
  exact ⟨_, rfl, law_post laid (by kernel_rfl) rfl (by kernel_rfl) Try.underlying4 rfl hW' hg⟩

theorem over : Rows.orderNumbersRow.holds Try.pinned (OpenSpec.ofChange Rows.orderNumbersSpec) :=
  OpenClaim.holds_of_wide 11 Try.f11 rfl rfl rfl rfl rfl rfl rfl ⟨rfl, rfl, rfl, rfl, rfl⟩ rfl rfl rfl rfl rfl (by kernel_rfl) Try.func11 (by kernel_rfl)
    (of_decide_eq_true (by kernel_rfl)) (by unfold Func.isWrapper; first | (rw [if_pos (by decide +kernel)]; kernel_rfl) | (rw [if_neg (by decide +kernel)]; exact ⟨rfl, rfl⟩))
    (fun os started H enc _ => lifted os started H enc)

/-- ████ THE STATEMENT ████ -/
theorem proved : Rows.OrderNumbersSaid := over
#print axioms proved
end Go.Proofs.Ytbkacmcijimbfaa.orderNumbers
