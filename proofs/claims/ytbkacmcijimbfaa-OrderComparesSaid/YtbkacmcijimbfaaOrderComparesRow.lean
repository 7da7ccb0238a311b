/- PROVED: the law OrderCompares hands back true, whatever the three values and the kind. No conditions. -/
import Derived.Test.YtbkacmcijimbfaaOrdQ
import Derived.WalkKit
namespace Go.Proofs.Ytbkacmcijimbfaa.orderCompares
open Go Go.ChangeShapes Go.WideShapes Go.ChangeAt Go.RowKit Ytbkacmcijimbfaa.GD
set_option linter.unusedVariables false

theorem own : ownKnob Try.prog.godebug = none := by kernel_rfl
theorem laid : laidOutB Try.prog = true := by kernel_rfl

open valk in
theorem walk {w : World} {v0 v1 : Value} {n0 n1 : Nat} {x0 x1 : D} (h0 : shpA Try.prog n0 41 x0) (h1 : shpA Try.prog n1 3 x1)
    (r0 : RepP (fun b _ => b < w.heap.size) w x0 v0) (r1 : RepP (fun b _ => b < w.heap.size) w x1 v1) :
    Calls Try.prog 7 #[v0, v1] w fun e w' => e = .returned (.bool true) ∧ Below w.heap.size w w' := by
  obtain ⟨rows, rfl, hlen, hrows⟩ := shpA_array Try.underlying41 h0
  obtain ⟨n, rfl, hn⟩ := shpA_int Try.underlying3 h1
  match rows, hlen, hrows, r0 with
  | [a, b, c], _, hrows, r0 =>
    have e : [a, b, c].flatten = a ++ (b ++ c) := by simp
    rw [e] at r0
    obtain ⟨X, hev⟩ := ordk.law7 (vs_of _ (hrows a (by simp))) (vs_of _ (hrows b (by simp))) (vs_of _ (hrows c (by simp))) n
    have e2 : [a, b, c].flatten = a ++ (b ++ c) := e
    exact law_calls (P := Try.prog) (I := fun b _ => b < w.heap.size) valk.c0Ok.hT hev (fun _ _ h => h) rfl (reps_cons r0 (reps_cons r1 reps_nil))

set_option maxRecDepth 100000 in
theorem lifted (os : Os) (started : os.Started) (H : Type) (enc : TypeId × Value → H) :
    ReturnsInHanded {} Try.checked os 7 .any (Rows.orderComparesSpec.pre6 enc Try.prog Try.f7 Rows.orderComparesRow.domain false) (Rows.orderComparesSpec.post enc Try.prog Try.f7 false true false false) := by
  refine returnsInHanded_of_change (C := Try.checked) own started (by kernel_rfl) Try.func7
    (ChangeSpec.witness6 (enc := enc) (C := Try.checked) false ⟨#[], #[.agg #[.int .i64 0, .int .i64 0, .string ByteArray.empty, .slice none 0 0, .slice none 0 0, .slice none 0 0, .int .i64 0, .int .i64 0, .string ByteArray.empty, .slice none 0 0, .slice none 0 0, .slice none 0 0, .int .i64 0, .int .i64 0, .string ByteArray.empty, .slice none 0 0, .slice none 0 0, .slice none 0 0], .int .i64 0], []⟩ 8 (by kernel_rfl) (by kernel_rfl) (by kernel_rfl) (by kernel_rfl)) ?_
  intro W base args ds gs before hval0 hW hcnd _
  have hval : ∀ (j : Nat) t v, Try.f7.params[j]? = some t → args[j]? = some v → Value.okWide Try.prog W .any base t v := hval0
  have hW' := hW
  obtain ⟨p, q, hA0, hV, rfl, hfz, hnd⟩ := hW
  have hA : DataW.TrodAll enc Try.prog W 0 (fun _ => true) true Try.f7.params.toList args.toList ds p := hA0
  rw [Try.params7] at hA hval
  obtain ⟨v0, v1, d0, d1, p0, p1, rfl, rfl, rfl, h0, h1⟩ := trodAll_two hA
  obtain ⟨rfl, rfl⟩ := trodVars_none hV
  obtain ⟨n0, x0, s0, r0⟩ := arg_read laid (by kernel_rfl) (hval 0 41 v0 rfl rfl) h0
  obtain ⟨n1, x1, s1, r1⟩ := arg_read laid (by kernel_rfl) (hval 1 3 v1 rfl rfl) h1
  clear hA0 hval0
  refine (walk s0 s1 r0 r1).mono fun e W' ⟨he, hg⟩ => ?_
  subst he
  exact ⟨_, rfl, law_post laid (by kernel_rfl) rfl (by kernel_rfl) Try.underlying4 rfl hW' hg⟩

theorem over : Rows.orderComparesRow.holds Try.pinned (OpenSpec.ofChange Rows.orderComparesSpec) :=
  OpenClaim.holds_of_wide 7 Try.f7 rfl rfl rfl rfl rfl rfl rfl ⟨rfl, rfl, rfl, rfl, rfl⟩ rfl rfl rfl rfl rfl (by kernel_rfl) Try.func7 (by kernel_rfl)
    (of_decide_eq_true (by kernel_rfl)) (by unfold Func.isWrapper; first | (rw [if_pos (by decide +kernel)]; kernel_rfl) | (rw [if_neg (by decide +kernel)]; exact ⟨rfl, rfl⟩))
    (fun os started H enc _ => lifted os started H enc)

/-- ████ THE STATEMENT ████ -/
theorem proved : Rows.OrderComparesSaid := over
#print axioms proved
end Go.Proofs.Ytbkacmcijimbfaa.orderCompares
