/- PROVED: the law KeyAlike hands back true, whatever the number, the row and the two values. No conditions. -/
import Derived.Test.YtlccdfilbiipmaaKvL
import Derived.WalkKit
namespace Go.Proofs.Ytlccdfilbiipmaa.keyAlike
open Go Go.ChangeShapes Go.WideShapes Go.ChangeAt Go.RowKit Ytlccdfilbiipmaa.GD
set_option linter.unusedVariables false

theorem own : ownKnob Try.prog.godebug = none := by kernel_rfl
theorem laid : laidOutB Try.prog = true := by kernel_rfl

theorem wf_i32 {m : Int} (h : (Lit.int .i32 m).wf = true) : -2147483648 ≤ m ∧ m ≤ 2147483647 := by
  simp only [Lit.wf, Bool.and_eq_true, decide_eq_true_eq] at h
  have h1 : (IntKind.i32.max : Int) = 2147483647 := by decide
  have h2 : (IntKind.i32.min : Int) = -2147483648 := by decide
  omega
set_option maxRecDepth 100000 in
open valk in
theorem walk {w : World} {v0 v1 v2 : Value} {n0 n1 n2 : Nat} {x0 x1 x2 : D} (h0 : shpA Try.prog n0 21 x0) (h1 : shpA Try.prog n1 22 x1) (h2 : shpA Try.prog n2 38 x2)
    (r0 : RepP (fun b _ => b < w.heap.size) w x0 v0) (r1 : RepP (fun b _ => b < w.heap.size) w x1 v1) (r2 : RepP (fun b _ => b < w.heap.size) w x2 v2) :
    Calls Try.prog 5 #[v0, v1, v2] w fun e w' => e = .returned (.bool true) ∧ Below w.heap.size w w' := by
  obtain ⟨n, rfl, hn⟩ := shpA_int Try.underlying21 h0
  obtain ⟨nn, es, rfl, _, hl, hes⟩ := shpA_slice Try.underlying22 h1
  obtain ⟨rows, rfl, hlen, hrows⟩ := shpA_array Try.underlying38 h2
  match rows, hlen, hrows, r2 with
  | [u, v], _, hrows, r2 =>
    have e : [u, v].flatten = u ++ v := by simp
    rw [e] at r2
    obtain ⟨X, hev⟩ := ordk.law5 n (wf_i32 hn) nn (fun r hr => vs_of _ (hes r hr)) (vs_of _ (hrows u (by simp))) (vs_of _ (hrows v (by simp))) hl
    exact law_calls (P := Try.prog) (I := fun b _ => b < w.heap.size) valk.c0Ok.hT hev (fun _ _ h => h) rfl (reps_cons r0 (reps_cons r1 (reps_cons r2 reps_nil)))

set_option maxRecDepth 100000 in
theorem lifted (os : Os) (started : os.Started) (H : Type) (enc : TypeId × Value → H) :
    ReturnsInHanded {} Try.checked os 5 .any (Rows.keyAlikeSpec.pre6 enc Try.prog Try.f5 Rows.keyAlikeRow.domain false) (Rows.keyAlikeSpec.post enc Try.prog Try.f5 false true false false) := by
  refine returnsInHanded_of_change (C := Try.checked) own started (by kernel_rfl) Try.func5
    (ChangeSpec.witness6 (enc := enc) (C := Try.checked) false ⟨#[], #[.int .i32 0, .slice none 0 0, .agg #[.int .i64 0, .int .i64 0, .string ByteArray.empty, .slice none 0 0, .slice none 0 0, .slice none 0 0, .int .i64 0, .int .i64 0, .string ByteArray.empty, .slice none 0 0, .slice none 0 0, .slice none 0 0]], []⟩ 8 (by kernel_rfl) (by kernel_rfl) (by kernel_rfl) (by kernel_rfl)) ?_
  intro W base args ds gs before hval0 hW hcnd _
  have hval : ∀ (j : Nat) t v, Try.f5.params[j]? = some t → args[j]? = some v → Value.okWide Try.prog W .any base t v := hval0
  have hW' := hW
  obtain ⟨p, q, hA0, hV, rfl, hfz, hnd⟩ := hW
  have hA : DataW.TrodAll enc Try.prog W 0 (fun _ => true) true Try.f5.params.toList args.toList ds p := hA0
  rw [Try.params5] at hA hval
  obtain ⟨v0, v1, v2, d0, d1, d2, p0, p1, p2, rfl, rfl, rfl, h0, h1, h2⟩ := trodAll_three hA
  obtain ⟨rfl, rfl⟩ := trodVars_none hV
  obtain ⟨n0, x0, s0, r0⟩ := arg_read laid (by kernel_rfl) (hval 0 21 v0 rfl rfl) h0
  obtain ⟨n1, x1, s1, r1⟩ := arg_read laid (by kernel_rfl) (hval 1 22 v1 rfl rfl) h1
  obtain ⟨n2, x2, s2, r2⟩ := arg_read laid (by kernel_rfl) (hval 2 38 v2 rfl rfl) h2
  clear hA0 hval0
  refine (walk s0 s1 s2 r0 r1 r2).mono fun e W' ⟨he, hg⟩ => ?_
  subst he
  exact ⟨_, rfl, law_post laid (by kernel_rfl) rfl (by kernel_rfl) Try.underlying4 rfl hW' hg⟩

theorem over : Rows.keyAlikeRow.holds Try.pinned (OpenSpec.ofChange Rows.keyAlikeSpec) :=
  OpenClaim.holds_of_wide 5 Try.f5 rfl rfl rfl rfl rfl rfl rfl ⟨rfl, rfl, rfl, rfl, rfl⟩ rfl rfl rfl rfl rfl (by kernel_rfl) Try.func5 (by kernel_rfl)
    (of_decide_eq_true (by kernel_rfl)) (by unfold Func.isWrapper; first | (rw [if_pos (by decide +kernel)]; kernel_rfl) | (rw [if_neg (by decide +kernel)]; exact ⟨rfl, rfl⟩))
    (fun os started H enc _ => lifted os started H enc)

/-- ████ THE STATEMENT ████ -/
theorem proved : Rows.KeyAlikeSaid := over
#print axioms proved
end Go.Proofs.Ytlccdfilbiipmaa.keyAlike
