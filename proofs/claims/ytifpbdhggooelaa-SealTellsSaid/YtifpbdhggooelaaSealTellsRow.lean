/- PROVED: the law SealTells hands back true, whatever the page, the data and the two numbers. No conditions. -/
import Derived.Test.YtifpbdhggooelaaSealU
import Derived.WalkKit
namespace Go.Proofs.Ytifpbdhggooelaa.sealTells
open Go Go.ChangeShapes Go.WideShapes Go.ChangeAt Go.RowKit Ytifpbdhggooelaa.GD
set_option linter.unusedVariables false

theorem own : ownKnob Try.prog.godebug = none := by kernel_rfl
theorem laid : laidOutB Try.prog = true := by kernel_rfl

theorem wf_i64 {m : Int} (h : (Lit.int .i64 m).wf = true) : -9223372036854775808 ≤ m ∧ m ≤ 9223372036854775807 := by
  simp only [Lit.wf, Bool.and_eq_true, decide_eq_true_eq] at h
  exact h
theorem wf_u8 {m : Int} (h : (Lit.int .u8 m).wf = true) : 0 ≤ m ∧ m ≤ 255 := by
  simp only [Lit.wf, Bool.and_eq_true, decide_eq_true_eq] at h
  exact h
theorem bytes_of {n : Nat} : ∀ (es : List (List D)), (∀ c ∈ es, shp Try.prog n 5 c) → ∃ l : List Int, es = sealk.rows l ∧ sealk.Bytes l
  | [], _ => ⟨[], rfl, fun x hx => by cases hx⟩
  | c :: es, h => by
    obtain ⟨p, hp1, hp⟩ := shp_int Try.underlying5 (h c (by simp))
    obtain ⟨l, hl, hb⟩ := bytes_of es (fun c hc => h c (List.mem_cons_of_mem _ hc))
    refine ⟨p :: l, by rw [hp1, hl]; rfl, fun x hx => ?_⟩
    rcases List.mem_cons.1 hx with rfl | hx
    · exact wf_u8 hp
    · exact hb x hx
theorem nil_of {nn : Bool} {l : List Int} (h : nn = false → sealk.rows l = []) : nn = false → l = [] := fun hh => by
  have := h hh
  simpa [sealk.rows] using this

theorem wf_u32 {m : Int} (h : (Lit.int .u32 m).wf = true) : 0 ≤ m ∧ m < 4294967296 := by
  simp only [Lit.wf, Bool.and_eq_true, decide_eq_true_eq] at h
  have h1 : (IntKind.u32.max : Int) = 4294967295 := by decide
  have h2 : (IntKind.u32.min : Int) = 0 := by decide
  omega
set_option maxRecDepth 100000 in
theorem walk {w : World} {v0 v1 v2 : Value} {n0 n1 n2 : Nat} {x0 x1 x2 : D} (h0 : shpA Try.prog n0 5 x0) (h1 : shpA Try.prog n1 38 x1) (h2 : shpA Try.prog n2 53 x2)
    (r0 : RepP (fun b _ => b < w.heap.size) w x0 v0) (r1 : RepP (fun b _ => b < w.heap.size) w x1 v1) (r2 : RepP (fun b _ => b < w.heap.size) w x2 v2) :
    Calls Try.prog 8 #[v0, v1, v2] w fun e w' => e = .returned (.bool true) ∧ Below w.heap.size w w' := by
  obtain ⟨p, rfl, hp⟩ := shpA_int Try.underlying5 h0
  obtain ⟨na, ea, rfl, _, hla, hea⟩ := shpA_slice Try.underlying38 h1
  obtain ⟨A, rfl, hA⟩ := bytes_of ea hea
  obtain ⟨rows, rfl, hlen, hrows⟩ := shpA_array Try.underlying53 h2
  match rows, hlen, hrows, r2 with
  | [c, d], _, hrows, r2 =>
    obtain ⟨a, rfl, wa⟩ := shp_int Try.underlying45 (hrows c (by simp))
    obtain ⟨b, rfl, wb⟩ := shp_int Try.underlying45 (hrows d (by simp))
    obtain ⟨H1, X, hev⟩ := sealk.law8 p (wf_u8 hp) na A hA (by simpa [sealk.rows] using hla) a b (wf_u32 wa) (wf_u32 wb)
    exact law_calls (P := Try.prog) (I := fun b _ => b < w.heap.size) sealk.c0Ok.hT hev (fun _ _ h => h) rfl (reps_cons r0 (reps_cons r1 (reps_cons r2 reps_nil)))

set_option maxRecDepth 100000 in
theorem lifted (os : Os) (started : os.Started) (H : Type) (enc : TypeId × Value → H) :
    ReturnsInHanded {} Try.checked os 8 .any (Rows.sealTellsSpec.pre6 enc Try.prog Try.f8 Rows.sealTellsRow.domain false) (Rows.sealTellsSpec.post enc Try.prog Try.f8 false true false false) := by
  refine returnsInHanded_of_change (C := Try.checked) own started (by kernel_rfl) Try.func8
    (ChangeSpec.witness6 (enc := enc) (C := Try.checked) false ⟨#[], #[.int .u8 0, .slice none 0 0, .agg #[.int .u32 0, .int .u32 0]], []⟩ 8 (by kernel_rfl) (by kernel_rfl) (by kernel_rfl) (by kernel_rfl)) ?_
  intro W base args ds gs before hval0 hW hcnd _
  have hval : ∀ (j : Nat) t v, Try.f8.params[j]? = some t → args[j]? = some v → Value.okWide Try.prog W .any base t v := hval0
  have hW' := hW
  obtain ⟨p, q, hA0, hV, rfl, hfz, hnd⟩ := hW
  have hA : DataW.TrodAll enc Try.prog W 0 (fun _ => true) true Try.f8.params.toList args.toList ds p := hA0
  rw [Try.params8] at hA hval
  obtain ⟨v0, v1, v2, d0, d1, d2, p0, p1, p2, rfl, rfl, rfl, h0, h1, h2⟩ := trodAll_three hA
  obtain ⟨rfl, rfl⟩ := trodVars_none hV
  obtain ⟨n0, x0, s0, r0⟩ := arg_read laid (by kernel_rfl) (hval 0 5 v0 rfl rfl) h0
  obtain ⟨n1, x1, s1, r1⟩ := arg_read laid (by kernel_rfl) (hval 1 38 v1 rfl rfl) h1
  obtain ⟨n2, x2, s2, r2⟩ := arg_read laid (by kernel_rfl) (hval 2 53 v2 rfl rfl) h2
  clear hA0 hval0
  refine (walk s0 s1 s2 r0 r1 r2).mono fun e W' ⟨he, hg⟩ => ?_
  subst he
  exact ⟨_, rfl, law_post laid (by kernel_rfl) rfl (by kernel_rfl) Try.underlying4 rfl hW' hg⟩

theorem over : Rows.sealTellsRow.holds Try.pinned (OpenSpec.ofChange Rows.sealTellsSpec) :=
  OpenClaim.holds_of_wide 8 Try.f8 rfl rfl rfl rfl rfl rfl rfl ⟨rfl, rfl, rfl, rfl, rfl⟩ rfl rfl rfl rfl rfl (by kernel_rfl) Try.func8 (by kernel_rfl)
    (of_decide_eq_true (by kernel_rfl)) (by unfold Func.isWrapper; first | (rw [if_pos (by decide +kernel)]; kernel_rfl) | (rw [if_neg (by decide +kernel)]; exact ⟨rfl, rfl⟩))
    (fun os started H enc _ => lifted os started H enc)

/-- ████ THE STATEMENT ████ -/
theorem proved : Rows.SealTellsSaid := over
#print axioms proved
end Go.Proofs.Ytifpbdhggooelaa.sealTells
