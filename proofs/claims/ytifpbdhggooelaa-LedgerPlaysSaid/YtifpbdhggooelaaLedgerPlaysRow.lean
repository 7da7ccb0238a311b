/- PROVED: the law LedgerPlays hands back true, whatever the budget and the deeds (chapter 3). No conditions. -/
import Derived.Test.YtifpbdhggooelaaLedgerPlays
import Derived.WalkKit
namespace Go.Proofs.Ytifpbdhggooelaa.ledgerPlays
open Go Go.ChangeShapes Go.WideShapes Go.ChangeAt Go.RowKit Ytifpbdhggooelaa.GD Ytifpbdhggooelaa.ledger
set_option linter.unusedVariables false

theorem own : ownKnob Try.prog.godebug = none := by kernel_rfl
theorem laid : laidOutB Try.prog = true := by kernel_rfl

theorem wf_i64 {m : Int} (h : (Lit.int .i64 m).wf = true) : -9223372036854775808 ≤ m ∧ m ≤ 9223372036854775807 := by
  simp only [Lit.wf, Bool.and_eq_true, decide_eq_true_eq] at h
  exact h

theorem row_of {n : Nat} {c : List D} (h : shp Try.prog n 29 c) : ∃ p : Int × Int, c = [.int .i64 p.1, .int .i64 p.2] ∧ -9223372036854775808 ≤ p.2 ∧ p.2 ≤ 9223372036854775807 := by
  obtain ⟨a, r, h1, ha, b, r', h2, hb, h3⟩ := shp_struct Try.underlying29 h
  obtain ⟨x, ha1, _⟩ := shp_int Try.underlying3 ha
  obtain ⟨y, hb1, hy⟩ := shp_int Try.underlying3 hb
  exact ⟨(x, y), by rw [h1, h2, h3, ha1, hb1]; rfl, wf_i64 hy⟩

theorem rows_of {n : Nat} : ∀ (es : List (List D)), (∀ c ∈ es, shp Try.prog n 29 c) → ∃ l, es = rows l ∧ ∀ p ∈ l, -9223372036854775808 ≤ p.2 ∧ p.2 ≤ 9223372036854775807
  | [], _ => ⟨[], rfl, fun p hp => by simp at hp⟩
  | c :: es, h => by
    obtain ⟨p, rfl, hp⟩ := row_of (h c (by simp))
    obtain ⟨l, rfl, hl⟩ := rows_of es (fun c hc => h c (List.mem_cons_of_mem _ hc))
    refine ⟨p :: l, rfl, fun q hq => ?_⟩
    rcases List.mem_cons.1 hq with rfl | hq
    · exact hp
    · exact hl q hq

theorem walk {w : World} {v0 v1 : Value} {n0 n1 : Nat} {x0 x1 : D} (h0 : shpA Try.prog n0 3 x0) (h1 : shpA Try.prog n1 22 x1) (r0 : RepP (fun b _ => b < w.heap.size) w x0 v0) (r1 : RepP (fun b _ => b < w.heap.size) w x1 v1) :
    Calls Try.prog 3 #[v0, v1] w fun e w' => e = .returned (.bool true) ∧ Below w.heap.size w w' := by
  obtain ⟨b, rfl, _⟩ := shpA_int Try.underlying3 h0
  obtain ⟨nn, es, rfl, _, _, hes⟩ := shpA_slice Try.underlying22 h1
  obtain ⟨l, rfl, hn⟩ := rows_of es hes
  obtain ⟨H1, hev⟩ := law b nn l hn
  exact law_calls (P := Try.prog) (I := fun b _ => b < w.heap.size) c0Ok.hT hev (fun _ _ h => h) rfl (reps_cons r0 (reps_cons r1 reps_nil))

set_option maxRecDepth 100000 in
theorem lifted (os : Os) (started : os.Started) (H : Type) (enc : TypeId × Value → H) :
    ReturnsInHanded {} Try.checked os 3 .any (Rows.ledgerPlaysSpec.pre6 enc Try.prog Try.f3 Rows.ledgerPlaysRow.domain false) (Rows.ledgerPlaysSpec.post enc Try.prog Try.f3 false true false false) := by
  refine returnsInHanded_of_change (C := Try.checked) own started (by kernel_rfl) Try.func3
    (ChangeSpec.witness6 (enc := enc) (C := Try.checked) false ⟨#[], #[.int .i64 0, .slice none 0 0], []⟩ 8 (by kernel_rfl) (by kernel_rfl) (by kernel_rfl) (by kernel_rfl)) ?_
  intro W base args ds gs before hval0 hW hcnd _
  have hval : ∀ (j : Nat) t v, Try.f3.params[j]? = some t → args[j]? = some v → Value.okWide Try.prog W .any base t v := hval0
  have hW' := hW
  obtain ⟨p, q, hA0, hV, rfl, hfz, hnd⟩ := hW
  have hA : DataW.TrodAll enc Try.prog W 0 (fun _ => true) true Try.f3.params.toList args.toList ds p := hA0
  rw [Try.params3] at hA hval
  obtain ⟨v0, v1, d0, d1, p0, p1, rfl, rfl, rfl, h0, h1⟩ := trodAll_two hA
  obtain ⟨rfl, rfl⟩ := trodVars_none hV
  obtain ⟨n0, x0, s0, r0⟩ := arg_read laid (by kernel_rfl) (hval 0 3 v0 rfl rfl) h0
  obtain ⟨n1, x1, s1, r1⟩ := arg_read laid (by kernel_rfl) (hval 1 22 v1 rfl rfl) h1
  clear hA0 hval0
  refine (walk s0 s1 r0 r1).mono fun e W' ⟨he, hg⟩ => ?_
  subst he
  exact ⟨_, rfl, law_post laid (by kernel_rfl) rfl (by kernel_rfl) Try.underlying4 rfl hW' hg⟩

theorem over : Rows.ledgerPlaysRow.holds Try.pinned (OpenSpec.ofChange Rows.ledgerPlaysSpec) :=
  OpenClaim.holds_of_wide 3 Try.f3 rfl rfl rfl rfl rfl rfl rfl ⟨rfl, rfl, rfl, rfl, rfl⟩ rfl rfl rfl rfl rfl (by kernel_rfl) Try.func3 (by kernel_rfl)
    (of_decide_eq_true (by kernel_rfl)) (by unfold Func.isWrapper; first | (rw [if_pos (by decide +kernel)]; kernel_rfl) | (rw [if_neg (by decide +kernel)]; exact ⟨rfl, rfl⟩))
    (fun os started H enc _ => lifted os started H enc)

/-- ████ THE STATEMENT ████ -/
theorem proved : Rows.LedgerPlaysSaid := over
#print axioms proved
end Go.Proofs.Ytifpbdhggooelaa.ledgerPlays
