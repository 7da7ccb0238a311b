/- PROVED: the law DiskTurns hands back true, whatever the bytes, the bit and the mask. No conditions. -/
import Derived.Test.YtifpbdhggooelaaDkE
import Derived.WalkKit
namespace Go.Proofs.Ytifpbdhggooelaa.diskTurns
open Go Go.ChangeShapes Go.WideShapes Go.ChangeAt Go.RowKit Ytifpbdhggooelaa.GD
set_option linter.unusedVariables false

theorem own : ownKnob Try.prog.godebug = none := by kernel_rfl
theorem laid : laidOutB Try.prog = true := by kernel_rfl

theorem wf_u8 {m : Int} (h : (Lit.int .u8 m).wf = true) : 0 ≤ m ∧ m ≤ 255 := by
  simp only [Lit.wf, Bool.and_eq_true, decide_eq_true_eq] at h
  exact h
theorem wf_u16 {m : Int} (h : (Lit.int .u16 m).wf = true) : 0 ≤ m ∧ m ≤ 65535 := by
  simp only [Lit.wf, Bool.and_eq_true, decide_eq_true_eq] at h
  exact h
theorem wf_u32 {m : Int} (h : (Lit.int .u32 m).wf = true) : 0 ≤ m ∧ m ≤ 4294967295 := by
  simp only [Lit.wf, Bool.and_eq_true, decide_eq_true_eq] at h
  exact h
theorem bytes_of {n : Nat} : ∀ (es : List (List D)), (∀ c ∈ es, shp Try.prog n 5 c) → ∃ l : List Nat, es = dsk.rowN l ∧ ∀ x ∈ l, x < 256
  | [], _ => ⟨[], rfl, fun x hx => by cases hx⟩
  | c :: es, h => by
    obtain ⟨p, hp1, hp⟩ := shp_int Try.underlying5 (h c (by simp))
    obtain ⟨l, hl, hb⟩ := bytes_of es (fun c hc => h c (List.mem_cons_of_mem _ hc))
    have hw := wf_u8 hp
    refine ⟨p.toNat :: l, ?_, fun x hx => ?_⟩
    · rw [hp1, hl]
      show _ = [D.int .u8 ((p.toNat : Nat) : Int)] :: dsk.rowN l
      rw [Int.toNat_of_nonneg hw.1]
    · rcases List.mem_cons.1 hx with rfl | hx
      · omega
      · exact hb x hx
theorem walk {w : World} {v0 v1 v2 : Value} {n0 n1 n2 : Nat} {x0 x1 x2 : D} (h0 : shpA Try.prog n0 38 x0) (h1 : shpA Try.prog n1 35 x1) (h2 : shpA Try.prog n2 45 x2)
    (r0 : RepP (fun b _ => b < w.heap.size) w x0 v0) (r1 : RepP (fun b _ => b < w.heap.size) w x1 v1) (r2 : RepP (fun b _ => b < w.heap.size) w x2 v2) :
    Calls Try.prog 13 #[v0, v1, v2] w fun e w' => e = .returned (.bool true) ∧ Below w.heap.size w w' := by
  obtain ⟨nn, es, rfl, hn, hl, hes⟩ := shpA_slice Try.underlying38 h0
  obtain ⟨l, rfl, hb⟩ := bytes_of es hes
  obtain ⟨bt, rfl, hbt⟩ := shpA_int Try.underlying35 h1
  obtain ⟨mk, rfl, hmk⟩ := shpA_int Try.underlying45 h2
  have hm := wf_u32 hmk
  obtain ⟨X, hev⟩ := dsk.law13 nn hb bt mk (wf_u16 hbt) ⟨hm.1, by omega⟩
  exact law_calls (P := Try.prog) (I := fun b _ => b < w.heap.size) dsk.cKOk.hT hev (fun _ _ h => h) rfl (reps_cons r0 (reps_cons r1 (reps_cons r2 reps_nil)))

set_option maxRecDepth 100000 in
theorem lifted (os : Os) (started : os.Started) (H : Type) (enc : TypeId × Value → H) :
    ReturnsInHanded {} Try.checked os 13 .any (Rows.diskTurnsSpec.pre6 enc Try.prog Try.f13 Rows.diskTurnsRow.domain false) (Rows.diskTurnsSpec.post enc Try.prog Try.f13 false true false false) := by
  refine returnsInHanded_of_change (C := Try.checked) own started (by kernel_rfl) Try.func13
    (ChangeSpec.witness6 (enc := enc) (C := Try.checked) false ⟨#[], #[.slice none 0 0, .int .u16 0, .int .u32 0], []⟩ 8 (by kernel_rfl) (by kernel_rfl) (by kernel_rfl) (by kernel_rfl)) ?_
  intro W base args ds gs before hval0 hW hcnd _
  have hval : ∀ (j : Nat) t v, Try.f13.params[j]? = some t → args[j]? = some v → Value.okWide Try.prog W .any base t v := hval0
  have hW' := hW
  obtain ⟨p, q, hA0, hV, rfl, hfz, hnd⟩ := hW
  have hA : DataW.TrodAll enc Try.prog W 0 (fun _ => true) true Try.f13.params.toList args.toList ds p := hA0
  rw [Try.params13] at hA hval
  obtain ⟨v0, v1, v2, d0, d1, d2, p0, p1, p2, rfl, rfl, rfl, h0, h1, h2⟩ := trodAll_three hA
  obtain ⟨rfl, rfl⟩ := trodVars_none hV
  obtain ⟨n0, x0, s0, r0⟩ := arg_read laid (by kernel_rfl) (hval 0 38 v0 rfl rfl) h0
  obtain ⟨n1, x1, s1, r1⟩ := arg_read laid (by kernel_rfl) (hval 1 35 v1 rfl rfl) h1
  obtain ⟨n2, x2, s2, r2⟩ := arg_read laid (by kernel_rfl) (hval 2 45 v2 rfl rfl) h2
  clear hA0 hval0
  refine (walk s0 s1 s2 r0 r1 r2).mono fun e W' ⟨he, hg⟩ => ?_
  subst he
  exact ⟨_, rfl, law_post laid (by kernel_rfl) rfl (by kernel_rfl) Try.underlying4 rfl hW' hg⟩

theorem over : Rows.diskTurnsRow.holds Try.pinned (OpenSpec.ofChange Rows.diskTurnsSpec) :=
  OpenClaim.holds_of_wide 13 Try.f13 rfl rfl rfl rfl rfl rfl rfl ⟨rfl, rfl, rfl, rfl, rfl⟩ rfl rfl rfl rfl rfl (by kernel_rfl) Try.func13 (by kernel_rfl)
    (of_decide_eq_true (by kernel_rfl)) (by unfold Func.isWrapper; first | (rw [if_pos (by decide +kernel)]; kernel_rfl) | (rw [if_neg (by decide +kernel)]; exact ⟨rfl, rfl⟩))
    (fun os started H enc _ => lifted os started H enc)

/-- ████ THE STATEMENT ████ -/
theorem proved : Rows.DiskTurnsSaid := over
#print axioms proved
end Go.Proofs.Ytifpbdhggooelaa.diskTurns
