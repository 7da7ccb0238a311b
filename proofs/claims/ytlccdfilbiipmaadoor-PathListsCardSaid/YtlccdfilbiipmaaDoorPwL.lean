/- Paths: the law PathReaches hands back true. -/
import Derived.Test.YtlccdfilbiipmaaDoorPwW
import Derived.Test.YtlccdfilbiipmaaDoorPwZ
namespace Go.Proofs.YtlccdfilbiipmaaDoor.ordk
open Go YtlccdfilbiipmaaDoor.GD valk
set_option linter.unusedVariables false
set_option linter.unusedSimpArgs false
set_option maxRecDepth 100000

noncomputable def cA : Cf := { P := Tryd.prog, T := tyOf Tryd.prog, hint := fun _ _ _ => .auto, room := fun _ _ => 1, meth := fun _ _ => none, ct := fun _ _ _ => none, stop := false }
theorem cAOk : CfOk cA where
  hT := fun _ _ h => h
  hm := by kernel_rfl
  meth := fun _ _ _ h => by simp only [cA] at h; cases h
  ct := fun _ _ _ _ _ _ h => by simp only [cA] at h; cases h
theorem awake9 : Ret P T 9 [] [] (.bool true) [] := ret_closed cAOk (show tellsTrue (callE cA 100000 100 9 [] [] .auto) = true by kernel_rfl)

/-- A row of texts. -/
theorem names_of {ep : Es} (h : ∀ r ∈ ep, ∃ s, r = [D.str s] ∧ s.size ≤ maxLen) : ∃ ps, ep = nmS ps ∧ ∀ s ∈ ps, s.size ≤ maxLen := by
  induction ep with
  | nil => exact ⟨[], rfl, fun _ h => by cases h⟩
  | cons r t ih =>
    obtain ⟨s, rfl, hs⟩ := h r (by simp)
    obtain ⟨ps, rfl, hp⟩ := ih (fun r hr => h r (List.mem_cons_of_mem _ hr))
    exact ⟨s :: ps, rfl, fun x hx => by rcases List.mem_cons.1 hx with rfl | hx; exact hs; exact hp x hx⟩
theorem bd_of {v : Cs} (hv : VS v) (h : (encV v).length ≤ 700000) : Bd v := by
  have := cnt_enc hv
  unfold Bd; omega
theorem all_max {ps : List ByteArray} {v : Cs} (hv : VS v) (h : Bd v) : (allN ps v).length ≤ maxLen := by
  have := all_len ps hv
  have hm : (1000000 : Nat) ≤ maxLen := by decide
  unfold Bd at h; omega
theorem law4 {v : Cs} (hv : VS v) (xp : Bool) (ps : List ByteArray) (lp : ps.length ≤ maxLen) : Ret P T 4 [.agg v, .slice xp (nmS ps) none] [] (.bool true) [] := by
  obtain ⟨b, hb, hok⟩ := valid13 hv
  have hf := few14 xp ps lp
  cases b with
  | false =>
    obtain ⟨k, n, s, xb, eb, xf, ef, xl, el, rfl⟩ := hv.get
    exact lpr_in_2 (vd := fun _ => false) (fw := fun _ => false) (sm := fun _ _ => true) (sa := fun _ _ => true) (rV := fun _ _ => ctOf zeroV) (aV := fun _ _ => []) rfl hb awake9
  | true =>
    cases hw : fewW ps with
    | false =>
      rw [hw] at hf
      obtain ⟨k, n, s, xb, eb, xf, ef, xl, el, rfl⟩ := hv.get
      exact lpr_in_1 (vd := fun _ => true) (fw := fun _ => false) (sm := fun _ _ => true) (sa := fun _ _ => true) (rV := fun _ _ => ctOf zeroV) (aV := fun _ _ => []) rfl rfl hf hb awake9
    | true =>
      rw [hw] at hf
      have hbd := bd_of hv (hok rfl).2
      have r1 := reach16 xp ps hv hbd
      have r2 := reach17 xp ps hv hbd
      have a1 := all19 xp ps hv hbd
      have a2 := all20 xp ps hv hbd
      have s1 := same15 (reach_vs ps hv)
      have s2 := same18 true true (all_vs ps hv) (all_max hv hbd)
      have c1 := cells_of (reach_vs ps hv)
      rw [← c1] at r1 r2 s1
      obtain ⟨k, n, s, xb, eb, xf, ef, xl, el, rfl⟩ := hv.get
      exact lpr_in_0 (vd := fun _ => true) (fw := fun _ => true) (sm := fun _ _ => true) (sa := fun _ _ => true) (rV := fun _ _ => ctOf (reachN ps _)) (aV := fun _ _ => allN ps _) rfl rfl rfl s2 a2 a1 s1 r2 r1 hf hb awake9

end Go.Proofs.YtlccdfilbiipmaaDoor.ordk
