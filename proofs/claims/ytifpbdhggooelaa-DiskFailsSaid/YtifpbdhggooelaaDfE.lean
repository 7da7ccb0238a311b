/- The law DiskFails hands back true. -/
import Derived.Test.YtifpbdhggooelaaDfA
import Derived.Test.YtifpbdhggooelaaDfD
namespace Go.Proofs.Ytifpbdhggooelaa.dsk
open Go Ytifpbdhggooelaa.GD
set_option linter.unusedVariables false
set_option linter.unusedSimpArgs false
set_option maxRecDepth 100000

noncomputable def cF : Cf := { P := Try.prog, T := tyOf Try.prog, hint := fun fn _ _ => bif Nat.beq fn 51 then .aRow else .auto, room := fun _ _ => 3, meth := fun _ _ => none, ct := fun _ _ _ => none, stop := false }
theorem cFOk : CfOk cF where
  hT := fun _ _ h => h
  hm := by kernel_rfl
  meth := fun _ _ _ h => by simp only [cF] at h; cases h
  ct := fun _ _ _ _ _ _ h => by simp only [cF] at h; cases h
theorem awake36f : Ret P T 36 [] [] (.bool true) [] := ret_closed cFOk (show tellsTrue (callE cF 100000 100 36 [] [] .auto) = true by kernel_rfl)

/-- The pages' numbers. -/
def keysN (n : Nat) : List Int := (List.range n).map fun (i : Nat) => (i : Int)
theorem keys_len (n : Nat) : (keysN n).length = n := by simp [keysN]
theorem keys_zero (n : Nat) (h : 1 ≤ n) : findI (keysN n) 0 0 = some 0 := by
  obtain ⟨m, rfl⟩ : ∃ m, n = m + 1 := ⟨n - 1, by omega⟩
  unfold keysN
  rw [List.range_succ_eq_map, List.map_cons, findI]
  exact if_pos rfl
theorem find_none : ∀ (ks : List Int) (n : Int) (i : Nat), (∀ a ∈ ks, a ≠ n) → findI ks n i = none
  | [], _, _, _ => rfl
  | a :: r, n, i, h => by
    rw [findI, if_neg (fun e => h a (by simp) e.symm), find_none r n (i + 1) (fun b hb => h b (List.mem_cons_of_mem _ hb))]
theorem keys_new (n : Nat) : findI (keysN n) (n : Int) 0 = none := by
  refine find_none _ _ _ (fun a ha => ?_)
  obtain ⟨i, hi, rfl⟩ := List.mem_map.1 ha
  have := List.mem_range.1 hi
  omega
theorem keys_app (n : Nat) : keysN n ++ [(n : Int)] = keysN (n + 1) := by
  unfold keysN
  rw [List.range_succ, List.map_append]
  rfl

theorem flI (l : List Int) : FlatEs (l.map fun x => [D.int .u8 x]) := by
  intro c hc
  obtain ⟨x, _, rfl⟩ := List.mem_map.1 hc
  rfl
def bI : List Int := 5 :: (List.replicate 62 0 ++ [6])
def bE : Es := bI.map fun x => [D.int .u8 x]
theorem flB : FlatEs bE := flI bI
theorem flX (x : Int) : FlatEs ([D.int .u8 x] :: (List.replicate 62 0 ++ [6] : List Int).map fun x => [D.int .u8 x]) := flI (x :: (List.replicate 62 0 ++ [6]))
theorem flZf : FlatEs (List.replicate 64 [D.int .u8 (0 : Int)]) := by
  intro c hc
  rw [(List.mem_replicate.1 hc).2]; rfl
theorem x51 : xorW .u8 5 1 = 4 := by kernel_rfl

section
variable {at_ kd : Int} {w k : Nat} (hw : IntKind.i64.wrap ((1 : Int) + (IntKind.i64.wrap at_).tmod (12 : Int)) = (w : Int)) (hk : IntKind.i64.wrap ((1 : Int) + (IntKind.i64.wrap kd).tmod (4 : Int)) = (k : Int))
include hw hk
theorem loop12 : ∀ (m i hi : Nat) (wr a b c d : Int) (ks : List Int), i + m = 15 → 1 ≤ i → 1 ≤ hi → hi ≤ i → a = (i : Int) → b = (hi : Int) → c = (i : Int) + 1 → d = (i : Int) - 1 → ks = keysN hi →
    ldf_at0 at_ kd a b c wr d ks (.bool true) [] := by
  intro m
  induction m with
  | zero =>
    rintro i hi wr _ _ _ _ _ hm h1 h2 h3 rfl rfl rfl rfl rfl
    have hi15 : i = 15 := by omega
    subst hi15
    exact ldf_0_12 (by omega) flB flFf
  | succ m ih =>
    rintro i hi wr _ _ _ _ _ hm h1 h2 h3 rfl rfl rfl rfl rfl
    have e1 : IntKind.i64.wrap ((i : Int) + 1) = ((i + 1 : Nat) : Int) := by rw [wrap_i64 ⟨by omega, by omega⟩]; omega
    have e2 : IntKind.i64.wrap ((i : Int) + 1 + 1) = ((i + 1 : Nat) : Int) + 1 := by rw [wrap_i64 ⟨by omega, by omega⟩]; omega
    have e3 : IntKind.i64.wrap ((i : Int) - 1 + 1) = ((i + 1 : Nat) : Int) - 1 := by rw [wrap_i64 ⟨by omega, by omega⟩]; omega
    have e3' : IntKind.i64.wrap ((i : Int) - 1 + 1) = (i : Int) := by rw [wrap_i64 ⟨by omega, by omega⟩]; omega
    have e4 : IntKind.i64.wrap ((hi : Int) + 1) = ((hi + 1 : Nat) : Int) := by rw [wrap_i64 ⟨by omega, by omega⟩]; omega
    have g0 : ∀ wr', ldf_at0 at_ kd (IntKind.i64.wrap ((i : Int) + 1)) (hi : Int) (IntKind.i64.wrap ((i : Int) + 1 + 1)) wr' (IntKind.i64.wrap ((i : Int) - 1 + 1)) (keysN hi) (.bool true) [] := fun wr' =>
      ih (i + 1) hi wr' _ _ _ _ _ (by omega) (by omega) h2 (by omega) e1 rfl e2 e3 rfl
    have g1 : ∀ wr', ldf_at0 at_ kd (IntKind.i64.wrap ((i : Int) + 1)) (IntKind.i64.wrap ((hi : Int) + 1)) (IntKind.i64.wrap ((i : Int) + 1 + 1)) wr' (IntKind.i64.wrap ((i : Int) - 1 + 1)) (keysN hi ++ [(hi : Int)]) (.bool true) [] := fun wr' =>
      ih (i + 1) (hi + 1) wr' _ _ _ _ _ (by omega) (by omega) (by omega) (by omega) e1 e4 e2 e3 (keys_app hi)
    have hz := keys_zero hi h2
    have hz1 : findI (keysN hi ++ [(hi : Int)]) 0 0 = some 0 := by rw [keys_app]; exact keys_zero _ (by omega)
    have hn := keys_new hi
    have hlen : ¬ (((keysN hi).length : Int) ≥ 40) := by rw [keys_len]; omega
    have h14 : (i : Int) ≤ 14 := by omega
    have hmod : ((i : Int)).tmod 3 = ((i % 3 : Nat) : Int) := by rw [Int.tmod_eq_emod_of_nonneg (by omega)]; omega
    by_cases hiw : i = w
    · have hwn : (i : Int) = IntKind.i64.wrap ((1 : Int) + (IntKind.i64.wrap at_).tmod (12 : Int)) := by rw [hw, hiw]
      have eW : (IntKind.i64.wrap ((i : Int) - 1 + 1) == IntKind.i64.wrap ((1 : Int) + (IntKind.i64.wrap at_).tmod (12 : Int))) = true := by rw [e3', ← hwn]; simp
      have pT : ∀ c : Nat, k = c → (IntKind.i64.wrap ((i : Int) - 1 + 1) == IntKind.i64.wrap ((1 : Int) + (IntKind.i64.wrap at_).tmod (12 : Int)) && (c : Int) == IntKind.i64.wrap ((1 : Int) + (IntKind.i64.wrap kd).tmod (4 : Int))) = true := fun c h => by rw [eW, hk, h]; simp
      have pF : ∀ c : Nat, k ≠ c → (IntKind.i64.wrap ((i : Int) - 1 + 1) == IntKind.i64.wrap ((1 : Int) + (IntKind.i64.wrap at_).tmod (12 : Int)) && (c : Int) == IntKind.i64.wrap ((1 : Int) + (IntKind.i64.wrap kd).tmod (4 : Int))) = false := fun c h => by
        rw [eW, hk]
        have : ((c : Int) == (k : Int)) = false := by simp; omega
        rw [this]; rfl
      have kT : ∀ c : Nat, k = c → (IntKind.i64.wrap ((1 : Int) + (IntKind.i64.wrap kd).tmod (4 : Int)) == (c : Int)) = true := fun c h => by rw [hk, h]; simp
      have kF : ∀ c : Nat, k ≠ c → (IntKind.i64.wrap ((1 : Int) + (IntKind.i64.wrap kd).tmod (4 : Int)) == (c : Int)) = false := fun c h => by rw [hk]; simp; omega
      by_cases c0 : i % 3 = 0
      · have hm0 : ((i : Int)).tmod 3 = 0 := by rw [hmod, c0]; rfl
        by_cases k1 : k = 1
        · exact ldf_0_0 h14 hm0 (pT 1 k1) hwn (by rw [hk, k1]; rfl) flB flFf (pf59 _ _ _ _ _ _ _ _ _) (g0 _)
        · have kn1 : IntKind.i64.wrap ((1 : Int) + (IntKind.i64.wrap kd).tmod (4 : Int)) ≠ 1 := by rw [hk]; omega
          by_cases k4 : k = 4
          · exact ldf_0_1 (n41_10_2 := 5) (n41_10_5 := 5) (n26_10 := xorW .u8 5 1) h14 hm0 (pF 1 k1) (pT 4 k4) hwn kn1 (by rw [x51]; exact (kT 4 k4).symm) flB flFf hz rfl (flX _) rfl rfl (pf59 _ _ _ _ _ _ _ _ _) (pf59 _ _ _ _ _ _ _ _ _) (g0 _)
          · exact ldf_0_3 (n26_10 := 5) h14 hm0 (pF 1 k1) (pF 4 k4) hwn kn1 ((kF 4 k4).symm) flB flFf hz rfl (pf59 _ _ _ _ _ _ _ _ _) (pf59 _ _ _ _ _ _ _ _ _) (g0 _)
      · have hm0 : ((i : Int)).tmod 3 ≠ 0 := by rw [hmod]; omega
        by_cases c1 : i % 3 = 1
        · have hm1 : ((i : Int)).tmod 3 = 1 := by rw [hmod, c1]; rfl
          by_cases k2 : k = 2
          · exact ldf_0_5 h14 hm0 hm1 (pT 2 k2) hwn (by have := kT 2 k2; exact (congrArg Bool.not this).symm) flB flFf hz (pf59 _ _ _ _ _ _ _ _ _) (g0 _)
          · exact ldf_0_6 h14 hm0 hm1 (pF 2 k2) hwn (by have := kF 2 k2; exact (congrArg Bool.not this).symm) flB flFf hz (pf59 _ _ _ _ _ _ _ _ _) (g0 _)
        · have hm1 : ((i : Int)).tmod 3 ≠ 1 := by rw [hmod]; omega
          by_cases k3 : k = 3
          · exact ldf_0_8 h14 hm0 hm1 (pT 3 k3) hwn (by have := kT 3 k3; exact (congrArg Bool.not this).symm) flB flFf hz (pf59 _ _ _ _ _ _ _ _ _) (g0 _)
          · exact ldf_0_10 h14 hm0 hm1 (pF 3 k3) hlen hwn (by have := kF 3 k3; exact (congrArg Bool.not this).symm) flB flFf hz1 hn (pf59 _ _ _ _ _ _ _ _ _) (g1 _)
    · have hwn : (i : Int) ≠ IntKind.i64.wrap ((1 : Int) + (IntKind.i64.wrap at_).tmod (12 : Int)) := by rw [hw]; omega
      have pF : ∀ c : Nat, (IntKind.i64.wrap ((i : Int) - 1 + 1) == IntKind.i64.wrap ((1 : Int) + (IntKind.i64.wrap at_).tmod (12 : Int)) && (c : Int) == IntKind.i64.wrap ((1 : Int) + (IntKind.i64.wrap kd).tmod (4 : Int))) = false := fun c => by
        have : (IntKind.i64.wrap ((i : Int) - 1 + 1) == IntKind.i64.wrap ((1 : Int) + (IntKind.i64.wrap at_).tmod (12 : Int))) = false := by rw [e3']; exact beq_eq_false_iff_ne.2 hwn
        rw [this]; rfl
      by_cases c0 : i % 3 = 0
      · have hm0 : ((i : Int)).tmod 3 = 0 := by rw [hmod, c0]; rfl
        exact ldf_0_4 (n26_10 := 5) h14 hm0 (pF 1) (pF 4) hwn (by omega) flB flFf hz rfl (pf59 _ _ _ _ _ _ _ _ _) (pf59 _ _ _ _ _ _ _ _ _) (g0 _)
      · have hm0 : ((i : Int)).tmod 3 ≠ 0 := by rw [hmod]; omega
        by_cases c1 : i % 3 = 1
        · have hm1 : ((i : Int)).tmod 3 = 1 := by rw [hmod, c1]; rfl
          exact ldf_0_7 h14 hm0 hm1 (pF 2) hwn flB flFf hz (pf59 _ _ _ _ _ _ _ _ _) (g0 _)
        · have hm1 : ((i : Int)).tmod 3 ≠ 1 := by rw [hmod]; omega
          exact ldf_0_11 h14 hm0 hm1 (pF 3) hlen hwn flB flFf hz1 hn (pf59 _ _ _ _ _ _ _ _ _) (g1 _)
end

theorem law12 (at_ kd : Int) (ha : 0 ≤ at_ ∧ at_ ≤ 255) (hk : 0 ≤ kd ∧ kd ≤ 255) : Ret P T 12 [.int .u8 at_, .int .u8 kd] [] (.bool true) [] := by
  have wa : IntKind.i64.wrap at_ = at_ := wrap_i64 ⟨by omega, by omega⟩
  have wk : IntKind.i64.wrap kd = kd := wrap_i64 ⟨by omega, by omega⟩
  have ta : at_.tmod 12 = at_ % 12 := Int.tmod_eq_emod_of_nonneg ha.1
  have tk : kd.tmod 4 = kd % 4 := Int.tmod_eq_emod_of_nonneg hk.1
  obtain ⟨w, hw⟩ : ∃ w : Nat, IntKind.i64.wrap ((1 : Int) + (IntKind.i64.wrap at_).tmod (12 : Int)) = (w : Int) := ⟨(1 + at_ % 12).toNat, by rw [wa, ta, wrap_i64 ⟨by omega, by omega⟩]; omega⟩
  obtain ⟨k, hkk⟩ : ∃ k : Nat, IntKind.i64.wrap ((1 : Int) + (IntKind.i64.wrap kd).tmod (4 : Int)) = (k : Int) := ⟨(1 + kd % 4).toNat, by rw [wk, tk, wrap_i64 ⟨by omega, by omega⟩]; omega⟩
  exact ldf_in_0 flB flFf flZf (wf39 flZf flB rfl rfl) af38 nf37 awake36f (loop12 hw hkk 14 1 1 1 1 1 2 0 [0] rfl (by omega) (by omega) (by omega) rfl rfl (by omega) (by omega) rfl)

end Go.Proofs.Ytifpbdhggooelaa.dsk
