/- PROVED: the law NumBack hands back true, whatever the two numbers, and how wide. No conditions. -/
import Derived.Test.YtbkacmcijimbfaaNumBackA
import Derived.Test.YtbkacmcijimbfaaNumBackB
namespace Go.Proofs.Ytbkacmcijimbfaa.numBack
open Go Ytbkacmcijimbfaa.GD Ytbkacmcijimbfaa.numk
set_option linter.unusedVariables false
set_option linter.unusedSimpArgs false

theorem not_none {k : Int} (h : numK k) : ¬ noneK k := by unfold numK at h; unfold noneK; omega
theorem ar_E {f : Nat} {ka na kb nb : Int} (h1 : numK ka) (h2 : numK kb) : arE f ka na kb nb = opE f na nb := by
  unfold arE arith
  rw [if_neg (by simp [not_none h1, not_none h2]), if_neg (by simp [h1, h2])]
  split <;> simp_all
theorem ar_N {f : Nat} {ka na kb nb : Int} (h1 : numK ka) (h2 : numK kb) : arN f ka na kb nb = opN f na nb := by
  unfold arN arith
  rw [if_neg (by simp [not_none h1, not_none h2]), if_neg (by simp [h1, h2])]
  split
  · rename_i h; simp [opN, h]
  · rfl
theorem of32_num (n : Int) : of32 n = 3 ∨ of32 n = 4 := by unfold of32; split <;> simp
theorem nK {f : Nat} {ka na kb nb : Int} (h1 : numK ka) (h2 : numK kb) (h : opE f na nb = 0) : numK (arK f ka na kb nb) := by
  unfold arK arith
  rw [if_neg (by simp [not_none h1, not_none h2]), if_neg (by simp [h1, h2]), if_neg (by simp [h])]
  simp only
  split
  · exact .inr rfl
  · exact of32_num _
theorem K4 {f : Nat} {na kb nb : Int} (h2 : numK kb) (h : opE f na nb = 0) : arK f 4 na kb nb = 4 := by
  unfold arK arith
  have n4 : ¬ noneK 4 := by decide
  have m4 : numK 4 := .inr rfl
  rw [if_neg (by simp [not_none h2, n4]), if_neg (by simp [h2, m4]), if_neg (by simp [h])]
  simp
theorem numK4 : numK 4 := .inr rfl
theorem numKof (n : Int) : numK (of32 n) := of32_num n

def Goal (a b : Int) (w0 w1 : Bool) : Prop := ∃ X, Ev c0.P c0.T (.call 4 [.int .i64 a, .int .i64 b, .agg [.bool w0, .bool w1]] [] (.bool true) ([] ++ X))
theorem done {args : List D} {c : Bool} (h : ∃ X, Ev c0.P c0.T (.call 4 args [] (.bool c) ([] ++ X))) (hc : c = true) : ∃ X, Ev c0.P c0.T (.call 4 args [] (.bool true) ([] ++ X)) := by
  subst hc
  exact h

/-- Division with its rest comes back. -/
def Back (a b : Int) : Prop := ∃ q r p, opE 48 a b = 0 ∧ opN 48 a b = q ∧ R q ∧ opE 49 a b = 0 ∧ opN 49 a b = r ∧ R r ∧ opE 46 q b = 0 ∧ opN 46 q b = p ∧ R p ∧ opE 45 p r = 0 ∧ opN 45 p r = a ∧ (r = 0 ∨ (decide (r < 0) = decide (a < 0)))
theorem back {a b : Int} (ra : R a) (rb : R b) (hb : b ≠ 0) (h : ¬ (a = -9223372036854775808 ∧ b = -1)) : Back a b := by
  have rq := tdiv_R ra hb h
  have e := Int.mul_tdiv_add_tmod a b
  have habs : (a.tmod b).natAbs ≤ a.natAbs := by rw [Int.natAbs_tmod]; exact Nat.mod_le _ _
  have hsgn : a.tmod b = 0 ∨ (a.tmod b < 0 ↔ a < 0) := by
    by_cases ha : 0 ≤ a
    · have := Int.tmod_nonneg b ha
      omega
    · have h1 : a.tmod b = -((-a).tmod b) := by rw [Int.neg_tmod]; omega
      have h2 := Int.tmod_nonneg b (show 0 ≤ -a by omega)
      omega
  rw [Int.mul_comm] at e
  have rr : R (a.tmod b) := by unfold R at *; omega
  have rp : R (a.tdiv b * b) := by
    unfold R at *
    generalize a.tdiv b * b = p at *
    omega
  have ep : a.tdiv b * b + a.tmod b = a := e
  refine ⟨a.tdiv b, a.tmod b, a.tdiv b * b, ?_, ?_, rq, ?_, ?_, rr, ?_, ?_, rp, ?_, ?_, ?_⟩
  · simp [opE, hb, rq]
  · simp [opN, opE, opV, hb, rq]
  · simp [opE, hb]
  · simp [opN, opE, opV, hb]
  · simp [opE, rp]
  · simp [opN, opE, opV, rp]
  · simp [opE, ep, ra]
  · simp [opN, opE, opV, ep, ra]
  · rcases hsgn with h | h
    · exact .inl h
    · exact .inr (by simpa using h)

theorem facts {a b : Int} (ra : R a) (rb : R b) :
    (b = 0 ∧ opE 45 a b = 0 ∧ opN 45 a b = a + b ∧ opE 47 (a + b) b = 0 ∧ opN 47 (a + b) b = a ∧ opE 48 a b = 11 ∧ opE 49 a b = 11) ∨
    (a = -9223372036854775808 ∧ b = -1 ∧ opE 45 a b = 10 ∧ opE 48 a b = 10 ∧ opE 49 a b = 0 ∧ opN 49 a b = 0) ∨
    (¬ b = 0 ∧ opE 45 a b = 0 ∧ opN 45 a b = a + b ∧ R (a + b) ∧ opE 47 (a + b) b = 0 ∧ opN 47 (a + b) b = a ∧ Back a b) ∨
    (¬ b = 0 ∧ opE 45 a b = 10 ∧ Back a b) := by
  have hd : a + b - b = a := by omega
  by_cases hb : b = 0
  · left
    subst hb
    rw [Int.add_zero] at *
    simp [opE, opN, opV, ra]
  · by_cases hm : a = -9223372036854775808 ∧ b = -1
    · obtain ⟨rfl, rfl⟩ := hm
      right; left
      decide
    · have k := back ra rb hb hm
      by_cases hr : R (a + b)
      · right; right; left
        exact ⟨hb, by simp [opE, hr], by simp [opN, opE, opV, hr], hr, by simp [opE, hd, ra], by simp [opN, opE, opV, hd, ra], k⟩
      · right; right; right
        exact ⟨hb, by simp [opE, hr], k⟩

theorem back_true_true {a b : Int} (ra : R a) (rb : R b) : Goal a b true true := by
  unfold Goal
  rcases facts ra rb with F | F | F | F
  · obtain ⟨hb, e45, n45, e47, n47, e48, e49⟩ := F
    subst hb
    have n45' : opN 45 a 0 = a := by rw [n45]; omega
    have n47' : opN 47 a 0 = a := by rw [Int.add_zero] at n47; exact n47
    have e47' : opE 47 a 0 = 0 := by rw [Int.add_zero] at e47; exact e47
    clear n45 n47 e47
    first
      | (refine done (l4_3 a 0 true true ?_ ?_ ?_ ?_ ?_ ?_ ?_ ?_ ?_ ?_ ?_ ?_ ?_) ?_ <;> simp [ar_E, ar_N, nK, K4, numK4, numKof, *]; done)
      | (refine done (l4_5 a 0 true true ?_ ?_ ?_ ?_ ?_ ?_ ?_ ?_ ?_ ?_ ?_ ?_ ?_ ?_ ?_ ?_) ?_ <;> simp [ar_E, ar_N, nK, K4, numK4, numKof, *]; done)
      | (refine done (l4_9 a 0 true true ?_ ?_ ?_ ?_ ?_ ?_ ?_ ?_ ?_ ?_ ?_ ?_ ?_ ?_ ?_ ?_ ?_ ?_ ?_ ?_ ?_) ?_ <;> simp [ar_E, ar_N, nK, K4, numK4, numKof, *]; done)
      | (refine done (l4_10 a 0 true true ?_ ?_ ?_ ?_ ?_ ?_ ?_ ?_ ?_ ?_ ?_ ?_ ?_ ?_ ?_ ?_ ?_ ?_ ?_ ?_ ?_) ?_ <;> simp [ar_E, ar_N, nK, K4, numK4, numKof, *]; done)
  · obtain ⟨ha, hb, e45, e48, e49, n49⟩ := F
    subst ha
    subst hb
    first
      | (refine done (l4_16 (-9223372036854775808) (-1) true true ?_ ?_ ?_ ?_ ?_ ?_ ?_ ?_ ?_ ?_) ?_ <;> simp [ar_E, ar_N, nK, K4, numK4, numKof, *]; done)
      | (refine done (l4_18 (-9223372036854775808) (-1) true true ?_ ?_ ?_ ?_ ?_ ?_ ?_ ?_ ?_ ?_ ?_ ?_ ?_) ?_ <;> simp [ar_E, ar_N, nK, K4, numK4, numKof, *]; done)
      | (refine done (l4_22 (-9223372036854775808) (-1) true true ?_ ?_ ?_ ?_ ?_ ?_ ?_ ?_ ?_ ?_ ?_ ?_ ?_ ?_ ?_ ?_ ?_ ?_) ?_ <;> simp [ar_E, ar_N, nK, K4, numK4, numKof, *]; done)
      | (refine done (l4_23 (-9223372036854775808) (-1) true true ?_ ?_ ?_ ?_ ?_ ?_ ?_ ?_ ?_ ?_ ?_ ?_ ?_ ?_ ?_ ?_ ?_ ?_) ?_ <;> simp [ar_E, ar_N, nK, K4, numK4, numKof, *]; done)
  · obtain ⟨hb, e45, n45, r45, e47, n47, q, r, p, e48, n48, rq, e49, n49, rr, e46, n46, rp, e4, n4, hs⟩ := F
    have m1 : numK (arK 48 4 a 4 b) := nK numK4 numK4 e48
    have m2 : numK (arK 46 (arK 48 4 a 4 b) q 4 b) := nK m1 numK4 e46
    have m3 : numK (arK 49 4 a 4 b) := nK numK4 numK4 e49
    by_cases hz : r = 0
    · subst hz
      first
        | (refine done (l4_3 a b true true ?_ ?_ ?_ ?_ ?_ ?_ ?_ ?_ ?_ ?_ ?_ ?_ ?_) ?_ <;> simp [ar_E, ar_N, nK, K4, numK4, numKof, *]; done)
        | (refine done (l4_5 a b true true ?_ ?_ ?_ ?_ ?_ ?_ ?_ ?_ ?_ ?_ ?_ ?_ ?_ ?_ ?_ ?_) ?_ <;> simp [ar_E, ar_N, nK, K4, numK4, numKof, *]; done)
        | (refine done (l4_9 a b true true ?_ ?_ ?_ ?_ ?_ ?_ ?_ ?_ ?_ ?_ ?_ ?_ ?_ ?_ ?_ ?_ ?_ ?_ ?_ ?_ ?_) ?_ <;> simp [ar_E, ar_N, nK, K4, numK4, numKof, *]; done)
        | (refine done (l4_10 a b true true ?_ ?_ ?_ ?_ ?_ ?_ ?_ ?_ ?_ ?_ ?_ ?_ ?_ ?_ ?_ ?_ ?_ ?_ ?_ ?_ ?_) ?_ <;> simp [ar_E, ar_N, nK, K4, numK4, numKof, *]; done)
    · have hs1 : (r < 0 ↔ a < 0) := by simpa [hz] using hs
      first
        | (refine done (l4_3 a b true true ?_ ?_ ?_ ?_ ?_ ?_ ?_ ?_ ?_ ?_ ?_ ?_ ?_) ?_ <;> simp [ar_E, ar_N, nK, K4, numK4, numKof, *]; done)
        | (refine done (l4_5 a b true true ?_ ?_ ?_ ?_ ?_ ?_ ?_ ?_ ?_ ?_ ?_ ?_ ?_ ?_ ?_ ?_) ?_ <;> simp [ar_E, ar_N, nK, K4, numK4, numKof, *]; done)
        | (refine done (l4_9 a b true true ?_ ?_ ?_ ?_ ?_ ?_ ?_ ?_ ?_ ?_ ?_ ?_ ?_ ?_ ?_ ?_ ?_ ?_ ?_ ?_ ?_) ?_ <;> simp [ar_E, ar_N, nK, K4, numK4, numKof, *]; done)
        | (refine done (l4_10 a b true true ?_ ?_ ?_ ?_ ?_ ?_ ?_ ?_ ?_ ?_ ?_ ?_ ?_ ?_ ?_ ?_ ?_ ?_ ?_ ?_ ?_) ?_ <;> simp [ar_E, ar_N, nK, K4, numK4, numKof, *]; done)
  · obtain ⟨hb, e45, q, r, p, e48, n48, rq, e49, n49, rr, e46, n46, rp, e4, n4, hs⟩ := F
    have m1 : numK (arK 48 4 a 4 b) := nK numK4 numK4 e48
    have m2 : numK (arK 46 (arK 48 4 a 4 b) q 4 b) := nK m1 numK4 e46
    have m3 : numK (arK 49 4 a 4 b) := nK numK4 numK4 e49
    by_cases hz : r = 0
    · subst hz
      first
        | (refine done (l4_16 a b true true ?_ ?_ ?_ ?_ ?_ ?_ ?_ ?_ ?_ ?_) ?_ <;> simp [ar_E, ar_N, nK, K4, numK4, numKof, *]; done)
        | (refine done (l4_18 a b true true ?_ ?_ ?_ ?_ ?_ ?_ ?_ ?_ ?_ ?_ ?_ ?_ ?_) ?_ <;> simp [ar_E, ar_N, nK, K4, numK4, numKof, *]; done)
        | (refine done (l4_22 a b true true ?_ ?_ ?_ ?_ ?_ ?_ ?_ ?_ ?_ ?_ ?_ ?_ ?_ ?_ ?_ ?_ ?_ ?_) ?_ <;> simp [ar_E, ar_N, nK, K4, numK4, numKof, *]; done)
        | (refine done (l4_23 a b true true ?_ ?_ ?_ ?_ ?_ ?_ ?_ ?_ ?_ ?_ ?_ ?_ ?_ ?_ ?_ ?_ ?_ ?_) ?_ <;> simp [ar_E, ar_N, nK, K4, numK4, numKof, *]; done)
    · have hs1 : (r < 0 ↔ a < 0) := by simpa [hz] using hs
      first
        | (refine done (l4_16 a b true true ?_ ?_ ?_ ?_ ?_ ?_ ?_ ?_ ?_ ?_) ?_ <;> simp [ar_E, ar_N, nK, K4, numK4, numKof, *]; done)
        | (refine done (l4_18 a b true true ?_ ?_ ?_ ?_ ?_ ?_ ?_ ?_ ?_ ?_ ?_ ?_ ?_) ?_ <;> simp [ar_E, ar_N, nK, K4, numK4, numKof, *]; done)
        | (refine done (l4_22 a b true true ?_ ?_ ?_ ?_ ?_ ?_ ?_ ?_ ?_ ?_ ?_ ?_ ?_ ?_ ?_ ?_ ?_ ?_) ?_ <;> simp [ar_E, ar_N, nK, K4, numK4, numKof, *]; done)
        | (refine done (l4_23 a b true true ?_ ?_ ?_ ?_ ?_ ?_ ?_ ?_ ?_ ?_ ?_ ?_ ?_ ?_ ?_ ?_ ?_ ?_) ?_ <;> simp [ar_E, ar_N, nK, K4, numK4, numKof, *]; done)

theorem back_true_false {a b : Int} (ra : R a) (rb : R b) : Goal a b true false := by
  unfold Goal
  rcases facts ra rb with F | F | F | F
  · obtain ⟨hb, e45, n45, e47, n47, e48, e49⟩ := F
    subst hb
    have n45' : opN 45 a 0 = a := by rw [n45]; omega
    have n47' : opN 47 a 0 = a := by rw [Int.add_zero] at n47; exact n47
    have e47' : opE 47 a 0 = 0 := by rw [Int.add_zero] at e47; exact e47
    clear n45 n47 e47
    first
      | (refine done (l4_31 a 0 true false ?_ ?_ ?_ ?_ ?_ ?_ ?_ ?_ ?_ ?_ ?_ ?_ ?_) ?_ <;> simp [ar_E, ar_N, nK, K4, numK4, numKof, *]; done)
      | (refine done (l4_33 a 0 true false ?_ ?_ ?_ ?_ ?_ ?_ ?_ ?_ ?_ ?_ ?_ ?_ ?_ ?_ ?_ ?_) ?_ <;> simp [ar_E, ar_N, nK, K4, numK4, numKof, *]; done)
      | (refine done (l4_37 a 0 true false ?_ ?_ ?_ ?_ ?_ ?_ ?_ ?_ ?_ ?_ ?_ ?_ ?_ ?_ ?_ ?_ ?_ ?_ ?_ ?_ ?_) ?_ <;> simp [ar_E, ar_N, nK, K4, numK4, numKof, *]; done)
      | (refine done (l4_38 a 0 true false ?_ ?_ ?_ ?_ ?_ ?_ ?_ ?_ ?_ ?_ ?_ ?_ ?_ ?_ ?_ ?_ ?_ ?_ ?_ ?_ ?_) ?_ <;> simp [ar_E, ar_N, nK, K4, numK4, numKof, *]; done)
  · obtain ⟨ha, hb, e45, e48, e49, n49⟩ := F
    subst ha
    subst hb
    first
      | (refine done (l4_44 (-9223372036854775808) (-1) true false ?_ ?_ ?_ ?_ ?_ ?_ ?_ ?_ ?_ ?_) ?_ <;> simp [ar_E, ar_N, nK, K4, numK4, numKof, *]; done)
      | (refine done (l4_46 (-9223372036854775808) (-1) true false ?_ ?_ ?_ ?_ ?_ ?_ ?_ ?_ ?_ ?_ ?_ ?_ ?_) ?_ <;> simp [ar_E, ar_N, nK, K4, numK4, numKof, *]; done)
      | (refine done (l4_50 (-9223372036854775808) (-1) true false ?_ ?_ ?_ ?_ ?_ ?_ ?_ ?_ ?_ ?_ ?_ ?_ ?_ ?_ ?_ ?_ ?_ ?_) ?_ <;> simp [ar_E, ar_N, nK, K4, numK4, numKof, *]; done)
      | (refine done (l4_51 (-9223372036854775808) (-1) true false ?_ ?_ ?_ ?_ ?_ ?_ ?_ ?_ ?_ ?_ ?_ ?_ ?_ ?_ ?_ ?_ ?_ ?_) ?_ <;> simp [ar_E, ar_N, nK, K4, numK4, numKof, *]; done)
  · obtain ⟨hb, e45, n45, r45, e47, n47, q, r, p, e48, n48, rq, e49, n49, rr, e46, n46, rp, e4, n4, hs⟩ := F
    have m1 : numK (arK 48 4 a (of32 b) b) := nK numK4 (numKof b) e48
    have m2 : numK (arK 46 (arK 48 4 a (of32 b) b) q (of32 b) b) := nK m1 (numKof b) e46
    have m3 : numK (arK 49 4 a (of32 b) b) := nK numK4 (numKof b) e49
    by_cases hz : r = 0
    · subst hz
      first
        | (refine done (l4_31 a b true false ?_ ?_ ?_ ?_ ?_ ?_ ?_ ?_ ?_ ?_ ?_ ?_ ?_) ?_ <;> simp [ar_E, ar_N, nK, K4, numK4, numKof, *]; done)
        | (refine done (l4_33 a b true false ?_ ?_ ?_ ?_ ?_ ?_ ?_ ?_ ?_ ?_ ?_ ?_ ?_ ?_ ?_ ?_) ?_ <;> simp [ar_E, ar_N, nK, K4, numK4, numKof, *]; done)
        | (refine done (l4_37 a b true false ?_ ?_ ?_ ?_ ?_ ?_ ?_ ?_ ?_ ?_ ?_ ?_ ?_ ?_ ?_ ?_ ?_ ?_ ?_ ?_ ?_) ?_ <;> simp [ar_E, ar_N, nK, K4, numK4, numKof, *]; done)
        | (refine done (l4_38 a b true false ?_ ?_ ?_ ?_ ?_ ?_ ?_ ?_ ?_ ?_ ?_ ?_ ?_ ?_ ?_ ?_ ?_ ?_ ?_ ?_ ?_) ?_ <;> simp [ar_E, ar_N, nK, K4, numK4, numKof, *]; done)
    · have hs1 : (r < 0 ↔ a < 0) := by simpa [hz] using hs
      first
        | (refine done (l4_31 a b true false ?_ ?_ ?_ ?_ ?_ ?_ ?_ ?_ ?_ ?_ ?_ ?_ ?_) ?_ <;> simp [ar_E, ar_N, nK, K4, numK4, numKof, *]; done)
        | (refine done (l4_33 a b true false ?_ ?_ ?_ ?_ ?_ ?_ ?_ ?_ ?_ ?_ ?_ ?_ ?_ ?_ ?_ ?_) ?_ <;> simp [ar_E, ar_N, nK, K4, numK4, numKof, *]; done)
        | (refine done (l4_37 a b true false ?_ ?_ ?_ ?_ ?_ ?_ ?_ ?_ ?_ ?_ ?_ ?_ ?_ ?_ ?_ ?_ ?_ ?_ ?_ ?_ ?_) ?_ <;> simp [ar_E, ar_N, nK, K4, numK4, numKof, *]; done)
        | (refine done (l4_38 a b true false ?_ ?_ ?_ ?_ ?_ ?_ ?_ ?_ ?_ ?_ ?_ ?_ ?_ ?_ ?_ ?_ ?_ ?_ ?_ ?_ ?_) ?_ <;> simp [ar_E, ar_N, nK, K4, numK4, numKof, *]; done)
  · obtain ⟨hb, e45, q, r, p, e48, n48, rq, e49, n49, rr, e46, n46, rp, e4, n4, hs⟩ := F
    have m1 : numK (arK 48 4 a (of32 b) b) := nK numK4 (numKof b) e48
    have m2 : numK (arK 46 (arK 48 4 a (of32 b) b) q (of32 b) b) := nK m1 (numKof b) e46
    have m3 : numK (arK 49 4 a (of32 b) b) := nK numK4 (numKof b) e49
    by_cases hz : r = 0
    · subst hz
      first
        | (refine done (l4_44 a b true false ?_ ?_ ?_ ?_ ?_ ?_ ?_ ?_ ?_ ?_) ?_ <;> simp [ar_E, ar_N, nK, K4, numK4, numKof, *]; done)
        | (refine done (l4_46 a b true false ?_ ?_ ?_ ?_ ?_ ?_ ?_ ?_ ?_ ?_ ?_ ?_ ?_) ?_ <;> simp [ar_E, ar_N, nK, K4, numK4, numKof, *]; done)
        | (refine done (l4_50 a b true false ?_ ?_ ?_ ?_ ?_ ?_ ?_ ?_ ?_ ?_ ?_ ?_ ?_ ?_ ?_ ?_ ?_ ?_) ?_ <;> simp [ar_E, ar_N, nK, K4, numK4, numKof, *]; done)
        | (refine done (l4_51 a b true false ?_ ?_ ?_ ?_ ?_ ?_ ?_ ?_ ?_ ?_ ?_ ?_ ?_ ?_ ?_ ?_ ?_ ?_) ?_ <;> simp [ar_E, ar_N, nK, K4, numK4, numKof, *]; done)
    · have hs1 : (r < 0 ↔ a < 0) := by simpa [hz] using hs
      first
        | (refine done (l4_44 a b true false ?_ ?_ ?_ ?_ ?_ ?_ ?_ ?_ ?_ ?_) ?_ <;> simp [ar_E, ar_N, nK, K4, numK4, numKof, *]; done)
        | (refine done (l4_46 a b true false ?_ ?_ ?_ ?_ ?_ ?_ ?_ ?_ ?_ ?_ ?_ ?_ ?_) ?_ <;> simp [ar_E, ar_N, nK, K4, numK4, numKof, *]; done)
        | (refine done (l4_50 a b true false ?_ ?_ ?_ ?_ ?_ ?_ ?_ ?_ ?_ ?_ ?_ ?_ ?_ ?_ ?_ ?_ ?_ ?_) ?_ <;> simp [ar_E, ar_N, nK, K4, numK4, numKof, *]; done)
        | (refine done (l4_51 a b true false ?_ ?_ ?_ ?_ ?_ ?_ ?_ ?_ ?_ ?_ ?_ ?_ ?_ ?_ ?_ ?_ ?_ ?_) ?_ <;> simp [ar_E, ar_N, nK, K4, numK4, numKof, *]; done)

theorem back_false_true {a b : Int} (ra : R a) (rb : R b) : Goal a b false true := by
  unfold Goal
  rcases facts ra rb with F | F | F | F
  · obtain ⟨hb, e45, n45, e47, n47, e48, e49⟩ := F
    subst hb
    have n45' : opN 45 a 0 = a := by rw [n45]; omega
    have n47' : opN 47 a 0 = a := by rw [Int.add_zero] at n47; exact n47
    have e47' : opE 47 a 0 = 0 := by rw [Int.add_zero] at e47; exact e47
    clear n45 n47 e47
    by_cases hk : arK 47 (arK 45 (of32 a) a 4 0) a 4 0 = 4
    · skip
      first
        | (refine done (l4_58 a 0 false true ?_ ?_ ?_ ?_ ?_ ?_ ?_ ?_ ?_ ?_ ?_ ?_ ?_) ?_ <;> simp [ar_E, ar_N, nK, K4, numK4, numKof, *]; done)
        | (refine done (l4_60 a 0 false true ?_ ?_ ?_ ?_ ?_ ?_ ?_ ?_ ?_ ?_ ?_ ?_ ?_ ?_ ?_ ?_) ?_ <;> simp [ar_E, ar_N, nK, K4, numK4, numKof, *]; done)
        | (refine done (l4_64 a 0 false true ?_ ?_ ?_ ?_ ?_ ?_ ?_ ?_ ?_ ?_ ?_ ?_ ?_ ?_ ?_ ?_ ?_ ?_ ?_ ?_ ?_) ?_ <;> simp [ar_E, ar_N, nK, K4, numK4, numKof, *]; done)
        | (refine done (l4_65 a 0 false true ?_ ?_ ?_ ?_ ?_ ?_ ?_ ?_ ?_ ?_ ?_ ?_ ?_ ?_ ?_ ?_ ?_ ?_ ?_ ?_ ?_) ?_ <;> simp [ar_E, ar_N, nK, K4, numK4, numKof, *]; done)
        | (refine done (l4_70 a 0 false true ?_ ?_ ?_ ?_ ?_ ?_ ?_ ?_ ?_ ?_ ?_ ?_ ?_) ?_ <;> simp [ar_E, ar_N, nK, K4, numK4, numKof, *]; done)
        | (refine done (l4_72 a 0 false true ?_ ?_ ?_ ?_ ?_ ?_ ?_ ?_ ?_ ?_ ?_ ?_ ?_ ?_ ?_ ?_) ?_ <;> simp [ar_E, ar_N, nK, K4, numK4, numKof, *]; done)
        | (refine done (l4_76 a 0 false true ?_ ?_ ?_ ?_ ?_ ?_ ?_ ?_ ?_ ?_ ?_ ?_ ?_ ?_ ?_ ?_ ?_ ?_ ?_ ?_ ?_) ?_ <;> simp [ar_E, ar_N, nK, K4, numK4, numKof, *]; done)
        | (refine done (l4_77 a 0 false true ?_ ?_ ?_ ?_ ?_ ?_ ?_ ?_ ?_ ?_ ?_ ?_ ?_ ?_ ?_ ?_ ?_ ?_ ?_ ?_ ?_) ?_ <;> simp [ar_E, ar_N, nK, K4, numK4, numKof, *]; done)
    · skip
      first
        | (refine done (l4_58 a 0 false true ?_ ?_ ?_ ?_ ?_ ?_ ?_ ?_ ?_ ?_ ?_ ?_ ?_) ?_ <;> simp [ar_E, ar_N, nK, K4, numK4, numKof, *]; done)
        | (refine done (l4_60 a 0 false true ?_ ?_ ?_ ?_ ?_ ?_ ?_ ?_ ?_ ?_ ?_ ?_ ?_ ?_ ?_ ?_) ?_ <;> simp [ar_E, ar_N, nK, K4, numK4, numKof, *]; done)
        | (refine done (l4_64 a 0 false true ?_ ?_ ?_ ?_ ?_ ?_ ?_ ?_ ?_ ?_ ?_ ?_ ?_ ?_ ?_ ?_ ?_ ?_ ?_ ?_ ?_) ?_ <;> simp [ar_E, ar_N, nK, K4, numK4, numKof, *]; done)
        | (refine done (l4_65 a 0 false true ?_ ?_ ?_ ?_ ?_ ?_ ?_ ?_ ?_ ?_ ?_ ?_ ?_ ?_ ?_ ?_ ?_ ?_ ?_ ?_ ?_) ?_ <;> simp [ar_E, ar_N, nK, K4, numK4, numKof, *]; done)
        | (refine done (l4_70 a 0 false true ?_ ?_ ?_ ?_ ?_ ?_ ?_ ?_ ?_ ?_ ?_ ?_ ?_) ?_ <;> simp [ar_E, ar_N, nK, K4, numK4, numKof, *]; done)
        | (refine done (l4_72 a 0 false true ?_ ?_ ?_ ?_ ?_ ?_ ?_ ?_ ?_ ?_ ?_ ?_ ?_ ?_ ?_ ?_) ?_ <;> simp [ar_E, ar_N, nK, K4, numK4, numKof, *]; done)
        | (refine done (l4_76 a 0 false true ?_ ?_ ?_ ?_ ?_ ?_ ?_ ?_ ?_ ?_ ?_ ?_ ?_ ?_ ?_ ?_ ?_ ?_ ?_ ?_ ?_) ?_ <;> simp [ar_E, ar_N, nK, K4, numK4, numKof, *]; done)
        | (refine done (l4_77 a 0 false true ?_ ?_ ?_ ?_ ?_ ?_ ?_ ?_ ?_ ?_ ?_ ?_ ?_ ?_ ?_ ?_ ?_ ?_ ?_ ?_ ?_) ?_ <;> simp [ar_E, ar_N, nK, K4, numK4, numKof, *]; done)
  · obtain ⟨ha, hb, e45, e48, e49, n49⟩ := F
    subst ha
    subst hb
    first
      | (refine done (l4_83 (-9223372036854775808) (-1) false true ?_ ?_ ?_ ?_ ?_ ?_ ?_ ?_ ?_ ?_) ?_ <;> simp [ar_E, ar_N, nK, K4, numK4, numKof, *]; done)
      | (refine done (l4_85 (-9223372036854775808) (-1) false true ?_ ?_ ?_ ?_ ?_ ?_ ?_ ?_ ?_ ?_ ?_ ?_ ?_) ?_ <;> simp [ar_E, ar_N, nK, K4, numK4, numKof, *]; done)
      | (refine done (l4_89 (-9223372036854775808) (-1) false true ?_ ?_ ?_ ?_ ?_ ?_ ?_ ?_ ?_ ?_ ?_ ?_ ?_ ?_ ?_ ?_ ?_ ?_) ?_ <;> simp [ar_E, ar_N, nK, K4, numK4, numKof, *]; done)
      | (refine done (l4_90 (-9223372036854775808) (-1) false true ?_ ?_ ?_ ?_ ?_ ?_ ?_ ?_ ?_ ?_ ?_ ?_ ?_ ?_ ?_ ?_ ?_ ?_) ?_ <;> simp [ar_E, ar_N, nK, K4, numK4, numKof, *]; done)
  · obtain ⟨hb, e45, n45, r45, e47, n47, q, r, p, e48, n48, rq, e49, n49, rr, e46, n46, rp, e4, n4, hs⟩ := F
    have m1 : numK (arK 48 (of32 a) a 4 b) := nK (numKof a) numK4 e48
    have m2 : numK (arK 46 (arK 48 (of32 a) a 4 b) q 4 b) := nK m1 numK4 e46
    have m3 : numK (arK 49 (of32 a) a 4 b) := nK (numKof a) numK4 e49
    by_cases hz : r = 0
    · subst hz
      by_cases hk : arK 47 (arK 45 (of32 a) a 4 b) (a + b) 4 b = 4
      · skip
        first
          | (refine done (l4_58 a b false true ?_ ?_ ?_ ?_ ?_ ?_ ?_ ?_ ?_ ?_ ?_ ?_ ?_) ?_ <;> simp [ar_E, ar_N, nK, K4, numK4, numKof, *]; done)
          | (refine done (l4_60 a b false true ?_ ?_ ?_ ?_ ?_ ?_ ?_ ?_ ?_ ?_ ?_ ?_ ?_ ?_ ?_ ?_) ?_ <;> simp [ar_E, ar_N, nK, K4, numK4, numKof, *]; done)
          | (refine done (l4_64 a b false true ?_ ?_ ?_ ?_ ?_ ?_ ?_ ?_ ?_ ?_ ?_ ?_ ?_ ?_ ?_ ?_ ?_ ?_ ?_ ?_ ?_) ?_ <;> simp [ar_E, ar_N, nK, K4, numK4, numKof, *]; done)
          | (refine done (l4_65 a b false true ?_ ?_ ?_ ?_ ?_ ?_ ?_ ?_ ?_ ?_ ?_ ?_ ?_ ?_ ?_ ?_ ?_ ?_ ?_ ?_ ?_) ?_ <;> simp [ar_E, ar_N, nK, K4, numK4, numKof, *]; done)
          | (refine done (l4_70 a b false true ?_ ?_ ?_ ?_ ?_ ?_ ?_ ?_ ?_ ?_ ?_ ?_ ?_) ?_ <;> simp [ar_E, ar_N, nK, K4, numK4, numKof, *]; done)
          | (refine done (l4_72 a b false true ?_ ?_ ?_ ?_ ?_ ?_ ?_ ?_ ?_ ?_ ?_ ?_ ?_ ?_ ?_ ?_) ?_ <;> simp [ar_E, ar_N, nK, K4, numK4, numKof, *]; done)
          | (refine done (l4_76 a b false true ?_ ?_ ?_ ?_ ?_ ?_ ?_ ?_ ?_ ?_ ?_ ?_ ?_ ?_ ?_ ?_ ?_ ?_ ?_ ?_ ?_) ?_ <;> simp [ar_E, ar_N, nK, K4, numK4, numKof, *]; done)
          | (refine done (l4_77 a b false true ?_ ?_ ?_ ?_ ?_ ?_ ?_ ?_ ?_ ?_ ?_ ?_ ?_ ?_ ?_ ?_ ?_ ?_ ?_ ?_ ?_) ?_ <;> simp [ar_E, ar_N, nK, K4, numK4, numKof, *]; done)
      · skip
        first
          | (refine done (l4_58 a b false true ?_ ?_ ?_ ?_ ?_ ?_ ?_ ?_ ?_ ?_ ?_ ?_ ?_) ?_ <;> simp [ar_E, ar_N, nK, K4, numK4, numKof, *]; done)
          | (refine done (l4_60 a b false true ?_ ?_ ?_ ?_ ?_ ?_ ?_ ?_ ?_ ?_ ?_ ?_ ?_ ?_ ?_ ?_) ?_ <;> simp [ar_E, ar_N, nK, K4, numK4, numKof, *]; done)
          | (refine done (l4_64 a b false true ?_ ?_ ?_ ?_ ?_ ?_ ?_ ?_ ?_ ?_ ?_ ?_ ?_ ?_ ?_ ?_ ?_ ?_ ?_ ?_ ?_) ?_ <;> simp [ar_E, ar_N, nK, K4, numK4, numKof, *]; done)
          | (refine done (l4_65 a b false true ?_ ?_ ?_ ?_ ?_ ?_ ?_ ?_ ?_ ?_ ?_ ?_ ?_ ?_ ?_ ?_ ?_ ?_ ?_ ?_ ?_) ?_ <;> simp [ar_E, ar_N, nK, K4, numK4, numKof, *]; done)
          | (refine done (l4_70 a b false true ?_ ?_ ?_ ?_ ?_ ?_ ?_ ?_ ?_ ?_ ?_ ?_ ?_) ?_ <;> simp [ar_E, ar_N, nK, K4, numK4, numKof, *]; done)
          | (refine done (l4_72 a b false true ?_ ?_ ?_ ?_ ?_ ?_ ?_ ?_ ?_ ?_ ?_ ?_ ?_ ?_ ?_ ?_) ?_ <;> simp [ar_E, ar_N, nK, K4, numK4, numKof, *]; done)
          | (refine done (l4_76 a b false true ?_ ?_ ?_ ?_ ?_ ?_ ?_ ?_ ?_ ?_ ?_ ?_ ?_ ?_ ?_ ?_ ?_ ?_ ?_ ?_ ?_) ?_ <;> simp [ar_E, ar_N, nK, K4, numK4, numKof, *]; done)
          | (refine done (l4_77 a b false true ?_ ?_ ?_ ?_ ?_ ?_ ?_ ?_ ?_ ?_ ?_ ?_ ?_ ?_ ?_ ?_ ?_ ?_ ?_ ?_ ?_) ?_ <;> simp [ar_E, ar_N, nK, K4, numK4, numKof, *]; done)
    · have hs1 : (r < 0 ↔ a < 0) := by simpa [hz] using hs
      by_cases hk : arK 47 (arK 45 (of32 a) a 4 b) (a + b) 4 b = 4
      · skip
        first
          | (refine done (l4_58 a b false true ?_ ?_ ?_ ?_ ?_ ?_ ?_ ?_ ?_ ?_ ?_ ?_ ?_) ?_ <;> simp [ar_E, ar_N, nK, K4, numK4, numKof, *]; done)
          | (refine done (l4_60 a b false true ?_ ?_ ?_ ?_ ?_ ?_ ?_ ?_ ?_ ?_ ?_ ?_ ?_ ?_ ?_ ?_) ?_ <;> simp [ar_E, ar_N, nK, K4, numK4, numKof, *]; done)
          | (refine done (l4_64 a b false true ?_ ?_ ?_ ?_ ?_ ?_ ?_ ?_ ?_ ?_ ?_ ?_ ?_ ?_ ?_ ?_ ?_ ?_ ?_ ?_ ?_) ?_ <;> simp [ar_E, ar_N, nK, K4, numK4, numKof, *]; done)
          | (refine done (l4_65 a b false true ?_ ?_ ?_ ?_ ?_ ?_ ?_ ?_ ?_ ?_ ?_ ?_ ?_ ?_ ?_ ?_ ?_ ?_ ?_ ?_ ?_) ?_ <;> simp [ar_E, ar_N, nK, K4, numK4, numKof, *]; done)
          | (refine done (l4_70 a b false true ?_ ?_ ?_ ?_ ?_ ?_ ?_ ?_ ?_ ?_ ?_ ?_ ?_) ?_ <;> simp [ar_E, ar_N, nK, K4, numK4, numKof, *]; done)
          | (refine done (l4_72 a b false true ?_ ?_ ?_ ?_ ?_ ?_ ?_ ?_ ?_ ?_ ?_ ?_ ?_ ?_ ?_ ?_) ?_ <;> simp [ar_E, ar_N, nK, K4, numK4, numKof, *]; done)
          | (refine done (l4_76 a b false true ?_ ?_ ?_ ?_ ?_ ?_ ?_ ?_ ?_ ?_ ?_ ?_ ?_ ?_ ?_ ?_ ?_ ?_ ?_ ?_ ?_) ?_ <;> simp [ar_E, ar_N, nK, K4, numK4, numKof, *]; done)
          | (refine done (l4_77 a b false true ?_ ?_ ?_ ?_ ?_ ?_ ?_ ?_ ?_ ?_ ?_ ?_ ?_ ?_ ?_ ?_ ?_ ?_ ?_ ?_ ?_) ?_ <;> simp [ar_E, ar_N, nK, K4, numK4, numKof, *]; done)
      · skip
        first
          | (refine done (l4_58 a b false true ?_ ?_ ?_ ?_ ?_ ?_ ?_ ?_ ?_ ?_ ?_ ?_ ?_) ?_ <;> simp [ar_E, ar_N, nK, K4, numK4, numKof, *]; done)
          | (refine done (l4_60 a b false true ?_ ?_ ?_ ?_ ?_ ?_ ?_ ?_ ?_ ?_ ?_ ?_ ?_ ?_ ?_ ?_) ?_ <;> simp [ar_E, ar_N, nK, K4, numK4, numKof, *]; done)
          | (refine done (l4_64 a b false true ?_ ?_ ?_ ?_ ?_ ?_ ?_ ?_ ?_ ?_ ?_ ?_ ?_ ?_ ?_ ?_ ?_ ?_ ?_ ?_ ?_) ?_ <;> simp [ar_E, ar_N, nK, K4, numK4, numKof, *]; done)
          | (refine done (l4_65 a b false true ?_ ?_ ?_ ?_ ?_ ?_ ?_ ?_ ?_ ?_ ?_ ?_ ?_ ?_ ?_ ?_ ?_ ?_ ?_ ?_ ?_) ?_ <;> simp [ar_E, ar_N, nK, K4, numK4, numKof, *]; done)
          | (refine done (l4_70 a b false true ?_ ?_ ?_ ?_ ?_ ?_ ?_ ?_ ?_ ?_ ?_ ?_ ?_) ?_ <;> simp [ar_E, ar_N, nK, K4, numK4, numKof, *]; done)
          | (refine done (l4_72 a b false true ?_ ?_ ?_ ?_ ?_ ?_ ?_ ?_ ?_ ?_ ?_ ?_ ?_ ?_ ?_ ?_) ?_ <;> simp [ar_E, ar_N, nK, K4, numK4, numKof, *]; done)
          | (refine done (l4_76 a b false true ?_ ?_ ?_ ?_ ?_ ?_ ?_ ?_ ?_ ?_ ?_ ?_ ?_ ?_ ?_ ?_ ?_ ?_ ?_ ?_ ?_) ?_ <;> simp [ar_E, ar_N, nK, K4, numK4, numKof, *]; done)
          | (refine done (l4_77 a b false true ?_ ?_ ?_ ?_ ?_ ?_ ?_ ?_ ?_ ?_ ?_ ?_ ?_ ?_ ?_ ?_ ?_ ?_ ?_ ?_ ?_) ?_ <;> simp [ar_E, ar_N, nK, K4, numK4, numKof, *]; done)
  · obtain ⟨hb, e45, q, r, p, e48, n48, rq, e49, n49, rr, e46, n46, rp, e4, n4, hs⟩ := F
    have m1 : numK (arK 48 (of32 a) a 4 b) := nK (numKof a) numK4 e48
    have m2 : numK (arK 46 (arK 48 (of32 a) a 4 b) q 4 b) := nK m1 numK4 e46
    have m3 : numK (arK 49 (of32 a) a 4 b) := nK (numKof a) numK4 e49
    by_cases hz : r = 0
    · subst hz
      first
        | (refine done (l4_83 a b false true ?_ ?_ ?_ ?_ ?_ ?_ ?_ ?_ ?_ ?_) ?_ <;> simp [ar_E, ar_N, nK, K4, numK4, numKof, *]; done)
        | (refine done (l4_85 a b false true ?_ ?_ ?_ ?_ ?_ ?_ ?_ ?_ ?_ ?_ ?_ ?_ ?_) ?_ <;> simp [ar_E, ar_N, nK, K4, numK4, numKof, *]; done)
        | (refine done (l4_89 a b false true ?_ ?_ ?_ ?_ ?_ ?_ ?_ ?_ ?_ ?_ ?_ ?_ ?_ ?_ ?_ ?_ ?_ ?_) ?_ <;> simp [ar_E, ar_N, nK, K4, numK4, numKof, *]; done)
        | (refine done (l4_90 a b false true ?_ ?_ ?_ ?_ ?_ ?_ ?_ ?_ ?_ ?_ ?_ ?_ ?_ ?_ ?_ ?_ ?_ ?_) ?_ <;> simp [ar_E, ar_N, nK, K4, numK4, numKof, *]; done)
    · have hs1 : (r < 0 ↔ a < 0) := by simpa [hz] using hs
      first
        | (refine done (l4_83 a b false true ?_ ?_ ?_ ?_ ?_ ?_ ?_ ?_ ?_ ?_) ?_ <;> simp [ar_E, ar_N, nK, K4, numK4, numKof, *]; done)
        | (refine done (l4_85 a b false true ?_ ?_ ?_ ?_ ?_ ?_ ?_ ?_ ?_ ?_ ?_ ?_ ?_) ?_ <;> simp [ar_E, ar_N, nK, K4, numK4, numKof, *]; done)
        | (refine done (l4_89 a b false true ?_ ?_ ?_ ?_ ?_ ?_ ?_ ?_ ?_ ?_ ?_ ?_ ?_ ?_ ?_ ?_ ?_ ?_) ?_ <;> simp [ar_E, ar_N, nK, K4, numK4, numKof, *]; done)
        | (refine done (l4_90 a b false true ?_ ?_ ?_ ?_ ?_ ?_ ?_ ?_ ?_ ?_ ?_ ?_ ?_ ?_ ?_ ?_ ?_ ?_) ?_ <;> simp [ar_E, ar_N, nK, K4, numK4, numKof, *]; done)

theorem back_false_false {a b : Int} (ra : R a) (rb : R b) : Goal a b false false := by
  unfold Goal
  rcases facts ra rb with F | F | F | F
  · obtain ⟨hb, e45, n45, e47, n47, e48, e49⟩ := F
    subst hb
    have n45' : opN 45 a 0 = a := by rw [n45]; omega
    have n47' : opN 47 a 0 = a := by rw [Int.add_zero] at n47; exact n47
    have e47' : opE 47 a 0 = 0 := by rw [Int.add_zero] at e47; exact e47
    clear n45 n47 e47
    by_cases hk : arK 47 (arK 45 (of32 a) a (of32 0) 0) a (of32 0) 0 = 4
    · skip
      first
        | (refine done (l4_97 a 0 false false ?_ ?_ ?_ ?_ ?_ ?_ ?_ ?_ ?_ ?_ ?_ ?_ ?_) ?_ <;> simp [ar_E, ar_N, nK, K4, numK4, numKof, *]; done)
        | (refine done (l4_99 a 0 false false ?_ ?_ ?_ ?_ ?_ ?_ ?_ ?_ ?_ ?_ ?_ ?_ ?_ ?_ ?_ ?_) ?_ <;> simp [ar_E, ar_N, nK, K4, numK4, numKof, *]; done)
        | (refine done (l4_103 a 0 false false ?_ ?_ ?_ ?_ ?_ ?_ ?_ ?_ ?_ ?_ ?_ ?_ ?_ ?_ ?_ ?_ ?_ ?_ ?_ ?_ ?_) ?_ <;> simp [ar_E, ar_N, nK, K4, numK4, numKof, *]; done)
        | (refine done (l4_104 a 0 false false ?_ ?_ ?_ ?_ ?_ ?_ ?_ ?_ ?_ ?_ ?_ ?_ ?_ ?_ ?_ ?_ ?_ ?_ ?_ ?_ ?_) ?_ <;> simp [ar_E, ar_N, nK, K4, numK4, numKof, *]; done)
        | (refine done (l4_109 a 0 false false ?_ ?_ ?_ ?_ ?_ ?_ ?_ ?_ ?_ ?_ ?_ ?_ ?_) ?_ <;> simp [ar_E, ar_N, nK, K4, numK4, numKof, *]; done)
        | (refine done (l4_111 a 0 false false ?_ ?_ ?_ ?_ ?_ ?_ ?_ ?_ ?_ ?_ ?_ ?_ ?_ ?_ ?_ ?_) ?_ <;> simp [ar_E, ar_N, nK, K4, numK4, numKof, *]; done)
        | (refine done (l4_115 a 0 false false ?_ ?_ ?_ ?_ ?_ ?_ ?_ ?_ ?_ ?_ ?_ ?_ ?_ ?_ ?_ ?_ ?_ ?_ ?_ ?_ ?_) ?_ <;> simp [ar_E, ar_N, nK, K4, numK4, numKof, *]; done)
        | (refine done (l4_116 a 0 false false ?_ ?_ ?_ ?_ ?_ ?_ ?_ ?_ ?_ ?_ ?_ ?_ ?_ ?_ ?_ ?_ ?_ ?_ ?_ ?_ ?_) ?_ <;> simp [ar_E, ar_N, nK, K4, numK4, numKof, *]; done)
    · skip
      first
        | (refine done (l4_97 a 0 false false ?_ ?_ ?_ ?_ ?_ ?_ ?_ ?_ ?_ ?_ ?_ ?_ ?_) ?_ <;> simp [ar_E, ar_N, nK, K4, numK4, numKof, *]; done)
        | (refine done (l4_99 a 0 false false ?_ ?_ ?_ ?_ ?_ ?_ ?_ ?_ ?_ ?_ ?_ ?_ ?_ ?_ ?_ ?_) ?_ <;> simp [ar_E, ar_N, nK, K4, numK4, numKof, *]; done)
        | (refine done (l4_103 a 0 false false ?_ ?_ ?_ ?_ ?_ ?_ ?_ ?_ ?_ ?_ ?_ ?_ ?_ ?_ ?_ ?_ ?_ ?_ ?_ ?_ ?_) ?_ <;> simp [ar_E, ar_N, nK, K4, numK4, numKof, *]; done)
        | (refine done (l4_104 a 0 false false ?_ ?_ ?_ ?_ ?_ ?_ ?_ ?_ ?_ ?_ ?_ ?_ ?_ ?_ ?_ ?_ ?_ ?_ ?_ ?_ ?_) ?_ <;> simp [ar_E, ar_N, nK, K4, numK4, numKof, *]; done)
        | (refine done (l4_109 a 0 false false ?_ ?_ ?_ ?_ ?_ ?_ ?_ ?_ ?_ ?_ ?_ ?_ ?_) ?_ <;> simp [ar_E, ar_N, nK, K4, numK4, numKof, *]; done)
        | (refine done (l4_111 a 0 false false ?_ ?_ ?_ ?_ ?_ ?_ ?_ ?_ ?_ ?_ ?_ ?_ ?_ ?_ ?_ ?_) ?_ <;> simp [ar_E, ar_N, nK, K4, numK4, numKof, *]; done)
        | (refine done (l4_115 a 0 false false ?_ ?_ ?_ ?_ ?_ ?_ ?_ ?_ ?_ ?_ ?_ ?_ ?_ ?_ ?_ ?_ ?_ ?_ ?_ ?_ ?_) ?_ <;> simp [ar_E, ar_N, nK, K4, numK4, numKof, *]; done)
        | (refine done (l4_116 a 0 false false ?_ ?_ ?_ ?_ ?_ ?_ ?_ ?_ ?_ ?_ ?_ ?_ ?_ ?_ ?_ ?_ ?_ ?_ ?_ ?_ ?_) ?_ <;> simp [ar_E, ar_N, nK, K4, numK4, numKof, *]; done)
  · obtain ⟨ha, hb, e45, e48, e49, n49⟩ := F
    subst ha
    subst hb
    first
      | (refine done (l4_122 (-9223372036854775808) (-1) false false ?_ ?_ ?_ ?_ ?_ ?_ ?_ ?_ ?_ ?_) ?_ <;> simp [ar_E, ar_N, nK, K4, numK4, numKof, *]; done)
      | (refine done (l4_124 (-9223372036854775808) (-1) false false ?_ ?_ ?_ ?_ ?_ ?_ ?_ ?_ ?_ ?_ ?_ ?_ ?_) ?_ <;> simp [ar_E, ar_N, nK, K4, numK4, numKof, *]; done)
      | (refine done (l4_128 (-9223372036854775808) (-1) false false ?_ ?_ ?_ ?_ ?_ ?_ ?_ ?_ ?_ ?_ ?_ ?_ ?_ ?_ ?_ ?_ ?_ ?_) ?_ <;> simp [ar_E, ar_N, nK, K4, numK4, numKof, *]; done)
      | (refine done (l4_129 (-9223372036854775808) (-1) false false ?_ ?_ ?_ ?_ ?_ ?_ ?_ ?_ ?_ ?_ ?_ ?_ ?_ ?_ ?_ ?_ ?_ ?_) ?_ <;> simp [ar_E, ar_N, nK, K4, numK4, numKof, *]; done)
  · obtain ⟨hb, e45, n45, r45, e47, n47, q, r, p, e48, n48, rq, e49, n49, rr, e46, n46, rp, e4, n4, hs⟩ := F
    have m1 : numK (arK 48 (of32 a) a (of32 b) b) := nK (numKof a) (numKof b) e48
    have m2 : numK (arK 46 (arK 48 (of32 a) a (of32 b) b) q (of32 b) b) := nK m1 (numKof b) e46
    have m3 : numK (arK 49 (of32 a) a (of32 b) b) := nK (numKof a) (numKof b) e49
    by_cases hz : r = 0
    · subst hz
      by_cases hk : arK 47 (arK 45 (of32 a) a (of32 b) b) (a + b) (of32 b) b = 4
      · skip
        first
          | (refine done (l4_97 a b false false ?_ ?_ ?_ ?_ ?_ ?_ ?_ ?_ ?_ ?_ ?_ ?_ ?_) ?_ <;> simp [ar_E, ar_N, nK, K4, numK4, numKof, *]; done)
          | (refine done (l4_99 a b false false ?_ ?_ ?_ ?_ ?_ ?_ ?_ ?_ ?_ ?_ ?_ ?_ ?_ ?_ ?_ ?_) ?_ <;> simp [ar_E, ar_N, nK, K4, numK4, numKof, *]; done)
          | (refine done (l4_103 a b false false ?_ ?_ ?_ ?_ ?_ ?_ ?_ ?_ ?_ ?_ ?_ ?_ ?_ ?_ ?_ ?_ ?_ ?_ ?_ ?_ ?_) ?_ <;> simp [ar_E, ar_N, nK, K4, numK4, numKof, *]; done)
          | (refine done (l4_104 a b false false ?_ ?_ ?_ ?_ ?_ ?_ ?_ ?_ ?_ ?_ ?_ ?_ ?_ ?_ ?_ ?_ ?_ ?_ ?_ ?_ ?_) ?_ <;> simp [ar_E, ar_N, nK, K4, numK4, numKof, *]; done)
          | (refine done (l4_109 a b false false ?_ ?_ ?_ ?_ ?_ ?_ ?_ ?_ ?_ ?_ ?_ ?_ ?_) ?_ <;> simp [ar_E, ar_N, nK, K4, numK4, numKof, *]; done)
          | (refine done (l4_111 a b false false ?_ ?_ ?_ ?_ ?_ ?_ ?_ ?_ ?_ ?_ ?_ ?_ ?_ ?_ ?_ ?_) ?_ <;> simp [ar_E, ar_N, nK, K4, numK4, numKof, *]; done)
          | (refine done (l4_115 a b false false ?_ ?_ ?_ ?_ ?_ ?_ ?_ ?_ ?_ ?_ ?_ ?_ ?_ ?_ ?_ ?_ ?_ ?_ ?_ ?_ ?_) ?_ <;> simp [ar_E, ar_N, nK, K4, numK4, numKof, *]; done)
          | (refine done (l4_116 a b false false ?_ ?_ ?_ ?_ ?_ ?_ ?_ ?_ ?_ ?_ ?_ ?_ ?_ ?_ ?_ ?_ ?_ ?_ ?_ ?_ ?_) ?_ <;> simp [ar_E, ar_N, nK, K4, numK4, numKof, *]; done)
      · skip
        first
          | (refine done (l4_97 a b false false ?_ ?_ ?_ ?_ ?_ ?_ ?_ ?_ ?_ ?_ ?_ ?_ ?_) ?_ <;> simp [ar_E, ar_N, nK, K4, numK4, numKof, *]; done)
          | (refine done (l4_99 a b false false ?_ ?_ ?_ ?_ ?_ ?_ ?_ ?_ ?_ ?_ ?_ ?_ ?_ ?_ ?_ ?_) ?_ <;> simp [ar_E, ar_N, nK, K4, numK4, numKof, *]; done)
          | (refine done (l4_103 a b false false ?_ ?_ ?_ ?_ ?_ ?_ ?_ ?_ ?_ ?_ ?_ ?_ ?_ ?_ ?_ ?_ ?_ ?_ ?_ ?_ ?_) ?_ <;> simp [ar_E, ar_N, nK, K4, numK4, numKof, *]; done)
          | (refine done (l4_104 a b false false ?_ ?_ ?_ ?_ ?_ ?_ ?_ ?_ ?_ ?_ ?_ ?_ ?_ ?_ ?_ ?_ ?_ ?_ ?_ ?_ ?_) ?_ <;> simp [ar_E, ar_N, nK, K4, numK4, numKof, *]; done)
          | (refine done (l4_109 a b false false ?_ ?_ ?_ ?_ ?_ ?_ ?_ ?_ ?_ ?_ ?_ ?_ ?_) ?_ <;> simp [ar_E, ar_N, nK, K4, numK4, numKof, *]; done)
          | (refine done (l4_111 a b false false ?_ ?_ ?_ ?_ ?_ ?_ ?_ ?_ ?_ ?_ ?_ ?_ ?_ ?_ ?_ ?_) ?_ <;> simp [ar_E, ar_N, nK, K4, numK4, numKof, *]; done)
          | (refine done (l4_115 a b false false ?_ ?_ ?_ ?_ ?_ ?_ ?_ ?_ ?_ ?_ ?_ ?_ ?_ ?_ ?_ ?_ ?_ ?_ ?_ ?_ ?_) ?_ <;> simp [ar_E, ar_N, nK, K4, numK4, numKof, *]; done)
          | (refine done (l4_116 a b false false ?_ ?_ ?_ ?_ ?_ ?_ ?_ ?_ ?_ ?_ ?_ ?_ ?_ ?_ ?_ ?_ ?_ ?_ ?_ ?_ ?_) ?_ <;> simp [ar_E, ar_N, nK, K4, numK4, numKof, *]; done)
    · have hs1 : (r < 0 ↔ a < 0) := by simpa [hz] using hs
      by_cases hk : arK 47 (arK 45 (of32 a) a (of32 b) b) (a + b) (of32 b) b = 4
      · skip
        first
          | (refine done (l4_97 a b false false ?_ ?_ ?_ ?_ ?_ ?_ ?_ ?_ ?_ ?_ ?_ ?_ ?_) ?_ <;> simp [ar_E, ar_N, nK, K4, numK4, numKof, *]; done)
          | (refine done (l4_99 a b false false ?_ ?_ ?_ ?_ ?_ ?_ ?_ ?_ ?_ ?_ ?_ ?_ ?_ ?_ ?_ ?_) ?_ <;> simp [ar_E, ar_N, nK, K4, numK4, numKof, *]; done)
          | (refine done (l4_103 a b false false ?_ ?_ ?_ ?_ ?_ ?_ ?_ ?_ ?_ ?_ ?_ ?_ ?_ ?_ ?_ ?_ ?_ ?_ ?_ ?_ ?_) ?_ <;> simp [ar_E, ar_N, nK, K4, numK4, numKof, *]; done)
          | (refine done (l4_104 a b false false ?_ ?_ ?_ ?_ ?_ ?_ ?_ ?_ ?_ ?_ ?_ ?_ ?_ ?_ ?_ ?_ ?_ ?_ ?_ ?_ ?_) ?_ <;> simp [ar_E, ar_N, nK, K4, numK4, numKof, *]; done)
          | (refine done (l4_109 a b false false ?_ ?_ ?_ ?_ ?_ ?_ ?_ ?_ ?_ ?_ ?_ ?_ ?_) ?_ <;> simp [ar_E, ar_N, nK, K4, numK4, numKof, *]; done)
          | (refine done (l4_111 a b false false ?_ ?_ ?_ ?_ ?_ ?_ ?_ ?_ ?_ ?_ ?_ ?_ ?_ ?_ ?_ ?_) ?_ <;> simp [ar_E, ar_N, nK, K4, numK4, numKof, *]; done)
          | (refine done (l4_115 a b false false ?_ ?_ ?_ ?_ ?_ ?_ ?_ ?_ ?_ ?_ ?_ ?_ ?_ ?_ ?_ ?_ ?_ ?_ ?_ ?_ ?_) ?_ <;> simp [ar_E, ar_N, nK, K4, numK4, numKof, *]; done)
          | (refine done (l4_116 a b false false ?_ ?_ ?_ ?_ ?_ ?_ ?_ ?_ ?_ ?_ ?_ ?_ ?_ ?_ ?_ ?_ ?_ ?_ ?_ ?_ ?_) ?_ <;> simp [ar_E, ar_N, nK, K4, numK4, numKof, *]; done)
      · skip
        first
          | (refine done (l4_97 a b false false ?_ ?_ ?_ ?_ ?_ ?_ ?_ ?_ ?_ ?_ ?_ ?_ ?_) ?_ <;> simp [ar_E, ar_N, nK, K4, numK4, numKof, *]; done)
          | (refine done (l4_99 a b false false ?_ ?_ ?_ ?_ ?_ ?_ ?_ ?_ ?_ ?_ ?_ ?_ ?_ ?_ ?_ ?_) ?_ <;> simp [ar_E, ar_N, nK, K4, numK4, numKof, *]; done)
          | (refine done (l4_103 a b false false ?_ ?_ ?_ ?_ ?_ ?_ ?_ ?_ ?_ ?_ ?_ ?_ ?_ ?_ ?_ ?_ ?_ ?_ ?_ ?_ ?_) ?_ <;> simp [ar_E, ar_N, nK, K4, numK4, numKof, *]; done)
          | (refine done (l4_104 a b false false ?_ ?_ ?_ ?_ ?_ ?_ ?_ ?_ ?_ ?_ ?_ ?_ ?_ ?_ ?_ ?_ ?_ ?_ ?_ ?_ ?_) ?_ <;> simp [ar_E, ar_N, nK, K4, numK4, numKof, *]; done)
          | (refine done (l4_109 a b false false ?_ ?_ ?_ ?_ ?_ ?_ ?_ ?_ ?_ ?_ ?_ ?_ ?_) ?_ <;> simp [ar_E, ar_N, nK, K4, numK4, numKof, *]; done)
          | (refine done (l4_111 a b false false ?_ ?_ ?_ ?_ ?_ ?_ ?_ ?_ ?_ ?_ ?_ ?_ ?_ ?_ ?_ ?_) ?_ <;> simp [ar_E, ar_N, nK, K4, numK4, numKof, *]; done)
          | (refine done (l4_115 a b false false ?_ ?_ ?_ ?_ ?_ ?_ ?_ ?_ ?_ ?_ ?_ ?_ ?_ ?_ ?_ ?_ ?_ ?_ ?_ ?_ ?_) ?_ <;> simp [ar_E, ar_N, nK, K4, numK4, numKof, *]; done)
          | (refine done (l4_116 a b false false ?_ ?_ ?_ ?_ ?_ ?_ ?_ ?_ ?_ ?_ ?_ ?_ ?_ ?_ ?_ ?_ ?_ ?_ ?_ ?_ ?_) ?_ <;> simp [ar_E, ar_N, nK, K4, numK4, numKof, *]; done)
  · obtain ⟨hb, e45, q, r, p, e48, n48, rq, e49, n49, rr, e46, n46, rp, e4, n4, hs⟩ := F
    have m1 : numK (arK 48 (of32 a) a (of32 b) b) := nK (numKof a) (numKof b) e48
    have m2 : numK (arK 46 (arK 48 (of32 a) a (of32 b) b) q (of32 b) b) := nK m1 (numKof b) e46
    have m3 : numK (arK 49 (of32 a) a (of32 b) b) := nK (numKof a) (numKof b) e49
    by_cases hz : r = 0
    · subst hz
      first
        | (refine done (l4_122 a b false false ?_ ?_ ?_ ?_ ?_ ?_ ?_ ?_ ?_ ?_) ?_ <;> simp [ar_E, ar_N, nK, K4, numK4, numKof, *]; done)
        | (refine done (l4_124 a b false false ?_ ?_ ?_ ?_ ?_ ?_ ?_ ?_ ?_ ?_ ?_ ?_ ?_) ?_ <;> simp [ar_E, ar_N, nK, K4, numK4, numKof, *]; done)
        | (refine done (l4_128 a b false false ?_ ?_ ?_ ?_ ?_ ?_ ?_ ?_ ?_ ?_ ?_ ?_ ?_ ?_ ?_ ?_ ?_ ?_) ?_ <;> simp [ar_E, ar_N, nK, K4, numK4, numKof, *]; done)
        | (refine done (l4_129 a b false false ?_ ?_ ?_ ?_ ?_ ?_ ?_ ?_ ?_ ?_ ?_ ?_ ?_ ?_ ?_ ?_ ?_ ?_) ?_ <;> simp [ar_E, ar_N, nK, K4, numK4, numKof, *]; done)
    · have hs1 : (r < 0 ↔ a < 0) := by simpa [hz] using hs
      first
        | (refine done (l4_122 a b false false ?_ ?_ ?_ ?_ ?_ ?_ ?_ ?_ ?_ ?_) ?_ <;> simp [ar_E, ar_N, nK, K4, numK4, numKof, *]; done)
        | (refine done (l4_124 a b false false ?_ ?_ ?_ ?_ ?_ ?_ ?_ ?_ ?_ ?_ ?_ ?_ ?_) ?_ <;> simp [ar_E, ar_N, nK, K4, numK4, numKof, *]; done)
        | (refine done (l4_128 a b false false ?_ ?_ ?_ ?_ ?_ ?_ ?_ ?_ ?_ ?_ ?_ ?_ ?_ ?_ ?_ ?_ ?_ ?_) ?_ <;> simp [ar_E, ar_N, nK, K4, numK4, numKof, *]; done)
        | (refine done (l4_129 a b false false ?_ ?_ ?_ ?_ ?_ ?_ ?_ ?_ ?_ ?_ ?_ ?_ ?_ ?_ ?_ ?_ ?_ ?_) ?_ <;> simp [ar_E, ar_N, nK, K4, numK4, numKof, *]; done)

/-- The law, of any two numbers. -/
theorem law (a b : Int) (w0 w1 : Bool) (ra : R a) (rb : R b) : ∃ H1, Ev c0.P c0.T (.call 4 [.int .i64 a, .int .i64 b, .agg [.bool w0, .bool w1]] [] (.bool true) H1) := by
  have g : Goal a b w0 w1 := by
    cases w0 <;> cases w1
    · exact back_false_false ra rb
    · exact back_false_true ra rb
    · exact back_true_false ra rb
    · exact back_true_true ra rb
  obtain ⟨X, h⟩ := g
  exact ⟨_, h⟩

end Go.Proofs.Ytbkacmcijimbfaa.numBack
