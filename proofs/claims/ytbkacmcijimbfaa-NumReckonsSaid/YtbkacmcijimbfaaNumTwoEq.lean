/- The reference's reckoning is that of the program's: by operation. -/
import Derived.Test.YtbkacmcijimbfaaNumTwo
namespace Go.Proofs.Ytbkacmcijimbfaa.numk
open Go Ytbkacmcijimbfaa.GD
set_option linter.unusedVariables false
set_option linter.unusedSimpArgs false

theorem tw43_eq (ka na : Int) (sa : ByteArray) (xba : Bool) (eba : Es) (xfa : Bool) (efa : Es) (xla : Bool) (ela : Es) (kb nb : Int) (sb : ByteArray) (xbb : Bool) (ebb : Es) (xfb : Bool) (efb : Es) (xlb : Bool) (elb : Es) (ra : R na) (rb : R nb) : tw_T 43 ka na sa xba eba xfa efa xla ela kb nb sb xbb ebb xfb efb xlb elb = arith 45 ka na kb nb := by
  unfold tw_T arith
  by_cases a1 : noneK ka
  · simp [noneB, a1]
  by_cases b1 : noneK kb
  · simp [noneB, a1, b1]
  by_cases a2 : numK ka
  · by_cases b2 : numK kb
    · rw [if_neg (by simp [a1, b1]), if_neg (by simp [a2, b2])]
      simp only [noneB, numB, a1, b1, a2, b2, decide_true, decide_false, cond_true, cond_false]
      by_cases hr : R (na + nb)
      · have e : (decide (nb ≥ 0) == decide (na + nb ≥ na)) = true := by rw [beq_iff_eq, decide_eq_decide]; omega
        have o1 : opE 45 na nb = 0 := by simp [opE, hr]
        have o2 : opN 45 na nb = na + nb := by simp [opN, opV, o1]
        rw [o1, o2, if_neg (by simp)]
        simp only [show ((43 : Int) == 47) = false from rfl, show ((43 : Int) == 37) = false from rfl, show ((43 : Int) == 43) = true from rfl, cond_true, cond_false, wrap_R hr, e]
        by_cases w : ka = 4 <;> by_cases w' : kb = 4 <;> simp [w, w', beqd, Bool.cond_decide]
      · have e : (decide (nb ≥ 0) == decide (IntKind.i64.wrap (na + nb) ≥ na)) = false := by rw [beq_eq_false_iff_ne, ne_eq, decide_eq_decide, wrap_eq]; unfold R at *; omega
        have o1 : opE 45 na nb = 10 := by simp [opE, hr]
        rw [o1, if_pos (by decide)]
        simp only [show ((43 : Int) == 47) = false from rfl, show ((43 : Int) == 37) = false from rfl, show ((43 : Int) == 43) = true from rfl, cond_true, cond_false, e]
    · rw [if_neg (by simp [a1, b1]), if_pos (by simp [b2])]
      simp [noneB, numB, a1, b1, a2, b2]
  · rw [if_neg (by simp [a1, b1]), if_pos (by simp [a2])]
    simp [noneB, numB, a1, b1, a2]


theorem tw45_eq (ka na : Int) (sa : ByteArray) (xba : Bool) (eba : Es) (xfa : Bool) (efa : Es) (xla : Bool) (ela : Es) (kb nb : Int) (sb : ByteArray) (xbb : Bool) (ebb : Es) (xfb : Bool) (efb : Es) (xlb : Bool) (elb : Es) (ra : R na) (rb : R nb) : tw_T 45 ka na sa xba eba xfa efa xla ela kb nb sb xbb ebb xfb efb xlb elb = arith 47 ka na kb nb := by
  unfold tw_T arith
  by_cases a1 : noneK ka
  · simp [noneB, a1]
  by_cases b1 : noneK kb
  · simp [noneB, a1, b1]
  by_cases a2 : numK ka
  · by_cases b2 : numK kb
    · rw [if_neg (by simp [a1, b1]), if_neg (by simp [a2, b2])]
      simp only [noneB, numB, a1, b1, a2, b2, decide_true, decide_false, cond_true, cond_false]
      by_cases hr : R (na - nb)
      · have e : (decide (nb ≤ 0) == decide (na - nb ≥ na)) = true := by rw [beq_iff_eq, decide_eq_decide]; omega
        have o1 : opE 47 na nb = 0 := by simp [opE, hr]
        have o2 : opN 47 na nb = na - nb := by simp [opN, opV, o1]
        rw [o1, o2, if_neg (by simp)]
        simp only [show ((45 : Int) == 47) = false from rfl, show ((45 : Int) == 37) = false from rfl, show ((45 : Int) == 43) = false from rfl, show ((45 : Int) == 45) = true from rfl, cond_true, cond_false, wrap_R hr, e]
        by_cases w : ka = 4 <;> by_cases w' : kb = 4 <;> simp [w, w', beqd, Bool.cond_decide]
      · have e : (decide (nb ≤ 0) == decide (IntKind.i64.wrap (na - nb) ≥ na)) = false := by rw [beq_eq_false_iff_ne, ne_eq, decide_eq_decide, wrap_eq]; unfold R at *; omega
        have o1 : opE 47 na nb = 10 := by simp [opE, hr]
        rw [o1, if_pos (by decide)]
        simp only [show ((45 : Int) == 47) = false from rfl, show ((45 : Int) == 37) = false from rfl, show ((45 : Int) == 43) = false from rfl, show ((45 : Int) == 45) = true from rfl, cond_true, cond_false, e]
    · rw [if_neg (by simp [a1, b1]), if_pos (by simp [b2])]
      simp [noneB, numB, a1, b1, a2, b2]
  · rw [if_neg (by simp [a1, b1]), if_pos (by simp [a2])]
    simp [noneB, numB, a1, b1, a2]


theorem tw42_eq (ka na : Int) (sa : ByteArray) (xba : Bool) (eba : Es) (xfa : Bool) (efa : Es) (xla : Bool) (ela : Es) (kb nb : Int) (sb : ByteArray) (xbb : Bool) (ebb : Es) (xfb : Bool) (efb : Es) (xlb : Bool) (elb : Es) (ra : R na) (rb : R nb) : tw_T 42 ka na sa xba eba xfa efa xla ela kb nb sb xbb ebb xfb efb xlb elb = arith 46 ka na kb nb := by
  unfold tw_T arith
  by_cases a1 : noneK ka
  · simp [noneB, a1]
  by_cases b1 : noneK kb
  · simp [noneB, a1, b1]
  by_cases a2 : numK ka
  · by_cases b2 : numK kb
    · rw [if_neg (by simp [a1, b1]), if_neg (by simp [a2, b2])]
      simp only [noneB, numB, a1, b1, a2, b2, decide_true, decide_false, cond_true, cond_false]
      simp only [show ((42 : Int) == 47) = false from rfl, show ((42 : Int) == 37) = false from rfl, show ((42 : Int) == 43) = false from rfl, show ((42 : Int) == 45) = false from rfl, show ((42 : Int) == 42) = true from rfl, cond_true, cond_false]
      by_cases n0 : na = 0
      · subst n0
        have o1 : opE 46 0 nb = 0 := by simp [opE]; decide
        have o2 : opN 46 0 nb = 0 := by simp [opN, opV, o1]
        have z : IntKind.i64.wrap (0 * nb) = 0 := by rw [Int.zero_mul]; decide
        rw [o1, o2, if_neg (by simp), z]
        simp only [show ((0 : Int) == 0) = true from rfl, cond_true]
        by_cases w : ka = 4 <;> by_cases w' : kb = 4 <;> simp [w, w', beqd, Bool.cond_decide]
      have b0 : (na == 0) = false := by simpa using n0
      simp only [b0, cond_false]
      by_cases h1 : na = -1 ∧ nb = -9223372036854775808
      · obtain ⟨rfl, rfl⟩ := h1
        have o1 : opE 46 (-1) (-9223372036854775808) = 10 := by decide
        rw [o1, if_pos (by decide)]
        have e : (IntKind.i64.wrap ((IntKind.i64.wrap (-1 * -9223372036854775808)).tdiv (-1)) == -9223372036854775808) = true := by decide
        rw [e]
        rfl
      by_cases h2 : na = -9223372036854775808 ∧ nb = -1
      · obtain ⟨rfl, rfl⟩ := h2
        have o1 : opE 46 (-9223372036854775808) (-1) = 10 := by decide
        rw [o1, if_pos (by decide)]
        have e : (IntKind.i64.wrap ((IntKind.i64.wrap (-9223372036854775808 * -1)).tdiv (-9223372036854775808)) == -1) = false := by decide
        rw [e]
        rfl
      have k : IntKind.i64.wrap ((IntKind.i64.wrap (na * nb)).tdiv na) = nb ↔ R (na * nb) := by
        by_cases m0 : nb = 0
        · subst m0
          rw [Int.mul_zero]
          have : IntKind.i64.wrap 0 = 0 := by decide
          rw [this, Int.zero_tdiv, this]
          exact ⟨fun _ => by decide, fun _ => rfl⟩
        · have := mul_told rb ra m0 n0 (fun h => h2 ⟨h.2, h.1⟩) (fun h => h1 ⟨h.1, h.2⟩)
          rw [Int.mul_comm nb na] at this
          exact this
      have g : (na == -1 && nb == -9223372036854775808) = false := by
        rw [Bool.and_eq_false_iff]
        by_cases e : na = -1
        · exact .inr (by simpa using fun e' => h1 ⟨e, e'⟩)
        · exact .inl (by simpa using e)
      by_cases hr : R (na * nb)
      · have e : (IntKind.i64.wrap ((IntKind.i64.wrap (na * nb)).tdiv na) == nb) = true := by simpa using k.2 hr
        have o1 : opE 46 na nb = 0 := by simp [opE, hr]
        have o2 : opN 46 na nb = na * nb := by simp [opN, opV, o1]
        rw [o1, o2, if_neg (by simp), e, wrap_R hr]
        cases g1 : (na == -1) <;> cases g2 : (nb == -9223372036854775808) <;> (try (rw [g1, g2] at g; cases g; done)) <;> simp only [cond_true, cond_false] <;> (by_cases w : ka = 4 <;> by_cases w' : kb = 4 <;> simp [w, w', beqd, Bool.cond_decide])
      · have e : (IntKind.i64.wrap ((IntKind.i64.wrap (na * nb)).tdiv na) == nb) = false := by simpa using fun e => hr (k.1 e)
        have o1 : opE 46 na nb = 10 := by simp [opE, hr]
        rw [o1, if_pos (by decide), e]
        rfl
    · rw [if_neg (by simp [a1, b1]), if_pos (by simp [b2])]
      simp [noneB, numB, a1, b1, a2, b2]
  · rw [if_neg (by simp [a1, b1]), if_pos (by simp [a2])]
    simp [noneB, numB, a1, b1, a2]

theorem tw47_eq (ka na : Int) (sa : ByteArray) (xba : Bool) (eba : Es) (xfa : Bool) (efa : Es) (xla : Bool) (ela : Es) (kb nb : Int) (sb : ByteArray) (xbb : Bool) (ebb : Es) (xfb : Bool) (efb : Es) (xlb : Bool) (elb : Es) (ra : R na) (rb : R nb) : tw_T 47 ka na sa xba eba xfa efa xla ela kb nb sb xbb ebb xfb efb xlb elb = arith 48 ka na kb nb := by
  unfold tw_T arith
  by_cases a1 : noneK ka
  · simp [noneB, a1]
  by_cases b1 : noneK kb
  · simp [noneB, a1, b1]
  by_cases a2 : numK ka
  · by_cases b2 : numK kb
    · rw [if_neg (by simp [a1, b1]), if_neg (by simp [a2, b2])]
      simp only [noneB, numB, a1, b1, a2, b2, decide_true, decide_false, cond_true, cond_false]
      simp only [show ((47 : Int) == 47) = true from rfl, show ((47 : Int) == 37) = false from rfl, show ((47 : Int) == 43) = false from rfl, show ((47 : Int) == 45) = false from rfl, show ((47 : Int) == 42) = false from rfl, cond_true, cond_false]
      by_cases n0 : nb = 0
      · subst n0
        have o1 : opE 48 na 0 = 11 := by simp [opE]
        rw [o1, if_pos (by decide)]
        rfl
      have b0 : (nb == 0) = false := by simpa using n0
      simp only [b0, cond_false]
      by_cases h1 : na = -9223372036854775808 ∧ nb = -1
      · obtain ⟨rfl, rfl⟩ := h1
        have o1 : opE 48 (-9223372036854775808) (-1) = 10 := by decide
        rw [o1, if_pos (by decide)]
        rfl
      have hq := tdiv_R ra n0 h1
      have o1 : opE 48 na nb = 0 := by simp [opE, n0, hq]
      have o2 : opN 48 na nb = na.tdiv nb := by simp [opN, opV, o1]
      have g : (na == -9223372036854775808 && nb == -1) = false := by
        rw [Bool.and_eq_false_iff]
        by_cases e : na = -9223372036854775808
        · exact .inr (by simpa using fun e' => h1 ⟨e, e'⟩)
        · exact .inl (by simpa using e)
      rw [o1, o2, if_neg (by simp), wrap_R hq]
      cases g1 : (na == -9223372036854775808) <;> cases g2 : (nb == -1) <;> (try (rw [g1, g2] at g; cases g; done)) <;> simp only [cond_true, cond_false] <;> (by_cases w : ka = 4 <;> by_cases w' : kb = 4 <;> simp [w, w', beqd, Bool.cond_decide])
    · rw [if_neg (by simp [a1, b1]), if_pos (by simp [b2])]
      simp [noneB, numB, a1, b1, a2, b2]
  · rw [if_neg (by simp [a1, b1]), if_pos (by simp [a2])]
    simp [noneB, numB, a1, b1, a2]

theorem tw37_eq (ka na : Int) (sa : ByteArray) (xba : Bool) (eba : Es) (xfa : Bool) (efa : Es) (xla : Bool) (ela : Es) (kb nb : Int) (sb : ByteArray) (xbb : Bool) (ebb : Es) (xfb : Bool) (efb : Es) (xlb : Bool) (elb : Es) (ra : R na) (rb : R nb) : tw_T 37 ka na sa xba eba xfa efa xla ela kb nb sb xbb ebb xfb efb xlb elb = arith 49 ka na kb nb := by
  unfold tw_T arith
  by_cases a1 : noneK ka
  · simp [noneB, a1]
  by_cases b1 : noneK kb
  · simp [noneB, a1, b1]
  by_cases a2 : numK ka
  · by_cases b2 : numK kb
    · rw [if_neg (by simp [a1, b1]), if_neg (by simp [a2, b2])]
      simp only [noneB, numB, a1, b1, a2, b2, decide_true, decide_false, cond_true, cond_false]
      simp only [show ((37 : Int) == 47) = false from rfl, show ((37 : Int) == 37) = true from rfl, show ((37 : Int) == 43) = false from rfl, show ((37 : Int) == 45) = false from rfl, show ((37 : Int) == 42) = false from rfl, cond_true, cond_false]
      by_cases n0 : nb = 0
      · subst n0
        have o1 : opE 49 na 0 = 11 := by simp [opE]
        rw [o1, if_pos (by decide)]
        rfl
      have b0 : (nb == 0) = false := by simpa using n0
      simp only [b0, cond_false]
      have o1 : opE 49 na nb = 0 := by simp [opE, n0]
      have o2 : opN 49 na nb = na.tmod nb := by simp [opN, opV, o1]
      rw [o1, o2, if_neg (by simp)]
      by_cases m1 : nb = -1
      · subst m1
        have z : na.tmod (-1) = 0 := by rw [Int.tmod_neg, Int.tmod_one]
        rw [z]
        simp only [show ((-1 : Int) != -1) = false from rfl, cond_false]
        by_cases w : ka = 4 <;> by_cases w' : kb = 4 <;> simp [w, w', beqd, Bool.cond_decide]
      · have b1' : (nb != -1) = true := by simpa using m1
        simp only [b1', cond_true]
        by_cases w : ka = 4 <;> by_cases w' : kb = 4 <;> simp [w, w', beqd, Bool.cond_decide]
    · rw [if_neg (by simp [a1, b1]), if_pos (by simp [b2])]
      simp [noneB, numB, a1, b1, a2, b2]
  · rw [if_neg (by simp [a1, b1]), if_pos (by simp [a2])]
    simp [noneB, numB, a1, b1, a2]

end Go.Proofs.Ytbkacmcijimbfaa.numk
