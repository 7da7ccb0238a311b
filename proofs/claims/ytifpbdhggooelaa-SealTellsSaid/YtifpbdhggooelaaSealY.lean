/- What is turned within 32 bits is told by the sum; bits of a page turned one by one. -/
import Derived.Test.YtifpbdhggooelaaSealX
namespace Go.Proofs.Ytifpbdhggooelaa.sealk
open Go Ytifpbdhggooelaa.GD
set_option linter.unusedVariables false
set_option linter.unusedSimpArgs false
set_option maxRecDepth 100000

/-! ### the register as a number -/
def stepN (x : Nat) : Nat := (x / 2) ^^^ (bif x.testBit 0 then 2197175160 else 0)
def iterN : Nat → Nat → Nat
  | 0, x => x
  | k + 1, x => iterN k (stepN x)
theorem step_nat (s : B32) : (stepT s).toNat = stepN s.toNat := by
  unfold stepT stepN
  rw [BitVec.toNat_xor, BitVec.toNat_ushiftRight, Nat.shiftRight_eq_div_pow, BitVec.getLsbD]
  cases s.toNat.testBit 0 <;> rfl
theorem iter_nat : ∀ (k : Nat) (s : B32), (iterT k s).toNat = iterN k s.toNat
  | 0, s => rfl
  | k + 1, s => by simp only [iterT, iterN]; rw [iter_nat k, step_nat]
theorem half_xor (a b : Nat) : (a ^^^ b) / 2 = a / 2 ^^^ b / 2 := by
  apply Nat.eq_of_testBit_eq
  intro i
  simp only [← Nat.testBit_succ, Nat.testBit_xor]
theorem xlc (a b c : Nat) : a ^^^ (b ^^^ c) = b ^^^ (a ^^^ c) := by rw [← Nat.xor_assoc, Nat.xor_comm a b, Nat.xor_assoc]
theorem stepN_xor (a b : Nat) : stepN (a ^^^ b) = stepN a ^^^ stepN b := by
  unfold stepN
  rw [half_xor, Nat.testBit_xor]
  cases a.testBit 0 <;> cases b.testBit 0 <;> simp [Nat.xor_assoc]
  · rw [Nat.xor_comm (b / 2)]
  · rw [xlc 2197175160, Nat.xor_self, Nat.xor_zero]
theorem iterN_xor : ∀ (k a b : Nat), iterN k (a ^^^ b) = iterN k a ^^^ iterN k b
  | 0, a, b => rfl
  | k + 1, a, b => by simp only [iterN]; rw [stepN_xor, iterN_xor k]
theorem stepN_two (x : Nat) : stepN (2 * x) = x := by
  unfold stepN
  have : (2 * x).testBit 0 = false := by rw [Nat.testBit_zero]; simp
  rw [this]
  simp
theorem iterN_shift : ∀ (k x : Nat), iterN k (x * 2 ^ k) = x
  | 0, x => by simp [iterN]
  | k + 1, x => by
    simp only [iterN]
    rw [show x * 2 ^ (k + 1) = 2 * (x * 2 ^ k) by rw [Nat.pow_succ, ← Nat.mul_assoc, Nat.mul_comm], stepN_two, iterN_shift k]
theorem iterN_add : ∀ (a b x : Nat), iterN (a + b) x = iterN b (iterN a x)
  | 0, b, x => by simp [iterN]
  | a + 1, b, x => by
    rw [show a + 1 + b = (a + b) + 1 by omega]
    simp only [iterN]
    exact iterN_add a b _
theorem iterN_zero : ∀ k, iterN k 0 = 0
  | 0 => rfl
  | k + 1 => by simp only [iterN]; rw [show stepN 0 = 0 by decide, iterN_zero k]
theorem stepN_pos {x : Nat} (h : 0 < x ∧ x < 2 ^ 32) : 0 < stepN x ∧ stepN x < 2 ^ 32 := by
  unfold stepN
  have h2 : x / 2 < 2 ^ 31 := by omega
  cases hb : x.testBit 0 with
  | false =>
    rw [Nat.testBit_zero] at hb
    simp at hb
    simp
    omega
  | true =>
    simp only [cond_true]
    have hl : x / 2 ^^^ 2197175160 < 2 ^ 32 := Nat.xor_lt_two_pow (by omega) (by decide)
    refine ⟨?_, hl⟩
    rcases Nat.eq_zero_or_pos (x / 2 ^^^ 2197175160) with h0 | h0
    · exfalso
      have := congrArg (fun n => n.testBit 31) h0
      simp only [Nat.testBit_xor, Nat.zero_testBit, Nat.testBit_lt_two_pow h2] at this
      revert this
      decide
    · exact h0
theorem iterN_pos : ∀ (k : Nat) {x : Nat}, 0 < x ∧ x < 2 ^ 32 → iterN k x ≠ 0
  | 0, x, h => by simp only [iterN]; omega
  | k + 1, x, h => by simp only [iterN]; exact iterN_pos k (stepN_pos h)
theorem xor_add {c v : Nat} (h : c < 256) : c ^^^ (v * 256) = c + 256 * v := by
  apply Nat.eq_of_testBit_eq
  intro i
  have e : c + 256 * v = 2 ^ 8 * v + c := by omega
  rw [e, Nat.testBit_two_pow_mul_add _ (by omega : c < 2 ^ 8), Nat.testBit_xor, show v * 256 = 2 ^ 8 * v by omega, Nat.testBit_two_pow_mul]
  by_cases hi : i < 8
  · simp [hi, Nat.not_le.2 hi]
  · have : c.testBit i = false := Nat.testBit_lt_two_pow (Nat.lt_of_lt_of_le h (by
      have := Nat.pow_le_pow_right (n := 2) (by decide) (Nat.le_of_not_lt hi)
      omega))
    simp [hi, this]; omega

theorem bv_byte {n : Int} (h : 0 ≤ n ∧ n ≤ 255) : (bv n).toNat = n.toNat := by
  unfold bv
  rw [BitVec.toNat_ofInt]
  omega
/-- A fold over bytes, as a shift register that holds them all. -/
theorem fold_reg : ∀ (l : List Int) (s : B32), Bytes l → (foldB s l).toNat = iterN (8 * l.length) (s.toNat ^^^ (valF l).toNat)
  | [], s, _ => by simp [foldB, valF, iterN]
  | c :: r, s, h => by
    have hc := h c (by simp)
    have hr : Bytes r := fun x hx => h x (List.mem_cons_of_mem _ hx)
    have hv := (valF_le hr).1
    simp only [foldB, valF, List.length_cons]
    rw [fold_reg r _ hr, iter_nat, BitVec.toNat_xor, bv_byte hc, show 8 * (r.length + 1) = 8 + 8 * r.length by omega, iterN_add]
    refine congrArg (iterN _) ?_
    have e : (c + 256 * valF r).toNat = c.toNat ^^^ ((valF r).toNat * 256) := by
      rw [xor_add (by omega)]; omega
    rw [e, ← Nat.xor_assoc, iterN_xor 8 (s.toNat ^^^ c.toNat)]
    refine congrArg (iterN 8 (s.toNat ^^^ c.toNat) ^^^ ·) ?_
    exact (iterN_shift 8 _).symm

/-- What is turned within 32 bits is told by the register. -/
theorem burst {E : List Int} (hE : Bytes E) {w f : Nat} (hw : 0 < w ∧ w < 2 ^ 32) (hv : valF E = ((w * 2 ^ f : Nat) : Int)) (hf : f ≤ 8 * E.length) : foldB 0#32 E ≠ 0#32 := by
  intro h
  have := fold_reg E 0#32 hE
  rw [h, hv] at this
  simp only [BitVec.toNat_ofNat, Nat.zero_mod, Nat.zero_xor, Int.toNat_natCast] at this
  have e : 8 * E.length = f + (8 * E.length - f) := by omega
  rw [e, iterN_add, iterN_shift] at this
  exact iterN_pos _ hw this.symm

theorem fold_app : ∀ (a b : List Int) (s : B32), foldB s (a ++ b) = foldB (foldB s a) b
  | [], b, s => rfl
  | x :: a, b, s => by simp only [List.cons_append, foldB]; exact fold_app a b _

/-- With its sum behind it each data leave the register alike. -/
theorem fold_sum {b s : List Int} (hb : Bytes b) (hs : Bytes s) (h : valF s = sumU b) (hl : s.length = 4) : foldB 4294967295#32 (b ++ s) = iterT 32 4294967295#32 := by
  rw [fold_app]
  apply BitVec.eq_of_toNat_eq
  rw [fold_reg s _ hs, hl, h, sum_bv b hb, iter_nat, Int.toNat_natCast, ← BitVec.toNat_xor, BitVec.xor_comm (4294967295#32), ← BitVec.xor_assoc, BitVec.xor_self, BitVec.zero_xor]

/-- A PAGE THAT IS TURNED WITHIN 32 BITS IS TOLD. -/
theorem turned_told {B E C : List Int} (hB : Bytes B) (hE : Bytes E) (hC : Bytes C) (h1 : B.length = C.length) (h2 : E.length = C.length) (h4 : 4 ≤ C.length)
    (h : ∀ (i : Nat) (a b c : Int), B[i]? = some a → E[i]? = some b → C[i]? = some c → bv c = bv a ^^^ bv b)
    {w f : Nat} (hw : 0 < w ∧ w < 2 ^ 32) (hv : valF E = ((w * 2 ^ f : Nat) : Int)) (hf : f ≤ 8 * E.length)
    (hs : valF (B.drop (B.length - 4)) = sumU (B.take (B.length - 4))) : valF (C.drop (C.length - 4)) ≠ sumU (C.take (C.length - 4)) := by
  intro hc
  have e1 := fold_sum (hB.take _) (hB.drop _) hs (by simp; omega)
  have e2 := fold_sum (hC.take _) (hC.drop _) hc (by simp; omega)
  rw [List.take_append_drop] at e1 e2
  have e3 := fold_xor B E C 4294967295#32 0#32 h1 h2 h
  rw [BitVec.xor_zero, e1, e2] at e3
  refine burst hE hw hv hf ?_
  have := congrArg (fun x => iterT 32 4294967295#32 ^^^ x) e3
  simp only [BitVec.xor_self, ← BitVec.xor_assoc, BitVec.zero_xor] at this
  exact this.symm

/-! ### bytes of a number -/
def ebl : Nat → Nat → List Int
  | 0, _ => []
  | n + 1, z => ((z % 256 : Nat) : Int) :: ebl n (z / 256)
theorem ebl_len : ∀ (n z : Nat), (ebl n z).length = n
  | 0, z => rfl
  | n + 1, z => by simp [ebl, ebl_len n]
theorem ebl_bytes : ∀ (n z : Nat), Bytes (ebl n z)
  | 0, z => fun x hx => by simp [ebl] at hx
  | n + 1, z => fun x hx => by
    simp only [ebl, List.mem_cons] at hx
    rcases hx with rfl | hx
    · omega
    · exact ebl_bytes n _ x hx
theorem ebl_val : ∀ (n z : Nat), z < 256 ^ n → valF (ebl n z) = z
  | 0, z, h => by simp at h; simp [ebl, valF, h]
  | n + 1, z, h => by
    simp only [ebl, valF]
    rw [ebl_val n (z / 256) (by rw [Nat.pow_succ] at h; exact Nat.div_lt_of_lt_mul (by omega))]
    omega
theorem ebl_zero : ∀ n, ebl n 0 = List.replicate n 0
  | 0 => rfl
  | n + 1 => by simp [ebl, List.replicate_succ, ebl_zero n]
theorem mod_xor {z m : Nat} (h : m < 8) : (z ^^^ 2 ^ m) % 256 = z % 256 ^^^ 2 ^ m := by
  apply Nat.eq_of_testBit_eq
  intro i
  rw [show 256 = 2 ^ 8 by decide, Nat.testBit_mod_two_pow, Nat.testBit_xor, Nat.testBit_xor, Nat.testBit_mod_two_pow]
  by_cases hi : i < 8
  · simp [hi]
  · have : (2 ^ m).testBit i = false := Nat.testBit_lt_two_pow (Nat.pow_lt_pow_right (by decide) (by omega))
    simp [hi, this]
theorem mod_xor' {z m : Nat} (h : 8 ≤ m) : (z ^^^ 2 ^ m) % 256 = z % 256 := by
  apply Nat.eq_of_testBit_eq
  intro i
  rw [show 256 = 2 ^ 8 by decide, Nat.testBit_mod_two_pow, Nat.testBit_xor, Nat.testBit_mod_two_pow, Nat.testBit_two_pow]
  by_cases hi : i < 8
  · have : ¬ m = i := by omega
    simp [hi, this]
  · simp [hi]
theorem div_xor {z m : Nat} (h : m < 8) : (z ^^^ 2 ^ m) / 256 = z / 256 := by
  apply Nat.eq_of_testBit_eq
  intro i
  rw [show 256 = 2 ^ 8 by decide, Nat.testBit_div_two_pow, Nat.testBit_div_two_pow, Nat.testBit_xor, Nat.testBit_two_pow]
  have : ¬ m = i + 8 := by omega
  simp [this]
theorem div_xor' {z m : Nat} (h : 8 ≤ m) : (z ^^^ 2 ^ m) / 256 = z / 256 ^^^ 2 ^ (m - 8) := by
  apply Nat.eq_of_testBit_eq
  intro i
  rw [show 256 = 2 ^ 8 by decide, Nat.testBit_div_two_pow, Nat.testBit_xor, Nat.testBit_xor, Nat.testBit_div_two_pow, Nat.testBit_two_pow, Nat.testBit_two_pow]
  congr 1
  by_cases h' : m = i + 8
  · have : m - 8 = i := by omega
    simp [h']
  · have : ¬ m - 8 = i := by omega
    simp [h', this]

/-- Bytes with the bits of a number turned. -/
def turn : List Int → Nat → List Int
  | [], _ => []
  | x :: r, z => ((x.toNat ^^^ z % 256 : Nat) : Int) :: turn r (z / 256)
theorem turn_len : ∀ (l : List Int) (z : Nat), (turn l z).length = l.length
  | [], z => rfl
  | x :: r, z => by simp [turn, turn_len r]
theorem turn_bytes : ∀ (l : List Int) (z : Nat), Bytes l → Bytes (turn l z)
  | [], z, _ => fun x hx => by simp [turn] at hx
  | y :: r, z, h => fun x hx => by
    simp only [turn, List.mem_cons] at hx
    rcases hx with rfl | hx
    · have h0 := h y (by simp)
      have : y.toNat ^^^ z % 256 < 2 ^ 8 := Nat.xor_lt_two_pow (by omega) (by omega)
      omega
    · exact turn_bytes r _ (fun x hx => h x (List.mem_cons_of_mem _ hx)) x hx
theorem turn_zero : ∀ (l : List Int), Bytes l → turn l 0 = l
  | [], _ => rfl
  | x :: r, h => by
    have h0 := h x (by simp)
    simp only [turn, Nat.zero_mod, Nat.xor_zero, Nat.zero_div]
    rw [turn_zero r (fun x hx => h x (List.mem_cons_of_mem _ hx))]
    congr 1
    omega
theorem turn_get : ∀ (l : List Int) (z n : Nat) (i : Nat) (a b c : Int), Bytes l → l.length = n → l[i]? = some a → (ebl n z)[i]? = some b → (turn l z)[i]? = some c → bv c = bv a ^^^ bv b
  | [], z, n, i, a, b, c, _, _, h, _, _ => by simp at h
  | x :: r, z, 0, i, a, b, c, _, hl, _, _, _ => by simp at hl
  | x :: r, z, n + 1, 0, a, b, c, hb, hl, h1, h2, h3 => by
    simp [turn, ebl] at h1 h2 h3
    have h0 := hb x (by simp)
    subst h1; subst h2; subst h3
    apply BitVec.eq_of_toNat_eq
    have : x.toNat ^^^ z % 256 < 2 ^ 8 := Nat.xor_lt_two_pow (by omega) (by omega)
    have e1 := bv_byte (n := ((x.toNat ^^^ z % 256 : Nat) : Int)) (by omega)
    have e2 := bv_byte h0
    have e3 := bv_byte (n := ((z % 256 : Nat) : Int)) (by omega)
    rw [BitVec.toNat_xor]
    simp only [Int.toNat_natCast] at e1 e3
    simp only [Int.natCast_emod] at e3
    rw [e1, e2]
    congr 1
    exact e3.symm
  | x :: r, z, n + 1, i + 1, a, b, c, hb, hl, h1, h2, h3 => by
    simp only [turn, ebl, List.getElem?_cons_succ] at h1 h2 h3
    exact turn_get r (z / 256) n i a b c (fun x hx => hb x (List.mem_cons_of_mem _ hx)) (by simpa using hl) h1 h2 h3
/-- One more bit turned. -/
theorem turn_bit : ∀ (l : List Int) (z m : Nat), m < 8 * l.length → ∃ x : Nat, x < 256 ∧ (turn l z)[m / 8]? = some (x : Int) ∨ ¬ Bytes l
  | l, z, m, h => by
    by_cases hb : Bytes l
    · have hlt : m / 8 < (turn l z).length := by rw [turn_len]; omega
      have := turn_bytes l z hb _ (List.getElem_mem hlt)
      exact ⟨((turn l z)[m / 8]).toNat, .inl ⟨by omega, by rw [List.getElem?_eq_getElem hlt]; congr 1; omega⟩⟩
    · exact ⟨0, .inr hb⟩
theorem turn_set : ∀ (l : List Int) (z m : Nat) (x : Nat), (turn l z)[m / 8]? = some (x : Int) → turn l (z ^^^ 2 ^ m) = (turn l z).set (m / 8) ((x ^^^ 2 ^ (m % 8) : Nat) : Int)
  | [], z, m, x, h => by simp [turn] at h
  | y :: r, z, m, x, h => by
    by_cases hm : m < 8
    · have e : m / 8 = 0 := by omega
      rw [e] at h ⊢
      simp only [turn, List.getElem?_cons_zero, Option.some.injEq] at h
      simp only [turn, List.set_cons_zero]
      rw [mod_xor hm, div_xor hm, show m % 8 = m by omega, ← Nat.xor_assoc]
      have : y.toNat ^^^ z % 256 = x := by omega
      rw [this]
    · have e : m / 8 = (m - 8) / 8 + 1 := by omega
      rw [e] at h ⊢
      simp only [turn, List.getElem?_cons_succ] at h
      simp only [turn, List.set_cons_succ]
      rw [mod_xor' (by omega), div_xor' (by omega), turn_set r (z / 256) (m - 8) x h, show (m - 8) % 8 = m % 8 by omega]
/-- The bits of a number, one by one. -/
theorem bits_step (w f i : Nat) : (w % 2 ^ (i + 1)) * 2 ^ f = if w.testBit i then ((w % 2 ^ i) * 2 ^ f) ^^^ 2 ^ (f + i) else (w % 2 ^ i) * 2 ^ f := by
  apply Nat.eq_of_testBit_eq
  intro t
  have hm : ∀ k, ((w % 2 ^ k) * 2 ^ f).testBit t = (decide (t ≥ f) && (decide (t - f < k) && w.testBit (t - f))) := by
    intro k
    rw [Nat.mul_comm, Nat.testBit_two_pow_mul, Nat.testBit_mod_two_pow]
  split
  · rename_i hb
    rw [Nat.testBit_xor, hm, hm, Nat.testBit_two_pow]
    by_cases h1 : t ≥ f
    · by_cases h2 : t - f = i
      · have : f + i = t := by omega
        simp [h1, h2, hb, this]
      · have : ¬ f + i = t := by omega
        have h3 : (t - f < i + 1) = (t - f < i) := by apply propext; omega
        simp [h1, this, h3]
    · have : ¬ f + i = t := by omega
      simp [h1, this]
  · rename_i hb
    rw [hm, hm]
    by_cases h2 : t - f = i
    · simp [h2, hb]
    · have h3 : (t - f < i + 1) = (t - f < i) := by apply propext; omega
      simp [h3]

end Go.Proofs.Ytifpbdhggooelaa.sealk
