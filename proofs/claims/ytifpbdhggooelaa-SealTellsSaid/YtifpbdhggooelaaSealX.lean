/- The sum of bytes as a law of bits: it goes with exclusive or. -/
import Derived.Test.YtifpbdhggooelaaSealL
namespace Go.Proofs.Ytifpbdhggooelaa.sealk
open Go Ytifpbdhggooelaa.GD
set_option linter.unusedVariables false
set_option linter.unusedSimpArgs false
set_option maxRecDepth 100000

abbrev B32 := BitVec 32
def bv (n : Int) : B32 := BitVec.ofInt 32 n
def poly : B32 := 2197175160#32
def stepT (s : B32) : B32 := (s >>> 1) ^^^ (bif s.getLsbD 0 then poly else 0#32)
def iterT : Nat → B32 → B32
  | 0, s => s
  | k + 1, s => iterT k (stepT s)
def foldB : B32 → List Int → B32
  | s, [] => s
  | s, n :: r => foldB (iterT 8 (s ^^^ bv n)) r

theorem bv_nat (s : B32) : bv (s.toNat : Int) = s := by
  apply BitVec.eq_of_toNat_eq
  unfold bv
  rw [BitVec.toNat_ofInt]
  have := s.isLt
  omega
theorem wrapB (s : B32) : IntKind.u32.wrap (s.toNat : Int) = s.toNat := by
  have hs : IntKind.u32.signed = false := rfl
  have hb : (2 ^ IntKind.u32.bits : Int) = 4294967296 := by decide
  have := s.isLt
  unfold IntKind.wrap
  simp only [hs, hb, Bool.false_and, Bool.false_eq_true, if_false]
  omega
theorem xorU_bv (a b : Int) : xorU a b = ((bv a ^^^ bv b).toNat : Int) := wrapB (bv a ^^^ bv b)
theorem low_bit (s : B32) : (lowU (s.toNat : Int) == 1) = s.getLsbD 0 := by
  have h1 : lowU (s.toNat : Int) = ((bv s.toNat &&& bv 1).toNat : Int) := wrapB (bv s.toNat &&& bv 1)
  rw [h1, bv_nat, BitVec.toNat_and, show (bv 1).toNat = 1 by decide, Nat.and_one_is_mod, BitVec.getLsbD, Nat.testBit_zero]
  have : s.toNat % 2 = 0 ∨ s.toNat % 2 = 1 := by omega
  rcases this with h | h <;> simp [h]
theorem shr_bv (s : B32) : shrU (s.toNat : Int) = ((s >>> 1).toNat : Int) := by
  unfold shrU
  have h32 : IntKind.u32.bits = 32 := rfl
  rw [h32, show min (Int.toNat 1) 32 = 1 by decide, BitVec.toNat_ushiftRight, Nat.shiftRight_eq_div_pow, Int.fdiv_eq_ediv_of_nonneg _ (by decide)]
  omega
theorem bit_bv (s : B32) : bitU (s.toNat : Int) = ((stepT s).toNat : Int) := by
  unfold bitU stepT
  rw [low_bit]
  cases s.getLsbD 0 with
  | true =>
    rw [if_pos rfl, xorU_bv, shr_bv, bv_nat]
    rfl
  | false =>
    rw [if_neg (by simp), shr_bv]
    simp
theorem bits_bv : ∀ (k : Nat) (s : B32), bitsU k (s.toNat : Int) = ((iterT k s).toNat : Int)
  | 0, s => rfl
  | k + 1, s => by
    simp only [bitsU, iterT]
    rw [bit_bv, bits_bv k]
theorem wrapB' {n : Int} (h : 0 ≤ n ∧ n ≤ 255) : IntKind.u32.wrap n = n := by
  have hs : IntKind.u32.signed = false := rfl
  have hb : (2 ^ IntKind.u32.bits : Int) = 4294967296 := by decide
  unfold IntKind.wrap
  simp only [hs, hb, Bool.false_and, Bool.false_eq_true, if_false]
  omega
theorem fold_bv : ∀ (l : List Int) (s : B32), Bytes l → foldU (s.toNat : Int) l = ((foldB s l).toNat : Int)
  | [], s, _ => rfl
  | n :: r, s, h => by
    simp only [foldU, foldB, byteU]
    rw [wrapB' (h n (by simp)), xorU_bv, bv_nat, bits_bv, fold_bv r _ (fun x hx => h x (List.mem_cons_of_mem _ hx))]
/-- The sum. -/
theorem sum_bv (l : List Int) (h : Bytes l) : sumU l = ((4294967295#32 ^^^ foldB 4294967295#32 l).toNat : Int) := by
  unfold sumU
  have e : (4294967295 : Int) = ((4294967295#32 : B32).toNat : Int) := by decide
  have e2 : (if IntKind.u32.signed = true then (-1 : Int) else IntKind.u32.max) = 4294967295 := by decide
  rw [e2, e, fold_bv l _ h, xorU_bv, bv_nat, bv_nat]

theorem step_xor (a b : B32) : stepT (a ^^^ b) = stepT a ^^^ stepT b := by
  unfold stepT
  rw [BitVec.ushiftRight_xor_distrib, BitVec.getLsbD_xor]
  have ac : ∀ p q r : B32, p ^^^ q ^^^ r = p ^^^ r ^^^ q := fun p q r => by rw [BitVec.xor_assoc, BitVec.xor_comm q r, ← BitVec.xor_assoc]
  cases a.getLsbD 0 <;> cases b.getLsbD 0
  · simp
  · simp [BitVec.xor_assoc]
  · simp only [Bool.xor_false, cond_true, cond_false, BitVec.xor_zero]
    exact ac _ _ _
  · simp only [Bool.xor_self, cond_true, cond_false, BitVec.xor_zero]
    rw [← BitVec.xor_assoc, ac (a >>> 1) poly (b >>> 1), BitVec.xor_assoc (a >>> 1 ^^^ b >>> 1) poly poly, BitVec.xor_self, BitVec.xor_zero]
theorem iter_xor : ∀ (k : Nat) (a b : B32), iterT k (a ^^^ b) = iterT k a ^^^ iterT k b
  | 0, a, b => rfl
  | k + 1, a, b => by
    simp only [iterT]
    rw [step_xor, iter_xor k]
theorem fold_xor : ∀ (A B C : List Int) (s t : B32), A.length = C.length → B.length = C.length → (∀ (i : Nat) (a b c : Int), A[i]? = some a → B[i]? = some b → C[i]? = some c → bv c = bv a ^^^ bv b) →
    foldB (s ^^^ t) C = foldB s A ^^^ foldB t B
  | [], [], [], s, t, _, _, _ => rfl
  | a :: A, b :: B, c :: C, s, t, h1, h2, h => by
    simp only [foldB]
    have h0 := h 0 a b c rfl rfl rfl
    rw [← fold_xor A B C _ _ (by simpa using h1) (by simpa using h2) (fun i a b c p q r => h (i + 1) a b c (by simpa using p) (by simpa using q) (by simpa using r)), ← iter_xor, h0]
    congr 2
    rw [BitVec.xor_assoc, BitVec.xor_assoc, ← BitVec.xor_assoc t, BitVec.xor_comm t, BitVec.xor_assoc, ]
  | [], _ :: _, [], _, _, _, h2, _ => by simp at h2
  | _ :: _, _, [], _, _, h1, _, _ => by simp at h1
  | [], _, _ :: _, _, _, h1, _, _ => by simp at h1
  | _ :: _, [], _ :: _, _, _, _, h2, _ => by simp at h2

theorem xorW_u32 (a b : Int) : xorW .u32 a b = xorU a b := rfl
/-- The sums of two data, of their exclusive or, of noughts. -/
theorem sum_xor (A B C Z : List Int) (hA : Bytes A) (hB : Bytes B) (hC : Bytes C) (hZ : ∀ x ∈ Z, x = 0) (h1 : A.length = C.length) (h2 : B.length = C.length) (h3 : Z.length = C.length)
    (h : ∀ (i : Nat) (a b c : Int), A[i]? = some a → B[i]? = some b → C[i]? = some c → bv c = bv a ^^^ bv b) :
    xorW .u32 (sumU A) (sumU B) = xorW .u32 (sumU C) (sumU Z) := by
  have hZb : Bytes Z := fun x hx => by rw [hZ x hx]; omega
  have can : ∀ p q r : B32, (p ^^^ q) ^^^ (p ^^^ r) = q ^^^ r := fun p q r => by
    rw [BitVec.xor_comm p q, BitVec.xor_assoc, ← BitVec.xor_assoc p p r, BitVec.xor_self, BitVec.zero_xor]
  rw [xorW_u32, xorW_u32, xorU_bv, xorU_bv, sum_bv A hA, sum_bv B hB, sum_bv C hC, sum_bv Z hZb, bv_nat, bv_nat, bv_nat, bv_nat, can, can]
  rw [← fold_xor A B C _ _ h1 h2 h, ← fold_xor C Z C _ _ rfl h3 (fun i a b c p q r => by
    have hz : b = 0 := hZ b (List.mem_of_getElem? q)
    rw [p] at r
    obtain rfl := Option.some.inj r
    rw [hz, show bv 0 = 0#32 by rfl, BitVec.xor_zero])]

end Go.Proofs.Ytifpbdhggooelaa.sealk
