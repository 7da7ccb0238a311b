/- Bits turned in a row of bytes: twice the same is nothing. No program in sight. -/
import Derived.Test.YtifpbdhggooelaaGd34
namespace Go.Proofs.Ytifpbdhggooelaa.dsk
open Go Ytifpbdhggooelaa.GD
set_option linter.unusedVariables false
set_option linter.unusedSimpArgs false

def Byt (l : List Int) : Prop := ∀ x ∈ l, 0 ≤ x ∧ x ≤ 255
def rowB (l : List Int) : List (List D) := l.map fun x => [D.int .u8 x]

theorem wrap_u8 {n : Int} (h : 0 ≤ n ∧ n ≤ 255) : IntKind.u8.wrap n = n := by
  unfold IntKind.wrap
  have h8 : IntKind.u8.bits = 8 := rfl
  have hs : IntKind.u8.signed = false := rfl
  simp [h8, hs]
  omega
theorem wrap_u32 {n : Int} (h : 0 ≤ n ∧ n < 4294967296) : IntKind.u32.wrap n = n := by
  unfold IntKind.wrap
  have h8 : IntKind.u32.bits = 32 := rfl
  have hs : IntKind.u32.signed = false := rfl
  simp [h8, hs]
  omega
theorem xor_byte {a b : Nat} (ha : a < 256) (hb : b < 256) : xorW .u8 (a : Int) (b : Int) = ((a ^^^ b : Nat) : Int) := by
  unfold xorW
  have h8 : IntKind.u8.bits = 8 := rfl
  have hx : a ^^^ b < 256 := Nat.xor_lt_two_pow (n := 8) ha hb
  rw [h8]
  have e : (BitVec.ofInt 8 (a : Int) ^^^ BitVec.ofInt 8 (b : Int)).toNat = a ^^^ b := by
    rw [BitVec.toNat_xor, BitVec.ofInt_natCast, BitVec.ofInt_natCast, BitVec.toNat_ofNat, BitVec.toNat_ofNat, Nat.mod_eq_of_lt (by omega), Nat.mod_eq_of_lt (by omega)]
  rw [e]
  exact wrap_u8 ⟨by omega, by omega⟩
/-- The bit of a mask. -/
theorem and_bit {m i : Nat} (hm : m < 4294967296) (hi : i < 32) : andW .u32 (shrW .u32 (m : Int) (i : Int)) 1 = ((if m.testBit i then 1 else 0 : Nat) : Int) := by
  unfold andW shrW
  have h8 : IntKind.u32.bits = 32 := rfl
  rw [h8, show min ((i : Int).toNat) 32 = i by simp; omega]
  have e1 : (m : Int).fdiv (2 ^ i) = ((m / 2 ^ i : Nat) : Int) := by
    rw [Int.fdiv_eq_ediv_of_nonneg _ (by exact Int.le_of_lt (Int.pow_pos (by omega)))]
    simp
  rw [e1]
  have hlt : m / 2 ^ i < 4294967296 := Nat.lt_of_le_of_lt (Nat.div_le_self _ _) hm
  have e2 : (BitVec.ofInt 32 ((m / 2 ^ i : Nat) : Int) &&& BitVec.ofInt 32 1).toNat = m / 2 ^ i % 2 := by
    rw [BitVec.toNat_and, BitVec.ofInt_natCast, BitVec.toNat_ofNat, Nat.mod_eq_of_lt (by omega)]
    show m / 2 ^ i &&& 1 = _
    exact Nat.and_one_is_mod _
  rw [e2, wrap_u32 ⟨by omega, by omega⟩, Nat.testBit_eq_decide_div_mod_eq]
  by_cases h : m / 2 ^ i % 2 = 1
  · simp [h]
  · have : m / 2 ^ i % 2 = 0 := by omega
    simp [this]
theorem shl_byte {b r : Nat} (hb : b ≤ 1) (hr : r < 8) : shlW .u8 (b : Int) (r : Int) = ((b * 2 ^ r : Nat) : Int) := by
  unfold shlW
  have h8 : IntKind.u8.bits = 8 := rfl
  rw [h8, show min ((r : Int).toNat) 8 = r by simp; omega]
  have hp : 2 ^ r ≤ 2 ^ 7 := Nat.pow_le_pow_right (by omega) (by omega)
  have hbp : b * 2 ^ r ≤ 128 := Nat.le_trans (Nat.mul_le_mul_right _ hb) (by omega)
  have e : (b : Int) * 2 ^ r = ((b * 2 ^ r : Nat) : Int) := by simp
  rw [e]
  exact wrap_u8 ⟨by omega, by omega⟩

/-- What is put over byte j when n bits of a mask are laid from bit 'at' on. -/
def msk (m at_ : Nat) : Nat → Nat → Nat
  | 0, _ => 0
  | n + 1, j => if m.testBit n = true ∧ at_ + n < 512 ∧ (at_ + n) / 8 = j then msk m at_ n j ^^^ 2 ^ ((at_ + n) % 8) else msk m at_ n j
theorem msk_lt (m at_ : Nat) : ∀ n j, msk m at_ n j < 256
  | 0, j => by simp [msk]
  | n + 1, j => by
    have h := msk_lt m at_ n j
    rw [msk]
    split
    · refine Nat.xor_lt_two_pow (n := 8) h ?_
      exact Nat.pow_lt_pow_right (by omega) (by omega)
    · exact h
/-- Bytes with n bits turned. -/
def trn (m at_ n : Nat) (l : List Nat) : List Nat := l.mapIdx fun j x => x ^^^ msk m at_ n j
theorem trn_zero (m at_ : Nat) (l : List Nat) : trn m at_ 0 l = l := by
  apply List.ext_getElem
  · simp [trn]
  · intro i h1 h2
    simp [trn, msk]
theorem trn_len (m at_ n : Nat) (l : List Nat) : (trn m at_ n l).length = l.length := by simp [trn]
theorem trn_lt {m at_ n : Nat} {l : List Nat} (h : ∀ x ∈ l, x < 256) : ∀ x ∈ trn m at_ n l, x < 256 := by
  intro x hx
  obtain ⟨i, hi, rfl⟩ := List.mem_iff_getElem.1 hx
  simp only [trn, List.getElem_mapIdx]
  exact Nat.xor_lt_two_pow (n := 8) (h _ (List.getElem_mem _)) (msk_lt ..)
theorem trn_trn (m at_ n : Nat) (l : List Nat) : trn m at_ n (trn m at_ n l) = l := by
  apply List.ext_getElem
  · simp [trn]
  · intro i h1 h2
    simp only [trn, List.getElem_mapIdx]
    rw [Nat.xor_assoc, Nat.xor_self, Nat.xor_zero]
theorem trn_at {m at_ n : Nat} {l : List Nat} {j x : Nat} (h : l[j]? = some x) : (trn m at_ n l)[j]? = some (x ^^^ msk m at_ n j) := by
  simp [trn, h]
/-- One bit more, where it is set. -/
theorem trn_set {m at_ n : Nat} {l : List Nat} {y : Nat} (hb : m.testBit n = true) (hn : at_ + n < 512) (hy : (trn m at_ n l)[(at_ + n) / 8]? = some y) :
    trn m at_ (n + 1) l = (trn m at_ n l).set ((at_ + n) / 8) (y ^^^ 2 ^ ((at_ + n) % 8)) := by
  apply List.ext_getElem
  · simp [trn]
  · intro i h1 h2
    rw [List.getElem_set]
    simp only [trn, List.getElem_mapIdx]
    by_cases e : (at_ + n) / 8 = i
    · rw [if_pos e, msk, if_pos ⟨hb, hn, e⟩, ← Nat.xor_assoc]
      subst e
      have : (trn m at_ n l)[(at_ + n) / 8]? = some (l[(at_ + n) / 8]'(by simpa [trn] using h1) ^^^ msk m at_ n ((at_ + n) / 8)) := trn_at (List.getElem?_eq_getElem _)
      rw [hy] at this
      rw [Option.some.inj this]
    · rw [if_neg e, msk, if_neg (fun h => e h.2.2)]
theorem trn_skip {m at_ n : Nat} {l : List Nat} (h : ¬ (m.testBit n = true ∧ at_ + n < 512)) : trn m at_ (n + 1) l = trn m at_ n l := by
  unfold trn
  congr 1
  funext j x
  rw [msk, if_neg (fun q => h ⟨q.1, q.2.1⟩)]
theorem trn_stop {m at_ : Nat} {l : List Nat} : ∀ (k n : Nat), 512 ≤ at_ + n → trn m at_ (n + k) l = trn m at_ n l
  | 0, n, _ => rfl
  | k + 1, n, h => by
    rw [show n + (k + 1) = (n + k) + 1 by omega, trn_skip (by omega), trn_stop k n h]

end Go.Proofs.Ytifpbdhggooelaa.dsk
