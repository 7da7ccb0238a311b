/- Keys: what the writer writes, of small things and of a value. -/
import Derived.Test.YtlccdfilbiipmaaKvV
import Derived.Test.YtlccdfilbiipmaaKvC
namespace Go.Proofs.Ytlccdfilbiipmaa.ordk
open Go Ytlccdfilbiipmaa.GD valk
set_option linter.unusedVariables false
set_option linter.unusedSimpArgs false
set_option maxRecDepth 100000

def turnI (tn : Int) (l : List Int) : List Int := l.map fun x => xorW .u8 x tn
theorem turnI_len (tn : Int) (l : List Int) : (turnI tn l).length = l.length := by simp [turnI]
theorem turnI_app (tn : Int) (a b : List Int) : turnI tn (a ++ b) = turnI tn a ++ turnI tn b := by simp [turnI]
theorem turnC_rows (tn : Int) (l : List Int) : turnC tn (rows l) = rows (turnI tn l) := by simp [turnC, rows, turnI]

theorem put29 (xl : Bool) (l : List Int) (nn : Bool) (b : List Int) (tn : Int) (dp : Bool) (hs : b.length + l.length ≤ 140737488355328) :
    Ret P T 29 [.ptr 0 0 0, .slice xl (rows l) none] [some (.row 3 [[.slice nn (rows b) (some 1), .int .u8 tn, .bool dp]]), some (.tok b.length 1)] (.tuple [])
      [some (.row 3 [[.slice (nn || !(rows l).isEmpty) (rows (b ++ turnI tn l)) (some 1), .int .u8 tn, .bool dp]]), some (.tok (b.length + l.length) 1)] := by
  have key : ∀ (m i : Nat) (x : Bool), i + m = l.length → (nn || !(rows l).isEmpty) = (x || decide (0 < m)) → put_at0 xl (rows l) nn (rows b) tn dp b.length (i : Int) x (rows (b ++ turnI tn (l.take i))) (b.length + i) (.tuple [])
      [some (.row 3 [[.slice (nn || !(rows l).isEmpty) (rows (b ++ turnI tn l)) (some 1), .int .u8 tn, .bool dp]]), some (.tok (b.length + l.length) 1)] := by
    intro m
    induction m with
    | zero =>
      intro i x hi hx
      have : i = l.length := by omega
      subst this
      have e := @put_0_1 xl (rows l) nn (rows b) tn dp b.length (l.length : Int) x (rows (b ++ turnI tn (l.take l.length))) (b.length + l.length) (by rw [rk_len]; omega)
      rw [List.take_length] at e ⊢
      rw [hx]
      simpa using e
    | succ m ih =>
      intro i x hi hx
      have hlt : i < l.length := by omega
      have g := ih (i + 1) true (by omega) (by rw [hx]; simp)
      have w1 : IntKind.i64.wrap ((i : Int) + 1) = ((i + 1 : Nat) : Int) := by rw [wrap_i64 (by omega)]; omega
      have ht : rows (b ++ turnI tn (l.take (i + 1))) = rows (b ++ turnI tn (l.take i)) ++ [[D.int .u8 (xorW .u8 l[i] tn)]] := by
        have ht0 : l.take (i + 1) = l.take i ++ [l[i]] := by rw [List.take_add_one, List.getElem?_eq_getElem hlt]; rfl
        rw [ht0]
        simp only [rows, turnI, List.map_append, List.map_cons, List.map_nil, List.append_assoc]
      rw [← w1, ht] at g
      have hl1 : (rows (b ++ turnI tn (l.take i))).length = b.length + i := by simp [rk_len, turnI]; omega
      have hg : (rows l)[((i : Int)).toNat]? = some [D.int .u8 l[i]] := by simp [rows, hlt]
      refine put_0_0 (by rw [rk_len]; omega) ⟨hl1, by rw [hl1]; omega, rfl⟩ (by omega) hg ?_
      rw [Bool.or_true]
      exact g
  have g := key l.length 0 nn (by omega) (by cases l <;> simp [rows])
  simp only [List.take_zero, turnI, List.map_nil, List.append_nil, Nat.add_zero] at g
  exact put_in_0 g

theorem putT29 (xl : Bool) (l : List Int) (nn : Bool) (b : List Int) (tn : Int) (dp : Bool) (nl : Nat) (hs : b.length + l.length ≤ 140737488355328) :
    Ret P T 29 [.ptr 0 0 0, .slice xl (rows l) (some 2)] [some (.row 3 [[.slice nn (rows b) (some 1), .int .u8 tn, .bool dp]]), some (.tok b.length 1), some (.tok nl 1)] (.tuple [])
      [some (.row 3 [[.slice (nn || !(rows l).isEmpty) (rows (b ++ turnI tn l)) (some 1), .int .u8 tn, .bool dp]]), some (.tok (b.length + l.length) 1), some (.tok nl 1)] := by
  have key : ∀ (m i : Nat) (x : Bool), i + m = l.length → (nn || !(rows l).isEmpty) = (x || decide (0 < m)) → putT_at0 xl (rows l) nn (rows b) tn dp b.length nl (i : Int) x (rows (b ++ turnI tn (l.take i))) (b.length + i) (.tuple [])
      [some (.row 3 [[.slice (nn || !(rows l).isEmpty) (rows (b ++ turnI tn l)) (some 1), .int .u8 tn, .bool dp]]), some (.tok (b.length + l.length) 1), some (.tok nl 1)] := by
    intro m
    induction m with
    | zero =>
      intro i x hi hx
      have : i = l.length := by omega
      subst this
      have e := @putT_0_1 xl (rows l) nn (rows b) tn dp b.length nl (l.length : Int) x (rows (b ++ turnI tn (l.take l.length))) (b.length + l.length) (by rw [rk_len]; omega)
      rw [List.take_length] at e ⊢
      rw [hx]
      simpa using e
    | succ m ih =>
      intro i x hi hx
      have hlt : i < l.length := by omega
      have g := ih (i + 1) true (by omega) (by rw [hx]; simp)
      have w1 : IntKind.i64.wrap ((i : Int) + 1) = ((i + 1 : Nat) : Int) := by rw [wrap_i64 (by omega)]; omega
      have ht : rows (b ++ turnI tn (l.take (i + 1))) = rows (b ++ turnI tn (l.take i)) ++ [[D.int .u8 (xorW .u8 l[i] tn)]] := by
        have ht0 : l.take (i + 1) = l.take i ++ [l[i]] := by rw [List.take_add_one, List.getElem?_eq_getElem hlt]; rfl
        rw [ht0]
        simp only [rows, turnI, List.map_append, List.map_cons, List.map_nil, List.append_assoc]
      rw [← w1, ht] at g
      have hl1 : (rows (b ++ turnI tn (l.take i))).length = b.length + i := by simp [rk_len, turnI]; omega
      have hg : (rows l)[((i : Int)).toNat]? = some [D.int .u8 l[i]] := by simp [rows, hlt]
      refine putT_0_0 (by rw [rk_len]; omega) ⟨hl1, by rw [hl1]; omega, rfl⟩ (by omega) hg ?_
      rw [Bool.or_true]
      exact g
  have g := key l.length 0 nn (by omega) (by cases l <;> simp [rows])
  simp only [List.take_zero, turnI, List.map_nil, List.append_nil, Nat.add_zero] at g
  exact putT_in_0 g

/-- A writer's objects. -/
abbrev wrS (nn : Bool) (b : List Int) (tn : Int) (dp : Bool) : GD.Heap := [some (.row 3 [[.slice nn (rows b) (some 1), .int .u8 tn, .bool dp]]), some (.tok b.length 1)]
theorem wr_eq {nn : Bool} {b c : List Int} {tn : Int} {dp : Bool} {es : Es} {m : Nat} (h1 : es = rows (b ++ c)) (h2 : m = b.length + c.length) :
    ([some (.row 3 [[.slice nn es (some 1), .int .u8 tn, .bool dp]]), some (.tok m 1)] : GD.Heap) = wrS nn (b ++ c) tn dp := by
  rw [h1, h2, ← List.length_append]

/-- One byte, some bytes of a literal. -/
theorem putL (l : List Int) (hl : l ≠ []) (nn : Bool) (b : List Int) (tn : Int) (dp : Bool) (hs : b.length + l.length ≤ 140737488355328) (es : Es) (he : es = rows b ++ rows (turnI tn l)) (k m : Nat) (hk : k = b.length) (hm : m = b.length + l.length) :
    Ret P T 29 [.ptr 0 0 0, .slice true (rows l) (some 2)] [some (.row 3 [[.slice nn (rows b) (some 1), .int .u8 tn, .bool dp]]), some (.tok k 1), some (.tok l.length 1)] (.tuple [])
      [some (.row 3 [[.slice (nn || true) es (some 1), .int .u8 tn, .bool dp]]), some (.tok m 1), some (.tok l.length 1)] := by
  have := putT29 true l nn b tn dp l.length hs
  have e : (!(rows l).isEmpty) = true := by cases l with | nil => exact absurd rfl hl | cons a r => rfl
  rw [e] at this
  rw [he, hk, hm, ← rk_app]
  exact this

theorem class_byte (k : Int) : IntKind.u8.wrap (IntKind.i64.wrap (classU k + 1)) = classU k + 1 := by
  have h := class_le k
  have hs : IntKind.u8.signed = false := rfl
  have hb : (2 ^ IntKind.u8.bits : Int) = 256 := by decide
  rw [wrap_i64 (by omega)]
  unfold IntKind.wrap
  simp only [hs, hb, Bool.false_and, Bool.false_eq_true, if_false]
  omega
theorem cls26 (k : Int) (nn : Bool) (b : List Int) (tn : Int) (dp : Bool) (hs : b.length + 1 ≤ 140737488355328) :
    Ret P T 26 [.ptr 0 0 0, .int .i64 k] (wrS nn b tn dp) (.tuple []) (wrS true (b ++ turnI tn [classU k + 1]) tn dp) := by
  have e := @kcl_in_0 classU (fun _ => []) (fun _ => []) k nn (rows b) tn dp b.length
  rw [class_byte] at e
  have h := putL [classU k + 1] (by simp) nn b tn dp (by simpa using hs) (rows b ++ [[D.int IntKind.u8 (xorW IntKind.u8 (classU k + 1) tn)]]) (by simp [rows, turnI]) b.length (b.length + 1) rfl rfl
  have g := e h (cls34 k)
  rw [Bool.or_true] at g
  rw [← wr_eq (nn := true) (tn := tn) (dp := dp) (b := b) (c := turnI tn [classU k + 1]) (es := rows b ++ [[D.int IntKind.u8 (xorW IntKind.u8 (classU k + 1) tn)]]) (m := b.length + 1) (by simp [rows, turnI]) (by simp [turnI])]
  exact g

/-! ### numbers -/
theorem xor_top {a : Nat} (h : a < 2 ^ 63) : a ^^^ 2 ^ 63 = a + 2 ^ 63 := by
  apply Nat.eq_of_testBit_eq
  intro i
  have e : a + 2 ^ 63 = 2 ^ 63 * 1 + a := by omega
  rw [e, Nat.testBit_two_pow_mul_add _ h, Nat.testBit_xor, Nat.testBit_two_pow]
  by_cases hi : i < 63
  · have : ¬ 63 = i := by omega
    simp [hi, this]
  · have h1 : a.testBit i = false := Nat.testBit_lt_two_pow (Nat.lt_of_lt_of_le h (Nat.pow_le_pow_right (by decide) (by omega)))
    by_cases h63 : 63 = i
    · subst h63; simp [h1]
    · have h2 : Nat.testBit 1 (i - 63) = false := Nat.testBit_lt_two_pow (by
        have : 2 ^ 1 ≤ 2 ^ (i - 63) := Nat.pow_le_pow_right (by decide) (by omega)
        omega)
      simp [hi, h1, h63, h2]
theorem wrap_u64 {n : Int} (h : 0 ≤ n ∧ n < 18446744073709551616) : IntKind.u64.wrap n = n := by
  have hs : IntKind.u64.signed = false := rfl
  have hb : (2 ^ IntKind.u64.bits : Int) = 18446744073709551616 := by decide
  unfold IntKind.wrap
  simp only [hs, hb, Bool.false_and, Bool.false_eq_true, if_false]
  omega
theorem top_bit {n : Int} (h : -9223372036854775808 ≤ n ∧ n ≤ 9223372036854775807) : xorW IntKind.u64 (IntKind.u64.wrap n) 9223372036854775808 = n + 9223372036854775808 := by
  have hs : IntKind.u64.signed = false := rfl
  have hb : (2 ^ IntKind.u64.bits : Int) = 18446744073709551616 := by decide
  have h64 : IntKind.u64.bits = 64 := rfl
  have key : ∀ a : Nat, a < 2 ^ 64 → xorW IntKind.u64 (a : Int) 9223372036854775808 = ((a ^^^ 2 ^ 63 : Nat) : Int) := by
    intro a ha
    have hlt : a ^^^ 2 ^ 63 < 2 ^ 64 := Nat.xor_lt_two_pow ha (by decide)
    unfold xorW
    rw [BitVec.toNat_xor, BitVec.toNat_ofInt, BitVec.toNat_ofInt, h64]
    have e1 : ((a : Int) % ((2 ^ 64 : Nat) : Int)).toNat = a := by omega
    have e2 : ((9223372036854775808 : Int) % ((2 ^ 64 : Nat) : Int)).toNat = 2 ^ 63 := by decide
    rw [e1, e2]
    exact wrap_u64 (by omega)
  by_cases hn : 0 ≤ n
  · rw [wrap_u64 (by omega)]
    have := key n.toNat (by omega)
    rw [xor_top (by omega)] at this
    have e : (n.toNat : Int) = n := by omega
    rw [e] at this
    rw [this]
    omega
  · have e0 : IntKind.u64.wrap n = n + 18446744073709551616 := by
      unfold IntKind.wrap
      simp only [hs, hb, Bool.false_and, Bool.false_eq_true, if_false]
      omega
    have e : n + 18446744073709551616 = (((n + 9223372036854775808).toNat + 2 ^ 63 : Nat) : Int) := by omega
    rw [e0, e, key _ (by omega), ← xor_top (by omega), Nat.xor_assoc, Nat.xor_self, Nat.xor_zero]
    omega
theorem num27 (n : Int) (hn : -9223372036854775808 ≤ n ∧ n ≤ 9223372036854775807) (nn : Bool) (b : List Int) (tn : Int) (dp : Bool) (hs : b.length + 8 ≤ 140737488355328) :
    Ret P T 27 [.ptr 0 0 0, .int .i64 n] (wrS nn b tn dp) (.tuple []) (wrS true (b ++ turnI tn (be 8 (n + 9223372036854775808))) tn dp) := by
  have ht := top_bit hn
  have key : ∀ (m : Nat), m ≤ 8 → ∀ (x : Bool) (c : List Int), c.length + m = 8 → (m = 0 → x = true) → c ++ be m (n + 9223372036854775808) = be 8 (n + 9223372036854775808) →
      knu_at0 classU (fun _ => []) (fun _ => []) n nn (rows b) tn dp b.length (8 * (m : Int) - 8) x (rows (b ++ turnI tn c)) (b.length + c.length) (.tuple []) (wrS true (b ++ turnI tn (be 8 (n + 9223372036854775808))) tn dp) := by
    intro m
    induction m with
    | zero =>
      intro hm x c hc hx hcb
      have e : c = be 8 (n + 9223372036854775808) := by simpa [be] using hcb
      subst e
      rw [← wr_eq (nn := true) (tn := tn) (dp := dp) (b := b) (c := turnI tn (be 8 (n + 9223372036854775808))) (es := rows (b ++ turnI tn (be 8 (n + 9223372036854775808)))) (m := b.length + (be 8 (n + 9223372036854775808)).length) rfl (by rw [turnI_len])]
      rw [hx rfl]
      exact knu_0_1 (by omega)
    | succ m ih =>
      intro hm x c hc hx hcb
      have w1 : IntKind.i64.wrap (8 * ((m + 1 : Nat) : Int) - 8 - 8) = 8 * (m : Int) - 8 := by rw [wrap_i64 (by omega)]; omega
      have hsh : IntKind.u8.wrap (shrW IntKind.u64 (n + 9223372036854775808) (8 * ((m + 1 : Nat) : Int) - 8)) = (n + 9223372036854775808) / 256 ^ m % 256 := by
        unfold shrW
        have h64 : IntKind.u64.bits = 64 := rfl
        have e1 : min (8 * ((m + 1 : Nat) : Int) - 8).toNat IntKind.u64.bits = 8 * m := by rw [h64]; omega
        rw [e1, Int.fdiv_eq_ediv_of_nonneg _ (Int.le_of_lt (Int.pow_pos (by decide)))]
        have e2 : (2 : Int) ^ (8 * m) = 256 ^ m := by rw [Int.pow_mul]; rfl
        rw [e2]
        have hs : IntKind.u8.signed = false := rfl
        have hb : (2 ^ IntKind.u8.bits : Int) = 256 := by decide
        unfold IntKind.wrap
        simp only [hs, hb, Bool.false_and, Bool.false_eq_true, if_false]
      have g := ih (by omega) true (c ++ [(n + 9223372036854775808) / 256 ^ m % 256]) (by simp; omega) (fun _ => rfl) (by rw [← hcb]; simp [be])
      have h29 := putL [(n + 9223372036854775808) / 256 ^ m % 256] (by simp) x (b ++ turnI tn c) tn dp (by simp [turnI_len]; omega) (rows (b ++ turnI tn c) ++ [[D.int IntKind.u8 (xorW IntKind.u8 ((n + 9223372036854775808) / 256 ^ m % 256) tn)]]) (by simp [rows, turnI]) (b.length + c.length) (b.length + c.length + 1) (by simp [turnI_len]) (by simp [turnI_len])
      have e := @knu_0_0 classU (fun _ => []) (fun _ => []) n nn (rows b) tn dp b.length (8 * ((m + 1 : Nat) : Int) - 8) x (rows (b ++ turnI tn c)) (b.length + c.length) (.tuple []) (wrS true (b ++ turnI tn (be 8 (n + 9223372036854775808))) tn dp)
      rw [ht, hsh, w1] at e
      refine e (by omega) h29 (by omega) ?_
      have eg : rows (b ++ turnI tn (c ++ [(n + 9223372036854775808) / 256 ^ m % 256])) = rows (b ++ turnI tn c) ++ [[D.int IntKind.u8 (xorW IntKind.u8 ((n + 9223372036854775808) / 256 ^ m % 256) tn)]] := by simp [rows, turnI]
      rw [eg] at g
      rw [Bool.or_true]
      have el : b.length + (c ++ [(n + 9223372036854775808) / 256 ^ m % 256]).length = b.length + c.length + 1 := by simp; omega
      rw [el] at g
      exact g
  have g := key 8 (by omega) nn [] rfl (fun h => by omega) rfl
  simp only [turnI, List.map_nil, List.append_nil, List.length_nil, Nat.add_zero] at g
  exact knu_in_0 g

/-! ### texts -/
theorem txL_cons (c : UInt8) (r : List UInt8) : txL (c :: r) = if c = 0 then 0 :: 255 :: txL r else (c.toNat : Int) :: txL r := by rw [txL]
theorem tx_ge2 : ∀ l : List UInt8, 2 ≤ (txL l).length
  | [] => by simp [txL]
  | a :: r => by
    have := tx_ge2 r
    rw [txL_cons]
    split <;> simp <;> omega
theorem txt28 (s : ByteArray) (hsz : s.size ≤ maxLen) (nn : Bool) (b : List Int) (tn : Int) (dp : Bool) (hs : b.length + (txL s.toList).length ≤ 140737488355328) :
    Ret P T 28 [.ptr 0 0 0, .str s] (wrS nn b tn dp) (.tuple []) (wrS true (b ++ turnI tn (txL s.toList)) tn dp) := by
  have hmx : maxLen ≤ 9223372036854775807 := by decide
  have hsl := size_list s
  have key : ∀ (m i : Nat), i + m = s.size → ∀ (x : Bool) (c : List Int), c ++ txL (s.toList.drop i) = txL s.toList →
      ktx_at0 classU (fun _ => []) (fun _ => []) s nn (rows b) tn dp b.length (i : Int) x (rows (b ++ turnI tn c)) (b.length + c.length) (.tuple []) (wrS true (b ++ turnI tn (txL s.toList)) tn dp) := by
    intro m
    induction m with
    | zero =>
      intro i hi x c hcb
      rw [List.drop_of_length_le (by omega)] at hcb
      have h0 : c ++ [0, 0] = txL s.toList := by simpa [txL] using hcb
      have hl : c.length + 2 = (txL s.toList).length := by rw [← h0]; simp
      have h29 := putL [0, 0] (by simp) x (b ++ turnI tn c) tn dp (by simp [turnI_len]; omega) (rows (b ++ turnI tn c) ++ [[D.int IntKind.u8 (xorW IntKind.u8 0 tn)], [D.int IntKind.u8 (xorW IntKind.u8 0 tn)]]) (by simp [rows, turnI]) (b.length + c.length) (b.length + c.length + 2) (by simp [turnI_len]) (by simp [turnI_len])
      have g := ktx_0_2 (nmE := fun _ => []) (txE := fun _ => []) (cl := classU) (nn := nn) (b := rows b) (nt := b.length) (show ¬ ((i : Int) < (s.size : Int)) by omega) h29
      rw [Bool.or_true] at g
      rw [← wr_eq (nn := true) (tn := tn) (dp := dp) (b := b) (c := turnI tn (txL s.toList)) (es := rows (b ++ turnI tn c) ++ [[D.int IntKind.u8 (xorW IntKind.u8 0 tn)], [D.int IntKind.u8 (xorW IntKind.u8 0 tn)]]) (m := b.length + c.length + 2) (by rw [← h0]; simp [rows, turnI]) (by rw [turnI_len, ← hl]; omega)]
      exact g
    | succ m ih =>
      intro i hi x c hcb
      have hlt : i < s.toList.length := by omega
      have w1 : IntKind.i64.wrap ((i : Int) + 1) = ((i + 1 : Nat) : Int) := by rw [wrap_i64 (by omega)]; omega
      have hd : s.data.getD ((i : Int)).toNat 0 = s.toList[i] := by rw [getD_list, Int.toNat_natCast]; simp [List.getD_eq_getElem?_getD, hlt]
      rw [List.drop_eq_getElem_cons hlt] at hcb
      rw [txL_cons] at hcb
      have hbound : c.length + 4 ≤ (txL s.toList).length ∨ s.toList[i] ≠ 0 ∧ c.length + 3 ≤ (txL s.toList).length := by
        by_cases hz : s.toList[i] = 0
        · left; rw [← hcb, if_pos hz]; have := tx_ge2 (s.toList.drop (i + 1)); simp; omega
        · right; refine ⟨hz, ?_⟩; rw [← hcb, if_neg hz]; have := tx_ge2 (s.toList.drop (i + 1)); simp; omega
      have h29 := putL [((s.toList[i]).toNat : Int)] (by simp) x (b ++ turnI tn c) tn dp (by simp [turnI_len]; omega) (rows (b ++ turnI tn c) ++ [[D.int IntKind.u8 (xorW IntKind.u8 ((s.toList[i]).toNat : Int) tn)]]) (by simp [rows, turnI]) (b.length + c.length) (b.length + c.length + 1) (by simp [turnI_len]) (by simp [turnI_len])
      by_cases hz : s.toList[i] = 0
      · rw [if_pos hz] at hcb
        have g := ih (i + 1) (by omega) true (c ++ [0, 255]) (by rw [← hcb]; simp)
        have hz2 : ((s.toList[i]).toNat : Int) = 0 := by rw [hz]; rfl
        rw [hz2] at h29
        have h29b := putL [255] (by simp) (x || true) (b ++ turnI tn (c ++ [0])) tn dp (by simp [turnI_len]; omega) (rows (b ++ turnI tn c) ++ [[D.int IntKind.u8 (xorW IntKind.u8 0 tn)]] ++ [[D.int IntKind.u8 (xorW IntKind.u8 255 tn)]]) (by simp [rows, turnI]) (b.length + c.length + 1) (b.length + c.length + 1 + 1) (by simp [turnI_len]; omega) (by simp [turnI_len]; omega)
        have e0 : rows (b ++ turnI tn (c ++ [0])) = rows (b ++ turnI tn c) ++ [[D.int IntKind.u8 (xorW IntKind.u8 0 tn)]] := by simp [rows, turnI]
        rw [e0] at h29b
        have e := @ktx_0_0 classU (fun _ => []) (fun _ => []) s nn (rows b) tn dp b.length (i : Int) x (rows (b ++ turnI tn c)) (b.length + c.length) (.tuple []) (wrS true (b ++ turnI tn (txL s.toList)) tn dp)
        rw [hd, hz2, w1] at e
        refine e (by omega) rfl h29b (by omega) h29 ?_
        have eg : rows (b ++ turnI tn (c ++ [0, 255])) = rows (b ++ turnI tn c) ++ [[D.int IntKind.u8 (xorW IntKind.u8 0 tn)]] ++ [[D.int IntKind.u8 (xorW IntKind.u8 255 tn)]] := by simp [rows, turnI]
        have el : b.length + (c ++ [0, 255]).length = b.length + c.length + 1 + 1 := by simp; omega
        rw [eg, el] at g
        rw [Bool.or_true]
        exact g
      · rw [if_neg hz] at hcb
        have g := ih (i + 1) (by omega) true (c ++ [((s.toList[i]).toNat : Int)]) (by rw [← hcb]; simp)
        have hz2 : ((s.toList[i]).toNat : Int) ≠ 0 := by have := u8_pos hz; omega
        have e := @ktx_0_1 classU (fun _ => []) (fun _ => []) s nn (rows b) tn dp b.length (i : Int) x (rows (b ++ turnI tn c)) (b.length + c.length) (.tuple []) (wrS true (b ++ turnI tn (txL s.toList)) tn dp)
        rw [hd, w1] at e
        refine e (by omega) hz2 (by omega) h29 ?_
        have eg : rows (b ++ turnI tn (c ++ [((s.toList[i]).toNat : Int)])) = rows (b ++ turnI tn c) ++ [[D.int IntKind.u8 (xorW IntKind.u8 ((s.toList[i]).toNat : Int) tn)]] := by simp [rows, turnI]
        have el : b.length + (c ++ [((s.toList[i]).toNat : Int)]).length = b.length + c.length + 1 := by simp; omega
        rw [eg, el] at g
        rw [Bool.or_true]
        exact g
  have g := key s.size 0 (by omega) nn [] rfl
  simp only [turnI, List.map_nil, List.append_nil, List.length_nil, Nat.add_zero] at g
  exact ktx_in_0 g

theorem lit_one (x tn : Int) : ([[D.int IntKind.u8 (xorW IntKind.u8 x tn)]] : Es) = rows (turnI tn [x]) := rfl
abbrev ckR (k : Int) : Es := rows [classU k + 1]
abbrev nmE' (n : Int) : Es := rows (be 8 (n + 9223372036854775808))
abbrev txR (s : ByteArray) : Es := rows (txL s.toList)
abbrev enR (v : List D) : Es := rows (encV v)

theorem encF_eq (nm : ByteArray) (c : Cs) : encF (D.str nm :: c) = [1] ++ [classU (kindOf c) + 1] ++ txL nm.toList ++ encV c := by rw [encF]; simp
theorem kind_val (k n : Int) (s : ByteArray) (xb : Bool) (eb : Es) (xf : Bool) (ef : Es) (xl : Bool) (el : Es) : kindOf (valk.val k n s xb eb xf ef xl el) = k := rfl

/-- What 'value' does with a value. -/
def ValOk (v : Cs) (w : Int) : Prop := ∀ (nn : Bool) (b : List Int) (tn : Int) (dp : Bool), b.length + (encV v).length ≤ 140737488355328 →
  Ret P T 21 [.ptr 0 0 0, .agg v, .int .i64 w] (wrS nn b tn dp) (.tuple []) (wrS true (b ++ turnI tn (encV v)) tn dp)

section
variable (k n : Int) (s : ByteArray) (xb : Bool) (eb : Es) (xf : Bool) (ef : Es) (xl : Bool) (el : Es) (w : Int)
  (lf : ef.length ≤ maxLen) (ll : el.length ≤ maxLen) (hw : 0 ≤ w ∧ w ≤ 33)
  (hf : ∀ r ∈ ef, ∃ nm c, r = D.str nm :: c ∧ nm.size ≤ maxLen ∧ VS c ∧ ValOk c (w + 1))
  (hl : ∀ r ∈ el, VS r ∧ ValOk r (w + 1))
  (nn : Bool) (b : List Int) (tn : Int) (dp : Bool) (tot : List Int) (ht : b.length + tot.length ≤ 140737488355328)
include lf ll hw hf hl ht

omit lf hf in
theorem vl_list : ∀ (m i : Nat), i + m = el.length → ∀ c : List Int, c ++ (encLs (el.drop i) ++ [0]) = tot →
    kvl_at1 ckR nmE' txR enR k n s xb eb xf ef xl el w nn (rows b) tn dp b.length (i : Int) (rows (b ++ turnI tn c)) (b.length + c.length) (.tuple []) (wrS true (b ++ turnI tn tot) tn dp) := by
  have hmx : maxLen ≤ 9223372036854775807 := by decide
  intro m
  induction m with
  | zero =>
    intro i hi c hc
    rw [List.drop_of_length_le (by omega)] at hc
    have hc0 : c ++ [0] = tot := by simpa [encLs] using hc
    have hl0 : c.length + 1 = tot.length := by rw [← hc0]; simp
    have h29 := putL [0] (by simp) true (b ++ turnI tn c) tn dp (by simp [turnI_len]; omega) (rows (b ++ turnI tn c) ++ [[D.int IntKind.u8 (xorW IntKind.u8 0 tn)]]) (by simp [rows, turnI]) (b.length + c.length) (b.length + c.length + 1) (by simp [turnI_len]) (by simp [turnI_len])
    have g := kvl_1_1 (ckE := ckR) (nmE := nmE') (txE := txR) (enE := enR) (k := k) (n := n) (s := s) (xb := xb) (eb := eb) (xf := xf) (ef := ef) (xl := xl) (wi := w) (nn := nn) (b := rows b) (nt := b.length) (show ¬ ((i : Int) < (el.length : Int)) by omega) h29
    rw [← wr_eq (nn := true) (tn := tn) (dp := dp) (b := b) (c := turnI tn tot) (es := rows (b ++ turnI tn c) ++ [[D.int IntKind.u8 (xorW IntKind.u8 0 tn)]]) (m := b.length + c.length + 1) (by rw [← hc0]; simp [rows, turnI]) (by rw [turnI_len, ← hl0]; omega)]
    exact g
  | succ m ih =>
    intro i hi c hc
    have hlt : i < el.length := by omega
    rw [List.drop_eq_getElem_cons hlt, encLs] at hc
    obtain ⟨hv, hok⟩ := hl _ (List.getElem_mem hlt)
    obtain ⟨ck, cn, cs, yb, cb, yf, cf, yl, cl, he⟩ := hv.get
    have hg : el[((i : Int)).toNat]? = some (valk.val ck cn cs yb cb yf cf yl cl) := by rw [Int.toNat_natCast, List.getElem?_eq_getElem hlt, he]
    rw [he] at hc hok
    have hlen : c.length + 1 + (encV (valk.val ck cn cs yb cb yf cf yl cl)).length ≤ tot.length := by rw [← hc]; simp; omega
    have w1 : IntKind.i64.wrap ((i : Int) + 1) = ((i + 1 : Nat) : Int) := by rw [wrap_i64 (by omega)]; omega
    have ww : IntKind.i64.wrap (w + 1) = w + 1 := wrap_i64 (by omega)
    have h29 := putL [1] (by simp) true (b ++ turnI tn c) tn dp (by simp [turnI_len]; omega) (rows (b ++ turnI tn c) ++ [[D.int IntKind.u8 (xorW IntKind.u8 1 tn)]]) (by simp [rows, turnI]) (b.length + c.length) (b.length + c.length + 1) (by simp [turnI_len]) (by simp [turnI_len])
    have h21 := hok true (b ++ turnI tn c ++ turnI tn [1]) tn dp (by simp [turnI_len]; omega)
    have g := ih (i + 1) (by omega) (c ++ [1] ++ encV (valk.val ck cn cs yb cb yf cf yl cl)) (by rw [← hc]; simp)
    have e := @kvl_1_0 ckR nmE' txR enR k n s xb eb xf ef xl el w nn (rows b) tn dp b.length (i : Int) (rows (b ++ turnI tn c)) (b.length + c.length) ck cn cs yb cb yf cf yl cl (.tuple []) (wrS true (b ++ turnI tn tot) tn dp)
    simp only [wrS, lit_one, turnC_rows, ← rk_app, rk_len, List.length_append, turnI_len, List.append_assoc, List.length_cons, List.length_nil, turnI_app, Nat.zero_add, Nat.add_assoc, ww, w1] at e h29 h21 g ⊢
    exact e (by omega) h21 h29 (by omega) hg g

theorem vl_fields : ∀ (m i : Nat), i + m = ef.length → ∀ c : List Int, c ++ (encFs (ef.drop i) ++ (encLs el ++ [0])) = tot →
    kvl_at0 ckR nmE' txR enR k n s xb eb xf ef xl el w nn (rows b) tn dp b.length (i : Int) (rows (b ++ turnI tn c)) (b.length + c.length) (.tuple []) (wrS true (b ++ turnI tn tot) tn dp) := by
  have hmx : maxLen ≤ 9223372036854775807 := by decide
  intro m
  induction m with
  | zero =>
    intro i hi c hc
    rw [List.drop_of_length_le (by omega), encFs, List.nil_append] at hc
    have g := vl_list k n s xb eb xf ef xl el w ll hw hl nn b tn dp tot ht el.length 0 (by omega) c (by rw [List.drop_zero]; exact hc)
    exact kvl_0_1 (by omega) g
  | succ m ih =>
    intro i hi c hc
    have hlt : i < ef.length := by omega
    rw [List.drop_eq_getElem_cons hlt, encFs] at hc
    obtain ⟨nm, cc, hr, hnm, hv, hok⟩ := hf _ (List.getElem_mem hlt)
    obtain ⟨ck, cn, cs, yb, cb, yf, cf, yl, cl, he⟩ := hv.get
    subst he
    have hg : ef[((i : Int)).toNat]? = some (D.str nm :: valk.val ck cn cs yb cb yf cf yl cl) := by rw [Int.toNat_natCast, List.getElem?_eq_getElem hlt, hr]
    rw [hr, encF_eq, kind_val] at hc
    have hlen : c.length + 1 + 1 + (txL nm.toList).length + (encV (valk.val ck cn cs yb cb yf cf yl cl)).length ≤ tot.length := by rw [← hc]; simp; omega
    have w1 : IntKind.i64.wrap ((i : Int) + 1) = ((i + 1 : Nat) : Int) := by rw [wrap_i64 (by omega)]; omega
    have ww : IntKind.i64.wrap (w + 1) = w + 1 := wrap_i64 (by omega)
    have h29 := putL [1] (by simp) true (b ++ turnI tn c) tn dp (by simp [turnI_len]; omega) (rows (b ++ turnI tn c) ++ [[D.int IntKind.u8 (xorW IntKind.u8 1 tn)]]) (by simp [rows, turnI]) (b.length + c.length) (b.length + c.length + 1) (by simp [turnI_len]) (by simp [turnI_len])
    have h26 := cls26 ck true (b ++ turnI tn c ++ turnI tn [1]) tn dp (by simp [turnI_len]; omega)
    have h28 := txt28 nm hnm true (b ++ turnI tn c ++ turnI tn [1] ++ turnI tn [classU ck + 1]) tn dp (by simp [turnI_len]; omega)
    have h21 := hok true (b ++ turnI tn c ++ turnI tn [1] ++ turnI tn [classU ck + 1] ++ turnI tn (txL nm.toList)) tn dp (by simp [turnI_len]; omega)
    have g := ih (i + 1) (by omega) (c ++ [1] ++ [classU ck + 1] ++ txL nm.toList ++ encV (valk.val ck cn cs yb cb yf cf yl cl)) (by rw [← hc]; simp)
    have e := @kvl_0_0 ckR nmE' txR enR k n s xb eb xf ef xl el w nn (rows b) tn dp b.length (i : Int) (rows (b ++ turnI tn c)) (b.length + c.length) nm ck cn cs yb cb yf cf yl cl (.tuple []) (wrS true (b ++ turnI tn tot) tn dp)
    simp only [wrS, lit_one, turnC_rows, ← rk_app, rk_len, List.length_append, turnI_len, List.append_assoc, List.length_cons, List.length_nil, turnI_app, Nat.zero_add, Nat.add_assoc, ww, w1] at e h29 h26 h28 h21 g ⊢
    exact e (by omega) h21 h28 h26 h29 (by omega) hg g
end

theorem val21 {v : Cs} (hv : VS v) : ∀ w : Int, 0 ≤ w → (kindOf v = 0 ∨ ∃ q : Nat, WF q v ∧ w + q ≤ 33) → ValOk v w := by
  induction hv with
  | mk k n s xb eb xf ef xl el bs hk hn hs hb hb' lb lf ll nb nf nl hf hfv hl ihf ihl =>
    intro w hw0 hW nn b tn dp hlen
    have hmx : maxLen ≤ 9223372036854775807 := by decide
    have ht := hlen
    rw [encV_eq] at ht ⊢
    have e0 : (classU k + 1) :: encB k n s eb ef el = [classU k + 1] ++ encB k n s eb ef el := rfl
    rw [e0] at ht ⊢
    rw [List.length_append] at ht
    have hc1 : ([classU k + 1] : List Int).length = 1 := rfl
    rw [hc1] at ht
    have h26 := cls26 k nn b tn dp (by omega)
    by_cases h3 : k = 3
    · have eB : encB k n s eb ef el = be 8 (n + 9223372036854775808) := by unfold encB; rw [if_pos (by omega)]
      rw [eB, be_len] at ht
      have h27 := num27 n hn true (b ++ turnI tn [classU k + 1]) tn dp (by simp [turnI_len]; omega)
      have e := @kvl_in_0 ckR nmE' txR enR k n s xb eb xf ef xl el w nn (rows b) tn dp b.length
      rw [eB]
      simp only [be_len, wrS, lit_one, turnC_rows, ← rk_app, rk_len, List.length_append, turnI_len, List.append_assoc, List.length_cons, List.length_nil, turnI_app, Nat.zero_add, Nat.add_assoc] at e h26 h27 ⊢
      exact e h3 h27 h26
    by_cases h4 : k = 4
    · have eB : encB k n s eb ef el = be 8 (n + 9223372036854775808) := by unfold encB; rw [if_pos (by omega)]
      rw [eB, be_len] at ht
      have h27 := num27 n hn true (b ++ turnI tn [classU k + 1]) tn dp (by simp [turnI_len]; omega)
      have e := @kvl_in_1 ckR nmE' txR enR k n s xb eb xf ef xl el w nn (rows b) tn dp b.length
      rw [eB]
      simp only [be_len, wrS, lit_one, turnC_rows, ← rk_app, rk_len, List.length_append, turnI_len, List.append_assoc, List.length_cons, List.length_nil, turnI_app, Nat.zero_add, Nat.add_assoc] at e h26 h27 ⊢
      exact e h3 h4 h27 h26
    by_cases h10 : k = 10
    · have eB : encB k n s eb ef el = be 8 (n + 9223372036854775808) := by unfold encB; rw [if_pos (by omega)]
      rw [eB, be_len] at ht
      have h27 := num27 n hn true (b ++ turnI tn [classU k + 1]) tn dp (by simp [turnI_len]; omega)
      have e := @kvl_in_2 ckR nmE' txR enR k n s xb eb xf ef xl el w nn (rows b) tn dp b.length
      rw [eB]
      simp only [be_len, wrS, lit_one, turnC_rows, ← rk_app, rk_len, List.length_append, turnI_len, List.append_assoc, List.length_cons, List.length_nil, turnI_app, Nat.zero_add, Nat.add_assoc] at e h26 h27 ⊢
      exact e h3 h4 h10 h27 h26
    by_cases h11 : k = 11
    · have eB : encB k n s eb ef el = be 8 (n + 9223372036854775808) := by unfold encB; rw [if_pos (by omega)]
      rw [eB, be_len] at ht
      have h27 := num27 n hn true (b ++ turnI tn [classU k + 1]) tn dp (by simp [turnI_len]; omega)
      have e := @kvl_in_3 ckR nmE' txR enR k n s xb eb xf ef xl el w nn (rows b) tn dp b.length
      rw [eB]
      simp only [be_len, wrS, lit_one, turnC_rows, ← rk_app, rk_len, List.length_append, turnI_len, List.append_assoc, List.length_cons, List.length_nil, turnI_app, Nat.zero_add, Nat.add_assoc] at e h26 h27 ⊢
      exact e h3 h4 h10 h11 h27 h26
    have hnum : ¬ (k = 3 ∨ k = 4 ∨ k = 10 ∨ k = 11) := by omega
    by_cases h5 : k = 5
    · have eB : encB k n s eb ef el = txL s.toList := by unfold encB; rw [if_neg hnum, if_pos h5]
      rw [eB] at ht
      have h28 := txt28 s hs true (b ++ turnI tn [classU k + 1]) tn dp (by simp [turnI_len]; omega)
      have e := @kvl_in_4 ckR nmE' txR enR k n s xb eb xf ef xl el w nn (rows b) tn dp b.length
      rw [eB]
      simp only [wrS, lit_one, turnC_rows, ← rk_app, rk_len, List.length_append, turnI_len, List.append_assoc, List.length_cons, List.length_nil, turnI_app, Nat.zero_add, Nat.add_assoc] at e h26 h28 ⊢
      exact e h3 h4 h10 h11 h5 h28 h26
    by_cases h9 : k = 9
    · have eB : encB k n s eb ef el = txL (GD.bytesOf eb).toList := by unfold encB; rw [if_neg hnum, if_neg h5, if_pos h9]
      rw [eB] at ht
      have hbl : eb = rows bs := hb
      have hsz : (GD.bytesOf eb).size ≤ maxLen := by
        have : (GD.bytesOf eb).size = eb.length := by simp [GD.bytesOf, ByteArray.size]
        omega
      have hall : eb.all isByteC = true := by rw [hbl]; exact allB_rows hb'
      have h28 := txt28 (GD.bytesOf eb) hsz true (b ++ turnI tn [classU k + 1]) tn dp (by simp [turnI_len]; omega)
      have e := @kvl_in_5 ckR nmE' txR enR k n s xb eb xf ef xl el w nn (rows b) tn dp b.length
      rw [eB]
      simp only [wrS, lit_one, turnC_rows, ← rk_app, rk_len, List.length_append, turnI_len, List.append_assoc, List.length_cons, List.length_nil, turnI_app, Nat.zero_add, Nat.add_assoc] at e h26 h28 ⊢
      exact e h3 h4 h10 h11 h5 h9 h28 hall h26
    by_cases h8 : k = 8
    · have hbl : eb = rows bs := hb
      have hbn : bs.length = eb.length := by rw [hbl, rk_len]
      have eB : encB k n s eb ef el = be 8 ((eb.length : Int) + 9223372036854775808) ++ bs := by unfold encB; rw [if_neg hnum, if_neg h5, if_neg h9, if_pos h8]; rw [hbl, bI_rows]
      rw [eB, List.length_append, be_len] at ht
      have h27 := num27 (eb.length : Int) (by omega) true (b ++ turnI tn [classU k + 1]) tn dp (by simp [turnI_len]; omega)
      have h29 := put29 xb bs true (b ++ turnI tn [classU k + 1] ++ turnI tn (be 8 ((eb.length : Int) + 9223372036854775808))) tn dp (by simp [turnI_len, be_len]; omega)
      have e := @kvl_in_6 ckR nmE' txR enR k n s xb eb xf ef xl el w nn (rows b) tn dp b.length
      rw [eB]
      rw [hbl] at e h27 ⊢
      rw [hbl] at h29
      simp only [be_len, Bool.true_or, wrS, lit_one, turnC_rows, ← rk_app, rk_len, List.length_append, turnI_len, List.append_assoc, List.length_cons, List.length_nil, turnI_app, Nat.zero_add, Nat.add_assoc] at e h26 h27 h29 ⊢
      exact e h3 h4 h10 h11 h5 h9 h8 h29 h27 h26
    by_cases h67 : k = 6 ∨ k = 7
    · have eB : encB k n s eb ef el = encFs ef ++ (encLs el ++ [0]) := by unfold encB; rw [if_neg hnum, if_neg h5, if_neg h9, if_neg h8, if_pos h67]
      have hkids : w ≤ 32 ∧ (∀ nm c, (D.str nm :: c) ∈ ef → ∃ q : Nat, WF q c ∧ w + 1 + q ≤ 33) ∧ (∀ r ∈ el, ∃ q : Nat, WF q r ∧ w + 1 + q ≤ 33) := by
        rcases hW with hz | ⟨q, hq, hwq⟩
        · exfalso
          have : k = 0 := hz
          omega
        · cases hq with
          | leaf _ _ _ _ _ _ _ _ hk => omega
          | doc q _ _ _ _ _ _ _ h => exact ⟨by omega, fun nm c hm => ⟨q, h nm c hm, by omega⟩, fun r hr => by cases hr⟩
          | list q _ _ _ _ _ _ _ h => exact ⟨by omega, fun nm c hm => (by cases hm), fun r hr => ⟨q, h r hr, by omega⟩⟩
      have hF : ∀ r ∈ ef, ∃ nm c, r = D.str nm :: c ∧ nm.size ≤ maxLen ∧ VS c ∧ ValOk c (w + 1) := by
        intro r hr
        obtain ⟨nm, c, rfl, hnm⟩ := hf r hr
        exact ⟨nm, c, rfl, hnm, hfv nm c hr, ihf nm c hr (w + 1) (by omega) (.inr (hkids.2.1 nm c hr))⟩
      have hL : ∀ r ∈ el, VS r ∧ ValOk r (w + 1) := fun r hr => ⟨hl r hr, ihl r hr (w + 1) (by omega) (.inr (hkids.2.2 r hr))⟩
      have g := vl_fields k n s xb eb xf ef xl el w lf ll ⟨hw0, by omega⟩ hF hL nn b tn dp ([classU k + 1] ++ encB k n s eb ef el) (by rw [List.length_append, hc1]; omega) ef.length 0 (by omega) [classU k + 1] (by rw [eB, List.drop_zero])
      have hw34 : ¬ w ≥ 34 := by omega
      by_cases h6 : k = 6
      · have e := @kvl_in_8 ckR nmE' txR enR k n s xb eb xf ef xl el w nn (rows b) tn dp b.length (.tuple []) (wrS true (b ++ turnI tn ([classU k + 1] ++ encB k n s eb ef el)) tn dp)
        simp only [wrS, lit_one, turnC_rows, ← rk_app, rk_len, List.length_append, turnI_len, List.append_assoc, List.length_cons, List.length_nil, turnI_app, Nat.zero_add, Nat.add_assoc] at e h26 g ⊢
        exact e h3 h4 h10 h11 h5 h9 h8 h6 hw34 h26 g
      · have h7 : k = 7 := by omega
        have e := @kvl_in_10 ckR nmE' txR enR k n s xb eb xf ef xl el w nn (rows b) tn dp b.length (.tuple []) (wrS true (b ++ turnI tn ([classU k + 1] ++ encB k n s eb ef el)) tn dp)
        simp only [wrS, lit_one, turnC_rows, ← rk_app, rk_len, List.length_append, turnI_len, List.append_assoc, List.length_cons, List.length_nil, turnI_app, Nat.zero_add, Nat.add_assoc] at e h26 g ⊢
        exact e h3 h4 h10 h11 h5 h9 h8 h6 h7 hw34 h26 g
    · have eB : encB k n s eb ef el = [] := by unfold encB; rw [if_neg hnum, if_neg h5, if_neg h9, if_neg h8, if_neg h67]
      have e := @kvl_in_11 ckR nmE' txR enR k n s xb eb xf ef xl el w nn (rows b) tn dp b.length
      rw [eB, List.append_nil]
      simp only [wrS, lit_one, turnC_rows, ← rk_app, rk_len, List.length_append, turnI_len, List.append_assoc, List.length_cons, List.length_nil, turnI_app, Nat.zero_add, Nat.add_assoc] at e h26 ⊢
      exact e h3 h4 h10 h11 h5 h9 h8 (by omega) (by omega) h26

end Go.Proofs.Ytlccdfilbiipmaa.ordk
