/- Texts that are utf-8: one plain law for the program's way and the reference's. -/
import Derived.Test.YtlccdfilbiipmaaDoorPwU
import Derived.Lib.ValidLaws
namespace Go.Proofs.YtlccdfilbiipmaaDoor.ordk
open Go YtlccdfilbiipmaaDoor.GD
set_option linter.unusedVariables false
set_option linter.unusedSimpArgs false
set_option maxRecDepth 100000

/-- A byte of a text. -/
def bt (s : ByteArray) (i : Nat) : Nat := (s.data.getD i (0 : UInt8)).toNat
/-- Is what is left from a place on utf-8? -/
def vd (s : ByteArray) (i : Nat) : Bool := Lib.validD (s.data.toList.drop i)
/-- The bytes from the k-th on, of one sign, go on, and so does what is behind. -/
noncomputable def cont (s : ByteArray) (i n k : Nat) : Bool := @decide (∀ j, k ≤ j → j ≤ n → 128 ≤ bt s (i + j) ∧ bt s (i + j) ≤ 191) (Classical.propDecidable _) && vd s (i + n + 1)

theorem bt_lt (s : ByteArray) (i : Nat) : bt s i < 256 := (s.data.getD i (0 : UInt8)).toNat_lt
theorem bt_drop (s : ByteArray) (i j : Nat) : ((s.data.toList.drop i).getD j 0).toNat = bt s (i + j) := by
  unfold bt
  rw [List.getD_eq_getElem?_getD, List.getElem?_drop, ← List.getD_eq_getElem?_getD]
  simp [Array.getD_eq_getD_getElem?, List.getD_eq_getElem?_getD]
theorem vd_end {s : ByteArray} {i : Nat} (h : s.size ≤ i) : vd s i = true := by
  unfold vd
  rw [List.drop_eq_nil_of_le (by simpa using h)]
  rfl
theorem vd_ascii {s : ByteArray} {i : Nat} (h : i < s.size) (hc : bt s i < 128) : vd s i = vd s (i + 1) := by
  unfold vd
  have hl : i < s.data.toList.length := by simpa using h
  rw [List.drop_eq_getElem_cons hl, Lib.validD_cons _ _ (by
    have := bt_drop s i 0
    rw [List.drop_eq_getElem_cons hl] at this
    simp only [List.getD_cons_zero, Nat.add_zero] at this
    rw [this]; exact hc)]
theorem vd_lead {s : ByteArray} {i : Nat} (h : i < s.size) (hc : 128 ≤ bt s i) :
    vd s i = match Lib.checkN (s.size - i) (bt s (i + 1)) (bt s (i + 2)) (bt s (i + 3)) (Lib.firstT (bt s i) % 8) (Lib.accLo (Lib.firstT (bt s i) / 16)) (Lib.accHi (Lib.firstT (bt s i) / 16)) with
      | none => false
      | some k => vd s (i + k) := by
  have hl : i < s.data.toList.length := by simpa using h
  have h0 := bt_drop s i 0
  unfold vd
  rw [Lib.validD_lead _ (by intro e; rw [List.drop_eq_nil_iff] at e; omega) (by rw [h0]; exact hc), bt_drop, bt_drop, bt_drop, h0]
  have hlen : (s.data.toList.drop i).length = s.size - i := by rw [List.length_drop, Array.length_toList]; rfl
  rw [hlen]
  split
  · rename_i e; simp only [Nat.add_zero] at e; rw [e]
  · rename_i k e; simp only [Nat.add_zero] at e; simp only [e, List.drop_drop]

theorem cont_end {s : ByteArray} {i n k : Nat} (h : n < k) : cont s i n k = vd s (i + n + 1) := by
  unfold cont
  rw [@decide_eq_true _ (Classical.propDecidable _) (by intro j h1 h2; omega), Bool.true_and]
theorem cont_step {s : ByteArray} {i n k : Nat} (h : k ≤ n) (hb : 128 ≤ bt s (i + k) ∧ bt s (i + k) ≤ 191) : cont s i n k = cont s i n (k + 1) := by
  unfold cont
  congr 1
  rw [@decide_eq_decide _ _ (Classical.propDecidable _) (Classical.propDecidable _)]
  constructor
  · intro g j h1 h2; exact g j (by omega) h2
  · intro g j h1 h2
    by_cases e : j = k
    · subst e; exact hb
    · exact g j (by omega) h2
theorem cont_bad {s : ByteArray} {i n k : Nat} (h : k ≤ n) (hb : ¬ (128 ≤ bt s (i + k) ∧ bt s (i + k) ≤ 191)) : false = cont s i n k := by
  unfold cont
  rw [@decide_eq_false _ (Classical.propDecidable _) (by intro g; exact hb (g k (Nat.le_refl _) h)), Bool.false_and]

/-- What a lead byte asks for: how many bytes behind it, and between what the first of them lies. -/
def Cls (c n lo hi : Nat) : Prop := 128 ≤ c ∧ Lib.firstT c % 8 = n + 1 ∧ Lib.accLo (Lib.firstT c / 16) = lo ∧ Lib.accHi (Lib.firstT c / 16) = hi

theorem vd_cls {s : ByteArray} {i n lo hi : Nat} (h : i < s.size) (hn : 1 ≤ n) (hn3 : n ≤ 3) (hc : Cls (bt s i) n lo hi) :
    vd s i = (decide (i + n < s.size ∧ lo ≤ bt s (i + 1) ∧ bt s (i + 1) ≤ hi) && cont s i n 2) := by
  obtain ⟨c0, c1, c2, c3⟩ := hc
  rw [vd_lead h c0, c1, c2, c3]
  obtain rfl | rfl | rfl : n = 1 ∨ n = 2 ∨ n = 3 := by omega
  · by_cases hq : i + 1 < s.size ∧ lo ≤ bt s (i + 1) ∧ bt s (i + 1) ≤ hi
    · rw [decide_eq_true hq, Bool.true_and, cont_end (by omega)]
      simp only [Lib.checkN]
      rw [if_pos trivial, if_neg (by omega)]
    · rw [decide_eq_false hq, Bool.false_and]
      simp only [Lib.checkN]
      rw [if_pos trivial, if_pos (by omega)]
  · by_cases hq : i + 2 < s.size ∧ lo ≤ bt s (i + 1) ∧ bt s (i + 1) ≤ hi
    · rw [decide_eq_true hq, Bool.true_and]
      simp only [Lib.checkN]
      by_cases h2 : 128 ≤ bt s (i + 2) ∧ bt s (i + 2) ≤ 191
      · rw [cont_step (by omega) h2, cont_end (by omega), if_neg (by omega), if_pos trivial, if_neg (by omega)]
      · rw [← cont_bad (by omega) h2, if_neg (by omega), if_pos trivial, if_pos (by omega)]
    · rw [decide_eq_false hq, Bool.false_and]
      simp only [Lib.checkN]
      rw [if_neg (by omega), if_pos trivial, if_pos (by omega)]
  · by_cases hq : i + 3 < s.size ∧ lo ≤ bt s (i + 1) ∧ bt s (i + 1) ≤ hi
    · rw [decide_eq_true hq, Bool.true_and]
      simp only [Lib.checkN]
      by_cases h2 : 128 ≤ bt s (i + 2) ∧ bt s (i + 2) ≤ 191
      · rw [cont_step (by omega) h2]
        by_cases h3 : 128 ≤ bt s (i + 3) ∧ bt s (i + 3) ≤ 191
        · rw [cont_step (by omega) h3, cont_end (by omega), if_neg (by omega), if_neg (by omega), if_pos trivial, if_neg (by omega)]
        · rw [← cont_bad (by omega) h3, if_neg (by omega), if_neg (by omega), if_pos trivial, if_pos (by omega)]
      · rw [← cont_bad (by omega) h2, if_neg (by omega), if_neg (by omega), if_pos trivial, if_pos (by omega)]
    · rw [decide_eq_false hq, Bool.false_and]
      simp only [Lib.checkN]
      rw [if_neg (by omega), if_neg (by omega), if_pos trivial, if_pos (by omega)]
theorem vd_no {s : ByteArray} {i n lo hi : Nat} (h : i < s.size) (hn : 1 ≤ n) (hn3 : n ≤ 3) (hc : Cls (bt s i) n lo hi) (hq : ¬ (i + n < s.size ∧ lo ≤ bt s (i + 1) ∧ bt s (i + 1) ≤ hi)) : false = vd s i := by
  rw [vd_cls h hn hn3 hc, decide_eq_false hq, Bool.false_and]
theorem vd_yes {s : ByteArray} {i n lo hi : Nat} (h : i < s.size) (hn : 1 ≤ n) (hn3 : n ≤ 3) (hc : Cls (bt s i) n lo hi) (hq : i + n < s.size ∧ lo ≤ bt s (i + 1) ∧ bt s (i + 1) ≤ hi) : cont s i n 2 = vd s i := by
  rw [vd_cls h hn hn3 hc, decide_eq_true hq, Bool.true_and]
/-- Bytes that lead nothing. -/
theorem vd_bad {s : ByteArray} {i : Nat} (h : i < s.size) (h0 : 128 ≤ bt s i) (hq : bt s i < 194 ∨ 244 < bt s i) : false = vd s i := by
  rw [vd_lead h h0]
  have e : Lib.firstT (bt s i) = 241 := by
    unfold Lib.firstT
    repeat' split
    all_goals first | rfl | omega
  rw [e]
  rfl
theorem cls1 {c : Nat} (h1 : 194 ≤ c) (h2 : c ≤ 223) : Cls c 1 128 191 := by
  have e : Lib.firstT c = 2 := by
    unfold Lib.firstT
    repeat' split
    all_goals first | rfl | omega
  exact ⟨by omega, by rw [e], by rw [e]; rfl, by rw [e]; rfl⟩
theorem cls2a {c : Nat} (h : c = 224) : Cls c 2 160 191 := by subst h; exact ⟨by decide, by decide, by decide, by decide⟩
theorem cls2b {c : Nat} (h : c = 237) : Cls c 2 128 159 := by subst h; exact ⟨by decide, by decide, by decide, by decide⟩
theorem cls2c {c : Nat} (h1 : 225 ≤ c) (h2 : c ≤ 239) (h3 : c ≠ 237) : Cls c 2 128 191 := by
  have e : Lib.firstT c = 3 := by
    unfold Lib.firstT
    repeat' split
    all_goals first | rfl | omega
  exact ⟨by omega, by rw [e], by rw [e]; rfl, by rw [e]; rfl⟩
theorem cls3a {c : Nat} (h : c = 240) : Cls c 3 144 191 := by subst h; exact ⟨by decide, by decide, by decide, by decide⟩
theorem cls3b {c : Nat} (h : c = 244) : Cls c 3 128 143 := by subst h; exact ⟨by decide, by decide, by decide, by decide⟩
theorem cls3c {c : Nat} (h1 : 241 ≤ c) (h2 : c ≤ 243) : Cls c 3 128 191 := by
  have e : Lib.firstT c = 4 := by
    unfold Lib.firstT
    repeat' split
    all_goals first | rfl | omega
  exact ⟨by omega, by rw [e], by rw [e]; rfl, by rw [e]; rfl⟩

theorem and192 : ∀ b : Fin 256, (andW IntKind.u8 (b.val : Int) (192 : Int) = (128 : Int)) ↔ (128 ≤ b.val ∧ b.val ≤ 191) := by decide +kernel
theorem utf_val (s : ByteArray) (hs : s.size ≤ maxLen) : ∀ (m i : Nat), i + m = s.size → ∃ b, utf_at0 s i (.bool b) [] ∧ b = vd s i := by
  intro m
  induction m using Nat.strongRecOn with
  | _ m ih =>
  intro i hi
  have hmx : maxLen ≤ 9223372036854775807 := by decide
  have hc0 : ((s.data.getD ((i : Int)).toNat (0 : UInt8)).toNat : Int) = (bt s i : Int) := rfl
  by_cases h0 : (i : Int) < (s.size : Int)
  · have hin : i < s.size := by omega
    have w1 : IntKind.i64.wrap ((i : Int) + (1 : Int)) = (i : Int) + 1 := wrap_i64 (by omega)
    have hc1 : ((s.data.getD (IntKind.i64.wrap ((i : Int) + (1 : Int))).toNat (0 : UInt8)).toNat : Int) = (bt s (i + 1) : Int) := by rw [w1]; rfl
    have w2 : IntKind.i64.wrap ((s.size : Int) - (i : Int)) = (s.size : Int) - (i : Int) := wrap_i64 (by omega)
    have w3 : IntKind.i64.wrap (IntKind.i64.wrap ((s.size : Int) - (i : Int)) - (1 : Int)) = (s.size : Int) - (i : Int) - 1 := by rw [w2]; exact wrap_i64 (by omega)
    have key : ∀ n : Nat, n ≤ 3 → i + n < s.size → ∀ q k : Nat, k + q = n + 1 → ∃ b, utf_at1 s i n k (.bool b) [] ∧ b = cont s i n k := by
      intro n hn hin q
      induction q with
      | zero =>
        intro k hk
        obtain ⟨b, g, e⟩ := ih (s.size - (i + n + 1)) (by omega) (i + n + 1) (by omega)
        have e1 : IntKind.i64.wrap ((i : Int) + (n : Int)) = (i : Int) + n := wrap_i64 (by omega)
        have e2 : IntKind.i64.wrap (IntKind.i64.wrap ((i : Int) + (n : Int)) + (1 : Int)) = ((i + n + 1 : Nat) : Int) := by rw [e1, wrap_i64 (by omega)]; omega
        rw [← e2] at g
        exact ⟨b, utf_1_2 (by omega) g, e.trans (cont_end (by omega)).symm⟩
      | succ q ihq =>
        intro k hk
        have e1 : IntKind.i64.wrap ((i : Int) + (k : Int)) = (i : Int) + k := wrap_i64 (by omega)
        have hck : ((s.data.getD (IntKind.i64.wrap ((i : Int) + (k : Int))).toNat (0 : UInt8)).toNat : Int) = (bt s (i + k) : Int) := by rw [e1]; rfl
        have hand := and192 ⟨bt s (i + k), bt_lt s _⟩
        simp only at hand
        by_cases ha : andW IntKind.u8 ((s.data.getD (IntKind.i64.wrap ((i : Int) + (k : Int))).toNat (0 : UInt8)).toNat : Int) (192 : Int) = (128 : Int)
        · obtain ⟨b, g, e⟩ := ihq (k + 1) (by omega)
          have e2 : IntKind.i64.wrap ((k : Int) + (1 : Int)) = ((k + 1 : Nat) : Int) := by rw [wrap_i64 (by omega)]; omega
          rw [← e2] at g
          exact ⟨b, utf_1_1 (by omega) ha (by omega) g, e.trans (cont_step (by omega) (hand.1 (by rw [← hck]; exact ha))).symm⟩
        · exact ⟨_, utf_1_0 (by omega) ha (by omega), cont_bad (by omega) (fun hb => ha (by rw [hck]; exact hand.2 hb))⟩
    by_cases c1 : ((s.data.getD ((i : Int)).toNat (0 : UInt8)).toNat : Int) < (128 : Int)
    · obtain ⟨b, g, e⟩ := ih (s.size - (i + 1)) (by omega) (i + 1) (by omega)
      have e2 : IntKind.i64.wrap ((i : Int) + (1 : Int)) = ((i + 1 : Nat) : Int) := by omega
      rw [← e2] at g
      exact ⟨b, utf_0_0 (by omega) c1 (by omega) g, e.trans (vd_ascii hin (by omega)).symm⟩
    · by_cases c2 : ((s.data.getD ((i : Int)).toNat (0 : UInt8)).toNat : Int) ≥ (194 : Int)
      · by_cases c3 : ((s.data.getD ((i : Int)).toNat (0 : UInt8)).toNat : Int) ≤ (223 : Int)
        · by_cases r1 : IntKind.i64.wrap (IntKind.i64.wrap ((s.size : Int) - (i : Int)) - (1 : Int)) < (1 : Int)
          · exact ⟨_, utf_0_1 (by omega) (by omega) (by omega) (by omega) (by omega) (by omega), vd_no (n := 1) (lo := 128) (hi := 191) hin (by omega) (by omega) (cls1 (by omega) (by omega)) (by omega)⟩
          · by_cases r2 : ((s.data.getD (IntKind.i64.wrap ((i : Int) + (1 : Int))).toNat (0 : UInt8)).toNat : Int) < (128 : Int)
            · exact ⟨_, utf_0_2 (by omega) (by omega) (by omega) (by omega) (by omega) (by omega) (by omega) (by omega), vd_no (n := 1) (lo := 128) (hi := 191) hin (by omega) (by omega) (cls1 (by omega) (by omega)) (by omega)⟩
            · by_cases r3 : ((s.data.getD (IntKind.i64.wrap ((i : Int) + (1 : Int))).toNat (0 : UInt8)).toNat : Int) > (191 : Int)
              · exact ⟨_, utf_0_3 (by omega) (by omega) (by omega) (by omega) (by omega) (by omega) (by omega) (by omega) (by omega), vd_no (n := 1) (lo := 128) (hi := 191) hin (by omega) (by omega) (cls1 (by omega) (by omega)) (by omega)⟩
              · obtain ⟨b, g, e⟩ := key 1 (by omega) (by omega) 0 2 (by omega)
                exact ⟨b, utf_0_4 (by omega) (by omega) (by omega) (by omega) (by omega) (by omega) (by omega) (by omega) (by omega) g, e.trans (vd_yes hin (by omega) (by omega) (cls1 (by omega) (by omega)) (by omega))⟩
        · by_cases c4 : ((s.data.getD ((i : Int)).toNat (0 : UInt8)).toNat : Int) ≤ (239 : Int)
          · by_cases c5 : ((s.data.getD ((i : Int)).toNat (0 : UInt8)).toNat : Int) = (224 : Int)
            · skip
              by_cases r1 : IntKind.i64.wrap (IntKind.i64.wrap ((s.size : Int) - (i : Int)) - (1 : Int)) < (2 : Int)
              · exact ⟨_, utf_0_5 (by omega) (by omega) (by omega) (by omega) (by omega) (by omega) (by omega) (by omega) (by omega) (by omega), vd_no (n := 2) (lo := 160) (hi := 191) hin (by omega) (by omega) (cls2a (by omega)) (by omega)⟩
              · by_cases r2 : ((s.data.getD (IntKind.i64.wrap ((i : Int) + (1 : Int))).toNat (0 : UInt8)).toNat : Int) < (160 : Int)
                · exact ⟨_, utf_0_6 (by omega) (by omega) (by omega) (by omega) (by omega) (by omega) (by omega) (by omega) (by omega) (by omega) (by omega) (by omega), vd_no (n := 2) (lo := 160) (hi := 191) hin (by omega) (by omega) (cls2a (by omega)) (by omega)⟩
                · by_cases r3 : ((s.data.getD (IntKind.i64.wrap ((i : Int) + (1 : Int))).toNat (0 : UInt8)).toNat : Int) > (191 : Int)
                  · exact ⟨_, utf_0_7 (by omega) (by omega) (by omega) (by omega) (by omega) (by omega) (by omega) (by omega) (by omega) (by omega) (by omega) (by omega) (by omega), vd_no (n := 2) (lo := 160) (hi := 191) hin (by omega) (by omega) (cls2a (by omega)) (by omega)⟩
                  · obtain ⟨b, g, e⟩ := key 2 (by omega) (by omega) 1 2 (by omega)
                    exact ⟨b, utf_0_8 (by omega) (by omega) (by omega) (by omega) (by omega) (by omega) (by omega) (by omega) (by omega) (by omega) (by omega) (by omega) (by omega) g, e.trans (vd_yes hin (by omega) (by omega) (cls2a (by omega)) (by omega))⟩
            · by_cases c6 : ((s.data.getD ((i : Int)).toNat (0 : UInt8)).toNat : Int) = (237 : Int)
              · skip
                by_cases r1 : IntKind.i64.wrap (IntKind.i64.wrap ((s.size : Int) - (i : Int)) - (1 : Int)) < (2 : Int)
                · exact ⟨_, utf_0_9 (by omega) (by omega) (by omega) (by omega) (by omega) (by omega) (by omega) (by omega) (by omega) (by omega), vd_no (n := 2) (lo := 128) (hi := 159) hin (by omega) (by omega) (cls2b (by omega)) (by omega)⟩
                · by_cases r2 : ((s.data.getD (IntKind.i64.wrap ((i : Int) + (1 : Int))).toNat (0 : UInt8)).toNat : Int) < (128 : Int)
                  · exact ⟨_, utf_0_10 (by omega) (by omega) (by omega) (by omega) (by omega) (by omega) (by omega) (by omega) (by omega) (by omega) (by omega) (by omega), vd_no (n := 2) (lo := 128) (hi := 159) hin (by omega) (by omega) (cls2b (by omega)) (by omega)⟩
                  · by_cases r3 : ((s.data.getD (IntKind.i64.wrap ((i : Int) + (1 : Int))).toNat (0 : UInt8)).toNat : Int) > (159 : Int)
                    · exact ⟨_, utf_0_11 (by omega) (by omega) (by omega) (by omega) (by omega) (by omega) (by omega) (by omega) (by omega) (by omega) (by omega) (by omega) (by omega), vd_no (n := 2) (lo := 128) (hi := 159) hin (by omega) (by omega) (cls2b (by omega)) (by omega)⟩
                    · obtain ⟨b, g, e⟩ := key 2 (by omega) (by omega) 1 2 (by omega)
                      exact ⟨b, utf_0_12 (by omega) (by omega) (by omega) (by omega) (by omega) (by omega) (by omega) (by omega) (by omega) (by omega) (by omega) (by omega) (by omega) g, e.trans (vd_yes hin (by omega) (by omega) (cls2b (by omega)) (by omega))⟩
              · skip
                by_cases r1 : IntKind.i64.wrap (IntKind.i64.wrap ((s.size : Int) - (i : Int)) - (1 : Int)) < (2 : Int)
                · exact ⟨_, utf_0_13 (by omega) (by omega) (by omega) (by omega) (by omega) (by omega) (by omega) (by omega) (by omega) (by omega), vd_no (n := 2) (lo := 128) (hi := 191) hin (by omega) (by omega) (cls2c (by omega) (by omega) (by omega)) (by omega)⟩
                · by_cases r2 : ((s.data.getD (IntKind.i64.wrap ((i : Int) + (1 : Int))).toNat (0 : UInt8)).toNat : Int) < (128 : Int)
                  · exact ⟨_, utf_0_14 (by omega) (by omega) (by omega) (by omega) (by omega) (by omega) (by omega) (by omega) (by omega) (by omega) (by omega) (by omega), vd_no (n := 2) (lo := 128) (hi := 191) hin (by omega) (by omega) (cls2c (by omega) (by omega) (by omega)) (by omega)⟩
                  · by_cases r3 : ((s.data.getD (IntKind.i64.wrap ((i : Int) + (1 : Int))).toNat (0 : UInt8)).toNat : Int) > (191 : Int)
                    · exact ⟨_, utf_0_15 (by omega) (by omega) (by omega) (by omega) (by omega) (by omega) (by omega) (by omega) (by omega) (by omega) (by omega) (by omega) (by omega), vd_no (n := 2) (lo := 128) (hi := 191) hin (by omega) (by omega) (cls2c (by omega) (by omega) (by omega)) (by omega)⟩
                    · obtain ⟨b, g, e⟩ := key 2 (by omega) (by omega) 1 2 (by omega)
                      exact ⟨b, utf_0_16 (by omega) (by omega) (by omega) (by omega) (by omega) (by omega) (by omega) (by omega) (by omega) (by omega) (by omega) (by omega) (by omega) g, e.trans (vd_yes hin (by omega) (by omega) (cls2c (by omega) (by omega) (by omega)) (by omega))⟩
          · by_cases c7 : ((s.data.getD ((i : Int)).toNat (0 : UInt8)).toNat : Int) ≤ (244 : Int)
            · by_cases c8 : ((s.data.getD ((i : Int)).toNat (0 : UInt8)).toNat : Int) = (240 : Int)
              · skip
                by_cases r1 : IntKind.i64.wrap (IntKind.i64.wrap ((s.size : Int) - (i : Int)) - (1 : Int)) < (3 : Int)
                · exact ⟨_, utf_0_17 (by omega) (by omega) (by omega) (by omega) (by omega) (by omega) (by omega) (by omega) (by omega) (by omega) (by omega) (by omega), vd_no (n := 3) (lo := 144) (hi := 191) hin (by omega) (by omega) (cls3a (by omega)) (by omega)⟩
                · by_cases r2 : ((s.data.getD (IntKind.i64.wrap ((i : Int) + (1 : Int))).toNat (0 : UInt8)).toNat : Int) < (144 : Int)
                  · exact ⟨_, utf_0_18 (by omega) (by omega) (by omega) (by omega) (by omega) (by omega) (by omega) (by omega) (by omega) (by omega) (by omega) (by omega) (by omega) (by omega), vd_no (n := 3) (lo := 144) (hi := 191) hin (by omega) (by omega) (cls3a (by omega)) (by omega)⟩
                  · by_cases r3 : ((s.data.getD (IntKind.i64.wrap ((i : Int) + (1 : Int))).toNat (0 : UInt8)).toNat : Int) > (191 : Int)
                    · exact ⟨_, utf_0_19 (by omega) (by omega) (by omega) (by omega) (by omega) (by omega) (by omega) (by omega) (by omega) (by omega) (by omega) (by omega) (by omega) (by omega) (by omega), vd_no (n := 3) (lo := 144) (hi := 191) hin (by omega) (by omega) (cls3a (by omega)) (by omega)⟩
                    · obtain ⟨b, g, e⟩ := key 3 (by omega) (by omega) 2 2 (by omega)
                      exact ⟨b, utf_0_20 (by omega) (by omega) (by omega) (by omega) (by omega) (by omega) (by omega) (by omega) (by omega) (by omega) (by omega) (by omega) (by omega) (by omega) (by omega) g, e.trans (vd_yes hin (by omega) (by omega) (cls3a (by omega)) (by omega))⟩
              · by_cases c9 : ((s.data.getD ((i : Int)).toNat (0 : UInt8)).toNat : Int) = (244 : Int)
                · skip
                  by_cases r1 : IntKind.i64.wrap (IntKind.i64.wrap ((s.size : Int) - (i : Int)) - (1 : Int)) < (3 : Int)
                  · exact ⟨_, utf_0_21 (by omega) (by omega) (by omega) (by omega) (by omega) (by omega) (by omega) (by omega) (by omega) (by omega) (by omega) (by omega), vd_no (n := 3) (lo := 128) (hi := 143) hin (by omega) (by omega) (cls3b (by omega)) (by omega)⟩
                  · by_cases r2 : ((s.data.getD (IntKind.i64.wrap ((i : Int) + (1 : Int))).toNat (0 : UInt8)).toNat : Int) < (128 : Int)
                    · exact ⟨_, utf_0_22 (by omega) (by omega) (by omega) (by omega) (by omega) (by omega) (by omega) (by omega) (by omega) (by omega) (by omega) (by omega) (by omega) (by omega), vd_no (n := 3) (lo := 128) (hi := 143) hin (by omega) (by omega) (cls3b (by omega)) (by omega)⟩
                    · by_cases r3 : ((s.data.getD (IntKind.i64.wrap ((i : Int) + (1 : Int))).toNat (0 : UInt8)).toNat : Int) > (143 : Int)
                      · exact ⟨_, utf_0_23 (by omega) (by omega) (by omega) (by omega) (by omega) (by omega) (by omega) (by omega) (by omega) (by omega) (by omega) (by omega) (by omega) (by omega) (by omega), vd_no (n := 3) (lo := 128) (hi := 143) hin (by omega) (by omega) (cls3b (by omega)) (by omega)⟩
                      · obtain ⟨b, g, e⟩ := key 3 (by omega) (by omega) 2 2 (by omega)
                        exact ⟨b, utf_0_24 (by omega) (by omega) (by omega) (by omega) (by omega) (by omega) (by omega) (by omega) (by omega) (by omega) (by omega) (by omega) (by omega) (by omega) (by omega) g, e.trans (vd_yes hin (by omega) (by omega) (cls3b (by omega)) (by omega))⟩
                · skip
                  by_cases r1 : IntKind.i64.wrap (IntKind.i64.wrap ((s.size : Int) - (i : Int)) - (1 : Int)) < (3 : Int)
                  · exact ⟨_, utf_0_25 (by omega) (by omega) (by omega) (by omega) (by omega) (by omega) (by omega) (by omega) (by omega) (by omega) (by omega) (by omega), vd_no (n := 3) (lo := 128) (hi := 191) hin (by omega) (by omega) (cls3c (by omega) (by omega)) (by omega)⟩
                  · by_cases r2 : ((s.data.getD (IntKind.i64.wrap ((i : Int) + (1 : Int))).toNat (0 : UInt8)).toNat : Int) < (128 : Int)
                    · exact ⟨_, utf_0_26 (by omega) (by omega) (by omega) (by omega) (by omega) (by omega) (by omega) (by omega) (by omega) (by omega) (by omega) (by omega) (by omega) (by omega), vd_no (n := 3) (lo := 128) (hi := 191) hin (by omega) (by omega) (cls3c (by omega) (by omega)) (by omega)⟩
                    · by_cases r3 : ((s.data.getD (IntKind.i64.wrap ((i : Int) + (1 : Int))).toNat (0 : UInt8)).toNat : Int) > (191 : Int)
                      · exact ⟨_, utf_0_27 (by omega) (by omega) (by omega) (by omega) (by omega) (by omega) (by omega) (by omega) (by omega) (by omega) (by omega) (by omega) (by omega) (by omega) (by omega), vd_no (n := 3) (lo := 128) (hi := 191) hin (by omega) (by omega) (cls3c (by omega) (by omega)) (by omega)⟩
                      · obtain ⟨b, g, e⟩ := key 3 (by omega) (by omega) 2 2 (by omega)
                        exact ⟨b, utf_0_28 (by omega) (by omega) (by omega) (by omega) (by omega) (by omega) (by omega) (by omega) (by omega) (by omega) (by omega) (by omega) (by omega) (by omega) (by omega) g, e.trans (vd_yes hin (by omega) (by omega) (cls3c (by omega) (by omega)) (by omega))⟩
            · exact ⟨_, utf_0_29 (by omega) (by omega) (by omega) (by omega) (by omega) (by omega) (by omega) (by omega) (by omega), vd_bad hin (by omega) (by omega)⟩
      · exact ⟨_, utf_0_30 (by omega) (by omega) (by omega) (by omega) (by omega) (by omega), vd_bad hin (by omega) (by omega)⟩
  · exact ⟨_, utf_0_31 (by omega), (vd_end (by omega)).symm⟩
/-- The reference's Utf8. -/
theorem utf_is (s : ByteArray) (hs : s.size ≤ maxLen) : Ret P T 31 [.str s] [] (.bool (vd s 0)) [] := by
  obtain ⟨b, g, e⟩ := utf_val s hs s.size 0 (by omega)
  subst e
  exact utf_in_0 g

end Go.Proofs.YtlccdfilbiipmaaDoor.ordk
