/- utf8.ValidString hands back whether a text is utf-8. -/
import Derived.Test.YtlccdfilbiipmaaDoorPwVs
import Derived.Test.YtlccdfilbiipmaaDoorPwPl
namespace Go.Proofs.YtlccdfilbiipmaaDoor.ordk
open Go YtlccdfilbiipmaaDoor.GD
set_option linter.unusedVariables false
set_option linter.unusedSimpArgs false
set_option maxRecDepth 100000

/-! ### words of eight bytes -/
theorem u64_toNat (x : BitVec 64) : IntKind.u64.wrap (x.toNat : Int) = (x.toNat : Int) := by
  have := x.isLt
  simp only [IntKind.wrap, IntKind.signed, IntKind.bits, Bool.false_and]
  rw [if_neg (by decide)]
  omega
theorem or_bv (a b : Int) : BitVec.ofInt 64 (orW .u64 a b) = BitVec.ofInt 64 a ||| BitVec.ofInt 64 b := by
  show BitVec.ofInt 64 (IntKind.u64.wrap ((BitVec.ofInt 64 a ||| BitVec.ofInt 64 b).toNat : Int)) = _
  rw [u64_toNat]
  apply BitVec.eq_of_toNat_eq
  rw [BitVec.toNat_ofInt]
  have := (BitVec.ofInt 64 a ||| BitVec.ofInt 64 b).isLt
  omega
theorem and_bv {a b : Int} (h : andW .u64 a b = 0) : BitVec.ofInt 64 a &&& BitVec.ofInt 64 b = 0#64 := by
  have h' : IntKind.u64.wrap ((BitVec.ofInt 64 a &&& BitVec.ofInt 64 b).toNat : Int) = 0 := h
  rw [u64_toNat] at h'
  exact BitVec.eq_of_toNat_eq (by simpa using h')
theorem bv_or {x y m : BitVec 64} (h : (x ||| y) &&& m = 0#64) : x &&& m = 0#64 ∧ y &&& m = 0#64 := by
  have h2 := congrArg BitVec.toNat h
  rw [BitVec.toNat_and, BitVec.toNat_or, Nat.and_or_distrib_right] at h2
  have h3 := Nat.or_eq_zero_iff.1 h2
  exact ⟨BitVec.eq_of_toNat_eq (by rw [BitVec.toNat_and]; exact h3.1), BitVec.eq_of_toNat_eq (by rw [BitVec.toNat_and]; exact h3.2)⟩
def hiB : BitVec 64 := BitVec.ofInt 64 9259542123273814144
theorem byte0 : ∀ c : Fin 256, BitVec.ofInt 64 (IntKind.u64.wrap (c.val : Int)) &&& hiB = 0#64 → c.val < 128 := by decide +kernel
theorem byteK : ∀ (k : Fin 8) (c : Fin 256), BitVec.ofInt 64 (IntKind.u64.wrap (IntKind.u64.wrap (c.val : Int) * (2 : Int) ^ (8 * k.val))) &&& hiB = 0#64 → c.val < 128 := by decide +kernel
/-- A part of a word. -/
def wB (s : ByteArray) (k : Nat) : Int := IntKind.u64.wrap (IntKind.u64.wrap (bt s k : Int) * (2 : Int) ^ (8 * k))
/-- What eight bytes spell. -/
def wd8 (s : ByteArray) : Int := orW .u64 (orW .u64 (orW .u64 (orW .u64 (orW .u64 (orW .u64 (orW .u64 (IntKind.u64.wrap (bt s 0 : Int)) (wB s 1)) (wB s 2)) (wB s 3)) (wB s 4)) (wB s 5)) (wB s 6)) (wB s 7)
theorem word43 (s : ByteArray) (h : 8 ≤ s.size) : Ret P T 43 [.str s] [] (.int .u64 (wd8 s)) [] :=
  wrd_in_0 (by omega) (by omega) (by omega) (by omega) (by omega) (by omega) (by omega) (by omega)
def Low8 (s : ByteArray) : Prop := BitVec.ofInt 64 (wd8 s) &&& hiB = 0#64
theorem low8 {s : ByteArray} (h : Low8 s) : ∀ k, k < 8 → bt s k < 128 := by
  unfold Low8 wd8 at h
  rw [or_bv] at h
  obtain ⟨h, g7⟩ := bv_or h
  rw [or_bv] at h
  obtain ⟨h, g6⟩ := bv_or h
  rw [or_bv] at h
  obtain ⟨h, g5⟩ := bv_or h
  rw [or_bv] at h
  obtain ⟨h, g4⟩ := bv_or h
  rw [or_bv] at h
  obtain ⟨h, g3⟩ := bv_or h
  rw [or_bv] at h
  obtain ⟨h, g2⟩ := bv_or h
  rw [or_bv] at h
  obtain ⟨g0, g1⟩ := bv_or h
  have b := fun k => bt_lt s k
  intro k hk
  match k, hk with
  | 0, _ => exact byte0 ⟨_, b 0⟩ g0
  | 1, _ => exact byteK 1 ⟨_, b 1⟩ g1
  | 2, _ => exact byteK 2 ⟨_, b 2⟩ g2
  | 3, _ => exact byteK 3 ⟨_, b 3⟩ g3
  | 4, _ => exact byteK 4 ⟨_, b 4⟩ g4
  | 5, _ => exact byteK 5 ⟨_, b 5⟩ g5
  | 6, _ => exact byteK 6 ⟨_, b 6⟩ g6
  | 7, _ => exact byteK 7 ⟨_, b 7⟩ g7
theorem vd_skip {s : ByteArray} : ∀ (n i : Nat), i + n ≤ s.size → (∀ k, k < n → bt s (i + k) < 128) → vd s i = vd s (i + n) := by
  intro n
  induction n with
  | zero => intro i _ _; rfl
  | succ n ih =>
    intro i h1 h2
    rw [vd_ascii (by omega) (by have := h2 0 (by omega); simpa using this), ih (i + 1) (by omega) (fun k hk => by
      have := h2 (k + 1) (by omega)
      rwa [show i + (k + 1) = i + 1 + k by omega] at this)]
    rw [show i + (n + 1) = i + 1 + n by omega]
theorem vd_ext (s : ByteArray) (k : Nat) : vd (s.extract k s.size) 0 = vd s k := by
  unfold vd
  have : (s.extract k s.size).data.toList = s.data.toList.drop k := by
    have := bs_ext s k s.size
    rw [List.take_of_length_le (by rw [List.length_drop, ← size_bs]; omega)] at this
    exact this
  rw [this, List.drop_zero]
theorem ext_sz (s : ByteArray) (k : Nat) : (s.extract k s.size).size = s.size - k := by
  rw [size_bs, bs_ext, List.length_take, List.length_drop, ← size_bs]; omega
theorem bt_ext (s : ByteArray) (k j : Nat) : bt (s.extract k s.size) j = bt s (k + j) := by
  rw [bt_bs, bt_bs, bs_ext, List.take_of_length_le (by rw [List.length_drop, ← size_bs]; omega), List.getD_eq_getElem?_getD, List.getElem?_drop, ← List.getD_eq_getElem?_getD]
/-- Eight bytes are passed over. -/
theorem vd_eight {s : ByteArray} {k : Nat} (h : k + 8 ≤ s.size) (hl : Low8 (s.extract k s.size)) : vd s k = vd s (k + 8) :=
  vd_skip 8 k h (fun j hj => by have := low8 hl j hj; rwa [bt_ext] at this)
theorem low_one {a : ByteArray} (h : andW .u64 (wd8 a) 9259542123273814144 = 0) : Low8 a := and_bv h
theorem low_two {a b : ByteArray} (h : andW .u64 (orW .u64 (wd8 a) (wd8 b)) 9259542123273814144 = 0) : Low8 a ∧ Low8 b := by
  have h1 := and_bv h
  rw [or_bv] at h1
  exact bv_or h1
theorem low_four {a b c d : ByteArray} (h : andW .u64 (orW .u64 (orW .u64 (wd8 a) (wd8 b)) (orW .u64 (wd8 c) (wd8 d))) 9259542123273814144 = 0) : (Low8 a ∧ Low8 b) ∧ Low8 c ∧ Low8 d := by
  have h1 := and_bv h
  rw [or_bv, or_bv, or_bv] at h1
  obtain ⟨h2, h3⟩ := bv_or h1
  exact ⟨bv_or h2, bv_or h3⟩

/-! ### the tables -/
theorem chunks_get {sz : Nat} : ∀ (n i : Nat) (cs : List D), i < n → (chunks sz cs n)[i]? = some ((cs.drop (i * sz)).take sz) := by
  intro n
  induction n with
  | zero => intro i cs h; omega
  | succ n ih =>
    intro i cs h
    cases i with
    | zero => simp [chunks]
    | succ i =>
      show (chunks sz (cs.drop sz) n)[i]? = _
      rw [ih i _ (by omega), List.drop_drop]
      congr 3
      rw [Nat.succ_mul]; omega
theorem first_get {c : Nat} (h : c < 256) : (chunks 1 firstCells 256)[c]? = some [D.int .u8 (Lib.firstT c : Int)] := by
  rw [chunks_get _ _ _ h]
  have hl : firstCells.length = 256 := by decide +kernel
  have h1 : firstCells[c]? = some (D.int .u8 (Lib.firstT c : Int)) := by
    unfold firstCells
    rw [List.getElem?_map, List.getElem?_range h]
    rfl
  rw [Nat.mul_one, List.drop_eq_getElem_cons (by omega)]
  rw [List.getElem?_eq_getElem (by omega)] at h1
  rw [Option.some.inj h1]
  rfl
theorem accept_get : ∀ i : Fin 16, (chunks 2 acceptCells 16)[i.val]? = some [D.int .u8 (Lib.accLo i.val : Int), D.int .u8 (Lib.accHi i.val : Int)] := by
  intro ⟨i, hi⟩
  match i, hi with
  | 0, _ => rfl
  | 1, _ => rfl
  | 2, _ => rfl
  | 3, _ => rfl
  | 4, _ => rfl
  | 5, _ => rfl
  | 6, _ => rfl
  | 7, _ => rfl
  | 8, _ => rfl
  | 9, _ => rfl
  | 10, _ => rfl
  | 11, _ => rfl
  | 12, _ => rfl
  | 13, _ => rfl
  | 14, _ => rfl
  | 15, _ => rfl
  | n + 16, h => omega
theorem low3 : ∀ x : Fin 256, IntKind.i64.wrap (andW IntKind.u8 (x.val : Int) (7 : Int)) = ((x.val % 8 : Nat) : Int) := by decide +kernel
theorem high4 : ∀ x : Fin 256, (x.val : Int).fdiv ((2 : Int) ^ (4 : Nat)) = ((x.val / 16 : Nat) : Int) := by decide +kernel
theorem first_lt {c : Nat} : Lib.firstT c < 256 := by
  unfold Lib.firstT
  repeat' split
  all_goals omega

/-! ### ValidString -/
set_option maxHeartbeats 2000000 in
theorem vst_val (s : ByteArray) : ∀ (n : Nat) (t : ByteArray), t.size = n → n ≤ maxLen → vst_at0 s wd8 t (.bool (vd t 0)) [] ∧ vst_at1 s wd8 t (.bool (vd t 0)) [] := by
  intro n
  induction n using Nat.strongRecOn with
  | _ n ih =>
  intro t ht hn
  have hmx : maxLen ≤ 9223372036854775807 := by decide
  have sub : ∀ k : Nat, 1 ≤ k → k ≤ t.size → vst_at0 s wd8 (t.extract k t.size) (.bool (vd t k)) [] ∧ vst_at1 s wd8 (t.extract k t.size) (.bool (vd t k)) [] := by
    intro k h1 h2
    have e := ih (t.size - k) (by omega) (t.extract k t.size) (ext_sz t k) (by omega)
    rw [vd_ext] at e
    exact e
  have a0 : vst_at0 s wd8 t (.bool (vd t 0)) [] := by
    by_cases h0 : t.size = 0
    · rw [vd_end (by omega)]
      exact vst_0_24 (by omega)
    have hin : 0 < t.size := by omega
    have hc : ((t.data.getD (Int.toNat (0 : Int)) (0 : UInt8)).toNat : Int) = (bt t 0 : Int) := rfl
    by_cases hlow : bt t 0 < 128
    · have s1 := ext_sz t 1
      have hs1 : t.size - 1 + 1 = t.size := by omega
      have v1 : vd t 0 = vd t 1 := vd_ascii hin hlow
      by_cases h8 : ((t.extract 1 t.size).size : Int) > 8
      · have w1 := word43 (t.extract 1 t.size) (by omega)
        by_cases hm : andW IntKind.u64 (wd8 (t.extract 1 t.size)) (9259542123273814144 : Int) = (0 : Int)
        · have v2 : vd t 1 = vd t 9 := vd_eight (k := 1) (by omega) (low_one hm)
          have s2 := ext_sz (t.extract 1 t.size) 8
          have x2 : (t.extract 1 t.size).extract 8 (t.extract 1 t.size).size = t.extract 9 t.size := by
            rw [← tx_bs ((t.extract 1 t.size).extract 8 _), ← tx_bs (t.extract 9 t.size), bs_ext, bs_ext, bs_ext]
            rw [List.take_of_length_le (l := (bs t).drop 1) (by rw [List.length_drop, ← size_bs]; omega), List.drop_drop, List.take_of_length_le (by rw [List.length_drop, ← size_bs]; omega), List.take_of_length_le (by rw [List.length_drop, ← size_bs]; omega)]
          have x3 : ∀ k j : Nat, (t.extract k t.size).extract j (t.extract k t.size).size = t.extract (k + j) t.size := by
            intro k j
            rw [← tx_bs ((t.extract k t.size).extract j _), ← tx_bs (t.extract (k + j) t.size), bs_ext, bs_ext, bs_ext]
            rw [List.take_of_length_le (l := (bs t).drop k) (by rw [List.length_drop, ← size_bs]; omega), List.drop_drop, List.take_of_length_le (by rw [List.length_drop, ← size_bs, ext_sz]; omega), List.take_of_length_le (by rw [List.length_drop, ← size_bs]; omega)]
          by_cases h16 : (((t.extract 1 t.size).extract 8 (t.extract 1 t.size).size).size : Int) > 16
          · have w2 := word43 ((t.extract 1 t.size).extract 8 (t.extract 1 t.size).size) (by omega)
            have s3 := ext_sz ((t.extract 1 t.size).extract 8 (t.extract 1 t.size).size) 8
            have w3 := word43 (((t.extract 1 t.size).extract 8 (t.extract 1 t.size).size).extract 8 ((t.extract 1 t.size).extract 8 (t.extract 1 t.size).size).size) (by omega)
            by_cases hm2 : andW IntKind.u64 (orW IntKind.u64 (wd8 ((t.extract 1 t.size).extract 8 (t.extract 1 t.size).size)) (wd8 (((t.extract 1 t.size).extract 8 (t.extract 1 t.size).size).extract 8 ((t.extract 1 t.size).extract 8 (t.extract 1 t.size).size).size))) (9259542123273814144 : Int) = (0 : Int)
            · have hl := low_two hm2
              rw [x2, x3 9 8] at hl
              have v3 : vd t 9 = vd t 17 := vd_eight (k := 9) (by omega) hl.1
              have v4 : vd t 17 = vd t 25 := vd_eight (k := 17) (by omega) hl.2
              have g := (sub 25 (by omega) (by omega)).2
              have ee : ((t.extract 1 t.size).extract 8 (t.extract 1 t.size).size).extract 16 ((t.extract 1 t.size).extract 8 (t.extract 1 t.size).size).size = t.extract 25 t.size := by rw [x2, x3 9 16]
              rw [← ee] at g
              rw [v1, v2, v3, v4]
              have e := vst_0_0 (s := s) (wd := wd8) (s0 := t) (r := .bool (vd t 25)) (H1 := [])
              simp only [Int.toNat_natCast] at e
              apply e
              all_goals first | with_reducible assumption | omega | (simp only [beq_iff_eq, decide_eq_true_eq, decide_eq_false_iff_not, beq_eq_false_iff_ne, ne_eq]; omega)
            · have g := (sub 9 (by omega) (by omega)).1
              rw [← x2] at g
              rw [v1, v2]
              have e := vst_0_1 (s := s) (wd := wd8) (s0 := t) (r := .bool (vd t 9)) (H1 := [])
              simp only [Int.toNat_natCast] at e
              apply e
              all_goals first | with_reducible assumption | omega | (simp only [beq_iff_eq, decide_eq_true_eq, decide_eq_false_iff_not, beq_eq_false_iff_ne, ne_eq]; omega)
          · have g := (sub 9 (by omega) (by omega)).1
            rw [← x2] at g
            rw [v1, v2]
            have e := vst_0_2 (s := s) (wd := wd8) (s0 := t) (r := .bool (vd t 9)) (H1 := [])
            simp only [Int.toNat_natCast] at e
            apply e
            all_goals first | with_reducible assumption | omega | (simp only [beq_iff_eq, decide_eq_true_eq, decide_eq_false_iff_not, beq_eq_false_iff_ne, ne_eq]; omega)
        · have g := (sub 1 (by omega) (by omega)).1
          rw [v1]
          have e := vst_0_3 (s := s) (wd := wd8) (s0 := t) (r := .bool (vd t 1)) (H1 := [])
          simp only [Int.toNat_natCast] at e
          apply e
          all_goals first | with_reducible assumption | omega | (simp only [beq_iff_eq, decide_eq_true_eq, decide_eq_false_iff_not, beq_eq_false_iff_ne, ne_eq]; omega)
      · have g := (sub 1 (by omega) (by omega)).1
        rw [v1]
        have e := vst_0_4 (s := s) (wd := wd8) (s0 := t) (r := .bool (vd t 1)) (H1 := [])
        simp only [Int.toNat_natCast] at e
        apply e
        all_goals first | with_reducible assumption | omega | (simp only [beq_iff_eq, decide_eq_true_eq, decide_eq_false_iff_not, beq_eq_false_iff_ne, ne_eq]; omega)
    · have hlead := vd_lead hin (show 128 ≤ bt t 0 by omega)
      simp only [Nat.sub_zero, Nat.zero_add] at hlead
      have hb := bt_lt t 0
      have b1 : ((t.data.getD (Int.toNat (1 : Int)) (0 : UInt8)).toNat : Int) = (bt t 1 : Int) := rfl
      have b2 : ((t.data.getD (Int.toNat (2 : Int)) (0 : UInt8)).toNat : Int) = (bt t 2 : Int) := rfl
      have b3 : ((t.data.getD (Int.toNat (3 : Int)) (0 : UInt8)).toNat : Int) = (bt t 3 : Int) := rfl
      have hF : (chunks 1 firstCells 256)[(t.data.getD (Int.toNat (0 : Int)) (0 : UInt8)).toNat]? = some [D.int .u8 (Lib.firstT (bt t 0) : Int)] := first_get hb
      have hX := first_lt (c := bt t 0)
      generalize hXd : Lib.firstT (bt t 0) = X at *
      have hS : IntKind.i64.wrap (andW IntKind.u8 (X : Int) (7 : Int)) = ((X % 8 : Nat) : Int) := low3 ⟨X, hX⟩
      have hQ : (X : Int).fdiv ((2 : Int) ^ (4 : Nat)) = ((X / 16 : Nat) : Int) := high4 ⟨X, hX⟩
      have hA : (chunks 2 acceptCells 16)[((X : Int).fdiv ((2 : Int) ^ (4 : Nat))).toNat]? = some [D.int .u8 (Lib.accLo (X / 16) : Int), D.int .u8 (Lib.accHi (X / 16) : Int)] := by
        rw [hQ, Int.toNat_natCast]; exact accept_get ⟨X / 16, by omega⟩
      have hX16 : X / 16 < 16 := by omega
      generalize Lib.accLo (X / 16) = LO at *
      generalize Lib.accHi (X / 16) = HI at *
      generalize hz : X % 8 = sz at *
      generalize hq : X / 16 = Q at *
      unfold Lib.checkN at hlead
      by_cases z2 : sz = 2
      · rw [if_pos z2] at hlead
        by_cases c1 : t.size < 2
        · rw [if_pos (by omega)] at hlead
          rw [hlead]
          have e := vst_0_5 (s := s) (wd := wd8) (s0 := t) (n11_1 := X) (n13_2_0 := LO) (n13_2_1 := HI)
          simp only [Int.toNat_natCast] at e
          apply e
          all_goals first | with_reducible assumption | omega | (simp only [beq_iff_eq, decide_eq_true_eq, decide_eq_false_iff_not, beq_eq_false_iff_ne, ne_eq]; omega)
        by_cases c2 : bt t 1 < LO
        · rw [if_pos (by omega)] at hlead
          rw [hlead]
          have e := vst_0_6 (s := s) (wd := wd8) (s0 := t) (n11_1 := X) (n13_2_0 := LO) (n13_2_1 := HI)
          simp only [Int.toNat_natCast] at e
          apply e
          all_goals first | with_reducible assumption | omega | (simp only [beq_iff_eq, decide_eq_true_eq, decide_eq_false_iff_not, beq_eq_false_iff_ne, ne_eq]; omega)
        by_cases c3 : HI < bt t 1
        · rw [if_pos (by omega)] at hlead
          rw [hlead]
          have e := vst_0_7 (s := s) (wd := wd8) (s0 := t) (n11_1 := X) (n13_2_0 := LO) (n13_2_1 := HI)
          simp only [Int.toNat_natCast] at e
          apply e
          all_goals first | with_reducible assumption | omega | (simp only [beq_iff_eq, decide_eq_true_eq, decide_eq_false_iff_not, beq_eq_false_iff_ne, ne_eq]; omega)
        · rw [if_neg (by omega)] at hlead
          have g := (sub 2 (by omega) (by omega)).1
          rw [hlead]
          have e := vst_0_8 (s := s) (wd := wd8) (s0 := t) (n11_1 := X) (n13_2_0 := LO) (n13_2_1 := HI) (r := .bool (vd t 2)) (H1 := [])
          simp only [Int.toNat_natCast] at e
          apply e
          all_goals first | with_reducible assumption | omega | (simp only [beq_iff_eq, decide_eq_true_eq, decide_eq_false_iff_not, beq_eq_false_iff_ne, ne_eq]; omega)
      rw [if_neg z2] at hlead
      by_cases z3 : sz = 3
      · rw [if_pos z3] at hlead
        by_cases c1 : t.size < 3
        · rw [if_pos (by omega)] at hlead
          rw [hlead]
          have e := vst_0_9 (s := s) (wd := wd8) (s0 := t) (n11_1 := X) (n13_2_0 := LO) (n13_2_1 := HI)
          simp only [Int.toNat_natCast] at e
          apply e
          all_goals first | with_reducible assumption | omega | (simp only [beq_iff_eq, decide_eq_true_eq, decide_eq_false_iff_not, beq_eq_false_iff_ne, ne_eq]; omega)
        by_cases c2 : bt t 1 < LO
        · rw [if_pos (by omega)] at hlead
          rw [hlead]
          have e := vst_0_10 (s := s) (wd := wd8) (s0 := t) (n11_1 := X) (n13_2_0 := LO) (n13_2_1 := HI)
          simp only [Int.toNat_natCast] at e
          apply e
          all_goals first | with_reducible assumption | omega | (simp only [beq_iff_eq, decide_eq_true_eq, decide_eq_false_iff_not, beq_eq_false_iff_ne, ne_eq]; omega)
        by_cases c3 : HI < bt t 1
        · rw [if_pos (by omega)] at hlead
          rw [hlead]
          have e := vst_0_11 (s := s) (wd := wd8) (s0 := t) (n11_1 := X) (n13_2_0 := LO) (n13_2_1 := HI)
          simp only [Int.toNat_natCast] at e
          apply e
          all_goals first | with_reducible assumption | omega | (simp only [beq_iff_eq, decide_eq_true_eq, decide_eq_false_iff_not, beq_eq_false_iff_ne, ne_eq]; omega)
        by_cases c4 : bt t 2 < 128
        · rw [if_pos (by omega)] at hlead
          rw [hlead]
          have e := vst_0_12 (s := s) (wd := wd8) (s0 := t) (n11_1 := X) (n13_2_0 := LO) (n13_2_1 := HI)
          simp only [Int.toNat_natCast] at e
          apply e
          all_goals first | with_reducible assumption | omega | (simp only [beq_iff_eq, decide_eq_true_eq, decide_eq_false_iff_not, beq_eq_false_iff_ne, ne_eq]; omega)
        by_cases c5 : 191 < bt t 2
        · rw [if_pos (by omega)] at hlead
          rw [hlead]
          have e := vst_0_13 (s := s) (wd := wd8) (s0 := t) (n11_1 := X) (n13_2_0 := LO) (n13_2_1 := HI)
          simp only [Int.toNat_natCast] at e
          apply e
          all_goals first | with_reducible assumption | omega | (simp only [beq_iff_eq, decide_eq_true_eq, decide_eq_false_iff_not, beq_eq_false_iff_ne, ne_eq]; omega)
        · rw [if_neg (by omega)] at hlead
          have g := (sub 3 (by omega) (by omega)).1
          rw [hlead]
          have e := vst_0_14 (s := s) (wd := wd8) (s0 := t) (n11_1 := X) (n13_2_0 := LO) (n13_2_1 := HI) (r := .bool (vd t 3)) (H1 := [])
          simp only [Int.toNat_natCast] at e
          apply e
          all_goals first | with_reducible assumption | omega | (simp only [beq_iff_eq, decide_eq_true_eq, decide_eq_false_iff_not, beq_eq_false_iff_ne, ne_eq]; omega)
      rw [if_neg z3] at hlead
      by_cases z4 : sz = 4
      · rw [if_pos z4] at hlead
        by_cases c1 : t.size < 4
        · rw [if_pos (by omega)] at hlead
          rw [hlead]
          have e := vst_0_15 (s := s) (wd := wd8) (s0 := t) (n11_1 := X) (n13_2_0 := LO) (n13_2_1 := HI)
          simp only [Int.toNat_natCast] at e
          apply e
          all_goals first | with_reducible assumption | omega | (simp only [beq_iff_eq, decide_eq_true_eq, decide_eq_false_iff_not, beq_eq_false_iff_ne, ne_eq]; omega)
        by_cases c2 : bt t 1 < LO
        · rw [if_pos (by omega)] at hlead
          rw [hlead]
          have e := vst_0_16 (s := s) (wd := wd8) (s0 := t) (n11_1 := X) (n13_2_0 := LO) (n13_2_1 := HI)
          simp only [Int.toNat_natCast] at e
          apply e
          all_goals first | with_reducible assumption | omega | (simp only [beq_iff_eq, decide_eq_true_eq, decide_eq_false_iff_not, beq_eq_false_iff_ne, ne_eq]; omega)
        by_cases c3 : HI < bt t 1
        · rw [if_pos (by omega)] at hlead
          rw [hlead]
          have e := vst_0_17 (s := s) (wd := wd8) (s0 := t) (n11_1 := X) (n13_2_0 := LO) (n13_2_1 := HI)
          simp only [Int.toNat_natCast] at e
          apply e
          all_goals first | with_reducible assumption | omega | (simp only [beq_iff_eq, decide_eq_true_eq, decide_eq_false_iff_not, beq_eq_false_iff_ne, ne_eq]; omega)
        by_cases c4 : bt t 2 < 128
        · rw [if_pos (by omega)] at hlead
          rw [hlead]
          have e := vst_0_18 (s := s) (wd := wd8) (s0 := t) (n11_1 := X) (n13_2_0 := LO) (n13_2_1 := HI)
          simp only [Int.toNat_natCast] at e
          apply e
          all_goals first | with_reducible assumption | omega | (simp only [beq_iff_eq, decide_eq_true_eq, decide_eq_false_iff_not, beq_eq_false_iff_ne, ne_eq]; omega)
        by_cases c5 : 191 < bt t 2
        · rw [if_pos (by omega)] at hlead
          rw [hlead]
          have e := vst_0_19 (s := s) (wd := wd8) (s0 := t) (n11_1 := X) (n13_2_0 := LO) (n13_2_1 := HI)
          simp only [Int.toNat_natCast] at e
          apply e
          all_goals first | with_reducible assumption | omega | (simp only [beq_iff_eq, decide_eq_true_eq, decide_eq_false_iff_not, beq_eq_false_iff_ne, ne_eq]; omega)
        by_cases c6 : bt t 3 < 128
        · rw [if_pos (by omega)] at hlead
          rw [hlead]
          have e := vst_0_20 (s := s) (wd := wd8) (s0 := t) (n11_1 := X) (n13_2_0 := LO) (n13_2_1 := HI)
          simp only [Int.toNat_natCast] at e
          apply e
          all_goals first | with_reducible assumption | omega | (simp only [beq_iff_eq, decide_eq_true_eq, decide_eq_false_iff_not, beq_eq_false_iff_ne, ne_eq]; omega)
        by_cases c7 : 191 < bt t 3
        · rw [if_pos (by omega)] at hlead
          rw [hlead]
          have e := vst_0_21 (s := s) (wd := wd8) (s0 := t) (n11_1 := X) (n13_2_0 := LO) (n13_2_1 := HI)
          simp only [Int.toNat_natCast] at e
          apply e
          all_goals first | with_reducible assumption | omega | (simp only [beq_iff_eq, decide_eq_true_eq, decide_eq_false_iff_not, beq_eq_false_iff_ne, ne_eq]; omega)
        · rw [if_neg (by omega)] at hlead
          have g := (sub 4 (by omega) (by omega)).1
          rw [hlead]
          have e := vst_0_22 (s := s) (wd := wd8) (s0 := t) (n11_1 := X) (n13_2_0 := LO) (n13_2_1 := HI) (r := .bool (vd t 4)) (H1 := [])
          simp only [Int.toNat_natCast] at e
          apply e
          all_goals first | with_reducible assumption | omega | (simp only [beq_iff_eq, decide_eq_true_eq, decide_eq_false_iff_not, beq_eq_false_iff_ne, ne_eq]; omega)
      · rw [if_neg z4] at hlead
        rw [hlead]
        have e := vst_0_23 (s := s) (wd := wd8) (s0 := t) (n11_1 := X) (n13_2_0 := LO) (n13_2_1 := HI)
        simp only [Int.toNat_natCast] at e
        apply e
        all_goals first | with_reducible assumption | omega | (simp only [beq_iff_eq, decide_eq_true_eq, decide_eq_false_iff_not, beq_eq_false_iff_ne, ne_eq]; omega)
  refine ⟨a0, ?_⟩
  by_cases h32 : (t.size : Int) > 32
  · have w0 := word43 t (by omega)
    have s8 := ext_sz t 8
    have s16 := ext_sz t 16
    have s24 := ext_sz t 24
    have w8 := word43 (t.extract 8 t.size) (by omega)
    have w16 := word43 (t.extract 16 t.size) (by omega)
    have w24 := word43 (t.extract 24 t.size) (by omega)
    by_cases hm : andW IntKind.u64 (orW IntKind.u64 (orW IntKind.u64 (wd8 t) (wd8 (t.extract 8 t.size))) (orW IntKind.u64 (wd8 (t.extract 16 t.size)) (wd8 (t.extract 24 t.size)))) (9259542123273814144 : Int) = (0 : Int)
    · obtain ⟨⟨l0, l8⟩, l16, l24⟩ := low_four hm
      have x0 : t.extract 0 t.size = t := by
        rw [← tx_bs (t.extract 0 t.size), bs_ext, List.drop_zero, List.take_of_length_le (by rw [← size_bs]; omega)]
      have v0 : vd t 0 = vd t 8 := vd_eight (k := 0) (by omega) (by rw [x0]; exact l0)
      have v8 : vd t 8 = vd t 16 := vd_eight (k := 8) (by omega) l8
      have v16 : vd t 16 = vd t 24 := vd_eight (k := 16) (by omega) l16
      have v24 : vd t 24 = vd t 32 := vd_eight (k := 24) (by omega) l24
      have g := (sub 32 (by omega) (by omega)).2
      rw [v0, v8, v16, v24]
      have e := vst_1_0 (s := s) (wd := wd8) (s0 := t) (r := .bool (vd t 32)) (H1 := [])
      simp only [Int.toNat_natCast] at e
      apply e
      all_goals first | with_reducible assumption | omega | (simp only [beq_iff_eq, decide_eq_true_eq, decide_eq_false_iff_not, beq_eq_false_iff_ne, ne_eq]; omega)
    · have e := vst_1_1 (s := s) (wd := wd8) (s0 := t) (r := .bool (vd t 0)) (H1 := [])
      simp only [Int.toNat_natCast] at e
      apply e
      all_goals first | with_reducible assumption | omega | (simp only [beq_iff_eq, decide_eq_true_eq, decide_eq_false_iff_not, beq_eq_false_iff_ne, ne_eq]; omega)
  · exact vst_1_2 (by omega) a0
/-- utf8.ValidString. -/
theorem valid34 (s : ByteArray) (hs : s.size ≤ maxLen) : Ret P T 34 [.str s] [] (.bool (vd s 0)) [] :=
  vst_in_0 (vst_val s s.size s rfl hs).1

end Go.Proofs.YtlccdfilbiipmaaDoor.ordk
