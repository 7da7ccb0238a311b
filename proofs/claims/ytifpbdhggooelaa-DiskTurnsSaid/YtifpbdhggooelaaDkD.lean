/- The disk's deeds: what each comes to, of a disk with no more than two pages of 64 bytes. -/
import Derived.Test.YtifpbdhggooelaaDkB
import Derived.Test.YtifpbdhggooelaaDkL
namespace Go.Proofs.Ytifpbdhggooelaa.dsk
open Go Ytifpbdhggooelaa.GD
set_option linter.unusedVariables false
set_option linter.unusedSimpArgs false
set_option maxRecDepth 100000

theorem flF : FlatEs [[D.slice true [] none]] := by
  intro c hc
  simp only [List.mem_singleton] at hc
  subst hc; rfl
/-- No fault is planned. -/
theorem ix64 (a b : Int) : Ret P T 64 [.slice false [] none, .agg [.int .i64 a, .int .i64 b]] [] (.int .i64 (-1)) [] := ix_in_0 (ix_0_2 (by omega))
theorem cn62 (a b : Int) : Ret P T 62 [.slice false [] none, .agg [.int .i64 a, .int .i64 b]] [] (.bool false) [] := cn_in_0 (ix64 a b)

/-! ### bytes -/
def rowN (l : List Nat) : Es := l.map fun (x : Nat) => [D.int .u8 (x : Int)]
def unN (es : Es) : List Nat := es.map fun | [.int _ x] => x.toNat | _ => 0
theorem un_row (l : List Nat) : unN (rowN l) = l := by
  unfold unN rowN
  rw [List.map_map]
  conv => rhs; rw [← List.map_id l]
  apply List.map_congr_left
  intro x _
  simp
theorem flat_row (l : List Nat) : FlatEs (rowN l) := by
  intro c hc
  obtain ⟨x, _, rfl⟩ := List.mem_map.1 hc
  rfl
theorem all_row (l : List Nat) : ((rowN l).all fun c => c.length == 1) = true := by
  rw [List.all_eq_true]
  intro c hc
  obtain ⟨x, _, rfl⟩ := List.mem_map.1 hc
  rfl
theorem len_row (l : List Nat) : (rowN l).length = l.length := by simp [rowN]
theorem row_at {l : List Nat} {i x : Nat} (h : l[i]? = some x) : (rowN l)[i]? = some [D.int .u8 (x : Int)] := by simp [rowN, h]
theorem row_set (l : List Nat) (i x : Nat) : (rowN l).set i [D.int .u8 (x : Int)] = rowN (l.set i x) := by
  unfold rowN
  rw [List.map_set]
theorem z_row : z64 = rowN (List.replicate 64 0) := by kernel_rfl

section
variable {xs ys zs : Es} (hx : FlatEs xs) (hy : FlatEs ys) (hz : FlatEs zs)
def noA : GD.Heap := [none, none, none, none, none, none, none, none, none, none, none, none, none, none, none, none, none, none]
include hx hy hz
theorem wr39a (hl : zs.length = 64) (h1 : (zs.all fun c => c.length == 1) = true) : Ret P T 39 [.ptr 0 0 0, .int .i64 0, .view 5 0 64] (two 2 2 0 2 xs ys ++ [some (.row 1 zs)]) (.int .i64 0)
    ([some (dk 3 2 3 1 3 nilF 4), some (.mp .i64 [0, 1] [.view 25 0 64, .view 3 0 64]), some (.row 1 xs), some (.row 1 ys), some frO, some (.row 1 zs)] ++ noA ++ [some .dead, some (.row 1 zs)]) := by
  have ht : zs.take 64 = zs := List.take_of_length_le (by omega)
  have g := wa_in_0 (xs := xs) (ys := ys) hz (by rw [ht]; exact hz) (by rw [ht]; exact hl) ⟨rfl, by rw [ht]; omega, Nat.le_refl _, by rw [ht]; omega, by rw [ht]; exact h1⟩ hx hy flF (pc_in_0 (xs := xs) (ys := ys) (cn62 _ _))
  rw [ht, hl] at g
  exact g
theorem wr39b (hl : zs.length = 64) (h1 : (zs.all fun c => c.length == 1) = true) : Ret P T 39 [.ptr 0 0 0, .int .i64 1, .view 5 0 64] (two 2 3 1 3 xs ys ++ [some (.row 1 zs)]) (.int .i64 0)
    ([some (dk 3 2 4 2 4 nilF 4), some (.mp .i64 [0, 1] [.view 2 0 64, .view 25 0 64]), some (.row 1 xs), some (.row 1 ys), some frO, some (.row 1 zs)] ++ noA ++ [some .dead, some (.row 1 zs)]) := by
  have ht : zs.take 64 = zs := List.take_of_length_le (by omega)
  have g := wb_in_0 (xs := xs) (ys := ys) hz (by rw [ht]; exact hz) (by rw [ht]; exact hl) ⟨rfl, by rw [ht]; omega, Nat.le_refl _, by rw [ht]; omega, by rw [ht]; exact h1⟩ hx hy flF (pc_in_0 (xs := xs) (ys := ys) (cn62 _ _))
  rw [ht, hl] at g
  exact g
omit hz in
theorem lk42a (hl : xs.length = 64) (h1 : (xs.all fun c => c.length == 1) = true) : Ret P T 42 [.ptr 0 0 0, .int .i64 0] (two 2 4 2 4 xs ys) (.tuple [.view 6 0 64, .bool true]) (two 2 4 2 4 xs ys ++ [some .dead, some (.row 1 xs)]) := by
  have ht : xs.take 64 = xs := List.take_of_length_le (by omega)
  have g := ka_in_0 (xs := xs) (ys := ys) hx (by rw [ht]; exact hx) (by rw [ht]; exact hl) ⟨rfl, by rw [ht]; omega, Nat.le_refl _, by rw [ht]; omega, by rw [ht]; exact h1⟩ hy flF
  rw [ht, hl] at g
  exact g
omit hz in
theorem lk42b (hl : ys.length = 64) (h1 : (ys.all fun c => c.length == 1) = true) : Ret P T 42 [.ptr 0 0 0, .int .i64 1] (two 2 4 2 4 xs ys) (.tuple [.view 6 0 64, .bool true]) (two 2 4 2 4 xs ys ++ [some .dead, some (.row 1 ys)]) := by
  have ht : ys.take 64 = ys := List.take_of_length_le (by omega)
  have g := kb_in_0 (xs := xs) (ys := ys) hy (by rw [ht]; exact hy) (by rw [ht]; exact hl) ⟨rfl, by rw [ht]; omega, Nat.le_refl _, by rw [ht]; omega, by rw [ht]; exact h1⟩ hx flF
  rw [ht, hl] at g
  exact g
end
def noB : GD.Heap := noA ++ noA ++ [none, none, none, none, none, none, none, none, none, none, none, none, none, none, none, none]
theorem al38a : Ret P T 38 [.ptr 0 0 0] [some (dk 3 0 0 0 0 nilF 2), some (.mp .i64 [] []), some frO] (.tuple [.int .i64 0, .int .i64 0])
    ([some (dk 3 1 1 0 1 nilF 2), some (.mp .i64 [0] [.view 55 0 64]), some frO] ++ noB ++ [some (.row 1 z64)]) := aa_in_0 (u := ()) flF (pa_in_0 (cn62 _ _))
theorem al38b {xs : Es} (hx : FlatEs xs) : Ret P T 38 [.ptr 0 0 0] [some (dk 3 1 1 0 1 nilF 3), some (.mp .i64 [0] [.view 2 0 64]), some (.row 1 xs), some frO] (.tuple [.int .i64 1, .int .i64 0])
    ([some (dk 3 2 2 0 2 nilF 3), some (.mp .i64 [0, 1] [.view 2 0 64, .view 56 0 64]), some (.row 1 xs), some frO] ++ noB ++ [some (.row 1 z64)]) := ab_in_0 hx flF (pb_in_0 (xs := xs) (cn62 _ _))

/-! ### Turn -/
def okT (bt : Int) : Bool := decide (0 ≤ bt ∧ bt < 512)
def trT (bt mk : Int) (xs : Es) : Es := if okT bt then rowN (trn mk.toNat bt.toNat 32 (unN xs)) else xs
theorem turn_step {m b i : Nat} {l : List Nat} (hm : m < 4294967296) (hl : ∀ x ∈ l, x < 256) (hi : i < 32) (hb : b + i < 512) {x : Nat} (hx : (trn m b i l)[(b + i) / 8]? = some x) :
    xorW .u8 (x : Int) (shlW .u8 (IntKind.u8.wrap (andW .u32 (shrW .u32 (m : Int) (i : Int)) 1)) ((((b + i) % 8 : Nat)) : Int)) = (((if m.testBit i then x ^^^ 2 ^ ((b + i) % 8) else x) : Nat) : Int) := by
  have hx8 : x < 256 := trn_lt hl x (List.mem_of_getElem? hx)
  have hr : (b + i) % 8 < 8 := Nat.mod_lt _ (by omega)
  rw [and_bit hm hi, wrap_u8 ⟨by omega, by split <;> omega⟩, shl_byte (by split <;> omega) hr]
  have hp : 2 ^ ((b + i) % 8) < 256 := Nat.pow_lt_pow_right (m := (b + i) % 8) (n := 8) (by omega) hr
  by_cases hbit : m.testBit i = true
  · rw [if_pos hbit, if_pos hbit, Nat.one_mul, xor_byte hx8 hp]
  · rw [if_neg hbit, if_neg hbit, Nat.zero_mul, xor_byte hx8 (by omega), Nat.xor_zero]
theorem turn_next {m b i : Nat} {l : List Nat} (hb : b + i < 512) {x : Nat} (hx : (trn m b i l)[(b + i) / 8]? = some x) :
    (trn m b i l).set ((b + i) / 8) (if m.testBit i then x ^^^ 2 ^ ((b + i) % 8) else x) = trn m b (i + 1) l := by
  by_cases hbit : m.testBit i = true
  · rw [if_pos hbit, trn_set hbit hb hx]
  · rw [if_neg hbit, trn_skip (fun h => hbit h.1)]
    apply List.ext_getElem?
    intro j
    by_cases e : (b + i) / 8 = j
    · subst e
      rw [List.getElem?_set_self (List.getElem?_eq_some_iff.1 hx).1, hx]
    · rw [List.getElem?_set_ne e]
theorem turn44 {hi op wr sn : Int} {l : List Nat} {ys : Es} (hy : FlatEs ys) (hl : l.length = 64) (hb : ∀ x ∈ l, x < 256) (bt mk : Int) (hm : 0 ≤ mk ∧ mk < 4294967296) :
    Ret P T 44 [.ptr 0 0 0, .int .i64 0, .int .i64 bt, .int .u32 mk] (two hi op wr sn (rowN l) ys) (.bool (okT bt)) (two hi op wr sn (trT bt mk (rowN l)) ys) := by
  have hw : IntKind.i64.wrap ((8 : Int) * ((64 : Nat) : Int)) = 512 := wrap_i64 ⟨by omega, by omega⟩
  by_cases h0 : bt < 0
  · have e : okT bt = false := by unfold okT; rw [decide_eq_false]; omega
    unfold trT
    rw [e]
    exact tu_in_0 h0 (flat_row l) hy flF
  by_cases h1 : bt ≥ 512
  · have e : okT bt = false := by unfold okT; rw [decide_eq_false]; omega
    unfold trT
    rw [e]
    exact tu_in_1 h0 (by rw [hw]; exact h1) (flat_row l) hy flF
  have e : okT bt = true := by unfold okT; rw [decide_eq_true]; omega
  unfold trT
  rw [e, un_row]
  obtain ⟨b, rfl⟩ : ∃ b : Nat, bt = (b : Int) := ⟨bt.toNat, by omega⟩
  obtain ⟨m, rfl⟩ : ∃ m : Nat, mk = (m : Int) := ⟨mk.toNat, by omega⟩
  simp only [if_true, Int.toNat_natCast]
  have hm' : m < 4294967296 := by omega
  have hb5 : b < 512 := by omega
  have hlim : ∀ i : Nat, ((i : Int) < if IntKind.i64.wrap (IntKind.i64.wrap ((8 : Int) * ((64 : Nat) : Int)) - (b : Int)) < (32 : Int) then IntKind.i64.wrap (IntKind.i64.wrap ((8 : Int) * ((64 : Nat) : Int)) - (b : Int)) else (32 : Int)) ↔ (i < 32 ∧ b + i < 512) := by
    intro i
    rw [hw, wrap_i64 ⟨by omega, by omega⟩]
    split <;> omega
  have loop : ∀ (k i : Nat), i + k = 32 → tu_at0 hi op wr sn (rowN l) ys 64 64 (b : Int) (m : Int) (i : Int) (rowN (trn m b i l)) (.bool true) (two hi op wr sn (rowN (trn m b 32 l)) ys) := by
    intro k
    induction k with
    | zero =>
      intro i hi'
      obtain rfl : i = 32 := by omega
      exact tu_0_1 (by rw [hlim]; omega)
    | succ k ih =>
      intro i hi'
      by_cases hlt : b + i < 512
      · have g := ih (i + 1) (by omega)
        have hj : (b + i) / 8 < (trn m b i l).length := by rw [trn_len, hl]; omega
        obtain ⟨x, hx⟩ : ∃ x, (trn m b i l)[(b + i) / 8]? = some x := ⟨_, List.getElem?_eq_getElem hj⟩
        have e1 : IntKind.i64.wrap ((b : Int) + (i : Int)) = ((b + i : Nat) : Int) := by rw [wrap_i64 ⟨by omega, by omega⟩]; omega
        have e2 : IntKind.i64.wrap ((((b + i : Nat) : Int)).tdiv 8) = (((b + i) / 8 : Nat) : Int) := by
          rw [Int.tdiv_eq_ediv_of_nonneg (by omega), wrap_i64 ⟨by omega, by omega⟩]; omega
        have e3 : (((b + i : Nat) : Int)).tmod 8 = (((b + i) % 8 : Nat) : Int) := by
          rw [Int.tmod_eq_emod_of_nonneg (by omega)]; omega
        have e4 : (0 : Nat) + (IntKind.i64.wrap ((IntKind.i64.wrap ((b : Int) + (i : Int))).tdiv (8 : Int))).toNat = (b + i) / 8 := by rw [e1, e2]; omega
        have st := turn_step hm' hb (by omega) hlt hx
        have hat := row_at hx
        have hset : (rowN (trn m b i l)).set ((0 : Nat) + (IntKind.i64.wrap ((IntKind.i64.wrap ((b : Int) + (i : Int))).tdiv (8 : Int))).toNat) [D.int .u8 (xorW .u8 (x : Int) (shlW .u8 (IntKind.u8.wrap (andW .u32 (shrW .u32 (m : Int) (i : Int)) (1 : Int))) ((IntKind.i64.wrap ((b : Int) + (i : Int))).tmod (8 : Int))))] = rowN (trn m b (i + 1) l) := by
          rw [e4, e1, e3, st, row_set, turn_next hlt hx]
        have e5 : IntKind.i64.wrap ((i : Int) + 1) = ((i + 1 : Nat) : Int) := by rw [wrap_i64 ⟨by omega, by omega⟩]; omega
        rw [← e5, ← hset] at g
        rw [← e4] at hat
        exact tu_0_0 ((hlim i).2 ⟨by omega, hlt⟩) (by rw [hset]; exact flat_row _) hy flF hat ⟨by rw [e1, e2]; omega, by rw [e1, e2]; omega⟩ (by rw [e1, e3]; omega) (by omega) hat g
      · have e6 : trn m b 32 l = trn m b i l := by rw [← hi']; exact trn_stop (k + 1) i (by omega)
        rw [e6]
        exact tu_0_1 (by rw [hlim]; omega)
  have g := loop 32 0 (by omega)
  rw [trn_zero] at g
  exact tu_in_2 h0 (by rw [hw]; exact h1) (flat_row l) hy flF g
theorem none44 {hi op wr sn bt mk : Int} {xs ys : Es} (hx : FlatEs xs) (hy : FlatEs ys) : Ret P T 44 [.ptr 0 0 0, .int .i64 2, .int .i64 bt, .int .u32 mk] (two hi op wr sn xs ys) (.bool false) (two hi op wr sn xs ys) :=
  tw_in_0 hx hy flF

end Go.Proofs.Ytifpbdhggooelaa.dsk
