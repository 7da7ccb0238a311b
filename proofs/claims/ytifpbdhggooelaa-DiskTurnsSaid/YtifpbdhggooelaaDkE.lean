/- The law DiskTurns hands back true. -/
import Derived.Test.YtifpbdhggooelaaDkC
import Derived.Test.YtifpbdhggooelaaDkD
namespace Go.Proofs.Ytifpbdhggooelaa.dsk
open Go Ytifpbdhggooelaa.GD
set_option linter.unusedVariables false
set_option linter.unusedSimpArgs false
set_option maxRecDepth 100000

noncomputable def cK : Cf := { P := Try.prog, T := tyOf Try.prog, hint := fun fn _ _ => bif Nat.beq fn 51 then .aRow else .auto, room := fun _ _ => 3, meth := fun _ _ => none, ct := fun _ _ _ => none, stop := false }
theorem cKOk : CfOk cK where
  hT := fun _ _ h => h
  hm := by kernel_rfl
  meth := fun _ _ _ h => by simp only [cK] at h; cases h
  ct := fun _ _ _ _ _ _ h => by simp only [cK] at h; cases h
theorem awake36 : Ret P T 36 [] [] (.bool true) [] := ret_closed cKOk (show tellsTrue (callE cK 100000 100 36 [] [] .auto) = true by kernel_rfl)
theorem new37 : Ret P T 37 [.int .i64 64, .int .i64 3] [] (.tuple [.ptr 3 0 0, .int .i64 0]) [some (.mp .i64 [] []), some (.tok 0 1), some frO, some (.row 9 [[.int .i64 64, .int .i64 3, .mapp 0, .ptr 2 0 0, .int .i64 0, .int .i64 0, .int .i64 0, .int .i64 0, .func (.func 59) [.agg (.ptr 3 0 0 :: nilF)] []]])] :=
  nw_in_0 (u := ()) flF

theorem tk0 {l : List Nat} (h : l.length = 64) : List.take 64 (List.drop 0 (rowN l)) = rowN l := by
  rw [List.drop_zero, List.take_of_length_le (by rw [len_row, h]; exact Nat.le_refl _)]
theorem tk1 {l : List Nat} (h : l.length = 64) : List.take (0 + 64) (rowN l) = rowN l := List.take_of_length_le (by rw [len_row, h]; omega)
theorem byt_row {l : List Nat} (h : ∀ x ∈ l, x < 256) : (rowN l).all isByteC = true := by
  rw [List.all_eq_true]
  intro c hc
  obtain ⟨x, hx, rfl⟩ := List.mem_map.1 hc
  have := h x hx
  simp [isByteC]
  omega
theorem flat_z : FlatEs (List.replicate 64 [D.int .u8 (0 : Int)]) := by
  intro c hc
  rw [(List.mem_replicate.1 hc).2]; rfl
/-- The page. -/
def pgOf (bs : List Nat) : List Nat := bs.take 64 ++ (List.replicate 64 0).drop (min bs.length 64)
theorem pg_len (bs : List Nat) : (pgOf bs).length = 64 := by simp [pgOf]; omega
theorem pg_lt {bs : List Nat} (h : ∀ x ∈ bs, x < 256) : ∀ x ∈ pgOf bs, x < 256 := by
  intro x hx
  unfold pgOf at hx
  rcases List.mem_append.1 hx with hx | hx
  · exact h x (List.mem_of_mem_take hx)
  · have := List.mem_of_mem_drop hx
    rw [(List.mem_replicate.1 this).2]; omega
theorem pg_row (bs : List Nat) : [] ++ List.take 64 (rowN bs) ++ List.drop (0 + min (List.length (rowN bs)) 64) (List.replicate 64 [D.int .u8 (0 : Int)]) = rowN (pgOf bs) := by
  have hz : List.replicate 64 [D.int .u8 (0 : Int)] = rowN (List.replicate 64 0) := by kernel_rfl
  rw [hz, len_row, Nat.zero_add, List.nil_append]
  unfold pgOf rowN
  rw [List.map_append, List.map_take, List.map_drop]

section
variable {xb : Bool} {bs : List Nat} (hbs : ∀ x ∈ bs, x < 256) {bt mk : Int} {pg1 : List Nat} (h1l : pg1.length = 64) (h1b : ∀ x ∈ pg1, x < 256) (hm : 0 ≤ mk ∧ mk < 4294967296) (ha0 : 0 ≤ (IntKind.i64.wrap bt).tmod (600 : Int))
  (e1 : trT ((IntKind.i64.wrap bt).tmod (600 : Int)) mk (rowN (pgOf bs)) = rowN pg1) (e2 : trT ((IntKind.i64.wrap bt).tmod (600 : Int)) mk (rowN pg1) = rowN (pgOf bs))
include hbs h1l h1b hm ha0 e1 e2
theorem fin13 {n19 : Int} (hn : ¬ (n19 < 32) ∨ ¬ ((IntKind.i64.wrap bt).tmod (600 : Int) < 512)) : ldt_at0 okT trT xb (rowN bs) bt mk n19 (rowN pg1) (.bool true) [] := by
  have hE := pg_row bs
  have hpl := pg_len bs
  have hpb := pg_lt hbs
  have hrl : (rowN (pgOf bs)).length = 64 := by rw [len_row, hpl]
  have h1r : (rowN pg1).length = 64 := by rw [len_row, h1l]
  have e3 : trT (-1) 1 (rowN (pgOf bs)) = rowN (pgOf bs) := rfl
  have t1 : Ret P T 44 _ _ _ _ := turn44 (hi := 2) (op := 4) (wr := 2) (sn := 4) (flat_row (pgOf bs)) h1l h1b ((IntKind.i64.wrap bt).tmod (600 : Int)) mk hm
  rw [e2] at t1
  have t2 : Ret P T 44 _ _ _ _ := turn44 (hi := 2) (op := 4) (wr := 2) (sn := 4) (flat_row (pgOf bs)) hpl hpb (-1) 1 ⟨by omega, by omega⟩
  rw [e3] at t2
  have t3 : Ret P T 44 _ _ _ _ := none44 (hi := 2) (op := 4) (wr := 2) (sn := 4) (bt := 0) (mk := 1) (flat_row (pgOf bs)) (flat_row (pgOf bs))
  have k1 : Ret P T 42 _ _ _ _ := lk42a (flat_row (pgOf bs)) (flat_row (pgOf bs)) hrl (all_row _)
  have k2 : Ret P T 42 _ _ _ _ := lk42b (flat_row pg1) (flat_row (pgOf bs)) hrl (all_row _)
  have ok : okT ((IntKind.i64.wrap bt).tmod (600 : Int)) = decide ((IntKind.i64.wrap bt).tmod (600 : Int) < 512) := by
    unfold okT
    exact decide_eq_decide.2 ⟨fun h => h.2, fun h => ⟨ha0, h⟩⟩
  by_cases hlt : n19 < 32
  · have hna : ¬ ((IntKind.i64.wrap bt).tmod (600 : Int) < 512) := hn.resolve_left (fun h => h hlt)
    have key := @ldt_0_3 okT trT xb (rowN bs) bt mk n19 (rowN pg1)
    rw [hE, e1, e2, e3, tk0 hpl, tk0 h1l, hrl, tk1 h1l] at key
    exact key hlt hna ok rfl rfl (flat_row _) (flat_row _) flF (flat_row _) t2 t3 rfl (byt_row hpb) rfl (byt_row hpb) k1 (flat_row _) t1 h1r (byt_row h1b) h1r (byt_row h1b) k2
  · have key := @ldt_0_4 okT trT xb (rowN bs) bt mk n19 (rowN pg1)
    rw [hE, e1, e2, e3, tk0 hpl, tk0 h1l, hrl, tk1 h1l] at key
    exact key hlt ok rfl rfl (flat_row _) (flat_row _) flF (flat_row _) t2 t3 rfl (byt_row hpb) rfl (byt_row hpb) k1 (flat_row _) t1 h1r (byt_row h1b) h1r (byt_row h1b) k2
end

theorem wrap_u64 {n : Int} (h : 0 ≤ n ∧ n < 18446744073709551616) : IntKind.u64.wrap n = n := by
  unfold IntKind.wrap
  have h8 : IntKind.u64.bits = 64 := rfl
  have hs : IntKind.u64.signed = false := rfl
  simp [h8, hs]
  omega
theorem law13 (xb : Bool) {bs : List Nat} (hbs : ∀ x ∈ bs, x < 256) (bt mk : Int) (hbt : 0 ≤ bt ∧ bt ≤ 65535) (hm : 0 ≤ mk ∧ mk < 4294967296) :
    Ret P T 13 [.slice xb (rowN bs) none, .int .u16 bt, .int .u32 mk] [] (.bool true) [] := by
  obtain ⟨m, rfl⟩ : ∃ m : Nat, mk = (m : Int) := ⟨mk.toNat, by omega⟩
  have hw : IntKind.i64.wrap bt = bt := wrap_i64 ⟨by omega, by omega⟩
  obtain ⟨a, ha⟩ : ∃ a : Nat, (IntKind.i64.wrap bt).tmod (600 : Int) = (a : Int) := ⟨((IntKind.i64.wrap bt).tmod (600 : Int)).toNat, by
    have := Int.tmod_nonneg (a := IntKind.i64.wrap bt) 600 (by rw [hw]; omega)
    omega⟩
  have ha6 : a < 600 := by
    have := Int.tmod_lt_of_pos (IntKind.i64.wrap bt) (b := 600) (by omega)
    omega
  have hE := pg_row bs
  have hpl := pg_len bs
  have hpb := pg_lt hbs
  have hrl : (rowN (pgOf bs)).length = 64 := by rw [len_row, hpl]
  have ha0 : 0 ≤ (IntKind.i64.wrap bt).tmod (600 : Int) := by rw [ha]; omega
  obtain ⟨pg1, hpg1, h1l, h1b, e1, e2⟩ : ∃ pg1 : List Nat, (a < 512 → pg1 = trn m a 32 (pgOf bs)) ∧ pg1.length = 64 ∧ (∀ x ∈ pg1, x < 256) ∧
      trT ((IntKind.i64.wrap bt).tmod (600 : Int)) (m : Int) (rowN (pgOf bs)) = rowN pg1 ∧ trT ((IntKind.i64.wrap bt).tmod (600 : Int)) (m : Int) (rowN pg1) = rowN (pgOf bs) := by
    rw [ha]
    by_cases h : a < 512
    · have ok : okT (a : Int) = true := by unfold okT; rw [decide_eq_true]; omega
      refine ⟨trn m a 32 (pgOf bs), fun _ => rfl, by rw [trn_len, hpl], trn_lt hpb, ?_, ?_⟩
      · unfold trT; rw [ok, un_row]; simp
      · unfold trT; rw [ok, un_row]; simp [trn_trn]
    · have ok : okT (a : Int) = false := by unfold okT; rw [decide_eq_false]; omega
      refine ⟨pgOf bs, fun q => absurd q h, hpl, hpb, ?_, ?_⟩
      · unfold trT; rw [ok]; rfl
      · unfold trT; rw [ok]; rfl
  have hz : List.replicate 64 [D.int .u8 (0 : Int)] = z64 := rfl
  -- the loop
  have main : ∀ eh0 : Es, eh0 = rowN (pgOf bs) → ldt_at0 okT trT xb (rowN bs) bt (m : Int) (0 : Int) eh0 (.bool true) [] := by
    rintro _ rfl
    by_cases h5 : a < 512
    · have loop : ∀ (k i : Nat), i + k = 32 → ldt_at0 okT trT xb (rowN bs) bt (m : Int) (i : Int) (rowN (trn m a i (pgOf bs))) (.bool true) [] := by
        intro k
        induction k with
        | zero =>
          intro i hi
          obtain rfl : i = 32 := by omega
          rw [← hpg1 h5]
          exact fin13 hbs h1l h1b hm ha0 e1 e2 (.inl (by omega))
        | succ k ih =>
          intro i hi
          have g := ih (i + 1) (by omega)
          have e5 : IntKind.i64.wrap ((i : Int) + 1) = ((i + 1 : Nat) : Int) := by rw [wrap_i64 ⟨by omega, by omega⟩]; omega
          rw [← e5] at g
          have u1 : IntKind.u64.wrap (i : Int) = (i : Int) := wrap_u64 ⟨by omega, by omega⟩
          have hsum : IntKind.i64.wrap ((a : Int) + (i : Int)) = ((a + i : Nat) : Int) := by rw [wrap_i64 ⟨by omega, by omega⟩]; omega
          have hbit : andW .u32 (shrW .u32 (m : Int) (IntKind.u64.wrap (i : Int))) (1 : Int) = ((if m.testBit i then 1 else 0 : Nat) : Int) := by rw [u1]; exact and_bit (by omega) (by omega)
          by_cases hb : m.testBit i = true
          · by_cases hlt : a + i < 512
            · have hj : (a + i) / 8 < (trn m a i (pgOf bs)).length := by rw [trn_len, hpl]; omega
              obtain ⟨x, hx⟩ : ∃ x, (trn m a i (pgOf bs))[(a + i) / 8]? = some x := ⟨_, List.getElem?_eq_getElem hj⟩
              have hx8 : x < 256 := trn_lt hpb x (List.mem_of_getElem? hx)
              have e2' : IntKind.i64.wrap ((((a + i : Nat) : Int)).tdiv 8) = (((a + i) / 8 : Nat) : Int) := by
                rw [Int.tdiv_eq_ediv_of_nonneg (by omega), wrap_i64 ⟨by omega, by omega⟩]; omega
              have e3' : (((a + i : Nat) : Int)).tmod 8 = (((a + i) % 8 : Nat) : Int) := by
                rw [Int.tmod_eq_emod_of_nonneg (by omega)]; omega
              have u3 : IntKind.u64.wrap ((((a + i) % 8 : Nat)) : Int) = (((a + i) % 8 : Nat) : Int) := wrap_u64 ⟨by omega, by omega⟩
              have hsh : shlW .u8 (1 : Int) ((((a + i) % 8 : Nat)) : Int) = ((2 ^ ((a + i) % 8) : Nat) : Int) := by
                have := shl_byte (b := 1) (r := (a + i) % 8) (by omega) (Nat.mod_lt _ (by omega))
                rw [Nat.one_mul] at this
                exact this
              have hp : 2 ^ ((a + i) % 8) < 256 := Nat.pow_lt_pow_right (m := (a + i) % 8) (n := 8) (by omega) (Nat.mod_lt _ (by omega))
              have hset : (rowN (trn m a i (pgOf bs))).set ((a + i) / 8) [D.int .u8 (xorW .u8 (x : Int) ((2 ^ ((a + i) % 8) : Nat) : Int))] = rowN (trn m a (i + 1) (pgOf bs)) := by
                rw [xor_byte hx8 hp, row_set, trn_set hb hlt hx]
              have hat := row_at hx
              have key := @ldt_0_0 okT trT xb (rowN bs) bt (m : Int) (i : Int) (rowN (trn m a i (pgOf bs))) (x : Int) (x : Int) (.bool true) []
              rw [hE, e1, tk0 hpl, hrl, ha, hsum, e2', e3', u3, hsh, show (0 : Nat) + ((((a + i) / 8 : Nat)) : Int).toNat = (a + i) / 8 by omega, hset] at key
              exact key (by omega) (by omega) (by rw [hbit, if_pos hb]; rfl) (by omega) (flat_row _) (flat_row _) flF (flat_row _) hat ⟨by omega, by omega⟩ (by omega) hat (by rw [u1]; omega) g
            · have key := @ldt_0_1 okT trT xb (rowN bs) bt (m : Int) (i : Int) (rowN (trn m a i (pgOf bs))) (.bool true) []
              rw [hE, e1, ha, hsum] at key
              rw [trn_skip (fun h => hlt h.2)] at g
              exact key (by omega) (by omega) (by rw [hbit, if_pos hb]; rfl) (by omega) (flat_row _) (flat_row _) flF (flat_row _) (by rw [u1]; omega) g
          · have key := @ldt_0_2 okT trT xb (rowN bs) bt (m : Int) (i : Int) (rowN (trn m a i (pgOf bs))) (.bool true) []
            rw [hE, e1, ha] at key
            rw [trn_skip (fun h => hb h.1)] at g
            exact key (by omega) (by omega) (by rw [hbit, if_neg hb]; show ((0 : Nat) : Int) ≠ 1; omega) (flat_row _) (flat_row _) flF (flat_row _) (by rw [u1]; omega) g
      have g := loop 32 0 (by omega)
      rw [trn_zero] at g
      exact g
    · have e : rowN (pgOf bs) = rowN pg1 := by
        rw [← e1, ha]
        unfold trT
        have ok : okT (a : Int) = false := by unfold okT; rw [decide_eq_false]; omega
        rw [ok]; rfl
      rw [e]
      exact fin13 hbs h1l h1b hm ha0 e1 e2 (.inr (by rw [ha]; omega))
  have t1 : Ret P T 44 _ _ _ _ := turn44 (hi := 2) (op := 4) (wr := 2) (sn := 4) (flat_row (pgOf bs)) hpl hpb ((IntKind.i64.wrap bt).tmod (600 : Int)) (m : Int) hm
  rw [e1] at t1
  have k1 : Ret P T 42 _ _ _ _ := lk42a (flat_row pg1) (flat_row (pgOf bs)) (by rw [len_row, h1l]) (all_row _)
  have w1 : Ret P T 39 _ _ _ _ := wr39a (xs := List.replicate 64 [D.int .u8 (0 : Int)]) (ys := List.replicate 64 [D.int .u8 (0 : Int)]) flat_z flat_z (flat_row (pgOf bs)) hrl (all_row _)
  have w2 : Ret P T 39 _ _ _ _ := wr39b (xs := rowN (pgOf bs)) (ys := List.replicate 64 [D.int .u8 (0 : Int)]) (flat_row _) flat_z (flat_row (pgOf bs)) hrl (all_row _)
  have key := @ldt_in_0 okT trT xb (rowN bs) bt (m : Int) (.bool true) []
  rw [hE, e1, tk0 hpl, hrl] at key
  exact key (flat_row _) (flat_row _) flF (flat_row _) rfl ⟨rfl, by omega, Nat.le_refl _, by omega, all_row _⟩ k1 t1 flat_z w2 w1 ⟨by omega, all_row _⟩ (al38b flat_z) al38a new37 awake36 (main _ rfl)

end Go.Proofs.Ytifpbdhggooelaa.dsk
