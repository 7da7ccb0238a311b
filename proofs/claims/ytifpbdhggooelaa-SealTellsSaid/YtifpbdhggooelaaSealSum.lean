/- The sum of bytes, the program's and the reference's: what both reckon. -/
import Derived.Test.YtifpbdhggooelaaRows
import Derived.Test.YtifpbdhggooelaaGd30
namespace Go.Proofs.Ytifpbdhggooelaa.sealk
open Go Ytifpbdhggooelaa.GD
set_option linter.unusedVariables false
set_option linter.unusedSimpArgs false

abbrev Es := List (List D)
noncomputable def c0 : Cf := { P := Try.prog, T := tyOf Try.prog, hint := fun _ _ _ => .sym, room := fun _ _ => 2, meth := fun _ _ => none, ct := fun _ _ _ => none, stop := true }
theorem c0Ok : CfOk c0 where
  hT := fun _ _ h => h
  hm := by kernel_rfl
  meth := fun _ _ _ h => by simp only [c0] at h; cases h
  ct := fun _ _ _ _ _ _ h => by simp only [c0] at h; cases h
noncomputable def bodyOf (f : Nat) : Code := match Try.prog.funcs[f]? with | some fn => (match fn.body with | some c => c | none => .skip) | none => .skip
noncomputable def fnOf (f : Nat) : Func := match Try.prog.funcs[f]? with | some fn => fn | none => default
noncomputable def cf (n : Int) : Cf := { P := Try.prog, T := tyOf Try.prog, hint := fun f r o => match f, r, o with | 32, 4, 0 => .c [.int .u8 n] | 33, 5, 3 => .c [.int .u8 n] | _, _, _ => .sym, room := fun _ _ => 2, meth := fun _ _ => none, ct := fun _ _ _ => none, stop := true }
theorem cfOk (n : Int) : CfOk (cf n) where
  hT := fun _ _ h => h
  hm := by kernel_rfl
  meth := fun _ _ _ h => by simp only [cf] at h; cases h
  ct := fun _ _ _ _ _ _ h => by simp only [cf] at h; cases h
noncomputable def go (f : Nat) (n : Int) (cur : Cur) (k : List It) (s : St) (or : GD.Or) := runE (cf n) (callE (cf n) 100000 10) f 100000 cur k s or []
noncomputable def st0 (f : Nat) := go f 0 (.code (bodyOf f)) [] (beginE (fnOf f) [.slice false [] none] []) (.path [])
noncomputable def lc1 (f : Nat) : Code := stC (st0 f)
noncomputable def lk1 (f : Nat) : List It := stK (st0 f)

/-! ### what is reckoned -/
def xorU (a b : Int) : Int := IntKind.u32.wrap ↑(BitVec.ofInt IntKind.u32.bits a ^^^ BitVec.ofInt IntKind.u32.bits b).toNat
def lowU (s : Int) : Int := IntKind.u32.wrap ↑(BitVec.ofInt IntKind.u32.bits s &&& BitVec.ofInt IntKind.u32.bits (1 : Int)).toNat
def shrU (s : Int) : Int := s.fdiv ((2 : Int) ^ min (Int.toNat (1 : Int)) IntKind.u32.bits)
def bitU (s : Int) : Int := if (lowU s == 1) = true then xorU (shrU s) 2197175160 else shrU s
def bitsU : Nat → Int → Int
  | 0, s => s
  | k + 1, s => bitsU k (bitU s)
def byteU (s n : Int) : Int := bitsU 8 (xorU s (IntKind.u32.wrap n))
def foldU : Int → List Int → Int
  | s, [] => s
  | s, n :: r => foldU (byteU s n) r
def sumU (l : List Int) : Int := xorU (if IntKind.u32.signed = true then (-1 : Int) else IntKind.u32.max) (foldU 4294967295 l)

def rows (l : List Int) : Es := l.map fun x => [D.int .u8 x]
theorem rows_get {l : List Int} {i : Nat} (h : i < l.length) : (rows l)[i]? = some [.int .u8 l[i]] := by
  simp [rows, List.getElem?_map, List.getElem?_eq_getElem h]
theorem up {i n : Nat} (h : i < n) (hn : n ≤ maxLen) : IntKind.i64.wrap ((i : Int) + 1) = ((i + 1 : Nat) : Int) := by
  have : maxLen ≤ 9223372036854775807 := by decide
  rw [wrap_i64 (by omega)]
  omega

noncomputable def i32 (xb : Bool) (eb : Es) (s i : Int) : St := ⟨[.undef, .undef, .undef, .int .u32 s, .undef, .undef, .undef, .slice xb eb none, .int .i64 eb.length, .int .i64 i] ++ List.replicate 21 .undef, []⟩
noncomputable def j32 (xb : Bool) (eb : Es) (s i t : Int) : St := ⟨[.undef, .undef, .undef, .int .u32 s, .undef, .undef, .undef, .slice xb eb none, .int .i64 eb.length, .int .i64 i, .undef, .undef, .undef, .undef, .undef, .undef, .undef, .int .i64 t] ++ List.replicate 13 .undef, []⟩
noncomputable def i33 (xb : Bool) (eb : Es) (s i : Int) : St := ⟨[.slice xb eb none, .undef, .undef, .int .u32 s, .int .i64 i] ++ List.replicate 29 .undef, []⟩
noncomputable def j33 (xb : Bool) (eb : Es) (s i t : Int) : St := ⟨[.slice xb eb none, .undef, .undef, .int .u32 s, .int .i64 i, .int .i64 t] ++ List.replicate 28 .undef, []⟩
noncomputable def lcI (f : Nat) : Code := match f with | 32 => stC (go 32 0 (.code (lc1 32)) [] (i32 false [[.int .u8 0]] 0 0) (.path [true])) | _ => stC (go 33 0 (.code (lc1 33)) [] (i33 false [[.int .u8 0]] 0 0) (.path [true]))
noncomputable def lkI (f : Nat) : List It := match f with | 32 => stK (go 32 0 (.code (lc1 32)) [] (i32 false [[.int .u8 0]] 0 0) (.path [true])) | _ => stK (go 33 0 (.code (lc1 33)) [] (i33 false [[.int .u8 0]] 0 0) (.path [true]))

/-! ### function 32 -/
noncomputable def d32 (xb : Bool) (eb : Es) (s i t : Int) (or : GD.Or) := go 32 0 (.code (lcI 32)) [] (j32 xb eb s i t) or
theorem d32_0 (xb : Bool) (eb : Es) (s : Int) (i : Int) (t : Int)
    (h0 : decide (t < (8 : Int)) = true)
    (h1 : (IntKind.u32.wrap ↑(BitVec.ofInt IntKind.u32.bits s &&& BitVec.ofInt IntKind.u32.bits (1 : Int)).toNat == (1 : Int)) =
  true)
    (h2 : (0 : Int) ≤ (1 : Int)) :
    RoadOk c0.P c0.T 0 (.code (lcI 32)) [] (j32 xb eb s i t) (Ex.normal) [3, 7, 8, 9, 17] 0 ([D.undef, D.undef, D.undef,
  D.int IntKind.u32
    (IntKind.u32.wrap
      ↑(BitVec.ofInt IntKind.u32.bits (s.fdiv ((2 : Int) ^ min (Int.toNat (1 : Int)) IntKind.u32.bits)) ^^^
            BitVec.ofInt IntKind.u32.bits (2197175160 : Int)).toNat),
  D.undef, D.undef, D.undef, D.slice xb eb none, D.int IntKind.i64 ↑(List.length eb), D.int IntKind.i64 i, D.undef,
  D.undef, D.undef, D.undef, D.undef, D.undef, D.undef, D.int IntKind.i64 (IntKind.i64.wrap (t + (1 : Int)))] ++ List.replicate 13 .undef) [] :=
  road_fin (cfOk _) (show cutF [3, 7, 8, 9, 17] 0 (d32 xb eb s i t (.path [true, true])) = some (Ex.normal, [D.undef, D.undef, D.undef,
  D.int IntKind.u32
    (IntKind.u32.wrap
      ↑(BitVec.ofInt IntKind.u32.bits (s.fdiv ((2 : Int) ^ min (Int.toNat (1 : Int)) IntKind.u32.bits)) ^^^
            BitVec.ofInt IntKind.u32.bits (2197175160 : Int)).toNat),
  D.undef, D.undef, D.undef, D.slice xb eb none, D.int IntKind.i64 ↑(List.length eb), D.int IntKind.i64 i, D.undef,
  D.undef, D.undef, D.undef, D.undef, D.undef, D.undef, D.int IntKind.i64 (IntKind.i64.wrap (t + (1 : Int)))] ++ List.replicate 13 .undef, [],
    [(IntKind.u32.wrap ↑(BitVec.ofInt IntKind.u32.bits s &&& BitVec.ofInt IntKind.u32.bits (1 : Int)).toNat == (1 : Int)) =
  true,
      (0 : Int) ≤ (1 : Int),
      decide (t < (8 : Int)) = true]) by kernel_rfl) (by simp only [all_cons, all_nil, *]; simp)

theorem d32_1 (xb : Bool) (eb : Es) (s : Int) (i : Int) (t : Int)
    (h0 : decide (t < (8 : Int)) = true)
    (h1 : (IntKind.u32.wrap ↑(BitVec.ofInt IntKind.u32.bits s &&& BitVec.ofInt IntKind.u32.bits (1 : Int)).toNat == (1 : Int)) =
  false)
    (h2 : (0 : Int) ≤ (1 : Int)) :
    RoadOk c0.P c0.T 0 (.code (lcI 32)) [] (j32 xb eb s i t) (Ex.normal) [3, 7, 8, 9, 17] 0 ([D.undef, D.undef, D.undef, D.int IntKind.u32 (s.fdiv ((2 : Int) ^ min (Int.toNat (1 : Int)) IntKind.u32.bits)),
  D.undef, D.undef, D.undef, D.slice xb eb none, D.int IntKind.i64 ↑(List.length eb), D.int IntKind.i64 i, D.undef,
  D.undef, D.undef, D.undef, D.undef, D.undef, D.undef, D.int IntKind.i64 (IntKind.i64.wrap (t + (1 : Int)))] ++ List.replicate 13 .undef) [] :=
  road_fin (cfOk _) (show cutF [3, 7, 8, 9, 17] 0 (d32 xb eb s i t (.path [true, false])) = some (Ex.normal, [D.undef, D.undef, D.undef, D.int IntKind.u32 (s.fdiv ((2 : Int) ^ min (Int.toNat (1 : Int)) IntKind.u32.bits)),
  D.undef, D.undef, D.undef, D.slice xb eb none, D.int IntKind.i64 ↑(List.length eb), D.int IntKind.i64 i, D.undef,
  D.undef, D.undef, D.undef, D.undef, D.undef, D.undef, D.int IntKind.i64 (IntKind.i64.wrap (t + (1 : Int)))] ++ List.replicate 13 .undef, [],
    [(IntKind.u32.wrap ↑(BitVec.ofInt IntKind.u32.bits s &&& BitVec.ofInt IntKind.u32.bits (1 : Int)).toNat == (1 : Int)) =
  false,
      (0 : Int) ≤ (1 : Int),
      decide (t < (8 : Int)) = true]) by kernel_rfl) (by simp only [all_cons, all_nil, *]; simp)

theorem d32_2 (xb : Bool) (eb : Es) (s : Int) (i : Int) (t : Int)
    (h0 : decide (t < (8 : Int)) = false) :
    RoadOk c0.P c0.T 0 (.code (lcI 32)) [] (j32 xb eb s i t) (Ex.exit (2 : Nat)) [3, 7, 8, 9, 17] 0 ([D.undef, D.undef, D.undef, D.int IntKind.u32 s, D.undef, D.undef, D.undef, D.slice xb eb none,
  D.int IntKind.i64 ↑(List.length eb), D.int IntKind.i64 i, D.undef, D.undef, D.undef, D.undef, D.undef, D.undef,
  D.undef, D.int IntKind.i64 t] ++ List.replicate 13 .undef) [] :=
  road_fin (cfOk _) (show cutF [3, 7, 8, 9, 17] 0 (d32 xb eb s i t (.path [false])) = some (Ex.exit (2 : Nat), [D.undef, D.undef, D.undef, D.int IntKind.u32 s, D.undef, D.undef, D.undef, D.slice xb eb none,
  D.int IntKind.i64 ↑(List.length eb), D.int IntKind.i64 i, D.undef, D.undef, D.undef, D.undef, D.undef, D.undef,
  D.undef, D.int IntKind.i64 t] ++ List.replicate 13 .undef, [],
    [decide (t < (8 : Int)) = false]) by kernel_rfl) (by simp only [all_cons, all_nil, *]; simp)


theorem x32 (xb : Bool) (eb : Es) (s i t : Int) : cutF [3, 7, 8, 9] 0 (go 32 0 (.done (.exit 2)) (lkI 32) (j32 xb eb s i t) (.path [])) = some (.normal, (i32 xb eb s (IntKind.i64.wrap (i + 1))).env, [], []) := by kernel_rfl
theorem b32 (xb : Bool) (eb : Es) (s i n : Int) : cutS [3, 7, 8, 9, 17] 0 (go 32 n (.code (lc1 32)) [] (i32 xb eb s i) (.path [true])) = some (lcI 32, lkI 32, (j32 xb eb (xorU s (IntKind.u32.wrap n)) i 0).env, [], [0 ≤ i, eb[i.toNat]? = some [.int .u8 n], decide (i < eb.length) = true]) := by kernel_rfl
theorem o32 (xb : Bool) (eb : Es) (s i : Int) : cutF [3, 7, 8, 9] 0 (go 32 0 (.code (lc1 32)) [] (i32 xb eb s i) (.path [false])) = some (.exit 0, (i32 xb eb s i).env, [], [decide (i < eb.length) = false]) := by kernel_rfl
def out32 (r : Int) : List D := [.undef, .undef, .int .u32 r] ++ List.replicate 28 .undef
theorem e32 (xb : Bool) (eb : Es) (s i : Int) : cutF [2] 0 (go 32 0 (.done (.exit 0)) (lk1 32) (i32 xb eb s i) (.path [])) = some (.ret, out32 (xorU (if IntKind.u32.signed = true then (-1 : Int) else IntKind.u32.max) s), [], []) := by kernel_rfl
theorem s32 (xb : Bool) (eb : Es) : cutS [3, 7, 8, 9] 0 (go 32 0 (.code (bodyOf 32)) [] (beginE (fnOf 32) [.slice xb eb none] []) (.path [])) = some (lc1 32, lk1 32, (i32 xb eb 4294967295 0).env, [], []) := by kernel_rfl
theorem ranI32 : runsK (.exit 2) (lkI 32) = true := by kernel_rfl
theorem ran32 : runsK (.exit 0) (lk1 32) = true := by kernel_rfl

theorem inner32 (xb : Bool) (eb : Es) (i : Int) : ∀ (k : Nat) (s t : Int), t + k = 8 → 0 ≤ t →
    ∃ s2, Ev c0.P c0.T (.code 0 (.loop (lcI 32)) (j32 xb eb s i t) (.exit 2) s2) ∧ RestOk c0.P c0.T 0 (.exit 2) (lkI 32) s2 .normal [3, 7, 8, 9] 0 (i32 xb eb (bitsU k s) (IntKind.i64.wrap (i + 1))).env [] := by
  intro k
  induction k with
  | zero =>
    intro s t h h0
    have e := d32_2 xb eb s i t (by simp; omega)
    exact loop_left (cfOk 0) e (by simp) (Nat.zero_le _) ranI32 (x32 xb eb s i t) (by simp)
  | succ k ih =>
    intro s t h h0
    have hw : IntKind.i64.wrap (t + 1) = t + 1 := wrap_i64 (by omega)
    obtain ⟨s2, g1, g2⟩ := ih (bitU s) (t + 1) (by omega) (by omega)
    cases hb : (lowU s == 1) with
    | true =>
      have hs : bitU s = xorU (shrU s) 2197175160 := by unfold bitU; rw [if_pos hb]
      have e := d32_0 xb eb s i t (by simp; omega) hb (by omega)
      rw [hw] at e
      rw [hs] at g1
      exact ⟨s2, loop_again e (Nat.zero_le _) g1, by rw [show bitsU (k + 1) s = bitsU k (bitU s) from rfl]; exact g2⟩
    | false =>
      have hs : bitU s = shrU s := by unfold bitU; rw [if_neg (by simp [hb])]
      have e := d32_1 xb eb s i t (by simp; omega) hb (by omega)
      rw [hw] at e
      rw [hs] at g1
      exact ⟨s2, loop_again e (Nat.zero_le _) g1, by rw [show bitsU (k + 1) s = bitsU k (bitU s) from rfl]; exact g2⟩

theorem byte32 (xb : Bool) (l : List Int) (hl : l.length ≤ maxLen) (s : Int) (i : Nat) (hi : i < l.length) :
    RoadOk c0.P c0.T 0 (.code (lc1 32)) [] (i32 xb (rows l) s i) .normal [3, 7, 8, 9] 0 (i32 xb (rows l) (byteU s l[i]) (i + 1 : Nat)).env [] := by
  obtain ⟨s2, g1, g2⟩ := inner32 xb (rows l) i 8 (xorU s (IntKind.u32.wrap l[i])) 0 (by omega) (by omega)
  rw [up hi hl] at g2
  refine road_loop (n := 0) (cfOk l[i]) (b32 xb (rows l) s i l[i]) ?_ (Nat.zero_le _) g1 g2
  simp only [all_cons, all_nil]
  refine ⟨by omega, by simpa using rows_get hi, by simp [rows]; omega, trivial⟩

theorem all32 (xb : Bool) (l : List Int) (hl : l.length ≤ maxLen) : ∀ (m i : Nat) (s : Int), i + m = l.length →
    ∃ s2, Ev c0.P c0.T (.code 0 (.loop (lc1 32)) (i32 xb (rows l) s i) (.exit 0) s2) ∧ RestOk c0.P c0.T 0 (.exit 0) (lk1 32) s2 .ret [2] 0 (out32 (xorU (if IntKind.u32.signed = true then (-1 : Int) else IntKind.u32.max) (foldU s (l.drop i)))) [] := by
  intro m
  induction m with
  | zero =>
    intro i s hi
    have e := road_fin (n := 0) (cfOk 0) (o32 xb (rows l) s i) (by simp only [all_cons, all_nil]; simp [rows]; omega)
    have hd : l.drop i = [] := List.drop_of_length_le (by omega)
    rw [hd]
    exact loop_left (cfOk 0) e (by simp) (Nat.zero_le _) ran32 (e32 xb (rows l) s i) (by simp)
  | succ m ih =>
    intro i s hi
    have hlt : i < l.length := by omega
    obtain ⟨s2, g1, g2⟩ := ih (i + 1) (byteU s l[i]) (by omega)
    have hd : foldU s (l.drop i) = foldU (byteU s l[i]) (l.drop (i + 1)) := by rw [List.drop_eq_getElem_cons hlt]; rfl
    rw [hd]
    exact ⟨s2, loop_again (byte32 xb l hl s i hlt) (Nat.zero_le _) g1, g2⟩

theorem body32 : Try.prog.funcs[32]? = some (fnOf 32) := by kernel_rfl
theorem code32 : (fnOf 32).body = some (bodyOf 32) := by kernel_rfl
theorem name32 : ((fnOf 32).name == "runtime.NumGoroutine") = false := by kernel_rfl
theorem res32 : (fnOf 32).results = #[.tmp 2] := by kernel_rfl
theorem get32 (r : Int) : (out32 r).getD 2 .undef = .int .u32 r := by kernel_rfl

/-- Sum hands back the sum. -/
theorem sum32 (xb : Bool) (l : List Int) (hl : l.length ≤ maxLen) : ∃ X, Ev c0.P c0.T (.call 32 [.slice xb (rows l) none] [] (.int .u32 (sumU l)) ([] ++ X)) := by
  obtain ⟨s2, g1, g2⟩ := all32 xb l hl l.length 0 4294967295 (by omega)
  have := call_road (H0 := []) body32 code32 name32 (.inr rfl) res32 rfl (road_loop (n := 0) (cfOk 0) (s32 xb (rows l)) (by simp) (Nat.zero_le _) g1 g2)
  rw [get32, List.drop_zero] at this
  obtain ⟨H1, hev⟩ := this
  exact ⟨H1, hev⟩

/-! ### function 33 -/
noncomputable def d33 (xb : Bool) (eb : Es) (s i t : Int) (or : GD.Or) := go 33 0 (.code (lcI 33)) [] (j33 xb eb s i t) or
theorem d33_0 (xb : Bool) (eb : Es) (s : Int) (i : Int) (t : Int)
    (h0 : decide (t < (8 : Int)) = true)
    (h1 : (IntKind.u32.wrap ↑(BitVec.ofInt IntKind.u32.bits s &&& BitVec.ofInt IntKind.u32.bits (1 : Int)).toNat == (1 : Int)) =
  true)
    (h2 : (0 : Int) ≤ (1 : Int)) :
    RoadOk c0.P c0.T 0 (.code (lcI 33)) [] (j33 xb eb s i t) (Ex.normal) [0, 3, 4, 5] 0 ([D.slice xb eb none, D.undef, D.undef,
  D.int IntKind.u32
    (IntKind.u32.wrap
      ↑(BitVec.ofInt IntKind.u32.bits (s.fdiv ((2 : Int) ^ min (Int.toNat (1 : Int)) IntKind.u32.bits)) ^^^
            BitVec.ofInt IntKind.u32.bits (2197175160 : Int)).toNat),
  D.int IntKind.i64 i, D.int IntKind.i64 (IntKind.i64.wrap (t + (1 : Int)))] ++ List.replicate 28 .undef) [] :=
  road_fin (cfOk _) (show cutF [0, 3, 4, 5] 0 (d33 xb eb s i t (.path [true, true])) = some (Ex.normal, [D.slice xb eb none, D.undef, D.undef,
  D.int IntKind.u32
    (IntKind.u32.wrap
      ↑(BitVec.ofInt IntKind.u32.bits (s.fdiv ((2 : Int) ^ min (Int.toNat (1 : Int)) IntKind.u32.bits)) ^^^
            BitVec.ofInt IntKind.u32.bits (2197175160 : Int)).toNat),
  D.int IntKind.i64 i, D.int IntKind.i64 (IntKind.i64.wrap (t + (1 : Int)))] ++ List.replicate 28 .undef, [],
    [(IntKind.u32.wrap ↑(BitVec.ofInt IntKind.u32.bits s &&& BitVec.ofInt IntKind.u32.bits (1 : Int)).toNat == (1 : Int)) =
  true,
      (0 : Int) ≤ (1 : Int),
      decide (t < (8 : Int)) = true]) by kernel_rfl) (by simp only [all_cons, all_nil, *]; simp)

theorem d33_1 (xb : Bool) (eb : Es) (s : Int) (i : Int) (t : Int)
    (h0 : decide (t < (8 : Int)) = true)
    (h1 : (IntKind.u32.wrap ↑(BitVec.ofInt IntKind.u32.bits s &&& BitVec.ofInt IntKind.u32.bits (1 : Int)).toNat == (1 : Int)) =
  false)
    (h2 : (0 : Int) ≤ (1 : Int)) :
    RoadOk c0.P c0.T 0 (.code (lcI 33)) [] (j33 xb eb s i t) (Ex.normal) [0, 3, 4, 5] 0 ([D.slice xb eb none, D.undef, D.undef,
  D.int IntKind.u32 (s.fdiv ((2 : Int) ^ min (Int.toNat (1 : Int)) IntKind.u32.bits)), D.int IntKind.i64 i,
  D.int IntKind.i64 (IntKind.i64.wrap (t + (1 : Int)))] ++ List.replicate 28 .undef) [] :=
  road_fin (cfOk _) (show cutF [0, 3, 4, 5] 0 (d33 xb eb s i t (.path [true, false])) = some (Ex.normal, [D.slice xb eb none, D.undef, D.undef,
  D.int IntKind.u32 (s.fdiv ((2 : Int) ^ min (Int.toNat (1 : Int)) IntKind.u32.bits)), D.int IntKind.i64 i,
  D.int IntKind.i64 (IntKind.i64.wrap (t + (1 : Int)))] ++ List.replicate 28 .undef, [],
    [(IntKind.u32.wrap ↑(BitVec.ofInt IntKind.u32.bits s &&& BitVec.ofInt IntKind.u32.bits (1 : Int)).toNat == (1 : Int)) =
  false,
      (0 : Int) ≤ (1 : Int),
      decide (t < (8 : Int)) = true]) by kernel_rfl) (by simp only [all_cons, all_nil, *]; simp)

theorem d33_2 (xb : Bool) (eb : Es) (s : Int) (i : Int) (t : Int)
    (h0 : decide (t < (8 : Int)) = false) :
    RoadOk c0.P c0.T 0 (.code (lcI 33)) [] (j33 xb eb s i t) (Ex.exit (2 : Nat)) [0, 3, 4, 5] 0 ([D.slice xb eb none, D.undef, D.undef, D.int IntKind.u32 s, D.int IntKind.i64 i, D.int IntKind.i64 t] ++ List.replicate 28 .undef) [] :=
  road_fin (cfOk _) (show cutF [0, 3, 4, 5] 0 (d33 xb eb s i t (.path [false])) = some (Ex.exit (2 : Nat), [D.slice xb eb none, D.undef, D.undef, D.int IntKind.u32 s, D.int IntKind.i64 i, D.int IntKind.i64 t] ++ List.replicate 28 .undef, [],
    [decide (t < (8 : Int)) = false]) by kernel_rfl) (by simp only [all_cons, all_nil, *]; simp)


theorem x33 (xb : Bool) (eb : Es) (s i t : Int) : cutF [0, 3, 4] 0 (go 33 0 (.done (.exit 2)) (lkI 33) (j33 xb eb s i t) (.path [])) = some (.normal, (i33 xb eb s (IntKind.i64.wrap (i + 1))).env, [], []) := by kernel_rfl
theorem b33 (xb : Bool) (eb : Es) (s i n : Int) : cutS [0, 3, 4, 5] 0 (go 33 n (.code (lc1 33)) [] (i33 xb eb s i) (.path [true])) = some (lcI 33, lkI 33, (j33 xb eb (xorU s (IntKind.u32.wrap n)) i 0).env, [], [0 ≤ i, eb[i.toNat]? = some [.int .u8 n], decide (i < eb.length) = true]) := by kernel_rfl
theorem o33 (xb : Bool) (eb : Es) (s i : Int) : cutF [0, 3, 4] 0 (go 33 0 (.code (lc1 33)) [] (i33 xb eb s i) (.path [false])) = some (.exit 0, (i33 xb eb s i).env, [], [decide (i < eb.length) = false]) := by kernel_rfl
def out33 (r : Int) : List D := [.undef, .undef, .int .u32 r] ++ List.replicate 31 .undef
theorem e33 (xb : Bool) (eb : Es) (s i : Int) : cutF [2] 0 (go 33 0 (.done (.exit 0)) (lk1 33) (i33 xb eb s i) (.path [])) = some (.ret, out33 (xorU (if IntKind.u32.signed = true then (-1 : Int) else IntKind.u32.max) s), [], []) := by kernel_rfl
theorem s33 (xb : Bool) (eb : Es) : cutS [0, 3, 4] 0 (go 33 0 (.code (bodyOf 33)) [] (beginE (fnOf 33) [.slice xb eb none] []) (.path [])) = some (lc1 33, lk1 33, (i33 xb eb 4294967295 0).env, [], []) := by kernel_rfl
theorem ranI33 : runsK (.exit 2) (lkI 33) = true := by kernel_rfl
theorem ran33 : runsK (.exit 0) (lk1 33) = true := by kernel_rfl

theorem inner33 (xb : Bool) (eb : Es) (i : Int) : ∀ (k : Nat) (s t : Int), t + k = 8 → 0 ≤ t →
    ∃ s2, Ev c0.P c0.T (.code 0 (.loop (lcI 33)) (j33 xb eb s i t) (.exit 2) s2) ∧ RestOk c0.P c0.T 0 (.exit 2) (lkI 33) s2 .normal [0, 3, 4] 0 (i33 xb eb (bitsU k s) (IntKind.i64.wrap (i + 1))).env [] := by
  intro k
  induction k with
  | zero =>
    intro s t h h0
    have e := d33_2 xb eb s i t (by simp; omega)
    exact loop_left (cfOk 0) e (by simp) (Nat.zero_le _) ranI33 (x33 xb eb s i t) (by simp)
  | succ k ih =>
    intro s t h h0
    have hw : IntKind.i64.wrap (t + 1) = t + 1 := wrap_i64 (by omega)
    obtain ⟨s2, g1, g2⟩ := ih (bitU s) (t + 1) (by omega) (by omega)
    cases hb : (lowU s == 1) with
    | true =>
      have hs : bitU s = xorU (shrU s) 2197175160 := by unfold bitU; rw [if_pos hb]
      have e := d33_0 xb eb s i t (by simp; omega) hb (by omega)
      rw [hw] at e
      rw [hs] at g1
      exact ⟨s2, loop_again e (Nat.zero_le _) g1, by rw [show bitsU (k + 1) s = bitsU k (bitU s) from rfl]; exact g2⟩
    | false =>
      have hs : bitU s = shrU s := by unfold bitU; rw [if_neg (by simp [hb])]
      have e := d33_1 xb eb s i t (by simp; omega) hb (by omega)
      rw [hw] at e
      rw [hs] at g1
      exact ⟨s2, loop_again e (Nat.zero_le _) g1, by rw [show bitsU (k + 1) s = bitsU k (bitU s) from rfl]; exact g2⟩

theorem byte33 (xb : Bool) (l : List Int) (hl : l.length ≤ maxLen) (s : Int) (i : Nat) (hi : i < l.length) :
    RoadOk c0.P c0.T 0 (.code (lc1 33)) [] (i33 xb (rows l) s i) .normal [0, 3, 4] 0 (i33 xb (rows l) (byteU s l[i]) (i + 1 : Nat)).env [] := by
  obtain ⟨s2, g1, g2⟩ := inner33 xb (rows l) i 8 (xorU s (IntKind.u32.wrap l[i])) 0 (by omega) (by omega)
  rw [up hi hl] at g2
  refine road_loop (n := 0) (cfOk l[i]) (b33 xb (rows l) s i l[i]) ?_ (Nat.zero_le _) g1 g2
  simp only [all_cons, all_nil]
  refine ⟨by omega, by simpa using rows_get hi, by simp [rows]; omega, trivial⟩

theorem all33 (xb : Bool) (l : List Int) (hl : l.length ≤ maxLen) : ∀ (m i : Nat) (s : Int), i + m = l.length →
    ∃ s2, Ev c0.P c0.T (.code 0 (.loop (lc1 33)) (i33 xb (rows l) s i) (.exit 0) s2) ∧ RestOk c0.P c0.T 0 (.exit 0) (lk1 33) s2 .ret [2] 0 (out33 (xorU (if IntKind.u32.signed = true then (-1 : Int) else IntKind.u32.max) (foldU s (l.drop i)))) [] := by
  intro m
  induction m with
  | zero =>
    intro i s hi
    have e := road_fin (n := 0) (cfOk 0) (o33 xb (rows l) s i) (by simp only [all_cons, all_nil]; simp [rows]; omega)
    have hd : l.drop i = [] := List.drop_of_length_le (by omega)
    rw [hd]
    exact loop_left (cfOk 0) e (by simp) (Nat.zero_le _) ran33 (e33 xb (rows l) s i) (by simp)
  | succ m ih =>
    intro i s hi
    have hlt : i < l.length := by omega
    obtain ⟨s2, g1, g2⟩ := ih (i + 1) (byteU s l[i]) (by omega)
    have hd : foldU s (l.drop i) = foldU (byteU s l[i]) (l.drop (i + 1)) := by rw [List.drop_eq_getElem_cons hlt]; rfl
    rw [hd]
    exact ⟨s2, loop_again (byte33 xb l hl s i hlt) (Nat.zero_le _) g1, g2⟩

theorem body33 : Try.prog.funcs[33]? = some (fnOf 33) := by kernel_rfl
theorem code33 : (fnOf 33).body = some (bodyOf 33) := by kernel_rfl
theorem name33 : ((fnOf 33).name == "runtime.NumGoroutine") = false := by kernel_rfl
theorem res33 : (fnOf 33).results = #[.tmp 2] := by kernel_rfl
theorem get33 (r : Int) : (out33 r).getD 2 .undef = .int .u32 r := by kernel_rfl

/-- Sum hands back the sum. -/
theorem sum33 (xb : Bool) (l : List Int) (hl : l.length ≤ maxLen) : ∃ X, Ev c0.P c0.T (.call 33 [.slice xb (rows l) none] [] (.int .u32 (sumU l)) ([] ++ X)) := by
  obtain ⟨s2, g1, g2⟩ := all33 xb l hl l.length 0 4294967295 (by omega)
  have := call_road (H0 := []) body33 code33 name33 (.inr rfl) res33 rfl (road_loop (n := 0) (cfOk 0) (s33 xb (rows l)) (by simp) (Nat.zero_le _) g1 g2)
  rw [get33, List.drop_zero] at this
  obtain ⟨H1, hev⟩ := this
  exact ⟨H1, hev⟩

end Go.Proofs.Ytifpbdhggooelaa.sealk
