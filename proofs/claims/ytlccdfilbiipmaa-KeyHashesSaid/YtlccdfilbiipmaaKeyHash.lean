/- The hash of bytes, the program's and the reference's: what both reckon. -/
import Derived.Test.YtlccdfilbiipmaaRows
import Derived.Test.YtlccdfilbiipmaaGd30
namespace Go.Proofs.Ytlccdfilbiipmaa.hashk
open Go Ytlccdfilbiipmaa.GD
set_option linter.unusedVariables false
set_option linter.unusedSimpArgs false

abbrev Es := List (List D)
noncomputable def c0 : Cf := { P := Try.prog, T := tyOf Try.prog, hint := fun _ _ _ => .sym, room := fun _ _ => 2, meth := fun _ _ => none, ct := fun _ _ _ => none, stop := true }
theorem c0Ok : CfOk c0 where
  hT := fun _ _ h => h
  hm := by kernel_rfl
  meth := fun _ _ _ h => by simp only [c0] at h; cases h
  ct := fun _ _ _ _ _ _ h => by simp only [c0] at h; cases h
noncomputable def bodyOf (f : Nat) : Code := match Try.prog.funcs[f]? with | some fn => (match fn.body with | some c => c | none => .skip) | none => .skip
noncomputable def fnOf (f : Nat) : Func := match Try.prog.funcs[f]? with | some fn => fn | none => default
noncomputable def cf (n : Int) : Cf := { P := Try.prog, T := tyOf Try.prog, hint := fun f r o => match f, r, o with | 12, 6, 3 => .c [.int .u8 n] | 13, 5, 0 => .c [.int .u8 n] | _, _, _ => .sym, room := fun _ _ => 2, meth := fun _ _ => none, ct := fun _ _ _ => none, stop := true }
theorem cfOk (n : Int) : CfOk (cf n) where
  hT := fun _ _ h => h
  hm := by kernel_rfl
  meth := fun _ _ _ h => by simp only [cf] at h; cases h
  ct := fun _ _ _ _ _ _ h => by simp only [cf] at h; cases h
noncomputable def go (f : Nat) (n : Int) (cur : Cur) (k : List It) (s : St) (or : GD.Or) := runE (cf n) (callE (cf n) 100000 10) f 100000 cur k s or []
noncomputable def st0 (f : Nat) := go f 0 (.code (bodyOf f)) [] (beginE (fnOf f) [.slice false [] none, .int .i64 0] []) (.path [])
noncomputable def lc1 (f : Nat) : Code := stC (st0 f)
noncomputable def lk1 (f : Nat) : List It := stK (st0 f)

/-! ### what is reckoned -/
def xor64 (a b : Int) : Int := IntKind.u64.wrap ↑(BitVec.ofInt IntKind.u64.bits a ^^^ BitVec.ofInt IntKind.u64.bits b).toNat
def stepH (s n : Int) : Int := IntKind.u64.wrap (xor64 s (IntKind.u64.wrap n) * 1099511628211)
def foldH : Int → List Int → Int
  | s, [] => s
  | s, n :: r => foldH (stepH s n) r
def shr33 (s : Int) : Int := s.fdiv ((2 : Int) ^ min (Int.toNat (33 : Int)) IntKind.u64.bits)
def endH (s : Int) : Int := xor64 (IntKind.u64.wrap (xor64 s (shr33 s) * 18397679294719823053)) (shr33 (IntKind.u64.wrap (xor64 s (shr33 s) * 18397679294719823053)))
def startH (lv : Int) : Int := stepH 14695981039346656037 (IntKind.u8.wrap lv)
def hashU (l : List Int) (lv : Int) : Int := endH (foldH (startH lv) l)

def rows (l : List Int) : Es := l.map fun x => [D.int .u8 x]
theorem rows_get {l : List Int} {i : Nat} (h : i < l.length) : (rows l)[i]? = some [.int .u8 l[i]] := by
  simp [rows, List.getElem?_map, List.getElem?_eq_getElem h]
theorem up {i n : Nat} (h : i < n) (hn : n ≤ maxLen) : IntKind.i64.wrap ((i : Int) + 1) = ((i + 1 : Nat) : Int) := by
  have : maxLen ≤ 9223372036854775807 := by decide
  rw [wrap_i64 (by omega)]
  omega

noncomputable def i12 (xb : Bool) (eb : Es) (s i : Int) : St := ⟨[.slice xb eb none, .undef, .undef, .undef, .undef, .int .u64 s, .int .i64 i] ++ List.replicate 30 .undef, []⟩
noncomputable def i13 (xb : Bool) (eb : Es) (s i : Int) : St := ⟨[.undef, .undef, .undef, .undef, .undef, .int .u64 s, .undef, .undef, .undef, .undef, .undef, .undef, .undef, .undef, .slice xb eb none, .int .i64 eb.length, .int .i64 i] ++ List.replicate 19 .undef, []⟩

/-! ### function 12 -/
noncomputable def b12 (xb : Bool) (eb : Es) (s i n : Int) (or : GD.Or) := go 12 n (.code (lc1 12)) [] (i12 xb eb s i) or
theorem b12_0 (xb : Bool) (eb : Es) (s : Int) (i : Int) (n : Int)
    (h0 : decide (i < ↑(List.length eb)) = true)
    (h1 : (0 : Int) ≤ i)
    (h2 : eb[i.toNat]? = some [D.int IntKind.u8 n]) :
    RoadOk c0.P c0.T 0 (.code (lc1 12)) [] (i12 xb eb s i) (Ex.normal) [0, 5, 6] 0 ([D.slice xb eb none, D.undef, D.undef, D.undef, D.undef,
  D.int IntKind.u64
    (IntKind.u64.wrap
      (IntKind.u64.wrap
          ↑(BitVec.ofInt IntKind.u64.bits s ^^^ BitVec.ofInt IntKind.u64.bits (IntKind.u64.wrap n)).toNat *
        (1099511628211 : Int))),
  D.int IntKind.i64 (IntKind.i64.wrap (i + (1 : Int)))] ++ List.replicate 30 .undef) [] :=
  road_fin (cfOk _) (show cutF [0, 5, 6] 0 (b12 xb eb s i n (.path [true])) = some (Ex.normal, [D.slice xb eb none, D.undef, D.undef, D.undef, D.undef,
  D.int IntKind.u64
    (IntKind.u64.wrap
      (IntKind.u64.wrap
          ↑(BitVec.ofInt IntKind.u64.bits s ^^^ BitVec.ofInt IntKind.u64.bits (IntKind.u64.wrap n)).toNat *
        (1099511628211 : Int))),
  D.int IntKind.i64 (IntKind.i64.wrap (i + (1 : Int)))] ++ List.replicate 30 .undef, [],
    [(0 : Int) ≤ i,
      eb[i.toNat]? = some [D.int IntKind.u8 n],
      decide (i < ↑(List.length eb)) = true]) by kernel_rfl) (by simp only [all_cons, all_nil, *]; simp)

theorem b12_1 (xb : Bool) (eb : Es) (s : Int) (i : Int) (n : Int)
    (h0 : decide (i < ↑(List.length eb)) = false) :
    RoadOk c0.P c0.T 0 (.code (lc1 12)) [] (i12 xb eb s i) (Ex.exit (0 : Nat)) [0, 5, 6] 0 ([D.slice xb eb none, D.undef, D.undef, D.undef, D.undef, D.int IntKind.u64 s, D.int IntKind.i64 i] ++ List.replicate 30 .undef) [] :=
  road_fin (cfOk _) (show cutF [0, 5, 6] 0 (b12 xb eb s i n (.path [false])) = some (Ex.exit (0 : Nat), [D.slice xb eb none, D.undef, D.undef, D.undef, D.undef, D.int IntKind.u64 s, D.int IntKind.i64 i] ++ List.replicate 30 .undef, [],
    [decide (i < ↑(List.length eb)) = false]) by kernel_rfl) (by simp only [all_cons, all_nil, *]; simp)


def out12 (r : Int) : List D := [.undef, .undef, .undef, .undef, .int .u64 r] ++ List.replicate 32 .undef
theorem e12 (xb : Bool) (eb : Es) (s i : Int) : cutF [4] 0 (go 12 0 (.done (.exit 0)) (lk1 12) (i12 xb eb s i) (.path [])) = some (.ret, out12 (endH s), [], [(0 : Int) ≤ 33, (0 : Int) ≤ 33]) := by kernel_rfl
theorem s12 (xb : Bool) (eb : Es) (lv : Int) : cutS [0, 5, 6] 0 (go 12 0 (.code (bodyOf 12)) [] (beginE (fnOf 12) [.slice xb eb none, .int .i64 lv] []) (.path [])) = some (lc1 12, lk1 12, (i12 xb eb (startH lv) 0).env, [], []) := by kernel_rfl
theorem ran12 : runsK (.exit 0) (lk1 12) = true := by kernel_rfl

theorem all12 (xb : Bool) (l : List Int) (hl : l.length ≤ maxLen) : ∀ (m i : Nat) (s : Int), i + m = l.length →
    ∃ s2, Ev c0.P c0.T (.code 0 (.loop (lc1 12)) (i12 xb (rows l) s i) (.exit 0) s2) ∧ RestOk c0.P c0.T 0 (.exit 0) (lk1 12) s2 .ret [4] 0 (out12 (endH (foldH s (l.drop i)))) [] := by
  intro m
  induction m with
  | zero =>
    intro i s hi
    have e := b12_1 xb (rows l) s i 0 (by simp [rows]; omega)
    have hd : l.drop i = [] := List.drop_of_length_le (by omega)
    rw [hd]
    exact loop_left (cfOk 0) e (by simp) (Nat.zero_le _) ran12 (e12 xb (rows l) s i) (by simp only [all_cons, all_nil]; simp)
  | succ m ih =>
    intro i s hi
    have hlt : i < l.length := by omega
    obtain ⟨s2, g1, g2⟩ := ih (i + 1) (stepH s l[i]) (by omega)
    have hd : foldH s (l.drop i) = foldH (stepH s l[i]) (l.drop (i + 1)) := by rw [List.drop_eq_getElem_cons hlt]; rfl
    rw [hd]
    have e := b12_0 xb (rows l) s i l[i] (by simp [rows]; omega) (by omega) (by simpa using rows_get hlt)
    rw [up hlt hl] at e
    exact ⟨s2, loop_again e (Nat.zero_le _) g1, g2⟩

theorem body12 : Try.prog.funcs[12]? = some (fnOf 12) := by kernel_rfl
theorem code12 : (fnOf 12).body = some (bodyOf 12) := by kernel_rfl
theorem name12 : ((fnOf 12).name == "runtime.NumGoroutine") = false := by kernel_rfl
theorem res12 : (fnOf 12).results = #[.tmp 4] := by kernel_rfl
theorem get12 (r : Int) : (out12 r).getD 4 .undef = .int .u64 r := by kernel_rfl

/-- Hash hands back the hash. -/
theorem hash12 (xb : Bool) (l : List Int) (hl : l.length ≤ maxLen) (lv : Int) : ∃ X, Ev c0.P c0.T (.call 12 [.slice xb (rows l) none, .int .i64 lv] [] (.int .u64 (hashU l lv)) ([] ++ X)) := by
  obtain ⟨s2, g1, g2⟩ := all12 xb l hl l.length 0 (startH lv) (by omega)
  have := call_road (H0 := []) body12 code12 name12 (.inr rfl) res12 rfl (road_loop (n := 0) (cfOk 0) (s12 xb (rows l) lv) (by simp) (Nat.zero_le _) g1 g2)
  rw [get12, List.drop_zero] at this
  obtain ⟨H1, hev⟩ := this
  exact ⟨H1, hev⟩

/-! ### function 13 -/
noncomputable def b13 (xb : Bool) (eb : Es) (s i n : Int) (or : GD.Or) := go 13 n (.code (lc1 13)) [] (i13 xb eb s i) or
theorem b13_0 (xb : Bool) (eb : Es) (s : Int) (i : Int) (n : Int)
    (h0 : decide (i < ↑(List.length eb)) = true)
    (h1 : (0 : Int) ≤ i)
    (h2 : eb[i.toNat]? = some [D.int IntKind.u8 n]) :
    RoadOk c0.P c0.T 0 (.code (lc1 13)) [] (i13 xb eb s i) (Ex.normal) [5, 14, 15, 16] 0 ([D.undef, D.undef, D.undef, D.undef, D.undef,
  D.int IntKind.u64
    (IntKind.u64.wrap
      (IntKind.u64.wrap
          ↑(BitVec.ofInt IntKind.u64.bits s ^^^ BitVec.ofInt IntKind.u64.bits (IntKind.u64.wrap n)).toNat *
        (1099511628211 : Int))),
  D.undef, D.undef, D.undef, D.undef, D.undef, D.undef, D.undef, D.undef, D.slice xb eb none,
  D.int IntKind.i64 ↑(List.length eb), D.int IntKind.i64 (IntKind.i64.wrap (i + (1 : Int)))] ++ List.replicate 19 .undef) [] :=
  road_fin (cfOk _) (show cutF [5, 14, 15, 16] 0 (b13 xb eb s i n (.path [true])) = some (Ex.normal, [D.undef, D.undef, D.undef, D.undef, D.undef,
  D.int IntKind.u64
    (IntKind.u64.wrap
      (IntKind.u64.wrap
          ↑(BitVec.ofInt IntKind.u64.bits s ^^^ BitVec.ofInt IntKind.u64.bits (IntKind.u64.wrap n)).toNat *
        (1099511628211 : Int))),
  D.undef, D.undef, D.undef, D.undef, D.undef, D.undef, D.undef, D.undef, D.slice xb eb none,
  D.int IntKind.i64 ↑(List.length eb), D.int IntKind.i64 (IntKind.i64.wrap (i + (1 : Int)))] ++ List.replicate 19 .undef, [],
    [(0 : Int) ≤ i,
      eb[i.toNat]? = some [D.int IntKind.u8 n],
      decide (i < ↑(List.length eb)) = true]) by kernel_rfl) (by simp only [all_cons, all_nil, *]; simp)

theorem b13_1 (xb : Bool) (eb : Es) (s : Int) (i : Int) (n : Int)
    (h0 : decide (i < ↑(List.length eb)) = false) :
    RoadOk c0.P c0.T 0 (.code (lc1 13)) [] (i13 xb eb s i) (Ex.exit (0 : Nat)) [5, 14, 15, 16] 0 ([D.undef, D.undef, D.undef, D.undef, D.undef, D.int IntKind.u64 s, D.undef, D.undef, D.undef, D.undef, D.undef, D.undef,
  D.undef, D.undef, D.slice xb eb none, D.int IntKind.i64 ↑(List.length eb), D.int IntKind.i64 i] ++ List.replicate 19 .undef) [] :=
  road_fin (cfOk _) (show cutF [5, 14, 15, 16] 0 (b13 xb eb s i n (.path [false])) = some (Ex.exit (0 : Nat), [D.undef, D.undef, D.undef, D.undef, D.undef, D.int IntKind.u64 s, D.undef, D.undef, D.undef, D.undef, D.undef, D.undef,
  D.undef, D.undef, D.slice xb eb none, D.int IntKind.i64 ↑(List.length eb), D.int IntKind.i64 i] ++ List.replicate 19 .undef, [],
    [decide (i < ↑(List.length eb)) = false]) by kernel_rfl) (by simp only [all_cons, all_nil, *]; simp)


def out13 (r : Int) : List D := [.undef, .undef, .undef, .undef, .int .u64 r] ++ List.replicate 31 .undef
theorem e13 (xb : Bool) (eb : Es) (s i : Int) : cutF [4] 0 (go 13 0 (.done (.exit 0)) (lk1 13) (i13 xb eb s i) (.path [])) = some (.ret, out13 (endH s), [], [(0 : Int) ≤ 33, (0 : Int) ≤ 33]) := by kernel_rfl
theorem s13 (xb : Bool) (eb : Es) (lv : Int) : cutS [5, 14, 15, 16] 0 (go 13 0 (.code (bodyOf 13)) [] (beginE (fnOf 13) [.slice xb eb none, .int .i64 lv] []) (.path [])) = some (lc1 13, lk1 13, (i13 xb eb (startH lv) 0).env, [], []) := by kernel_rfl
theorem ran13 : runsK (.exit 0) (lk1 13) = true := by kernel_rfl

theorem all13 (xb : Bool) (l : List Int) (hl : l.length ≤ maxLen) : ∀ (m i : Nat) (s : Int), i + m = l.length →
    ∃ s2, Ev c0.P c0.T (.code 0 (.loop (lc1 13)) (i13 xb (rows l) s i) (.exit 0) s2) ∧ RestOk c0.P c0.T 0 (.exit 0) (lk1 13) s2 .ret [4] 0 (out13 (endH (foldH s (l.drop i)))) [] := by
  intro m
  induction m with
  | zero =>
    intro i s hi
    have e := b13_1 xb (rows l) s i 0 (by simp [rows]; omega)
    have hd : l.drop i = [] := List.drop_of_length_le (by omega)
    rw [hd]
    exact loop_left (cfOk 0) e (by simp) (Nat.zero_le _) ran13 (e13 xb (rows l) s i) (by simp only [all_cons, all_nil]; simp)
  | succ m ih =>
    intro i s hi
    have hlt : i < l.length := by omega
    obtain ⟨s2, g1, g2⟩ := ih (i + 1) (stepH s l[i]) (by omega)
    have hd : foldH s (l.drop i) = foldH (stepH s l[i]) (l.drop (i + 1)) := by rw [List.drop_eq_getElem_cons hlt]; rfl
    rw [hd]
    have e := b13_0 xb (rows l) s i l[i] (by simp [rows]; omega) (by omega) (by simpa using rows_get hlt)
    rw [up hlt hl] at e
    exact ⟨s2, loop_again e (Nat.zero_le _) g1, g2⟩

theorem body13 : Try.prog.funcs[13]? = some (fnOf 13) := by kernel_rfl
theorem code13 : (fnOf 13).body = some (bodyOf 13) := by kernel_rfl
theorem name13 : ((fnOf 13).name == "runtime.NumGoroutine") = false := by kernel_rfl
theorem res13 : (fnOf 13).results = #[.tmp 4] := by kernel_rfl
theorem get13 (r : Int) : (out13 r).getD 4 .undef = .int .u64 r := by kernel_rfl

/-- Hash hands back the hash. -/
theorem hash13 (xb : Bool) (l : List Int) (hl : l.length ≤ maxLen) (lv : Int) : ∃ X, Ev c0.P c0.T (.call 13 [.slice xb (rows l) none, .int .i64 lv] [] (.int .u64 (hashU l lv)) ([] ++ X)) := by
  obtain ⟨s2, g1, g2⟩ := all13 xb l hl l.length 0 (startH lv) (by omega)
  have := call_road (H0 := []) body13 code13 name13 (.inr rfl) res13 rfl (road_loop (n := 0) (cfOk 0) (s13 xb (rows l) lv) (by simp) (Nat.zero_le _) g1 g2)
  rw [get13, List.drop_zero] at this
  obtain ⟨H1, hev⟩ := this
  exact ⟨H1, hev⟩

end Go.Proofs.Ytlccdfilbiipmaa.hashk
