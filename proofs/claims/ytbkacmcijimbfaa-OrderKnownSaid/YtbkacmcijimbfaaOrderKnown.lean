/- PROVED: the law OrderKnown hands back true. No conditions. -/
import Derived.Test.YtbkacmcijimbfaaRows
import Derived.Test.YtbkacmcijimbfaaGd30
namespace Go.Proofs.Ytbkacmcijimbfaa.orderKnown
open Go Ytbkacmcijimbfaa.GD
set_option linter.unusedVariables false

noncomputable def cf (b : Bool) : Cf := { P := Try.prog, T := tyOf Try.prog, hint := fun f r o => if f = 10 then .aTok else .auto, room := fun _ _ => 1, meth := fun _ _ => none, ct := fun _ _ _ => none, stop := b }
theorem cfOk (b : Bool) : CfOk (cf b) where
  hT := fun _ _ h => h
  hm := by kernel_rfl
  meth := fun _ _ _ h => by simp only [cf] at h; cases h
  ct := fun _ _ _ _ _ _ h => by simp only [cf] at h; cases h
noncomputable def bodyOf (f : Nat) : Code := match Try.prog.funcs[f]? with | some fn => (match fn.body with | some c => c | none => .skip) | none => .skip
noncomputable def fnOf (f : Nat) : Func := match Try.prog.funcs[f]? with | some fn => fn | none => default
noncomputable def run0 := runE (cf true) (callE (cf false) 100000 100) 10 100000 (.code (bodyOf 10)) [] (beginE (fnOf 10) [] []) .auto []
noncomputable def loopC : Code := stC run0
noncomputable def loopK : List It := stK run0
def vals : List (List D) :=
  [[D.int IntKind.i64 0, D.int IntKind.i64 0, D.str { data := #[] }, D.slice false [] none, D.slice false [] none,
            D.slice false [] none],
          [D.int IntKind.i64 1, D.int IntKind.i64 0, D.str { data := #[] }, D.slice false [] none,
            D.slice false [] none, D.slice false [] none],
          [D.int IntKind.i64 2, D.int IntKind.i64 0, D.str { data := #[] }, D.slice false [] none,
            D.slice false [] none, D.slice false [] none],
          [D.int IntKind.i64 3, D.int IntKind.i64 (-5), D.str { data := #[] }, D.slice false [] none,
            D.slice false [] none, D.slice false [] none],
          [D.int IntKind.i64 4, D.int IntKind.i64 7, D.str { data := #[] }, D.slice false [] none,
            D.slice false [] none, D.slice false [] none],
          [D.int IntKind.i64 5, D.int IntKind.i64 0, D.str { data := #[] }, D.slice false [] none,
            D.slice false [] none, D.slice false [] none],
          [D.int IntKind.i64 5, D.int IntKind.i64 0, D.str { data := #[97] }, D.slice false [] none,
            D.slice false [] none, D.slice false [] none],
          [D.int IntKind.i64 6, D.int IntKind.i64 0, D.str { data := #[] }, D.slice false [] none,
            D.slice false [] none, D.slice false [] none],
          [D.int IntKind.i64 6, D.int IntKind.i64 0, D.str { data := #[] }, D.slice false [] none,
            D.slice true
              [[D.str { data := #[97] }, D.int IntKind.i64 3, D.int IntKind.i64 1, D.str { data := #[] },
                  D.slice false [] none, D.slice false [] none, D.slice false [] none]]
              none,
            D.slice false [] none],
          [D.int IntKind.i64 7, D.int IntKind.i64 0, D.str { data := #[] }, D.slice false [] none,
            D.slice false [] none, D.slice false [] none],
          [D.int IntKind.i64 7, D.int IntKind.i64 0, D.str { data := #[] }, D.slice false [] none,
            D.slice false [] none,
            D.slice true
              [[D.int IntKind.i64 3, D.int IntKind.i64 1, D.str { data := #[] }, D.slice false [] none,
                  D.slice false [] none, D.slice false [] none]]
              none],
          [D.int IntKind.i64 8, D.int IntKind.i64 0, D.str { data := #[] }, D.slice true [[D.int IntKind.u8 9]] none,
            D.slice false [] none, D.slice false [] none],
          [D.int IntKind.i64 8, D.int IntKind.i64 0, D.str { data := #[] },
            D.slice true [[D.int IntKind.u8 1], [D.int IntKind.u8 1]] none, D.slice false [] none,
            D.slice false [] none],
          [D.int IntKind.i64 9, D.int IntKind.i64 0, D.str { data := #[] },
            D.slice true
              [[D.int IntKind.u8 0], [D.int IntKind.u8 0], [D.int IntKind.u8 0], [D.int IntKind.u8 0],
                [D.int IntKind.u8 0], [D.int IntKind.u8 0], [D.int IntKind.u8 0], [D.int IntKind.u8 0],
                [D.int IntKind.u8 0], [D.int IntKind.u8 0], [D.int IntKind.u8 0], [D.int IntKind.u8 0]]
              none,
            D.slice false [] none, D.slice false [] none],
          [D.int IntKind.i64 10, D.int IntKind.i64 0, D.str { data := #[] }, D.slice false [] none,
            D.slice false [] none, D.slice false [] none],
          [D.int IntKind.i64 10, D.int IntKind.i64 1, D.str { data := #[] }, D.slice false [] none,
            D.slice false [] none, D.slice false [] none],
          [D.int IntKind.i64 11, D.int IntKind.i64 (-3), D.str { data := #[] }, D.slice false [] none,
            D.slice false [] none, D.slice false [] none],
          [D.int IntKind.i64 12, D.int IntKind.i64 0, D.str { data := #[] }, D.slice false [] none,
            D.slice false [] none, D.slice false [] none]]
def hp : GD.Heap :=
  [none, none, none, none, none, none, none, none, none, none, none, none, none, some (HObj.tok 1 7), none, none,
      none, none, some (HObj.tok 1 6), none, some (HObj.tok 1 1), none, some (HObj.tok 2 1), none, some (HObj.tok 12 1),
      none, none, none, none, none, none, none, none, some (HObj.tok 18 6), none]
def inv (i : Int) : St := ⟨[.undef, .func (.func 37) [] [], .slice true vals (some 33), .int .i64 i] ++ List.replicate 71 .undef, hp⟩
def yes : List D := [.bool true] ++ List.replicate 74 .undef

noncomputable def run (i : Int) := runE (cf false) (callE (cf false) 100000 100) 10 100000 (.code loopC) [] (inv i) .auto []
noncomputable def rest := runE (cf false) (callE (cf false) 100000 100) 10 100000 (.done (.exit 0)) loopK (inv (18)) .auto []

theorem start : cutS [1, 2, 3] 35 run0 = some (loopC, loopK, (inv (0)).env, (inv (0)).H, []) := by kernel_rfl
theorem r0 : cutF [1, 2, 3] 35 (run (0)) = some (.normal, (inv (1)).env, (inv (1)).H, []) := by kernel_rfl
theorem r1 : cutF [1, 2, 3] 35 (run (1)) = some (.normal, (inv (2)).env, (inv (2)).H, []) := by kernel_rfl
theorem r2 : cutF [1, 2, 3] 35 (run (2)) = some (.normal, (inv (3)).env, (inv (3)).H, []) := by kernel_rfl
theorem r3 : cutF [1, 2, 3] 35 (run (3)) = some (.normal, (inv (4)).env, (inv (4)).H, []) := by kernel_rfl
theorem r4 : cutF [1, 2, 3] 35 (run (4)) = some (.normal, (inv (5)).env, (inv (5)).H, []) := by kernel_rfl
theorem r5 : cutF [1, 2, 3] 35 (run (5)) = some (.normal, (inv (6)).env, (inv (6)).H, []) := by kernel_rfl
theorem r6 : cutF [1, 2, 3] 35 (run (6)) = some (.normal, (inv (7)).env, (inv (7)).H, []) := by kernel_rfl
theorem r7 : cutF [1, 2, 3] 35 (run (7)) = some (.normal, (inv (8)).env, (inv (8)).H, []) := by kernel_rfl
theorem r8 : cutF [1, 2, 3] 35 (run (8)) = some (.normal, (inv (9)).env, (inv (9)).H, []) := by kernel_rfl
theorem r9 : cutF [1, 2, 3] 35 (run (9)) = some (.normal, (inv (10)).env, (inv (10)).H, []) := by kernel_rfl
theorem r10 : cutF [1, 2, 3] 35 (run (10)) = some (.normal, (inv (11)).env, (inv (11)).H, []) := by kernel_rfl
theorem r11 : cutF [1, 2, 3] 35 (run (11)) = some (.normal, (inv (12)).env, (inv (12)).H, []) := by kernel_rfl
theorem r12 : cutF [1, 2, 3] 35 (run (12)) = some (.normal, (inv (13)).env, (inv (13)).H, []) := by kernel_rfl
theorem r13 : cutF [1, 2, 3] 35 (run (13)) = some (.normal, (inv (14)).env, (inv (14)).H, []) := by kernel_rfl
theorem r14 : cutF [1, 2, 3] 35 (run (14)) = some (.normal, (inv (15)).env, (inv (15)).H, []) := by kernel_rfl
theorem r15 : cutF [1, 2, 3] 35 (run (15)) = some (.normal, (inv (16)).env, (inv (16)).H, []) := by kernel_rfl
theorem r16 : cutF [1, 2, 3] 35 (run (16)) = some (.normal, (inv (17)).env, (inv (17)).H, []) := by kernel_rfl
theorem r17 : cutF [1, 2, 3] 35 (run (17)) = some (.normal, (inv (18)).env, (inv (18)).H, []) := by kernel_rfl
theorem stops : cutF [1, 2, 3] 35 (run (18)) = some (.exit 0, (inv (18)).env, (inv (18)).H, []) := by kernel_rfl
theorem ends : cutF [0] 0 rest = some (.ret, yes, [], []) := by kernel_rfl
theorem ran : runsK (.exit 0) loopK = true := by kernel_rfl
theorem get_yes : yes.getD 0 .undef = .bool true := by kernel_rfl

/-- From a round on, to the end. -/
def Left (i : Int) : Prop := ∃ s2, Ev (cf false).P (cf false).T (.code 0 (.loop loopC) (inv i) (.exit 0) s2) ∧ RestOk (cf false).P (cf false).T 0 (.exit 0) loopK s2 .ret [0] 0 yes []

theorem again {i j : Int} (h : cutF [1, 2, 3] 35 (run i) = some (.normal, (inv j).env, (inv j).H, [])) (l : Left j) : Left i := by
  obtain ⟨s2, h1, h2⟩ := l
  exact ⟨s2, loop_again (road_fin (n := 0) (cfOk false) h (by simp)) (Nat.zero_le _) h1, h2⟩

theorem s18 : Left (18) :=
  loop_left (cfOk false) (road_fin (n := 0) (cfOk false) stops (by simp)) (by simp) (Nat.zero_le _) ran ends (by simp)
theorem s17 : Left (17) := again r17 s18
theorem s16 : Left (16) := again r16 s17
theorem s15 : Left (15) := again r15 s16
theorem s14 : Left (14) := again r14 s15
theorem s13 : Left (13) := again r13 s14
theorem s12 : Left (12) := again r12 s13
theorem s11 : Left (11) := again r11 s12
theorem s10 : Left (10) := again r10 s11
theorem s9 : Left (9) := again r9 s10
theorem s8 : Left (8) := again r8 s9
theorem s7 : Left (7) := again r7 s8
theorem s6 : Left (6) := again r6 s7
theorem s5 : Left (5) := again r5 s6
theorem s4 : Left (4) := again r4 s5
theorem s3 : Left (3) := again r3 s4
theorem s2 : Left (2) := again r2 s3
theorem s1 : Left (1) := again r1 s2
theorem s0 : Left (0) := again r0 s1

theorem body_ok : Try.prog.funcs[10]? = some (fnOf 10) := by kernel_rfl
theorem code_ok : (fnOf 10).body = some (bodyOf 10) := by kernel_rfl
theorem name_ok : ((fnOf 10).name == "runtime.NumGoroutine") = false := by kernel_rfl
theorem res_ok : (fnOf 10).results = #[.tmp 0] := by kernel_rfl

theorem law : ∃ H1, Ev (cf false).P (cf false).T (.call 10 [] [] (.bool true) H1) := by
  obtain ⟨s2, h1, h2⟩ := s0
  have e := call_road (H0 := []) (args := []) body_ok code_ok name_ok (.inr rfl) res_ok rfl (road_loop' (n := 0) (cfOk true) (rc_of (cfOk false) rfl rfl) start (by intro c hc; cases hc) (Nat.zero_le _) h1 h2)
  rw [get_yes] at e
  exact e

theorem walk {w : World} : Calls Try.prog 10 #[] w fun e w' => e = .returned (.bool true) ∧ Go.RowKit.Below w.heap.size w w' := by
  obtain ⟨H1, hev⟩ := law
  exact law_calls (P := Try.prog) (I := fun _ _ => False) (cfOk false).hT hev (fun _ _ h => h.elim) rfl reps_nil

end Go.Proofs.Ytbkacmcijimbfaa.orderKnown
