/- PROVED: the law KeyKnown hands back true. No conditions. -/
import Derived.Test.YtlccdfilbiipmaaKeyKnownR0
import Derived.Test.YtlccdfilbiipmaaKeyKnownR1
import Derived.Test.YtlccdfilbiipmaaKeyKnownR2
import Derived.Test.YtlccdfilbiipmaaKeyKnownR3
import Derived.Test.YtlccdfilbiipmaaKeyKnownR4
import Derived.Test.YtlccdfilbiipmaaKeyKnownR5
import Derived.Test.YtlccdfilbiipmaaKeyKnownR6
namespace Go.Proofs.Ytlccdfilbiipmaa.keyKnown
open Go Ytlccdfilbiipmaa.GD
set_option linter.unusedVariables false

theorem stops : cutF [1, 2, 3] 30 (run (19)) = some (.exit 0, (inv (19)).env, (inv (19)).H, []) := by kernel_rfl
theorem ends : cutF [0] 0 rest = some (.ret, yes, [], []) := by kernel_rfl
theorem ran : runsK (.exit 0) loopK = true := by kernel_rfl
theorem get_yes : yes.getD 0 .undef = .bool true := by kernel_rfl

/-- From a round on, to the end. -/
def Left (i : Int) : Prop := ∃ s2, Ev (cf false).P (cf false).T (.code 0 (.loop loopC) (inv i) (.exit 0) s2) ∧ RestOk (cf false).P (cf false).T 0 (.exit 0) loopK s2 .ret [0] 0 yes []

theorem again {i j : Int} (h : cutF [1, 2, 3] 30 (run i) = some (.normal, (inv j).env, (inv j).H, [])) (l : Left j) : Left i := by
  obtain ⟨s2, h1, h2⟩ := l
  exact ⟨s2, loop_again (road_fin (n := 0) (cfOk false) h (by simp)) (Nat.zero_le _) h1, h2⟩

theorem s19 : Left (19) :=
  loop_left (cfOk false) (road_fin (n := 0) (cfOk false) stops (by simp)) (by simp) (Nat.zero_le _) ran ends (by simp)
theorem s18 : Left (18) := again r18 s19
theorem s17 : Left (17) := again r17 s18
theorem s16 : Left (16) := again r16 s17
theorem s15 : Left (15) := again r15 s16
theorem s14 : Left (14) := again r14 s15
theorem s13 : Left (13) := again r13 s14
theorem s12 : Left (12) := again r12 s13
theorem s11 : Left (11) := again r11 s12
theorem s10 : Left (10) := again r10 s11
theorem s9 : Left (9) := again r9 s10
theorem s8 : Left (8) := again r8 s9
theorem s7 : Left (7) := again r7 s8
theorem s6 : Left (6) := again r6 s7
theorem s5 : Left (5) := again r5 s6
theorem s4 : Left (4) := again r4 s5
theorem s3 : Left (3) := again r3 s4
theorem s2 : Left (2) := again r2 s3
theorem s1 : Left (1) := again r1 s2

theorem body_ok : Try.prog.funcs[6]? = some (fnOf 6) := by kernel_rfl
theorem code_ok : (fnOf 6).body = some (bodyOf 6) := by kernel_rfl
theorem name_ok : ((fnOf 6).name == "runtime.NumGoroutine") = false := by kernel_rfl
theorem res_ok : (fnOf 6).results = #[.tmp 0] := by kernel_rfl

theorem law : ∃ H1, Ev (cf false).P (cf false).T (.call 6 [] [] (.bool true) H1) := by
  obtain ⟨s2, h1, h2⟩ := s1
  have e := call_road (H0 := []) (args := []) body_ok code_ok name_ok (.inr rfl) res_ok rfl (road_loop' (n := 0) (cfOk true) (rc_of (cfOk false) rfl rfl) start (by intro c hc; cases hc) (Nat.zero_le _) h1 h2)
  rw [get_yes] at e
  exact e

theorem walk {w : World} : Calls Try.prog 6 #[] w fun e w' => e = .returned (.bool true) ∧ Go.RowKit.Below w.heap.size w w' := by
  obtain ⟨H1, hev⟩ := law
  exact law_calls (P := Try.prog) (I := fun _ _ => False) (cfOk false).hT hev (fun _ _ h => h.elim) rfl reps_nil

end Go.Proofs.Ytlccdfilbiipmaa.keyKnown
