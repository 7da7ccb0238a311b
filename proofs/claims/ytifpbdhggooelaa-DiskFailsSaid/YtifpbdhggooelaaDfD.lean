/- The law DiskFails: the prefix's deeds, and the plan's word: what they come to. -/
import Derived.Test.YtifpbdhggooelaaDfB
namespace Go.Proofs.Ytifpbdhggooelaa.dsk
open Go Ytifpbdhggooelaa.GD
set_option linter.unusedVariables false
set_option linter.unusedSimpArgs false
set_option maxRecDepth 100000

theorem flFf : FlatEs [[D.slice true [] none]] := by
  intro c hc
  simp only [List.mem_singleton] at hc
  subst hc; rfl
theorem ix64f (a b : Int) : Ret P T 64 [.slice false [] none, .agg [.int .i64 a, .int .i64 b]] [] (.int .i64 (-1)) [] := ix_in_0 (ix_0_2 (by omega))
theorem cn62f (a b : Int) : Ret P T 62 [.slice false [] none, .agg [.int .i64 a, .int .i64 b]] [] (.bool false) [] := cn_in_0 (ix64f a b)
theorem wrap_i64' {n : Int} (h : -9223372036854775808 ≤ n ∧ n ≤ 9223372036854775807) : IntKind.i64.wrap n = n := wrap_i64 h
theorem if64 (w kk a b : Int) : Ret P T 64 [.slice true [[.int .i64 w, .int .i64 kk]] (some 0), .agg [.int .i64 a, .int .i64 b]] [some (.tok 1 2)] (.int .i64 (if (a == w && b == kk) = true then 0 else -1)) [some (.tok 1 2)] := by
  refine if_in_0 (bb := false) (nn := 0) ?_
  by_cases h : (a == w && b == kk) = true
  · rw [if_pos h]
    exact if_0_0 (by omega) h (by omega) rfl rfl
  · rw [if_neg h]
    have h' : (a == w && b == kk) = false := by simpa using h
    refine if_0_1 (n4_3_0 := w) (n4_3_1 := kk) (by omega) h' (by omega) rfl rfl ?_
    have e : IntKind.i64.wrap ((0 : Int) + 1) = 1 := wrap_i64 ⟨by omega, by omega⟩
    rw [e]
    exact if_0_2 (by omega) rfl
theorem cf62 (w kk a b : Int) : Ret P T 62 [.slice true [[.int .i64 w, .int .i64 kk]] (some 0), .agg [.int .i64 a, .int .i64 b]] [some (.tok 1 2)] (.bool (a == w && b == kk)) [some (.tok 1 2)] := by
  have g := cf_in_0 (bb := false) (if64 w kk a b)
  have e : decide ((if (a == w && b == kk) = true then (0 : Int) else -1) ≥ 0) = (a == w && b == kk) := by
    cases (a == w && b == kk) <;> simp
  rw [e] at g
  exact g
theorem pf59 (w kk hi op wr sn kd : Int) (ks : List Int) (xs : Es) : Ret P T 59 [.agg (.ptr 0 0 0 :: pln w kk), .int .i64 kd] [some (dk 40 hi op wr sn (pln w kk) 3), some (.mp .i64 ks [.view 2 0 64]), some (.row 1 xs), some frO, some (.tok 1 2)]
    (.bool (sn == w && kd == kk)) [some (dk 40 hi op wr sn (pln w kk) 3), some (.mp .i64 ks [.view 2 0 64]), some (.row 1 xs), some frO, some (.tok 1 2)] := pf_in_0 (nn := 0) (cf62 w kk sn kd)

theorem nf37 : Ret P T 37 [.int .i64 64, .int .i64 40] [] (.tuple [.ptr 3 0 0, .int .i64 0]) [some (.mp .i64 [] []), some (.tok 0 1), some frO, some (.row 9 [[.int .i64 64, .int .i64 40, .mapp 0, .ptr 2 0 0, .int .i64 0, .int .i64 0, .int .i64 0, .int .i64 0, .func (.func 59) [.agg (.ptr 3 0 0 :: nilG)] []]])] :=
  nf_in_0 (u := ()) flFf
def noAf : GD.Heap := [none, none, none, none, none, none, none, none, none, none, none, none, none, none, none, none, none, none]
def noBf : GD.Heap := noAf ++ noAf ++ [none, none, none, none, none, none, none, none, none, none, none, none, none, none, none, none]
theorem af38 : Ret P T 38 [.ptr 0 0 0] [some (dk 40 0 0 0 0 nilG 2), some (.mp .i64 [] []), some frO] (.tuple [.int .i64 0, .int .i64 0])
    ([some (dk 40 1 1 0 1 nilG 2), some (.mp .i64 [0] [.view 55 0 64]), some frO] ++ noBf ++ [some (.row 1 (List.replicate 64 [.int .u8 0]))]) := af_in_0 (u := ()) flFf (pa_in_0 (cn62f _ _))
theorem wf39 {xs zs : Es} (hx : FlatEs xs) (hz : FlatEs zs) (hl : zs.length = 64) (h1 : (zs.all fun c => c.length == 1) = true) :
    Ret P T 39 [.ptr 0 0 0, .int .i64 0, .view 4 0 64] [some (dk 40 1 1 0 1 nilG 3), some (.mp .i64 [0] [.view 2 0 64]), some (.row 1 xs), some frO, some (.row 1 zs)] (.int .i64 0)
    ([some (dk 40 1 2 1 2 nilG 3), some (.mp .i64 [0] [.view 24 0 64]), some (.row 1 xs), some frO, some (.row 1 zs)] ++ noAf ++ [some .dead, some (.row 1 zs)]) := by
  have ht : zs.take 64 = zs := List.take_of_length_le (by omega)
  have g := wf_in_0 (xs := xs) hz (by rw [ht]; exact hz) (by rw [ht]; exact hl) ⟨rfl, by rw [ht]; omega, Nat.le_refl _, by rw [ht]; omega, by rw [ht]; exact h1⟩ hx flFf (pb_in_0 (xs := xs) (cn62f _ _))
  rw [ht, hl] at g
  exact g

end Go.Proofs.Ytifpbdhggooelaa.dsk
