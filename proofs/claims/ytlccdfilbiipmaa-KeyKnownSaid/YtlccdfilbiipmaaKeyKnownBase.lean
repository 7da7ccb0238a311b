/- PROVED: the law KeyKnown hands back true. No conditions. -/
import Derived.Test.YtlccdfilbiipmaaRows
import Derived.Test.YtlccdfilbiipmaaGd30
namespace Go.Proofs.Ytlccdfilbiipmaa.keyKnown
open Go Ytlccdfilbiipmaa.GD
set_option linter.unusedVariables false

noncomputable def cf (b : Bool) : Cf := { P := Try.prog, T := tyOf Try.prog, hint := fun f r o => if f = 6 then .aTok else .auto, room := fun f r => if f = 6 then (if r = 4 then 1 else 8) else 8, meth := fun _ _ => none, ct := fun _ _ _ => none, stop := b }
theorem cfOk (b : Bool) : CfOk (cf b) where
  hT := fun _ _ h => h
  hm := by kernel_rfl
  meth := fun _ _ _ h => by simp only [cf] at h; cases h
  ct := fun _ _ _ _ _ _ h => by simp only [cf] at h; cases h
noncomputable def bodyOf (f : Nat) : Code := match Try.prog.funcs[f]? with | some fn => (match fn.body with | some c => c | none => .skip) | none => .skip
noncomputable def fnOf (f : Nat) : Func := match Try.prog.funcs[f]? with | some fn => fn | none => default
noncomputable def run0 := runE (cf true) (callE (cf false) 100000 100) 6 100000 (.code (bodyOf 6)) [] (beginE (fnOf 6) [] []) .auto []
noncomputable def loopC : Code := stC run0
noncomputable def loopK : List It := stK run0
def vals : List (List D) :=
  [[D.int IntKind.i64 0, D.int IntKind.i64 0, D.str { data := #[] }, D.slice false [] none, D.slice false [] none,
            D.slice false [] none],
          [D.int IntKind.i64 1, D.int IntKind.i64 0, D.str { data := #[] }, D.slice false [] none,
            D.slice false [] none, D.slice false [] none],
          [D.int IntKind.i64 2, D.int IntKind.i64 0, D.str { data := #[] }, D.slice false [] none,
            D.slice false [] none, D.slice false [] none],
          [D.int IntKind.i64 3, D.int IntKind.i64 (-2147483648), D.str { data := #[] }, D.slice false [] none,
            D.slice false [] none, D.slice false [] none],
          [D.int IntKind.i64 4, D.int IntKind.i64 (-1), D.str { data := #[] }, D.slice false [] none,
            D.slice false [] none, D.slice false [] none],
          [D.int IntKind.i64 3, D.int IntKind.i64 0, D.str { data := #[] }, D.slice false [] none,
            D.slice false [] none, D.slice false [] none],
          [D.int IntKind.i64 4, D.int IntKind.i64 4611686018427387904, D.str { data := #[] }, D.slice false [] none,
            D.slice false [] none, D.slice false [] none],
          [D.int IntKind.i64 5, D.int IntKind.i64 0, D.str { data := #[] }, D.slice false [] none,
            D.slice false [] none, D.slice false [] none],
          [D.int IntKind.i64 5, D.int IntKind.i64 0, D.str { data := #[0] }, D.slice false [] none,
            D.slice false [] none, D.slice false [] none],
          [D.int IntKind.i64 5, D.int IntKind.i64 0, D.str { data := #[0, 0] }, D.slice false [] none,
            D.slice false [] none, D.slice false [] none],
          [D.int IntKind.i64 5, D.int IntKind.i64 0, D.str { data := #[1] }, D.slice false [] none,
            D.slice false [] none, D.slice false [] none],
          [D.int IntKind.i64 6, D.int IntKind.i64 0, D.str { data := #[] }, D.slice false [] none,
            D.slice false [] none, D.slice false [] none],
          [D.int IntKind.i64 7, D.int IntKind.i64 0, D.str { data := #[] }, D.slice false [] none,
            D.slice false [] none, D.slice false [] none],
          [D.int IntKind.i64 7, D.int IntKind.i64 0, D.str { data := #[] }, D.slice false [] none,
            D.slice false [] none,
            D.slice true
              [[D.int IntKind.i64 2, D.int IntKind.i64 0, D.str { data := #[] }, D.slice false [] none,
                  D.slice false [] none, D.slice false [] none]]
              none],
          [D.int IntKind.i64 8, D.int IntKind.i64 0, D.str { data := #[] }, D.slice false [] none,
            D.slice false [] none, D.slice false [] none],
          [D.int IntKind.i64 9, D.int IntKind.i64 0, D.str { data := #[] },
            D.slice true
              [[D.int IntKind.u8 0], [D.int IntKind.u8 0], [D.int IntKind.u8 0], [D.int IntKind.u8 0],
                [D.int IntKind.u8 0], [D.int IntKind.u8 0], [D.int IntKind.u8 0], [D.int IntKind.u8 0],
                [D.int IntKind.u8 0], [D.int IntKind.u8 0], [D.int IntKind.u8 0], [D.int IntKind.u8 0]]
              none,
            D.slice false [] none, D.slice false [] none],
          [D.int IntKind.i64 10, D.int IntKind.i64 0, D.str { data := #[] }, D.slice false [] none,
            D.slice false [] none, D.slice false [] none],
          [D.int IntKind.i64 11, D.int IntKind.i64 (-9223372036854775808), D.str { data := #[] }, D.slice false [] none,
            D.slice false [] none, D.slice false [] none],
          [D.int IntKind.i64 12, D.int IntKind.i64 0, D.str { data := #[] }, D.slice false [] none,
            D.slice false [] none, D.slice false [] none]]
def hp : GD.Heap :=
  [none, none, none, none, none, none, none, none, none, none, none, none, none, none, none, none, none, none,
      some (HObj.tok 1 6), none, none, some (HObj.tok 12 1), none, none, none, none, none, none, some (HObj.tok 19 6),
      none]
def inv (i : Int) : St := ⟨[.undef, .func (.func 16) [] [], .slice true vals (some 28), .int .i64 i] ++ List.replicate 91 .undef, hp⟩
def yes : List D := [.bool true] ++ List.replicate 94 .undef

noncomputable def run (i : Int) := runE (cf false) (callE (cf false) 100000 100) 6 100000 (.code loopC) [] (inv i) .auto []
noncomputable def rest := runE (cf false) (callE (cf false) 100000 100) 6 100000 (.done (.exit 0)) loopK (inv (19)) .auto []

end Go.Proofs.Ytlccdfilbiipmaa.keyKnown
