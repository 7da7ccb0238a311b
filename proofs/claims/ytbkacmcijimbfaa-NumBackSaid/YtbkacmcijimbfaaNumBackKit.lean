/- The contracts that the law NumBack uses. -/
import Derived.Test.YtbkacmcijimbfaaNumOp15
import Derived.Test.YtbkacmcijimbfaaNumOp16
import Derived.Test.YtbkacmcijimbfaaNumOp21
import Derived.Test.YtbkacmcijimbfaaNumOp22
import Derived.Test.YtbkacmcijimbfaaNumOp23
import Derived.Test.YtbkacmcijimbfaaNumOf
namespace Go.Proofs.Ytbkacmcijimbfaa.numBack
open Go Ytbkacmcijimbfaa.GD Ytbkacmcijimbfaa.numk
set_option linter.unusedVariables false
set_option linter.unusedSimpArgs false

def arK (f : Nat) (ka na kb nb : Int) : Int := (arith f ka na kb nb).1
def arN (f : Nat) (ka na kb nb : Int) : Int := (arith f ka na kb nb).2.1
def arE (f : Nat) (ka na kb nb : Int) : Int := (arith f ka na kb nb).2.2
def arC (i : Nat) : List D → GD.Heap → Option (D × GD.Heap × List Prop)
  | [.agg [.int .i64 ka, .int .i64 na, .str _, .slice _ _ none, .slice _ _ none, .slice _ _ none], .agg [.int .i64 kb, .int .i64 nb, .str _, .slice _ _ none, .slice _ _ none, .slice _ _ none]], [] => some (res (arK i ka na kb nb) (arN i ka na kb nb) (arE i ka na kb nb), [], [R na, R nb])
  | _, _ => none
theorem arC_ok {f i : Nat} {args : List D} {H : GD.Heap} {r : D} {H1 : GD.Heap} {cs : List Prop}
    (h : ∀ (ka na : Int) (sa : ByteArray) (xba : Bool) (eba : Es) (xfa : Bool) (efa : Es) (xla : Bool) (ela : Es) (kb nb : Int) (sb : ByteArray) (xbb : Bool) (ebb : Es) (xfb : Bool) (efb : Es) (xlb : Bool) (elb : Es), R na → R nb →
      ∃ X, Ev c0.P c0.T (.call f (two ka na sa xba eba xfa efa xla ela kb nb sb xbb ebb xfb efb xlb elb) [] (res (arith i ka na kb nb).1 (arith i ka na kb nb).2.1 (arith i ka na kb nb).2.2) ([] ++ X)))
    (he : arC i args H = some (r, H1, cs)) (hc : ∀ c ∈ cs, c) : ∃ X, Ev c0.P c0.T (.call f args H r (H1 ++ X)) := by
  unfold arC at he
  split at he
  · simp only [Option.some.injEq, Prod.mk.injEq] at he
    obtain ⟨rfl, rfl, rfl⟩ := he
    exact h _ _ _ _ _ _ _ _ _ _ _ _ _ _ _ _ _ _ (hc _ (List.mem_cons_self ..)) (hc _ (List.mem_cons_of_mem _ (List.mem_cons_self ..)))
  · cases he
def ofC : List D → GD.Heap → Option (D × GD.Heap × List Prop)
  | [.int .i64 n], [] => some (flatV (of32 n) n, [], [R n])
  | _, _ => none
def awC : List D → GD.Heap → Option (D × GD.Heap × List Prop)
  | [], [] => some (.bool true, [], [])
  | _, _ => none
def ct (k : FuncId) (args : List D) (H : GD.Heap) : Option (D × GD.Heap × List Prop) :=
  match k with
  | 13 => awC args H
  | 20 => ofC args H
  | 15 => arC 45 args H
  | 16 => arC 46 args H
  | 21 => arC 47 args H
  | 22 => arC 48 args H
  | 23 => arC 49 args H
  | _ => none

theorem ct_ok (k : FuncId) (args : List D) (H : GD.Heap) (r : D) (H1 : GD.Heap) (cs : List Prop) (he : ct k args H = some (r, H1, cs)) (hc : ∀ c ∈ cs, c) : ∃ X, Ev c0.P c0.T (.call k args H r (H1 ++ X)) := by
  unfold ct at he
  split at he
  · unfold awC at he
    split at he
    · simp only [Option.some.injEq, Prod.mk.injEq] at he
      obtain ⟨rfl, rfl, rfl⟩ := he
      exact awake13
    · cases he
  · unfold ofC at he
    split at he
    · simp only [Option.some.injEq, Prod.mk.injEq] at he
      obtain ⟨rfl, rfl, rfl⟩ := he
      exact c20 _
    · cases he
  · exact arC_ok c15 he hc
  · exact arC_ok c16 he hc
  · exact arC_ok c21 he hc
  · exact arC_ok c22 he hc
  · exact arC_ok c23 he hc
  · cases he

noncomputable def cN : Cf := { P := Try.prog, T := tyOf Try.prog, hint := fun _ _ _ => .sym, room := fun _ _ => 4, meth := fun _ _ => none, ct := ct, stop := true }
theorem cNOk : CfOk cN where
  hT := fun _ _ h => h
  hm := by kernel_rfl
  meth := fun _ _ _ h => by simp only [cN] at h; cases h
  ct := ct_ok
noncomputable def q (a b : Int) (w0 w1 : Bool) (or : GD.Or) := callE cN 100000 10 4 [.int .i64 a, .int .i64 b, .agg [.bool w0, .bool w1]] [] or

end Go.Proofs.Ytbkacmcijimbfaa.numBack
