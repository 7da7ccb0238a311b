/- PROVED: the law KeyKnown hands back true. No conditions. -/
import Derived.Test.YtlccdfilbiipmaaKeyKnownBase
namespace Go.Proofs.Ytlccdfilbiipmaa.keyKnown
open Go Ytlccdfilbiipmaa.GD

theorem r4 : cutF [1, 2, 3] 30 (run (4)) = some (.normal, (inv (5)).env, (inv (5)).H, []) := by kernel_rfl
theorem r5 : cutF [1, 2, 3] 30 (run (5)) = some (.normal, (inv (6)).env, (inv (6)).H, []) := by kernel_rfl
theorem r6 : cutF [1, 2, 3] 30 (run (6)) = some (.normal, (inv (7)).env, (inv (7)).H, []) := by kernel_rfl

end Go.Proofs.Ytlccdfilbiipmaa.keyKnown
