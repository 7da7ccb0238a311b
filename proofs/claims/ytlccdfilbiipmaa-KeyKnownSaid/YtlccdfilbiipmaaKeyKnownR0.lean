/- PROVED: the law KeyKnown hands back true. No conditions. -/
import Derived.Test.YtlccdfilbiipmaaKeyKnownBase
namespace Go.Proofs.Ytlccdfilbiipmaa.keyKnown
open Go Ytlccdfilbiipmaa.GD

theorem r1 : cutF [1, 2, 3] 30 (run (1)) = some (.normal, (inv (2)).env, (inv (2)).H, []) := by kernel_rfl
theorem r2 : cutF [1, 2, 3] 30 (run (2)) = some (.normal, (inv (3)).env, (inv (3)).H, []) := by kernel_rfl
theorem r3 : cutF [1, 2, 3] 30 (run (3)) = some (.normal, (inv (4)).env, (inv (4)).H, []) := by kernel_rfl

end Go.Proofs.Ytlccdfilbiipmaa.keyKnown
