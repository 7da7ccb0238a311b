/- PROVED: the law KeyKnown hands back true. No conditions. -/
import Derived.Test.YtlccdfilbiipmaaKeyKnownBase
namespace Go.Proofs.Ytlccdfilbiipmaa.keyKnown
open Go Ytlccdfilbiipmaa.GD

theorem r7 : cutF [1, 2, 3] 30 (run (7)) = some (.normal, (inv (8)).env, (inv (8)).H, []) := by kernel_rfl
theorem r8 : cutF [1, 2, 3] 30 (run (8)) = some (.normal, (inv (9)).env, (inv (9)).H, []) := by kernel_rfl
theorem r9 : cutF [1, 2, 3] 30 (run (9)) = some (.normal, (inv (10)).env, (inv (10)).H, []) := by kernel_rfl

end Go.Proofs.Ytlccdfilbiipmaa.keyKnown
