/- PROVED: the law KeyKnown hands back true. No conditions. -/
import Derived.Test.YtlccdfilbiipmaaKeyKnownBase
namespace Go.Proofs.Ytlccdfilbiipmaa.keyKnown
open Go Ytlccdfilbiipmaa.GD

theorem r10 : cutF [1, 2, 3] 30 (run (10)) = some (.normal, (inv (11)).env, (inv (11)).H, []) := by kernel_rfl
theorem r11 : cutF [1, 2, 3] 30 (run (11)) = some (.normal, (inv (12)).env, (inv (12)).H, []) := by kernel_rfl
theorem r12 : cutF [1, 2, 3] 30 (run (12)) = some (.normal, (inv (13)).env, (inv (13)).H, []) := by kernel_rfl

end Go.Proofs.Ytlccdfilbiipmaa.keyKnown
