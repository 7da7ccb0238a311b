/- PROVED: the law KeyKnown hands back true. No conditions. -/
import Derived.Test.YtlccdfilbiipmaaKeyKnownBase
namespace Go.Proofs.Ytlccdfilbiipmaa.keyKnown
open Go Ytlccdfilbiipmaa.GD

theorem r16 : cutF [1, 2, 3] 30 (run (16)) = some (.normal, (inv (17)).env, (inv (17)).H, []) := by kernel_rfl
theorem r17 : cutF [1, 2, 3] 30 (run (17)) = some (.normal, (inv (18)).env, (inv (18)).H, []) := by kernel_rfl
theorem r18 : cutF [1, 2, 3] 30 (run (18)) = some (.normal, (inv (19)).env, (inv (19)).H, []) := by kernel_rfl

end Go.Proofs.Ytlccdfilbiipmaa.keyKnown
