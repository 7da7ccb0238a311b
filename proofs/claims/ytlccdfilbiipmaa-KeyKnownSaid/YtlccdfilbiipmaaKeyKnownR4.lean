/- PROVED: the law KeyKnown hands back true. No conditions. -/
import Derived.Test.YtlccdfilbiipmaaKeyKnownBase
namespace Go.Proofs.Ytlccdfilbiipmaa.keyKnown
open Go Ytlccdfilbiipmaa.GD

theorem r13 : cutF [1, 2, 3] 30 (run (13)) = some (.normal, (inv (14)).env, (inv (14)).H, []) := by kernel_rfl
theorem r14 : cutF [1, 2, 3] 30 (run (14)) = some (.normal, (inv (15)).env, (inv (15)).H, []) := by kernel_rfl
theorem r15 : cutF [1, 2, 3] 30 (run (15)) = some (.normal, (inv (16)).env, (inv (16)).H, []) := by kernel_rfl

end Go.Proofs.Ytlccdfilbiipmaa.keyKnown
