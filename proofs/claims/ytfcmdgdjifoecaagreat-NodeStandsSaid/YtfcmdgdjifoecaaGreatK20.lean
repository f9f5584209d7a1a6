/- Of the program, once. -/
import Derived.Test.YtfcmdgdjifoecaaGreatK18
import Derived.Test.YtfcmdgdjifoecaaGreatProg
namespace Go.Proofs.YtfcmdgdjifoecaaGreat.K
open Go
theorem hmix : Tryz.prog.follows .mixedOrders = true := by kernel_rfl
end Go.Proofs.YtfcmdgdjifoecaaGreat.K
