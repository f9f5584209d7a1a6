/- Of the program, once. -/
import Derived.Test.YtminfdcdmgpnjaaK18
import Derived.Test.YtminfdcdmgpnjaaProg
namespace Go.Proofs.Ytminfdcdmgpnjaa.K
open Go
theorem hmix : Try.prog.follows .mixedOrders = true := by kernel_rfl
end Go.Proofs.Ytminfdcdmgpnjaa.K
