/- PlanTells: known. -/
import Derived.Test.YtminfdcdmgpnjaaS21
import Derived.Test.YtminfdcdmgpnjaaK23
set_option maxRecDepth 100000
namespace Go.Proofs.Ytminfdcdmgpnjaa.K
open Go
theorem known9 : isTrue (M9 (oL P32) NN [] ⟨0, []⟩ pureK) = true := by kernel_rfl
theorem E9 : FSound Try.prog 9 (pureO fun vs _ => match vs with | [] => some (.bool true) | _ => none) := by
  obtain ⟨H, e⟩ := of_isTrue known9
  exact closed_sound (M9_sound y32.orc NN) e
end Go.Proofs.Ytminfdcdmgpnjaa.K
