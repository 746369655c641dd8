import Derived.Test.YtbjcghnhhgdopaaGreatDoorHead
import Derived.JoinedOf
namespace Go.Proofs.YtbjcghnhhgdopaaGreatDoor
open Go
set_option maxRecDepth 100000
theorem closed : joinedFacts Tryz.pinned.checked.prog 6 Tryz.f6 Rows.backNilSpec Rows.backNilRow = true := by kernel_rfl
end Go.Proofs.YtbjcghnhhgdopaaGreatDoor
