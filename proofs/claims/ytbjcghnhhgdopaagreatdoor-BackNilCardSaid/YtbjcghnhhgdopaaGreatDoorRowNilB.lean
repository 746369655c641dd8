import Derived.Test.YtbjcghnhhgdopaaGreatDoorHead
import Derived.JoinedOf
namespace Go.Proofs.YtbjcghnhhgdopaaGreatDoor
open Go
set_option maxRecDepth 100000
theorem inst : Tryz.f6.isInstance Tryz.pinned.checked.prog Rows.backNilRow.origin Rows.backNilRow.targs := (of_decide_eq_true (by kernel_rfl))
theorem wrap : Tryz.f6.isWrapper Tryz.pinned.checked.prog Rows.backNilRow.wrapper Rows.backNilRow.mainSum := (by unfold Func.isWrapper; first | (rw [if_pos (by decide +kernel)]; kernel_rfl) | (rw [if_neg (by decide +kernel)]; exact ⟨rfl, rfl⟩))
theorem named : Tryz.pinned.checked.prog.funcNamed Rows.backNilRow.func = some 6 := by kernel_rfl
end Go.Proofs.YtbjcghnhhgdopaaGreatDoor
