/- The closed facts of TopFull's row and card, each by itself. -/
import Derived.Test.YtlcdjgpblpodaaaGreatDoorCards
import Derived.WalkKit
import Derived.ProofKit
import Derived.SevenTiedAt
namespace Go.Proofs.YtlcdjgpblpodaaaGreatDoor.topFull
open Go
set_option maxRecDepth 100000
theorem a0 : Tryz.prog.funcNamed Rows.topFullRow.func = some 3 := by kernel_rfl
theorem a1 : Rows.topFullRow.wf (OpenSpec.ofChange Rows.topFullSpec) = true := by kernel_rfl
theorem a2 : laidOutB Tryz.prog = true := by kernel_rfl
theorem a3 : mapsRowed Tryz.prog = true := by kernel_rfl
theorem a10 : (Rows.topFullRow.inPlace == Tryz.prog.inPlace 3) = true := by kernel_rfl
theorem a11 : (Rows.topFullRow.unfollowed == Tryz.prog.unfollowed 3) = true := by kernel_rfl
theorem a12 : (Rows.topFullRow.recurses == Tryz.prog.recurses 3) = true := by kernel_rfl
theorem a13 : (Rows.topFullRow.named == Tryz.prog.varsNamed 3) = true := by kernel_rfl
theorem inst : Tryz.f3.isInstance Tryz.prog Rows.topFullRow.origin Rows.topFullRow.targs := of_decide_eq_true (by kernel_rfl)
theorem wrapper : Tryz.f3.isWrapper Tryz.prog Rows.topFullRow.wrapper Rows.topFullRow.mainSum := by unfold Func.isWrapper; first | (rw [if_pos (by decide +kernel)]; kernel_rfl) | (rw [if_neg (by decide +kernel)]; exact ⟨rfl, rfl⟩)
end Go.Proofs.YtlcdjgpblpodaaaGreatDoor.topFull
