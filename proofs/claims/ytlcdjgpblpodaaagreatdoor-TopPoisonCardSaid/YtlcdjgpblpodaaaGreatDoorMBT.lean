/- PoiFacts -/
import Derived.Test.YtlcdjgpblpodaaaGreatDoorCards
import Derived.WalkKit
import Derived.ProofKit
import Derived.SevenTiedAt
namespace Go.Proofs.YtlcdjgpblpodaaaGreatDoor.topPoison
open Go
set_option maxRecDepth 100000
theorem a0 : Tryz.prog.funcNamed Rows.topPoisonRow.func = some 5 := by kernel_rfl
theorem a1 : Rows.topPoisonRow.wf (OpenSpec.ofChange Rows.topPoisonSpec) = true := by kernel_rfl
theorem a2 : laidOutB Tryz.prog = true := by kernel_rfl
theorem a3 : mapsRowed Tryz.prog = true := by kernel_rfl
theorem a10 : (Rows.topPoisonRow.inPlace == Tryz.prog.inPlace 5) = true := by kernel_rfl
theorem a11 : (Rows.topPoisonRow.unfollowed == Tryz.prog.unfollowed 5) = true := by kernel_rfl
theorem a12 : (Rows.topPoisonRow.recurses == Tryz.prog.recurses 5) = true := by kernel_rfl
theorem a13 : (Rows.topPoisonRow.named == Tryz.prog.varsNamed 5) = true := by kernel_rfl
theorem inst : Tryz.f5.isInstance Tryz.prog Rows.topPoisonRow.origin Rows.topPoisonRow.targs := of_decide_eq_true (by kernel_rfl)
theorem wrapper : Tryz.f5.isWrapper Tryz.prog Rows.topPoisonRow.wrapper Rows.topPoisonRow.mainSum := by unfold Func.isWrapper; first | (rw [if_pos (by decide +kernel)]; kernel_rfl) | (rw [if_neg (by decide +kernel)]; exact ⟨rfl, rfl⟩)
end Go.Proofs.YtlcdjgpblpodaaaGreatDoor.topPoison
