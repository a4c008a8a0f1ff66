/- ChnFacts -/
import Derived.Test.YtlcdjgpblpodaaaGreatDoorCards
import Derived.WalkKit
import Derived.ProofKit
import Derived.SevenTiedAt
namespace Go.Proofs.YtlcdjgpblpodaaaGreatDoor.topChain
open Go
set_option maxRecDepth 100000
theorem a0 : Tryz.prog.funcNamed Rows.topChainRow.func = some 4 := by kernel_rfl
theorem a1 : Rows.topChainRow.wf (OpenSpec.ofChange Rows.topChainSpec) = true := by kernel_rfl
theorem a2 : laidOutB Tryz.prog = true := by kernel_rfl
theorem a3 : mapsRowed Tryz.prog = true := by kernel_rfl
theorem a10 : (Rows.topChainRow.inPlace == Tryz.prog.inPlace 4) = true := by kernel_rfl
theorem a11 : (Rows.topChainRow.unfollowed == Tryz.prog.unfollowed 4) = true := by kernel_rfl
theorem a12 : (Rows.topChainRow.recurses == Tryz.prog.recurses 4) = true := by kernel_rfl
theorem a13 : (Rows.topChainRow.named == Tryz.prog.varsNamed 4) = true := by kernel_rfl
theorem inst : Tryz.f4.isInstance Tryz.prog Rows.topChainRow.origin Rows.topChainRow.targs := of_decide_eq_true (by kernel_rfl)
theorem wrapper : Tryz.f4.isWrapper Tryz.prog Rows.topChainRow.wrapper Rows.topChainRow.mainSum := by unfold Func.isWrapper; first | (rw [if_pos (by decide +kernel)]; kernel_rfl) | (rw [if_neg (by decide +kernel)]; exact ⟨rfl, rfl⟩)
end Go.Proofs.YtlcdjgpblpodaaaGreatDoor.topChain
