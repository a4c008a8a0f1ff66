/- ChnFactt -/
import Derived.Test.YtlcdjgpblpodaaaGreatDoorCards
import Derived.WalkKit
import Derived.ProofKit
import Derived.SevenTiedAt
namespace Go.Proofs.YtlcdjgpblpodaaaGreatDoor.topChain
open Go
set_option maxRecDepth 100000
theorem b1 : Rows.topChainRow.wfByText (OpenSpec.ofChange Rows.topChainSpec) = true := by kernel_rfl
theorem b2 : Tryz.prog.mainIs = some (true, "991e1d7bbd9e5a17e381f404e0963fe696ca8cec504a3f0107cc101f341d24bf".toList) := by kernel_rfl
theorem b4 : true = Tryz.prog.looks [] := by kernel_rfl
theorem b5 : ([2, 5].all fun u => !Tryz.prog.wantsStandIn u) = true := by kernel_rfl
theorem b6 : false = Rows.topChainRow.goesBy Tryz.prog := by kernel_rfl
end Go.Proofs.YtlcdjgpblpodaaaGreatDoor.topChain
