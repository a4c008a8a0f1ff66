/- ChnFactu -/
import Derived.Test.YtlcdjgpblpodaaaGreatDoorCards
import Derived.Test.YtlcdjgpblpodaaaGreatDoorMBX
import Derived.WalkKit
import Derived.ProofKit
import Derived.SevenTiedAt
namespace Go.Proofs.YtlcdjgpblpodaaaGreatDoor.topChain
open Go
set_option maxRecDepth 100000
set_option maxHeartbeats 4000000 in
theorem joined : joinedFacts Tryz.prog 4 Tryz.f4 Rows.topChainSpec Rows.topChainRow = true := by
  unfold joinedFacts
  rw [a1, a2, a3, a10, a11, a12, a13]
  simp only [Bool.true_and]
  repeat' (with_reducible refine (Bool.and_eq_true _ _).mpr ⟨?_, ?_⟩)
  all_goals as_aux_lemma => kernel_rfl
end Go.Proofs.YtlcdjgpblpodaaaGreatDoor.topChain
