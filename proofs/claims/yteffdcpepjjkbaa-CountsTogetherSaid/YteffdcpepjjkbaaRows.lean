/-
  No cell of these rows narrows 'for every input' (looked for: loops, veiled, ifaces, maps, wideKeys, modest, calm, conditions, laid).
  DERIVED. THE GIVEN ROWS OF THIS SEAT. 3 by the template 'for every input the law returns true; each argument reads behind the call as it read before'; 0 by the template 'total and deterministic' (their statements: YteffdcpepjjkbaaTotals.lean).
  GIVEN WITH THE SEED: the statements are not yours to turn. If you find one false, say at which input.
  Laid BY PROGRAM, IN A SANDBOX (cutbox-rows.mjs): the forced cells as the released guide's own fill.sh prints them over the translation ebc599cf1a66db8a… (all of the seat's roots in one cut). By AI agents, Wed Nov 11 2026. No macro, syntax, notation, axiom, sorry.
-/
import Derived.Test.YteffdcpepjjkbaaChecked
import GoSem.Claim
import GoSem.ClaimJoined
import GoSem.ClaimMapViews
import Derived.JoinedTies
import Derived.KernelRfl
namespace Go.Proofs.Yteffdcpepjjkbaa
/- THE CELL 'sum', in the pinned program and in every row, IS THE sha256 OF THE DUMP (.gsa) THAT YteffdcpepjjkbaaProg.lean LOADS. Nothing in Lean hashes anything: it is a label: what it is worth is what the hold of that sum in a sandbox is worth. -/
noncomputable def Try.pinned : Pinned := { name := "yteffdcpepjjkbaa", sum := "ebc599cf1a66db8ad52592ff7d2e283122b3e7524039a4e0a902ce573a945152", checked := Try.checked }
namespace Rows
def none {H : Type} : Left H := { results := [], args := [] }

/-- 'reevelaw04.CountsPlay': WHATEVER THE INPUT: true; the input reads as it did. -/
def countsPlaySpec : ChangeSpec := { name := "countsPlay", fn := fun _ => fun
  | [d1, d2] => { results := [.lit (.bool true)], args := [d1, d2] }
  | _ => none }
def countsPlayRow : OpenClaim := { program := "yteffdcpepjjkbaa", sum := "ebc599cf1a66db8ad52592ff7d2e283122b3e7524039a4e0a902ce573a945152", func := "reeve/reevelaw04.CountsPlay", spec := "countsPlay", inPlace := ["sync/atomic.AddUint64", "sync/atomic.SwapUint64", "sync/atomic.LoadUint64"], apart := false }
def CountsPlaySaid : Prop := countsPlayRow.holds Try.pinned (OpenSpec.ofChange countsPlaySpec)

/-- ITS FALSE NEIGHBOUR: 'it returns false'. Refute it at one input. -/
def countsPlayWrong : ChangeSpec := { name := "countsPlay", fn := fun _ => fun
  | [d1, d2] => { results := [.lit (.bool false)], args := [d1, d2] }
  | _ => none }
def CountsPlayWrongFalsely : Prop := countsPlayRow.holds Try.pinned (OpenSpec.ofChange countsPlayWrong)

/-- 'reevelaw04.CountsTogether': WHATEVER THE INPUT: true; the input reads as it did. -/
def countsTogetherSpec : ChangeSpec := { name := "countsTogether", fn := fun _ => fun
  | [d1, d2] => { results := [.lit (.bool true)], args := [d1, d2] }
  | _ => none }
def countsTogetherRow : OpenClaim := { program := "yteffdcpepjjkbaa", sum := "ebc599cf1a66db8ad52592ff7d2e283122b3e7524039a4e0a902ce573a945152", func := "reeve/reevelaw04.CountsTogether", spec := "countsTogether", inPlace := ["sync/atomic.AddUint64", "sync/atomic.SwapUint64", "(*sync.WaitGroup).Go", "(*sync.WaitGroup).Add", "internal/race.ReleaseMerge", "internal/race.Disable", "internal/race.Enable", "internal/synctest.IsInBubble", "internal/synctest.Associate[sync.WaitGroup]", "sync.fatal", "sync/atomic.OrUint64", "internal/race.Read", "sync/atomic.LoadUint64", "sync/atomic.StoreUint64", "internal/synctest.Disassociate[sync.WaitGroup]", "sync.runtime_Semrelease", "(*sync.WaitGroup).Go$1", "(*sync.WaitGroup).Go$1$1", "(*sync.WaitGroup).Done", "(*sync.WaitGroup).Wait", "internal/race.Acquire", "internal/synctest.IsAssociated[sync.WaitGroup]", "sync/atomic.CompareAndSwapUint64", "internal/race.Write", "sync.runtime_SemacquireWaitGroup"], unfollowed := true, recurses := true, leaving := true, apart := false }
def CountsTogetherSaid : Prop := countsTogetherRow.holds Try.pinned (OpenSpec.ofChange countsTogetherSpec)

/-- ITS FALSE NEIGHBOUR: 'it returns false'. Refute it at one input. -/
def countsTogetherWrong : ChangeSpec := { name := "countsTogether", fn := fun _ => fun
  | [d1, d2] => { results := [.lit (.bool false)], args := [d1, d2] }
  | _ => none }
def CountsTogetherWrongFalsely : Prop := countsTogetherRow.holds Try.pinned (OpenSpec.ofChange countsTogetherWrong)

/-- 'reevelaw04.CountsNil': WHATEVER THE INPUT: true; the input reads as it did. -/
def countsNilSpec : ChangeSpec := { name := "countsNil", fn := fun _ => fun
  | [d1, d2] => { results := [.lit (.bool true)], args := [d1, d2] }
  | _ => none }
def countsNilRow : OpenClaim := { program := "yteffdcpepjjkbaa", sum := "ebc599cf1a66db8ad52592ff7d2e283122b3e7524039a4e0a902ce573a945152", func := "reeve/reevelaw04.CountsNil", spec := "countsNil", inPlace := ["sync/atomic.AddUint64", "sync/atomic.SwapUint64", "(*sync.WaitGroup).Go", "(*sync.WaitGroup).Add", "internal/race.ReleaseMerge", "internal/race.Disable", "internal/race.Enable", "internal/synctest.IsInBubble", "internal/synctest.Associate[sync.WaitGroup]", "sync.fatal", "sync/atomic.OrUint64", "internal/race.Read", "sync/atomic.LoadUint64", "sync/atomic.StoreUint64", "internal/synctest.Disassociate[sync.WaitGroup]", "sync.runtime_Semrelease", "(*sync.WaitGroup).Go$1", "(*sync.WaitGroup).Go$1$1", "(*sync.WaitGroup).Done", "(*sync.WaitGroup).Wait", "internal/race.Acquire", "internal/synctest.IsAssociated[sync.WaitGroup]", "sync/atomic.CompareAndSwapUint64", "internal/race.Write", "sync.runtime_SemacquireWaitGroup"], unfollowed := true, recurses := true, leaving := true, apart := false }
def CountsNilSaid : Prop := countsNilRow.holds Try.pinned (OpenSpec.ofChange countsNilSpec)

/-- ITS FALSE NEIGHBOUR: 'it returns false'. Refute it at one input. -/
def countsNilWrong : ChangeSpec := { name := "countsNil", fn := fun _ => fun
  | [d1, d2] => { results := [.lit (.bool false)], args := [d1, d2] }
  | _ => none }
def CountsNilWrongFalsely : Prop := countsNilRow.holds Try.pinned (OpenSpec.ofChange countsNilWrong)

/- THE SECOND FORM. 'bulk': how many values and letters a reading holds, each counted each time it is reached (what is shared counts as often as it is met; a slice's spare places count too). A statement '..UptoSaid' is the law's where the arguments, and the package variables that the reading takes, are together of bulk at most 1048576: NARROWER than '..Said'. Prove '..Said' where nothing that the law and all that it calls make is longer than what came in: it says more and counts as full. Else prove '..UptoSaid'. A law counts once. -/
mutual
def uptoBulk {H : Type} : DataW H → Nat
  | .lit (.string bytes) => bytes.length + 1
  | .lit _ => 1
  | .nil => 1
  | .ptr d => uptoBulk d + 1
  | .slice elems spare => uptoBulkAll elems + uptoBulkAll spare + 1
  | .agg parts => uptoBulkAll parts + 1
  | .iface _ d => uptoBulk d + 1
  | .map entries => uptoBulkEntries entries + 1
  | .held _ => 1
def uptoBulkAll {H : Type} : List (DataW H) → Nat
  | [] => 0
  | d :: r => uptoBulk d + uptoBulkAll r
def uptoBulkEntries {H : Type} : List (Lit × DataW H) → Nat
  | [] => 0
  | x :: r => uptoBulkEntry x + uptoBulkEntries r
def uptoBulkEntry {H : Type} : Lit × DataW H → Nat
  | (.string bytes, d) => bytes.length + uptoBulk d + 1
  | (_, d) => uptoBulk d + 1
 end
def uptoSmall : (H : Type) → List (DataW H) → Bool := fun _ ds => decide (uptoBulkAll ds ≤ 1048576)
def OpenSpec.upto (s : _root_.Go.ChangeSpec) : _root_.Go.OpenSpec := { _root_.Go.OpenSpec.ofChange s with cond := some uptoSmall }

/-- 'reevelaw04.CountsPlay', WHERE WHAT IT READS IS OF BULK AT MOST 1048576: true; the input reads as it did. -/
def countsPlayUptoRow : OpenClaim := { program := "yteffdcpepjjkbaa", sum := "ebc599cf1a66db8ad52592ff7d2e283122b3e7524039a4e0a902ce573a945152", func := "reeve/reevelaw04.CountsPlay", spec := "countsPlay", inPlace := ["sync/atomic.AddUint64", "sync/atomic.SwapUint64", "sync/atomic.LoadUint64"], apart := false, narrowed := true }
def CountsPlayUptoSaid : Prop := countsPlayUptoRow.holds Try.pinned (OpenSpec.upto countsPlaySpec)

/-- 'reevelaw04.CountsTogether', WHERE WHAT IT READS IS OF BULK AT MOST 1048576: true; the input reads as it did. -/
def countsTogetherUptoRow : OpenClaim := { program := "yteffdcpepjjkbaa", sum := "ebc599cf1a66db8ad52592ff7d2e283122b3e7524039a4e0a902ce573a945152", func := "reeve/reevelaw04.CountsTogether", spec := "countsTogether", inPlace := ["sync/atomic.AddUint64", "sync/atomic.SwapUint64", "(*sync.WaitGroup).Go", "(*sync.WaitGroup).Add", "internal/race.ReleaseMerge", "internal/race.Disable", "internal/race.Enable", "internal/synctest.IsInBubble", "internal/synctest.Associate[sync.WaitGroup]", "sync.fatal", "sync/atomic.OrUint64", "internal/race.Read", "sync/atomic.LoadUint64", "sync/atomic.StoreUint64", "internal/synctest.Disassociate[sync.WaitGroup]", "sync.runtime_Semrelease", "(*sync.WaitGroup).Go$1", "(*sync.WaitGroup).Go$1$1", "(*sync.WaitGroup).Done", "(*sync.WaitGroup).Wait", "internal/race.Acquire", "internal/synctest.IsAssociated[sync.WaitGroup]", "sync/atomic.CompareAndSwapUint64", "internal/race.Write", "sync.runtime_SemacquireWaitGroup"], unfollowed := true, recurses := true, leaving := true, apart := false, narrowed := true }
def CountsTogetherUptoSaid : Prop := countsTogetherUptoRow.holds Try.pinned (OpenSpec.upto countsTogetherSpec)

/-- 'reevelaw04.CountsNil', WHERE WHAT IT READS IS OF BULK AT MOST 1048576: true; the input reads as it did. -/
def countsNilUptoRow : OpenClaim := { program := "yteffdcpepjjkbaa", sum := "ebc599cf1a66db8ad52592ff7d2e283122b3e7524039a4e0a902ce573a945152", func := "reeve/reevelaw04.CountsNil", spec := "countsNil", inPlace := ["sync/atomic.AddUint64", "sync/atomic.SwapUint64", "(*sync.WaitGroup).Go", "(*sync.WaitGroup).Add", "internal/race.ReleaseMerge", "internal/race.Disable", "internal/race.Enable", "internal/synctest.IsInBubble", "internal/synctest.Associate[sync.WaitGroup]", "sync.fatal", "sync/atomic.OrUint64", "internal/race.Read", "sync/atomic.LoadUint64", "sync/atomic.StoreUint64", "internal/synctest.Disassociate[sync.WaitGroup]", "sync.runtime_Semrelease", "(*sync.WaitGroup).Go$1", "(*sync.WaitGroup).Go$1$1", "(*sync.WaitGroup).Done", "(*sync.WaitGroup).Wait", "internal/race.Acquire", "internal/synctest.IsAssociated[sync.WaitGroup]", "sync/atomic.CompareAndSwapUint64", "internal/race.Write", "sync.runtime_SemacquireWaitGroup"], unfollowed := true, recurses := true, leaving := true, apart := false, narrowed := true }
def CountsNilUptoSaid : Prop := countsNilUptoRow.holds Try.pinned (OpenSpec.upto countsNilSpec)

end Rows
end Go.Proofs.Yteffdcpepjjkbaa
