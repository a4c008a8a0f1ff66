/-
  No cell of these rows narrows 'for every input' (looked for: loops, veiled, ifaces, maps, wideKeys, modest, calm, conditions, laid).
  DERIVED. THE GIVEN ROWS OF THIS SEAT. 7 by the template 'for every input the law returns true; each argument reads behind the call as it read before'; 0 by the template 'total and deterministic' (their statements: YtmmbigfeojfedaaTotals.lean).
  GIVEN WITH THE SEED: the statements are not yours to turn. If you find one false, say at which input.
  Laid BY PROGRAM, IN A SANDBOX (cutbox-rows.mjs): the forced cells as the released guide's own fill.sh prints them over the translation b852128f4d70ccbb… (all of the seat's roots in one cut). By AI agents, Wed Nov 11 2026. No macro, syntax, notation, axiom, sorry.
-/
import Derived.Test.YtmmbigfeojfedaaChecked
import GoSem.Claim
import GoSem.ClaimJoined
import GoSem.ClaimMapViews
import Derived.JoinedTies
import Derived.KernelRfl
namespace Go.Proofs.Ytmmbigfeojfedaa
/- THE CELL 'sum', in the pinned program and in every row, IS THE sha256 OF THE DUMP (.gsa) THAT YtmmbigfeojfedaaProg.lean LOADS. Nothing in Lean hashes anything: it is a label: what it is worth is what the hold of that sum in a sandbox is worth. -/
noncomputable def Try.pinned : Pinned := { name := "ytmmbigfeojfedaa", sum := "b852128f4d70ccbb3db845aa13688947010d239756b67b7f65e5fe5c4be837d9", checked := Try.checked }
namespace Rows
def none {H : Type} : Left H := { results := [], args := [] }

/-- 'reevelaw18.InterpRuns': WHATEVER THE INPUT: true; the input reads as it did. -/
def interpRunsSpec : ChangeSpec := { name := "interpRuns", fn := fun _ => fun
  | [d1, d2, d3, d4] => { results := [.lit (.bool true)], args := [d1, d2, d3, d4] }
  | _ => none }
def interpRunsRow : OpenClaim := { program := "ytmmbigfeojfedaa", sum := "b852128f4d70ccbb3db845aa13688947010d239756b67b7f65e5fe5c4be837d9", func := "reeve/reevelaw18.InterpRuns", spec := "interpRuns", apart := false }
def InterpRunsSaid : Prop := interpRunsRow.holds Try.pinned (OpenSpec.ofChange interpRunsSpec)

/-- ITS FALSE NEIGHBOUR: 'it returns false'. Refute it at one input. -/
def interpRunsWrong : ChangeSpec := { name := "interpRuns", fn := fun _ => fun
  | [d1, d2, d3, d4] => { results := [.lit (.bool false)], args := [d1, d2, d3, d4] }
  | _ => none }
def InterpRunsWrongFalsely : Prop := interpRunsRow.holds Try.pinned (OpenSpec.ofChange interpRunsWrong)

/-- 'reevelaw18.InterpEvents': WHATEVER THE INPUT: true; the input reads as it did. -/
def interpEventsSpec : ChangeSpec := { name := "interpEvents", fn := fun _ => fun
  | [d1, d2, d3, d4] => { results := [.lit (.bool true)], args := [d1, d2, d3, d4] }
  | _ => none }
def interpEventsRow : OpenClaim := { program := "ytmmbigfeojfedaa", sum := "b852128f4d70ccbb3db845aa13688947010d239756b67b7f65e5fe5c4be837d9", func := "reeve/reevelaw18.InterpEvents", spec := "interpEvents", apart := false }
def InterpEventsSaid : Prop := interpEventsRow.holds Try.pinned (OpenSpec.ofChange interpEventsSpec)

/-- ITS FALSE NEIGHBOUR: 'it returns false'. Refute it at one input. -/
def interpEventsWrong : ChangeSpec := { name := "interpEvents", fn := fun _ => fun
  | [d1, d2, d3, d4] => { results := [.lit (.bool false)], args := [d1, d2, d3, d4] }
  | _ => none }
def InterpEventsWrongFalsely : Prop := interpEventsRow.holds Try.pinned (OpenSpec.ofChange interpEventsWrong)

/-- 'reevelaw18.InterpReckons': WHATEVER THE INPUT: true; the input reads as it did. -/
def interpReckonsSpec : ChangeSpec := { name := "interpReckons", fn := fun _ => fun
  | [d1, d2] => { results := [.lit (.bool true)], args := [d1, d2] }
  | _ => none }
def interpReckonsRow : OpenClaim := { program := "ytmmbigfeojfedaa", sum := "b852128f4d70ccbb3db845aa13688947010d239756b67b7f65e5fe5c4be837d9", func := "reeve/reevelaw18.InterpReckons", spec := "interpReckons", apart := false }
def InterpReckonsSaid : Prop := interpReckonsRow.holds Try.pinned (OpenSpec.ofChange interpReckonsSpec)

/-- ITS FALSE NEIGHBOUR: 'it returns false'. Refute it at one input. -/
def interpReckonsWrong : ChangeSpec := { name := "interpReckons", fn := fun _ => fun
  | [d1, d2] => { results := [.lit (.bool false)], args := [d1, d2] }
  | _ => none }
def InterpReckonsWrongFalsely : Prop := interpReckonsRow.holds Try.pinned (OpenSpec.ofChange interpReckonsWrong)

/-- 'reevelaw18.InterpLoops': WHATEVER THE INPUT: true; the input reads as it did. -/
def interpLoopsSpec : ChangeSpec := { name := "interpLoops", fn := fun _ => fun
  | [d] => { results := [.lit (.bool true)], args := [d] }
  | _ => none }
def interpLoopsRow : OpenClaim := { program := "ytmmbigfeojfedaa", sum := "b852128f4d70ccbb3db845aa13688947010d239756b67b7f65e5fe5c4be837d9", func := "reeve/reevelaw18.InterpLoops", spec := "interpLoops", apart := false }
def InterpLoopsSaid : Prop := interpLoopsRow.holds Try.pinned (OpenSpec.ofChange interpLoopsSpec)

/-- ITS FALSE NEIGHBOUR: 'it returns false'. Refute it at one input. -/
def interpLoopsWrong : ChangeSpec := { name := "interpLoops", fn := fun _ => fun
  | [d] => { results := [.lit (.bool false)], args := [d] }
  | _ => none }
def InterpLoopsWrongFalsely : Prop := interpLoopsRow.holds Try.pinned (OpenSpec.ofChange interpLoopsWrong)

/-- 'reevelaw18.InterpStack': WHATEVER THE INPUT: true; the input reads as it did. -/
def interpStackSpec : ChangeSpec := { name := "interpStack", fn := fun _ => fun
  | [d1, d2] => { results := [.lit (.bool true)], args := [d1, d2] }
  | _ => none }
def interpStackRow : OpenClaim := { program := "ytmmbigfeojfedaa", sum := "b852128f4d70ccbb3db845aa13688947010d239756b67b7f65e5fe5c4be837d9", func := "reeve/reevelaw18.InterpStack", spec := "interpStack", apart := false }
def InterpStackSaid : Prop := interpStackRow.holds Try.pinned (OpenSpec.ofChange interpStackSpec)

/-- ITS FALSE NEIGHBOUR: 'it returns false'. Refute it at one input. -/
def interpStackWrong : ChangeSpec := { name := "interpStack", fn := fun _ => fun
  | [d1, d2] => { results := [.lit (.bool false)], args := [d1, d2] }
  | _ => none }
def InterpStackWrongFalsely : Prop := interpStackRow.holds Try.pinned (OpenSpec.ofChange interpStackWrong)

/-- 'reevelaw18.InterpSends': WHATEVER THE INPUT: true; the input reads as it did. -/
def interpSendsSpec : ChangeSpec := { name := "interpSends", fn := fun _ => fun
  | [d1, d2, d3, d4] => { results := [.lit (.bool true)], args := [d1, d2, d3, d4] }
  | _ => none }
def interpSendsRow : OpenClaim := { program := "ytmmbigfeojfedaa", sum := "b852128f4d70ccbb3db845aa13688947010d239756b67b7f65e5fe5c4be837d9", func := "reeve/reevelaw18.InterpSends", spec := "interpSends", apart := false }
def InterpSendsSaid : Prop := interpSendsRow.holds Try.pinned (OpenSpec.ofChange interpSendsSpec)

/-- ITS FALSE NEIGHBOUR: 'it returns false'. Refute it at one input. -/
def interpSendsWrong : ChangeSpec := { name := "interpSends", fn := fun _ => fun
  | [d1, d2, d3, d4] => { results := [.lit (.bool false)], args := [d1, d2, d3, d4] }
  | _ => none }
def InterpSendsWrongFalsely : Prop := interpSendsRow.holds Try.pinned (OpenSpec.ofChange interpSendsWrong)

/-- 'reevelaw18.InterpTimers': WHATEVER THE INPUT: true; the input reads as it did. -/
def interpTimersSpec : ChangeSpec := { name := "interpTimers", fn := fun _ => fun
  | [d1, d2, d3, d4] => { results := [.lit (.bool true)], args := [d1, d2, d3, d4] }
  | _ => none }
def interpTimersRow : OpenClaim := { program := "ytmmbigfeojfedaa", sum := "b852128f4d70ccbb3db845aa13688947010d239756b67b7f65e5fe5c4be837d9", func := "reeve/reevelaw18.InterpTimers", spec := "interpTimers", apart := false }
def InterpTimersSaid : Prop := interpTimersRow.holds Try.pinned (OpenSpec.ofChange interpTimersSpec)

/-- ITS FALSE NEIGHBOUR: 'it returns false'. Refute it at one input. -/
def interpTimersWrong : ChangeSpec := { name := "interpTimers", fn := fun _ => fun
  | [d1, d2, d3, d4] => { results := [.lit (.bool false)], args := [d1, d2, d3, d4] }
  | _ => none }
def InterpTimersWrongFalsely : Prop := interpTimersRow.holds Try.pinned (OpenSpec.ofChange interpTimersWrong)

/- THE SECOND FORM. 'bulk': how many values and letters a reading holds, each counted each time it is reached (what is shared counts as often as it is met; a slice's spare places count too). A statement '..UptoSaid' is the law's where the arguments, and the package variables that the reading takes, are together of bulk at most 1048576: NARROWER than '..Said'. Prove '..Said' where nothing that the law and all that it calls make is longer than what came in: it says more and counts as full. Else prove '..UptoSaid'. A law counts once. -/
mutual
def uptoBulk {H : Type} : DataW H → Nat
  | .lit (.string bytes) => bytes.length + 1
  | .lit _ => 1
  | .nil => 1
  | .ptr d => uptoBulk d + 1
  | .slice elems spare => uptoBulkAll elems + uptoBulkAll spare + 1
  | .agg parts => uptoBulkAll parts + 1
  | .iface _ d => uptoBulk d + 1
  | .map entries => uptoBulkEntries entries + 1
  | .held _ => 1
def uptoBulkAll {H : Type} : List (DataW H) → Nat
  | [] => 0
  | d :: r => uptoBulk d + uptoBulkAll r
def uptoBulkEntries {H : Type} : List (Lit × DataW H) → Nat
  | [] => 0
  | x :: r => uptoBulkEntry x + uptoBulkEntries r
def uptoBulkEntry {H : Type} : Lit × DataW H → Nat
  | (.string bytes, d) => bytes.length + uptoBulk d + 1
  | (_, d) => uptoBulk d + 1
 end
def uptoSmall : (H : Type) → List (DataW H) → Bool := fun _ ds => decide (uptoBulkAll ds ≤ 1048576)
def OpenSpec.upto (s : _root_.Go.ChangeSpec) : _root_.Go.OpenSpec := { _root_.Go.OpenSpec.ofChange s with cond := some uptoSmall }

/-- 'reevelaw18.InterpRuns', WHERE WHAT IT READS IS OF BULK AT MOST 1048576: true; the input reads as it did. -/
def interpRunsUptoRow : OpenClaim := { program := "ytmmbigfeojfedaa", sum := "b852128f4d70ccbb3db845aa13688947010d239756b67b7f65e5fe5c4be837d9", func := "reeve/reevelaw18.InterpRuns", spec := "interpRuns", apart := false, narrowed := true }
def InterpRunsUptoSaid : Prop := interpRunsUptoRow.holds Try.pinned (OpenSpec.upto interpRunsSpec)

/-- 'reevelaw18.InterpEvents', WHERE WHAT IT READS IS OF BULK AT MOST 1048576: true; the input reads as it did. -/
def interpEventsUptoRow : OpenClaim := { program := "ytmmbigfeojfedaa", sum := "b852128f4d70ccbb3db845aa13688947010d239756b67b7f65e5fe5c4be837d9", func := "reeve/reevelaw18.InterpEvents", spec := "interpEvents", apart := false, narrowed := true }
def InterpEventsUptoSaid : Prop := interpEventsUptoRow.holds Try.pinned (OpenSpec.upto interpEventsSpec)

/-- 'reevelaw18.InterpReckons', WHERE WHAT IT READS IS OF BULK AT MOST 1048576: true; the input reads as it did. -/
def interpReckonsUptoRow : OpenClaim := { program := "ytmmbigfeojfedaa", sum := "b852128f4d70ccbb3db845aa13688947010d239756b67b7f65e5fe5c4be837d9", func := "reeve/reevelaw18.InterpReckons", spec := "interpReckons", apart := false, narrowed := true }
def InterpReckonsUptoSaid : Prop := interpReckonsUptoRow.holds Try.pinned (OpenSpec.upto interpReckonsSpec)

/-- 'reevelaw18.InterpLoops', WHERE WHAT IT READS IS OF BULK AT MOST 1048576: true; the input reads as it did. -/
def interpLoopsUptoRow : OpenClaim := { program := "ytmmbigfeojfedaa", sum := "b852128f4d70ccbb3db845aa13688947010d239756b67b7f65e5fe5c4be837d9", func := "reeve/reevelaw18.InterpLoops", spec := "interpLoops", apart := false, narrowed := true }
def InterpLoopsUptoSaid : Prop := interpLoopsUptoRow.holds Try.pinned (OpenSpec.upto interpLoopsSpec)

/-- 'reevelaw18.InterpStack', WHERE WHAT IT READS IS OF BULK AT MOST 1048576: true; the input reads as it did. -/
def interpStackUptoRow : OpenClaim := { program := "ytmmbigfeojfedaa", sum := "b852128f4d70ccbb3db845aa13688947010d239756b67b7f65e5fe5c4be837d9", func := "reeve/reevelaw18.InterpStack", spec := "interpStack", apart := false, narrowed := true }
def InterpStackUptoSaid : Prop := interpStackUptoRow.holds Try.pinned (OpenSpec.upto interpStackSpec)

/-- 'reevelaw18.InterpSends', WHERE WHAT IT READS IS OF BULK AT MOST 1048576: true; the input reads as it did. -/
def interpSendsUptoRow : OpenClaim := { program := "ytmmbigfeojfedaa", sum := "b852128f4d70ccbb3db845aa13688947010d239756b67b7f65e5fe5c4be837d9", func := "reeve/reevelaw18.InterpSends", spec := "interpSends", apart := false, narrowed := true }
def InterpSendsUptoSaid : Prop := interpSendsUptoRow.holds Try.pinned (OpenSpec.upto interpSendsSpec)

/-- 'reevelaw18.InterpTimers', WHERE WHAT IT READS IS OF BULK AT MOST 1048576: true; the input reads as it did. -/
def interpTimersUptoRow : OpenClaim := { program := "ytmmbigfeojfedaa", sum := "b852128f4d70ccbb3db845aa13688947010d239756b67b7f65e5fe5c4be837d9", func := "reeve/reevelaw18.InterpTimers", spec := "interpTimers", apart := false, narrowed := true }
def InterpTimersUptoSaid : Prop := interpTimersUptoRow.holds Try.pinned (OpenSpec.upto interpTimersSpec)

end Rows
end Go.Proofs.Ytmmbigfeojfedaa
