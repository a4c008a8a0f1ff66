/-
  DERIVED. GIVEN WITH THE SEED: THE CARDS: each row of YtlcdjgpblpodaaaGreatDoorRows.lean that lists a variable, with what it lists TIED to the program's text (the seventh form; the later family's looks); each row that meets fmt, with fmt's text TOLD by the authors' own Lean function (tested against real Go, not proved from fmt's source: count such statements apart). THE CARD IS WHAT COUNTS. Prove the row's statement (the work); the ties are given (YtlcdjgpblpodaaaGreatDoorTie.lean); close each card by the builder's one call (the guide's Derived/Test/ToyasCard.lean, 'card_holds'). Laid BY PROGRAM, IN A SANDBOX (cutbox-door.mjs). By AI agents, Wed Nov 11 2026. No macro, syntax, notation, axiom, sorry.
-/
import Derived.Test.YtlcdjgpblpodaaaGreatDoorRows
import GoSem.ClaimSeven
namespace Go.Proofs.YtlcdjgpblpodaaaGreatDoor
namespace Rows

/-- THE TIED CARD OF 'reevetop.TopFull'. -/
def topFullCard : Claim7 := { stood := { row := topFullRow, standIns := [], harness := (true, "991e1d7bbd9e5a17e381f404e0963fe696ca8cec504a3f0107cc101f341d24bf"), looks := true }, kinds := [], alts := [], laidByText := true, laidKinds := [.data, .data, .data, .data, .sentinel, .sentinel, .pinned], laidTests := true, laidLooks := .later }
def TopFullCardSaid : Prop := Claim7.holds Tryz.pinned (.plain (OpenSpec.ofChange topFullSpec)) topFullCard

/-- THE TIED CARD OF 'reevetop.TopChain'. -/
def topChainCard : Claim7 := { stood := { row := topChainRow, standIns := [], harness := (true, "991e1d7bbd9e5a17e381f404e0963fe696ca8cec504a3f0107cc101f341d24bf"), looks := true }, kinds := [], alts := [], laidByText := true, laidKinds := [.data, .data, .data, .data, .sentinel, .sentinel, .pinned], laidTests := true, laidLooks := .later }
def TopChainCardSaid : Prop := Claim7.holds Tryz.pinned (.plain (OpenSpec.ofChange topChainSpec)) topChainCard

/-- THE TIED CARD OF 'reevetop.TopPoison'. -/
def topPoisonCard : Claim7 := { stood := { row := topPoisonRow, standIns := [], harness := (true, "991e1d7bbd9e5a17e381f404e0963fe696ca8cec504a3f0107cc101f341d24bf"), looks := true }, kinds := [], alts := [], laidByText := true, laidKinds := [.data, .data, .data, .data, .sentinel, .sentinel, .pinned], laidTests := true, laidLooks := .later }
def TopPoisonCardSaid : Prop := Claim7.holds Tryz.pinned (.plain (OpenSpec.ofChange topPoisonSpec)) topPoisonCard

/-- THE SECOND FORM's CARD OF 'reevetop.TopFull'. -/
def topFullUptoCard : Claim7 := { stood := { row := topFullUptoRow, standIns := [], harness := (true, "991e1d7bbd9e5a17e381f404e0963fe696ca8cec504a3f0107cc101f341d24bf"), looks := true }, kinds := [], alts := [], laidByText := true, laidKinds := [.data, .data, .data, .data, .sentinel, .sentinel, .pinned], laidTests := true, laidLooks := .later }
def TopFullUptoCardSaid : Prop := Claim7.holds Tryz.pinned (.plain (OpenSpec.upto topFullSpec)) topFullUptoCard

/-- THE SECOND FORM's CARD OF 'reevetop.TopChain'. -/
def topChainUptoCard : Claim7 := { stood := { row := topChainUptoRow, standIns := [], harness := (true, "991e1d7bbd9e5a17e381f404e0963fe696ca8cec504a3f0107cc101f341d24bf"), looks := true }, kinds := [], alts := [], laidByText := true, laidKinds := [.data, .data, .data, .data, .sentinel, .sentinel, .pinned], laidTests := true, laidLooks := .later }
def TopChainUptoCardSaid : Prop := Claim7.holds Tryz.pinned (.plain (OpenSpec.upto topChainSpec)) topChainUptoCard

/-- THE SECOND FORM's CARD OF 'reevetop.TopPoison'. -/
def topPoisonUptoCard : Claim7 := { stood := { row := topPoisonUptoRow, standIns := [], harness := (true, "991e1d7bbd9e5a17e381f404e0963fe696ca8cec504a3f0107cc101f341d24bf"), looks := true }, kinds := [], alts := [], laidByText := true, laidKinds := [.data, .data, .data, .data, .sentinel, .sentinel, .pinned], laidTests := true, laidLooks := .later }
def TopPoisonUptoCardSaid : Prop := Claim7.holds Tryz.pinned (.plain (OpenSpec.upto topPoisonSpec)) topPoisonUptoCard
end Rows
end Go.Proofs.YtlcdjgpblpodaaaGreatDoor
