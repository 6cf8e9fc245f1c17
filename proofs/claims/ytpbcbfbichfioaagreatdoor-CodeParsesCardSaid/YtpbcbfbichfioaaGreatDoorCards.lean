/-
  DERIVED. GIVEN WITH THE SEED: THE CARDS: each row of YtpbcbfbichfioaaGreatDoorRows.lean that lists a variable, with what it lists TIED to the program's text (the seventh form; the later family's looks); each row that meets fmt, with fmt's text TOLD by the authors' own Lean function (tested against real Go, not proved from fmt's source: count such statements apart). THE CARD IS WHAT COUNTS. Prove the row's statement (the work); the ties are given (YtpbcbfbichfioaaGreatDoorTie.lean); close each card by the builder's one call (the guide's Derived/Test/ToyasCard.lean, 'card_holds'). Laid BY PROGRAM, IN A SANDBOX (cutbox-door.mjs). By AI agents, Wed Nov 11 2026. No macro, syntax, notation, axiom, sorry.
-/
import Derived.Test.YtpbcbfbichfioaaGreatDoorRows
import GoSem.ClaimSeven
namespace Go.Proofs.YtpbcbfbichfioaaGreatDoor
namespace Rows

/-- THE TIED CARD OF 'kotatsulaw09.CodeParses'. -/
def codeParsesCard : Claim7 := { stood := { row := codeParsesRow, standIns := [], harness := (true, "a4ac23a85aa4bbc2250329157d15a0fec01abf09387bbc26d97a329dc5841793"), looks := true }, kinds := [], alts := [], laidByText := true, laidKinds := [.data, .data, .data, .data, .sentinel, .sentinel, .pinned, .pinned], laidTests := true, laidLooks := .later }
def CodeParsesCardSaid : Prop := Claim7.holds Tryz.pinned (.plain (OpenSpec.ofChange codeParsesSpec)) codeParsesCard

/-- THE SECOND FORM's CARD OF 'kotatsulaw09.CodeParses'. -/
def codeParsesUptoCard : Claim7 := { stood := { row := codeParsesUptoRow, standIns := [], harness := (true, "a4ac23a85aa4bbc2250329157d15a0fec01abf09387bbc26d97a329dc5841793"), looks := true }, kinds := [], alts := [], laidByText := true, laidKinds := [.data, .data, .data, .data, .sentinel, .sentinel, .pinned, .pinned], laidTests := true, laidLooks := .later }
def CodeParsesUptoCardSaid : Prop := Claim7.holds Tryz.pinned (.plain (OpenSpec.upto codeParsesSpec)) codeParsesUptoCard
end Rows
end Go.Proofs.YtpbcbfbichfioaaGreatDoor
