/-
  DERIVED. GIVEN WITH THE SEED: THE CARDS: each row of YtpajmahpphcbaaaGreatDoorRows.lean that lists a variable, with what it lists TIED to the program's text (the seventh form; the later family's looks); each row that meets fmt, with fmt's text TOLD by the authors' own Lean function (tested against real Go, not proved from fmt's source: count such statements apart). THE CARD IS WHAT COUNTS. Prove the row's statement (the work); the ties are given (YtpajmahpphcbaaaGreatDoorTie.lean); close each card by the builder's one call (the guide's Derived/Test/ToyasCard.lean, 'card_holds'). Laid BY PROGRAM, IN A SANDBOX (cutbox-door.mjs). By AI agents, Wed Nov 11 2026. No macro, syntax, notation, axiom, sorry.
-/
import Derived.Test.YtpajmahpphcbaaaGreatDoorRows
import GoSem.ClaimSeven
namespace Go.Proofs.YtpajmahpphcbaaaGreatDoor
namespace Rows

/-- THE TIED CARD OF 'kotatsulaw04.ShelfTwice'. -/
def shelfTwiceCard : Claim7 := { stood := { row := shelfTwiceRow, standIns := [], harness := (true, "822627f112bb56eb928b37af3c2acbc02f38f17c04da963ad9b392f6147ca1ba"), looks := true }, kinds := [], alts := [], laidByText := true, laidKinds := [.data, .data, .data, .handle], laidTests := true, laidLooks := .later }
def ShelfTwiceCardSaid : Prop := Claim7.holds Tryz.pinned (.plain (OpenSpec.ofChange shelfTwiceSpec)) shelfTwiceCard

/-- THE TIED CARD OF 'kotatsulaw04.ShelfBounds'. -/
def shelfBoundsCard : Claim7 := { stood := { row := shelfBoundsRow, standIns := [], harness := (true, "822627f112bb56eb928b37af3c2acbc02f38f17c04da963ad9b392f6147ca1ba"), looks := true }, kinds := [], alts := [], laidByText := true, laidKinds := [.data, .data, .data, .handle], laidTests := true, laidLooks := .later }
def ShelfBoundsCardSaid : Prop := Claim7.holds Tryz.pinned (.plain (OpenSpec.ofChange shelfBoundsSpec)) shelfBoundsCard

/-- THE TIED CARD OF 'kotatsulaw04.ShelfNil'. -/
def shelfNilCard : Claim7 := { stood := { row := shelfNilRow, standIns := [], harness := (true, "822627f112bb56eb928b37af3c2acbc02f38f17c04da963ad9b392f6147ca1ba"), looks := true }, kinds := [], alts := [], laidByText := true, laidKinds := [.data, .data, .data, .handle], laidTests := true, laidLooks := .later }
def ShelfNilCardSaid : Prop := Claim7.holds Tryz.pinned (.plain (OpenSpec.ofChange shelfNilSpec)) shelfNilCard

/-- THE TIED CARD OF 'kotatsulaw04.ShelfHolds'. -/
def shelfHoldsCard : Claim7 := { stood := { row := shelfHoldsRow, standIns := [], harness := (true, "822627f112bb56eb928b37af3c2acbc02f38f17c04da963ad9b392f6147ca1ba"), looks := true }, kinds := [], alts := [], laidByText := true, laidKinds := [.data, .data, .data, .handle], laidTests := true, laidLooks := .later }
def ShelfHoldsCardSaid : Prop := Claim7.holds Tryz.pinned (.plain (OpenSpec.ofChange shelfHoldsSpec)) shelfHoldsCard

/-- THE TIED CARD OF 'kotatsulaw04.ShelfFails'. -/
def shelfFailsCard : Claim7 := { stood := { row := shelfFailsRow, standIns := [], harness := (true, "822627f112bb56eb928b37af3c2acbc02f38f17c04da963ad9b392f6147ca1ba"), looks := true }, kinds := [], alts := [], laidByText := true, laidKinds := [.data, .data, .data, .handle], laidTests := true, laidLooks := .later }
def ShelfFailsCardSaid : Prop := Claim7.holds Tryz.pinned (.plain (OpenSpec.ofChange shelfFailsSpec)) shelfFailsCard

/-- THE SECOND FORM's CARD OF 'kotatsulaw04.ShelfTwice'. -/
def shelfTwiceUptoCard : Claim7 := { stood := { row := shelfTwiceUptoRow, standIns := [], harness := (true, "822627f112bb56eb928b37af3c2acbc02f38f17c04da963ad9b392f6147ca1ba"), looks := true }, kinds := [], alts := [], laidByText := true, laidKinds := [.data, .data, .data, .handle], laidTests := true, laidLooks := .later }
def ShelfTwiceUptoCardSaid : Prop := Claim7.holds Tryz.pinned (.plain (OpenSpec.upto shelfTwiceSpec)) shelfTwiceUptoCard

/-- THE SECOND FORM's CARD OF 'kotatsulaw04.ShelfBounds'. -/
def shelfBoundsUptoCard : Claim7 := { stood := { row := shelfBoundsUptoRow, standIns := [], harness := (true, "822627f112bb56eb928b37af3c2acbc02f38f17c04da963ad9b392f6147ca1ba"), looks := true }, kinds := [], alts := [], laidByText := true, laidKinds := [.data, .data, .data, .handle], laidTests := true, laidLooks := .later }
def ShelfBoundsUptoCardSaid : Prop := Claim7.holds Tryz.pinned (.plain (OpenSpec.upto shelfBoundsSpec)) shelfBoundsUptoCard

/-- THE SECOND FORM's CARD OF 'kotatsulaw04.ShelfNil'. -/
def shelfNilUptoCard : Claim7 := { stood := { row := shelfNilUptoRow, standIns := [], harness := (true, "822627f112bb56eb928b37af3c2acbc02f38f17c04da963ad9b392f6147ca1ba"), looks := true }, kinds := [], alts := [], laidByText := true, laidKinds := [.data, .data, .data, .handle], laidTests := true, laidLooks := .later }
def ShelfNilUptoCardSaid : Prop := Claim7.holds Tryz.pinned (.plain (OpenSpec.upto shelfNilSpec)) shelfNilUptoCard

/-- THE SECOND FORM's CARD OF 'kotatsulaw04.ShelfHolds'. -/
def shelfHoldsUptoCard : Claim7 := { stood := { row := shelfHoldsUptoRow, standIns := [], harness := (true, "822627f112bb56eb928b37af3c2acbc02f38f17c04da963ad9b392f6147ca1ba"), looks := true }, kinds := [], alts := [], laidByText := true, laidKinds := [.data, .data, .data, .handle], laidTests := true, laidLooks := .later }
def ShelfHoldsUptoCardSaid : Prop := Claim7.holds Tryz.pinned (.plain (OpenSpec.upto shelfHoldsSpec)) shelfHoldsUptoCard

/-- THE SECOND FORM's CARD OF 'kotatsulaw04.ShelfFails'. -/
def shelfFailsUptoCard : Claim7 := { stood := { row := shelfFailsUptoRow, standIns := [], harness := (true, "822627f112bb56eb928b37af3c2acbc02f38f17c04da963ad9b392f6147ca1ba"), looks := true }, kinds := [], alts := [], laidByText := true, laidKinds := [.data, .data, .data, .handle], laidTests := true, laidLooks := .later }
def ShelfFailsUptoCardSaid : Prop := Claim7.holds Tryz.pinned (.plain (OpenSpec.upto shelfFailsSpec)) shelfFailsUptoCard
end Rows
end Go.Proofs.YtpajmahpphcbaaaGreatDoor
