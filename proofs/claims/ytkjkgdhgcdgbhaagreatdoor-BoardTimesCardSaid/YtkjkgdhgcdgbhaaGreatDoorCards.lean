/-
  DERIVED. GIVEN WITH THE SEED: THE CARDS: each row of YtkjkgdhgcdgbhaaGreatDoorRows.lean that lists a variable, with what it lists TIED to the program's text (the seventh form; the later family's looks); each row that meets fmt, with fmt's text TOLD by the authors' own Lean function (tested against real Go, not proved from fmt's source: count such statements apart). THE CARD IS WHAT COUNTS. Prove the row's statement (the work); the ties are given (YtkjkgdhgcdgbhaaGreatDoorTie.lean); close each card by the builder's one call (the guide's Derived/Test/ToyasCard.lean, 'card_holds'). Laid BY PROGRAM, IN A SANDBOX (cutbox-door.mjs). By AI agents, Wed Nov 11 2026. No macro, syntax, notation, axiom, sorry.
-/
import Derived.Test.YtkjkgdhgcdgbhaaGreatDoorRows
import GoSem.ClaimSeven
namespace Go.Proofs.YtkjkgdhgcdgbhaaGreatDoor
namespace Rows

/-- THE TIED CARD OF 'kotatsulaw19.BoardSprites'. -/
def boardSpritesCard : Claim7 := { stood := { row := boardSpritesRow, standIns := [], harness := (true, "6e87f6fb6afdae42242715d84c549d0921369635598b5bae1b714905ba49b557"), looks := false }, kinds := [], alts := [], laidByText := true, laidKinds := [.data, .data, .data, .data, .data, .data], laidTests := true, laidLooks := .later }
def BoardSpritesCardSaid : Prop := Claim7.holds Tryz.pinned (.plain (OpenSpec.ofChange boardSpritesSpec)) boardSpritesCard

/-- THE TIED CARD OF 'kotatsulaw19.BoardCalls'. -/
def boardCallsCard : Claim7 := { stood := { row := boardCallsRow, standIns := [], harness := (true, "6e87f6fb6afdae42242715d84c549d0921369635598b5bae1b714905ba49b557"), looks := false }, kinds := [], alts := [], laidByText := true, laidKinds := [.data, .data, .data, .data, .data, .data], laidTests := true, laidLooks := .later }
def BoardCallsCardSaid : Prop := Claim7.holds Tryz.pinned (.plain (OpenSpec.ofChange boardCallsSpec)) boardCallsCard

/-- THE TIED CARD OF 'kotatsulaw19.BoardTimes'. -/
def boardTimesCard : Claim7 := { stood := { row := boardTimesRow, standIns := [], harness := (true, "6e87f6fb6afdae42242715d84c549d0921369635598b5bae1b714905ba49b557"), looks := false }, kinds := [], alts := [], laidByText := true, laidKinds := [.data, .data, .data, .data, .data, .data], laidTests := true, laidLooks := .later }
def BoardTimesCardSaid : Prop := Claim7.holds Tryz.pinned (.plain (OpenSpec.ofChange boardTimesSpec)) boardTimesCard

/-- THE TIED CARD OF 'kotatsulaw19.BoardRuns'. -/
def boardRunsCard : Claim7 := { stood := { row := boardRunsRow, standIns := [], harness := (true, "6e87f6fb6afdae42242715d84c549d0921369635598b5bae1b714905ba49b557"), looks := false }, kinds := [], alts := [], laidByText := true, laidKinds := [.data, .data, .data, .data, .data, .data, .data], laidTests := true, laidLooks := .later }
def BoardRunsCardSaid : Prop := Claim7.holds Tryz.pinned (.plain (OpenSpec.ofChange boardRunsSpec)) boardRunsCard

/-- THE TIED CARD OF 'kotatsulaw19.BoardBus'. -/
def boardBusCard : Claim7 := { stood := { row := boardBusRow, standIns := [], harness := (true, "6e87f6fb6afdae42242715d84c549d0921369635598b5bae1b714905ba49b557"), looks := false }, kinds := [], alts := [], laidByText := true, laidKinds := [.data, .data, .data, .data, .data, .data, .data], laidTests := true, laidLooks := .later }
def BoardBusCardSaid : Prop := Claim7.holds Tryz.pinned (.plain (OpenSpec.ofChange boardBusSpec)) boardBusCard

/-- THE TIED CARD OF 'kotatsulaw19.BoardFreezes'. -/
def boardFreezesCard : Claim7 := { stood := { row := boardFreezesRow, standIns := [], harness := (true, "6e87f6fb6afdae42242715d84c549d0921369635598b5bae1b714905ba49b557"), looks := false }, kinds := [], alts := [], laidByText := true, laidKinds := [.data, .data, .data, .data, .data, .data, .data], laidTests := true, laidLooks := .later }
def BoardFreezesCardSaid : Prop := Claim7.holds Tryz.pinned (.plain (OpenSpec.ofChange boardFreezesSpec)) boardFreezesCard

/-- THE TIED CARD OF 'kotatsulaw19.BoardResets'. -/
def boardResetsCard : Claim7 := { stood := { row := boardResetsRow, standIns := [], harness := (true, "6e87f6fb6afdae42242715d84c549d0921369635598b5bae1b714905ba49b557"), looks := false }, kinds := [], alts := [], laidByText := true, laidKinds := [.data, .data, .data, .data, .data, .data, .data], laidTests := true, laidLooks := .later }
def BoardResetsCardSaid : Prop := Claim7.holds Tryz.pinned (.plain (OpenSpec.ofChange boardResetsSpec)) boardResetsCard

/-- THE TIED CARD OF 'kotatsulaw19.BoardPlays'. -/
def boardPlaysCard : Claim7 := { stood := { row := boardPlaysRow, standIns := [], harness := (true, "6e87f6fb6afdae42242715d84c549d0921369635598b5bae1b714905ba49b557"), looks := false }, kinds := [], alts := [], laidByText := true, laidKinds := [.data, .data, .data, .data, .data, .data, .data], laidTests := true, laidLooks := .later }
def BoardPlaysCardSaid : Prop := Claim7.holds Tryz.pinned (.plain (OpenSpec.ofChange boardPlaysSpec)) boardPlaysCard

/-- THE TIED CARD OF 'kotatsulaw19.BoardRefuses'. -/
def boardRefusesCard : Claim7 := { stood := { row := boardRefusesRow, standIns := [], harness := (true, "6e87f6fb6afdae42242715d84c549d0921369635598b5bae1b714905ba49b557"), looks := false }, kinds := [], alts := [], laidByText := true, laidKinds := [.data, .data, .data, .data, .data, .data, .data], laidTests := true, laidLooks := .later }
def BoardRefusesCardSaid : Prop := Claim7.holds Tryz.pinned (.plain (OpenSpec.ofChange boardRefusesSpec)) boardRefusesCard

/-- THE SECOND FORM's CARD OF 'kotatsulaw19.BoardSprites'. -/
def boardSpritesUptoCard : Claim7 := { stood := { row := boardSpritesUptoRow, standIns := [], harness := (true, "6e87f6fb6afdae42242715d84c549d0921369635598b5bae1b714905ba49b557"), looks := false }, kinds := [], alts := [], laidByText := true, laidKinds := [.data, .data, .data, .data, .data, .data], laidTests := true, laidLooks := .later }
def BoardSpritesUptoCardSaid : Prop := Claim7.holds Tryz.pinned (.plain (OpenSpec.upto boardSpritesSpec)) boardSpritesUptoCard

/-- THE SECOND FORM's CARD OF 'kotatsulaw19.BoardCalls'. -/
def boardCallsUptoCard : Claim7 := { stood := { row := boardCallsUptoRow, standIns := [], harness := (true, "6e87f6fb6afdae42242715d84c549d0921369635598b5bae1b714905ba49b557"), looks := false }, kinds := [], alts := [], laidByText := true, laidKinds := [.data, .data, .data, .data, .data, .data], laidTests := true, laidLooks := .later }
def BoardCallsUptoCardSaid : Prop := Claim7.holds Tryz.pinned (.plain (OpenSpec.upto boardCallsSpec)) boardCallsUptoCard

/-- THE SECOND FORM's CARD OF 'kotatsulaw19.BoardTimes'. -/
def boardTimesUptoCard : Claim7 := { stood := { row := boardTimesUptoRow, standIns := [], harness := (true, "6e87f6fb6afdae42242715d84c549d0921369635598b5bae1b714905ba49b557"), looks := false }, kinds := [], alts := [], laidByText := true, laidKinds := [.data, .data, .data, .data, .data, .data], laidTests := true, laidLooks := .later }
def BoardTimesUptoCardSaid : Prop := Claim7.holds Tryz.pinned (.plain (OpenSpec.upto boardTimesSpec)) boardTimesUptoCard

/-- THE SECOND FORM's CARD OF 'kotatsulaw19.BoardRuns'. -/
def boardRunsUptoCard : Claim7 := { stood := { row := boardRunsUptoRow, standIns := [], harness := (true, "6e87f6fb6afdae42242715d84c549d0921369635598b5bae1b714905ba49b557"), looks := false }, kinds := [], alts := [], laidByText := true, laidKinds := [.data, .data, .data, .data, .data, .data, .data], laidTests := true, laidLooks := .later }
def BoardRunsUptoCardSaid : Prop := Claim7.holds Tryz.pinned (.plain (OpenSpec.upto boardRunsSpec)) boardRunsUptoCard

/-- THE SECOND FORM's CARD OF 'kotatsulaw19.BoardBus'. -/
def boardBusUptoCard : Claim7 := { stood := { row := boardBusUptoRow, standIns := [], harness := (true, "6e87f6fb6afdae42242715d84c549d0921369635598b5bae1b714905ba49b557"), looks := false }, kinds := [], alts := [], laidByText := true, laidKinds := [.data, .data, .data, .data, .data, .data, .data], laidTests := true, laidLooks := .later }
def BoardBusUptoCardSaid : Prop := Claim7.holds Tryz.pinned (.plain (OpenSpec.upto boardBusSpec)) boardBusUptoCard

/-- THE SECOND FORM's CARD OF 'kotatsulaw19.BoardFreezes'. -/
def boardFreezesUptoCard : Claim7 := { stood := { row := boardFreezesUptoRow, standIns := [], harness := (true, "6e87f6fb6afdae42242715d84c549d0921369635598b5bae1b714905ba49b557"), looks := false }, kinds := [], alts := [], laidByText := true, laidKinds := [.data, .data, .data, .data, .data, .data, .data], laidTests := true, laidLooks := .later }
def BoardFreezesUptoCardSaid : Prop := Claim7.holds Tryz.pinned (.plain (OpenSpec.upto boardFreezesSpec)) boardFreezesUptoCard

/-- THE SECOND FORM's CARD OF 'kotatsulaw19.BoardResets'. -/
def boardResetsUptoCard : Claim7 := { stood := { row := boardResetsUptoRow, standIns := [], harness := (true, "6e87f6fb6afdae42242715d84c549d0921369635598b5bae1b714905ba49b557"), looks := false }, kinds := [], alts := [], laidByText := true, laidKinds := [.data, .data, .data, .data, .data, .data, .data], laidTests := true, laidLooks := .later }
def BoardResetsUptoCardSaid : Prop := Claim7.holds Tryz.pinned (.plain (OpenSpec.upto boardResetsSpec)) boardResetsUptoCard

/-- THE SECOND FORM's CARD OF 'kotatsulaw19.BoardPlays'. -/
def boardPlaysUptoCard : Claim7 := { stood := { row := boardPlaysUptoRow, standIns := [], harness := (true, "6e87f6fb6afdae42242715d84c549d0921369635598b5bae1b714905ba49b557"), looks := false }, kinds := [], alts := [], laidByText := true, laidKinds := [.data, .data, .data, .data, .data, .data, .data], laidTests := true, laidLooks := .later }
def BoardPlaysUptoCardSaid : Prop := Claim7.holds Tryz.pinned (.plain (OpenSpec.upto boardPlaysSpec)) boardPlaysUptoCard

/-- THE SECOND FORM's CARD OF 'kotatsulaw19.BoardRefuses'. -/
def boardRefusesUptoCard : Claim7 := { stood := { row := boardRefusesUptoRow, standIns := [], harness := (true, "6e87f6fb6afdae42242715d84c549d0921369635598b5bae1b714905ba49b557"), looks := false }, kinds := [], alts := [], laidByText := true, laidKinds := [.data, .data, .data, .data, .data, .data, .data], laidTests := true, laidLooks := .later }
def BoardRefusesUptoCardSaid : Prop := Claim7.holds Tryz.pinned (.plain (OpenSpec.upto boardRefusesSpec)) boardRefusesUptoCard
end Rows
end Go.Proofs.YtkjkgdhgcdgbhaaGreatDoor
