/-
  DERIVED. GIVEN WITH THE SEED: THE CARDS: each row of YtpbcbfbichfioaaDoorRows.lean that lists a variable, with what it lists TIED to the program's text (the seventh form; the later family's looks); each row that meets fmt, with fmt's text TOLD by the authors' own Lean function (tested against real Go, not proved from fmt's source: count such statements apart). THE CARD IS WHAT COUNTS. Prove the row's statement (the work); the ties are given (YtpbcbfbichfioaaDoorTie.lean); close each card by the builder's one call (the guide's Derived/Test/ToyasCard.lean, 'card_holds'). Laid BY PROGRAM, IN A SANDBOX (cutbox-door.mjs). By AI agents, Wed Nov 11 2026. No macro, syntax, notation, axiom, sorry.
-/
import Derived.Test.YtpbcbfbichfioaaDoorRows
import GoSem.ClaimSeven
namespace Go.Proofs.YtpbcbfbichfioaaDoor
namespace Rows

/-- THE TIED CARD OF 'kotatsulaw09.CodeTables'. -/
def codeTablesCard : Claim7 := { stood := { row := codeTablesRow, standIns := [], harness := (true, "b857d90976d0441cad3ebbd02738e16917f9b19a889de893f1deb430d1d21f48"), looks := true }, kinds := [], alts := [], laidByText := true, laidKinds := [.data, .data, .data, .data, .pinned, .pinned], laidTests := true, laidLooks := .later }
def CodeTablesCardSaid : Prop := Claim7.holds Tryd.pinned (.plain (OpenSpec.ofChange codeTablesSpec)) codeTablesCard

/-- THE TIED CARD OF 'kotatsulaw09.CodeBytes'. -/
def codeBytesCard : Claim7 := { stood := { row := codeBytesRow, standIns := [], harness := (true, "b857d90976d0441cad3ebbd02738e16917f9b19a889de893f1deb430d1d21f48"), looks := true }, kinds := [], alts := [], laidByText := true, laidKinds := [.data, .data, .data, .data, .pinned, .pinned], laidTests := true, laidLooks := .later }
def CodeBytesCardSaid : Prop := Claim7.holds Tryd.pinned (.plain (OpenSpec.ofChange codeBytesSpec)) codeBytesCard

/-- THE TIED CARD OF 'kotatsulaw09.CodeTexts'. -/
def codeTextsCard : Claim7 := { stood := { row := codeTextsRow, standIns := [], harness := (true, "b857d90976d0441cad3ebbd02738e16917f9b19a889de893f1deb430d1d21f48"), looks := true }, kinds := [], alts := [], laidByText := true, laidKinds := [.data, .data, .data, .data, .pinned, .pinned], laidTests := true, laidLooks := .later }
def CodeTextsCardSaid : Prop := Claim7.holds Tryd.pinned (.plain (OpenSpec.ofChange codeTextsSpec)) codeTextsCard

/-- THE TIED CARD OF 'kotatsulaw09.CodeKinds'. -/
def codeKindsCard : Claim7 := { stood := { row := codeKindsRow, standIns := [], harness := (true, "b857d90976d0441cad3ebbd02738e16917f9b19a889de893f1deb430d1d21f48"), looks := true }, kinds := [], alts := [], laidByText := true, laidKinds := [.data, .data, .data, .data, .pinned, .pinned], laidTests := true, laidLooks := .later }
def CodeKindsCardSaid : Prop := Claim7.holds Tryd.pinned (.plain (OpenSpec.ofChange codeKindsSpec)) codeKindsCard

/-- THE TIED CARD OF 'kotatsulaw09.CodeSteps'. -/
def codeStepsCard : Claim7 := { stood := { row := codeStepsRow, standIns := [], harness := (true, "b857d90976d0441cad3ebbd02738e16917f9b19a889de893f1deb430d1d21f48"), looks := true }, kinds := [], alts := [], laidByText := true, laidKinds := [.data, .data, .data, .data, .pinned, .pinned], laidTests := true, laidLooks := .later }
def CodeStepsCardSaid : Prop := Claim7.holds Tryd.pinned (.plain (OpenSpec.ofChange codeStepsSpec)) codeStepsCard

/-- THE TIED CARD OF 'kotatsulaw09.CodeBranches'. -/
def codeBranchesCard : Claim7 := { stood := { row := codeBranchesRow, standIns := [], harness := (true, "b857d90976d0441cad3ebbd02738e16917f9b19a889de893f1deb430d1d21f48"), looks := true }, kinds := [], alts := [], laidByText := true, laidKinds := [.data, .data, .data, .data, .sentinel, .sentinel, .pinned, .pinned], laidTests := true, laidLooks := .later }
def CodeBranchesCardSaid : Prop := Claim7.holds Tryd.pinned (.plain (OpenSpec.ofChange codeBranchesSpec)) codeBranchesCard

/-- THE TIED CARD OF 'kotatsulaw09.CodeLists'. -/
def codeListsCard : Claim7 := { stood := { row := codeListsRow, standIns := [], harness := (true, "b857d90976d0441cad3ebbd02738e16917f9b19a889de893f1deb430d1d21f48"), looks := true }, kinds := [], alts := [], laidByText := true, laidKinds := [.data, .data, .data, .data, .sentinel, .sentinel, .pinned, .pinned], laidTests := true, laidLooks := .later }
def CodeListsCardSaid : Prop := Claim7.holds Tryd.pinned (.plain (OpenSpec.ofChange codeListsSpec)) codeListsCard

/-- THE SECOND FORM's CARD OF 'kotatsulaw09.CodeTables'. -/
def codeTablesUptoCard : Claim7 := { stood := { row := codeTablesUptoRow, standIns := [], harness := (true, "b857d90976d0441cad3ebbd02738e16917f9b19a889de893f1deb430d1d21f48"), looks := true }, kinds := [], alts := [], laidByText := true, laidKinds := [.data, .data, .data, .data, .pinned, .pinned], laidTests := true, laidLooks := .later }
def CodeTablesUptoCardSaid : Prop := Claim7.holds Tryd.pinned (.plain (OpenSpec.upto codeTablesSpec)) codeTablesUptoCard

/-- THE SECOND FORM's CARD OF 'kotatsulaw09.CodeBytes'. -/
def codeBytesUptoCard : Claim7 := { stood := { row := codeBytesUptoRow, standIns := [], harness := (true, "b857d90976d0441cad3ebbd02738e16917f9b19a889de893f1deb430d1d21f48"), looks := true }, kinds := [], alts := [], laidByText := true, laidKinds := [.data, .data, .data, .data, .pinned, .pinned], laidTests := true, laidLooks := .later }
def CodeBytesUptoCardSaid : Prop := Claim7.holds Tryd.pinned (.plain (OpenSpec.upto codeBytesSpec)) codeBytesUptoCard

/-- THE SECOND FORM's CARD OF 'kotatsulaw09.CodeTexts'. -/
def codeTextsUptoCard : Claim7 := { stood := { row := codeTextsUptoRow, standIns := [], harness := (true, "b857d90976d0441cad3ebbd02738e16917f9b19a889de893f1deb430d1d21f48"), looks := true }, kinds := [], alts := [], laidByText := true, laidKinds := [.data, .data, .data, .data, .pinned, .pinned], laidTests := true, laidLooks := .later }
def CodeTextsUptoCardSaid : Prop := Claim7.holds Tryd.pinned (.plain (OpenSpec.upto codeTextsSpec)) codeTextsUptoCard

/-- THE SECOND FORM's CARD OF 'kotatsulaw09.CodeKinds'. -/
def codeKindsUptoCard : Claim7 := { stood := { row := codeKindsUptoRow, standIns := [], harness := (true, "b857d90976d0441cad3ebbd02738e16917f9b19a889de893f1deb430d1d21f48"), looks := true }, kinds := [], alts := [], laidByText := true, laidKinds := [.data, .data, .data, .data, .pinned, .pinned], laidTests := true, laidLooks := .later }
def CodeKindsUptoCardSaid : Prop := Claim7.holds Tryd.pinned (.plain (OpenSpec.upto codeKindsSpec)) codeKindsUptoCard

/-- THE SECOND FORM's CARD OF 'kotatsulaw09.CodeSteps'. -/
def codeStepsUptoCard : Claim7 := { stood := { row := codeStepsUptoRow, standIns := [], harness := (true, "b857d90976d0441cad3ebbd02738e16917f9b19a889de893f1deb430d1d21f48"), looks := true }, kinds := [], alts := [], laidByText := true, laidKinds := [.data, .data, .data, .data, .pinned, .pinned], laidTests := true, laidLooks := .later }
def CodeStepsUptoCardSaid : Prop := Claim7.holds Tryd.pinned (.plain (OpenSpec.upto codeStepsSpec)) codeStepsUptoCard

/-- THE SECOND FORM's CARD OF 'kotatsulaw09.CodeBranches'. -/
def codeBranchesUptoCard : Claim7 := { stood := { row := codeBranchesUptoRow, standIns := [], harness := (true, "b857d90976d0441cad3ebbd02738e16917f9b19a889de893f1deb430d1d21f48"), looks := true }, kinds := [], alts := [], laidByText := true, laidKinds := [.data, .data, .data, .data, .sentinel, .sentinel, .pinned, .pinned], laidTests := true, laidLooks := .later }
def CodeBranchesUptoCardSaid : Prop := Claim7.holds Tryd.pinned (.plain (OpenSpec.upto codeBranchesSpec)) codeBranchesUptoCard

/-- THE SECOND FORM's CARD OF 'kotatsulaw09.CodeLists'. -/
def codeListsUptoCard : Claim7 := { stood := { row := codeListsUptoRow, standIns := [], harness := (true, "b857d90976d0441cad3ebbd02738e16917f9b19a889de893f1deb430d1d21f48"), looks := true }, kinds := [], alts := [], laidByText := true, laidKinds := [.data, .data, .data, .data, .sentinel, .sentinel, .pinned, .pinned], laidTests := true, laidLooks := .later }
def CodeListsUptoCardSaid : Prop := Claim7.holds Tryd.pinned (.plain (OpenSpec.upto codeListsSpec)) codeListsUptoCard
end Rows
end Go.Proofs.YtpbcbfbichfioaaDoor
