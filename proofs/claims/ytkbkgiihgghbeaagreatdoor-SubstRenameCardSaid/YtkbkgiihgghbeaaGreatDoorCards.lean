/-
  DERIVED. GIVEN WITH THE SEED: THE CARDS: each row of YtkbkgiihgghbeaaGreatDoorRows.lean that lists a variable, with what it lists TIED to the program's text (the seventh form; the later family's looks); each row that meets fmt, with fmt's text TOLD by the authors' own Lean function (tested against real Go, not proved from fmt's source: count such statements apart). THE CARD IS WHAT COUNTS. Prove the row's statement (the work); the ties are given (YtkbkgiihgghbeaaGreatDoorTie.lean); close each card by the builder's one call (the guide's Derived/Test/ToyasCard.lean, 'card_holds'). Laid BY PROGRAM, IN A SANDBOX (cutbox-door.mjs). By AI agents, Wed Nov 11 2026. No macro, syntax, notation, axiom, sorry.
-/
import Derived.Test.YtkbkgiihgghbeaaGreatDoorRows
import GoSem.ClaimSeven
namespace Go.Proofs.YtkbkgiihgghbeaaGreatDoor
namespace Rows

/-- THE TIED CARD OF 'sealringlaw02.SubstRename'. -/
def substRenameCard : Claim7 := { stood := { row := substRenameRow, standIns := [], harness := (true, "ceab0aff0398538080549948bb425e885471c5f61b609a2ba75abdc157afc800"), looks := false }, kinds := [], alts := [], laidByText := true, laidKinds := [.widerDeep], laidTests := true, laidLooks := .later }
def SubstRenameCardSaid : Prop := Claim7.holds Tryz.pinned (.plain (OpenSpec.ofChange substRenameSpec)) substRenameCard

/-- THE TIED CARD OF 'sealringlaw02.SubstText'. -/
def substTextCard : Claim7 := { stood := { row := substTextRow, standIns := [], harness := (true, "ceab0aff0398538080549948bb425e885471c5f61b609a2ba75abdc157afc800"), looks := false }, kinds := [], alts := [], laidByText := true, laidKinds := [.widerDeep], laidTests := true, laidLooks := .later }
def SubstTextCardSaid : Prop := Claim7.holds Tryz.pinned (.plain (OpenSpec.ofChange substTextSpec)) substTextCard

/-- THE TIED CARD OF 'sealringlaw02.SubstParse'. -/
def substParseCard : Claim7 := { stood := { row := substParseRow, standIns := [], harness := (true, "ceab0aff0398538080549948bb425e885471c5f61b609a2ba75abdc157afc800"), looks := false }, kinds := [], alts := [], laidByText := true, laidKinds := [.widerDeep], laidTests := true, laidLooks := .later }
def SubstParseCardSaid : Prop := Claim7.holds Tryz.pinned (.plain (OpenSpec.ofChange substParseSpec)) substParseCard

/-- THE SECOND FORM's CARD OF 'sealringlaw02.SubstRename'. -/
def substRenameUptoCard : Claim7 := { stood := { row := substRenameUptoRow, standIns := [], harness := (true, "ceab0aff0398538080549948bb425e885471c5f61b609a2ba75abdc157afc800"), looks := false }, kinds := [], alts := [], laidByText := true, laidKinds := [.widerDeep], laidTests := true, laidLooks := .later }
def SubstRenameUptoCardSaid : Prop := Claim7.holds Tryz.pinned (.plain (OpenSpec.upto substRenameSpec)) substRenameUptoCard

/-- THE SECOND FORM's CARD OF 'sealringlaw02.SubstText'. -/
def substTextUptoCard : Claim7 := { stood := { row := substTextUptoRow, standIns := [], harness := (true, "ceab0aff0398538080549948bb425e885471c5f61b609a2ba75abdc157afc800"), looks := false }, kinds := [], alts := [], laidByText := true, laidKinds := [.widerDeep], laidTests := true, laidLooks := .later }
def SubstTextUptoCardSaid : Prop := Claim7.holds Tryz.pinned (.plain (OpenSpec.upto substTextSpec)) substTextUptoCard

/-- THE SECOND FORM's CARD OF 'sealringlaw02.SubstParse'. -/
def substParseUptoCard : Claim7 := { stood := { row := substParseUptoRow, standIns := [], harness := (true, "ceab0aff0398538080549948bb425e885471c5f61b609a2ba75abdc157afc800"), looks := false }, kinds := [], alts := [], laidByText := true, laidKinds := [.widerDeep], laidTests := true, laidLooks := .later }
def SubstParseUptoCardSaid : Prop := Claim7.holds Tryz.pinned (.plain (OpenSpec.upto substParseSpec)) substParseUptoCard
end Rows
end Go.Proofs.YtkbkgiihgghbeaaGreatDoor
