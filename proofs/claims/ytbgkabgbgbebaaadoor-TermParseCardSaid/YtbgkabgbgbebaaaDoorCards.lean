/-
  DERIVED. GIVEN WITH THE SEED: THE CARDS: each row of YtbgkabgbgbebaaaDoorRows.lean that lists a variable, with what it lists TIED to the program's text (the seventh form; the later family's looks); each row that meets fmt, with fmt's text TOLD by the authors' own Lean function (tested against real Go, not proved from fmt's source: count such statements apart). THE CARD IS WHAT COUNTS. Prove the row's statement (the work); the ties are given (YtbgkabgbgbebaaaDoorTie.lean); close each card by the builder's one call (the guide's Derived/Test/ToyasCard.lean, 'card_holds'). Laid BY PROGRAM, IN A SANDBOX (cutbox-door.mjs). By AI agents, Wed Nov 11 2026. No macro, syntax, notation, axiom, sorry.
-/
import Derived.Test.YtbgkabgbgbebaaaDoorRows
import GoSem.ClaimSeven
namespace Go.Proofs.YtbgkabgbgbebaaaDoor
namespace Rows

/-- THE TIED CARD OF 'sealringlaw01.TermSizes'. -/
def termSizesCard : Claim7 := { stood := { row := termSizesRow, standIns := [], harness := (true, "cac0086d42b45447fe28dadaef052ce9bfec813cc1f4b989fe4a68d9f9002924"), looks := false }, kinds := [], alts := [], laidByText := true, laidKinds := [.widerDeep], laidTests := true, laidLooks := .later }
def TermSizesCardSaid : Prop := Claim7.holds Tryd.pinned (.plain (OpenSpec.ofChange termSizesSpec)) termSizesCard

/-- THE TIED CARD OF 'sealringlaw01.TermCompare'. -/
def termCompareCard : Claim7 := { stood := { row := termCompareRow, standIns := [], harness := (true, "cac0086d42b45447fe28dadaef052ce9bfec813cc1f4b989fe4a68d9f9002924"), looks := false }, kinds := [], alts := [], laidByText := true, laidKinds := [.widerDeep], laidTests := true, laidLooks := .later }
def TermCompareCardSaid : Prop := Claim7.holds Tryd.pinned (.plain (OpenSpec.ofChange termCompareSpec)) termCompareCard

/-- THE TIED CARD OF 'sealringlaw01.TermPositions'. -/
def termPositionsCard : Claim7 := { stood := { row := termPositionsRow, standIns := [], harness := (true, "cac0086d42b45447fe28dadaef052ce9bfec813cc1f4b989fe4a68d9f9002924"), looks := false }, kinds := [], alts := [], laidByText := true, laidKinds := [.widerDeep], laidTests := true, laidLooks := .later }
def TermPositionsCardSaid : Prop := Claim7.holds Tryd.pinned (.plain (OpenSpec.ofChange termPositionsSpec)) termPositionsCard

/-- THE TIED CARD OF 'sealringlaw01.TermSubterms'. -/
def termSubtermsCard : Claim7 := { stood := { row := termSubtermsRow, standIns := [], harness := (true, "cac0086d42b45447fe28dadaef052ce9bfec813cc1f4b989fe4a68d9f9002924"), looks := false }, kinds := [], alts := [], laidByText := true, laidKinds := [.widerDeep], laidTests := true, laidLooks := .later }
def TermSubtermsCardSaid : Prop := Claim7.holds Tryd.pinned (.plain (OpenSpec.ofChange termSubtermsSpec)) termSubtermsCard

/-- THE TIED CARD OF 'sealringlaw01.TermReplace'. -/
def termReplaceCard : Claim7 := { stood := { row := termReplaceRow, standIns := [], harness := (true, "cac0086d42b45447fe28dadaef052ce9bfec813cc1f4b989fe4a68d9f9002924"), looks := false }, kinds := [], alts := [], laidByText := true, laidKinds := [.widerDeep], laidTests := true, laidLooks := .later }
def TermReplaceCardSaid : Prop := Claim7.holds Tryd.pinned (.plain (OpenSpec.ofChange termReplaceSpec)) termReplaceCard

/-- THE TIED CARD OF 'sealringlaw01.TermApart'. -/
def termApartCard : Claim7 := { stood := { row := termApartRow, standIns := [], harness := (true, "cac0086d42b45447fe28dadaef052ce9bfec813cc1f4b989fe4a68d9f9002924"), looks := false }, kinds := [], alts := [], laidByText := true, laidKinds := [.widerDeep], laidTests := true, laidLooks := .later }
def TermApartCardSaid : Prop := Claim7.holds Tryd.pinned (.plain (OpenSpec.ofChange termApartSpec)) termApartCard

/-- THE TIED CARD OF 'sealringlaw01.TermValid'. -/
def termValidCard : Claim7 := { stood := { row := termValidRow, standIns := [], harness := (true, "cac0086d42b45447fe28dadaef052ce9bfec813cc1f4b989fe4a68d9f9002924"), looks := false }, kinds := [], alts := [], laidByText := true, laidKinds := [.widerDeep], laidTests := true, laidLooks := .later }
def TermValidCardSaid : Prop := Claim7.holds Tryd.pinned (.plain (OpenSpec.ofChange termValidSpec)) termValidCard

/-- THE TIED CARD OF 'sealringlaw01.TermParse'. -/
def termParseCard : Claim7 := { stood := { row := termParseRow, standIns := [], harness := (true, "cac0086d42b45447fe28dadaef052ce9bfec813cc1f4b989fe4a68d9f9002924"), looks := false }, kinds := [], alts := [], laidByText := true, laidKinds := [.widerDeep], laidTests := true, laidLooks := .later }
def TermParseCardSaid : Prop := Claim7.holds Tryd.pinned (.plain (OpenSpec.ofChange termParseSpec)) termParseCard

/-- THE SECOND FORM's CARD OF 'sealringlaw01.TermSizes'. -/
def termSizesUptoCard : Claim7 := { stood := { row := termSizesUptoRow, standIns := [], harness := (true, "cac0086d42b45447fe28dadaef052ce9bfec813cc1f4b989fe4a68d9f9002924"), looks := false }, kinds := [], alts := [], laidByText := true, laidKinds := [.widerDeep], laidTests := true, laidLooks := .later }
def TermSizesUptoCardSaid : Prop := Claim7.holds Tryd.pinned (.plain (OpenSpec.upto termSizesSpec)) termSizesUptoCard

/-- THE SECOND FORM's CARD OF 'sealringlaw01.TermCompare'. -/
def termCompareUptoCard : Claim7 := { stood := { row := termCompareUptoRow, standIns := [], harness := (true, "cac0086d42b45447fe28dadaef052ce9bfec813cc1f4b989fe4a68d9f9002924"), looks := false }, kinds := [], alts := [], laidByText := true, laidKinds := [.widerDeep], laidTests := true, laidLooks := .later }
def TermCompareUptoCardSaid : Prop := Claim7.holds Tryd.pinned (.plain (OpenSpec.upto termCompareSpec)) termCompareUptoCard

/-- THE SECOND FORM's CARD OF 'sealringlaw01.TermPositions'. -/
def termPositionsUptoCard : Claim7 := { stood := { row := termPositionsUptoRow, standIns := [], harness := (true, "cac0086d42b45447fe28dadaef052ce9bfec813cc1f4b989fe4a68d9f9002924"), looks := false }, kinds := [], alts := [], laidByText := true, laidKinds := [.widerDeep], laidTests := true, laidLooks := .later }
def TermPositionsUptoCardSaid : Prop := Claim7.holds Tryd.pinned (.plain (OpenSpec.upto termPositionsSpec)) termPositionsUptoCard

/-- THE SECOND FORM's CARD OF 'sealringlaw01.TermSubterms'. -/
def termSubtermsUptoCard : Claim7 := { stood := { row := termSubtermsUptoRow, standIns := [], harness := (true, "cac0086d42b45447fe28dadaef052ce9bfec813cc1f4b989fe4a68d9f9002924"), looks := false }, kinds := [], alts := [], laidByText := true, laidKinds := [.widerDeep], laidTests := true, laidLooks := .later }
def TermSubtermsUptoCardSaid : Prop := Claim7.holds Tryd.pinned (.plain (OpenSpec.upto termSubtermsSpec)) termSubtermsUptoCard

/-- THE SECOND FORM's CARD OF 'sealringlaw01.TermReplace'. -/
def termReplaceUptoCard : Claim7 := { stood := { row := termReplaceUptoRow, standIns := [], harness := (true, "cac0086d42b45447fe28dadaef052ce9bfec813cc1f4b989fe4a68d9f9002924"), looks := false }, kinds := [], alts := [], laidByText := true, laidKinds := [.widerDeep], laidTests := true, laidLooks := .later }
def TermReplaceUptoCardSaid : Prop := Claim7.holds Tryd.pinned (.plain (OpenSpec.upto termReplaceSpec)) termReplaceUptoCard

/-- THE SECOND FORM's CARD OF 'sealringlaw01.TermApart'. -/
def termApartUptoCard : Claim7 := { stood := { row := termApartUptoRow, standIns := [], harness := (true, "cac0086d42b45447fe28dadaef052ce9bfec813cc1f4b989fe4a68d9f9002924"), looks := false }, kinds := [], alts := [], laidByText := true, laidKinds := [.widerDeep], laidTests := true, laidLooks := .later }
def TermApartUptoCardSaid : Prop := Claim7.holds Tryd.pinned (.plain (OpenSpec.upto termApartSpec)) termApartUptoCard

/-- THE SECOND FORM's CARD OF 'sealringlaw01.TermValid'. -/
def termValidUptoCard : Claim7 := { stood := { row := termValidUptoRow, standIns := [], harness := (true, "cac0086d42b45447fe28dadaef052ce9bfec813cc1f4b989fe4a68d9f9002924"), looks := false }, kinds := [], alts := [], laidByText := true, laidKinds := [.widerDeep], laidTests := true, laidLooks := .later }
def TermValidUptoCardSaid : Prop := Claim7.holds Tryd.pinned (.plain (OpenSpec.upto termValidSpec)) termValidUptoCard

/-- THE SECOND FORM's CARD OF 'sealringlaw01.TermParse'. -/
def termParseUptoCard : Claim7 := { stood := { row := termParseUptoRow, standIns := [], harness := (true, "cac0086d42b45447fe28dadaef052ce9bfec813cc1f4b989fe4a68d9f9002924"), looks := false }, kinds := [], alts := [], laidByText := true, laidKinds := [.widerDeep], laidTests := true, laidLooks := .later }
def TermParseUptoCardSaid : Prop := Claim7.holds Tryd.pinned (.plain (OpenSpec.upto termParseSpec)) termParseUptoCard
end Rows
end Go.Proofs.YtbgkabgbgbebaaaDoor
