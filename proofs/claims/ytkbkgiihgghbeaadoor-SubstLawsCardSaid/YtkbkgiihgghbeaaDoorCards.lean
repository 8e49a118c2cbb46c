/-
  DERIVED. GIVEN WITH THE SEED: THE CARDS: each row of YtkbkgiihgghbeaaDoorRows.lean that lists a variable, with what it lists TIED to the program's text (the seventh form; the later family's looks); each row that meets fmt, with fmt's text TOLD by the authors' own Lean function (tested against real Go, not proved from fmt's source: count such statements apart). THE CARD IS WHAT COUNTS. Prove the row's statement (the work); the ties are given (YtkbkgiihgghbeaaDoorTie.lean); close each card by the builder's one call (the guide's Derived/Test/ToyasCard.lean, 'card_holds'). Laid BY PROGRAM, IN A SANDBOX (cutbox-door.mjs). By AI agents, Wed Nov 11 2026. No macro, syntax, notation, axiom, sorry.
-/
import Derived.Test.YtkbkgiihgghbeaaDoorRows
import GoSem.ClaimSeven
namespace Go.Proofs.YtkbkgiihgghbeaaDoor
namespace Rows

/-- THE TIED CARD OF 'sealringlaw02.SubstValid'. -/
def substValidCard : Claim7 := { stood := { row := substValidRow, standIns := [], harness := (true, "ae167c843b7e129a3ef7800c3536220897ee3f706cf7de467a376074a10cd1c2"), looks := false }, kinds := [], alts := [], laidByText := true, laidKinds := [.widerDeep], laidTests := true, laidLooks := .later }
def SubstValidCardSaid : Prop := Claim7.holds Tryd.pinned (.plain (OpenSpec.ofChange substValidSpec)) substValidCard

/-- THE TIED CARD OF 'sealringlaw02.SubstFits'. -/
def substFitsCard : Claim7 := { stood := { row := substFitsRow, standIns := [], harness := (true, "ae167c843b7e129a3ef7800c3536220897ee3f706cf7de467a376074a10cd1c2"), looks := false }, kinds := [], alts := [], laidByText := true, laidKinds := [.widerDeep], laidTests := true, laidLooks := .later }
def SubstFitsCardSaid : Prop := Claim7.holds Tryd.pinned (.plain (OpenSpec.ofChange substFitsSpec)) substFitsCard

/-- THE TIED CARD OF 'sealringlaw02.SubstCompose'. -/
def substComposeCard : Claim7 := { stood := { row := substComposeRow, standIns := [], harness := (true, "ae167c843b7e129a3ef7800c3536220897ee3f706cf7de467a376074a10cd1c2"), looks := false }, kinds := [], alts := [], laidByText := true, laidKinds := [.widerDeep], laidTests := true, laidLooks := .later }
def SubstComposeCardSaid : Prop := Claim7.holds Tryd.pinned (.plain (OpenSpec.ofChange substComposeSpec)) substComposeCard

/-- THE TIED CARD OF 'sealringlaw02.SubstLaws'. -/
def substLawsCard : Claim7 := { stood := { row := substLawsRow, standIns := [], harness := (true, "ae167c843b7e129a3ef7800c3536220897ee3f706cf7de467a376074a10cd1c2"), looks := false }, kinds := [], alts := [], laidByText := true, laidKinds := [.widerDeep], laidTests := true, laidLooks := .later }
def SubstLawsCardSaid : Prop := Claim7.holds Tryd.pinned (.plain (OpenSpec.ofChange substLawsSpec)) substLawsCard

/-- THE TIED CARD OF 'sealringlaw02.SubstApply'. -/
def substApplyCard : Claim7 := { stood := { row := substApplyRow, standIns := [], harness := (true, "ae167c843b7e129a3ef7800c3536220897ee3f706cf7de467a376074a10cd1c2"), looks := false }, kinds := [], alts := [], laidByText := true, laidKinds := [.widerDeep], laidTests := true, laidLooks := .later }
def SubstApplyCardSaid : Prop := Claim7.holds Tryd.pinned (.plain (OpenSpec.ofChange substApplySpec)) substApplyCard

/-- THE TIED CARD OF 'sealringlaw02.SubstAgain'. -/
def substAgainCard : Claim7 := { stood := { row := substAgainRow, standIns := [], harness := (true, "ae167c843b7e129a3ef7800c3536220897ee3f706cf7de467a376074a10cd1c2"), looks := false }, kinds := [], alts := [], laidByText := true, laidKinds := [.widerDeep], laidTests := true, laidLooks := .later }
def SubstAgainCardSaid : Prop := Claim7.holds Tryd.pinned (.plain (OpenSpec.ofChange substAgainSpec)) substAgainCard

/-- THE SECOND FORM's CARD OF 'sealringlaw02.SubstValid'. -/
def substValidUptoCard : Claim7 := { stood := { row := substValidUptoRow, standIns := [], harness := (true, "ae167c843b7e129a3ef7800c3536220897ee3f706cf7de467a376074a10cd1c2"), looks := false }, kinds := [], alts := [], laidByText := true, laidKinds := [.widerDeep], laidTests := true, laidLooks := .later }
def SubstValidUptoCardSaid : Prop := Claim7.holds Tryd.pinned (.plain (OpenSpec.upto substValidSpec)) substValidUptoCard

/-- THE SECOND FORM's CARD OF 'sealringlaw02.SubstFits'. -/
def substFitsUptoCard : Claim7 := { stood := { row := substFitsUptoRow, standIns := [], harness := (true, "ae167c843b7e129a3ef7800c3536220897ee3f706cf7de467a376074a10cd1c2"), looks := false }, kinds := [], alts := [], laidByText := true, laidKinds := [.widerDeep], laidTests := true, laidLooks := .later }
def SubstFitsUptoCardSaid : Prop := Claim7.holds Tryd.pinned (.plain (OpenSpec.upto substFitsSpec)) substFitsUptoCard

/-- THE SECOND FORM's CARD OF 'sealringlaw02.SubstCompose'. -/
def substComposeUptoCard : Claim7 := { stood := { row := substComposeUptoRow, standIns := [], harness := (true, "ae167c843b7e129a3ef7800c3536220897ee3f706cf7de467a376074a10cd1c2"), looks := false }, kinds := [], alts := [], laidByText := true, laidKinds := [.widerDeep], laidTests := true, laidLooks := .later }
def SubstComposeUptoCardSaid : Prop := Claim7.holds Tryd.pinned (.plain (OpenSpec.upto substComposeSpec)) substComposeUptoCard

/-- THE SECOND FORM's CARD OF 'sealringlaw02.SubstLaws'. -/
def substLawsUptoCard : Claim7 := { stood := { row := substLawsUptoRow, standIns := [], harness := (true, "ae167c843b7e129a3ef7800c3536220897ee3f706cf7de467a376074a10cd1c2"), looks := false }, kinds := [], alts := [], laidByText := true, laidKinds := [.widerDeep], laidTests := true, laidLooks := .later }
def SubstLawsUptoCardSaid : Prop := Claim7.holds Tryd.pinned (.plain (OpenSpec.upto substLawsSpec)) substLawsUptoCard

/-- THE SECOND FORM's CARD OF 'sealringlaw02.SubstApply'. -/
def substApplyUptoCard : Claim7 := { stood := { row := substApplyUptoRow, standIns := [], harness := (true, "ae167c843b7e129a3ef7800c3536220897ee3f706cf7de467a376074a10cd1c2"), looks := false }, kinds := [], alts := [], laidByText := true, laidKinds := [.widerDeep], laidTests := true, laidLooks := .later }
def SubstApplyUptoCardSaid : Prop := Claim7.holds Tryd.pinned (.plain (OpenSpec.upto substApplySpec)) substApplyUptoCard

/-- THE SECOND FORM's CARD OF 'sealringlaw02.SubstAgain'. -/
def substAgainUptoCard : Claim7 := { stood := { row := substAgainUptoRow, standIns := [], harness := (true, "ae167c843b7e129a3ef7800c3536220897ee3f706cf7de467a376074a10cd1c2"), looks := false }, kinds := [], alts := [], laidByText := true, laidKinds := [.widerDeep], laidTests := true, laidLooks := .later }
def SubstAgainUptoCardSaid : Prop := Claim7.holds Tryd.pinned (.plain (OpenSpec.upto substAgainSpec)) substAgainUptoCard
end Rows
end Go.Proofs.YtkbkgiihgghbeaaDoor
