/-
  DERIVED. GIVEN WITH THE SEED: THE CARDS: each row of YtpjmdilpldaapaaGreatDoorRows.lean that lists a variable, with what it lists TIED to the program's text (the seventh form; the later family's looks); each row that meets fmt, with fmt's text TOLD by the authors' own Lean function (tested against real Go, not proved from fmt's source: count such statements apart). THE CARD IS WHAT COUNTS. Prove the row's statement (the work); the ties are given (YtpjmdilpldaapaaGreatDoorTie.lean); close each card by the builder's one call (the guide's Derived/Test/ToyasCard.lean, 'card_holds'). Laid BY PROGRAM, IN A SANDBOX (cutbox-door.mjs). By AI agents, Wed Nov 11 2026. No macro, syntax, notation, axiom, sorry.
-/
import Derived.Test.YtpjmdilpldaapaaGreatDoorRows
import GoSem.ClaimSeven
namespace Go.Proofs.YtpjmdilpldaapaaGreatDoor
namespace Rows

/-- THE TIED CARD OF 'sealringlaw03.UnifyTerms'. -/
def unifyTermsCard : Claim7 := { stood := { row := unifyTermsRow, standIns := [], harness := (true, "83c187fe25e9f897f3e3b46e31b2234bc98a5aa038bc97085a95d05067075de5"), looks := false }, kinds := [], alts := [], laidByText := true, laidKinds := [.data, .data, .data], laidTests := true, laidLooks := .later }
def UnifyTermsCardSaid : Prop := Claim7.holds Tryz.pinned (.plain (OpenSpec.ofChange unifyTermsSpec)) unifyTermsCard

/-- THE TIED CARD OF 'sealringlaw03.UnifyDisjoint'. -/
def unifyDisjointCard : Claim7 := { stood := { row := unifyDisjointRow, standIns := [], harness := (true, "83c187fe25e9f897f3e3b46e31b2234bc98a5aa038bc97085a95d05067075de5"), looks := false }, kinds := [], alts := [], laidByText := true, laidKinds := [.data, .data, .data], laidTests := true, laidLooks := .later }
def UnifyDisjointCardSaid : Prop := Claim7.holds Tryz.pinned (.plain (OpenSpec.ofChange unifyDisjointSpec)) unifyDisjointCard

/-- THE TIED CARD OF 'sealringlaw03.UnifyLists'. -/
def unifyListsCard : Claim7 := { stood := { row := unifyListsRow, standIns := [], harness := (true, "83c187fe25e9f897f3e3b46e31b2234bc98a5aa038bc97085a95d05067075de5"), looks := false }, kinds := [], alts := [], laidByText := true, laidKinds := [.data, .data, .data], laidTests := true, laidLooks := .later }
def UnifyListsCardSaid : Prop := Claim7.holds Tryz.pinned (.plain (OpenSpec.ofChange unifyListsSpec)) unifyListsCard

/-- THE TIED CARD OF 'sealringlaw03.UnifyMatch'. -/
def unifyMatchCard : Claim7 := { stood := { row := unifyMatchRow, standIns := [], harness := (true, "83c187fe25e9f897f3e3b46e31b2234bc98a5aa038bc97085a95d05067075de5"), looks := false }, kinds := [], alts := [], laidByText := true, laidKinds := [.data, .data, .data], laidTests := true, laidLooks := .later }
def UnifyMatchCardSaid : Prop := Claim7.holds Tryz.pinned (.plain (OpenSpec.ofChange unifyMatchSpec)) unifyMatchCard

/-- THE TIED CARD OF 'sealringlaw03.UnifyGeneral'. -/
def unifyGeneralCard : Claim7 := { stood := { row := unifyGeneralRow, standIns := [], harness := (true, "83c187fe25e9f897f3e3b46e31b2234bc98a5aa038bc97085a95d05067075de5"), looks := false }, kinds := [], alts := [], laidByText := true, laidKinds := [.data, .data, .data], laidTests := true, laidLooks := .later }
def UnifyGeneralCardSaid : Prop := Claim7.holds Tryz.pinned (.plain (OpenSpec.ofChange unifyGeneralSpec)) unifyGeneralCard

/-- THE TIED CARD OF 'sealringlaw03.UnifyInstances'. -/
def unifyInstancesCard : Claim7 := { stood := { row := unifyInstancesRow, standIns := [], harness := (true, "83c187fe25e9f897f3e3b46e31b2234bc98a5aa038bc97085a95d05067075de5"), looks := false }, kinds := [], alts := [], laidByText := true, laidKinds := [.data, .data, .data], laidTests := true, laidLooks := .later }
def UnifyInstancesCardSaid : Prop := Claim7.holds Tryz.pinned (.plain (OpenSpec.ofChange unifyInstancesSpec)) unifyInstancesCard

/-- THE TIED CARD OF 'sealringlaw03.UnifyVariants'. -/
def unifyVariantsCard : Claim7 := { stood := { row := unifyVariantsRow, standIns := [], harness := (true, "83c187fe25e9f897f3e3b46e31b2234bc98a5aa038bc97085a95d05067075de5"), looks := false }, kinds := [], alts := [], laidByText := true, laidKinds := [.data, .data, .data], laidTests := true, laidLooks := .later }
def UnifyVariantsCardSaid : Prop := Claim7.holds Tryz.pinned (.plain (OpenSpec.ofChange unifyVariantsSpec)) unifyVariantsCard

/-- THE SECOND FORM's CARD OF 'sealringlaw03.UnifyTerms'. -/
def unifyTermsUptoCard : Claim7 := { stood := { row := unifyTermsUptoRow, standIns := [], harness := (true, "83c187fe25e9f897f3e3b46e31b2234bc98a5aa038bc97085a95d05067075de5"), looks := false }, kinds := [], alts := [], laidByText := true, laidKinds := [.data, .data, .data], laidTests := true, laidLooks := .later }
def UnifyTermsUptoCardSaid : Prop := Claim7.holds Tryz.pinned (.plain (OpenSpec.upto unifyTermsSpec)) unifyTermsUptoCard

/-- THE SECOND FORM's CARD OF 'sealringlaw03.UnifyDisjoint'. -/
def unifyDisjointUptoCard : Claim7 := { stood := { row := unifyDisjointUptoRow, standIns := [], harness := (true, "83c187fe25e9f897f3e3b46e31b2234bc98a5aa038bc97085a95d05067075de5"), looks := false }, kinds := [], alts := [], laidByText := true, laidKinds := [.data, .data, .data], laidTests := true, laidLooks := .later }
def UnifyDisjointUptoCardSaid : Prop := Claim7.holds Tryz.pinned (.plain (OpenSpec.upto unifyDisjointSpec)) unifyDisjointUptoCard

/-- THE SECOND FORM's CARD OF 'sealringlaw03.UnifyLists'. -/
def unifyListsUptoCard : Claim7 := { stood := { row := unifyListsUptoRow, standIns := [], harness := (true, "83c187fe25e9f897f3e3b46e31b2234bc98a5aa038bc97085a95d05067075de5"), looks := false }, kinds := [], alts := [], laidByText := true, laidKinds := [.data, .data, .data], laidTests := true, laidLooks := .later }
def UnifyListsUptoCardSaid : Prop := Claim7.holds Tryz.pinned (.plain (OpenSpec.upto unifyListsSpec)) unifyListsUptoCard

/-- THE SECOND FORM's CARD OF 'sealringlaw03.UnifyMatch'. -/
def unifyMatchUptoCard : Claim7 := { stood := { row := unifyMatchUptoRow, standIns := [], harness := (true, "83c187fe25e9f897f3e3b46e31b2234bc98a5aa038bc97085a95d05067075de5"), looks := false }, kinds := [], alts := [], laidByText := true, laidKinds := [.data, .data, .data], laidTests := true, laidLooks := .later }
def UnifyMatchUptoCardSaid : Prop := Claim7.holds Tryz.pinned (.plain (OpenSpec.upto unifyMatchSpec)) unifyMatchUptoCard

/-- THE SECOND FORM's CARD OF 'sealringlaw03.UnifyGeneral'. -/
def unifyGeneralUptoCard : Claim7 := { stood := { row := unifyGeneralUptoRow, standIns := [], harness := (true, "83c187fe25e9f897f3e3b46e31b2234bc98a5aa038bc97085a95d05067075de5"), looks := false }, kinds := [], alts := [], laidByText := true, laidKinds := [.data, .data, .data], laidTests := true, laidLooks := .later }
def UnifyGeneralUptoCardSaid : Prop := Claim7.holds Tryz.pinned (.plain (OpenSpec.upto unifyGeneralSpec)) unifyGeneralUptoCard

/-- THE SECOND FORM's CARD OF 'sealringlaw03.UnifyInstances'. -/
def unifyInstancesUptoCard : Claim7 := { stood := { row := unifyInstancesUptoRow, standIns := [], harness := (true, "83c187fe25e9f897f3e3b46e31b2234bc98a5aa038bc97085a95d05067075de5"), looks := false }, kinds := [], alts := [], laidByText := true, laidKinds := [.data, .data, .data], laidTests := true, laidLooks := .later }
def UnifyInstancesUptoCardSaid : Prop := Claim7.holds Tryz.pinned (.plain (OpenSpec.upto unifyInstancesSpec)) unifyInstancesUptoCard

/-- THE SECOND FORM's CARD OF 'sealringlaw03.UnifyVariants'. -/
def unifyVariantsUptoCard : Claim7 := { stood := { row := unifyVariantsUptoRow, standIns := [], harness := (true, "83c187fe25e9f897f3e3b46e31b2234bc98a5aa038bc97085a95d05067075de5"), looks := false }, kinds := [], alts := [], laidByText := true, laidKinds := [.data, .data, .data], laidTests := true, laidLooks := .later }
def UnifyVariantsUptoCardSaid : Prop := Claim7.holds Tryz.pinned (.plain (OpenSpec.upto unifyVariantsSpec)) unifyVariantsUptoCard
end Rows
end Go.Proofs.YtpjmdilpldaapaaGreatDoor
