/-
  DERIVED. GIVEN WITH THE SEED: THE CARDS: each row of YtpjmdilpldaapaaDoorRows.lean that lists a variable, with what it lists TIED to the program's text (the seventh form; the later family's looks); each row that meets fmt, with fmt's text TOLD by the authors' own Lean function (tested against real Go, not proved from fmt's source: count such statements apart). THE CARD IS WHAT COUNTS. Prove the row's statement (the work); the ties are given (YtpjmdilpldaapaaDoorTie.lean); close each card by the builder's one call (the guide's Derived/Test/ToyasCard.lean, 'card_holds'). Laid BY PROGRAM, IN A SANDBOX (cutbox-door.mjs). By AI agents, Wed Nov 11 2026. No macro, syntax, notation, axiom, sorry.
-/
import Derived.Test.YtpjmdilpldaapaaDoorRows
import GoSem.ClaimSeven
namespace Go.Proofs.YtpjmdilpldaapaaDoor
namespace Rows

/-- THE TIED CARD OF 'sealringlaw15.CastSessions'. -/
def castSessionsCard : Claim7 := { stood := { row := castSessionsRow, standIns := [], harness := (true, "ddfa80e622356891cfaa92f7e21dfae6526b01f3c5ea2d43995c8dc05215f596"), looks := false }, kinds := [], alts := [], laidByText := true, laidKinds := [.data, .data, .data], laidTests := true, laidLooks := .later }
def CastSessionsCardSaid : Prop := Claim7.holds Tryd.pinned (.plain (OpenSpec.ofChange castSessionsSpec)) castSessionsCard

/-- THE TIED CARD OF 'sealringlaw15.CastInstance'. -/
def castInstanceCard : Claim7 := { stood := { row := castInstanceRow, standIns := [], harness := (true, "ddfa80e622356891cfaa92f7e21dfae6526b01f3c5ea2d43995c8dc05215f596"), looks := false }, kinds := [], alts := [], laidByText := true, laidKinds := [.data, .data, .data], laidTests := true, laidLooks := .later }
def CastInstanceCardSaid : Prop := Claim7.holds Tryd.pinned (.plain (OpenSpec.ofChange castInstanceSpec)) castInstanceCard

/-- THE TIED CARD OF 'sealringlaw15.CastApart'. -/
def castApartCard : Claim7 := { stood := { row := castApartRow, standIns := [], harness := (true, "ddfa80e622356891cfaa92f7e21dfae6526b01f3c5ea2d43995c8dc05215f596"), looks := false }, kinds := [], alts := [], laidByText := true, laidKinds := [.data, .data, .data], laidTests := true, laidLooks := .later }
def CastApartCardSaid : Prop := Claim7.holds Tryd.pinned (.plain (OpenSpec.ofChange castApartSpec)) castApartCard

/-- THE TIED CARD OF 'sealringlaw15.CastValid'. -/
def castValidCard : Claim7 := { stood := { row := castValidRow, standIns := [], harness := (true, "ddfa80e622356891cfaa92f7e21dfae6526b01f3c5ea2d43995c8dc05215f596"), looks := false }, kinds := [], alts := [], laidByText := true, laidKinds := [.data, .data, .data], laidTests := true, laidLooks := .later }
def CastValidCardSaid : Prop := Claim7.holds Tryd.pinned (.plain (OpenSpec.ofChange castValidSpec)) castValidCard

/-- THE TIED CARD OF 'sealringlaw15.CastKnows'. -/
def castKnowsCard : Claim7 := { stood := { row := castKnowsRow, standIns := [], harness := (true, "ddfa80e622356891cfaa92f7e21dfae6526b01f3c5ea2d43995c8dc05215f596"), looks := false }, kinds := [], alts := [], laidByText := true, laidKinds := [.data, .data, .data], laidTests := true, laidLooks := .later }
def CastKnowsCardSaid : Prop := Claim7.holds Tryd.pinned (.plain (OpenSpec.ofChange castKnowsSpec)) castKnowsCard

/-- THE TIED CARD OF 'sealringlaw15.CastOwns'. -/
def castOwnsCard : Claim7 := { stood := { row := castOwnsRow, standIns := [], harness := (true, "ddfa80e622356891cfaa92f7e21dfae6526b01f3c5ea2d43995c8dc05215f596"), looks := false }, kinds := [], alts := [], laidByText := true, laidKinds := [.data, .data, .data], laidTests := true, laidLooks := .later }
def CastOwnsCardSaid : Prop := Claim7.holds Tryd.pinned (.plain (OpenSpec.ofChange castOwnsSpec)) castOwnsCard

/-- THE TIED CARD OF 'sealringlaw15.CastSecrets'. -/
def castSecretsCard : Claim7 := { stood := { row := castSecretsRow, standIns := [], harness := (true, "ddfa80e622356891cfaa92f7e21dfae6526b01f3c5ea2d43995c8dc05215f596"), looks := false }, kinds := [], alts := [], laidByText := true, laidKinds := [.data, .data, .data], laidTests := true, laidLooks := .later }
def CastSecretsCardSaid : Prop := Claim7.holds Tryd.pinned (.plain (OpenSpec.ofChange castSecretsSpec)) castSecretsCard

/-- THE TIED CARD OF 'sealringlaw15.CastReveals'. -/
def castRevealsCard : Claim7 := { stood := { row := castRevealsRow, standIns := [], harness := (true, "ddfa80e622356891cfaa92f7e21dfae6526b01f3c5ea2d43995c8dc05215f596"), looks := false }, kinds := [], alts := [], laidByText := true, laidKinds := [.data, .data, .data], laidTests := true, laidLooks := .later }
def CastRevealsCardSaid : Prop := Claim7.holds Tryd.pinned (.plain (OpenSpec.ofChange castRevealsSpec)) castRevealsCard

/-- THE SECOND FORM's CARD OF 'sealringlaw15.CastSessions'. -/
def castSessionsUptoCard : Claim7 := { stood := { row := castSessionsUptoRow, standIns := [], harness := (true, "ddfa80e622356891cfaa92f7e21dfae6526b01f3c5ea2d43995c8dc05215f596"), looks := false }, kinds := [], alts := [], laidByText := true, laidKinds := [.data, .data, .data], laidTests := true, laidLooks := .later }
def CastSessionsUptoCardSaid : Prop := Claim7.holds Tryd.pinned (.plain (OpenSpec.upto castSessionsSpec)) castSessionsUptoCard

/-- THE SECOND FORM's CARD OF 'sealringlaw15.CastInstance'. -/
def castInstanceUptoCard : Claim7 := { stood := { row := castInstanceUptoRow, standIns := [], harness := (true, "ddfa80e622356891cfaa92f7e21dfae6526b01f3c5ea2d43995c8dc05215f596"), looks := false }, kinds := [], alts := [], laidByText := true, laidKinds := [.data, .data, .data], laidTests := true, laidLooks := .later }
def CastInstanceUptoCardSaid : Prop := Claim7.holds Tryd.pinned (.plain (OpenSpec.upto castInstanceSpec)) castInstanceUptoCard

/-- THE SECOND FORM's CARD OF 'sealringlaw15.CastApart'. -/
def castApartUptoCard : Claim7 := { stood := { row := castApartUptoRow, standIns := [], harness := (true, "ddfa80e622356891cfaa92f7e21dfae6526b01f3c5ea2d43995c8dc05215f596"), looks := false }, kinds := [], alts := [], laidByText := true, laidKinds := [.data, .data, .data], laidTests := true, laidLooks := .later }
def CastApartUptoCardSaid : Prop := Claim7.holds Tryd.pinned (.plain (OpenSpec.upto castApartSpec)) castApartUptoCard

/-- THE SECOND FORM's CARD OF 'sealringlaw15.CastValid'. -/
def castValidUptoCard : Claim7 := { stood := { row := castValidUptoRow, standIns := [], harness := (true, "ddfa80e622356891cfaa92f7e21dfae6526b01f3c5ea2d43995c8dc05215f596"), looks := false }, kinds := [], alts := [], laidByText := true, laidKinds := [.data, .data, .data], laidTests := true, laidLooks := .later }
def CastValidUptoCardSaid : Prop := Claim7.holds Tryd.pinned (.plain (OpenSpec.upto castValidSpec)) castValidUptoCard

/-- THE SECOND FORM's CARD OF 'sealringlaw15.CastKnows'. -/
def castKnowsUptoCard : Claim7 := { stood := { row := castKnowsUptoRow, standIns := [], harness := (true, "ddfa80e622356891cfaa92f7e21dfae6526b01f3c5ea2d43995c8dc05215f596"), looks := false }, kinds := [], alts := [], laidByText := true, laidKinds := [.data, .data, .data], laidTests := true, laidLooks := .later }
def CastKnowsUptoCardSaid : Prop := Claim7.holds Tryd.pinned (.plain (OpenSpec.upto castKnowsSpec)) castKnowsUptoCard

/-- THE SECOND FORM's CARD OF 'sealringlaw15.CastOwns'. -/
def castOwnsUptoCard : Claim7 := { stood := { row := castOwnsUptoRow, standIns := [], harness := (true, "ddfa80e622356891cfaa92f7e21dfae6526b01f3c5ea2d43995c8dc05215f596"), looks := false }, kinds := [], alts := [], laidByText := true, laidKinds := [.data, .data, .data], laidTests := true, laidLooks := .later }
def CastOwnsUptoCardSaid : Prop := Claim7.holds Tryd.pinned (.plain (OpenSpec.upto castOwnsSpec)) castOwnsUptoCard

/-- THE SECOND FORM's CARD OF 'sealringlaw15.CastSecrets'. -/
def castSecretsUptoCard : Claim7 := { stood := { row := castSecretsUptoRow, standIns := [], harness := (true, "ddfa80e622356891cfaa92f7e21dfae6526b01f3c5ea2d43995c8dc05215f596"), looks := false }, kinds := [], alts := [], laidByText := true, laidKinds := [.data, .data, .data], laidTests := true, laidLooks := .later }
def CastSecretsUptoCardSaid : Prop := Claim7.holds Tryd.pinned (.plain (OpenSpec.upto castSecretsSpec)) castSecretsUptoCard

/-- THE SECOND FORM's CARD OF 'sealringlaw15.CastReveals'. -/
def castRevealsUptoCard : Claim7 := { stood := { row := castRevealsUptoRow, standIns := [], harness := (true, "ddfa80e622356891cfaa92f7e21dfae6526b01f3c5ea2d43995c8dc05215f596"), looks := false }, kinds := [], alts := [], laidByText := true, laidKinds := [.data, .data, .data], laidTests := true, laidLooks := .later }
def CastRevealsUptoCardSaid : Prop := Claim7.holds Tryd.pinned (.plain (OpenSpec.upto castRevealsSpec)) castRevealsUptoCard
end Rows
end Go.Proofs.YtpjmdilpldaapaaDoor
