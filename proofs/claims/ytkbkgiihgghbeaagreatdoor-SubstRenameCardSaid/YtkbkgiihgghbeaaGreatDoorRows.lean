/-
  NARROWER THAN 'FOR EVERY INPUT', by the rows' own cells (each row's printed sentence says how): SubstRename: loops, laid · SubstText: loops, laid · SubstParse: laid.
  DERIVED. THE GIVEN ROWS OF THIS SEAT. 3 by the template 'for every input the law returns true; each argument reads behind the call as it read before'; 0 by the template 'total and deterministic' (their statements: YtkbkgiihgghbeaaGreatDoorTotals.lean).
  GIVEN WITH THE SEED: the statements are not yours to turn. If you find one false, say at which input.
  Laid BY PROGRAM, IN A SANDBOX (cutbox-rows.mjs): the forced cells as the released guide's own fill.sh prints them over the translation edc08cc73c8d083b… (all of the seat's roots in one cut). By AI agents, Wed Nov 11 2026. No macro, syntax, notation, axiom, sorry.
-/
import Derived.Test.YtkbkgiihgghbeaaGreatDoorChecked
import GoSem.Claim
import GoSem.ClaimJoined
import GoSem.ClaimMapViews
import Derived.JoinedTies
import Derived.KernelRfl
namespace Go.Proofs.YtkbkgiihgghbeaaGreatDoor
/- THE CELL 'sum', in the pinned program and in every row, IS THE sha256 OF THE DUMP (.gsa) THAT YtkbkgiihgghbeaaGreatDoorProg.lean LOADS. Nothing in Lean hashes anything: it is a label: what it is worth is what the hold of that sum in a sandbox is worth. -/
noncomputable def Tryz.pinned : Pinned := { name := "ytkbkgiihgghbeaagreatdoor", sum := "edc08cc73c8d083beb9e3c3252be48f79fa77c14c5e69bd1d1c763876f644988", checked := Tryz.checked }
namespace Rows
def none {H : Type} : Left H := { results := [], args := [] }

/- WHAT THE LISTED PACKAGE-LEVEL VARIABLES READ AS WHEN THE CALL BEGINS. Each datum BY PROGRAM (the guide's laid-datum.mjs) off the statement by which the dump's own 'gosem.cut.vars' lays the variable. In a bare row this is a premise. The card (YtkbkgiihgghbeaaGreatDoorCards.lean) ties it to the program's text. -/
def laid_sealring_term_words {H : Type} : DataW H := .slice [.lit (.string [97, 110, 121]), .lit (.string [97, 103, 101, 110, 116]), .lit (.string [110, 111, 110, 99, 101]), .lit (.string [107, 101, 121]), .lit (.string [100, 97, 116, 97]), .lit (.string [116, 97, 103])] []

/-- 'sealringlaw02.SubstRename': WHATEVER THE INPUT: true; the input reads as it did. -/
def substRenameSpec : ChangeSpec := { name := "substRename", fn := fun _ => fun
  | [d1, d2] => { results := [.lit (.bool true)], args := [d1, d2] }
  | _ => none }
def substRenameRow : OpenClaim := { program := "ytkbkgiihgghbeaagreatdoor", sum := "edc08cc73c8d083beb9e3c3252be48f79fa77c14c5e69bd1d1c763876f644988", func := "sealring/sealringlaw02.SubstRename", spec := "substRename", inPlace := ["internal/bytealg.abigen_runtime_cmpstring", "internal/abi.NoEscape", "internal/bytealg.MakeNoZero"], unfollowed := true, recurses := true, named := ["sealring/term.words"], loops := true, apart := false, laid := [("sealring/term.words", laid_sealring_term_words)] }
def SubstRenameSaid : Prop := substRenameRow.holds Tryz.pinned (OpenSpec.ofChange substRenameSpec)

/-- ITS FALSE NEIGHBOUR: 'it returns false'. Refute it at one input. -/
def substRenameWrong : ChangeSpec := { name := "substRename", fn := fun _ => fun
  | [d1, d2] => { results := [.lit (.bool false)], args := [d1, d2] }
  | _ => none }
def SubstRenameWrongFalsely : Prop := substRenameRow.holds Tryz.pinned (OpenSpec.ofChange substRenameWrong)

/-- 'sealringlaw02.SubstText': WHATEVER THE INPUT: true; the input reads as it did. -/
def substTextSpec : ChangeSpec := { name := "substText", fn := fun _ => fun
  | [d] => { results := [.lit (.bool true)], args := [d] }
  | _ => none }
def substTextRow : OpenClaim := { program := "ytkbkgiihgghbeaagreatdoor", sum := "edc08cc73c8d083beb9e3c3252be48f79fa77c14c5e69bd1d1c763876f644988", func := "sealring/sealringlaw02.SubstText", spec := "substText", inPlace := ["internal/bytealg.abigen_runtime_cmpstring", "internal/abi.NoEscape", "internal/bytealg.MakeNoZero", "internal/bytealg.IndexByteString", "internal/bytealg.IndexString"], unfollowed := true, recurses := true, named := ["sealring/term.words", "internal/bytealg.MaxLen"], loops := true, apart := false, laid := [("sealring/term.words", laid_sealring_term_words)] }
def SubstTextSaid : Prop := substTextRow.holds Tryz.pinned (OpenSpec.ofChange substTextSpec)

/-- ITS FALSE NEIGHBOUR: 'it returns false'. Refute it at one input. -/
def substTextWrong : ChangeSpec := { name := "substText", fn := fun _ => fun
  | [d] => { results := [.lit (.bool false)], args := [d] }
  | _ => none }
def SubstTextWrongFalsely : Prop := substTextRow.holds Tryz.pinned (OpenSpec.ofChange substTextWrong)

/-- 'sealringlaw02.SubstParse': WHATEVER THE INPUT: true; the input reads as it did. -/
def substParseSpec : ChangeSpec := { name := "substParse", fn := fun _ => fun
  | [d] => { results := [.lit (.bool true)], args := [d] }
  | _ => none }
def substParseRow : OpenClaim := { program := "ytkbkgiihgghbeaagreatdoor", sum := "edc08cc73c8d083beb9e3c3252be48f79fa77c14c5e69bd1d1c763876f644988", func := "sealring/sealringlaw02.SubstParse", spec := "substParse", inPlace := ["internal/bytealg.abigen_runtime_cmpstring", "internal/abi.NoEscape", "internal/bytealg.MakeNoZero", "internal/bytealg.IndexByteString", "internal/bytealg.IndexString"], unfollowed := true, recurses := true, named := ["sealring/term.words", "internal/bytealg.MaxLen"], apart := false, laid := [("sealring/term.words", laid_sealring_term_words)] }
def SubstParseSaid : Prop := substParseRow.holds Tryz.pinned (OpenSpec.ofChange substParseSpec)

/-- ITS FALSE NEIGHBOUR: 'it returns false'. Refute it at one input. -/
def substParseWrong : ChangeSpec := { name := "substParse", fn := fun _ => fun
  | [d] => { results := [.lit (.bool false)], args := [d] }
  | _ => none }
def SubstParseWrongFalsely : Prop := substParseRow.holds Tryz.pinned (OpenSpec.ofChange substParseWrong)

/- THE SECOND FORM. 'bulk': how many values and letters a reading holds, each counted each time it is reached (what is shared counts as often as it is met; a slice's spare places count too). A statement '..UptoSaid' is the law's where the arguments, and the package variables that the reading takes, are together of bulk at most 1048576: NARROWER than '..Said'. Prove '..Said' where nothing that the law and all that it calls make is longer than what came in: it says more and counts as full. Else prove '..UptoSaid'. A law counts once. -/
mutual
def uptoBulk {H : Type} : DataW H → Nat
  | .lit (.string bytes) => bytes.length + 1
  | .lit _ => 1
  | .nil => 1
  | .ptr d => uptoBulk d + 1
  | .slice elems spare => uptoBulkAll elems + uptoBulkAll spare + 1
  | .agg parts => uptoBulkAll parts + 1
  | .iface _ d => uptoBulk d + 1
  | .map entries => uptoBulkEntries entries + 1
  | .held _ => 1
def uptoBulkAll {H : Type} : List (DataW H) → Nat
  | [] => 0
  | d :: r => uptoBulk d + uptoBulkAll r
def uptoBulkEntries {H : Type} : List (Lit × DataW H) → Nat
  | [] => 0
  | x :: r => uptoBulkEntry x + uptoBulkEntries r
def uptoBulkEntry {H : Type} : Lit × DataW H → Nat
  | (.string bytes, d) => bytes.length + uptoBulk d + 1
  | (_, d) => uptoBulk d + 1
 end
def uptoSmall : (H : Type) → List (DataW H) → Bool := fun _ ds => decide (uptoBulkAll ds ≤ 1048576)
def OpenSpec.upto (s : _root_.Go.ChangeSpec) : _root_.Go.OpenSpec := { _root_.Go.OpenSpec.ofChange s with cond := some uptoSmall }

/-- 'sealringlaw02.SubstRename', WHERE WHAT IT READS IS OF BULK AT MOST 1048576: true; the input reads as it did. -/
def substRenameUptoRow : OpenClaim := { program := "ytkbkgiihgghbeaagreatdoor", sum := "edc08cc73c8d083beb9e3c3252be48f79fa77c14c5e69bd1d1c763876f644988", func := "sealring/sealringlaw02.SubstRename", spec := "substRename", inPlace := ["internal/bytealg.abigen_runtime_cmpstring", "internal/abi.NoEscape", "internal/bytealg.MakeNoZero"], unfollowed := true, recurses := true, named := ["sealring/term.words"], loops := true, apart := false, laid := [("sealring/term.words", laid_sealring_term_words)], narrowed := true }
def SubstRenameUptoSaid : Prop := substRenameUptoRow.holds Tryz.pinned (OpenSpec.upto substRenameSpec)

/-- 'sealringlaw02.SubstText', WHERE WHAT IT READS IS OF BULK AT MOST 1048576: true; the input reads as it did. -/
def substTextUptoRow : OpenClaim := { program := "ytkbkgiihgghbeaagreatdoor", sum := "edc08cc73c8d083beb9e3c3252be48f79fa77c14c5e69bd1d1c763876f644988", func := "sealring/sealringlaw02.SubstText", spec := "substText", inPlace := ["internal/bytealg.abigen_runtime_cmpstring", "internal/abi.NoEscape", "internal/bytealg.MakeNoZero", "internal/bytealg.IndexByteString", "internal/bytealg.IndexString"], unfollowed := true, recurses := true, named := ["sealring/term.words", "internal/bytealg.MaxLen"], loops := true, apart := false, laid := [("sealring/term.words", laid_sealring_term_words)], narrowed := true }
def SubstTextUptoSaid : Prop := substTextUptoRow.holds Tryz.pinned (OpenSpec.upto substTextSpec)

/-- 'sealringlaw02.SubstParse', WHERE WHAT IT READS IS OF BULK AT MOST 1048576: true; the input reads as it did. -/
def substParseUptoRow : OpenClaim := { program := "ytkbkgiihgghbeaagreatdoor", sum := "edc08cc73c8d083beb9e3c3252be48f79fa77c14c5e69bd1d1c763876f644988", func := "sealring/sealringlaw02.SubstParse", spec := "substParse", inPlace := ["internal/bytealg.abigen_runtime_cmpstring", "internal/abi.NoEscape", "internal/bytealg.MakeNoZero", "internal/bytealg.IndexByteString", "internal/bytealg.IndexString"], unfollowed := true, recurses := true, named := ["sealring/term.words", "internal/bytealg.MaxLen"], apart := false, laid := [("sealring/term.words", laid_sealring_term_words)], narrowed := true }
def SubstParseUptoSaid : Prop := substParseUptoRow.holds Tryz.pinned (OpenSpec.upto substParseSpec)

end Rows
end Go.Proofs.YtkbkgiihgghbeaaGreatDoor
