/-
  NARROWER THAN 'FOR EVERY INPUT', by the rows' own cells (each row's printed sentence says how): TermSizes: loops, laid · TermCompare: loops, laid · TermPositions: loops, laid · TermSubterms: loops, laid · TermReplace: loops, laid · TermApart: loops, laid · TermValid: loops, laid · TermParse: laid.
  DERIVED. THE GIVEN ROWS OF THIS SEAT. 8 by the template 'for every input the law returns true; each argument reads behind the call as it read before'; 0 by the template 'total and deterministic' (their statements: YtbgkabgbgbebaaaDoorTotals.lean).
  GIVEN WITH THE SEED: the statements are not yours to turn. If you find one false, say at which input.
  Laid BY PROGRAM, IN A SANDBOX (cutbox-rows.mjs): the forced cells as the released guide's own fill.sh prints them over the translation 62f1a2e8e243b95b… (all of the seat's roots in one cut). By AI agents, Wed Nov 11 2026. No macro, syntax, notation, axiom, sorry.
-/
import Derived.Test.YtbgkabgbgbebaaaDoorChecked
import GoSem.Claim
import GoSem.ClaimJoined
import GoSem.ClaimMapViews
import Derived.JoinedTies
import Derived.KernelRfl
namespace Go.Proofs.YtbgkabgbgbebaaaDoor
/- THE CELL 'sum', in the pinned program and in every row, IS THE sha256 OF THE DUMP (.gsa) THAT YtbgkabgbgbebaaaDoorProg.lean LOADS. Nothing in Lean hashes anything: it is a label: what it is worth is what the hold of that sum in a sandbox is worth. -/
noncomputable def Tryd.pinned : Pinned := { name := "ytbgkabgbgbebaaadoor", sum := "62f1a2e8e243b95b1d0cdde548ec608c405c002e34c79495838a098691408bce", checked := Tryd.checked }
namespace Rows
def none {H : Type} : Left H := { results := [], args := [] }

/- WHAT THE LISTED PACKAGE-LEVEL VARIABLES READ AS WHEN THE CALL BEGINS. Each datum BY PROGRAM (the guide's laid-datum.mjs) off the statement by which the dump's own 'gosem.cut.vars' lays the variable. In a bare row this is a premise. The card (YtbgkabgbgbebaaaDoorCards.lean) ties it to the program's text. -/
def laid_sealring_term_words {H : Type} : DataW H := .slice [.lit (.string [97, 110, 121]), .lit (.string [97, 103, 101, 110, 116]), .lit (.string [110, 111, 110, 99, 101]), .lit (.string [107, 101, 121]), .lit (.string [100, 97, 116, 97]), .lit (.string [116, 97, 103])] []

/-- 'sealringlaw01.TermSizes': WHATEVER THE INPUT: true; the input reads as it did. -/
def termSizesSpec : ChangeSpec := { name := "termSizes", fn := fun _ => fun
  | [d] => { results := [.lit (.bool true)], args := [d] }
  | _ => none }
def termSizesRow : OpenClaim := { program := "ytbgkabgbgbebaaadoor", sum := "62f1a2e8e243b95b1d0cdde548ec608c405c002e34c79495838a098691408bce", func := "sealring/sealringlaw01.TermSizes", spec := "termSizes", inPlace := ["internal/bytealg.abigen_runtime_cmpstring"], unfollowed := true, recurses := true, named := ["sealring/term.words"], loops := true, apart := false, laid := [("sealring/term.words", laid_sealring_term_words)] }
def TermSizesSaid : Prop := termSizesRow.holds Tryd.pinned (OpenSpec.ofChange termSizesSpec)

/-- ITS FALSE NEIGHBOUR: 'it returns false'. Refute it at one input. -/
def termSizesWrong : ChangeSpec := { name := "termSizes", fn := fun _ => fun
  | [d] => { results := [.lit (.bool false)], args := [d] }
  | _ => none }
def TermSizesWrongFalsely : Prop := termSizesRow.holds Tryd.pinned (OpenSpec.ofChange termSizesWrong)

/-- 'sealringlaw01.TermCompare': WHATEVER THE INPUT: true; the input reads as it did. -/
def termCompareSpec : ChangeSpec := { name := "termCompare", fn := fun _ => fun
  | [d1, d2, d3] => { results := [.lit (.bool true)], args := [d1, d2, d3] }
  | _ => none }
def termCompareRow : OpenClaim := { program := "ytbgkabgbgbebaaadoor", sum := "62f1a2e8e243b95b1d0cdde548ec608c405c002e34c79495838a098691408bce", func := "sealring/sealringlaw01.TermCompare", spec := "termCompare", inPlace := ["internal/bytealg.abigen_runtime_cmpstring"], unfollowed := true, recurses := true, named := ["sealring/term.words"], loops := true, apart := false, laid := [("sealring/term.words", laid_sealring_term_words)] }
def TermCompareSaid : Prop := termCompareRow.holds Tryd.pinned (OpenSpec.ofChange termCompareSpec)

/-- ITS FALSE NEIGHBOUR: 'it returns false'. Refute it at one input. -/
def termCompareWrong : ChangeSpec := { name := "termCompare", fn := fun _ => fun
  | [d1, d2, d3] => { results := [.lit (.bool false)], args := [d1, d2, d3] }
  | _ => none }
def TermCompareWrongFalsely : Prop := termCompareRow.holds Tryd.pinned (OpenSpec.ofChange termCompareWrong)

/-- 'sealringlaw01.TermPositions': WHATEVER THE INPUT: true; the input reads as it did. -/
def termPositionsSpec : ChangeSpec := { name := "termPositions", fn := fun _ => fun
  | [d] => { results := [.lit (.bool true)], args := [d] }
  | _ => none }
def termPositionsRow : OpenClaim := { program := "ytbgkabgbgbebaaadoor", sum := "62f1a2e8e243b95b1d0cdde548ec608c405c002e34c79495838a098691408bce", func := "sealring/sealringlaw01.TermPositions", spec := "termPositions", inPlace := ["internal/bytealg.abigen_runtime_cmpstring"], unfollowed := true, recurses := true, named := ["sealring/term.words"], loops := true, apart := false, laid := [("sealring/term.words", laid_sealring_term_words)] }
def TermPositionsSaid : Prop := termPositionsRow.holds Tryd.pinned (OpenSpec.ofChange termPositionsSpec)

/-- ITS FALSE NEIGHBOUR: 'it returns false'. Refute it at one input. -/
def termPositionsWrong : ChangeSpec := { name := "termPositions", fn := fun _ => fun
  | [d] => { results := [.lit (.bool false)], args := [d] }
  | _ => none }
def TermPositionsWrongFalsely : Prop := termPositionsRow.holds Tryd.pinned (OpenSpec.ofChange termPositionsWrong)

/-- 'sealringlaw01.TermSubterms': WHATEVER THE INPUT: true; the input reads as it did. -/
def termSubtermsSpec : ChangeSpec := { name := "termSubterms", fn := fun _ => fun
  | [d] => { results := [.lit (.bool true)], args := [d] }
  | _ => none }
def termSubtermsRow : OpenClaim := { program := "ytbgkabgbgbebaaadoor", sum := "62f1a2e8e243b95b1d0cdde548ec608c405c002e34c79495838a098691408bce", func := "sealring/sealringlaw01.TermSubterms", spec := "termSubterms", inPlace := ["internal/bytealg.abigen_runtime_cmpstring"], unfollowed := true, recurses := true, named := ["sealring/term.words"], loops := true, apart := false, laid := [("sealring/term.words", laid_sealring_term_words)] }
def TermSubtermsSaid : Prop := termSubtermsRow.holds Tryd.pinned (OpenSpec.ofChange termSubtermsSpec)

/-- ITS FALSE NEIGHBOUR: 'it returns false'. Refute it at one input. -/
def termSubtermsWrong : ChangeSpec := { name := "termSubterms", fn := fun _ => fun
  | [d] => { results := [.lit (.bool false)], args := [d] }
  | _ => none }
def TermSubtermsWrongFalsely : Prop := termSubtermsRow.holds Tryd.pinned (OpenSpec.ofChange termSubtermsWrong)

/-- 'sealringlaw01.TermReplace': WHATEVER THE INPUT: true; the input reads as it did. -/
def termReplaceSpec : ChangeSpec := { name := "termReplace", fn := fun _ => fun
  | [d1, d2, d3] => { results := [.lit (.bool true)], args := [d1, d2, d3] }
  | _ => none }
def termReplaceRow : OpenClaim := { program := "ytbgkabgbgbebaaadoor", sum := "62f1a2e8e243b95b1d0cdde548ec608c405c002e34c79495838a098691408bce", func := "sealring/sealringlaw01.TermReplace", spec := "termReplace", inPlace := ["internal/bytealg.abigen_runtime_cmpstring"], unfollowed := true, recurses := true, named := ["sealring/term.words"], loops := true, apart := false, laid := [("sealring/term.words", laid_sealring_term_words)] }
def TermReplaceSaid : Prop := termReplaceRow.holds Tryd.pinned (OpenSpec.ofChange termReplaceSpec)

/-- ITS FALSE NEIGHBOUR: 'it returns false'. Refute it at one input. -/
def termReplaceWrong : ChangeSpec := { name := "termReplace", fn := fun _ => fun
  | [d1, d2, d3] => { results := [.lit (.bool false)], args := [d1, d2, d3] }
  | _ => none }
def TermReplaceWrongFalsely : Prop := termReplaceRow.holds Tryd.pinned (OpenSpec.ofChange termReplaceWrong)

/-- 'sealringlaw01.TermApart': WHATEVER THE INPUT: true; the input reads as it did. -/
def termApartSpec : ChangeSpec := { name := "termApart", fn := fun _ => fun
  | [d1, d2] => { results := [.lit (.bool true)], args := [d1, d2] }
  | _ => none }
def termApartRow : OpenClaim := { program := "ytbgkabgbgbebaaadoor", sum := "62f1a2e8e243b95b1d0cdde548ec608c405c002e34c79495838a098691408bce", func := "sealring/sealringlaw01.TermApart", spec := "termApart", inPlace := ["internal/bytealg.abigen_runtime_cmpstring"], unfollowed := true, recurses := true, named := ["sealring/term.words"], loops := true, apart := false, laid := [("sealring/term.words", laid_sealring_term_words)] }
def TermApartSaid : Prop := termApartRow.holds Tryd.pinned (OpenSpec.ofChange termApartSpec)

/-- ITS FALSE NEIGHBOUR: 'it returns false'. Refute it at one input. -/
def termApartWrong : ChangeSpec := { name := "termApart", fn := fun _ => fun
  | [d1, d2] => { results := [.lit (.bool false)], args := [d1, d2] }
  | _ => none }
def TermApartWrongFalsely : Prop := termApartRow.holds Tryd.pinned (OpenSpec.ofChange termApartWrong)

/-- 'sealringlaw01.TermValid': WHATEVER THE INPUT: true; the input reads as it did. -/
def termValidSpec : ChangeSpec := { name := "termValid", fn := fun _ => fun
  | [d] => { results := [.lit (.bool true)], args := [d] }
  | _ => none }
def termValidRow : OpenClaim := { program := "ytbgkabgbgbebaaadoor", sum := "62f1a2e8e243b95b1d0cdde548ec608c405c002e34c79495838a098691408bce", func := "sealring/sealringlaw01.TermValid", spec := "termValid", inPlace := ["internal/bytealg.abigen_runtime_cmpstring", "internal/abi.NoEscape"], unfollowed := true, recurses := true, named := ["sealring/term.words"], loops := true, apart := false, laid := [("sealring/term.words", laid_sealring_term_words)] }
def TermValidSaid : Prop := termValidRow.holds Tryd.pinned (OpenSpec.ofChange termValidSpec)

/-- ITS FALSE NEIGHBOUR: 'it returns false'. Refute it at one input. -/
def termValidWrong : ChangeSpec := { name := "termValid", fn := fun _ => fun
  | [d] => { results := [.lit (.bool false)], args := [d] }
  | _ => none }
def TermValidWrongFalsely : Prop := termValidRow.holds Tryd.pinned (OpenSpec.ofChange termValidWrong)

/-- 'sealringlaw01.TermParse': WHATEVER THE INPUT: true; the input reads as it did. -/
def termParseSpec : ChangeSpec := { name := "termParse", fn := fun _ => fun
  | [d] => { results := [.lit (.bool true)], args := [d] }
  | _ => none }
def termParseRow : OpenClaim := { program := "ytbgkabgbgbebaaadoor", sum := "62f1a2e8e243b95b1d0cdde548ec608c405c002e34c79495838a098691408bce", func := "sealring/sealringlaw01.TermParse", spec := "termParse", inPlace := ["internal/bytealg.abigen_runtime_cmpstring", "internal/abi.NoEscape"], unfollowed := true, recurses := true, named := ["sealring/term.words"], apart := false, laid := [("sealring/term.words", laid_sealring_term_words)] }
def TermParseSaid : Prop := termParseRow.holds Tryd.pinned (OpenSpec.ofChange termParseSpec)

/-- ITS FALSE NEIGHBOUR: 'it returns false'. Refute it at one input. -/
def termParseWrong : ChangeSpec := { name := "termParse", fn := fun _ => fun
  | [d] => { results := [.lit (.bool false)], args := [d] }
  | _ => none }
def TermParseWrongFalsely : Prop := termParseRow.holds Tryd.pinned (OpenSpec.ofChange termParseWrong)

/- THE SECOND FORM. 'bulk': how many values and letters a reading holds, each counted each time it is reached (what is shared counts as often as it is met; a slice's spare places count too). A statement '..UptoSaid' is the law's where the arguments, and the package variables that the reading takes, are together of bulk at most 1048576: NARROWER than '..Said'. Prove '..Said' where nothing that the law and all that it calls make is longer than what came in: it says more and counts as full. Else prove '..UptoSaid'. A law counts once. -/
mutual
def uptoBulk {H : Type} : DataW H → Nat
  | .lit (.string bytes) => bytes.length + 1
  | .lit _ => 1
  | .nil => 1
  | .ptr d => uptoBulk d + 1
  | .slice elems spare => uptoBulkAll elems + uptoBulkAll spare + 1
  | .agg parts => uptoBulkAll parts + 1
  | .iface _ d => uptoBulk d + 1
  | .map entries => uptoBulkEntries entries + 1
  | .held _ => 1
def uptoBulkAll {H : Type} : List (DataW H) → Nat
  | [] => 0
  | d :: r => uptoBulk d + uptoBulkAll r
def uptoBulkEntries {H : Type} : List (Lit × DataW H) → Nat
  | [] => 0
  | x :: r => uptoBulkEntry x + uptoBulkEntries r
def uptoBulkEntry {H : Type} : Lit × DataW H → Nat
  | (.string bytes, d) => bytes.length + uptoBulk d + 1
  | (_, d) => uptoBulk d + 1
 end
def uptoSmall : (H : Type) → List (DataW H) → Bool := fun _ ds => decide (uptoBulkAll ds ≤ 1048576)
def OpenSpec.upto (s : _root_.Go.ChangeSpec) : _root_.Go.OpenSpec := { _root_.Go.OpenSpec.ofChange s with cond := some uptoSmall }

/-- 'sealringlaw01.TermSizes', WHERE WHAT IT READS IS OF BULK AT MOST 1048576: true; the input reads as it did. -/
def termSizesUptoRow : OpenClaim := { program := "ytbgkabgbgbebaaadoor", sum := "62f1a2e8e243b95b1d0cdde548ec608c405c002e34c79495838a098691408bce", func := "sealring/sealringlaw01.TermSizes", spec := "termSizes", inPlace := ["internal/bytealg.abigen_runtime_cmpstring"], unfollowed := true, recurses := true, named := ["sealring/term.words"], loops := true, apart := false, laid := [("sealring/term.words", laid_sealring_term_words)], narrowed := true }
def TermSizesUptoSaid : Prop := termSizesUptoRow.holds Tryd.pinned (OpenSpec.upto termSizesSpec)

/-- 'sealringlaw01.TermCompare', WHERE WHAT IT READS IS OF BULK AT MOST 1048576: true; the input reads as it did. -/
def termCompareUptoRow : OpenClaim := { program := "ytbgkabgbgbebaaadoor", sum := "62f1a2e8e243b95b1d0cdde548ec608c405c002e34c79495838a098691408bce", func := "sealring/sealringlaw01.TermCompare", spec := "termCompare", inPlace := ["internal/bytealg.abigen_runtime_cmpstring"], unfollowed := true, recurses := true, named := ["sealring/term.words"], loops := true, apart := false, laid := [("sealring/term.words", laid_sealring_term_words)], narrowed := true }
def TermCompareUptoSaid : Prop := termCompareUptoRow.holds Tryd.pinned (OpenSpec.upto termCompareSpec)

/-- 'sealringlaw01.TermPositions', WHERE WHAT IT READS IS OF BULK AT MOST 1048576: true; the input reads as it did. -/
def termPositionsUptoRow : OpenClaim := { program := "ytbgkabgbgbebaaadoor", sum := "62f1a2e8e243b95b1d0cdde548ec608c405c002e34c79495838a098691408bce", func := "sealring/sealringlaw01.TermPositions", spec := "termPositions", inPlace := ["internal/bytealg.abigen_runtime_cmpstring"], unfollowed := true, recurses := true, named := ["sealring/term.words"], loops := true, apart := false, laid := [("sealring/term.words", laid_sealring_term_words)], narrowed := true }
def TermPositionsUptoSaid : Prop := termPositionsUptoRow.holds Tryd.pinned (OpenSpec.upto termPositionsSpec)

/-- 'sealringlaw01.TermSubterms', WHERE WHAT IT READS IS OF BULK AT MOST 1048576: true; the input reads as it did. -/
def termSubtermsUptoRow : OpenClaim := { program := "ytbgkabgbgbebaaadoor", sum := "62f1a2e8e243b95b1d0cdde548ec608c405c002e34c79495838a098691408bce", func := "sealring/sealringlaw01.TermSubterms", spec := "termSubterms", inPlace := ["internal/bytealg.abigen_runtime_cmpstring"], unfollowed := true, recurses := true, named := ["sealring/term.words"], loops := true, apart := false, laid := [("sealring/term.words", laid_sealring_term_words)], narrowed := true }
def TermSubtermsUptoSaid : Prop := termSubtermsUptoRow.holds Tryd.pinned (OpenSpec.upto termSubtermsSpec)

/-- 'sealringlaw01.TermReplace', WHERE WHAT IT READS IS OF BULK AT MOST 1048576: true; the input reads as it did. -/
def termReplaceUptoRow : OpenClaim := { program := "ytbgkabgbgbebaaadoor", sum := "62f1a2e8e243b95b1d0cdde548ec608c405c002e34c79495838a098691408bce", func := "sealring/sealringlaw01.TermReplace", spec := "termReplace", inPlace := ["internal/bytealg.abigen_runtime_cmpstring"], unfollowed := true, recurses := true, named := ["sealring/term.words"], loops := true, apart := false, laid := [("sealring/term.words", laid_sealring_term_words)], narrowed := true }
def TermReplaceUptoSaid : Prop := termReplaceUptoRow.holds Tryd.pinned (OpenSpec.upto termReplaceSpec)

/-- 'sealringlaw01.TermApart', WHERE WHAT IT READS IS OF BULK AT MOST 1048576: true; the input reads as it did. -/
def termApartUptoRow : OpenClaim := { program := "ytbgkabgbgbebaaadoor", sum := "62f1a2e8e243b95b1d0cdde548ec608c405c002e34c79495838a098691408bce", func := "sealring/sealringlaw01.TermApart", spec := "termApart", inPlace := ["internal/bytealg.abigen_runtime_cmpstring"], unfollowed := true, recurses := true, named := ["sealring/term.words"], loops := true, apart := false, laid := [("sealring/term.words", laid_sealring_term_words)], narrowed := true }
def TermApartUptoSaid : Prop := termApartUptoRow.holds Tryd.pinned (OpenSpec.upto termApartSpec)

/-- 'sealringlaw01.TermValid', WHERE WHAT IT READS IS OF BULK AT MOST 1048576: true; the input reads as it did. -/
def termValidUptoRow : OpenClaim := { program := "ytbgkabgbgbebaaadoor", sum := "62f1a2e8e243b95b1d0cdde548ec608c405c002e34c79495838a098691408bce", func := "sealring/sealringlaw01.TermValid", spec := "termValid", inPlace := ["internal/bytealg.abigen_runtime_cmpstring", "internal/abi.NoEscape"], unfollowed := true, recurses := true, named := ["sealring/term.words"], loops := true, apart := false, laid := [("sealring/term.words", laid_sealring_term_words)], narrowed := true }
def TermValidUptoSaid : Prop := termValidUptoRow.holds Tryd.pinned (OpenSpec.upto termValidSpec)

/-- 'sealringlaw01.TermParse', WHERE WHAT IT READS IS OF BULK AT MOST 1048576: true; the input reads as it did. -/
def termParseUptoRow : OpenClaim := { program := "ytbgkabgbgbebaaadoor", sum := "62f1a2e8e243b95b1d0cdde548ec608c405c002e34c79495838a098691408bce", func := "sealring/sealringlaw01.TermParse", spec := "termParse", inPlace := ["internal/bytealg.abigen_runtime_cmpstring", "internal/abi.NoEscape"], unfollowed := true, recurses := true, named := ["sealring/term.words"], apart := false, laid := [("sealring/term.words", laid_sealring_term_words)], narrowed := true }
def TermParseUptoSaid : Prop := termParseUptoRow.holds Tryd.pinned (OpenSpec.upto termParseSpec)

end Rows
end Go.Proofs.YtbgkabgbgbebaaaDoor
