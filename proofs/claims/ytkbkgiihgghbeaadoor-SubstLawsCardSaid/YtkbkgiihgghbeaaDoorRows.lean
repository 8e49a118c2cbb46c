/-
  NARROWER THAN 'FOR EVERY INPUT', by the rows' own cells (each row's printed sentence says how): SubstValid: loops, laid · SubstFits: loops, laid · SubstCompose: loops, laid · SubstLaws: laid · SubstApply: loops, laid · SubstAgain: loops, laid.
  DERIVED. THE GIVEN ROWS OF THIS SEAT. 6 by the template 'for every input the law returns true; each argument reads behind the call as it read before'; 0 by the template 'total and deterministic' (their statements: YtkbkgiihgghbeaaDoorTotals.lean).
  GIVEN WITH THE SEED: the statements are not yours to turn. If you find one false, say at which input.
  Laid BY PROGRAM, IN A SANDBOX (cutbox-rows.mjs): the forced cells as the released guide's own fill.sh prints them over the translation eb325d10ddaa3675… (all of the seat's roots in one cut). By AI agents, Wed Nov 11 2026. No macro, syntax, notation, axiom, sorry.
-/
import Derived.Test.YtkbkgiihgghbeaaDoorChecked
import GoSem.Claim
import GoSem.ClaimJoined
import GoSem.ClaimMapViews
import Derived.JoinedTies
import Derived.KernelRfl
namespace Go.Proofs.YtkbkgiihgghbeaaDoor
/- THE CELL 'sum', in the pinned program and in every row, IS THE sha256 OF THE DUMP (.gsa) THAT YtkbkgiihgghbeaaDoorProg.lean LOADS. Nothing in Lean hashes anything: it is a label: what it is worth is what the hold of that sum in a sandbox is worth. -/
noncomputable def Tryd.pinned : Pinned := { name := "ytkbkgiihgghbeaadoor", sum := "eb325d10ddaa367568e3ff229cd59ddca5593eacb227493410ec6633ecaadf1f", checked := Tryd.checked }
namespace Rows
def none {H : Type} : Left H := { results := [], args := [] }

/- WHAT THE LISTED PACKAGE-LEVEL VARIABLES READ AS WHEN THE CALL BEGINS. Each datum BY PROGRAM (the guide's laid-datum.mjs) off the statement by which the dump's own 'gosem.cut.vars' lays the variable. In a bare row this is a premise. The card (YtkbkgiihgghbeaaDoorCards.lean) ties it to the program's text. -/
def laid_sealring_term_words {H : Type} : DataW H := .slice [.lit (.string [97, 110, 121]), .lit (.string [97, 103, 101, 110, 116]), .lit (.string [110, 111, 110, 99, 101]), .lit (.string [107, 101, 121]), .lit (.string [100, 97, 116, 97]), .lit (.string [116, 97, 103])] []

/-- 'sealringlaw02.SubstValid': WHATEVER THE INPUT: true; the input reads as it did. -/
def substValidSpec : ChangeSpec := { name := "substValid", fn := fun _ => fun
  | [d] => { results := [.lit (.bool true)], args := [d] }
  | _ => none }
def substValidRow : OpenClaim := { program := "ytkbkgiihgghbeaadoor", sum := "eb325d10ddaa367568e3ff229cd59ddca5593eacb227493410ec6633ecaadf1f", func := "sealring/sealringlaw02.SubstValid", spec := "substValid", inPlace := ["internal/bytealg.abigen_runtime_cmpstring", "internal/abi.NoEscape", "internal/bytealg.MakeNoZero"], unfollowed := true, recurses := true, named := ["sealring/term.words"], loops := true, apart := false, laid := [("sealring/term.words", laid_sealring_term_words)] }
def SubstValidSaid : Prop := substValidRow.holds Tryd.pinned (OpenSpec.ofChange substValidSpec)

/-- ITS FALSE NEIGHBOUR: 'it returns false'. Refute it at one input. -/
def substValidWrong : ChangeSpec := { name := "substValid", fn := fun _ => fun
  | [d] => { results := [.lit (.bool false)], args := [d] }
  | _ => none }
def SubstValidWrongFalsely : Prop := substValidRow.holds Tryd.pinned (OpenSpec.ofChange substValidWrong)

/-- 'sealringlaw02.SubstFits': WHATEVER THE INPUT: true; the input reads as it did. -/
def substFitsSpec : ChangeSpec := { name := "substFits", fn := fun _ => fun
  | [d1, d2] => { results := [.lit (.bool true)], args := [d1, d2] }
  | _ => none }
def substFitsRow : OpenClaim := { program := "ytkbkgiihgghbeaadoor", sum := "eb325d10ddaa367568e3ff229cd59ddca5593eacb227493410ec6633ecaadf1f", func := "sealring/sealringlaw02.SubstFits", spec := "substFits", inPlace := ["internal/bytealg.abigen_runtime_cmpstring", "internal/abi.NoEscape", "internal/bytealg.MakeNoZero"], unfollowed := true, recurses := true, named := ["sealring/term.words"], loops := true, apart := false, laid := [("sealring/term.words", laid_sealring_term_words)] }
def SubstFitsSaid : Prop := substFitsRow.holds Tryd.pinned (OpenSpec.ofChange substFitsSpec)

/-- ITS FALSE NEIGHBOUR: 'it returns false'. Refute it at one input. -/
def substFitsWrong : ChangeSpec := { name := "substFits", fn := fun _ => fun
  | [d1, d2] => { results := [.lit (.bool false)], args := [d1, d2] }
  | _ => none }
def SubstFitsWrongFalsely : Prop := substFitsRow.holds Tryd.pinned (OpenSpec.ofChange substFitsWrong)

/-- 'sealringlaw02.SubstCompose': WHATEVER THE INPUT: true; the input reads as it did. -/
def substComposeSpec : ChangeSpec := { name := "substCompose", fn := fun _ => fun
  | [d1, d2] => { results := [.lit (.bool true)], args := [d1, d2] }
  | _ => none }
def substComposeRow : OpenClaim := { program := "ytkbkgiihgghbeaadoor", sum := "eb325d10ddaa367568e3ff229cd59ddca5593eacb227493410ec6633ecaadf1f", func := "sealring/sealringlaw02.SubstCompose", spec := "substCompose", inPlace := ["internal/bytealg.abigen_runtime_cmpstring", "internal/abi.NoEscape", "internal/bytealg.MakeNoZero"], unfollowed := true, recurses := true, named := ["sealring/term.words"], loops := true, apart := false, laid := [("sealring/term.words", laid_sealring_term_words)] }
def SubstComposeSaid : Prop := substComposeRow.holds Tryd.pinned (OpenSpec.ofChange substComposeSpec)

/-- ITS FALSE NEIGHBOUR: 'it returns false'. Refute it at one input. -/
def substComposeWrong : ChangeSpec := { name := "substCompose", fn := fun _ => fun
  | [d1, d2] => { results := [.lit (.bool false)], args := [d1, d2] }
  | _ => none }
def SubstComposeWrongFalsely : Prop := substComposeRow.holds Tryd.pinned (OpenSpec.ofChange substComposeWrong)

/-- 'sealringlaw02.SubstLaws': WHATEVER THE INPUT: true; the input reads as it did. -/
def substLawsSpec : ChangeSpec := { name := "substLaws", fn := fun _ => fun
  | [d1, d2, d3] => { results := [.lit (.bool true)], args := [d1, d2, d3] }
  | _ => none }
def substLawsRow : OpenClaim := { program := "ytkbkgiihgghbeaadoor", sum := "eb325d10ddaa367568e3ff229cd59ddca5593eacb227493410ec6633ecaadf1f", func := "sealring/sealringlaw02.SubstLaws", spec := "substLaws", inPlace := ["internal/bytealg.abigen_runtime_cmpstring", "internal/abi.NoEscape", "internal/bytealg.MakeNoZero"], unfollowed := true, recurses := true, named := ["sealring/term.words"], apart := false, laid := [("sealring/term.words", laid_sealring_term_words)] }
def SubstLawsSaid : Prop := substLawsRow.holds Tryd.pinned (OpenSpec.ofChange substLawsSpec)

/-- ITS FALSE NEIGHBOUR: 'it returns false'. Refute it at one input. -/
def substLawsWrong : ChangeSpec := { name := "substLaws", fn := fun _ => fun
  | [d1, d2, d3] => { results := [.lit (.bool false)], args := [d1, d2, d3] }
  | _ => none }
def SubstLawsWrongFalsely : Prop := substLawsRow.holds Tryd.pinned (OpenSpec.ofChange substLawsWrong)

/-- 'sealringlaw02.SubstApply': WHATEVER THE INPUT: true; the input reads as it did. -/
def substApplySpec : ChangeSpec := { name := "substApply", fn := fun _ => fun
  | [d1, d2] => { results := [.lit (.bool true)], args := [d1, d2] }
  | _ => none }
def substApplyRow : OpenClaim := { program := "ytkbkgiihgghbeaadoor", sum := "eb325d10ddaa367568e3ff229cd59ddca5593eacb227493410ec6633ecaadf1f", func := "sealring/sealringlaw02.SubstApply", spec := "substApply", inPlace := ["internal/bytealg.abigen_runtime_cmpstring", "internal/abi.NoEscape", "internal/bytealg.MakeNoZero"], unfollowed := true, recurses := true, named := ["sealring/term.words"], loops := true, apart := false, laid := [("sealring/term.words", laid_sealring_term_words)] }
def SubstApplySaid : Prop := substApplyRow.holds Tryd.pinned (OpenSpec.ofChange substApplySpec)

/-- ITS FALSE NEIGHBOUR: 'it returns false'. Refute it at one input. -/
def substApplyWrong : ChangeSpec := { name := "substApply", fn := fun _ => fun
  | [d1, d2] => { results := [.lit (.bool false)], args := [d1, d2] }
  | _ => none }
def SubstApplyWrongFalsely : Prop := substApplyRow.holds Tryd.pinned (OpenSpec.ofChange substApplyWrong)

/-- 'sealringlaw02.SubstAgain': WHATEVER THE INPUT: true; the input reads as it did. -/
def substAgainSpec : ChangeSpec := { name := "substAgain", fn := fun _ => fun
  | [d1, d2] => { results := [.lit (.bool true)], args := [d1, d2] }
  | _ => none }
def substAgainRow : OpenClaim := { program := "ytkbkgiihgghbeaadoor", sum := "eb325d10ddaa367568e3ff229cd59ddca5593eacb227493410ec6633ecaadf1f", func := "sealring/sealringlaw02.SubstAgain", spec := "substAgain", inPlace := ["internal/bytealg.abigen_runtime_cmpstring", "internal/abi.NoEscape", "internal/bytealg.MakeNoZero"], unfollowed := true, recurses := true, named := ["sealring/term.words"], loops := true, apart := false, laid := [("sealring/term.words", laid_sealring_term_words)] }
def SubstAgainSaid : Prop := substAgainRow.holds Tryd.pinned (OpenSpec.ofChange substAgainSpec)

/-- ITS FALSE NEIGHBOUR: 'it returns false'. Refute it at one input. -/
def substAgainWrong : ChangeSpec := { name := "substAgain", fn := fun _ => fun
  | [d1, d2] => { results := [.lit (.bool false)], args := [d1, d2] }
  | _ => none }
def SubstAgainWrongFalsely : Prop := substAgainRow.holds Tryd.pinned (OpenSpec.ofChange substAgainWrong)

/- THE SECOND FORM. 'bulk': how many values and letters a reading holds, each counted each time it is reached (what is shared counts as often as it is met; a slice's spare places count too). A statement '..UptoSaid' is the law's where the arguments, and the package variables that the reading takes, are together of bulk at most 1048576: NARROWER than '..Said'. Prove '..Said' where nothing that the law and all that it calls make is longer than what came in: it says more and counts as full. Else prove '..UptoSaid'. A law counts once. -/
mutual
def uptoBulk {H : Type} : DataW H → Nat
  | .lit (.string bytes) => bytes.length + 1
  | .lit _ => 1
  | .nil => 1
  | .ptr d => uptoBulk d + 1
  | .slice elems spare => uptoBulkAll elems + uptoBulkAll spare + 1
  | .agg parts => uptoBulkAll parts + 1
  | .iface _ d => uptoBulk d + 1
  | .map entries => uptoBulkEntries entries + 1
  | .held _ => 1
def uptoBulkAll {H : Type} : List (DataW H) → Nat
  | [] => 0
  | d :: r => uptoBulk d + uptoBulkAll r
def uptoBulkEntries {H : Type} : List (Lit × DataW H) → Nat
  | [] => 0
  | x :: r => uptoBulkEntry x + uptoBulkEntries r
def uptoBulkEntry {H : Type} : Lit × DataW H → Nat
  | (.string bytes, d) => bytes.length + uptoBulk d + 1
  | (_, d) => uptoBulk d + 1
 end
def uptoSmall : (H : Type) → List (DataW H) → Bool := fun _ ds => decide (uptoBulkAll ds ≤ 1048576)
def OpenSpec.upto (s : _root_.Go.ChangeSpec) : _root_.Go.OpenSpec := { _root_.Go.OpenSpec.ofChange s with cond := some uptoSmall }

/-- 'sealringlaw02.SubstValid', WHERE WHAT IT READS IS OF BULK AT MOST 1048576: true; the input reads as it did. -/
def substValidUptoRow : OpenClaim := { program := "ytkbkgiihgghbeaadoor", sum := "eb325d10ddaa367568e3ff229cd59ddca5593eacb227493410ec6633ecaadf1f", func := "sealring/sealringlaw02.SubstValid", spec := "substValid", inPlace := ["internal/bytealg.abigen_runtime_cmpstring", "internal/abi.NoEscape", "internal/bytealg.MakeNoZero"], unfollowed := true, recurses := true, named := ["sealring/term.words"], loops := true, apart := false, laid := [("sealring/term.words", laid_sealring_term_words)], narrowed := true }
def SubstValidUptoSaid : Prop := substValidUptoRow.holds Tryd.pinned (OpenSpec.upto substValidSpec)

/-- 'sealringlaw02.SubstFits', WHERE WHAT IT READS IS OF BULK AT MOST 1048576: true; the input reads as it did. -/
def substFitsUptoRow : OpenClaim := { program := "ytkbkgiihgghbeaadoor", sum := "eb325d10ddaa367568e3ff229cd59ddca5593eacb227493410ec6633ecaadf1f", func := "sealring/sealringlaw02.SubstFits", spec := "substFits", inPlace := ["internal/bytealg.abigen_runtime_cmpstring", "internal/abi.NoEscape", "internal/bytealg.MakeNoZero"], unfollowed := true, recurses := true, named := ["sealring/term.words"], loops := true, apart := false, laid := [("sealring/term.words", laid_sealring_term_words)], narrowed := true }
def SubstFitsUptoSaid : Prop := substFitsUptoRow.holds Tryd.pinned (OpenSpec.upto substFitsSpec)

/-- 'sealringlaw02.SubstCompose', WHERE WHAT IT READS IS OF BULK AT MOST 1048576: true; the input reads as it did. -/
def substComposeUptoRow : OpenClaim := { program := "ytkbkgiihgghbeaadoor", sum := "eb325d10ddaa367568e3ff229cd59ddca5593eacb227493410ec6633ecaadf1f", func := "sealring/sealringlaw02.SubstCompose", spec := "substCompose", inPlace := ["internal/bytealg.abigen_runtime_cmpstring", "internal/abi.NoEscape", "internal/bytealg.MakeNoZero"], unfollowed := true, recurses := true, named := ["sealring/term.words"], loops := true, apart := false, laid := [("sealring/term.words", laid_sealring_term_words)], narrowed := true }
def SubstComposeUptoSaid : Prop := substComposeUptoRow.holds Tryd.pinned (OpenSpec.upto substComposeSpec)

/-- 'sealringlaw02.SubstLaws', WHERE WHAT IT READS IS OF BULK AT MOST 1048576: true; the input reads as it did. -/
def substLawsUptoRow : OpenClaim := { program := "ytkbkgiihgghbeaadoor", sum := "eb325d10ddaa367568e3ff229cd59ddca5593eacb227493410ec6633ecaadf1f", func := "sealring/sealringlaw02.SubstLaws", spec := "substLaws", inPlace := ["internal/bytealg.abigen_runtime_cmpstring", "internal/abi.NoEscape", "internal/bytealg.MakeNoZero"], unfollowed := true, recurses := true, named := ["sealring/term.words"], apart := false, laid := [("sealring/term.words", laid_sealring_term_words)], narrowed := true }
def SubstLawsUptoSaid : Prop := substLawsUptoRow.holds Tryd.pinned (OpenSpec.upto substLawsSpec)

/-- 'sealringlaw02.SubstApply', WHERE WHAT IT READS IS OF BULK AT MOST 1048576: true; the input reads as it did. -/
def substApplyUptoRow : OpenClaim := { program := "ytkbkgiihgghbeaadoor", sum := "eb325d10ddaa367568e3ff229cd59ddca5593eacb227493410ec6633ecaadf1f", func := "sealring/sealringlaw02.SubstApply", spec := "substApply", inPlace := ["internal/bytealg.abigen_runtime_cmpstring", "internal/abi.NoEscape", "internal/bytealg.MakeNoZero"], unfollowed := true, recurses := true, named := ["sealring/term.words"], loops := true, apart := false, laid := [("sealring/term.words", laid_sealring_term_words)], narrowed := true }
def SubstApplyUptoSaid : Prop := substApplyUptoRow.holds Tryd.pinned (OpenSpec.upto substApplySpec)

/-- 'sealringlaw02.SubstAgain', WHERE WHAT IT READS IS OF BULK AT MOST 1048576: true; the input reads as it did. -/
def substAgainUptoRow : OpenClaim := { program := "ytkbkgiihgghbeaadoor", sum := "eb325d10ddaa367568e3ff229cd59ddca5593eacb227493410ec6633ecaadf1f", func := "sealring/sealringlaw02.SubstAgain", spec := "substAgain", inPlace := ["internal/bytealg.abigen_runtime_cmpstring", "internal/abi.NoEscape", "internal/bytealg.MakeNoZero"], unfollowed := true, recurses := true, named := ["sealring/term.words"], loops := true, apart := false, laid := [("sealring/term.words", laid_sealring_term_words)], narrowed := true }
def SubstAgainUptoSaid : Prop := substAgainUptoRow.holds Tryd.pinned (OpenSpec.upto substAgainSpec)

end Rows
end Go.Proofs.YtkbkgiihgghbeaaDoor
