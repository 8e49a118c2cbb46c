/-
  NARROWER THAN 'FOR EVERY INPUT', by the rows' own cells (each row's printed sentence says how): TopEqual: loops · TopRewriting: loops.
  DERIVED. THE GIVEN ROWS OF THIS SEAT. 3 by the template 'for every input the law returns true; each argument reads behind the call as it read before'; 0 by the template 'total and deterministic' (their statements: YtjhjoiplpmjepaaGreatTotals.lean).
  GIVEN WITH THE SEED: the statements are not yours to turn. If you find one false, say at which input.
  Laid BY PROGRAM, IN A SANDBOX (cutbox-rows.mjs): the forced cells as the released guide's own fill.sh prints them over the translation 1309238b96ca6ee6… (all of the seat's roots in one cut). By AI agents, Wed Nov 11 2026. No macro, syntax, notation, axiom, sorry.
-/
import Derived.Test.YtjhjoiplpmjepaaGreatChecked
import GoSem.Claim
import GoSem.ClaimJoined
import GoSem.ClaimMapViews
import Derived.JoinedTies
import Derived.KernelRfl
namespace Go.Proofs.YtjhjoiplpmjepaaGreat
/- THE CELL 'sum', in the pinned program and in every row, IS THE sha256 OF THE DUMP (.gsa) THAT YtjhjoiplpmjepaaGreatProg.lean LOADS. Nothing in Lean hashes anything: it is a label: what it is worth is what the hold of that sum in a sandbox is worth. -/
noncomputable def Tryz.pinned : Pinned := { name := "ytjhjoiplpmjepaagreat", sum := "1309238b96ca6ee6d3f0da9878fdef017bd430df3fa6c03b06b772ace64d9eed", checked := Tryz.checked }
namespace Rows
def none {H : Type} : Left H := { results := [], args := [] }

/-- 'sealringtop.TopEqual': WHATEVER THE INPUT: true; the input reads as it did. -/
def topEqualSpec : ChangeSpec := { name := "topEqual", fn := fun _ => fun
  | [d1, d2] => { results := [.lit (.bool true)], args := [d1, d2] }
  | _ => none }
def topEqualRow : OpenClaim := { program := "ytjhjoiplpmjepaagreat", sum := "1309238b96ca6ee6d3f0da9878fdef017bd430df3fa6c03b06b772ace64d9eed", func := "sealring/sealringtop.TopEqual", spec := "topEqual", inPlace := ["internal/bytealg.abigen_runtime_cmpstring", "slices.overlaps[sealring/api.Power]"], unfollowed := true, recurses := true, loops := true, plainKeys := false, apart := false }
def TopEqualSaid : Prop := topEqualRow.holds Tryz.pinned (OpenSpec.ofChange topEqualSpec)

/-- ITS FALSE NEIGHBOUR: 'it returns false'. Refute it at one input. -/
def topEqualWrong : ChangeSpec := { name := "topEqual", fn := fun _ => fun
  | [d1, d2] => { results := [.lit (.bool false)], args := [d1, d2] }
  | _ => none }
def TopEqualWrongFalsely : Prop := topEqualRow.holds Tryz.pinned (OpenSpec.ofChange topEqualWrong)

/-- 'sealringtop.TopSums': WHATEVER THE INPUT: true; the input reads as it did. -/
def topSumsSpec : ChangeSpec := { name := "topSums", fn := fun _ => fun
  | [d1, d2] => { results := [.lit (.bool true)], args := [d1, d2] }
  | _ => none }
def topSumsRow : OpenClaim := { program := "ytjhjoiplpmjepaagreat", sum := "1309238b96ca6ee6d3f0da9878fdef017bd430df3fa6c03b06b772ace64d9eed", func := "sealring/sealringtop.TopSums", spec := "topSums", inPlace := ["internal/bytealg.abigen_runtime_cmpstring", "slices.overlaps[sealring/api.Power]"], unfollowed := true, recurses := true, plainKeys := false, apart := false }
def TopSumsSaid : Prop := topSumsRow.holds Tryz.pinned (OpenSpec.ofChange topSumsSpec)

/-- ITS FALSE NEIGHBOUR: 'it returns false'. Refute it at one input. -/
def topSumsWrong : ChangeSpec := { name := "topSums", fn := fun _ => fun
  | [d1, d2] => { results := [.lit (.bool false)], args := [d1, d2] }
  | _ => none }
def TopSumsWrongFalsely : Prop := topSumsRow.holds Tryz.pinned (OpenSpec.ofChange topSumsWrong)

/-- 'sealringtop.TopRewriting': WHATEVER THE INPUT: true; the input reads as it did. -/
def topRewritingSpec : ChangeSpec := { name := "topRewriting", fn := fun _ => fun
  | [d1, d2] => { results := [.lit (.bool true)], args := [d1, d2] }
  | _ => none }
def topRewritingRow : OpenClaim := { program := "ytjhjoiplpmjepaagreat", sum := "1309238b96ca6ee6d3f0da9878fdef017bd430df3fa6c03b06b772ace64d9eed", func := "sealring/sealringtop.TopRewriting", spec := "topRewriting", inPlace := ["internal/bytealg.abigen_runtime_cmpstring", "slices.overlaps[sealring/api.Power]"], unfollowed := true, recurses := true, loops := true, plainKeys := false, apart := false }
def TopRewritingSaid : Prop := topRewritingRow.holds Tryz.pinned (OpenSpec.ofChange topRewritingSpec)

/-- ITS FALSE NEIGHBOUR: 'it returns false'. Refute it at one input. -/
def topRewritingWrong : ChangeSpec := { name := "topRewriting", fn := fun _ => fun
  | [d1, d2] => { results := [.lit (.bool false)], args := [d1, d2] }
  | _ => none }
def TopRewritingWrongFalsely : Prop := topRewritingRow.holds Tryz.pinned (OpenSpec.ofChange topRewritingWrong)

/- THE SECOND FORM. 'bulk': how many values and letters a reading holds, each counted each time it is reached (what is shared counts as often as it is met; a slice's spare places count too). A statement '..UptoSaid' is the law's where the arguments, and the package variables that the reading takes, are together of bulk at most 1048576: NARROWER than '..Said'. Prove '..Said' where nothing that the law and all that it calls make is longer than what came in: it says more and counts as full. Else prove '..UptoSaid'. A law counts once. -/
mutual
def uptoBulk {H : Type} : DataW H → Nat
  | .lit (.string bytes) => bytes.length + 1
  | .lit _ => 1
  | .nil => 1
  | .ptr d => uptoBulk d + 1
  | .slice elems spare => uptoBulkAll elems + uptoBulkAll spare + 1
  | .agg parts => uptoBulkAll parts + 1
  | .iface _ d => uptoBulk d + 1
  | .map entries => uptoBulkEntries entries + 1
  | .held _ => 1
def uptoBulkAll {H : Type} : List (DataW H) → Nat
  | [] => 0
  | d :: r => uptoBulk d + uptoBulkAll r
def uptoBulkEntries {H : Type} : List (Lit × DataW H) → Nat
  | [] => 0
  | x :: r => uptoBulkEntry x + uptoBulkEntries r
def uptoBulkEntry {H : Type} : Lit × DataW H → Nat
  | (.string bytes, d) => bytes.length + uptoBulk d + 1
  | (_, d) => uptoBulk d + 1
 end
def uptoSmall : (H : Type) → List (DataW H) → Bool := fun _ ds => decide (uptoBulkAll ds ≤ 1048576)
def OpenSpec.upto (s : _root_.Go.ChangeSpec) : _root_.Go.OpenSpec := { _root_.Go.OpenSpec.ofChange s with cond := some uptoSmall }

/-- 'sealringtop.TopEqual', WHERE WHAT IT READS IS OF BULK AT MOST 1048576: true; the input reads as it did. -/
def topEqualUptoRow : OpenClaim := { program := "ytjhjoiplpmjepaagreat", sum := "1309238b96ca6ee6d3f0da9878fdef017bd430df3fa6c03b06b772ace64d9eed", func := "sealring/sealringtop.TopEqual", spec := "topEqual", inPlace := ["internal/bytealg.abigen_runtime_cmpstring", "slices.overlaps[sealring/api.Power]"], unfollowed := true, recurses := true, loops := true, plainKeys := false, apart := false, narrowed := true }
def TopEqualUptoSaid : Prop := topEqualUptoRow.holds Tryz.pinned (OpenSpec.upto topEqualSpec)

/-- 'sealringtop.TopSums', WHERE WHAT IT READS IS OF BULK AT MOST 1048576: true; the input reads as it did. -/
def topSumsUptoRow : OpenClaim := { program := "ytjhjoiplpmjepaagreat", sum := "1309238b96ca6ee6d3f0da9878fdef017bd430df3fa6c03b06b772ace64d9eed", func := "sealring/sealringtop.TopSums", spec := "topSums", inPlace := ["internal/bytealg.abigen_runtime_cmpstring", "slices.overlaps[sealring/api.Power]"], unfollowed := true, recurses := true, plainKeys := false, apart := false, narrowed := true }
def TopSumsUptoSaid : Prop := topSumsUptoRow.holds Tryz.pinned (OpenSpec.upto topSumsSpec)

/-- 'sealringtop.TopRewriting', WHERE WHAT IT READS IS OF BULK AT MOST 1048576: true; the input reads as it did. -/
def topRewritingUptoRow : OpenClaim := { program := "ytjhjoiplpmjepaagreat", sum := "1309238b96ca6ee6d3f0da9878fdef017bd430df3fa6c03b06b772ace64d9eed", func := "sealring/sealringtop.TopRewriting", spec := "topRewriting", inPlace := ["internal/bytealg.abigen_runtime_cmpstring", "slices.overlaps[sealring/api.Power]"], unfollowed := true, recurses := true, loops := true, plainKeys := false, apart := false, narrowed := true }
def TopRewritingUptoSaid : Prop := topRewritingUptoRow.holds Tryz.pinned (OpenSpec.upto topRewritingSpec)

end Rows
end Go.Proofs.YtjhjoiplpmjepaaGreat
