/-
  NARROWER THAN 'FOR EVERY INPUT', by the rows' own cells (each row's printed sentence says how): CastSessions: laid · CastInstance: loops, laid · CastApart: loops, laid · CastValid: laid · CastKnows: laid · CastOwns: laid · CastSecrets: laid · CastReveals: laid.
  DERIVED. THE GIVEN ROWS OF THIS SEAT. 8 by the template 'for every input the law returns true; each argument reads behind the call as it read before'; 0 by the template 'total and deterministic' (their statements: YtpjmdilpldaapaaDoorTotals.lean).
  GIVEN WITH THE SEED: the statements are not yours to turn. If you find one false, say at which input.
  Laid BY PROGRAM, IN A SANDBOX (cutbox-rows.mjs): the forced cells as the released guide's own fill.sh prints them over the translation 1e82a1b12018454c… (all of the seat's roots in one cut). By AI agents, Wed Nov 11 2026. No macro, syntax, notation, axiom, sorry.
-/
import Derived.Test.YtpjmdilpldaapaaDoorChecked
import GoSem.Claim
import GoSem.ClaimJoined
import GoSem.ClaimMapViews
import Derived.JoinedTies
import Derived.KernelRfl
namespace Go.Proofs.YtpjmdilpldaapaaDoor
/- THE CELL 'sum', in the pinned program and in every row, IS THE sha256 OF THE DUMP (.gsa) THAT YtpjmdilpldaapaaDoorProg.lean LOADS. Nothing in Lean hashes anything: it is a label: what it is worth is what the hold of that sum in a sandbox is worth. -/
noncomputable def Tryd.pinned : Pinned := { name := "ytpjmdilpldaapaadoor", sum := "1e82a1b12018454c8990eda7108fdf495d5c0f7b300f3a69b59fadf37bfad1eb", checked := Tryd.checked }
namespace Rows
def none {H : Type} : Left H := { results := [], args := [] }

/- WHAT THE LISTED PACKAGE-LEVEL VARIABLES READ AS WHEN THE CALL BEGINS. Each datum BY PROGRAM (the guide's laid-datum.mjs) off the statement by which the dump's own 'gosem.cut.vars' lays the variable. In a bare row this is a premise. The card (YtpjmdilpldaapaaDoorCards.lean) ties it to the program's text. -/
def laid_math_bits_deBruijn32tab {H : Type} : DataW H := .agg [.lit (.int .u8 0), .lit (.int .u8 1), .lit (.int .u8 28), .lit (.int .u8 2), .lit (.int .u8 29), .lit (.int .u8 14), .lit (.int .u8 24), .lit (.int .u8 3), .lit (.int .u8 30), .lit (.int .u8 22), .lit (.int .u8 20), .lit (.int .u8 15), .lit (.int .u8 25), .lit (.int .u8 17), .lit (.int .u8 4), .lit (.int .u8 8), .lit (.int .u8 31), .lit (.int .u8 27), .lit (.int .u8 13), .lit (.int .u8 23), .lit (.int .u8 21), .lit (.int .u8 19), .lit (.int .u8 16), .lit (.int .u8 7), .lit (.int .u8 26), .lit (.int .u8 12), .lit (.int .u8 18), .lit (.int .u8 6), .lit (.int .u8 11), .lit (.int .u8 5), .lit (.int .u8 10), .lit (.int .u8 9)]
def laid_math_bits_deBruijn64tab {H : Type} : DataW H := .agg [.lit (.int .u8 0), .lit (.int .u8 1), .lit (.int .u8 56), .lit (.int .u8 2), .lit (.int .u8 57), .lit (.int .u8 49), .lit (.int .u8 28), .lit (.int .u8 3), .lit (.int .u8 61), .lit (.int .u8 58), .lit (.int .u8 42), .lit (.int .u8 50), .lit (.int .u8 38), .lit (.int .u8 29), .lit (.int .u8 17), .lit (.int .u8 4), .lit (.int .u8 62), .lit (.int .u8 47), .lit (.int .u8 59), .lit (.int .u8 36), .lit (.int .u8 45), .lit (.int .u8 43), .lit (.int .u8 51), .lit (.int .u8 22), .lit (.int .u8 53), .lit (.int .u8 39), .lit (.int .u8 33), .lit (.int .u8 30), .lit (.int .u8 24), .lit (.int .u8 18), .lit (.int .u8 12), .lit (.int .u8 5), .lit (.int .u8 63), .lit (.int .u8 55), .lit (.int .u8 48), .lit (.int .u8 27), .lit (.int .u8 60), .lit (.int .u8 41), .lit (.int .u8 37), .lit (.int .u8 16), .lit (.int .u8 46), .lit (.int .u8 35), .lit (.int .u8 44), .lit (.int .u8 21), .lit (.int .u8 52), .lit (.int .u8 32), .lit (.int .u8 23), .lit (.int .u8 11), .lit (.int .u8 54), .lit (.int .u8 26), .lit (.int .u8 40), .lit (.int .u8 15), .lit (.int .u8 34), .lit (.int .u8 20), .lit (.int .u8 31), .lit (.int .u8 10), .lit (.int .u8 25), .lit (.int .u8 14), .lit (.int .u8 19), .lit (.int .u8 9), .lit (.int .u8 13), .lit (.int .u8 8), .lit (.int .u8 7), .lit (.int .u8 6)]
def laid_internal_strconv_uint64pow10 {H : Type} : DataW H := .agg [.lit (.int .u64 1), .lit (.int .u64 10), .lit (.int .u64 100), .lit (.int .u64 1000), .lit (.int .u64 10000), .lit (.int .u64 100000), .lit (.int .u64 1000000), .lit (.int .u64 10000000), .lit (.int .u64 100000000), .lit (.int .u64 1000000000), .lit (.int .u64 10000000000), .lit (.int .u64 100000000000), .lit (.int .u64 1000000000000), .lit (.int .u64 10000000000000), .lit (.int .u64 100000000000000), .lit (.int .u64 1000000000000000), .lit (.int .u64 10000000000000000), .lit (.int .u64 100000000000000000), .lit (.int .u64 1000000000000000000), .lit (.int .u64 10000000000000000000)]

/-- 'sealringlaw15.CastSessions': WHATEVER THE INPUT: true; the input reads as it did. -/
def castSessionsSpec : ChangeSpec := { name := "castSessions", fn := fun _ => fun
  | [d1, d2, d3] => { results := [.lit (.bool true)], args := [d1, d2, d3] }
  | _ => none }
def castSessionsRow : OpenClaim := { program := "ytpjmdilpldaapaadoor", sum := "1e82a1b12018454c8990eda7108fdf495d5c0f7b300f3a69b59fadf37bfad1eb", func := "sealring/sealringlaw15.CastSessions", spec := "castSessions", inPlace := ["internal/bytealg.IndexByteString", "internal/bytealg.IndexString", "internal/bytealg.abigen_runtime_cmpstring"], unfollowed := true, recurses := true, named := ["internal/bytealg.MaxLen", "internal/strconv.uint64pow10", "math/bits.deBruijn32tab", "math/bits.deBruijn64tab"], apart := false, laid := [("math/bits.deBruijn32tab", laid_math_bits_deBruijn32tab), ("math/bits.deBruijn64tab", laid_math_bits_deBruijn64tab), ("internal/strconv.uint64pow10", laid_internal_strconv_uint64pow10)] }
def CastSessionsSaid : Prop := castSessionsRow.holds Tryd.pinned (OpenSpec.ofChange castSessionsSpec)

/-- ITS FALSE NEIGHBOUR: 'it returns false'. Refute it at one input. -/
def castSessionsWrong : ChangeSpec := { name := "castSessions", fn := fun _ => fun
  | [d1, d2, d3] => { results := [.lit (.bool false)], args := [d1, d2, d3] }
  | _ => none }
def CastSessionsWrongFalsely : Prop := castSessionsRow.holds Tryd.pinned (OpenSpec.ofChange castSessionsWrong)

/-- 'sealringlaw15.CastInstance': WHATEVER THE INPUT: true; the input reads as it did. -/
def castInstanceSpec : ChangeSpec := { name := "castInstance", fn := fun _ => fun
  | [d1, d2] => { results := [.lit (.bool true)], args := [d1, d2] }
  | _ => none }
def castInstanceRow : OpenClaim := { program := "ytpjmdilpldaapaadoor", sum := "1e82a1b12018454c8990eda7108fdf495d5c0f7b300f3a69b59fadf37bfad1eb", func := "sealring/sealringlaw15.CastInstance", spec := "castInstance", inPlace := ["internal/bytealg.IndexByteString", "internal/bytealg.IndexString", "internal/bytealg.abigen_runtime_cmpstring"], unfollowed := true, recurses := true, named := ["internal/bytealg.MaxLen", "internal/strconv.uint64pow10", "math/bits.deBruijn32tab", "math/bits.deBruijn64tab"], loops := true, apart := false, laid := [("math/bits.deBruijn32tab", laid_math_bits_deBruijn32tab), ("math/bits.deBruijn64tab", laid_math_bits_deBruijn64tab), ("internal/strconv.uint64pow10", laid_internal_strconv_uint64pow10)] }
def CastInstanceSaid : Prop := castInstanceRow.holds Tryd.pinned (OpenSpec.ofChange castInstanceSpec)

/-- ITS FALSE NEIGHBOUR: 'it returns false'. Refute it at one input. -/
def castInstanceWrong : ChangeSpec := { name := "castInstance", fn := fun _ => fun
  | [d1, d2] => { results := [.lit (.bool false)], args := [d1, d2] }
  | _ => none }
def CastInstanceWrongFalsely : Prop := castInstanceRow.holds Tryd.pinned (OpenSpec.ofChange castInstanceWrong)

/-- 'sealringlaw15.CastApart': WHATEVER THE INPUT: true; the input reads as it did. -/
def castApartSpec : ChangeSpec := { name := "castApart", fn := fun _ => fun
  | [d1, d2, d3] => { results := [.lit (.bool true)], args := [d1, d2, d3] }
  | _ => none }
def castApartRow : OpenClaim := { program := "ytpjmdilpldaapaadoor", sum := "1e82a1b12018454c8990eda7108fdf495d5c0f7b300f3a69b59fadf37bfad1eb", func := "sealring/sealringlaw15.CastApart", spec := "castApart", inPlace := ["internal/bytealg.IndexByteString", "internal/bytealg.IndexString", "internal/bytealg.abigen_runtime_cmpstring"], unfollowed := true, recurses := true, named := ["internal/bytealg.MaxLen", "internal/strconv.uint64pow10", "math/bits.deBruijn32tab", "math/bits.deBruijn64tab"], loops := true, apart := false, laid := [("math/bits.deBruijn32tab", laid_math_bits_deBruijn32tab), ("math/bits.deBruijn64tab", laid_math_bits_deBruijn64tab), ("internal/strconv.uint64pow10", laid_internal_strconv_uint64pow10)] }
def CastApartSaid : Prop := castApartRow.holds Tryd.pinned (OpenSpec.ofChange castApartSpec)

/-- ITS FALSE NEIGHBOUR: 'it returns false'. Refute it at one input. -/
def castApartWrong : ChangeSpec := { name := "castApart", fn := fun _ => fun
  | [d1, d2, d3] => { results := [.lit (.bool false)], args := [d1, d2, d3] }
  | _ => none }
def CastApartWrongFalsely : Prop := castApartRow.holds Tryd.pinned (OpenSpec.ofChange castApartWrong)

/-- 'sealringlaw15.CastValid': WHATEVER THE INPUT: true; the input reads as it did. -/
def castValidSpec : ChangeSpec := { name := "castValid", fn := fun _ => fun
  | [d1, d2] => { results := [.lit (.bool true)], args := [d1, d2] }
  | _ => none }
def castValidRow : OpenClaim := { program := "ytpjmdilpldaapaadoor", sum := "1e82a1b12018454c8990eda7108fdf495d5c0f7b300f3a69b59fadf37bfad1eb", func := "sealring/sealringlaw15.CastValid", spec := "castValid", inPlace := ["internal/bytealg.IndexByteString", "internal/bytealg.IndexString", "internal/bytealg.abigen_runtime_cmpstring"], unfollowed := true, recurses := true, named := ["internal/bytealg.MaxLen", "internal/strconv.uint64pow10", "math/bits.deBruijn32tab", "math/bits.deBruijn64tab"], apart := false, laid := [("math/bits.deBruijn32tab", laid_math_bits_deBruijn32tab), ("math/bits.deBruijn64tab", laid_math_bits_deBruijn64tab), ("internal/strconv.uint64pow10", laid_internal_strconv_uint64pow10)] }
def CastValidSaid : Prop := castValidRow.holds Tryd.pinned (OpenSpec.ofChange castValidSpec)

/-- ITS FALSE NEIGHBOUR: 'it returns false'. Refute it at one input. -/
def castValidWrong : ChangeSpec := { name := "castValid", fn := fun _ => fun
  | [d1, d2] => { results := [.lit (.bool false)], args := [d1, d2] }
  | _ => none }
def CastValidWrongFalsely : Prop := castValidRow.holds Tryd.pinned (OpenSpec.ofChange castValidWrong)

/-- 'sealringlaw15.CastKnows': WHATEVER THE INPUT: true; the input reads as it did. -/
def castKnowsSpec : ChangeSpec := { name := "castKnows", fn := fun _ => fun
  | [d] => { results := [.lit (.bool true)], args := [d] }
  | _ => none }
def castKnowsRow : OpenClaim := { program := "ytpjmdilpldaapaadoor", sum := "1e82a1b12018454c8990eda7108fdf495d5c0f7b300f3a69b59fadf37bfad1eb", func := "sealring/sealringlaw15.CastKnows", spec := "castKnows", inPlace := ["internal/bytealg.IndexByteString", "internal/bytealg.IndexString", "internal/bytealg.abigen_runtime_cmpstring"], unfollowed := true, recurses := true, named := ["internal/bytealg.MaxLen", "internal/strconv.uint64pow10", "math/bits.deBruijn32tab", "math/bits.deBruijn64tab"], apart := false, laid := [("math/bits.deBruijn32tab", laid_math_bits_deBruijn32tab), ("math/bits.deBruijn64tab", laid_math_bits_deBruijn64tab), ("internal/strconv.uint64pow10", laid_internal_strconv_uint64pow10)] }
def CastKnowsSaid : Prop := castKnowsRow.holds Tryd.pinned (OpenSpec.ofChange castKnowsSpec)

/-- ITS FALSE NEIGHBOUR: 'it returns false'. Refute it at one input. -/
def castKnowsWrong : ChangeSpec := { name := "castKnows", fn := fun _ => fun
  | [d] => { results := [.lit (.bool false)], args := [d] }
  | _ => none }
def CastKnowsWrongFalsely : Prop := castKnowsRow.holds Tryd.pinned (OpenSpec.ofChange castKnowsWrong)

/-- 'sealringlaw15.CastOwns': WHATEVER THE INPUT: true; the input reads as it did. -/
def castOwnsSpec : ChangeSpec := { name := "castOwns", fn := fun _ => fun
  | [d1, d2] => { results := [.lit (.bool true)], args := [d1, d2] }
  | _ => none }
def castOwnsRow : OpenClaim := { program := "ytpjmdilpldaapaadoor", sum := "1e82a1b12018454c8990eda7108fdf495d5c0f7b300f3a69b59fadf37bfad1eb", func := "sealring/sealringlaw15.CastOwns", spec := "castOwns", inPlace := ["internal/bytealg.IndexByteString", "internal/bytealg.IndexString", "internal/bytealg.abigen_runtime_cmpstring"], unfollowed := true, recurses := true, named := ["internal/bytealg.MaxLen", "internal/strconv.uint64pow10", "math/bits.deBruijn32tab", "math/bits.deBruijn64tab"], apart := false, laid := [("math/bits.deBruijn32tab", laid_math_bits_deBruijn32tab), ("math/bits.deBruijn64tab", laid_math_bits_deBruijn64tab), ("internal/strconv.uint64pow10", laid_internal_strconv_uint64pow10)] }
def CastOwnsSaid : Prop := castOwnsRow.holds Tryd.pinned (OpenSpec.ofChange castOwnsSpec)

/-- ITS FALSE NEIGHBOUR: 'it returns false'. Refute it at one input. -/
def castOwnsWrong : ChangeSpec := { name := "castOwns", fn := fun _ => fun
  | [d1, d2] => { results := [.lit (.bool false)], args := [d1, d2] }
  | _ => none }
def CastOwnsWrongFalsely : Prop := castOwnsRow.holds Tryd.pinned (OpenSpec.ofChange castOwnsWrong)

/-- 'sealringlaw15.CastSecrets': WHATEVER THE INPUT: true; the input reads as it did. -/
def castSecretsSpec : ChangeSpec := { name := "castSecrets", fn := fun _ => fun
  | [d] => { results := [.lit (.bool true)], args := [d] }
  | _ => none }
def castSecretsRow : OpenClaim := { program := "ytpjmdilpldaapaadoor", sum := "1e82a1b12018454c8990eda7108fdf495d5c0f7b300f3a69b59fadf37bfad1eb", func := "sealring/sealringlaw15.CastSecrets", spec := "castSecrets", inPlace := ["internal/bytealg.IndexByteString", "internal/bytealg.IndexString", "internal/bytealg.abigen_runtime_cmpstring"], unfollowed := true, recurses := true, named := ["internal/bytealg.MaxLen", "internal/strconv.uint64pow10", "math/bits.deBruijn32tab", "math/bits.deBruijn64tab"], apart := false, laid := [("math/bits.deBruijn32tab", laid_math_bits_deBruijn32tab), ("math/bits.deBruijn64tab", laid_math_bits_deBruijn64tab), ("internal/strconv.uint64pow10", laid_internal_strconv_uint64pow10)] }
def CastSecretsSaid : Prop := castSecretsRow.holds Tryd.pinned (OpenSpec.ofChange castSecretsSpec)

/-- ITS FALSE NEIGHBOUR: 'it returns false'. Refute it at one input. -/
def castSecretsWrong : ChangeSpec := { name := "castSecrets", fn := fun _ => fun
  | [d] => { results := [.lit (.bool false)], args := [d] }
  | _ => none }
def CastSecretsWrongFalsely : Prop := castSecretsRow.holds Tryd.pinned (OpenSpec.ofChange castSecretsWrong)

/-- 'sealringlaw15.CastReveals': WHATEVER THE INPUT: true; the input reads as it did. -/
def castRevealsSpec : ChangeSpec := { name := "castReveals", fn := fun _ => fun
  | [d1, d2] => { results := [.lit (.bool true)], args := [d1, d2] }
  | _ => none }
def castRevealsRow : OpenClaim := { program := "ytpjmdilpldaapaadoor", sum := "1e82a1b12018454c8990eda7108fdf495d5c0f7b300f3a69b59fadf37bfad1eb", func := "sealring/sealringlaw15.CastReveals", spec := "castReveals", inPlace := ["internal/bytealg.IndexByteString", "internal/bytealg.IndexString", "internal/bytealg.abigen_runtime_cmpstring"], unfollowed := true, recurses := true, named := ["internal/bytealg.MaxLen", "internal/strconv.uint64pow10", "math/bits.deBruijn32tab", "math/bits.deBruijn64tab"], apart := false, laid := [("math/bits.deBruijn32tab", laid_math_bits_deBruijn32tab), ("math/bits.deBruijn64tab", laid_math_bits_deBruijn64tab), ("internal/strconv.uint64pow10", laid_internal_strconv_uint64pow10)] }
def CastRevealsSaid : Prop := castRevealsRow.holds Tryd.pinned (OpenSpec.ofChange castRevealsSpec)

/-- ITS FALSE NEIGHBOUR: 'it returns false'. Refute it at one input. -/
def castRevealsWrong : ChangeSpec := { name := "castReveals", fn := fun _ => fun
  | [d1, d2] => { results := [.lit (.bool false)], args := [d1, d2] }
  | _ => none }
def CastRevealsWrongFalsely : Prop := castRevealsRow.holds Tryd.pinned (OpenSpec.ofChange castRevealsWrong)

/- THE SECOND FORM. 'bulk': how many values and letters a reading holds, each counted each time it is reached (what is shared counts as often as it is met; a slice's spare places count too). A statement '..UptoSaid' is the law's where the arguments, and the package variables that the reading takes, are together of bulk at most 1048576: NARROWER than '..Said'. Prove '..Said' where nothing that the law and all that it calls make is longer than what came in: it says more and counts as full. Else prove '..UptoSaid'. A law counts once. -/
mutual
def uptoBulk {H : Type} : DataW H → Nat
  | .lit (.string bytes) => bytes.length + 1
  | .lit _ => 1
  | .nil => 1
  | .ptr d => uptoBulk d + 1
  | .slice elems spare => uptoBulkAll elems + uptoBulkAll spare + 1
  | .agg parts => uptoBulkAll parts + 1
  | .iface _ d => uptoBulk d + 1
  | .map entries => uptoBulkEntries entries + 1
  | .held _ => 1
def uptoBulkAll {H : Type} : List (DataW H) → Nat
  | [] => 0
  | d :: r => uptoBulk d + uptoBulkAll r
def uptoBulkEntries {H : Type} : List (Lit × DataW H) → Nat
  | [] => 0
  | x :: r => uptoBulkEntry x + uptoBulkEntries r
def uptoBulkEntry {H : Type} : Lit × DataW H → Nat
  | (.string bytes, d) => bytes.length + uptoBulk d + 1
  | (_, d) => uptoBulk d + 1
 end
def uptoSmall : (H : Type) → List (DataW H) → Bool := fun _ ds => decide (uptoBulkAll ds ≤ 1048576)
def OpenSpec.upto (s : _root_.Go.ChangeSpec) : _root_.Go.OpenSpec := { _root_.Go.OpenSpec.ofChange s with cond := some uptoSmall }

/-- 'sealringlaw15.CastSessions', WHERE WHAT IT READS IS OF BULK AT MOST 1048576: true; the input reads as it did. -/
def castSessionsUptoRow : OpenClaim := { program := "ytpjmdilpldaapaadoor", sum := "1e82a1b12018454c8990eda7108fdf495d5c0f7b300f3a69b59fadf37bfad1eb", func := "sealring/sealringlaw15.CastSessions", spec := "castSessions", inPlace := ["internal/bytealg.IndexByteString", "internal/bytealg.IndexString", "internal/bytealg.abigen_runtime_cmpstring"], unfollowed := true, recurses := true, named := ["internal/bytealg.MaxLen", "internal/strconv.uint64pow10", "math/bits.deBruijn32tab", "math/bits.deBruijn64tab"], apart := false, laid := [("math/bits.deBruijn32tab", laid_math_bits_deBruijn32tab), ("math/bits.deBruijn64tab", laid_math_bits_deBruijn64tab), ("internal/strconv.uint64pow10", laid_internal_strconv_uint64pow10)], narrowed := true }
def CastSessionsUptoSaid : Prop := castSessionsUptoRow.holds Tryd.pinned (OpenSpec.upto castSessionsSpec)

/-- 'sealringlaw15.CastInstance', WHERE WHAT IT READS IS OF BULK AT MOST 1048576: true; the input reads as it did. -/
def castInstanceUptoRow : OpenClaim := { program := "ytpjmdilpldaapaadoor", sum := "1e82a1b12018454c8990eda7108fdf495d5c0f7b300f3a69b59fadf37bfad1eb", func := "sealring/sealringlaw15.CastInstance", spec := "castInstance", inPlace := ["internal/bytealg.IndexByteString", "internal/bytealg.IndexString", "internal/bytealg.abigen_runtime_cmpstring"], unfollowed := true, recurses := true, named := ["internal/bytealg.MaxLen", "internal/strconv.uint64pow10", "math/bits.deBruijn32tab", "math/bits.deBruijn64tab"], loops := true, apart := false, laid := [("math/bits.deBruijn32tab", laid_math_bits_deBruijn32tab), ("math/bits.deBruijn64tab", laid_math_bits_deBruijn64tab), ("internal/strconv.uint64pow10", laid_internal_strconv_uint64pow10)], narrowed := true }
def CastInstanceUptoSaid : Prop := castInstanceUptoRow.holds Tryd.pinned (OpenSpec.upto castInstanceSpec)

/-- 'sealringlaw15.CastApart', WHERE WHAT IT READS IS OF BULK AT MOST 1048576: true; the input reads as it did. -/
def castApartUptoRow : OpenClaim := { program := "ytpjmdilpldaapaadoor", sum := "1e82a1b12018454c8990eda7108fdf495d5c0f7b300f3a69b59fadf37bfad1eb", func := "sealring/sealringlaw15.CastApart", spec := "castApart", inPlace := ["internal/bytealg.IndexByteString", "internal/bytealg.IndexString", "internal/bytealg.abigen_runtime_cmpstring"], unfollowed := true, recurses := true, named := ["internal/bytealg.MaxLen", "internal/strconv.uint64pow10", "math/bits.deBruijn32tab", "math/bits.deBruijn64tab"], loops := true, apart := false, laid := [("math/bits.deBruijn32tab", laid_math_bits_deBruijn32tab), ("math/bits.deBruijn64tab", laid_math_bits_deBruijn64tab), ("internal/strconv.uint64pow10", laid_internal_strconv_uint64pow10)], narrowed := true }
def CastApartUptoSaid : Prop := castApartUptoRow.holds Tryd.pinned (OpenSpec.upto castApartSpec)

/-- 'sealringlaw15.CastValid', WHERE WHAT IT READS IS OF BULK AT MOST 1048576: true; the input reads as it did. -/
def castValidUptoRow : OpenClaim := { program := "ytpjmdilpldaapaadoor", sum := "1e82a1b12018454c8990eda7108fdf495d5c0f7b300f3a69b59fadf37bfad1eb", func := "sealring/sealringlaw15.CastValid", spec := "castValid", inPlace := ["internal/bytealg.IndexByteString", "internal/bytealg.IndexString", "internal/bytealg.abigen_runtime_cmpstring"], unfollowed := true, recurses := true, named := ["internal/bytealg.MaxLen", "internal/strconv.uint64pow10", "math/bits.deBruijn32tab", "math/bits.deBruijn64tab"], apart := false, laid := [("math/bits.deBruijn32tab", laid_math_bits_deBruijn32tab), ("math/bits.deBruijn64tab", laid_math_bits_deBruijn64tab), ("internal/strconv.uint64pow10", laid_internal_strconv_uint64pow10)], narrowed := true }
def CastValidUptoSaid : Prop := castValidUptoRow.holds Tryd.pinned (OpenSpec.upto castValidSpec)

/-- 'sealringlaw15.CastKnows', WHERE WHAT IT READS IS OF BULK AT MOST 1048576: true; the input reads as it did. -/
def castKnowsUptoRow : OpenClaim := { program := "ytpjmdilpldaapaadoor", sum := "1e82a1b12018454c8990eda7108fdf495d5c0f7b300f3a69b59fadf37bfad1eb", func := "sealring/sealringlaw15.CastKnows", spec := "castKnows", inPlace := ["internal/bytealg.IndexByteString", "internal/bytealg.IndexString", "internal/bytealg.abigen_runtime_cmpstring"], unfollowed := true, recurses := true, named := ["internal/bytealg.MaxLen", "internal/strconv.uint64pow10", "math/bits.deBruijn32tab", "math/bits.deBruijn64tab"], apart := false, laid := [("math/bits.deBruijn32tab", laid_math_bits_deBruijn32tab), ("math/bits.deBruijn64tab", laid_math_bits_deBruijn64tab), ("internal/strconv.uint64pow10", laid_internal_strconv_uint64pow10)], narrowed := true }
def CastKnowsUptoSaid : Prop := castKnowsUptoRow.holds Tryd.pinned (OpenSpec.upto castKnowsSpec)

/-- 'sealringlaw15.CastOwns', WHERE WHAT IT READS IS OF BULK AT MOST 1048576: true; the input reads as it did. -/
def castOwnsUptoRow : OpenClaim := { program := "ytpjmdilpldaapaadoor", sum := "1e82a1b12018454c8990eda7108fdf495d5c0f7b300f3a69b59fadf37bfad1eb", func := "sealring/sealringlaw15.CastOwns", spec := "castOwns", inPlace := ["internal/bytealg.IndexByteString", "internal/bytealg.IndexString", "internal/bytealg.abigen_runtime_cmpstring"], unfollowed := true, recurses := true, named := ["internal/bytealg.MaxLen", "internal/strconv.uint64pow10", "math/bits.deBruijn32tab", "math/bits.deBruijn64tab"], apart := false, laid := [("math/bits.deBruijn32tab", laid_math_bits_deBruijn32tab), ("math/bits.deBruijn64tab", laid_math_bits_deBruijn64tab), ("internal/strconv.uint64pow10", laid_internal_strconv_uint64pow10)], narrowed := true }
def CastOwnsUptoSaid : Prop := castOwnsUptoRow.holds Tryd.pinned (OpenSpec.upto castOwnsSpec)

/-- 'sealringlaw15.CastSecrets', WHERE WHAT IT READS IS OF BULK AT MOST 1048576: true; the input reads as it did. -/
def castSecretsUptoRow : OpenClaim := { program := "ytpjmdilpldaapaadoor", sum := "1e82a1b12018454c8990eda7108fdf495d5c0f7b300f3a69b59fadf37bfad1eb", func := "sealring/sealringlaw15.CastSecrets", spec := "castSecrets", inPlace := ["internal/bytealg.IndexByteString", "internal/bytealg.IndexString", "internal/bytealg.abigen_runtime_cmpstring"], unfollowed := true, recurses := true, named := ["internal/bytealg.MaxLen", "internal/strconv.uint64pow10", "math/bits.deBruijn32tab", "math/bits.deBruijn64tab"], apart := false, laid := [("math/bits.deBruijn32tab", laid_math_bits_deBruijn32tab), ("math/bits.deBruijn64tab", laid_math_bits_deBruijn64tab), ("internal/strconv.uint64pow10", laid_internal_strconv_uint64pow10)], narrowed := true }
def CastSecretsUptoSaid : Prop := castSecretsUptoRow.holds Tryd.pinned (OpenSpec.upto castSecretsSpec)

/-- 'sealringlaw15.CastReveals', WHERE WHAT IT READS IS OF BULK AT MOST 1048576: true; the input reads as it did. -/
def castRevealsUptoRow : OpenClaim := { program := "ytpjmdilpldaapaadoor", sum := "1e82a1b12018454c8990eda7108fdf495d5c0f7b300f3a69b59fadf37bfad1eb", func := "sealring/sealringlaw15.CastReveals", spec := "castReveals", inPlace := ["internal/bytealg.IndexByteString", "internal/bytealg.IndexString", "internal/bytealg.abigen_runtime_cmpstring"], unfollowed := true, recurses := true, named := ["internal/bytealg.MaxLen", "internal/strconv.uint64pow10", "math/bits.deBruijn32tab", "math/bits.deBruijn64tab"], apart := false, laid := [("math/bits.deBruijn32tab", laid_math_bits_deBruijn32tab), ("math/bits.deBruijn64tab", laid_math_bits_deBruijn64tab), ("internal/strconv.uint64pow10", laid_internal_strconv_uint64pow10)], narrowed := true }
def CastRevealsUptoSaid : Prop := castRevealsUptoRow.holds Tryd.pinned (OpenSpec.upto castRevealsSpec)

end Rows
end Go.Proofs.YtpjmdilpldaapaaDoor
