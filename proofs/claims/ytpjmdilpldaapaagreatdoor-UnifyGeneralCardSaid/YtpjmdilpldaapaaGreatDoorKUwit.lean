/- A world that the rows' lists fit: the tables of the library hold what its text lays. -/
import Derived.Test.YtpjmdilpldaapaaGreatDoorKGi
import Derived.Test.YtpjmdilpldaapaaGreatDoorRows
set_option maxRecDepth 100000
namespace Go.Proofs.YtpjmdilpldaapaaGreatDoor
open Go.ChangeShapes Go.WideShapes Go.RowKit
def qib : DataW Unit → Array Value
 | .agg l => (l.map fun | .lit (.int k z) => Value.int k z | _ => undef).toArray
 | _ => #[]
def putTab (c : Array Value) : Obj → Obj
 | .cells _ t frozen => .cells c t frozen
 | o => o
noncomputable def laidWorld (os : Os) : World :=
 let w0 := World.holding Tryz.prog os ⟨#[], #[], []⟩
 { w0 with heap := ((w0.heap.modify 1 (putTab (qib Rows.laid_internal_strconv_uint64pow10))).modify 2 (putTab (qib Rows.laid_math_bits_deBruijn32tab))).modify 3 (putTab (qib Rows.laid_math_bits_deBruijn64tab)) }
theorem laid_met (os : Os) (args : Array Value) : laidMet Tryz.prog Rows.unifyTermsRow.laid ((laidWorld os).forCall (fun _ _ => 0) ⟨#[], args, []⟩).memory :=
 laidMet_of_run' 8 (by kernel_rfl) (by kernel_rfl)
end Go.Proofs.YtpjmdilpldaapaaGreatDoor
