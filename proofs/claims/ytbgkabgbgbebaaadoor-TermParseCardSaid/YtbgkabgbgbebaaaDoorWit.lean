/- A world that the rows' lists fit: the package variable words holds its six words. -/
import Derived.Test.YtbgkabgbgbebaaaDoorShut
import Derived.Test.YtbgkabgbgbebaaaDoorRows
import Derived.Lib.LaidIn
import Derived.Deep.DeepHandedRow
import Derived.Deep.DeepWitnessRowRef
namespace Go.Proofs.YtbgkabgbgbebaaaDoor
open Go.ChangeShapes Go.WideShapes Go.RowKit

def putWords (n : Nat) : Obj → Obj
  | .cells _ t frozen => .cells #[.slice (some ⟨n, 0, none⟩) 6 6] t frozen
  | o => o
noncomputable def laidWorld (os : Os) : World :=
  let w0 := World.holding Tryd.prog os ⟨#[], #[], []⟩
  let h := (w0.heap.modify 0 (putWords w0.heap.size)).push (.cells (wordList.map Value.string).toArray 9)
  { w0 with heap := h }
def zeroArg : Value := .agg #[.int .i64 0, .string ⟨#[]⟩, .int .i64 0, .slice none 0 0]
def zeroRead (H : Type) : DataW H := .agg [.lit (.int .i64 0), .lit (.string []), .lit (.int .i64 0), .nil]
set_option maxRecDepth 100000 in
theorem laid_met (os : Os) (args : Array Value) : laidMet Tryd.prog laidWords ((laidWorld os).forCall (fun _ _ => 0) ⟨#[], args, []⟩).memory :=
  laidMet_of_run' 8 (by kernel_rfl) (by kernel_rfl)
end Go.Proofs.YtbgkabgbgbebaaaDoor
