/- A world that the row's list fits: it is empty. -/
import Derived.Test.YtjhjoiplpmjepaaGreatW0
import Derived.Test.YtjhjoiplpmjepaaGreatRows
import Derived.Test.YtjhjoiplpmjepaaGreatWGi
set_option maxRecDepth 100000
set_option linter.unusedVariables false
set_option linter.unusedSimpArgs false
namespace Go.Proofs.YtjhjoiplpmjepaaGreat
open Go.ChangeShapes Go.WideShapes Go.RowKit
noncomputable def laidWorld (os:Os):World:=World.holding Tryz.prog os ⟨#[],#[],[]⟩
theorem laid_met (os:Os) (args:Array Value):laidMet Tryz.prog Rows.topRewritingRow.laid ((laidWorld os).forCall (fun _ _=>0) ⟨#[],args,[]⟩).memory:=
 laidMet_of_run' 8 (by kernel_rfl) (by kernel_rfl)
end Go.Proofs.YtjhjoiplpmjepaaGreat
