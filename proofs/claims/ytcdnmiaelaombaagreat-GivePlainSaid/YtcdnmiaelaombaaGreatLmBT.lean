/- The statements, joined: what is told by the program, by the model. -/
import Derived.Test.YtcdnmiaelaombaaGreatLmBJ
import Derived.Test.YtcdnmiaelaombaaGreatLmBS
import Derived.Test.YtcdnmiaelaombaaGreatRows
import Derived.ProofKit
set_option linter.unusedVariables false
set_option linter.unusedSimpArgs false
set_option linter.unnecessarySimpa false
set_option linter.all false
namespace Go.Proofs.YtcdnmiaelaombaaGreat
open Go Go.Lm Go.ChangeShapes Go.WideShapes Go.ChangeAt Go.RowKit
theorem own : ownKnob Tryz.prog.godebug = none := by kernel_rfl
theorem laidOut : laidOutB Tryz.prog = true := by kernel_rfl
def Ty : Tys := { attr := 40, attrs := 36, int := 3, ints := 24, node := 38, tree := 23, shown := 58, shows := 25, view := 27 }
theorem tyOk : Ty.Ok Tryz.prog := Tys.ok_spec (by kernel_rfl)
end Go.Proofs.YtcdnmiaelaombaaGreat
