/- ClusterRefuses, at every input: proved over a checked abstract run of the translated code; no condition. A part. -/
import Derived.KernelRfl
import Derived.Test.YtefmddahijpliaaGreatDoorClusterRefusesA9
set_option linter.unusedSimpArgs false
set_option linter.unusedVariables false
set_option linter.constructorNameAsVariable false
set_option linter.defProp false
set_option maxRecDepth 1000000
namespace Sg
open _root_.Go (IntKind BinOp UnOp)
variable {Pg:PgT}
theorem Yeu:cru 592 [.agg cu2,.agg Ydz]=some (.tuple [.agg cu3,.slice 25 [],iz 0]):=by kernel_rfl
theorem Yev:cru 592 [.agg cu3,.agg Ydz]=some (.tuple [.agg cu4,.slice 25 [],iz 0]):=by kernel_rfl
theorem Ye1:cru 595 [.agg cu4,.str [97]]=some (.tuple [(.slice 5 [[iz 0,iz 1,iz 1,.bool false,.str [120]]]),(.agg [iz 0,iz 0,iz 0]),.bool true]):=by kernel_rfl
end Sg
