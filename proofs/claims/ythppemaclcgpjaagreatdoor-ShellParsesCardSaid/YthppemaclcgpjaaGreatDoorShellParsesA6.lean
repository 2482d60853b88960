/- ShellParses, at every input: proved over a checked abstract run of the translated code; no condition. A part. -/
import Derived.KernelRfl
import Derived.Test.YthppemaclcgpjaaGreatDoorShellParsesA5
set_option linter.unusedSimpArgs false
set_option linter.unusedVariables false
set_option linter.constructorNameAsVariable false
set_option linter.defProp false
set_option maxRecDepth 1000000
namespace Sg
open _root_.Go (IntKind BinOp UnOp)
variable {Pg:PgT}
theorem Yea:crw 589 []=some (.agg Ydk):=by kernel_rfl
theorem YdL:crw 592 [.agg Ydk,.agg Ydg]=some (.tuple [.agg cu1,.slice 25 [],iz 0]):=by kernel_rfl
theorem YdM:crw 592 [.agg cu1,.agg Ydt]=some (.tuple [.agg cu2,Ydf,iz 0]):=by kernel_rfl
end Sg
