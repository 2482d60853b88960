/- ClusterRefuses, at every input: proved over a checked abstract run of the translated code; no condition. A part. -/
import Derived.KernelRfl
import Derived.Test.YtefmddahijpliaaGreatDoorClusterRefusesA6
set_option linter.unusedSimpArgs false
set_option linter.unusedVariables false
set_option linter.constructorNameAsVariable false
set_option linter.defProp false
set_option maxRecDepth 1000000
namespace Sg
open _root_.Go (IntKind BinOp UnOp)
variable {Pg:PgT}
theorem Yer:cru 589 []=some (.agg Ybv):=by kernel_rfl
theorem Ye0:((cru 593 []).bind fun p=>bif p.dat then cru 605 [.agg Ybv,p] else none)=some (.bool true):=by kernel_rfl
theorem Ye2:cru 596 [.agg Ybv]=some (.bool true):=by kernel_rfl
theorem Ye6:([1,2,3,4,5,6,7,8].all fun w=>YcQ (cru 628 [.agg (cl w)])&&isZ 0 (cru 626 [.agg (cl w)]))=true:=by decide +kernel
theorem Ye4:([1,2,3,4,5,6,7,8].all fun w=>Ybq false (cru 617 [Ycr,iz w]))=true:=by decide +kernel
theorem Ye5:([0,1,2,3].all fun w=>Ybq true (cru 619 [Ycr,iz w]))=true:=by decide +kernel
theorem Ye3:Ybq false (cru 603 [Ycr])=true:=by decide +kernel
theorem Yeq:([Ycy,YcR,YcS,YcT].all fun n=>YcQ (cru 556 [.agg n])&&isZ 0 (cru 558 [.agg n]))=true:=by decide +kernel
theorem YeZ:([fm0,fm1,fm2,fm3].all fun f=>Ydu f (cru 564 [.agg [.str f,.str [],iz 0,.bool false,.bool false]]))=true:=by decide +kernel
theorem YeY:cru 517 [.str (body fm0)]=some (.tuple [.agg ((Ycy.drop 8).take 29),iz 0]):=by kernel_rfl
theorem Yen:cru 512 [.str (body fm1)]=some (.tuple [.agg (Yd0 YcR),iz 0]):=by kernel_rfl
theorem Yeo:cru 512 [.str (body fm2)]=some (.tuple [.agg (Yd0 YcS),iz 0]):=by kernel_rfl
theorem Yep:cru 512 [.str (body fm3)]=some (.tuple [.agg (Yd0 YcT),iz 0]):=by kernel_rfl
end Sg
