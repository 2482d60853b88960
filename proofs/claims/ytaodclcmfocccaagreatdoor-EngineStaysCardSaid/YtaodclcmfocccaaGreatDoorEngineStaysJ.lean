/- EngineStays: the closed facts of its row, limb by limb. -/
import Derived.Test.YtaodclcmfocccaaGreatDoorChecked
import Derived.Test.YtaodclcmfocccaaGreatDoorRows
import Derived.ProofKit
import Derived.OpenShut
namespace Go.Proofs.YtaodclcmfocccaaGreatDoor
open Go Go.RowKit
set_option maxRecDepth 100000
theorem fand {x y : Bool} (hx : x = true) (hy : y = true) : (x && y) = true := by rw [hx, hy]; rfl
theorem fact0 : (Rows.engineStaysRow.wf (OpenSpec.ofChange (OpenSpec.ofChange Rows.engineStaysSpec).bare)) = true := by kernel_rfl
theorem fact1 : (laidOutB Tryz.pinned.checked.prog) = true := by kernel_rfl
theorem fact2 : (mapsRowed Tryz.pinned.checked.prog) = true := by kernel_rfl
theorem fact3 : (Tryz.f11.params.all (Tryz.pinned.checked.prog.readableRec ·)) = true := by kernel_rfl
theorem fact4 : (namedTie Tryz.pinned.checked.prog Rows.engineStaysRow.named (OpenSpec.ofChange Rows.engineStaysSpec).bare.vars) = true := by kernel_rfl
theorem fact5 : ((Rows.engineStaysRow.stops == [])) = true := by kernel_rfl
theorem fact6 : ((Tryz.pinned.checked.prog.stops == [])) = true := by kernel_rfl
theorem fact7 : ((Rows.engineStaysRow.knobs == [])) = true := by kernel_rfl
theorem fact8 : ((Tryz.pinned.checked.prog.stopKnobs == [])) = true := by kernel_rfl
theorem fact9 : ((Rows.engineStaysRow.inPlace == Tryz.pinned.checked.prog.inPlace 11)) = true := by kernel_rfl
theorem fact10 : ((Rows.engineStaysRow.unfollowed == Tryz.pinned.checked.prog.unfollowed 11)) = true := by kernel_rfl
theorem fact11 : ((Rows.engineStaysRow.recurses == Tryz.pinned.checked.prog.recurses 11)) = true := by kernel_rfl
theorem fact12 : ((Rows.engineStaysRow.named == Tryz.pinned.checked.prog.varsNamed 11)) = true := by kernel_rfl
theorem fact13 : ((Rows.engineStaysRow.maps == (Tryz.f11.params.toList ++ (OpenSpec.ofChange Rows.engineStaysSpec).bare.plain.varTypes Tryz.pinned.checked.prog).any (Tryz.pinned.checked.prog.mapsRec ·))) = true := by kernel_rfl
theorem fact14 : ((Rows.engineStaysRow.ifaces == (Tryz.f11.params.toList ++ (OpenSpec.ofChange Rows.engineStaysSpec).bare.plain.varTypes Tryz.pinned.checked.prog).any (Tryz.pinned.checked.prog.ifacesRec ·))) = true := by kernel_rfl
theorem fact15 : ((Rows.engineStaysRow.mapsOut == Tryz.pinned.checked.prog.mapsAmong Tryz.f11.resultTypes.toList)) = true := by kernel_rfl
theorem fact16 : ((Rows.engineStaysRow.loops == (Tryz.f11.params.toList ++ (OpenSpec.ofChange Rows.engineStaysSpec).bare.plain.varTypes Tryz.pinned.checked.prog).any (Tryz.pinned.checked.prog.loopsFrom ·))) = true := by kernel_rfl
theorem fact17 : ((Rows.engineStaysRow.wideKeys == (Tryz.f11.params.toList ++ (OpenSpec.ofChange Rows.engineStaysSpec).bare.plain.varTypes Tryz.pinned.checked.prog ++ Tryz.f11.resultTypes.toList).any (Tryz.pinned.checked.prog.wideKeysFrom ·))) = true := by kernel_rfl
theorem fact18 : ((OpenSpec.ofChange Rows.engineStaysSpec).bare.vars.all (Tryz.pinned.checked.prog.varReadable ·)) = true := by kernel_rfl
theorem fact19 : (Tryz.f11.resultTypes.all (fun t => Tryz.pinned.checked.prog.readableRec t && decide (t < Tryz.pinned.checked.prog.types.size))) = true := by kernel_rfl
theorem fact20 : ((Rows.engineStaysRow.ifacesOut == Tryz.f11.resultTypes.toList.any (Tryz.pinned.checked.prog.ifacesRec ·))) = true := by kernel_rfl
theorem fact21 : ((Rows.engineStaysRow.loopsOut == Tryz.f11.resultTypes.toList.any (Tryz.pinned.checked.prog.loopsFrom ·))) = true := by kernel_rfl
theorem fact22 : ((Rows.engineStaysRow.plainKeys == Tryz.pinned.checked.prog.plainKeys)) = true := by kernel_rfl
theorem fact23 : (Rows.engineStaysRow.shortTexts.isNone) = true := by kernel_rfl
theorem fact24 : (Tryz.pinned.checked.prog.stopsHeard) = true := by kernel_rfl
theorem fact25 : (Tryz.pinned.checked.prog.mayEnter) = true := by kernel_rfl
theorem fact26 : ((Rows.engineStaysRow.lifted == Tryz.pinned.checked.prog.liftsFinal)) = true := by kernel_rfl
theorem fact27 : ((Tryz.pinned.checked.prog.make == some Rows.engineStaysRow.make)) = true := by kernel_rfl
theorem fact28 : ((Rows.engineStaysRow.kinds == (if Rows.engineStaysRow.domain.isEmpty then [] else Tryz.f11.params.toList.map fun t => match Tryz.pinned.checked.prog.underlying t with | some (.int k) => some k | _ => none))) = true := by kernel_rfl
theorem fact29 : ((Rows.engineStaysRow.pinned == Rows.engineStaysRow.pinnedBy)) = true := by kernel_rfl
theorem fact30 : ((Rows.engineStaysRow.veiled == (Tryz.f11.params.toList ++ (OpenSpec.ofChange Rows.engineStaysSpec).bare.plain.varTypes Tryz.pinned.checked.prog ++ Tryz.f11.resultTypes.toList).any (Tryz.pinned.checked.prog.veiledRec ·))) = true := by kernel_rfl
theorem fact31 : (Rows.engineStaysRow.veiledFits Tryz.pinned.checked.prog Tryz.f11.params.toList (Tryz.f11.params.toList ++ (OpenSpec.ofChange Rows.engineStaysSpec).bare.plain.varTypes Tryz.pinned.checked.prog ++ Tryz.f11.resultTypes.toList)) = true := by kernel_rfl
theorem facts : joinedFacts Tryz.pinned.checked.prog 11 Tryz.f11 (OpenSpec.ofChange Rows.engineStaysSpec).bare Rows.engineStaysRow = true := fand (fand (fand (fand (fand (fand (fand (fand (fand (fand (fand (fand (fand (fand (fand (fand (fand (fand (fand (fand (fand (fand (fand (fand (fand (fand (fand (fand (fand (fand (fand fact0 fact1) fact2) fact3) fact4) fact5) fact6) fact7) fact8) fact9) fact10) fact11) fact12) fact13) fact14) fact15) fact16) fact17) fact18) fact19) fact20) fact21) fact22) fact23) fact24) fact25) fact26) fact27) fact28) fact29) fact30) fact31
end Go.Proofs.YtaodclcmfocccaaGreatDoor
