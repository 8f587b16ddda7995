/- Parts. -/
import Derived.Test.YtkjojjopamaoiaaGreatRows
import Derived.JoinedOf
set_option linter.unusedSimpArgs false
set_option linter.unusedVariables false
set_option linter.unusedSectionVars false
set_option maxRecDepth 100000
set_option maxHeartbeats 8000000
open Go.Proofs.Tryz renaming f9->oO
open Go.Proofs.YtkjojjopamaoiaaGreat.Rows renaming engineSplitsRow->bL,engineSplitsSpec->je
open Go.Proofs.YtkjojjopamaoiaaGreat.Tryz renaming pinned->eY
namespace Go.Proofs.YtkjojjopamaoiaaGreat
theorem Ui:(bL.wf (OpenSpec.ofChange je))=true:=by kernel_rfl
theorem QL:(laidOutB eY.checked.prog)=true:=by kernel_rfl
theorem MO:(mapsRowed eY.checked.prog)=true:=by kernel_rfl
theorem Uj:(oO.params.all (eY.checked.prog.readableRec ·))=true:=by kernel_rfl
theorem Uk:(namedTie eY.checked.prog bL.named je.vars)=true:=by kernel_rfl
theorem Ul:((bL.stops==[]))=true:=by kernel_rfl
theorem Um:((eY.checked.prog.stops==[]))=true:=by kernel_rfl
theorem Un:((bL.knobs==[]))=true:=by kernel_rfl
theorem Uo:((eY.checked.prog.stopKnobs==[]))=true:=by kernel_rfl
theorem QM:((bL.inPlace==eY.checked.prog.inPlace 9))=true:=by kernel_rfl
theorem QN:((bL.unfollowed==eY.checked.prog.unfollowed 9))=true:=by kernel_rfl
theorem QO:((bL.recurses==eY.checked.prog.recurses 9))=true:=by kernel_rfl
theorem QS:((bL.named==eY.checked.prog.varsNamed 9))=true:=by kernel_rfl
theorem QT:((bL.maps==(oO.params.toList++je.plain.varTypes eY.checked.prog).any (eY.checked.prog.mapsRec ·)))=true:=by kernel_rfl
theorem QU:((bL.ifaces==(oO.params.toList++je.plain.varTypes eY.checked.prog).any (eY.checked.prog.ifacesRec ·)))=true:=by kernel_rfl
theorem QV:((bL.mapsOut==eY.checked.prog.mapsAmong oO.resultTypes.toList))=true:=by kernel_rfl
theorem QW:((bL.loops==(oO.params.toList++je.plain.varTypes eY.checked.prog).any (eY.checked.prog.loopsFrom ·)))=true:=by kernel_rfl
theorem QX:((bL.wideKeys==(oO.params.toList++je.plain.varTypes eY.checked.prog++oO.resultTypes.toList).any (eY.checked.prog.wideKeysFrom ·)))=true:=by kernel_rfl
theorem QY:(je.vars.all (eY.checked.prog.varReadable ·))=true:=by kernel_rfl
theorem QZ:(oO.resultTypes.all (fun t=>eY.checked.prog.readableRec t&&decide (t<eY.checked.prog.types.size)))=true:=by kernel_rfl
theorem Q7:((bL.ifacesOut==oO.resultTypes.toList.any (eY.checked.prog.ifacesRec ·)))=true:=by kernel_rfl
theorem Q8:((bL.loopsOut==oO.resultTypes.toList.any (eY.checked.prog.loopsFrom ·)))=true:=by kernel_rfl
theorem Uq:((bL.plainKeys==eY.checked.prog.plainKeys))=true:=by kernel_rfl
theorem Q9:(bL.shortTexts.isNone)=true:=by kernel_rfl
theorem Ra:(eY.checked.prog.stopsHeard)=true:=by kernel_rfl
theorem Rb:(eY.checked.prog.mayEnter)=true:=by kernel_rfl
theorem Rf:((bL.lifted==eY.checked.prog.liftsFinal))=true:=by kernel_rfl
theorem Rh:((eY.checked.prog.make==some bL.make))=true:=by kernel_rfl
theorem Ri:((bL.kinds==(if bL.domain.isEmpty then []else oO.params.toList.map fun t=>match eY.checked.prog.underlying t with|some (.int k)=>some k|_=>none)))=true:=by kernel_rfl
theorem Rj:((bL.pinned==bL.pinnedBy))=true:=by kernel_rfl
theorem Rk:((bL.veiled==(oO.params.toList++je.plain.varTypes eY.checked.prog++oO.resultTypes.toList).any (eY.checked.prog.veiledRec ·)))=true:=by kernel_rfl
theorem Rl:(bL.veiledFits eY.checked.prog oO.params.toList (oO.params.toList++je.plain.varTypes eY.checked.prog++oO.resultTypes.toList))=true:=by kernel_rfl
theorem Lv:joinedFacts eY.checked.prog 9 oO je bL=true:=by
 unfold joinedFacts;rw[Ui,QL,MO,Uj,Uk,Ul,Um,Un,Uo,QM,QN,QO,QS,QT,QU,QV,QW,QX,QY,QZ,Q7,Q8,Uq,Q9,Ra,Rb,Rf,Rh,Rj,Rk,Rl];simp only[Bool.true_and,Bool.and_true];exact Ri
theorem Oo:eY.checked.prog.funcNamed bL.func=some 9:=by kernel_rfl
theorem Oq:oO.isInstance eY.checked.prog bL.origin bL.targs:=of_decide_eq_true (by kernel_rfl)
theorem Ot:oO.isWrapper eY.checked.prog bL.wrapper bL.mainSum:=by unfold Func.isWrapper;first|(rw[if_pos (by decide +kernel)];kernel_rfl)|(rw[if_neg (by decide +kernel)];exact⟨rfl,rfl⟩)
end Go.Proofs.YtkjojjopamaoiaaGreat
