/- Parts. -/
import Derived.Test.YtkjojjopamaoiaaGreatRows
import Derived.JoinedOf
set_option linter.unusedSimpArgs false
set_option linter.unusedVariables false
set_option linter.unusedSectionVars false
set_option maxRecDepth 100000
set_option maxHeartbeats 8000000
open Array renaming size->Array.j,toList->Array.a
open Go.Proofs.Tryz renaming f8->oI
open Go.Proofs.YtkjojjopamaoiaaGreat.Rows renaming engineStaysRow->bQ,engineStaysSpec->jv
open Go.Proofs.YtkjojjopamaoiaaGreat.Tryz renaming pinned->eX
open String renaming toList->String.a
namespace Go.Proofs.YtkjojjopamaoiaaGreat
theorem Ua:(bQ.wf (OpenSpec.ofChange jv))=true:=by kernel_rfl
theorem Qw:(laidOutB eX.checked.prog)=true:=by kernel_rfl
theorem Me:(mapsRowed eX.checked.prog)=true:=by kernel_rfl
theorem Ub:(oI.params.all (eX.checked.prog.readableRec ·))=true:=by kernel_rfl
theorem Uc:(namedTie eX.checked.prog bQ.named jv.vars)=true:=by kernel_rfl
theorem Ud:((bQ.stops==[]))=true:=by kernel_rfl
theorem Ue:((eX.checked.prog.stops==[]))=true:=by kernel_rfl
theorem Uf:((bQ.knobs==[]))=true:=by kernel_rfl
theorem Ug:((eX.checked.prog.stopKnobs==[]))=true:=by kernel_rfl
theorem Qx:((bQ.inPlace==eX.checked.prog.inPlace 8))=true:=by kernel_rfl
theorem Qy:((bQ.unfollowed==eX.checked.prog.unfollowed 8))=true:=by kernel_rfl
theorem Qz:((bQ.recurses==eX.checked.prog.recurses 8))=true:=by kernel_rfl
theorem QA:((bQ.named==eX.checked.prog.varsNamed 8))=true:=by kernel_rfl
theorem QB:((bQ.maps==(oI.params.a++jv.plain.varTypes eX.checked.prog).any (eX.checked.prog.mapsRec ·)))=true:=by kernel_rfl
theorem QC:((bQ.ifaces==(oI.params.a++jv.plain.varTypes eX.checked.prog).any (eX.checked.prog.ifacesRec ·)))=true:=by kernel_rfl
theorem QD:((bQ.mapsOut==eX.checked.prog.mapsAmong oI.resultTypes.a))=true:=by kernel_rfl
theorem QE:((bQ.loops==(oI.params.a++jv.plain.varTypes eX.checked.prog).any (eX.checked.prog.loopsFrom ·)))=true:=by kernel_rfl
theorem QF:((bQ.wideKeys==(oI.params.a++jv.plain.varTypes eX.checked.prog++oI.resultTypes.a).any (eX.checked.prog.wideKeysFrom ·)))=true:=by kernel_rfl
theorem QG:(jv.vars.all (eX.checked.prog.varReadable ·))=true:=by kernel_rfl
theorem QH:(oI.resultTypes.all (fun t=>eX.checked.prog.readableRec t&&decide (t<eX.checked.prog.types.j)))=true:=by kernel_rfl
theorem QI:((bQ.ifacesOut==oI.resultTypes.a.any (eX.checked.prog.ifacesRec ·)))=true:=by kernel_rfl
theorem QJ:((bQ.loopsOut==oI.resultTypes.a.any (eX.checked.prog.loopsFrom ·)))=true:=by kernel_rfl
theorem Uh:((bQ.plainKeys==eX.checked.prog.plainKeys))=true:=by kernel_rfl
theorem QK:(bQ.shortTexts.isNone)=true:=by kernel_rfl
theorem QL:(eX.checked.prog.stopsHeard)=true:=by kernel_rfl
theorem QM:(eX.checked.prog.mayEnter)=true:=by kernel_rfl
theorem QN:((bQ.lifted==eX.checked.prog.liftsFinal))=true:=by kernel_rfl
theorem QO:((eX.checked.prog.make==some bQ.make))=true:=by kernel_rfl
theorem QS:((bQ.kinds==(if bQ.domain.isEmpty then []else oI.params.a.map fun t=>match eX.checked.prog.underlying t with|some (.int k)=>some k|_=>none)))=true:=by kernel_rfl
theorem QT:((bQ.pinned==bQ.pinnedBy))=true:=by kernel_rfl
theorem QU:((bQ.veiled==(oI.params.a++jv.plain.varTypes eX.checked.prog++oI.resultTypes.a).any (eX.checked.prog.veiledRec ·)))=true:=by kernel_rfl
theorem QV:(bQ.veiledFits eX.checked.prog oI.params.a (oI.params.a++jv.plain.varTypes eX.checked.prog++oI.resultTypes.a))=true:=by kernel_rfl
theorem KU:joinedFacts eX.checked.prog 8 oI jv bQ=true:=by
 unfold joinedFacts;rw[Ua,Qw,Me,Ub,Uc,Ud,Ue,Uf,Ug,Qx,Qy,Qz,QA,QB,QC,QD,QE,QF,QG,QH,QI,QJ,Uh,QK,QL,QM,QN,QO,QT,QU,QV];simp only[Bool.true_and,Bool.and_true];exact QS
theorem Om:eX.checked.prog.funcNamed bQ.func=some 8:=by kernel_rfl
theorem Oo:oI.isInstance eX.checked.prog bQ.origin bQ.targs:=of_decide_eq_true (by kernel_rfl)
theorem Oq:oI.isWrapper eX.checked.prog bQ.wrapper bQ.mainSum:=by unfold Func.isWrapper;first|(rw[if_pos (by decide +kernel)];kernel_rfl)|(rw[if_neg (by decide +kernel)];exact⟨rfl,rfl⟩)
end Go.Proofs.YtkjojjopamaoiaaGreat
