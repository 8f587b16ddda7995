/- Parts. -/
import Derived.Test.YtkjojjopamaoiaaGreatRows
import Derived.JoinedOf
set_option linter.unusedSimpArgs false
set_option linter.unusedVariables false
set_option linter.unusedSectionVars false
set_option maxRecDepth 100000
set_option maxHeartbeats 8000000
open Array renaming size->Array.j,toList->Array.a
open Go.Proofs.Tryz renaming f11->nJ
open Go.Proofs.YtkjojjopamaoiaaGreat.Rows renaming engineSendsRow->bV,engineSendsSpec->jK
open Go.Proofs.YtkjojjopamaoiaaGreat.Tryz renaming pinned->fF
open String renaming toList->String.a
namespace Go.Proofs.YtkjojjopamaoiaaGreat
theorem Va:(bV.wf (OpenSpec.ofChange jK))=true:=by kernel_rfl
theorem RJ:(laidOutB fF.checked.prog)=true:=by kernel_rfl
theorem Nv:(mapsRowed fF.checked.prog)=true:=by kernel_rfl
theorem Vb:(nJ.params.all (fF.checked.prog.readableRec ·))=true:=by kernel_rfl
theorem Vd:(namedTie fF.checked.prog bV.named jK.vars)=true:=by kernel_rfl
theorem Ve:((bV.stops==[]))=true:=by kernel_rfl
theorem Vf:((fF.checked.prog.stops==[]))=true:=by kernel_rfl
theorem Vg:((bV.knobs==[]))=true:=by kernel_rfl
theorem Vh:((fF.checked.prog.stopKnobs==[]))=true:=by kernel_rfl
theorem RV:((bV.inPlace==fF.checked.prog.inPlace 11))=true:=by kernel_rfl
theorem RX:((bV.unfollowed==fF.checked.prog.unfollowed 11))=true:=by kernel_rfl
theorem RY:((bV.recurses==fF.checked.prog.recurses 11))=true:=by kernel_rfl
theorem RZ:((bV.named==fF.checked.prog.varsNamed 11))=true:=by kernel_rfl
theorem Sb:((bV.maps==(nJ.params.a++jK.plain.varTypes fF.checked.prog).any (fF.checked.prog.mapsRec ·)))=true:=by kernel_rfl
theorem Sc:((bV.ifaces==(nJ.params.a++jK.plain.varTypes fF.checked.prog).any (fF.checked.prog.ifacesRec ·)))=true:=by kernel_rfl
theorem Sd:((bV.mapsOut==fF.checked.prog.mapsAmong nJ.resultTypes.a))=true:=by kernel_rfl
theorem Sg:((bV.loops==(nJ.params.a++jK.plain.varTypes fF.checked.prog).any (fF.checked.prog.loopsFrom ·)))=true:=by kernel_rfl
theorem Si:((bV.wideKeys==(nJ.params.a++jK.plain.varTypes fF.checked.prog++nJ.resultTypes.a).any (fF.checked.prog.wideKeysFrom ·)))=true:=by kernel_rfl
theorem Sj:(jK.vars.all (fF.checked.prog.varReadable ·))=true:=by kernel_rfl
theorem Sk:(nJ.resultTypes.all (fun t=>fF.checked.prog.readableRec t&&decide (t<fF.checked.prog.types.j)))=true:=by kernel_rfl
theorem Sm:((bV.ifacesOut==nJ.resultTypes.a.any (fF.checked.prog.ifacesRec ·)))=true:=by kernel_rfl
theorem Sn:((bV.loopsOut==nJ.resultTypes.a.any (fF.checked.prog.loopsFrom ·)))=true:=by kernel_rfl
theorem Vi:((bV.plainKeys==fF.checked.prog.plainKeys))=true:=by kernel_rfl
theorem Sq:(bV.shortTexts.isNone)=true:=by kernel_rfl
theorem Sr:(fF.checked.prog.stopsHeard)=true:=by kernel_rfl
theorem Sv:(fF.checked.prog.mayEnter)=true:=by kernel_rfl
theorem Sw:((bV.lifted==fF.checked.prog.liftsFinal))=true:=by kernel_rfl
theorem Sy:((fF.checked.prog.make==some bV.make))=true:=by kernel_rfl
theorem Sz:((bV.kinds==(if bV.domain.isEmpty then []else nJ.params.a.map fun t=>match fF.checked.prog.underlying t with|some (.int k)=>some k|_=>none)))=true:=by kernel_rfl
theorem SA:((bV.pinned==bV.pinnedBy))=true:=by kernel_rfl
theorem SC:((bV.veiled==(nJ.params.a++jK.plain.varTypes fF.checked.prog++nJ.resultTypes.a).any (fF.checked.prog.veiledRec ·)))=true:=by kernel_rfl
theorem SE:(bV.veiledFits fF.checked.prog nJ.params.a (nJ.params.a++jK.plain.varTypes fF.checked.prog++nJ.resultTypes.a))=true:=by kernel_rfl
theorem Ml:joinedFacts fF.checked.prog 11 nJ jK bV=true:=by
 unfold joinedFacts;rw[Va,RJ,Nv,Vb,Vd,Ve,Vf,Vg,Vh,RV,RX,RY,RZ,Sb,Sc,Sd,Sg,Si,Sj,Sk,Sm,Sn,Vi,Sq,Sr,Sv,Sw,Sy,SA,SC,SE];simp only[Bool.true_and,Bool.and_true];exact Sz
theorem PY:fF.checked.prog.funcNamed bV.func=some 11:=by kernel_rfl
theorem P5:nJ.isInstance fF.checked.prog bV.origin bV.targs:=of_decide_eq_true (by kernel_rfl)
theorem P7:nJ.isWrapper fF.checked.prog bV.wrapper bV.mainSum:=by unfold Func.isWrapper;first|(rw[if_pos (by decide +kernel)];kernel_rfl)|(rw[if_neg (by decide +kernel)];exact⟨rfl,rfl⟩)
end Go.Proofs.YtkjojjopamaoiaaGreat
