/- Parts. -/
import Derived.Test.YtkjojjopamaoiaaGreatRows
import Derived.JoinedOf
set_option linter.unusedSimpArgs false
set_option linter.unusedVariables false
set_option linter.unusedSectionVars false
set_option maxRecDepth 100000
set_option maxHeartbeats 8000000
open Array renaming size->Array.j,toList->Array.a
open Go.Proofs.Tryz renaming f6->oK
open Go.Proofs.YtkjojjopamaoiaaGreat.Rows renaming engineCountsRow->bL,engineCountsSpec->jm
open Go.Proofs.YtkjojjopamaoiaaGreat.Tryz renaming pinned->fq
open String renaming toList->String.a
namespace Go.Proofs.YtkjojjopamaoiaaGreat
theorem RY:(bL.wf (OpenSpec.ofChange jm))=true:=by kernel_rfl
theorem Ph:(laidOutB fq.checked.prog)=true:=by kernel_rfl
theorem Lf:(mapsRowed fq.checked.prog)=true:=by kernel_rfl
theorem RZ:(oK.params.all (fq.checked.prog.readableRec ·))=true:=by kernel_rfl
theorem Sb:(namedTie fq.checked.prog bL.named jm.vars)=true:=by kernel_rfl
theorem Sc:((bL.stops==[]))=true:=by kernel_rfl
theorem Sd:((fq.checked.prog.stops==[]))=true:=by kernel_rfl
theorem Sg:((bL.knobs==[]))=true:=by kernel_rfl
theorem Si:((fq.checked.prog.stopKnobs==[]))=true:=by kernel_rfl
theorem Pj:((bL.inPlace==fq.checked.prog.inPlace 6))=true:=by kernel_rfl
theorem Pm:((bL.unfollowed==fq.checked.prog.unfollowed 6))=true:=by kernel_rfl
theorem Pn:((bL.recurses==fq.checked.prog.recurses 6))=true:=by kernel_rfl
theorem Po:((bL.named==fq.checked.prog.varsNamed 6))=true:=by kernel_rfl
theorem Pp:((bL.maps==(oK.params.a++jm.plain.varTypes fq.checked.prog).any (fq.checked.prog.mapsRec ·)))=true:=by kernel_rfl
theorem Pq:((bL.ifaces==(oK.params.a++jm.plain.varTypes fq.checked.prog).any (fq.checked.prog.ifacesRec ·)))=true:=by kernel_rfl
theorem Pv:((bL.mapsOut==fq.checked.prog.mapsAmong oK.resultTypes.a))=true:=by kernel_rfl
theorem Pw:((bL.loops==(oK.params.a++jm.plain.varTypes fq.checked.prog).any (fq.checked.prog.loopsFrom ·)))=true:=by kernel_rfl
theorem Px:((bL.wideKeys==(oK.params.a++jm.plain.varTypes fq.checked.prog++oK.resultTypes.a).any (fq.checked.prog.wideKeysFrom ·)))=true:=by kernel_rfl
theorem Py:(jm.vars.all (fq.checked.prog.varReadable ·))=true:=by kernel_rfl
theorem PE:(oK.resultTypes.all (fun t=>fq.checked.prog.readableRec t&&decide (t<fq.checked.prog.types.j)))=true:=by kernel_rfl
theorem PG:((bL.ifacesOut==oK.resultTypes.a.any (fq.checked.prog.ifacesRec ·)))=true:=by kernel_rfl
theorem PI:((bL.loopsOut==oK.resultTypes.a.any (fq.checked.prog.loopsFrom ·)))=true:=by kernel_rfl
theorem Sj:((bL.plainKeys==fq.checked.prog.plainKeys))=true:=by kernel_rfl
theorem PL:(bL.shortTexts.isNone)=true:=by kernel_rfl
theorem PN:(fq.checked.prog.stopsHeard)=true:=by kernel_rfl
theorem PX:(fq.checked.prog.mayEnter)=true:=by kernel_rfl
theorem PY:((bL.lifted==fq.checked.prog.liftsFinal))=true:=by kernel_rfl
theorem P5:((fq.checked.prog.make==some bL.make))=true:=by kernel_rfl
theorem P7:((bL.kinds==(if bL.domain.isEmpty then []else oK.params.a.map fun t=>match fq.checked.prog.underlying t with|some (.int k)=>some k|_=>none)))=true:=by kernel_rfl
theorem P9:((bL.pinned==bL.pinnedBy))=true:=by kernel_rfl
theorem Qa:((bL.veiled==(oK.params.a++jm.plain.varTypes fq.checked.prog++oK.resultTypes.a).any (fq.checked.prog.veiledRec ·)))=true:=by kernel_rfl
theorem Qb:(bL.veiledFits fq.checked.prog oK.params.a (oK.params.a++jm.plain.varTypes fq.checked.prog++oK.resultTypes.a))=true:=by kernel_rfl
theorem Ka:joinedFacts fq.checked.prog 6 oK jm bL=true:=by
 unfold joinedFacts;rw[RY,Ph,Lf,RZ,Sb,Sc,Sd,Sg,Si,Pj,Pm,Pn,Po,Pp,Pq,Pv,Pw,Px,Py,PE,PG,PI,Sj,PL,PN,PX,PY,P5,P9,Qa,Qb];simp only[Bool.true_and,Bool.and_true];exact P7
theorem ME:fq.checked.prog.funcNamed bL.func=some 6:=by kernel_rfl
theorem MF:oK.isInstance fq.checked.prog bL.origin bL.targs:=of_decide_eq_true (by kernel_rfl)
theorem MG:oK.isWrapper fq.checked.prog bL.wrapper bL.mainSum:=by unfold Func.isWrapper;first|(rw[if_pos (by decide +kernel)];kernel_rfl)|(rw[if_neg (by decide +kernel)];exact⟨rfl,rfl⟩)
end Go.Proofs.YtkjojjopamaoiaaGreat
