/- Parts. -/
import Derived.Test.YtkjojjopamaoiaaGreatRows
import Derived.JoinedOf
set_option linter.all false
set_option maxRecDepth 100000
set_option maxHeartbeats 8000000
open Array renaming size->Array.j,toList->Array.a
open Go.Proofs.Tryz renaming f7->oI
open Go.Proofs.YtkjojjopamaoiaaGreat.Rows renaming enginePicksRow->bT,enginePicksSpec->jw
open Go.Proofs.YtkjojjopamaoiaaGreat.Tryz renaming pinned->eX
open String renaming toList->String.a
namespace Go.Proofs.YtkjojjopamaoiaaGreat
theorem UY:(bT.wf (OpenSpec.ofChange jw))=true:=by kernel_rfl
theorem Rk:(laidOutB eX.checked.prog)=true:=by kernel_rfl
theorem MP:(mapsRowed eX.checked.prog)=true:=by kernel_rfl
theorem UZ:(oI.params.all (eX.checked.prog.readableRec ·))=true:=by kernel_rfl
theorem U0:(namedTie eX.checked.prog bT.named jw.vars)=true:=by kernel_rfl
theorem U8:((bT.stops==[]))=true:=by kernel_rfl
theorem U9:((eX.checked.prog.stops==[]))=true:=by kernel_rfl
theorem Va:((bT.knobs==[]))=true:=by kernel_rfl
theorem Vb:((eX.checked.prog.stopKnobs==[]))=true:=by kernel_rfl
theorem Rl:((bT.inPlace==eX.checked.prog.inPlace 7))=true:=by kernel_rfl
theorem Rm:((bT.unfollowed==eX.checked.prog.unfollowed 7))=true:=by kernel_rfl
theorem Rn:((bT.recurses==eX.checked.prog.recurses 7))=true:=by kernel_rfl
theorem Ro:((bT.named==eX.checked.prog.varsNamed 7))=true:=by kernel_rfl
theorem Rp:((bT.maps==(oI.params.a++jw.plain.varTypes eX.checked.prog).any (eX.checked.prog.mapsRec ·)))=true:=by kernel_rfl
theorem Rq:((bT.ifaces==(oI.params.a++jw.plain.varTypes eX.checked.prog).any (eX.checked.prog.ifacesRec ·)))=true:=by kernel_rfl
theorem Rs:((bT.mapsOut==eX.checked.prog.mapsAmong oI.resultTypes.a))=true:=by kernel_rfl
theorem Rt:((bT.loops==(oI.params.a++jw.plain.varTypes eX.checked.prog).any (eX.checked.prog.loopsFrom ·)))=true:=by kernel_rfl
theorem Ru:((bT.wideKeys==(oI.params.a++jw.plain.varTypes eX.checked.prog++oI.resultTypes.a).any (eX.checked.prog.wideKeysFrom ·)))=true:=by kernel_rfl
theorem Rv:(jw.vars.all (eX.checked.prog.varReadable ·))=true:=by kernel_rfl
theorem Rw:(oI.resultTypes.all (fun t=>eX.checked.prog.readableRec t&&decide (t<eX.checked.prog.types.j)))=true:=by kernel_rfl
theorem Rx:((bT.ifacesOut==oI.resultTypes.a.any (eX.checked.prog.ifacesRec ·)))=true:=by kernel_rfl
theorem Ry:((bT.loopsOut==oI.resultTypes.a.any (eX.checked.prog.loopsFrom ·)))=true:=by kernel_rfl
theorem Vd:((bT.plainKeys==eX.checked.prog.plainKeys))=true:=by kernel_rfl
theorem RG:(bT.shortTexts.isNone)=true:=by kernel_rfl
theorem RJ:(eX.checked.prog.stopsHeard)=true:=by kernel_rfl
theorem RL:(eX.checked.prog.mayEnter)=true:=by kernel_rfl
theorem RV:((bT.lifted==eX.checked.prog.liftsFinal))=true:=by kernel_rfl
theorem RX:((eX.checked.prog.make==some bT.make))=true:=by kernel_rfl
theorem RY:((bT.kinds==(if bT.domain.isEmpty then []else oI.params.a.map fun t=>match eX.checked.prog.underlying t with|some (.int k)=>some k|_=>none)))=true:=by kernel_rfl
theorem RZ:((bT.pinned==bT.pinnedBy))=true:=by kernel_rfl
theorem Sc:((bT.veiled==(oI.params.a++jw.plain.varTypes eX.checked.prog++oI.resultTypes.a).any (eX.checked.prog.veiledRec ·)))=true:=by kernel_rfl
theorem Sd:(bT.veiledFits eX.checked.prog oI.params.a (oI.params.a++jw.plain.varTypes eX.checked.prog++oI.resultTypes.a))=true:=by kernel_rfl
theorem Lv:joinedFacts eX.checked.prog 7 oI jw bT=true:=by
 unfold joinedFacts;rw[UY,Rk,MP,UZ,U0,U8,U9,Va,Vb,Rl,Rm,Rn,Ro,Rp,Rq,Rs,Rt,Ru,Rv,Rw,Rx,Ry,Vd,RG,RJ,RL,RV,RX,RZ,Sc,Sd];simp only[Bool.true_and,Bool.and_true];exact RY
theorem Ph:eX.checked.prog.funcNamed bT.func=some 7:=by kernel_rfl
theorem Pj:oI.isInstance eX.checked.prog bT.origin bT.targs:=of_decide_eq_true (by kernel_rfl)
theorem Pm:oI.isWrapper eX.checked.prog bT.wrapper bT.mainSum:=by unfold Func.isWrapper;first|(rw[if_pos (by decide +kernel)];kernel_rfl)|(rw[if_neg (by decide +kernel)];exact⟨rfl,rfl⟩)
end Go.Proofs.YtkjojjopamaoiaaGreat
