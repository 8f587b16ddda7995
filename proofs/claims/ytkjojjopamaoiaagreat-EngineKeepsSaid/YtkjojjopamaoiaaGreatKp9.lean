/- Parts. -/
import Derived.Test.YtkjojjopamaoiaaGreatRows
import Derived.JoinedOf
set_option linter.all false
set_option maxRecDepth 100000
set_option maxHeartbeats 8000000
open Array renaming size->Array.j,toList->Array.a
open Go.Proofs.Tryz renaming f10->mY
open Go.Proofs.YtkjojjopamaoiaaGreat.Rows renaming engineKeepsRow->bT,engineKeepsSpec->jF
open Go.Proofs.YtkjojjopamaoiaaGreat.Tryz renaming pinned->fu
open String renaming toList->String.a
namespace Go.Proofs.YtkjojjopamaoiaaGreat
theorem UU:(bT.wf (OpenSpec.ofChange jF))=true:=by kernel_rfl
theorem Rm:(laidOutB fu.checked.prog)=true:=by kernel_rfl
theorem Ng:(mapsRowed fu.checked.prog)=true:=by kernel_rfl
theorem UW:(mY.params.all (fu.checked.prog.readableRec ·))=true:=by kernel_rfl
theorem UY:(namedTie fu.checked.prog bT.named jF.vars)=true:=by kernel_rfl
theorem UZ:((bT.stops==[]))=true:=by kernel_rfl
theorem U0:((fu.checked.prog.stops==[]))=true:=by kernel_rfl
theorem U1:((bT.knobs==[]))=true:=by kernel_rfl
theorem U2:((fu.checked.prog.stopKnobs==[]))=true:=by kernel_rfl
theorem Rn:((bT.inPlace==fu.checked.prog.inPlace 10))=true:=by kernel_rfl
theorem Ro:((bT.unfollowed==fu.checked.prog.unfollowed 10))=true:=by kernel_rfl
theorem Rp:((bT.recurses==fu.checked.prog.recurses 10))=true:=by kernel_rfl
theorem Rq:((bT.named==fu.checked.prog.varsNamed 10))=true:=by kernel_rfl
theorem Rs:((bT.maps==(mY.params.a++jF.plain.varTypes fu.checked.prog).any (fu.checked.prog.mapsRec ·)))=true:=by kernel_rfl
theorem Rt:((bT.ifaces==(mY.params.a++jF.plain.varTypes fu.checked.prog).any (fu.checked.prog.ifacesRec ·)))=true:=by kernel_rfl
theorem Ru:((bT.mapsOut==fu.checked.prog.mapsAmong mY.resultTypes.a))=true:=by kernel_rfl
theorem Rv:((bT.loops==(mY.params.a++jF.plain.varTypes fu.checked.prog).any (fu.checked.prog.loopsFrom ·)))=true:=by kernel_rfl
theorem Rw:((bT.wideKeys==(mY.params.a++jF.plain.varTypes fu.checked.prog++mY.resultTypes.a).any (fu.checked.prog.wideKeysFrom ·)))=true:=by kernel_rfl
theorem Rx:(jF.vars.all (fu.checked.prog.varReadable ·))=true:=by kernel_rfl
theorem Ry:(mY.resultTypes.all (fun t=>fu.checked.prog.readableRec t&&decide (t<fu.checked.prog.types.j)))=true:=by kernel_rfl
theorem RG:((bT.ifacesOut==mY.resultTypes.a.any (fu.checked.prog.ifacesRec ·)))=true:=by kernel_rfl
theorem RJ:((bT.loopsOut==mY.resultTypes.a.any (fu.checked.prog.loopsFrom ·)))=true:=by kernel_rfl
theorem U3:((bT.plainKeys==fu.checked.prog.plainKeys))=true:=by kernel_rfl
theorem RL:(bT.shortTexts.isNone)=true:=by kernel_rfl
theorem RV:(fu.checked.prog.stopsHeard)=true:=by kernel_rfl
theorem RX:(fu.checked.prog.mayEnter)=true:=by kernel_rfl
theorem RY:((bT.lifted==fu.checked.prog.liftsFinal))=true:=by kernel_rfl
theorem RZ:((fu.checked.prog.make==some bT.make))=true:=by kernel_rfl
theorem Sb:((bT.kinds==(if bT.domain.isEmpty then []else mY.params.a.map fun t=>match fu.checked.prog.underlying t with|some (.int k)=>some k|_=>none)))=true:=by kernel_rfl
theorem Sc:((bT.pinned==bT.pinnedBy))=true:=by kernel_rfl
theorem Sd:((bT.veiled==(mY.params.a++jF.plain.varTypes fu.checked.prog++mY.resultTypes.a).any (fu.checked.prog.veiledRec ·)))=true:=by kernel_rfl
theorem Sg:(bT.veiledFits fu.checked.prog mY.params.a (mY.params.a++jF.plain.varTypes fu.checked.prog++mY.resultTypes.a))=true:=by kernel_rfl
theorem LQ:joinedFacts fu.checked.prog 10 mY jF bT=true:=by
 unfold joinedFacts;rw[UU,Rm,Ng,UW,UY,UZ,U0,U1,U2,Rn,Ro,Rp,Rq,Rs,Rt,Ru,Rv,Rw,Rx,Ry,RG,RJ,U3,RL,RV,RX,RY,RZ,Sc,Sd,Sg];simp only[Bool.true_and,Bool.and_true];exact Sb
theorem Po:fu.checked.prog.funcNamed bT.func=some 10:=by kernel_rfl
theorem Pp:mY.isInstance fu.checked.prog bT.origin bT.targs:=of_decide_eq_true (by kernel_rfl)
theorem Pq:mY.isWrapper fu.checked.prog bT.wrapper bT.mainSum:=by unfold Func.isWrapper;first|(rw[if_pos (by decide +kernel)];kernel_rfl)|(rw[if_neg (by decide +kernel)];exact⟨rfl,rfl⟩)
end Go.Proofs.YtkjojjopamaoiaaGreat
