import Derived.Test.YtkjojjopamaoiaaGreatRows
import Derived.JoinedOf
set_option linter.all false
set_option maxRecDepth 100000
set_option maxHeartbeats 8000000
open Array renaming size->Array.j,toList->Array.a
open Go.Proofs.Tryz renaming f3->pE
open Go.Proofs.YtkjojjopamaoiaaGreat.Rows renaming engineRightsRow->bQ,engineRightsSpec->jo
open Go.Proofs.YtkjojjopamaoiaaGreat.Tryz renaming pinned->eZ
open String renaming toList->String.a
namespace Go.Proofs.YtkjojjopamaoiaaGreat
noncomputable abbrev y_:=eZ.checked.prog
def TY:bQ.wf (OpenSpec.ofChange jo):=by kernel_rfl
def Qz:laidOutB y_:=by kernel_rfl
def MH:mapsRowed y_:=by kernel_rfl
def Ua:pE.params.all (y_.readableRec ·):=by kernel_rfl
def Ub:namedTie y_ bQ.named jo.vars:=by kernel_rfl
def Uc:bQ.stops==[]:=by kernel_rfl
def Ud:y_.stops==[]:=by kernel_rfl
def Ue:bQ.knobs==[]:=by kernel_rfl
def Uf:y_.stopKnobs==[]:=by kernel_rfl
def QA:bQ.inPlace==y_.inPlace 3:=by kernel_rfl
def QB:bQ.unfollowed==y_.unfollowed 3:=by kernel_rfl
def QC:bQ.recurses==y_.recurses 3:=by kernel_rfl
def QD:bQ.named==y_.varsNamed 3:=by kernel_rfl
def QE:bQ.maps==(pE.params.a++jo.plain.varTypes y_).any (y_.mapsRec ·):=by kernel_rfl
def QF:bQ.ifaces==(pE.params.a++jo.plain.varTypes y_).any (y_.ifacesRec ·):=by kernel_rfl
def QG:bQ.mapsOut==y_.mapsAmong pE.resultTypes.a:=by kernel_rfl
def QH:bQ.loops==(pE.params.a++jo.plain.varTypes y_).any (y_.loopsFrom ·):=by kernel_rfl
def QI:bQ.wideKeys==(pE.params.a++jo.plain.varTypes y_++pE.resultTypes.a).any (y_.wideKeysFrom ·):=by kernel_rfl
def QJ:jo.vars.all (y_.varReadable ·):=by kernel_rfl
def QK:pE.resultTypes.all (fun t=>y_.readableRec t&&decide (t<y_.types.j)):=by kernel_rfl
def QL:bQ.ifacesOut==pE.resultTypes.a.any (y_.ifacesRec ·):=by kernel_rfl
def QM:bQ.loopsOut==pE.resultTypes.a.any (y_.loopsFrom ·):=by kernel_rfl
def Ug:bQ.plainKeys==y_.plainKeys:=by kernel_rfl
def QN:bQ.shortTexts.isNone:=by kernel_rfl
def QO:y_.stopsHeard:=by kernel_rfl
def QS:y_.mayEnter:=by kernel_rfl
def QT:bQ.lifted==y_.liftsFinal:=by kernel_rfl
def QU:y_.make==some bQ.make:=by kernel_rfl
def QV:bQ.kinds==(if bQ.domain.isEmpty then []else pE.params.a.map fun t=>match y_.underlying t with|some (.int k)=>some k|_=>none):=by kernel_rfl
def QW:bQ.pinned==bQ.pinnedBy:=by kernel_rfl
def QX:bQ.veiled==(pE.params.a++jo.plain.varTypes y_++pE.resultTypes.a).any (y_.veiledRec ·):=by kernel_rfl
def QY:bQ.veiledFits y_ pE.params.a (pE.params.a++jo.plain.varTypes y_++pE.resultTypes.a):=by kernel_rfl
theorem Lp:joinedFacts eZ.checked.prog 3 pE jo bQ=true:=by
 unfold joinedFacts;rw[TY,Qz,MH,Ua,Ub,Uc,Ud,Ue,Uf,QA,QB,QC,QD,QE,QF,QG,QH,QI,QJ,QK,QL,QM,Ug,QN,QO,QS,QT,QU,QW,QX,QY];simp only[Bool.true_and,Bool.and_true];exact QV
theorem N7:eZ.checked.prog.funcNamed bQ.func=some 3:=by kernel_rfl
theorem Od:pE.isInstance eZ.checked.prog bQ.origin bQ.targs:=of_decide_eq_true (by kernel_rfl)
theorem Oe:pE.isWrapper eZ.checked.prog bQ.wrapper bQ.mainSum:=by unfold Func.isWrapper;first|(rw[if_pos (by decide +kernel)];kernel_rfl)|(rw[if_neg (by decide +kernel)];exact⟨rfl,rfl⟩)
end Go.Proofs.YtkjojjopamaoiaaGreat
