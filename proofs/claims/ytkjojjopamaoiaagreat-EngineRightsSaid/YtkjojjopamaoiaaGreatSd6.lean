/- Parts. -/
import Derived.Test.YtkjojjopamaoiaaGreatSd5
import Derived.Test.YtkjojjopamaoiaaGreatSd2
import Derived.Shelf.SlSortCmp.NoneTotal
import Derived.Lib.BytesEntry
import Derived.Shelf.Bits.Mul64
set_option linter.all false
set_option maxRecDepth 100000
set_option maxHeartbeats 8000000
open Array renaming range->mF,ext'->pQ,toList_range->kC,length_toList->aY,getElem?_append->aD,getElem?_toList->dG,getElem?_extract->dA,size_append->ou,ext_getElem?->dZ,getElem?_setIfInBounds->dR,extract_append->dD,mapM->iF,setIfInBounds_append->aM,getElem?_eq_none->aU,replicate_succ->gH,replicate_zero->gI,all_eq_true'->xW,getElem?_eq_getElem->fF,getElem?_eq_some_iff->bW,getElem?_modify->zR,size->Array.j,toList->Array.a,getD->Array.b,setIfInBounds->Array.c,extract->Array.m
open BitVec renaming ofInt->gF,ofNat->IE,ofInt_natCast->mD,toNat_ofNat->nR,toNat->BitVec.g
open Bool renaming and_eq_true->bf,false_eq_true->iV,not_eq_true'->nI,or_eq_true->mJ
open ByteArray renaming size->ByteArray.j,toList->ByteArray.a,extract->ByteArray.m
open Go renaming World->ak,run_underlying->dJ,Calls->aP,Addr->aT,Value->aB,bodyPost_ret->aN,Ending->lU,TypeId->bE,info_parts->zO,setRow_other->pF,Oper->iM,Act->qG,Exit->yP,Operand->qj,wpList_plain->tL,wpQuiet_nil->eG,Field->oh,Fence->LC,SeqStopsK->vZ,CallsIn->Nn,callsIn_of_wp_marks->rO,wpIn_rangeFunc_ownH->yS,belowK_b->vT,ownFrom_below->zo,wpListIn_append_own->ET,run_takeDeferred->uQ,results_tmp->I9,callsIn_wide->nJ,callsIn_of_wp->Dm,results_none->vI,underlying->Go.k
open Go.Addr renaming add_mid->iJ,add->qQ
open Go.BoundsCode renaming toNat->Go.BoundsCode.g
open Go.Calls renaming mono->Go.Calls.e
open Go.CallsIn renaming mono->Go.CallsIn.e
open Go.Ending renaming returned->Go.Ending.a
open Go.Extern.Bytes renaming bytesOf->uI
open Go.Fence renaming wide->nU
open Go.Field renaming offset->Go.Field.X
open Go.FrameMode renaming run->Go.FrameMode.G
open Go.Func renaming name->Go.Func.E
open Go.Instr renaming buildSlice->bM,fill->fD,loadAt->cK,storeAt->eU,build->fQ,makeSlice->xU,slice->Go.Instr.a,extract->Go.Instr.m
open Go.IntKind renaming u64->gB,wrap_u64->jh,u8->aW,wrap_u8->II,i64->bU,wrap->vS,bits->nZ,signed->mq,i64->Go.IntKind.a,u8->Go.IntKind.b,u64->Go.IntKind.c,wrap->Go.IntKind.d
open Go.KeepsOthers renaming alloc->xL
open Go.Lib renaming hid->ab
open Go.Obj renaming cells->eO,cells->Go.Obj.D
open Go.Op renaming bytesLess->bI,slice->Go.Op.a,extract->Go.Op.m
open Go.Oper renaming wp->nG,semAt_some->qK,dst->Go.Oper.S
open Go.Operand renaming tmp->Go.Operand.a
open Go.Program renaming underlying->Go.Program.k
open Go.Proofs.Mul64 renaming wrapN->vU
open Go.Proofs.Tryz renaming prog->ah,underlying56->cO,underlying189->pW,underlying192->pV,underlying70->oH,underlying213->uH,underlying207->Em,underlying280->Eo,underlying34->Gb,underlying75->vH,underlying22->qH,underlying0->IG,zeroValue0->Kn,underlying3->gV,zeroValue3->Ko,underlying4->nX,zeroValue4->Kq,underlying5->mQ,underlying9->iU,isAgg9->Ml,sizeOf9->I8,zeroValue9->BJ,underlying155->Ep,underlying86->lW
open Go.Region renaming wanted->fq
open Go.Result renaming andThen->iK,ok->Go.Result.Y
open Go.ResultVar renaming tmp->Go.ResultVar.a
open Go.RoundIn renaming mono->Go.RoundIn.e
open Go.RowKit renaming Below->aL
open Go.RowKit.Below renaming refl->aG,size->Go.RowKit.Below.j,mono->Go.RowKit.Below.e,setCell->Go.RowKit.Below.F
open Go.RowKit.Hid renaming out->Go.RowKit.Hid.i
open Go.Sem renaming run_bind->jP,run_pure->oJ,run->Kk,run->Go.Sem.G
open Go.Shut renaming out->Go.Shut.i
open Go.Sort renaming size_flatK->xX
open Go.TypeDesc renaming slice->Go.TypeDesc.a,int->Go.TypeDesc.b,bool->Go.TypeDesc.e
open Go.TypeInfo renaming size->Go.TypeInfo.j
open Go.Value renaming cells->cZ,ownBlock->jy,slice->bC,int->aI,oneCell'->dx,agg->cB,bool->bT,string->jk,cells->Go.Value.D,slice->Go.Value.a,int->Go.Value.b,pointer->Go.Value.c,agg->Go.Value.d,bool->Go.Value.e,tuple->Go.Value.I,ownBlock->Go.Value.f,oneCell'->Go.Value.h,string->Go.Value.g
open Go.World renaming frozen?->sN,setRow->sH,size_alloc->tQ,ownsRow_nil->fu,heap->Go.World.a,cell?->Go.World.b,setCell->Go.World.F,ownsRow->Go.World.c,there->Go.World.K,grownBy->Go.World.d
open Go.World.grownBy renaming refl->dQ,size->Go.World.grownBy.j
open Int renaming toNat_of_nonneg->lS,toNat_natCast->dU,tmod->Nq,tmod_eq_emod_of_nonneg->mM,toNat->Int.g
open List renaming getD_eq_getElem?_getD->au,getElem?_take_of_lt->iw,map_cons->kR,map_nil->oD,length_append->aR,length_take->bH,append_assoc->cu,take_of_length_le->aJ,nil_append->dH,getElem?_append_left->o9,getElem?_take->jr,getElem?_append_right->vW,getElem?_drop->jq,ext_getElem?->iR,getElem?_eq_getElem->aC,getElem?_eq_none->aS,drop_of_length_le->gq,length_drop->jF,length_map->bV,flatMap_cons->jl,cons_append->gW,getElem_mem->fG,take_succ_eq_append_getElem->dF,flatMap_append->xk,length_set->aV,mem_append->qJ,mem_singleton->fV,mem_map->iZ,take_zero->j6,getElem?_map->iy,map_append->iY,map_take->AA,getElem?_append->kW,range->bY,append_nil->uU,drop_drop->Mj,mem_cons->bB,pairwise_map->zB,map_map->I6,map_congr_left->Db,findIdx?_eq_some_iff_getElem->gZ,getElem?_set->fI,mem_filter->mK,not_mem_nil->fU,set_cons_succ->bK,set_cons_zero->bR,take_succ_cons->jA,eq_nil_of_length_eq_zero->bG,length_cons->bD,length_nil->gP,all_eq_true->fM,mem_iff_getElem->mG,pairwise_iff_getElem->gy,any_eq_false->nH,mem_take_iff_getElem->nu,mem_range->dV,drop_zero->lH,take_take->vX,foldl_cons->j3,size_toArray->dL,push_toArray->iT,append_toArray->gU,foldl_append->zC,replicate->dY,take_length->Aj,getElem?_replicate->tV,length_replicate->pI,mem_cons_of_mem->j5,mem_cons_self->mH,length->List.a,getD->List.b,toArray->List.c,take->List.d,drop->List.f,flatMap->List.h,below->List.M,extract->List.m
open List.Perm renaming length_eq->List.Perm.t
open Nat renaming mod_eq_of_lt->fO,le_refl->av,le_of_eq->aX,ne_of_gt->uP,lt_succ_self->mV,mul_one->gL,zero_add->bl,min->qI,le_trans->aO,le_succ_of_le->kV,le_of_lt->mX,shiftLeft_eq->mU,add_assoc->nP,add_zero->mW,eq_zero_or_pos->eu,mod_lt->fE,lt_or_ge->aZ,mul_comm->DF,mul_le_mul_right->dz,reduceAdd->kT,reduceSub->kU,mul_le_mul->gY,zero_le->jf,lt_of_lt_of_le->eF,below->Nat.M
open Option renaming map_some->mE,getD_some->jY,toList->Option.a,getD->Option.b
open Or renaming inl->Or.a,inr->Or.b
open UInt8 renaming ofNat->aK,toNat->UInt8.g
open Vector renaming length_toList->nV,replicate->bJ,toList->Vector.a
namespace Go.Proofs.YtkjojjopamaoiaaGreat
open Go.RowKit
def psB(s d:fC)(p n:Nat):List UInt8:=
 if s.h=true then s.b.a.d 16++d.b.a.d 16++[0,0,aK (n/256),aK (n%256),0,0,0,aK p]
 else s.b.a.d 4++d.b.a.d 4++[0,aK p,aK (n/256),aK (n%256)]
def aqT(s d:fC)(p n:Nat):(psB s d p n).a<=40:=by unfold psB;split<;>simp
def Ae(a:fC)(k:Nat)(hk:k<=16):(a.b.a.d k).a=k/\∀i,i<k->a.ay[1+i]? = some (bv ((a.b.a.d k).b i 0)):=by
 refine⟨by simp;omega,fun i hi=>?_⟩;rw[Nat.add_comm 1 i,fC.BR _ i (by omega)];simp[au,iw hi]
def zy(n:Nat)(h:n<=255):((aK n).g:Int)=(n:Int):=by rw[UInt8.toNat_ofNat',fO (by omega)]
@[go_sem]theorem avb(w:ak)(a0 a1 a2 a3:Int):(zY 4 #[(0,.b .b a0),(1,.b .b a1),(2,.b .b a2),(3,.b .b a3)]).G ah w = .Y (.a (some ⟨w.a.j,0,none⟩) 4 4) (w.alloc (.D #[.b .b a0,.b .b a1,.b .b a2,.b .b a3] 5)):=by
 obtain⟨i0,hi0,hz0,hz1,hz2⟩:=yE;have hr:mF 4 = #[0,1,2,3]:=by apply pQ;rw[kC];rfl
 simp[zY,bM,dJ cO,zeroValue,sizeOf,typeInfo,hi0,hz0,hz1,fD,newRow,cZ,hr]
@[go_sem]theorem avc(w:ak)(a0 a1 a2 a3 a4 a5 a6 a7:Int):(zY 8 #[(0,.b .b a0),(1,.b .b a1),(2,.b .b a2),(3,.b .b a3),(4,.b .b a4),(5,.b .b a5),(6,.b .b a6),(7,.b .b a7)]).G ah w = .Y (.a (some ⟨w.a.j,0,none⟩) 8 8) (w.alloc (.D #[.b .b a0,.b .b a1,.b .b a2,.b .b a3,.b .b a4,.b .b a5,.b .b a6,.b .b a7] 5)):=by
 obtain⟨i0,hi0,hz0,hz1,hz2⟩:=yE;have hr:mF 8 = #[0,1,2,3,4,5,6,7]:=by apply pQ;rw[kC];rfl
 simp[zY,bM,dJ cO,zeroValue,sizeOf,typeInfo,hi0,hz0,hz1,fD,newRow,cZ,hr]
def aqU(p n:Nat)(hp:p<=255)(hn:n<=65535)(wr:ak):gu (wr.alloc (.D #[.b .b 0,.b .b 0,.b .b ((n:Int)/256),.b .b ((n:Int)%256),.b .b 0,.b .b 0,.b .b 0,.b .b p] 5)) (wr.a.j+1) (some ⟨wr.a.j,0,none⟩) 8 [0,0,aK (n/256),aK (n%256),0,0,0,aK p]:=
 Rp wr #[.b .b 0,.b .b 0,.b .b ((n:Int)/256),.b .b ((n:Int)%256),.b .b 0,.b .b 0,.b .b 0,.b .b p] [0,0,aK (n/256),aK (n%256),0,0,0,aK p] (by
  simp only[kR,oD,bv];rw[zy _ hp,zy (n/256) (by omega),zy (n%256) (by omega)];rfl)
def avd(p n:Nat)(hp:p<=255)(hn:n<=65535)(wr:ak):gu (wr.alloc (.D #[.b .b 0,.b .b p,.b .b ((n:Int)/256),.b .b ((n:Int)%256)] 5)) (wr.a.j+1) (some ⟨wr.a.j,0,none⟩) 4 [0,aK p,aK (n/256),aK (n%256)]:=
 Rp wr #[.b .b 0,.b .b p,.b .b ((n:Int)/256),.b .b ((n:Int)%256)] [0,aK p,aK (n/256),aK (n%256)] (by
  simp only[kR,oD,bv];rw[zy _ hp,zy (n/256) (by omega),zy (n%256) (by omega)];rfl)
def Ym(s d:fC)(p n:Nat)(hp:p<=255)(hn:n<=65535)(w:ak):aP ah 259 #[.d s.ay,.d d.ay,.b .a p,.b .a n] w (IV w (psB s d p n)):=by
 have aEq:=ab (aqU p n hp hn);have PR4:=ab (avd p n hp hn);have h0:=((Ly.nil (w:=w)).new s.ay 27).new d.ay 27;rw[show(w.alloc (.D s.ay 27)).a.j=w.a.j+1 by simp]at h0;have S0:=ab h0;clear h0;obtain⟨q1,q2,q3,q4⟩:=S0.i.b1.J;obtain⟨p1,p2,p3,p4⟩:=S0.i.R.J;have x0:=fC.nS s;obtain⟨b6,hb6⟩:∃b,s.h=b:=⟨_,rfl⟩
 have H6:=ab hb6;rw[hb6]at x0;clear hb6;have n0:(0:Int)<=n:=by omega
 have n1:(n:Int)<=65535:=by omega
 have n2:(0:Int)<=p:=by omega
 have n3:(p:Int)<=255:=by omega
 cases b6
 ·have EP:=ab (show([]:List UInt8).a=0 from rfl)
  obtain⟨ls,mR⟩:∃l,l=s.b.a.d 4:=⟨_,rfl⟩
  obtain⟨ld,hld⟩:∃l,l=d.b.a.d 4:=⟨_,rfl⟩
  have LS:=ab (show ls.a=4 by rw[mR];exact(Ae s 4 (by omega)).1);have LD:=ab (show ld.a=4 by rw[hld];exact(Ae d 4 (by omega)).1);have CS:=ab (show∀i,i<4->s.ay[1+i]? = some (bv (ls.b i 0))by rw[mR];exact(Ae s 4 (by omega)).2);have CD:=ab (show∀i,i<4->d.ay[1+i]? = some (bv (ld.b i 0))by rw[hld];exact(Ae d 4 (by omega)).2);have HT:=ab (show psB s d p n=ls++ld++[0,aK p,aK (n/256),aK (n%256)]by rw[mR,hld];unfold psB;rw[H6.i];rfl);clear mR hld;go_enter Tryz.func259,Tryz.ntmps259;go_wp2;clear q1 q2 q3 q4 p1 p2 p3 p4;go_loopw [9,11] (fun sr si wr=>∃(i:Nat)(A':Option aT)(m' c':Nat),i<=4/\si=.b .a i/\sr=.a A' m' c'/\Ly w.a.j [(w.a.j+1,d.ay),(w.a.j,s.ay)] w wr (.a A' m' c') ([]++ls.d i)) (fun _ si _=>4-(intOf si).g)
  case atStart=>exact⟨0,_,_,_,by omega,rfl,rfl,by simpa using S0.i⟩
  case round=>
   obtain⟨i,A',m',c',hi,rfl,rfl,h⟩:=hrel;have HO:=ab h;clear h;by_cases hlt:i<4
   ·have hlt2:(i:Int)<4:=by omega
    obtain⟨q1,q2,q3,q4⟩:=HO.i.b1.J;have hlq:=HO.i.b1.lt;have hc:=CS.i i hlt;obtain⟨u,hu⟩:=rT (ls.b i 0);rw[hu]at hc;unfold bv at hc;have HS:=ab (uz ls i (by rw[LS.i];exact hlt));rw[hu]at HS;have L1:=ab (HO.i.alloc (.D #[.b .b (u.g:Int)] 5));have R1:=ab (Cu wr u _ rfl);have K8:=ab (show([]++ls.d i).a+1<=1000000000 by rw[aR,bH,EP.i,LS.i];omega);go_wp2_with (at_builtin;refine jK rfl (.a 20) (.a 25) rfl rfl L1.i.o rfl R1.i K8.i ?_;intro A5 n5 c5 w5 h2 h3;have L2:=ab (L1.i.step h3);clear h2 h3);go_roundw
    case rel=>exact⟨i+1,A5,n5,c5,by omega,by go_num,rfl,by rw[HS.i,<-cu];exact L2.i⟩
    case measure=>simp[intOf]<;>omega
   ·have hge:¬(i:Int)<4:=by omega
    have HF:=ab (show ls.d i=ls from aJ (by rw[LS.i];omega));rw[HF.i]at HO;clear HF;rw[dH]at HO;clear EP S0;obtain⟨UL,Ce⟩:∃b,b=ls:=⟨_,rfl⟩
    have EP:=ab (show UL.a=4 by rw[Ce,LS.i]);rw[<-Ce]at HO HT;clear Ce;go_wp2;clear hge hi hlt;go_loopw [9,12] (fun sr si wr=>∃(i:Nat)(A':Option aT)(m' c':Nat),i<=4/\si=.b .a i/\sr=.a A' m' c'/\Ly w.a.j [(w.a.j+1,d.ay),(w.a.j,s.ay)] w wr (.a A' m' c') (UL++ld.d i)) (fun _ si _=>4-(intOf si).g)
    case atStart=>exact⟨0,_,_,_,by omega,rfl,rfl,by simpa using HO.i⟩
    case round=>
     obtain⟨i,A',m',c',hi,rfl,rfl,h⟩:=hrel;have HO:=ab h;clear h;by_cases hlt:i<4
     ·have hlt2:(i:Int)<4:=by omega
      obtain⟨q1,q2,q3,q4⟩:=HO.i.R.J;have hlq:=HO.i.R.lt;have hc:=CD.i i hlt;obtain⟨u,hu⟩:=rT (ld.b i 0);rw[hu]at hc;unfold bv at hc;have HS:=ab (uz ld i (by rw[LD.i];exact hlt));rw[hu]at HS;have L1:=ab (HO.i.alloc (.D #[.b .b (u.g:Int)] 5));have R1:=ab (Cu wr u _ rfl);have K8:=ab (show(UL++ld.d i).a+1<=1000000000 by rw[aR,bH,EP.i,LD.i];omega);go_wp2_with (at_builtin;refine jK rfl (.a 32) (.a 37) rfl rfl L1.i.o rfl R1.i K8.i ?_;intro A5 n5 c5 w5 h2 h3;have L2:=ab (L1.i.step h3);clear h2 h3);go_roundw
      case rel=>exact⟨i+1,A5,n5,c5,by omega,by go_num,rfl,by rw[HS.i,<-cu];exact L2.i⟩
      case measure=>simp[intOf]<;>omega
     ·have hge:¬(i:Int)<4:=by omega
      have HF:=ab (show ld.d i=ld from aJ (by rw[LD.i];omega));rw[HF.i]at HO;clear HF;obtain⟨bs3,Nf⟩:∃b,b=UL++ld:=⟨_,rfl⟩
      have Po:=ab (show bs3.a=8 by rw[Nf,aR,EP.i,LD.i]);rw[<-Nf]at HO HT;clear Nf;obtain⟨q1,q2,q3,q4⟩:=HO.i.b1.J;have L4:=ab (HO.i.alloc (.D #[.b .b 0,.b .b p,.b .b ((n:Int)/256),.b .b ((n:Int)%256)] 5));have R4:=ab (PR4.i wr);have HL4:=ab (show bs3.a+4<=1000000000 by rw[Po.i];omega);go_wp2_with (at_builtin;refine jK rfl (.a 52) (.a 61) rfl rfl L4.i.o rfl R4.i HL4.i ?_;intro A5 n5 c5 w5 h2 h3;have L5:=ab (L4.i.step h3);clear h2 h3);go_ret;rw[<-HT.i]at L5;have ho:=L5.i.o;obtain⟨A9,c9,e9⟩:=ho.Cr;injection e9 with e9 e10 e11
      subst e10;exact⟨A5,_,c5,rfl,rfl,ho.vL,ho.O⟩
 ·have EP:=ab (show([]:List UInt8).a=0 from rfl)
  obtain⟨ls,mR⟩:∃l,l=s.b.a.d 16:=⟨_,rfl⟩
  obtain⟨ld,hld⟩:∃l,l=d.b.a.d 16:=⟨_,rfl⟩
  have LS:=ab (show ls.a=16 by rw[mR];exact(Ae s 16 (by omega)).1);have LD:=ab (show ld.a=16 by rw[hld];exact(Ae d 16 (by omega)).1);have CS:=ab (show∀i,i<16->s.ay[1+i]? = some (bv (ls.b i 0))by rw[mR];exact(Ae s 16 (by omega)).2);have CD:=ab (show∀i,i<16->d.ay[1+i]? = some (bv (ld.b i 0))by rw[hld];exact(Ae d 16 (by omega)).2);have HT:=ab (show psB s d p n=ls++ld++[0,0,aK (n/256),aK (n%256),0,0,0,aK p]by rw[mR,hld];unfold psB;rw[H6.i];rfl);clear mR hld;go_enter Tryz.func259,Tryz.ntmps259;go_wp2;clear q1 q2 q3 q4 p1 p2 p3 p4;go_loopw [9,11] (fun sr si wr=>∃(i:Nat)(A':Option aT)(m' c':Nat),i<=16/\si=.b .a i/\sr=.a A' m' c'/\Ly w.a.j [(w.a.j+1,d.ay),(w.a.j,s.ay)] w wr (.a A' m' c') ([]++ls.d i)) (fun _ si _=>16-(intOf si).g)
  case atStart=>exact⟨0,_,_,_,by omega,rfl,rfl,by simpa using S0.i⟩
  case round=>
   obtain⟨i,A',m',c',hi,rfl,rfl,h⟩:=hrel;have HO:=ab h;clear h;by_cases hlt:i<16
   ·have hlt2:(i:Int)<16:=by omega
    obtain⟨q1,q2,q3,q4⟩:=HO.i.b1.J;have hlq:=HO.i.b1.lt;have hc:=CS.i i hlt;obtain⟨u,hu⟩:=rT (ls.b i 0);rw[hu]at hc;unfold bv at hc;have HS:=ab (uz ls i (by rw[LS.i];exact hlt));rw[hu]at HS;have L1:=ab (HO.i.alloc (.D #[.b .b (u.g:Int)] 5));have R1:=ab (Cu wr u _ rfl);have K8:=ab (show([]++ls.d i).a+1<=1000000000 by rw[aR,bH,EP.i,LS.i];omega);go_wp2_with (at_builtin;refine jK rfl (.a 20) (.a 25) rfl rfl L1.i.o rfl R1.i K8.i ?_;intro A5 n5 c5 w5 h2 h3;have L2:=ab (L1.i.step h3);clear h2 h3);go_roundw
    case rel=>exact⟨i+1,A5,n5,c5,by omega,by go_num,rfl,by rw[HS.i,<-cu];exact L2.i⟩
    case measure=>simp[intOf]<;>omega
   ·have hge:¬(i:Int)<16:=by omega
    have HF:=ab (show ls.d i=ls from aJ (by rw[LS.i];omega));rw[HF.i]at HO;clear HF;rw[dH]at HO;clear EP S0;obtain⟨UL,Ce⟩:∃b,b=ls:=⟨_,rfl⟩
    have EP:=ab (show UL.a=16 by rw[Ce,LS.i]);rw[<-Ce]at HO HT;clear Ce;go_wp2;clear hge hi hlt;go_loopw [9,12] (fun sr si wr=>∃(i:Nat)(A':Option aT)(m' c':Nat),i<=16/\si=.b .a i/\sr=.a A' m' c'/\Ly w.a.j [(w.a.j+1,d.ay),(w.a.j,s.ay)] w wr (.a A' m' c') (UL++ld.d i)) (fun _ si _=>16-(intOf si).g)
    case atStart=>exact⟨0,_,_,_,by omega,rfl,rfl,by simpa using HO.i⟩
    case round=>
     obtain⟨i,A',m',c',hi,rfl,rfl,h⟩:=hrel;have HO:=ab h;clear h;by_cases hlt:i<16
     ·have hlt2:(i:Int)<16:=by omega
      obtain⟨q1,q2,q3,q4⟩:=HO.i.R.J;have hlq:=HO.i.R.lt;have hc:=CD.i i hlt;obtain⟨u,hu⟩:=rT (ld.b i 0);rw[hu]at hc;unfold bv at hc;have HS:=ab (uz ld i (by rw[LD.i];exact hlt));rw[hu]at HS;have L1:=ab (HO.i.alloc (.D #[.b .b (u.g:Int)] 5));have R1:=ab (Cu wr u _ rfl);have K8:=ab (show(UL++ld.d i).a+1<=1000000000 by rw[aR,bH,EP.i,LD.i];omega);go_wp2_with (at_builtin;refine jK rfl (.a 32) (.a 37) rfl rfl L1.i.o rfl R1.i K8.i ?_;intro A5 n5 c5 w5 h2 h3;have L2:=ab (L1.i.step h3);clear h2 h3);go_roundw
      case rel=>exact⟨i+1,A5,n5,c5,by omega,by go_num,rfl,by rw[HS.i,<-cu];exact L2.i⟩
      case measure=>simp[intOf]<;>omega
     ·have hge:¬(i:Int)<16:=by omega
      have HF:=ab (show ld.d i=ld from aJ (by rw[LD.i];omega));rw[HF.i]at HO;clear HF;obtain⟨bs3,Nf⟩:∃b,b=UL++ld:=⟨_,rfl⟩
      have Po:=ab (show bs3.a=32 by rw[Nf,aR,EP.i,LD.i]);rw[<-Nf]at HO HT;clear Nf;obtain⟨q1,q2,q3,q4⟩:=HO.i.b1.J;have L4:=ab (HO.i.alloc (.D #[.b .b 0,.b .b 0,.b .b ((n:Int)/256),.b .b ((n:Int)%256),.b .b 0,.b .b 0,.b .b 0,.b .b p] 5));have R4:=ab (aEq.i wr);have HL4:=ab (show bs3.a+8<=1000000000 by rw[Po.i];omega);go_wp2_with (at_builtin;refine jK rfl (.a 41) (.a 50) rfl rfl L4.i.o rfl R4.i HL4.i ?_;intro A5 n5 c5 w5 h2 h3;have L5:=ab (L4.i.step h3);clear h2 h3);go_ret;rw[<-HT.i]at L5;have ho:=L5.i.o;obtain⟨A9,c9,e9⟩:=ho.Cr;injection e9 with e9 e10 e11
      subst e10;exact⟨A5,_,c5,rfl,rfl,ho.vL,ho.O⟩
def sM(l:List UInt8)(k:Nat)(b:List UInt8):List UInt8:=l.d k++b++l.f (k+b.a)
def Pp(n:Nat):List UInt8:=[aK (n/256),aK (n%256)]
theorem WM(n:Nat):(Pp n).a=2:=rfl
def FK{l:List UInt8}{k:Nat}{b:List UInt8}(h:k+b.a<=l.a):(sM l k b).a=l.a:=by
 unfold sM;simp;omega
def ank{l:List UInt8}{k:Nat}{b:List UInt8}(h:k+b.a<=l.a)(j:Nat):(sM l k b).b j 0=if k<=j/\j<k+b.a then b.b (j-k) 0 else l.b j 0:=by
 unfold sM;rw[au,au,au,cu];by_cases h1:j<k
 ·rw[o9 (by simp;omega),jr,if_pos h1,if_neg (by omega)]
 ·rw[vW (by simp;omega)]
  have e:(l.d k).a=k:=by simp;omega
  rw[e];by_cases h2:j<k+b.a
  ·rw[o9 (by omega),if_pos (by omega)]
  ·rw[vW (by omega),if_neg (by omega),jq]
   congr 2;omega
def anl{l:List UInt8}{k:Nat}{b:List UInt8}(h:k+b.a<=l.a){z n:Nat}(hj:z+n<=k\/k+b.a<=z):((sM l k b).f z).d n=(l.f z).d n:=by
 apply iR;intro i;rw[jr,jr];by_cases hi:i<n
 ·rw[if_pos hi,if_pos hi,jq,jq]
  have hg:=ank h (z+i);rw[if_neg (by omega),au,au]at hg;have hl:=FK h;by_cases hlt:z+i<l.a
  ·rw[aC hlt,aC (by omega)]at hg ⊢
   simpa using hg
  ·rw[aS (by omega),aS (by omega)]
 ·rw[if_neg hi,if_neg hi]
def aj4{l:List UInt8}{k:Nat}{b:List UInt8}(h:k+b.a<=l.a):((sM l k b).f k).d b.a=b:=by
 unfold sM;rw[cu,List.drop_append_of_le_length (by simp;omega),gq (by simp;omega)];simp
def D6(p:Int):Nat:=if p=6 then 16 else if p=17 then 6 else 0
def SH(l:List UInt8)(a:fC)(n:Int):Bool:=(wE l).kind==0&&(a.h==(wE l).I.h.h&&((wE l).I.h.h||a.lG))&&(decide (0<=n)&&decide (n<=65535))
def aeg(p:Pk)(dst:Bool):Nat:=p.Dv.g+(if p.I.h.h then 8 else 12)+(if dst then(if p.I.h.h then 16 else 4)else 0)
def wF(p:Pk):Nat:=if p.I.h.h then 16 else 4
def H9(p:Pk)(dst:Bool):Nat:=p.rP.g+(if dst then 2 else 0)
def rw1(l:List UInt8)(p:Pk)(a:fC)(n:Nat)(dst:Bool):List UInt8:=sM (sM (l.d p.Ht.g) (aeg p dst) (a.b.a.d (wF p))) (H9 p dst) (Pp n)
def Zy(l:List UInt8)(p:Pk)(dst:Bool):List UInt8:=(l.f (aeg p dst)).d (wF p)
def rw2(l:List UInt8)(p:Pk)(a:fC)(n:Nat)(dst:Bool):List UInt8:=
 if p.I.h.h then rw1 l p a n dst else sM (rw1 l p a n dst) (p.Dv.g+10) (Pp (oK (eY l (p.Dv.g+10)) (Zy l p dst) (a.b.a.d (wF p))))
def ah'(l:List UInt8)(p:Pk)(a:fC)(n:Nat)(dst:Bool):Nat:=
 oK (oK (eY l (p.rP.g+D6 p.I.aQ)) (Zy l p dst) (a.b.a.d (wF p))) ((l.f (H9 p dst)).d 2) (Pp n)
def rw3(l:List UInt8)(p:Pk)(a:fC)(n:Nat)(dst:Bool):List UInt8:=
 if p.I.aQ=17/\eY l (p.rP.g+D6 p.I.aQ)=0 then rw2 l p a n dst
 else sM (rw2 l p a n dst) (p.rP.g+D6 p.I.aQ) (Pp (if p.I.aQ=17/\ah' l p a n dst=0 then 65535 else ah' l p a n dst))
def abP(l:List UInt8)(a:fC)(n:Int)(dst:Bool):List UInt8:=if SH l a n then rw3 l (wE l) a n.g dst else []
structure anm(l:List UInt8)(p:Pk):Prop where
 fam:p.I.h.h=p.I.S.h
 Dv:14<=p.Dv
 rP:p.Dv+(if p.I.h.h then 40 else 20)<=p.rP
 pro:p.I.aQ=6\/p.I.aQ=17
 Ht:p.rP+(if p.I.aQ=6 then 20 else 8)<=p.Ht
 len:p.Ht<=l.a
theorem WO(f:Nat):∀(x:Sx)(r:List UInt8),(ze f x r).2=0->(ze f x r).1.h=x.h/\(ze f x r).1.S=x.S:=by
 induction f with
 | zero=>
   intro x r h;unfold ze at h ⊢;split
   ·exact⟨rfl,rfl⟩
   ·rename_i h1;rw[if_neg h1]at h;cases h
 | succ f ih=>
   intro x r h;unfold ze at h ⊢;split
   ·exact⟨rfl,rfl⟩
   ·rename_i h1
    rw[if_neg h1]at h;split
    ·rename_i h2;rw[if_pos h2]at h;cases h
    ·rename_i h2;rw[if_neg h2]at h;exact ih _ _ h
def aia{l:List UInt8}(h:(Bn l).2=0):(Bn l).1.h.h=true/\(Bn l).1.S.h=true:=by
 unfold Bn at h ⊢;split
 ·rename_i h1;rw[if_pos h1]at h;cases h
 ·rename_i h1
  rw[if_neg h1]at h;split
  ·rename_i h2;rw[if_pos h2]at h;cases h
  ·rename_i h2
   rw[if_neg h2]at h;split
   ·rename_i h3;rw[if_pos h3]at h;cases h
   ·rename_i h3
    rw[if_neg h3]at h;obtain⟨a,b⟩:=WO _ _ _ h;rw[a,b];exact⟨rfl,rfl⟩
def aib{l:List UInt8}(h:(Ak l).2=0):(Ak l).1.h.h=false/\(Ak l).1.S.h=false:=by
 unfold Ak at h ⊢;split
 ·exact⟨rfl,rfl⟩
 ·rename_i h1;rw[if_neg h1]at h;exact absurd h h1
def aqV{p:Int}{l:List UInt8}(hp:p=6\/p=17)(h:(JU p l).2=0):(if p=6 then 20 else 8)<=l.a:=by
 rcases hp with rfl|rfl
 ·rw[asS]at h
  rw[if_pos rfl];by_cases h1:l.a<20
  ·rw[if_pos h1]at h;cases h
  ·omega
 ·rw[anh]at h
  rw[if_neg (by decide)];by_cases h1:l.a<8
  ·rw[if_pos h1]at h;cases h
  ·omega
def Pq{l:List UInt8}(h:(wE l).kind=0):anm l (wE l):=by
 unfold wE at h ⊢;by_cases h1:(mO l).2≠0
 ·rw[if_pos h1]at h;cases h
 rw[if_neg h1]at h ⊢;by_cases h2:(mO l).1.oM≠2048/\(mO l).1.oM≠34525
 ·rw[if_pos h2]at h;cases h
 rw[if_neg h2]at h ⊢;by_cases h3:(ny l).2≠0
 ·rw[if_pos h3]at h;cases h
 rw[if_neg h3]at h ⊢;by_cases h4:(ny l).1.oV=true
 ·rw[if_pos h4]at h;cases h
 rw[if_neg h4]at h ⊢;by_cases h5:(ny l).1.aQ≠6/\(ny l).1.aQ≠17
 ·rw[if_pos h5]at h;cases h
 rw[if_neg h5]at h ⊢;by_cases h6:(Na l).2≠0
 ·rw[if_pos h6]at h;cases h
 rw[if_neg h6];have hat:=agC (l:=l) (by omega);have h3':(Zu (mO l).1.oM (l.f (mO l).1.fH)).2=0:=by simpa[ny]using h3
 have hip:=ane h3';rw[jF]at hip;have hp:(ny l).1.aQ=6\/(ny l).1.aQ=17:=by omega
 have hpt:=aqV hp (l:=(l.d ((mO l).1.fH+(ny l).1.dB.g)).f ((mO l).1.fH+(ny l).1.head.g)) (by simpa[Na]using h6);rw[jF,bH]at hpt;have hh:(ny l).1.head=(Zu (mO l).1.oM (l.f (mO l).1.fH)).1.head:=rfl;have ht:(ny l).1.dB=(Zu (mO l).1.oM (l.f (mO l).1.fH)).1.dB:=rfl;have azq:(ny l).1.h.h=(ny l).1.S.h/\((ny l).1.h.h=true->40<=(ny l).1.head):=by
  unfold ny Zu;unfold Zu at h3';by_cases h7:(mO l).1.oM=2048
  ·rw[if_pos h7]at h3' ⊢
   have:=aib h3';exact⟨by simp only[this.1,this.2],fun e=>by simp only[this.1]at e;cases e⟩
  ·rw[if_neg h7]at h3' ⊢
   have:=aia h3';exact⟨by simp only[this.1,this.2],fun _=>(anc h3').1⟩
 refine⟨azq.1,?_,?_,hp,?_,?_⟩
 ·show(14:Int)<=((mO l).1.fH:Nat)
  omega
 ·show((mO l).1.fH:Int)+(if(ny l).1.h.h then 40 else 20)<=((mO l).1.fH:Int)+(ny l).1.head
  split
  ·have:=azq.2 ‹_›;omega
  ·omega
 ·show((mO l).1.fH:Int)+(ny l).1.head+(if(ny l).1.aQ=6 then 20 else 8)<=((mO l).1.fH:Int)+(ny l).1.dB
  rcases hp with e|e
  ·rw[if_pos e]at hpt⊢;omega
  ·rw[if_neg (by rw[e];decide)]at hpt⊢;omega
 ·show((mO l).1.fH:Int)+(ny l).1.dB<=l.a
  omega
def Ly.ano(w w1:ak)(hb:aL w.a.j w w1)(c:Array aB)(l:List UInt8)(k:Nat)(hk:l.a=k)(hk2:k<=1000000)(h:c.a=l.map bv):Ly w.a.j [] w (w1.alloc (.D c 5)) (.a (some ⟨w1.a.j,0,none⟩) k k) l:=by
 have hc:c.j=k:=by rw[<-aY,h,bV,hk]
 have h1:(w1.alloc (.D c 5)).c w1.a.j 5 1 (.a (some ⟨w1.a.j,0,none⟩) k k) k c.a:=World.ownsRow_lit w1 c k (av _) (by unfold maxLen;omega) (by omega);rw[h]at h1;have h2:=hb.alloc hb.j (.D c 5);subst hk;exact⟨⟨iH h1 hb.j,⟨h2.os,h2.tape,h2.output,h2.j,fun i hi _=>h2.block i hi⟩,.b ⟨_,rfl,hb.j⟩,av _,fun k h=>by cases h⟩,fun p hp=>by cases hp⟩
def wX(x:Sx):List UInt8:=[96,0,0,0,aK ((x.dB-40).g/256),aK ((x.dB-40).g%256),aK x.aQ.g,aK x.IU.g]++x.h.b.a++x.S.b.a
def qF(n:Int):List UInt8:=[aK (n.g/256),aK (n.g%256)]
def Al(t:Tg):List UInt8:=qF t.oM++qF t.tci
def qN(d s:Vector UInt8 6)(fP:List Tg)(ty:Int):List UInt8:=d.a++s.a++fP.h Al++qF ty
def abQ(t:Tg):Prop:=(0<=t.oM/\t.oM<=65535)/\0<=t.tci/\t.tci<=65535
theorem FL(l:List Tg):(l.h Al).a=4*l.a:=by
 induction l with
 | nil=>rfl
 | cons a l ih=>rw[jl,aR,ih];simp[Al,qF];omega
def asU(d:Vector UInt8 6)(i:Nat)(hi:i<6):(Bl d)[i]? = some (bv (d.a.b i 0)):=by
 simp[Bl,au,hi]
def Lc.ave(x:Lc)(i:Nat)(hi:i<6):x.ay[i]? = some (bv (x.S.a.b i 0)):=by
 rw[<-asU _ i hi];simp[Lc.ay,aD,gN,hi]
def Lc.avf(x:Lc)(i:Nat)(hi:i<6):x.ay[6+i]? = some (bv (x.h.a.b i 0)):=by
 rw[<-asU _ i hi];simp[Lc.ay,aD,gN,hi,show¬6+i<6 by omega]
def WQ(n:Int)(h0:0<=n)(h1:n<=65535):((aK (n.g/256)).g:Int)=n/256/\((aK (n.g%256)).g:Int)=n%256:=by
 rw[zy _ (by omega),zy _ (by omega)];omega
def avg(n:Int)(h0:0<=n)(h1:n<=65535)(wr:ak):gu (wr.alloc (.D #[.b .b (n/256),.b .b (n%256)] 5)) (wr.a.j+1) (some ⟨wr.a.j,0,none⟩) 2 (qF n):=
 Rp wr #[.b .b (n/256),.b .b (n%256)] (qF n) (by
  obtain⟨e1,e2⟩:=WQ n h0 h1;simp only[qF,kR,oD,bv];rw[e1,e2])
def avh(t:Tg)(h:abQ t)(wr:ak):gu (wr.alloc (.D #[.b .b (t.oM/256),.b .b (t.oM%256),.b .b (t.tci/256),.b .b (t.tci%256)] 5)) (wr.a.j+1) (some ⟨wr.a.j,0,none⟩) 4 (Al t):=
 Rp wr #[.b .b (t.oM/256),.b .b (t.oM%256),.b .b (t.tci/256),.b .b (t.tci%256)] (Al t) (by
  obtain⟨e1,e2⟩:=WQ t.oM h.1.1 h.1.2;obtain⟨e3,e4⟩:=WQ t.tci h.2.1 h.2.2;simp only[Al,qF,kR,oD,bv,gW,dH];rw[e1,e2,e3,e4])
def WR(x:Lc)(fP:List Tg)(hf:∀t∈fP,abQ t)(hn:fP.a<=1000)(t0:0<=x.oM)(t1:x.oM<=65535)(w:ak)(hT:iE Tg.ay 2 w w.a.j x.Ws x.Fz fP):aP ah 103 #[.d x.ay] w (IV w (qN x.S x.h fP x.oM)):=by
 have HT:=ab (show qN x.S x.h fP x.oM=x.S.a++x.h.a++fP.h Al++qF x.oM from rfl);have l0:=((Ly.nil (w:=w)).new x.ay 108)
 have S0:=ab l0;clear l0;have hl:=ab hT.len;have hnt:x.Fz<=1000:=by rw[<-hl.i];exact hn
 have HR:=ab hT;have HF:=ab hf;clear hT hf;have EP:=ab (show([]:List UInt8).a=0 from rfl);have CS:=ab (x.avf);have CD:=ab (x.ave);obtain⟨ls,mR⟩:∃l,l=x.h.a:=⟨_,rfl⟩
 obtain⟨ld,hld⟩:∃l,l=x.S.a:=⟨_,rfl⟩
 have LS:=ab (show ls.a=6 by rw[mR];simp);have LD:=ab (show ld.a=6 by rw[hld];simp);rw[<-mR]at HT CS;rw[<-hld]at HT CD;clear mR hld;go_enter Tryz.func103,Tryz.ntmps103;go_wp2;go_loopw [3,4] (fun sr si wr=>∃(i:Nat)(A':Option aT)(m' c':Nat),i<=6/\si=.b .a i/\sr=.a A' m' c'/\Ly w.a.j [(w.a.j,x.ay)] w wr (.a A' m' c') ([]++ld.d i)) (fun _ si _=>6-(intOf si).g)
 case atStart=>exact⟨0,_,_,_,by omega,rfl,rfl,by simpa using S0.i⟩
 case round=>
  obtain⟨i,A',m',c',hi,rfl,rfl,h⟩:=hrel;have HO:=ab h;clear h;by_cases hlt:i<6
  ·have hlt2:(i:Int)<6:=by omega
   obtain⟨q1,q2,q3,q4⟩:=HO.i.R.J;have hlq:=HO.i.R.lt;have hc:=CD.i i hlt;obtain⟨u,hu⟩:=rT (ld.b i 0);rw[hu]at hc;unfold bv at hc;have HS:=ab (uz ld i (by rw[LD.i];exact hlt));rw[hu]at HS;have L1:=ab (HO.i.alloc (.D #[.b .b (u.g:Int)] 5));have R1:=ab (Cu wr u _ rfl);have K8:=ab (show([]++ld.d i).a+1<=1000000000 by rw[aR,bH,EP.i,LD.i];omega);go_wp2_with (at_builtin;refine jK rfl (.a 12) (.a 17) rfl rfl L1.i.o rfl R1.i K8.i ?_;intro A5 n5 c5 w5 h2 h3;have L2:=ab (L1.i.step h3);clear h2 h3);go_roundw
   case rel=>exact⟨i+1,A5,n5,c5,by omega,by go_num,rfl,by rw[HS.i,<-cu];exact L2.i⟩
   case measure=>simp[intOf]<;>omega
  ·have hge:¬(i:Int)<6:=by omega
   have HF:=ab (show ld.d i=ld from aJ (by rw[LD.i];omega));rw[HF.i]at HO;clear HF;rw[dH]at HO;clear EP S0;obtain⟨UL,Ce⟩:∃b,b=ld:=⟨_,rfl⟩
   have EP:=ab (show UL.a=6 by rw[Ce,LD.i]);rw[<-Ce]at HO HT;clear Ce;go_wp2;clear hge hi hlt;go_loopw [3,5] (fun sr si wr=>∃(i:Nat)(A':Option aT)(m' c':Nat),i<=6/\si=.b .a i/\sr=.a A' m' c'/\Ly w.a.j [(w.a.j,x.ay)] w wr (.a A' m' c') (UL++ls.d i)) (fun _ si _=>6-(intOf si).g)
   case atStart=>exact⟨0,_,_,_,by omega,rfl,rfl,by simpa using HO.i⟩
   case round=>
    obtain⟨i,A',m',c',hi,rfl,rfl,h⟩:=hrel;have HO:=ab h;clear h;by_cases hlt:i<6
    ·have hlt2:(i:Int)<6:=by omega
     obtain⟨q1,q2,q3,q4⟩:=HO.i.R.J;have hlq:=HO.i.R.lt;have hc:=CS.i i hlt;obtain⟨u,hu⟩:=rT (ls.b i 0);rw[hu]at hc;unfold bv at hc;have HS:=ab (uz ls i (by rw[LS.i];exact hlt));rw[hu]at HS;have L1:=ab (HO.i.alloc (.D #[.b .b (u.g:Int)] 5));have R1:=ab (Cu wr u _ rfl);have K8:=ab (show(UL++ls.d i).a+1<=1000000000 by rw[aR,bH,EP.i,LS.i];omega);go_wp2_with (at_builtin;refine jK rfl (.a 23) (.a 28) rfl rfl L1.i.o rfl R1.i K8.i ?_;intro A5 n5 c5 w5 h2 h3;have L2:=ab (L1.i.step h3);clear h2 h3);go_roundw
     case rel=>exact⟨i+1,A5,n5,c5,by omega,by go_num,rfl,by rw[HS.i,<-cu];exact L2.i⟩
     case measure=>simp[intOf]<;>omega
    ·have hge:¬(i:Int)<6:=by omega
     have HF:=ab (show ls.d i=ls from aJ (by rw[LS.i];omega));rw[HF.i]at HO;clear HF;obtain⟨bs3,Nf⟩:∃b,b=UL++ls:=⟨_,rfl⟩
     have Po:=ab (show bs3.a=12 by rw[Nf,aR,EP.i,LS.i]);rw[<-Nf]at HO HT;clear Nf EP;have S3:=HO;clear HO;go_wp2;clear hge hi hlt;go_loopw [3,6] (fun sr si wr=>∃(i:Nat)(A':Option aT)(m' c':Nat),i<=x.Fz/\si=.b .a i/\sr=.a A' m' c'/\Ly w.a.j [(w.a.j,x.ay)] w wr (.a A' m' c') (bs3++(fP.d i).h Al)) (fun _ si _=>x.Fz-(intOf si).g)
     case atStart=>exact⟨0,_,_,_,by omega,rfl,rfl,by simpa using S3.i⟩
     case round=>
      obtain⟨i,A',m',c',hi,rfl,rfl,h⟩:=hrel;have HO:=ab h;clear h S3;obtain⟨q1,q2,q3,q4⟩:=HO.i.R.J;by_cases hlt:i<x.Fz
      ·have hlt2:(i:Int)<x.Fz:=by omega
       obtain⟨ba,oa,ea,_,t3,t4⟩:=(HR.i.go HO.i.o.O).fH Tg.r Ui hlt;obtain⟨t,ht⟩:=bZ (fP.b i Ui);rw[<-ht]at t4;have HK:=ab (show abQ t by rw[ht,au,aC (by rw[hl.i];exact hlt)];exact HF.i _ (fG _));have HS:=ab (show(fP.d (i+1)).h Al=(fP.d i).h Al++Al t by rw[ht,dF (by rw[hl.i];exact hlt),xk,au,aC (by rw[hl.i];exact hlt)];simp);obtain⟨⟨k1,k2⟩,k3,k4⟩:=HK.i;have K8:=ab (show(bs3++(fP.d i).h Al).a+4<=1000000000 by rw[aR,FL,bH,Po.i];omega);clear ht;have L1:=ab ((HO.i.alloc (.D t.ay 268)).alloc (.D #[.b .b (t.oM/256),.b .b (t.oM%256),.b .b (t.tci/256),.b .b (t.tci%256)] 5));have R1:=ab (avh t HK.i (wr.alloc (.D t.ay 268)));have TB:=ab (dM.new wr t.ay 268);go_upto_region 14 with fail
       obtain⟨y1,y2,y3,y4⟩:=TB.i.J;generalize wr.alloc (.D t.ay 268)=wt at *;go_wp2_with (at_builtin;refine jK rfl (.a 42) (.a 59) rfl rfl L1.i.o rfl R1.i K8.i ?_;intro A5 n5 c5 w5 h2 h3;have L2:=ab (L1.i.step h3);clear h2 h3);go_roundw
       case rel=>exact⟨i+1,A5,n5,c5,by omega,by go_num,rfl,by rw[HS.i,<-cu];exact L2.i⟩
       case measure=>simp[intOf]<;>omega
      ·have hge:¬(i:Int)<x.Fz:=by omega
       have HE:=ab (show fP.d i=fP from aJ (by rw[hl.i];omega));rw[HE.i]at HO;have L4:=ab (HO.i.alloc (.D #[.b .b (x.oM/256),.b .b (x.oM%256)] 5));have R4:=ab (avg x.oM t0 t1 wr);have HL4:=ab (show(bs3++fP.h Al).a+2<=1000000000 by rw[aR,FL,Po.i];omega);clear HE;go_wp2_with (at_builtin;refine jK rfl (.a 61) (.a 70) rfl rfl L4.i.o rfl R4.i HL4.i ?_;intro A5 n5 c5 w5 h2 h3;have L5:=ab (L4.i.step h3);clear h2 h3);go_ret;rw[<-HT.i]at L5;have ho:=L5.i.o;obtain⟨A9,c9,e9⟩:=ho.Cr;injection e9 with e9 e10 e11
       subst e10;exact⟨A5,_,c5,rfl,rfl,ho.vL,ho.O⟩
def Ly.at0{B:Nat}{L:List (Nat×Array aB)}{w0 W:ak}{A:Option aT}{n c:Nat}{bs:List UInt8}(h:Ly B L w0 W (.a A n c) bs)(hn:0<bs.a):
 n=bs.a/\n<=c/\∃g,A=some ⟨g,0,none⟩/\(∀j,j<bs.a->W.b ⟨g,j,none⟩=some (bv (bs.b j 0)))/\(∀j,W.frozen? ⟨g,j,none⟩=false):=by
 obtain⟨h1,h2⟩:=h.o.vL;rcases h2 with⟨e,e2⟩|⟨g,cap,cur,e,hg,hh,hle,hm,hs,ht⟩
 ·omega
 ·injection e with e1 e2 e3
  subst e1 e2 e3;refine⟨rfl,hle,g,rfl,fun j hj=>?_,fun j=>by simp[sN,hh]⟩;rw[cell_of_row W g j cur _ (0,0) hh];have:(bs.map bv)[j]? = some (bv (bs.b j 0)):=by simp[au,hj]
  rw[<-this,<-ht,iw (by omega),dG]
def Ly.agG{B:Nat}{L:List (Nat×Array aB)}{w0 W:ak}{g n c:Nat}{bs:List UInt8}(h:Ly B L w0 W (.a (some ⟨g,0,none⟩) n c) bs)(j:Nat)(b:UInt8):Ly B L w0 (W.F ⟨g,j,none⟩ (bv b)) (.a (some ⟨g,0,none⟩) n c) (bs.set j b):=by
 obtain⟨A9,c9,e9⟩:=h.o.Cr;injection e9 with e9 e10 e11
 subst e10;obtain⟨g1,g2⟩:=h.o.vL.stored j (bv b);refine⟨⟨by rw[aV,List.map_set];exact g1,aun h.o.gr (.b ?_) _,h.o.wM,h.o.hB,h.o.gb⟩,fun p hp=>⟨(h.r p hp).1.dP _ _ (fun e=>(h.r p hp).2 (by rw[<-e];rfl)),(h.r p hp).2⟩⟩;rcases h.o.wM with e|⟨k,e,e2⟩
 ·cases e
 ·injection e with e
  subst e;exact e2
def D7(x:Fo):List UInt8:=[69,aK x.Qg.g,aK (x.dB.g/256),aK (x.dB.g%256),aK (x.id.g/256),aK (x.id.g%256),(if x.keep then 64 else 0),0,aK x.MV.g,aK x.aQ.g,0,0]++x.h.b.a.d 4++x.S.b.a.d 4
def aeh(l:List UInt8):List UInt8:=(l.set 10 (aK (xA l/256))).set 11 (aK (xA l%256))
def uj(x:Fo):List UInt8:=aeh (D7 x)
def Fo.LZ(x:Fo)(i:Nat)(hi:i<16):x.ay[9+i]? = some (bv (x.h.b.a.b i 0)):=by
 rw[<-fC.BR _ i hi];have:i+1<17:=by omega
 simp[Fo.ay,aD,fC.r,show 9+i-8=i+1 by omega,show¬9+i<8 by omega,this]
def Fo.JG(x:Fo)(i:Nat)(hi:i<16):x.ay[26+i]? = some (bv (x.S.b.a.b i 0)):=by
 rw[<-fC.BR _ i hi];simp[Fo.ay,aD,fC.r,show¬26+i<8 by omega,show¬26+i-8<17 by omega,show 26+i-8-17=i+1 by omega]
def asW(l:List UInt8)(i:Nat)(hi:i<4):(l.d 4).b i 0=l.b i 0:=by
 simp[au,iw hi]
@[go_sem]theorem asX(w:ak)(a0 a1 a2 a3 a4 a5 a6 a7 a8 a9 a10 a11:Int):(zY 12 #[(0,.b .b a0),(1,.b .b a1),(2,.b .b a2),(3,.b .b a3),(4,.b .b a4),(5,.b .b a5),(6,.b .b a6),(7,.b .b a7),(8,.b .b a8),(9,.b .b a9),(10,.b .b a10),(11,.b .b a11)]).G ah w = .Y (.a (some ⟨w.a.j,0,none⟩) 12 12) (w.alloc (.D #[.b .b a0,.b .b a1,.b .b a2,.b .b a3,.b .b a4,.b .b a5,.b .b a6,.b .b a7,.b .b a8,.b .b a9,.b .b a10,.b .b a11] 5)):=by
 obtain⟨i0,hi0,hz0,hz1,hz2⟩:=yE;have hr:mF 12 = #[0,1,2,3,4,5,6,7,8,9,10,11]:=by apply pQ;rw[kC];rfl
 simp[zY,bM,dJ cO,zeroValue,sizeOf,typeInfo,hi0,hz0,hz1,fD,newRow,cZ,hr]
def WS(x:Fo)(s0:0<=x.Qg)(s1:x.Qg<=255)(t0:0<=x.dB)(t1:x.dB<=65535)(i0:0<=x.id)(i1:x.id<=65535)(l0:0<=x.MV)(l1:x.MV<=255)(p0:0<=x.aQ)(p1:x.aQ<=255)(w:ak):aP ah 106 #[.d x.ay] w (IV w (uj x)):=by
 have T:=ab (dM.new w x.ay 192);have HB:=ab ((aG w.a.j w).alloc (av _) (.D x.ay 192));have r0:=(Ly.ano w _ HB.i #[.b .b 69,.b .b x.Qg,.b .b (x.dB/256),.b .b (x.dB%256),.b .b (x.id/256),.b .b (x.id%256),.b .b 0,.b .b 0,.b .b x.MV,.b .b x.aQ,.b .b 0,.b .b 0] [69,aK x.Qg.g,aK (x.dB.g/256),aK (x.dB.g%256),aK (x.id.g/256),aK (x.id.g%256),0,0,aK x.MV.g,aK x.aQ.g,0,0] 12 rfl (by omega) (by
  obtain⟨e1,e2⟩:=WQ x.dB t0 t1;obtain⟨e3,e4⟩:=WQ x.id i0 i1;simp only[kR,oD,bv];rw[e1,e2,e3,e4,zy x.Qg.g (by omega),zy x.MV.g (by omega),zy x.aQ.g (by omega),lS s0,lS l0,lS p0];rfl)).add (q:=w.a.j) (c:=x.ay) (T.i.alloc _) (by rw[show(w.alloc (.D x.ay 192)).a.j=w.a.j+1 by simp];simp[jy])
 rw[show(w.alloc (.D x.ay 192)).a.j=w.a.j+1 by simp]at r0;have S:=ab r0;have HP:=ab (show uj x=aeh (D7 x)from rfl);have CS:=ab (show∀i,i<4->x.ay[9+i]? = some (bv ((x.h.b.a.d 4).b i 0))from fun i hi=>by rw[asW _ i hi];exact x.LZ i (by omega));have CD:=ab (show∀i,i<4->x.ay[26+i]? = some (bv ((x.S.b.a.d 4).b i 0))from fun i hi=>by rw[asW _ i hi];exact x.JG i (by omega));have HT:=ab (show D7 x=[69,aK x.Qg.g,aK (x.dB.g/256),aK (x.dB.g%256),aK (x.id.g/256),aK (x.id.g%256),(if x.keep then 64 else 0),0,aK x.MV.g,aK x.aQ.g,0,0]++x.h.b.a.d 4++x.S.b.a.d 4 from rfl);obtain⟨ls,mR⟩:∃l,l=x.h.b.a.d 4:=⟨_,rfl⟩
 obtain⟨ld,hld⟩:∃l,l=x.S.b.a.d 4:=⟨_,rfl⟩
 have LS:=ab (show ls.a=4 by rw[mR];simp);have LD:=ab (show ld.a=4 by rw[hld];simp);rw[<-mR]at HT CS;rw[<-hld]at HT CD;clear mR hld r0;obtain⟨q1,q2,q3,q4⟩:=T.i.J;have x5:=x.abz;obtain⟨kp,hkp⟩:∃k,x.keep=k:=⟨_,rfl⟩
 rw[hkp]at x5 HT;clear hkp;go_enter Tryz.func106,Tryz.ntmps106;go_upto_region 2 with fail
 obtain⟨y1,y2,y3,y4⟩:=S.i.R.J;obtain⟨_,_,g,eg,c1,c2⟩:=S.i.at0 (by simp);injection eg with eg
 injection eg with eg
 subst eg;clear q1 q2 q3 q4;have c6:=c1 6 (by simp);clear c1;generalize(w.alloc (.D x.ay 192)).alloc (.D #[.b .b 69,.b .b x.Qg,.b .b (x.dB/256),.b .b (x.dB%256),.b .b (x.id/256),.b .b (x.id%256),.b .b 0,.b .b 0,.b .b x.MV,.b .b x.aQ,.b .b 0,.b .b 0] 5)=w2 at *;cases kp
 case' false=>
  go_wp2;have S0:=S;obtain⟨bs,hbs⟩:∃bs:List UInt8,bs=[69,aK x.Qg.g,aK (x.dB.g/256),aK (x.dB.g%256),aK (x.id.g/256),aK (x.id.g%256),0,0,aK x.MV.g,aK x.aQ.g,0,0]:=⟨_,rfl⟩
  have EP:=ab (show bs.a=12 by rw[hbs];rfl);have HQ:=ab (show D7 x=bs++ls++ld by rw[HT.i,hbs];rfl);rw[<-hbs]at S0
 case' true=>
  go_wp2;have S0:=ab (S.i.agG 6 64);rw[show bv 64=.b .b 64 from rfl]at S0;obtain⟨bs,hbs⟩:∃bs:List UInt8,bs=[69,aK x.Qg.g,aK (x.dB.g/256),aK (x.dB.g%256),aK (x.id.g/256),aK (x.id.g%256),64,0,aK x.MV.g,aK x.aQ.g,0,0]:=⟨_,rfl⟩
  have EP:=ab (show bs.a=12 by rw[hbs];rfl);have HQ:=ab (show D7 x=bs++ls++ld by rw[HT.i,hbs];rfl);rw[show([69,aK x.Qg.g,aK (x.dB.g/256),aK (x.dB.g%256),aK (x.id.g/256),aK (x.id.g%256),0,0,aK x.MV.g,aK x.aQ.g,0,0]:List UInt8).set 6 64=bs by rw[hbs];rfl]at S0
 all_goals
  clear HT hbs y1 y2 y3 y4 c2 c6 S;go_loopw [3,4] (fun sr si wr=>∃(i:Nat)(A':Option aT)(m' c':Nat),i<=4/\si=.b .a i/\sr=.a A' m' c'/\Ly w.a.j [(w.a.j,x.ay)] w wr (.a A' m' c') (bs++ls.d i)) (fun _ si _=>4-(intOf si).g)
  case atStart=>exact⟨0,_,_,_,by omega,rfl,rfl,by simpa using S0.i⟩
  case round=>
   obtain⟨i,A',m',c',hi,rfl,rfl,h⟩:=hrel;have HO:=ab h;clear h;by_cases hlt:i<4
   ·have hlt2:(i:Int)<4:=by omega
    obtain⟨q1,q2,q3,q4⟩:=HO.i.R.J;have hlq:=HO.i.R.lt;have hc:=CS.i i hlt;obtain⟨u,hu⟩:=rT (ls.b i 0);rw[hu]at hc;unfold bv at hc;have HS:=ab (uz ls i (by rw[LS.i];exact hlt));rw[hu]at HS;have L1:=ab (HO.i.alloc (.D #[.b .b (u.g:Int)] 5));have R1:=ab (Cu wr u _ rfl);have K8:=ab (show(bs++ls.d i).a+1<=1000000000 by rw[aR,bH,EP.i,LS.i];omega);go_wp2_with (at_builtin;refine jK rfl (.a 41) (.a 47) rfl rfl L1.i.o rfl R1.i K8.i ?_;intro A5 n5 c5 w5 h2 h3;have L2:=ab (L1.i.step h3);clear h2 h3);go_roundw
    case rel=>exact⟨i+1,A5,n5,c5,by omega,by go_num,rfl,by rw[HS.i,<-cu];exact L2.i⟩
    case measure=>simp[intOf]<;>omega
   ·have hge:¬(i:Int)<4:=by omega
    have HF:=ab (show ls.d i=ls from aJ (by rw[LS.i];omega));rw[HF.i]at HO;clear HF;obtain⟨UL,Ce⟩:∃b,b=bs++ls:=⟨_,rfl⟩
    have anj:=ab (show UL.a=16 by rw[Ce,aR,EP.i,LS.i]);rw[<-Ce]at HO HQ;clear Ce S0 EP;have EP:=anj;clear anj;go_wp2;clear hge hi hlt;go_loopw [3,5] (fun sr si wr=>∃(i:Nat)(A':Option aT)(m' c':Nat),i<=4/\si=.b .a i/\sr=.a A' m' c'/\Ly w.a.j [(w.a.j,x.ay)] w wr (.a A' m' c') (UL++ld.d i)) (fun _ si _=>4-(intOf si).g)
    case atStart=>exact⟨0,_,_,_,by omega,rfl,rfl,by simpa using HO.i⟩
    case round=>
     obtain⟨i,A',m',c',hi,rfl,rfl,h⟩:=hrel;have HO:=ab h;clear h;by_cases hlt:i<4
     ·have hlt2:(i:Int)<4:=by omega
      obtain⟨q1,q2,q3,q4⟩:=HO.i.R.J;have hlq:=HO.i.R.lt;have hc:=CD.i i hlt;obtain⟨u,hu⟩:=rT (ld.b i 0);rw[hu]at hc;unfold bv at hc;have HS:=ab (uz ld i (by rw[LD.i];exact hlt));rw[hu]at HS;have L1:=ab (HO.i.alloc (.D #[.b .b (u.g:Int)] 5));have R1:=ab (Cu wr u _ rfl);have K8:=ab (show(UL++ld.d i).a+1<=1000000000 by rw[aR,bH,EP.i,LD.i];omega);go_wp2_with (at_builtin;refine jK rfl (.a 53) (.a 59) rfl rfl L1.i.o rfl R1.i K8.i ?_;intro A5 n5 c5 w5 h2 h3;have L2:=ab (L1.i.step h3);clear h2 h3);go_roundw
      case rel=>exact⟨i+1,A5,n5,c5,by omega,by go_num,rfl,by rw[HS.i,<-cu];exact L2.i⟩
      case measure=>simp[intOf]<;>omega
     ·have hge:¬(i:Int)<4:=by omega
      have HF:=ab (show ld.d i=ld from aJ (by rw[LD.i];omega));rw[HF.i]at HO;clear HF;obtain⟨bs3,Nf⟩:∃b,b=UL++ld:=⟨_,rfl⟩
      have Po:=ab (show bs3.a=20 by rw[Nf,aR,EP.i,LD.i]);rw[<-Nf]at HO HQ;clear Nf EP;have CQ:=ab (WJ wr A' m' c' bs3 (by have:=HO.i.o.Cr;obtain⟨A9,c9,e9⟩:=this;injection e9 with e9 e10 e11;rw[e10,Po.i];omega) (DW HO.i.o (aG _ _)));have HSL:=ab (show xA bs3<=65535 by unfold xA;omega);have HP2:=ab (show uj x=(bs3.set 10 (aK (xA bs3/256))).set 11 (aK (xA bs3%256))by rw[HP.i,HQ.i];rfl);clear HP HQ;generalize xA bs3=z at *;have z0:(0:Int)<=z:=by omega
      have z1:(z:Int)<=65535:=by have:=HSL.i;omega
      go_upto_region 13 with(go_at_call 186;(with_reducible refine CQ.i.e ?_);rintro e w6 ⟨rfl,hb⟩;have M1:=ab (HO.i.go hb);clear hb)
      clear hlt hge hi;obtain⟨hm1,hm2,g,rfl,k1,k2⟩:=M1.i.at0 (by rw[Po.i];omega);have m1:(10:Int)<m':=by rw[Po.i]at hm1;omega
      have m2:(11:Int)<m':=by rw[Po.i]at hm1;omega
      have k10:=k1 10 (by rw[Po.i];omega);have M2:=ab (M1.i.agG 10 (aK (z/256)));have e1:((aK (z/256)).g:Int)=(z:Int)/256:=by rw[zy _ (by have:=HSL.i;omega)];omega
      unfold bv at M2;rw[e1]at M2;clear k1 e1;go_upto_region 14 with fail
      generalize w6.F ⟨g,10,none⟩ (.b .b ((z:Int)/256))=w7 at *;obtain⟨_,_,g',eg,k3,k4⟩:=M2.i.at0 (by rw[aV,Po.i];omega);injection eg with eg
      injection eg with eg
      subst eg;have k11:=k3 11 (by rw[aV,Po.i];omega);have M3:=ab (M2.i.agG 11 (aK (z%256)));have e2:((aK (z%256)).g:Int)=(z:Int)%256:=by rw[zy _ (by omega)];omega
      unfold bv at M3;rw[e2]at M3;clear k3 e2 k2 k10;go_wp2;go_ret;rw[<-HP2.i]at M3;have ho:=M3.i.o;obtain⟨A9,c9,e9⟩:=ho.Cr;injection e9 with e9 e10 e11
      subst e10;have HLE:bs3.a=(uj x).a:=by rw[HP2.i,aV,aV]
      rw[HLE];exact⟨_,_,_,rfl,rfl,ho.vL,ho.O⟩
def anq(a b:fC):Bool:=a.h==b.h&&(a.h||a.lG&&b.lG)
def Am(k:Int)(l:List UInt8):Tn:=
 if k=2048 then⟨(Ak l).1.head,(Ak l).1.dB,(Ak l).1.aQ,(Ak l).1.oV,(Ak l).2==0⟩
 else if k=34525 then⟨(Bn l).1.head,(Bn l).1.dB,(Bn l).1.aQ,(Bn l).1.oV,(Bn l).2==0⟩
 else tK
def agH(x:Lc)(t:Tu):Lc:={x with oM:=if t.h.h then 34525 else 2048}
def abR(x:Lc)(t:Tu)(w:ak):aP ah 104 #[.d x.ay,.d t.ay] w (fT w (.d (agH x t).ay)):=by
 have h0:=(((Bx.start w).new x.ay 108).new t.ay 81).new rb.ay 108;rw[show((w.alloc (.D x.ay 108)).alloc (.D t.ay 81)).a.j=w.a.j+2 by simp,show(w.alloc (.D x.ay 108)).a.j=w.a.j+1 by simp]at h0;have Z:=ab (h0.sub (L':=[(w.a.j,x.ay),(w.a.j+1,t.ay),(w.a.j+2,rb.ay)]) (by simp));clear h0;have hne:=ab (fun p (hp:p∈[(w.a.j+1,t.ay),(w.a.j+2,rb.ay)])=>show p.1≠w.a.j by
  simp at hp;rcases hp with rfl|rfl<;>simp)
 go_enter Tryz.func104,Tryz.ntmps104;go_upto_region 1 with fail
 generalize((w.alloc (.D x.ay 108)).alloc (.D t.ay 81)).alloc (.D rb.ay 108)=w2 at Z ⊢;obtain⟨y1,y2,y3,y4⟩:=Z.i.R.J;have Z1:=ab (Z.i.set hne.i 13 (.b .a 2048));rw[Lc.UJ]at Z1;go_upto_region 2 with fail
 clear y1 y2 y3 y4;generalize w2.F ⟨w.a.j,13,none⟩ (.b .a 2048)=w3 at Z1 ⊢;obtain⟨x1,x2,x3,x4⟩:=Z1.i.b1.J;have x0:=Tu.nS t;cases h6:t.h.h
 ·have H6:=ab h6
  rw[h6]at x0;clear h6;obtain⟨u1,u2,u3,u4⟩:=Z1.i.R.J;have th:=Z1.i.b2.K 0 15 (aX (Lc.r rb).symm);have ZP:=ab ((Z1.i.sub (L':=[(w.a.j+2,rb.ay)]) (by simp)).put (fun p hp=>by cases hp) ({x with oM:=2048}:Lc).ay (by rw[Lc.r,Lc.r]));go_wp2;refine aN (kLc.zI rfl _ rfl ZP.i.R (Lc.r _)) rfl ?_;rw[show agH x t={x with oM:=2048}by unfold agH;rw[H6.i];rfl];exact⟨rfl,ZP.i.O⟩
 ·have H6:=ab h6
  rw[h6]at x0;clear h6;obtain⟨y1,y2,y3,y4⟩:=Z1.i.R.J;have Z2:=ab (Z1.i.set hne.i 13 (.b .a 34525));rw[Lc.UJ]at Z2;go_upto_region 4 with fail
  clear y1 y2 y3 y4 x1 x2 x3 x4;generalize w3.F ⟨w.a.j,13,none⟩ (.b .a 34525)=w4 at Z2 ⊢;obtain⟨u1,u2,u3,u4⟩:=Z2.i.R.J;have th:=Z2.i.b2.K 0 15 (aX (Lc.r rb).symm);have ZP:=ab ((Z2.i.sub (L':=[(w.a.j+2,rb.ay)]) (by simp)).put (fun p hp=>by cases hp) ({x with oM:=34525}:Lc).ay (by rw[Lc.r,Lc.r]));go_wp2;refine aN (kLc.zI rfl _ rfl ZP.i.R (Lc.r _)) rfl ?_;rw[show agH x t={x with oM:=34525}by unfold agH;rw[H6.i];rfl];exact⟨rfl,ZP.i.O⟩
section
attribute [local go_sem high] jd jL
def Iy(l:List UInt8)(s d:fC):List UInt8×Int:=
 if(mO l).2≠0 then([],3)
 else if(Am (mO l).1.oM (l.f (mO l).1.fH)).Y=false then([],3)
 else if anq s d=false then([],1)
 else if s.h=true then
  if(Am (mO l).1.oM (l.f (mO l).1.fH)).dB>65535 then([],4)
  else(qN (mO l).1.S (mO l).1.h (mO l).1.fP 34525++wX ⟨40,40+(Am (mO l).1.oM (l.f (mO l).1.fH)).dB,64,false,0,if(mO l).1.oM=34525 then 41 else 4,s,d⟩++(l.f (mO l).1.fH).d (Am (mO l).1.oM (l.f (mO l).1.fH)).dB.g,0)
 else if 20+(Am (mO l).1.oM (l.f (mO l).1.fH)).dB>65535 then([],4)
  else(qN (mO l).1.S (mO l).1.h (mO l).1.fP 2048++uj ⟨20,20+(Am (mO l).1.oM (l.f (mO l).1.fH)).dB,0,0,false,true,64,if(mO l).1.oM=34525 then 41 else 4,s,d⟩++(l.f (mO l).1.fH).d (Am (mO l).1.oM (l.f (mO l).1.fH)).dB.g,0)
def aj5(W:ak)(r:List UInt8×Int)(e:lU)(W':ak):Prop:=∃A n c,e=.a (.I #[.a A n c,.b .a r.2])/\gu W' W'.a.j A n r.1/\aL W.a.j W W'
def Pv(l:List UInt8)(k:Nat):eY l k<=65535:=by
 have h1:=(l.b k 0).toNat_lt;have h2:=(l.b (k+1) 0).toNat_lt;unfold eY;omega
theorem Zz{l:List UInt8}:∀(m k:Nat)(fP:List Tg),(∀t∈fP,abQ t)->fP.a+m<=2->(∀t∈(Dw l m k fP).1.fP,abQ t)/\(Dw l m k fP).1.fP.a<=2
 | 0,k,fP,h,hl=>by
   cases ht:uy (eY l (k-2):Nat)with
   | false=>rw[zZ ht];exact⟨h,hl⟩
   | true=>rw[KZ ht];exact⟨fun t ht=>by simp[FC]at ht,by simp[FC]⟩
 | m+1,k,fP,h,hl=>by
   cases ht:uy (eY l (k-2):Nat)with
   | false=>rw[zZ ht];exact⟨h,by simp only;omega⟩
   | true=>
     by_cases h4:l.a<k+4
     ·rw[Cx ht h4];exact⟨fun t ht=>by simp[FC]at ht,by simp[FC]⟩
     ·rw[FD ht h4]
      refine Zz m (k+4) _ (fun t ht=>?_) (by simp;omega);rcases qJ.1 ht with ht|ht
      ·exact h t ht
      ·rw[fV.1 ht]
       have h1:=Pv l (k-2);have h2:=Pv l k;exact⟨⟨by simp only;omega,by simp only;omega⟩,by simp only;omega,by simp only;omega⟩
def WT(l:List UInt8):(∀t∈(mO l).1.fP,abQ t)/\(mO l).1.fP.a<=2:=by
 unfold mO;split
 ·exact⟨fun t ht=>by simp[FC]at ht,by simp[FC]⟩
 ·exact Zz 2 14 [] (fun t ht=>by cases ht) (by simp)
end
section
attribute [local go_sem high] jd jL
def agI(W:ak)(k:Int)(A:Option aT)(n c:Nat)(l:List UInt8)(hnc:n<=c)(hc:c<=9223372036854775807/\n<=1000000)(hr:gu W W.a.j A n l):aP ah 101 #[.b .a k,.a A n c] W (fT W (.d (Am k l).ay)):=by
 have b0:=ab ((Bx.start W).new tK.ay 179);have R0:=b0.i.Pf hr;have C4:=ab (OY _ A n c l hnc (by omega) R0);have C6:=ab (SG _ A n c l hnc (by omega) R0);clear R0 hr;go_enter Tryz.func101,Tryz.ntmps101;by_cases hk:k=2048
 ·have q:(k==2048)=true:=by simp[hk]
  obtain⟨x,hx⟩:=bZ ((Ak l));obtain⟨x,er⟩:=x;have H:=ab (show Am k l=⟨x.head,x.dB,x.aQ,x.oV,er==0⟩by unfold Am;rw[if_pos hk,<-hx]);unfold FoP at C4;rw[<-hx]at C4;clear hx hk;go_wp2_with (go_at_call 175;with_reducible refine C4.i.e ?_;rintro e w1 ⟨rfl,hb1⟩;have Z1:=ab (b0.i.go hb1);have Z2:=ab (Z1.i.new x.ay 192);obtain⟨y1,y2,y3,y4⟩:=Z2.i.R.J;have yZ:=Z2.i.b1.K 0 5 (aX (Tn.r tK).symm);clear hb1);have Z3:=ab (Z2.i.swap.put (fun p hp=>by rw[fV.1 hp];exact uP Z1.i.R.lt) (Tn.mk x.head x.dB x.aQ x.oV (er==0)).ay (by rw[Tn.r,Tn.r]));refine aN (kTn.zI rfl _ rfl Z3.i.R (Tn.r _)) rfl ?_;rw[H.i];exact⟨rfl,Z3.i.O⟩
 by_cases hk6:k=34525
 ·have q:(k==2048)=false:=by simp[hk]
  have q2:(k==34525)=true:=by simp[hk6]
  obtain⟨x,hx⟩:=bZ ((Bn l));obtain⟨x,er⟩:=x;have H:=ab (show Am k l=⟨x.head,x.dB,x.aQ,x.oV,er==0⟩by unfold Am;rw[if_neg hk,if_pos hk6,<-hx]);unfold SxP at C6;rw[<-hx]at C6;clear hx hk hk6;go_wp2_with (go_at_call 176;with_reducible refine C6.i.e ?_;rintro e w1 ⟨rfl,hb1⟩;have Z1:=ab (b0.i.go hb1);have Z2:=ab (Z1.i.new x.ay 189);obtain⟨y1,y2,y3,y4⟩:=Z2.i.R.J;have yZ:=Z2.i.b1.K 0 5 (aX (Tn.r tK).symm);clear hb1);have Z3:=ab (Z2.i.swap.put (fun p hp=>by rw[fV.1 hp];exact uP Z1.i.R.lt) (Tn.mk x.head x.dB x.aQ x.oV (er==0)).ay (by rw[Tn.r,Tn.r]));refine aN (kTn.zI rfl _ rfl Z3.i.R (Tn.r _)) rfl ?_;rw[H.i];exact⟨rfl,Z3.i.O⟩
 ·have q:(k==2048)=false:=by simp[hk]
  have q2:(k==34525)=false:=by simp[hk6]
  have H:=ab (show Am k l=tK by unfold Am;rw[if_neg hk,if_neg hk6]);have yZ:=b0.i.R.K 0 5 (aX (Tn.r tK).symm);clear hk hk6;go_wp2;have Z3:=ab (b0.i.put (fun p hp=>by cases hp) tK.ay rfl);refine aN (kTn.zI rfl _ rfl (b:=W.a.j) (c:=tK.ay) (by first|exact Z3.i.R|exact b0.i.R) (Tn.r _)) rfl ?_;rw[H.i];exact⟨rfl,by first|exact Z3.i.O|exact b0.i.O⟩
def aEs:ajS 314:=⟨fun c w=>by
 go_enter Tryz.func314,Tryz.ntmps314;go_wp2;go_ret;exact⟨rfl,rfl⟩,fun args w=>by kernel_rfl⟩
def aei(a:fC)(w:ak):aP ah 269 #[.d a.ay] w (fT w (.e a.lG)):=by
 have HB:=ab ((aG w.a.j w).alloc (av _) (.D a.ay 27));have x0:=dM.new w a.ay 27;have C:=ab (ah4 _ aEs _ 12 12 _ _ _ (by omega) (gu.tail (B:=w.a.j+1) (mV _) x0));have HS:=ab (K6 a);obtain⟨z,hz⟩:=bZ (nzB (a.b.a.f 4));rw[<-hz]at C HS;clear hz;go_enter Tryz.func269,Tryz.ntmps269;go_wp2_with fail;refine C.i.e ?_;rintro e w' ⟨rfl,rfl⟩;cases z
 all_goals
  go_wp2;go_ret;exact⟨by have:=HS.i;simp at this;simp[<-this],HB.i⟩
def agJ(k:Int)(w:ak):aP ah 256 #[.b .a k] w fun e w'=>e=.a (.e (decide (0<=k)&&decide (k<=65535)))/\w=w':=by
 go_enter Tryz.func256,Tryz.ntmps256;by_cases h1:0<=k<;>by_cases h2:k<=65535
 all_goals
  go_wp2;go_ret;exact⟨by simp[h1,h2],rfl⟩
def aj6(k:Int)(w:ak):aP ah 315 #[.b .a k] w fun e w'=>e=.a (.e (decide (0<=k)&&decide (k<=255)))/\w=w':=by
 go_enter Tryz.func315,Tryz.ntmps315;by_cases h1:0<=k<;>by_cases h2:k<=255
 all_goals
  go_wp2;go_ret;exact⟨by simp[h1,h2],rfl⟩
end
def agK(l:List UInt8):∀v∈l.map bv,v.h=true:=by
 intro v hv;obtain⟨b,_,rfl⟩:=iZ.1 hv;rfl
def anr(l:List UInt8)(k:Nat):sM l k []=l:=by unfold sM;simp
def Rq{g z n c:Nat}(h:z<c):vQ (some ⟨g,0,none⟩) z c 1=some ⟨g,z,none⟩:=by
 unfold vQ;rw[if_neg (by omega)];simp only[mE,gL];rw[iJ,bl]
def Ly.copy{B:Nat}{L:List (Nat×Array aB)}{w0 W:ak}{A:Option aT}{n c:Nat}{bs:List UInt8}(h:Ly B L w0 W (.a A n c) bs)(z:Nat){C:Nat}{sp:Option aT}{sLen:Nat}{ys:List UInt8}(hr:gu W C sp sLen ys)(m:Nat)(dp:Option aT)(dLen dCap sCap:Nat)
 (hm:m=qI sLen dLen) (hd:0<m->∃g,A=some ⟨g,0,none⟩/\dp=some ⟨g,z,none⟩) (hz:z+m<=bs.a) (ty:bE) (dT sT:bE) (hu:ah.k dT=some (.a 5)) :
 ∃W',(Builtin.copy_ #[dT,sT] ty #[.a dp dLen dCap,.a sp sLen sCap]).G ah W = .Y (goInt m) W'/\Ly B L w0 W' (.a A n c) (sM bs z (ys.d m))/\W.d W' (jy (.a A n c)):=by
 have hsz:(ah.info? 5).map (·.j)=some 1:=by
  obtain⟨i0,hi0,hz0,hz1,_⟩:=zO Jf;rw[hi0];simp[hz1]
 by_cases h0:m=0
 ·subst h0
  exact⟨W,run_copy_none (P:=ah) W dT sT ty 5 dp sp dLen dCap sLen sCap hu hsz hm.symm,by rw[j6,anr];exact h,dQ _ _⟩
 ·obtain⟨g,rfl,rfl⟩:=hd (by omega)
  have hln:=hr.len;have hms:m<=sLen:=by rw[hm];exact Nat.min_le_left _ _
  obtain⟨a,rfl,_,hsrc⟩:=hr.2 (by omega);have hl1:((ys.d m).map bv).a=m:=by simp;omega
  rcases h.o.vL.2 with⟨e,_⟩|⟨g',cap,cur,e,hB,hh,hn,hcap,hcs,htk⟩
  ·cases e
  ·injection e with e1 e2 e3
   injection e1 with e1
   injection e1 with e1
   subst e1 e3;have hnb:n=bs.a:=e2;have hg2:w0.a.j<=g:=by
    rcases h.o.wM with e|⟨k',e,e2⟩
    ·cases e
    ·injection e with e;subst e;exact e2
   have hrun:=run_copy_row (P:=ah) W dT sT ty 5 g z dLen dCap a sLen sCap cur 5 ((ys.d m).map bv) hu hsz hh (by rw[hl1,hm]) (fun j v hv=>hsrc j v (by
    simp only[iy,jr]at hv ⊢;split at hv
    ·exact hv
    ·cases hv)) (by rw[hl1,hcs];omega) (agK _)
   rw[hl1]at hrun;refine⟨_,hrun,?_,?_⟩
   ·have VI:(sM bs z (ys.d m)).a=bs.a:=FK (by simp;omega)
    have aEt:(cur.a.d bs.a)=bs.map bv:=by rw[<-htk,gL]
    refine⟨⟨⟨by simp[VI],.b ⟨g,c,_,by rw[VI,hnb],hB,setRow_heap W g cur _ _ _ hh,by rw[VI];omega,hcap,by simp;simp at hcs;omega,?_⟩⟩,?_,h.o.wM,h.o.hB,h.o.gb⟩,fun p hp=>⟨?_,(h.r p hp).2⟩⟩
    ·rw[VI,gL]
     unfold sM;simp only[List.toList_toArray,iY,AA,List.map_drop,<-aEt];simp only[Array.toList_ofFn,bH];apply iR;intro i;have hcz:cur.a.a=c:=by rw[aY,hcs,gL]
     rw[jr];by_cases hi:i<bs.a
     ·rw[if_pos hi]
      simp only[cu,kW,bH,bV,jr,jq,hcz]
      repeat' split
      all_goals first|omega|rfl|(simp at *;omega)|(congr 1;omega)|(simp;omega)|skip
     ·rw[if_neg hi]
      symm;apply aS;simp[hcz];omega
    ·exact⟨h.o.gr.os,h.o.gr.tape,h.o.gr.output,by simpa[sH]using h.o.gr.j,fun k hk hne=>(pF W g k _ (by omega)).trans (h.o.gr.block k hk hne)⟩
    ·obtain⟨t,ht⟩:=(h.r p hp).1
     exact⟨t,(pF W g p.1 _ (fun e=>(h.r p hp).2 (by rw[e];rfl))).trans ht⟩
   ·exact⟨rfl,rfl,rfl,by simp[sH],fun k hk hne=>pF W g k _ (fun e=>hne (by rw[e];rfl))⟩
section
attribute [local go_sem high] jd jL
def aqW:mF 3 = #[0,1,2]:=by apply pQ;rw[kC];rfl
@[go_sem]theorem asZ(w:ak)(A0 A1 A2:Option aT)(n0 n1 n2 c0 c1 c2:Nat):(Hq 3 #[(0,.a A0 n0 c0),(1,.a A1 n1 c1),(2,.a A2 n2 c2)]).G ah w = .Y (.a (some ⟨w.a.j,0,none⟩) 3 3) (w.alloc (.D (zu [⟨A0,n0,c0⟩,⟨A1,n1,c1⟩,⟨A2,n2,c2⟩]) 56)):=by
 obtain⟨i0,hi0,hz0,hz1⟩:=UD;simp[Hq,bM,dJ Tryz.underlying276,zeroValue,sizeOf,typeInfo,hi0,hz0,hz1,fD,newRow,zu,cZ,aqW]
def aej(w:ak)(bs:List UInt8)(e:lU)(w':ak):Prop:=∃A n c,e=.a (.I #[.a A n c,.b .a 0])/\n=bs.a/\w'.c w.a.j 5 1 (.a A n c) n (bs.map bv)/\aL w.a.j w w'
theorem Ly.ant{B:Nat}{L:List (Nat×Array aB)}{w0 W:ak}{A:Option aT}{n c:Nat}{bs:List UInt8}(ho:W.c B 5 1 (.a A n c) n (bs.map bv))(hB0:w0.a.j<=B)(hb:aL w0.a.j w0 W)(hx:∀p∈L,dM W p.1 p.2/\p.1<B):Ly w0.a.j L w0 W (.a A n c) bs:=by
 have hn:n=bs.a:=by have:=ho.1;rw[bV]at this;omega
 subst hn;have hk:∀k,(bC A bs.a c).f=some k->B<=k:=fun k hk=>(ho.lt k hk).1
 refine⟨⟨iH ho hB0,⟨hb.os,hb.tape,hb.output,hb.j,fun i hi _=>hb.block i hi⟩,?_,av _,fun k h=>by cases h⟩,fun p hp=>⟨(hx p hp).1,fun e=>by have:=hk _ e;have:=(hx p hp).2;omega⟩⟩;cases A with
 | none=>exact .a rfl
 | some a=>exact .b ⟨_,rfl,aO hB0 (hk _ rfl)⟩
def Ly.toE{L:List (Nat×Array aB)}{w0 W:ak}{A:Option aT}{n c:Nat}{bs:List UInt8}(h:Ly w0.a.j L w0 W (.a A n c) bs):aej w0 bs (.a (.I #[.a A n c,.b .a 0])) W:=by
 obtain⟨A9,c9,e9⟩:=h.o.Cr;injection e9 with e1 e2 e3
 subst e2;exact⟨A,_,c,rfl,rfl,h.o.vL,h.o.O⟩
def vD(n:Nat)(h:n<=65535):gM n 2 true=qF n:=by
 simp only[gM,rR,qF,if_true,dU];rw[show bY 2=[0,1]from rfl];simp[Dq];apply UInt8.toNat_inj.1;simp
def aek{α β:Type}(f:α->List β)(d:α)(l:List α)(i:Nat)(hi:i<l.a):(l.d (i+1)).h f=(l.d i).h f++f (l.b i d):=by
 rw[<-lY d l i hi];simp
def aic{W:ak}{q o:Nat}{c:Array aB}(h:dM W q c)(v:Vector UInt8 6)(hc:c.m o (o+6)=Bl v):gu W W.a.j (some ⟨q,o,none⟩) 6 v.a:=by
 have:=gu.OZ (w:=W) (B:=W.a.j) (b:=q) (o:=o) (l:=v.a) h.lt (fun j hj=>by
  rw[h.J.1];have h2:(c.m o (o+6))[j]? = (Bl v)[j]?:=by rw[hc]
  have hj6:j<6:=by simpa using hj
  have hs:(Bl v)[j]? = some (bv (v.a.b j 0)):=by simp[Bl,au,hj6]
  rw[hs,dA]at h2;split at h2
  ·exact h2
  ·cases h2)
 simpa using this
def ael(xd xr:Vector UInt8 6)(TA:Option aT)(tn aem:Nat)(xty xat:Int)(fP:List Tg)(hf:∀t∈fP,abQ t)(hi:∀t∈fP,uy t.oM=true)(hn:fP.a<=2)(t0:0<=xty)(t1:xty<=65535)(ht:uy xty=false)(w:ak)(hT:iE Tg.ay 2 w w.a.j TA tn fP):aP ah 185 #[.d (Lc.mk xd xr TA tn aem xty xat).ay] w (aej w (qN xd xr fP xty)):=by
 have Z:=ab ((Bx.start w).new (Lc.mk xd xr TA tn aem xty xat).ay 108);have HT:=ab hT;have HN:=ab hT.1;have hn2:tn<=2:=by have:=hT.1;omega
 have q2:decide ((2:Int)<tn)=false:=by simp;omega
 have CI:=ab (fun k W (h:0<=k/\k<=65535)=>show aP ah 256 #[.b .a k] W (fun e W'=>e=.a (.e true)/\W=W')by
  have:=agJ k W;rwa [decide_eq_true h.1,decide_eq_true h.2]at this)
 have CX:=ab (fun W=>CI.i xty W ⟨t0,t1⟩);have CT:=ab (fun W=>by have:=abE (W:=W) xty;rwa [ht]at this:∀W,aP ah 174 #[.b .a xty] W fun e W'=>e=.a (.e false)/\W=W');have HF:=ab hf;have HI:=ab hi;have HTY:=ab ht;clear hT hf hi ht;go_enter Tryz.func185,Tryz.ntmps185;go_upto_region 1 with fail
 generalize w.alloc (.D (Lc.mk xd xr TA tn aem xty xat).ay 108)=w1 at *;obtain⟨y1,y2,y3,y4⟩:=Z.i.R.J;go_upto_region 3 with(first|(go_at_call 256;(with_reducible refine(CX.i _).e ?_);rintro e w4 ⟨rfl,rfl⟩)|(go_at_call 174;(with_reducible refine(CT.i _).e ?_);rintro e w4 ⟨rfl,rfl⟩))
 have CC:=ab (Ct [⟨some ⟨w.a.j,0,none⟩,6,6⟩,⟨some ⟨w.a.j,6,none⟩,6,6⟩] [xd.a,xr.a] 56 2 w1.drew rfl (.cons (aic Z.i.drew.R xd (Lc.JL _)) (.cons (aic Z.i.drew.R xr (Lc.JK _)) .nil)) (by omega) (by simp[yV]));simp only[show w1.drew.a.j=w1.a.j from rfl,show∀(w:ak) ob,w.drew.alloc ob=(w.alloc ob).drew from fun _ _=>rfl]at CC;obtain⟨bs,hbs⟩:=bZ (xd.a++xr.a);have HBS:=ab (show qN xd xr fP xty=bs++fP.h Al++qF xty by rw[hbs];rfl);have EP:=ab (show bs.a=12 by rw[hbs];simp);rw[show [xd.a,xr.a].flatten=bs by rw[hbs];simp]at CC;clear hbs y1 y2 y3 y4 q2;go_region_held_law (fun _=>True) (trivial) (first|(go_at_call 181;(with_reducible refine CC.i.e ?_);rintro e w2 ⟨A2,m2,c2,rfl,hm2,_,ho2,hb2⟩;have O2:=ab ho2;have B2:=ab (Oy hb2);clear hm2 ho2 hb2));have S0:=ab (Ly.ant (L:=[(w.a.j,(Lc.mk xd xr TA tn aem xty xat).ay)]) (w0:=w) O2.i (kV Z.i.O.j) (Z.i.O.trans (B2.i.e Z.i.O.j)) (fun p hp=>by rw[fV.1 hp];exact⟨Z.i.R.go B2.i,Nat.lt_succ_of_lt Z.i.R.lt⟩));have fg:=fun(w':ak) (h:dM w' w.a.j (Lc.mk xd xr TA tn aem xty xat).ay)=>show w'.b ⟨w.a.j,12,none⟩=some (.a TA tn aem)from(h.J.1 12).trans (Lc.abB _)
 have FG:=ab fg;have fy:=fun(w':ak) (h:dM w' w.a.j (Lc.mk xd xr TA tn aem xty xat).ay)=>show w'.b ⟨w.a.j,13,none⟩=some (.b .a xty)from(h.J.1 13).trans (Lc.EC _)
 have FY:=ab fy;clear fg fy;have f12:=FG.i _ S0.i.R;have HTL:=ab (FL fP);go_wp2;clear f12;go_loopw [4,31] (fun s4 s31 wr=>∃(i:Nat)(A:Option aT)(m c:Nat),i<=tn/\s31=.b .a i/\s4=.a A m c/\Ly w.a.j [(w.a.j,(Lc.mk xd xr TA tn aem xty xat).ay)] w wr (.a A m c) (bs++(fP.d i).h Al)) (fun _ s31 _=>tn-(intOf s31).g)
 case atStart=>exact⟨0,_,_,_,by omega,rfl,rfl,by simpa using S0.i⟩
 case round=>
  obtain⟨i,A,m,c,hin,rfl,rfl,h⟩:=hrel;have HO:=ab h;clear h;have HL1:=ab (show((fP.d i).h Al).a<=8 by rw[FL,bH];have:=HN.i;omega);by_cases hlt:i<tn
  ·have hi:(i:Int)<tn:=by omega
   obtain⟨b,o,hA,hbb,hh,hcl⟩:=iE.fH Tg.r Ui ((HT.i.M HO.i.o.O).lN HO.i.o.O.j) hlt;have hm:=yc Ui fP i (by rw[HN.i];exact hlt);have Et:=ab (aek Al Ui fP i (by rw[HN.i];exact hlt));have ok1:=HF.i _ hm;have ok2:=HI.i _ hm;obtain⟨t,htt⟩:=bZ (fP.b i Ui);rw[<-htt]at hcl ok1 ok2 Et;clear htt hm;obtain⟨⟨k0,k1⟩,k2,k3⟩:=ok1;obtain⟨ty,hty⟩:∃n:Nat,t.oM=(n:Int):=⟨t.oM.g,by omega⟩
   obtain⟨tc,htc⟩:∃n:Nat,t.tci=(n:Int):=⟨t.tci.g,by omega⟩
   have CTT:=ab (show∀W,aP ah 174 #[.b .a t.oM] W fun e W'=>e=.a (.e true)/\W=W' from fun W=>by have:=abE (W:=W) t.oM;rwa [ok2]at this);have CII:=ab (fun W=>CI.i t.tci W ⟨k2,k3⟩);have HTB:=ab (show Al t=qF ty++qF tc by unfold Al;rw[hty,htc]);have cs:gB.d t.oM=(ty:Int):=by rw[jh];omega
   have cd:gB.d t.tci=(tc:Int):=by rw[jh];omega
   have PS:=ab (fun W=>wO ty (by omega) W);have PD:=ab (fun W=>wO tc (by omega) W);rw[vD ty (by omega)]at PS;rw[vD tc (by omega)]at PD;have HZ:=ab hty;have HZ2:=ab htc;subst hA;clear hty htc ok2 k0 k1 k2 k3;have L1:=ab (HO.i.new t.ay 268);go_upto_region 7 with fail
   clear hh hcl;generalize wr.alloc (.D t.ay 268)=w5 at L1 ⊢;generalize wr.a.j=y6 at L1 ⊢;have e1:=(L1.i.R.J.1 0).trans (Tg.EC t);have e2:=(L1.i.R.J.1 1).trans (Tg.am4 t);go_upto_region 9 with(first|(go_at_call 174;(with_reducible refine(CTT.i _).e ?_);rintro e w6 ⟨rfl,rfl⟩)|(go_at_call 256;(with_reducible refine(CII.i _).e ?_);rintro e w6 ⟨rfl,rfl⟩))
   go_upto_region 10 with(first|(go_at_call 184;(with_reducible refine(PS.i _).e ?_);rintro e w6 ⟨A6,rfl,ho,hb⟩;have R6:=ab (DW ho (aG _ _));have L2:=ab (L1.i.go hb);have HLN:=ab (show(bs++(fP.d i).h Al).a+2<=1000000000 by rw[aR];have:=HL1.i;have:=EP.i;omega);clear ho hb)|(at_builtin;refine jK rfl (.a 45) (.a 49) rfl rfl L2.i.o rfl R6.i HLN.i ?_;intro A7 n7 c7 w7 h2 h3;have L3:=ab (L2.i.step h3);clear h2 h3))
   have e3:=(L3.i.R.J.1 1).trans (Tg.am4 t);have avk:=ab (show(bs++(fP.d i).h Al++qF ty).a+2<=1000000000 by rw[aR,aR];have:=HL1.i;have:=EP.i;have:(qF ty).a=2:=rfl;omega);go_wp2_with (first|(go_at_call 184;(with_reducible refine(PD.i _).e ?_);rintro e w8 ⟨A8,rfl,ho,hb⟩;have R8:=ab (DW ho (aG _ _));have L4:=ab (L3.i.go hb);clear ho hb)|(at_builtin;refine jK rfl (.a 51) (.a 55) rfl rfl L4.i.o rfl R8.i avk.i ?_;intro A9 n9 c9 w9 h2 h3;have L5:=ab (L4.i.step h3);clear h2 h3));go_roundw
   case rel=>exact⟨i+1,A9,n9,c9,by omega,by go_num,rfl,by have:=L5.i.Uh;rw[Et.i,HTB.i,<-cu,<-cu];exact this⟩
   case measure=>simp[intOf]<;>omega
  ·have hge:¬(i:Int)<tn:=by omega
   have HFU:=ab (show(fP.d i).h Al=fP.h Al by rw[aJ (by rw[HN.i];omega)]);obtain⟨ty,hty⟩:∃n:Nat,xty=(n:Int):=⟨xty.g,by omega⟩
   subst hty;have cs:gB.d (ty:Int)=(ty:Int):=by rw[jh];omega
   have PS:=ab (fun W=>wO ty (by omega) W);rw[vD ty (by omega)]at PS;have e3:=FY.i _ HO.i.R;have avk:=ab (show(bs++(fP.d i).h Al).a+2<=1000000000 by rw[aR];have:=HL1.i;have:=EP.i;omega);go_wp2_with (first|(go_at_call 184;(with_reducible refine(PS.i _).e ?_);rintro e w8 ⟨A8,rfl,ho,hb⟩;have R8:=ab (DW ho (aG _ _));have L4:=ab (HO.i.go hb);clear ho hb)|(at_builtin;refine jK rfl (.a 58) (.a 62) rfl rfl L4.i.o rfl R8.i avk.i ?_;intro A9 n9 c9 w9 h2 h3;have L5:=ab (L4.i.step h3);clear h2 h3));go_ret2;rw[HBS.i,<-HFU.i];exact L5.i.toE
def aeo(x:Lc)(fP:List Tg)(hf:∀t∈fP,abQ t)(hi:∀t∈fP,uy t.oM=true)(hn:fP.a<=2)(t0:0<=x.oM)(t1:x.oM<=65535)(ht:uy x.oM=false)(w:ak)(hT:iE Tg.ay 2 w w.a.j x.Ws x.Fz fP):aP ah 185 #[.d x.ay] w (aej w (qN x.S x.h fP x.oM)):=
 ael x.S x.h x.Ws x.Fz x.ah3 x.oM x.fH fP hf hi hn t0 t1 ht w hT
end
section
attribute [local go_sem high] jd jL
def azu(w:ak)(c:Array aB)(t:bE)(l:List UInt8)(h:c.a=l.map bv):gu (w.alloc (.D c t)) (w.a.j+1) (some ⟨w.a.j,0,none⟩) l.a l:=by
 have:=gu.OZ (w:=w.alloc (.D c t)) (B:=w.a.j+1) (b:=w.a.j) (o:=0) (l:=l) (mV _) (fun j hj=>by
  rw[bl,lX w c t j,<-dG,h];simp[au,hj])
 exact this
def Ng{W:ak}{q o:Nat}{c:Array aB}(h:dM W q c)(a:fC)(hc:c.m o (o+17)=a.ay):gu W W.a.j (some ⟨q,o+1,none⟩) 16 a.b.a:=by
 have:=gu.OZ (w:=W) (B:=W.a.j) (b:=q) (o:=o+1) (l:=a.b.a) h.lt (fun j hj=>by
  have hj6:j<16:=by simpa using hj
  rw[h.J.1,show o+1+j=o+(j+1)by omega];have h2:(c.m o (o+17))[j+1]? = a.ay[j+1]?:=by rw[hc]
  rw[fC.BR a j hj6,dA]at h2;split at h2
  ·exact h2
  ·cases h2)
 simpa using this
def aej.of{w W:ak}{A:Option aT}{n c:Nat}{bs:List UInt8}{B:Nat}(hn:n=bs.a)(ho:W.c B 5 1 (.a A n c) n (bs.map bv))(hB:w.a.j<=B)(hb:aL w.a.j w W):aej w bs (.a (.I #[.a A n c,.b .a 0])) W:=⟨A,n,c,rfl,hn,iH ho hB,hb⟩
def WU(x:Sx)(n:Nat)(hn:n<=65535)(hh:x.head=40)(ht:x.dB=40+n)(p0:0<=x.aQ)(p1:x.aQ<=255)(pe:Aa x.aQ=false)(h0:0<=x.IU)(h1:x.IU<=255)(hf:x.oV=false)(he:x.IW=0)(hs:x.h.h=true)(hd:x.S.h=true)(w:ak):aP ah 270 #[.d x.ay] w (aej w (wX x)):=by
 have Z:=ab ((Bx.start w).new x.ay 189);have FA:=ab (fun(w':ak) (h:dM w' w.a.j x.ay)=>show w'.b ⟨w.a.j,0,none⟩=some (.b .a 40)/\w'.b ⟨w.a.j,1,none⟩=some (.b .a (40+n))/\w'.b ⟨w.a.j,2,none⟩=some (.b .a x.IU)/\w'.b ⟨w.a.j,3,none⟩=some (.e false)/\w'.b ⟨w.a.j,4,none⟩=some (.b .a 0)/\w'.b ⟨w.a.j,5,none⟩=some (.b .a x.aQ)/\w'.b ⟨w.a.j,6,none⟩=some (.e true)/\w'.b ⟨w.a.j,23,none⟩=some (.e true)by
  have f:=h.J.1;refine⟨(f 0).trans ((Sx.KY x).trans (by rw[hh])),(f 1).trans ((Sx.yH x).trans (by rw[ht])),(f 2).trans (Sx.auK x),(f 3).trans ((Sx.UG x).trans (by rw[hf])),(f 4).trans ((Sx.aqy x).trans (by rw[he])),(f 5).trans (Sx.Cv x),(f 6).trans ?_,(f 23).trans ?_⟩
  ·have:=Sx.JK x
   have h2:(x.ay.m 6 23)[0]? = x.h.ay[0]?:=by rw[this]
   rw[fC.nS,hs,dA,if_pos (by rw[Sx.r];omega)]at h2;exact h2
  ·have:=Sx.JL x
   have h2:(x.ay.m 23 40)[0]? = x.S.ay[0]?:=by rw[this]
   rw[fC.nS,hd,dA,if_pos (by rw[Sx.r];omega)]at h2;exact h2)
 have HT:=ab (show wX x=[96,0,0,0]++qF n++[aK x.aQ.g,aK x.IU.g]++x.h.b.a++x.S.b.a by
  unfold wX qF;rw[ht,show((40:Int)+n-40).g=n by omega];rfl)
 have CI:=ab (fun k W (h:0<=k/\k<=255)=>show aP ah 315 #[.b .a k] W (fun e W'=>e=.a (.e true)/\W=W')by
  have:=aj6 k W;rwa [decide_eq_true h.1,decide_eq_true h.2]at this)
 have C1:=ab (fun W=>CI.i x.IU W ⟨h0,h1⟩);have C2:=ab (fun W=>CI.i x.aQ W ⟨p0,p1⟩);have CE:=ab (fun W=>by have:=Wv x.aQ W;rwa [pe]at this:∀W,aP ah 250 #[.b .a x.aQ] W fun e W'=>e=.a (.e false)/\aL W.a.j W W');have q1:decide ((40:Int)+n<40)=false:=by simp;omega
 have q2:decide ((65575:Int)<40+(n:Int))=false:=by simp;omega
 have q3:=jW (40+(n:Int)-40) (by omega);have q4:(40:Int)+n-40=n:=by omega
 rw[q4]at q3;have q5:gB.d (n:Int)=n:=by rw[jh];omega
 have q6:aW.d x.aQ=x.aQ:=by rw[II];omega
 have q7:aW.d x.IU=x.IU:=by rw[II];omega
 have PS:=ab (fun W=>wO n hn W);rw[vD n hn]at PS;have HP:=ab (show #[aI .b x.aQ,.b .b x.IU].a=[aK x.aQ.g,aK x.IU.g].map bv by
  simp only[kR,oD,bv];rw[zy x.aQ.g (by omega),zy x.IU.g (by omega),lS p0,lS h0])
 have E1:=ab (Sx.JK x);have E2:=ab (Sx.JL x);clear hh ht pe hf he hs hd p0 p1 h0 h1;go_enter Tryz.func270,Tryz.ntmps270;go_upto_region 1 with fail
 generalize w.alloc (.D x.ay 189)=w1 at *;obtain⟨f0,f1,f2,f3,f4,f5,f6,f7⟩:=FA.i _ Z.i.R;go_upto_region 3 with(first|(go_at_call 315;(with_reducible refine(C1.i _).e ?_);rintro e w4 ⟨rfl,rfl⟩)|(go_at_call 315;(with_reducible refine(C2.i _).e ?_);rintro e w4 ⟨rfl,rfl⟩)|(go_at_call 250;(with_reducible refine(CE.i _).e ?_);rintro e w5 ⟨rfl,hb⟩;have Z5:=ab (Z.i.go hb);clear f0 f1 f2 f3 f4 f5 f6 f7;obtain⟨f0,f1,f2,f3,f4,f5,f6,f7⟩:=FA.i _ Z5.i.R;clear hb))
 clear f0 f3 f4 f6 f7 f1 f2 f5 q1 q2;have L0:=ab ((Ly.ano w w5 Z5.i.O #[.b .b 96,.b .b 0,.b .b 0,.b .b 0] [96,0,0,0] 4 rfl (by omega) rfl).add (q:=w.a.j) (c:=x.ay) (Z5.i.R.alloc _) (by simp[jy];exact uP Z5.i.R.lt));go_upto_region 4 with fail
 generalize w5.alloc (.D #[.b .b 96,.b .b 0,.b .b 0,.b .b 0] 5)=w6 at L0 ⊢;generalize bC (some ⟨w5.a.j,0,none⟩) 4 4=v6 at L0 ⊢;have f1:=(FA.i _ L0.i.R).2.1;go_upto_region 5 with(first|(go_at_call 184;(with_reducible refine(PS.i _).e ?_);rintro e w7 ⟨A7,rfl,ho,hb⟩;have R7:=ab (DW ho (aG _ _));have L1:=ab (L0.i.go hb);clear ho hb)|(at_builtin;refine jK rfl (.a 57) (.a 62) rfl rfl L1.i.o rfl R7.i (show 4+2<=1000000000 by decide) ?_;intro A8 n8 c8 w8 h2 h3;have L2:=ab (L1.i.step h3);clear h2 h3))
 clear f1 q3 q5 q4;obtain⟨_,_,f2,_,_,f5,_,_⟩:=FA.i _ L2.i.R;have L3:=ab (L2.i.alloc (.D #[.b .b x.aQ,.b .b x.IU] 5));have R8:=ab (azu w8 #[.b .b x.aQ,.b .b x.IU] 5 _ HP.i);go_upto_region 6 with(first|(at_builtin;refine jK rfl (.a 64) (.a 71) rfl rfl L3.i.o rfl R8.i (show 4+2+2<=1000000000 by decide) ?_;intro A9 n9 c9 w9 h2 h3;have L4:=ab (L3.i.step h3);clear h2 h3))
 clear f2 f5 q6 q7;obtain⟨bs,hbs⟩:=bZ ([96,0,0,0]++qF n++[aK x.aQ.g,aK x.IU.g]);have EP:=ab (show bs.a=8 by rw[hbs];rfl);rw[<-hbs]at L4 HT;clear hbs;obtain⟨A10,c10,e10⟩:=L4.i.o.Cr;injection e10 with e11 e12 e13
 subst e11 e12 e13;have BX:=ab L4.i.R.drew;have RB:=ab (gu.iG L4.i.o.vL);have CC:=ab (Ct [⟨A9,bs.a,c9⟩,⟨some ⟨w.a.j,7,none⟩,16,16⟩,⟨some ⟨w.a.j,24,none⟩,16,16⟩] [bs,x.h.b.a,x.S.b.a] 56 3 w9.drew rfl (.cons RB.i (.cons (Ng (o:=6) BX.i x.h E1.i) (.cons (Ng (o:=23) BX.i x.S E2.i) .nil))) (by omega) (by simp[yV,EP.i]));simp only[show w9.drew.a.j=w9.a.j from rfl,show∀(w:ak) ob,w.drew.alloc ob=(w.alloc ob).drew from fun _ _=>rfl]at CC;rw[show [bs,x.h.b.a,x.S.b.a].flatten=wX x by rw[HT.i];simp]at CC;go_region_held_law (fun _=>True) (trivial) (first|(go_at_call 181;(with_reducible refine CC.i.e ?_);rintro e w2 ⟨A2,m2,c2,rfl,hm2,_,ho2,hb2⟩;have O2:=ab ho2;have N2:=ab hm2;have B2:=ab (Oy hb2);clear hm2 ho2 hb2));go_wp2;go_ret2;exact aej.of N2.i O2.i (kV L4.i.o.O.j) (L4.i.o.O.trans (B2.i.e L4.i.o.O.j))
end
def Nh{w:ak}{ops:Array iM}{rest:List iM}{o:iM}{a:qG}{Q:yP->qG->ak->Prop}(hgd:o.guard=none)(d s:qj)
 (ho:o.op=.call {callee:=.builtin .copy,args:=#[d,s],argTypes:=#[56,56]}) {B:Nat} {L:List (Nat×Array aB)} {w0:ak} {A:Option aT} {n c:Nat} {bs:List UInt8} (H:Ly B L w0 w (.a A n c) bs) (z m:Nat)
 {dp:Option aT} {dLen dCap:Nat} (hd:a.eval d=.a dp dLen dCap) {sp:Option aT} {sLen sCap:Nat} (hs:a.eval s=.a sp sLen sCap) {C:Nat} {ys:List UInt8} (hr:gu w C sp sLen ys) (hm:m=qI sLen dLen)
 (hp:0<m->∃g,A=some ⟨g,0,none⟩/\dp=some ⟨g,z,none⟩) (hz:z+m<=bs.a)
 (h:∀w',Ly B L w0 w' (.a A n c) (sM bs z (ys.d m))->w.d w' (jy (.a A n c))->wpList ah ops Q rest (a.put o.S (goInt m)) w'):wpList ah ops Q (o::rest) a w:=by
 obtain⟨W',hrun,hL,hG⟩:=H.copy z hr m dp dLen dCap sCap hm hp hz o.type 56 56 cO;refine tL hgd fun K hK=>?_
 unfold nG;simp[execOp,ho,resolve,invoke,builtin,hd,hs,hrun,iK];exact hK _ _ (h W' hL hG)
def Pw{w:ak}{ops:Array iM}{o:iM}{a:qG}{K:qG->ak->Prop}{Q:yP->qG->ak->Prop}{E:Prop}(hgd:o.guard=none)(d s:qj)
 (ho:o.op=.call {callee:=.builtin .copy,args:=#[d,s],argTypes:=#[56,56]}) {B:Nat} {L:List (Nat×Array aB)} {w0:ak} (A:Option aT) (n c:Nat) {bs:List UInt8} (H:Ly B L w0 w (.a A n c) bs) (z m:Nat)
 (dp:Option aT) (dLen dCap:Nat) (hd:a.eval d=.a dp dLen dCap) (sp:Option aT) (sLen sCap:Nat) (hs:a.eval s=.a sp sLen sCap) {C:Nat} {ys:List UInt8} (hr:gu w C sp sLen ys) (hm:m=qI sLen dLen)
 (hp:0<m->∃g,A=some ⟨g,0,none⟩/\dp=some ⟨g,z,none⟩) (hz:z+m<=bs.a)
 (h:∀w',Ly B L w0 w' (.a A n c) (sM bs z (ys.d m))->w.d w' (jy (.a A n c))->K (a.put o.S (goInt m)) w'):if fq o (yielded ops a.tmps)=true then nG ah o a w K Q else E:=by
 have hw:fq o (yielded ops a.tmps)=true:=by simp[fq,hgd]
 rw[if_pos hw];obtain⟨W',hrun,hL,hG⟩:=H.copy z hr m dp dLen dCap sCap hm hp hz o.type 56 56 cO;unfold nG;simp[execOp,ho,resolve,invoke,builtin,hd,hs,hrun,iK];exact h W' hL hG
def Ly.h{B:Nat}{L:List (Nat×Array aB)}{w0 w:ak}{A:Option aT}{n c:Nat}{bs:List UInt8}(H:Ly B L w0 w (.a A n c) bs)(h:0<bs.a):∃g,A=some ⟨g,0,none⟩/\n=bs.a/\n<=c/\w0.a.j<=g/\∀p∈L,p.1≠g:=by
 rcases H.o.vL.2 with⟨e,h0⟩|⟨g,cap,cur,e,hB,_,hn,_⟩
 ·omega
 ·injection e with e1 e2 e3
  subst e1 e2 e3;refine⟨g,rfl,rfl,hn,?_,fun p hp e=>(H.r p hp).2 (by rw[e];rfl)⟩;rcases H.o.wM with e|⟨k',e,e2⟩
  ·cases e
  ·injection e with e;subst e;exact e2
section
attribute [local go_sem high] jd jL
def FM(l:List UInt8)(d s:Vector UInt8 6):List UInt8:=(d.a++s.a++l.f 12).d l.a
def azv(l:List UInt8)(d s:Vector UInt8 6)(h:l.a<=6):sM l 0 (d.a.d l.a)=FM l d s:=by
 have e:(d.a.d l.a).a=l.a:=by simp;omega
 unfold sM FM;rw[j6,dH,bl,e,List.drop_length,uU,cu,List.take_append_of_le_length (by simp;omega)]
def azw(l:List UInt8)(d s:Vector UInt8 6)(h:6<l.a):sM (sM l 0 (d.a.d 6)) 6 (s.a.d (min 6 (l.a-6)))=FM l d s:=by
 have hd:d.a.d 6=d.a:=aJ (by simp);have hdl:d.a.a=6:=by simp
 have hsl:s.a.a=6:=by simp
 rw[hd];unfold sM FM;simp only[j6,dH,bl,hdl];rw[List.take_left' hdl,<-Mj];have e2:(d.a++l.f 6).f 6=l.f 6:=List.drop_left' hdl;have e3:(s.a.d (min 6 (l.a-6))).a=min 6 (l.a-6):=by simp
 rw[e2,e3,Mj,cu d.a s.a,List.take_append,hdl];rw[aJ (by omega:d.a.a<=l.a),cu];congr 1;rw[List.take_append,hsl];by_cases h2:l.a<=12
 ·rw[show min 6 (l.a-6)=l.a-6 by omega,gq (by omega),gq (by omega:l.a<=12)]
  simp
 ·rw[show min 6 (l.a-6)=6 by omega,aJ (by omega:s.a.a<=6),aJ (by omega:s.a.a<=l.a-6)]
  congr 1;rw[aJ (by simp;omega)]
def Ly.toN{L:List (Nat×Array aB)}{w0 W:ak}{A:Option aT}{n c:Nat}{bs:List UInt8}(h:Ly w0.a.j L w0 W (.a A n c) bs):IV w0 bs (.a (.a A n c)) W:=by
 obtain⟨A9,c9,e9⟩:=h.o.Cr;injection e9 with e1 e2 e3
 subst e2;exact⟨A,_,c,rfl,rfl,h.o.vL,h.o.O⟩
def abS(w:ak)(A:Option aT)(n c:Nat)(l:List UInt8)(d s:Vector UInt8 6)(hn:n<=1000000)(hr:gu w w.a.j A n l):aP ah 206 #[.a A n c,.d (Bl d),.d (Bl s)] w (IV w (FM l d s)):=by
 have h0:=((Bx.start w).new (Bl d) 25).new (Bl s) 25;simp only[tQ]at h0;have Z:=ab h0;have CC:=ab (ajv l A n c _ (h0.Pf hr) (by omega));have hl:=ab hr.len;clear h0 hr;go_enter Tryz.func206,Tryz.ntmps206;go_upto_region 1 with fail
 generalize(w.alloc (.D (Bl d) 25)).alloc (.D (Bl s) 25)=w1 at Z CC ⊢;go_upto_region 2 with(go_at_call 268;(with_reducible refine CC.i.e ?_);rintro e w2 ⟨A2,c2,rfl,ho,hb⟩;have L1:=ab (Ly.ant (w0:=w) (L:=[(w.a.j+1,Bl s),(w.a.j,Bl d)]) ho Z.i.O.j (Z.i.O.trans (hb.e Z.i.O.j)) (fun p hp=>⟨((Z.i.go hb).2 p hp).2,(Z.i.2 p hp).2.lt⟩));clear ho hb)
 have RD:=ab (aic (o:=0) L1.i.b1 d (by rw[<-gN d];simp));by_cases h6:n<=6
 ·have hm:n=qI 6 n:=by show n=min 6 n;omega
  have HM:=ab hm;have q:decide ((6:Int)<n)=false:=by simp;omega
  have HP:=ab (show 0<n->∃g,A2=some ⟨g,0,none⟩/\A2=some ⟨g,0,none⟩from fun h=>by
   obtain⟨g,hg,_⟩:=L1.i.h (by rw[hl.i];exact h);exact⟨g,hg,hg⟩)
  have HZ:=ab (show 0+n<=l.a by rw[hl.i];omega);clear hm;go_wp2_with (first|(at_builtin;fail)|(refine Nh rfl (.a 10) (.a 11) rfl L1.i 0 n rfl rfl RD.i HM.i HP.i HZ.i ?_;intro w3 h3 h4;have L2:=ab h3;clear h3 h4));go_ret;have:=L2.i.toN;have e:sM l 0 (d.a.d n)=FM l d s:=by rw[<-azv l d s (by rw[hl.i];exact h6),hl.i]
  rw[e]at this;exact this
 ·have q:decide ((6:Int)<n)=true:=by simp;omega
  obtain⟨g,hg1,hg2,hg3,hg4,hg5⟩:=L1.i.h (by rw[hl.i];omega);subst hg1;clear hg2;have HP:=ab (show 0<6->∃g',(some ⟨g,0,none⟩:Option aT)=some ⟨g',0,none⟩/\(some ⟨g,0,none⟩:Option aT)=some ⟨g',0,none⟩from fun h=>⟨g,rfl,rfl⟩);have HM:=ab (show 6=qI 6 n by show 6=min 6 n;omega);have HZ:=ab (show 0+6<=l.a by rw[hl.i];omega);have hn6:(6:Int)<=n:=by omega
  go_upto_region 4 with(first|(refine Nh rfl (.a 10) (.a 11) rfl L1.i 0 6 rfl rfl RD.i HM.i HP.i HZ.i ?_;intro w3 h3 h4;have L2:=ab h3;clear h3 h4))
  have aKx:(6:Int)<=c2:=by omega
  have L3:=ab L2.i.drew;have RS:=ab (aic (o:=0) L3.i.R s (by rw[<-gN s];simp));have HPL:=ab (show(sM l 0 (d.a.d 6)).a=n by rw[FK (by simp;rw[hl.i];omega),hl.i]);obtain⟨m2,hm2⟩:∃m,m=qI 6 (n-6):=⟨_,rfl⟩
  have HM2:=ab hm2;have hm3:m2=min 6 (n-6):=hm2;have HP2:=ab (show 0<m2->∃g',(some ⟨g,0,none⟩:Option aT)=some ⟨g',0,none⟩/\vQ (some ⟨g,0,none⟩) 6 c2 1=some ⟨g',6,none⟩from fun h=>⟨g,rfl,Rq (n:=0) (by omega)⟩);have HZ2:=ab (show 6+m2<=(sM l 0 (d.a.d 6)).a by rw[HPL.i];omega);have HT:=ab (show sM (sM l 0 (d.a.d 6)) 6 (s.a.d m2)=FM l d s by rw[hm3,<-hl.i];exact azw l d s (by rw[hl.i];omega));clear hm2 hm3 h6;go_region_held_law (fun _=>True) (trivial)
   (first|(refine Pw (o:=⟨some 19,_,_,_,_,_⟩) rfl (.a 17) (.a 18) rfl (some ⟨g,0,none⟩) n c2 L3.i 6 m2 (vQ (some ⟨g,0,none⟩) 6 c2 1) (n-6) (c2-6) rfl (some ⟨w.a.j+1,0,none⟩) 6 6 rfl RS.i HM2.i HP2.i HZ2.i ?_;intro w4 h3 h4;have L4:=ab h3;clear h3 h4))
  go_wp2;go_ret;have:=L4.i.toN;rw[HT.i]at this;exact this
end
structure Ac where
 kind:Int
 frame:List UInt8
 op:su
 E:List UInt8
 well:Bool
structure Ou where
 err:Int
 lu:Int
 GN:Bool
 lD:Int
 E:List UInt8
 i:List UInt8
deriving DecidableEq
def Ia:Ou:=⟨0,0,false,0,[],[]⟩
structure En where
 key:Vector UInt8 16
 c:Cn
 vs:List Vp
def Af(e:En)(s:rE):Tl:=uL e.key e.c.j.g (lg (oC s.r) s.qO)
def aie(e:En)(t:Tu):Nat:=yw e.key (GH t)
def Px(s:rE)(t:Tu):Option (List UInt8):=match qv s.h t with
 | some f=>if tJ s.qO f.E && !xM (oC s.r) f.E then some f.E else none
 | none=>none
def JY(e:En)(s:rE)(t:Tu):Option (Bk×Bool):=match Px s t with
 | some n=>some (qD s.qO n,true)
 | none=>(Ir (Af e s) (aie e t)).map fun n=>(qD s.qO n,false)
def Py(e:En)(v:Vp)(b:Bk)(t:Tu)(l:List UInt8):Int×List UInt8:=
 if v.Wq then
  if(Iy l (if b.h.h then e.c.h else e.c.Du) b.h).2=0 then(0,FM (Iy l (if b.h.h then e.c.h else e.c.Du) b.h).1 b.Bw e.c.Bw)else(10,[])
 else if b.h.h=t.S.h then(0,FM (abP l b.h b.S true) b.Bw e.c.Bw)else(9,[])
structure Wy where
 lu:Int
 i:List UInt8
 bk:Bk
 GN:Bool
def EH(e:En)(s:rE)(l:List UInt8):Wy:=
 if(wE l).kind=0 then
  match zJ e.vs (wE l).I.S (wE l).I.aQ (wE l).I.iQ with
  | some i=>match JY e s (wE l).I with
    | some (b,GN)=>
      if(Py e (e.vs.b i oL) b (wE l).I l).1=0 then⟨0,(Py e (e.vs.b i oL) b (wE l).I l).2,b,GN⟩
      else⟨(Py e (e.vs.b i oL) b (wE l).I l).1,[],iO,false⟩
    | none=>⟨8,[],iO,false⟩
  | none=>⟨7,[],iO,false⟩
 else⟨(wE l).kind,[],iO,false⟩
def upC(v:Vector Int 11)(r:Int):Vector Int 11:=Vector.ofFn fun i=>if(i:Int)=r then v[i]+1 else v[i]
def aif(s:rE)(p:Pk):Int:=match qv s.h p.I with
 | some f=>ahA f.vV p.vw.g
 | none=>aaM p.I.aQ p.vw.g
def anu(s:rE)(p:Pk)(n:List UInt8):Fw:=⟨p.I,n,aif s p,s.fK,s.no+1⟩
def EI(e:En)(s:rE)(l:List UInt8):rE×Ou:=
 if(EH e s l).lu=0 then
  ({s with S:=upC s.S 0,no:=s.no+1,h:=Ez e.c.dS s.h (anu s (wE l) (EH e s l).bk.E)},⟨0,0,(EH e s l).GN,s.lD,(EH e s l).bk.E,(EH e s l).i⟩)
 else({s with S:=upC s.S (EH e s l).lu},{Ia with lu:=(EH e s l).lu})
def opE(s:rE)(o:su):rE×Ou:=
 if qL s.lD s.qO o=0 then({s with lD:=doV s.lD s.qO o,qO:=doL s.lD s.qO o,r:=Fx s.r ((doL s.lD s.qO o).map (·.E))},{Ia with lD:=doV s.lD s.qO o})
 else(s,{Ia with err:=qL s.lD s.qO o})
def SI(e:En)(s:rE)(n:List UInt8)(well:Bool):rE×Ou:=
 if(Lm s.r n well e.c.kF e.c.S).2.2=0 then({s with r:=(Lm s.r n well e.c.kF e.c.S).1},Ia)
 else(s,{Ia with err:=(Lm s.r n well e.c.kF e.c.S).2.2})
def SK(e:En)(s:rE):rE×Ou:=
 if 1099511627776<=s.fK then(s,{Ia with err:=7})else({s with fK:=s.fK+1,h:=MS (s.fK+1) e.c.kH s.h},Ia)
def D8(e:En)(s:rE)(a:Ac):rE×Ou:=
 if a.kind=1 then EI e s a.frame else if a.kind=2 then opE s a.op else if a.kind=3 then SI e s a.E a.well else if a.kind=4 then SK e s else(s,{Ia with err:=1})
structure qm(M:Int)(e:En)(s:rE):Prop where
 cn:yG e.c e.vs=true
 pl:rU s.lD s.qO=true
 fi:∀x∈s.qO,x.oQ
 nm:s.r.map (·.E)=s.qO.map (·.E)
 hl:∀x∈s.r,0<=x.G/\x.G<(if x.down then e.c.kF else e.c.S)
 fl:wP e.c.dS s.h
 fw:∀f∈s.h,f.seen<=s.fK/\1<=f.no/\f.no<=s.no
 ti:0<=s.fK/\s.fK<=1099511627776
 no:0<=s.no/\s.no<=M
 ct:∀n∈s.S.a,0<=n/\n<=M
def qm.le{M K:Int}{e:En}{s:rE}(h:qm M e s)(hk:M<=K):qm K e s:=
 ⟨h.cn,h.pl,h.fi,h.nm,h.hl,h.fl,h.fw,h.ti,by have:=h.no;omega,fun n hn=>by have:=h.ct n hn;omega⟩
def tC{x:Cn}{l:List Vp}(h:yG x l=true):(2<=x.j/\x.j<=65537/\lT x.j.g=true)/\(1<=x.dS/\x.dS<=4096)/\(1<=x.kF/\x.kF<=100)/\(1<=x.S/\x.S<=100):=by
 unfold yG at h;simp only[bf,decide_eq_true_eq]at h;obtain⟨⟨⟨⟨⟨⟨⟨⟨⟨⟨_,_⟩,⟨⟨h1,h2⟩,h3⟩⟩,h4⟩,h5⟩,h6⟩,_⟩,_⟩,_⟩,_⟩,_⟩:=h;exact⟨⟨h1,h2,h3⟩,h4,h5,h6⟩
def aii{v:Vector Int 11}{r:Int}{M:Int}(h:∀n∈v.a,0<=n/\n<=M):∀n∈(upC v r).a,0<=n/\n<=M+1:=by
 intro n hn;have hv:∀(i:Nat)(hi:i<11),0<=v[i]/\v[i]<=M:=fun i hi=>h _ (by rw[Vector.mem_toList_iff];exact Vector.getElem_mem hi)
 rw[Vector.mem_toList_iff,Vector.mem_iff_getElem]at hn;obtain⟨i,hi,rfl⟩:=hn;unfold upC;rw[Vector.getElem_ofFn];have:=hv i hi;simp only[Fin.getElem_fin];split<;>omega
def abT{f x:Fw}{l:List Fw}:x∈ins kG f l↔x=f\/x∈l:=by
 rw[(Cj (lt:=kG) f l).mem_iff,bB]
def aqX{dS:Int}{l:List Fw}{f x:Fw}(h:x∈Ez dS l f):x=f\/x∈l:=by
 unfold Ez at h;split at h
 ·split at h
  ·rcases abT.1 h with h|h
   ·exact .a h
   ·exact .b ((abv l f.key).subset h)
  ·split at h
   ·rcases abT.1 h with h|h
    ·exact .a h
    ·exact .b (List.mem_of_mem_tail h)
   ·exact abT.1 h
 ·exact .b h
def aj7{M:Int}{e:En}{s:rE}(h:qm M e s)(l:List UInt8):qm (M+1) e (EI e s l).1:=by
 obtain⟨_,⟨r1,_⟩,_⟩:=tC h.cn;have hno:=h.no;unfold EI;split
 ·refine⟨h.cn,h.pl,h.fi,h.nm,h.hl,h.fl.put r1 _,?_,h.ti,?_,aii h.ct⟩
  ·intro f hf
   simp only at hf ⊢;rcases aqX hf with rfl|hf
   ·simp only[anu];omega
   ·have:=h.fw f hf;omega
  ·simp only;omega
 ·exact⟨h.cn,h.pl,h.fi,h.nm,h.hl,h.fl,h.fw,h.ti,by simp only;omega,aii h.ct⟩
theorem JZ:∀{l:List (List UInt8)},l.Pairwise (fun x y=>bI x y=true)->IL l=l
 | [],_=>rfl
 | x::l,h=>by
   obtain⟨h1,h2⟩:=List.pairwise_cons.1 h;have ih:=JZ h2;unfold IL at ih ⊢;rw[List.foldr_cons,ih];cases l with
   | nil=>rfl
   | cons y l=>
     have:=h1 y (by simp);simp[VQ,this]
def ZB{a b:List UInt8}(h:mg a b<0):bI a b=true:=by
 rw[vN];simpa using h
def aj8{l:List Bk}(h:GA l):(l.map (·.E)).Pairwise (fun x y=>bI x y=true):=by
 unfold GA at h;rw[zB];exact h.imp (fun hab=>ZB hab)
def agL{l:List Hl}{names:List (List UInt8)}(h:names.Pairwise (fun x y=>bI x y=true)):(Fx l names).map (·.E)=names:=by
 unfold Fx;rw[JZ h,I6]
 conv=>rhs;rw[<-List.map_id names]
 apply Db;intro s _;exact af8 l s
theorem aj9(l:List Hl)(s:List UInt8):Cm l s∈l\/Cm l s=⟨s,false,0⟩:=by
 unfold Cm;split
 ·exact .b rfl
 ·rename_i h
  left;unfold zT at h ⊢;cases hf:l.findIdx? (fun x=>x.E==s)with
  | none=>rw[hf]at h;simp at h
  | some i=>
    obtain⟨hi,_,_⟩:=gZ.1 hf;simp only[dU];rw[au,aC hi];exact fG hi
def anv{M:Int}{e:En}{s:rE}(h:qm M e s)(o:su)(hof:o.bk.oQ)(how:o.w<18446744073709551616):qm M e (opE s o).1:=by
 obtain⟨_,_,⟨r1,_⟩,f1,_⟩:=tC h.cn;unfold opE;split
 ·rename_i hw
  have hd:=af4 h.pl h.fi hof how hw;have hs:=(xC.1 hd.1).2.2.2.2;refine⟨h.cn,?_,hd.2,?_,?_,h.fl,h.fw,h.ti,h.no,h.ct⟩
  ·simp only[doV,hw,if_true];exact hd.1
  ·simp only
   exact agL (aj8 hs)
  ·intro x hx
   simp only at hx;unfold Fx at hx;obtain⟨n,_,rfl⟩:=iZ.1 hx;rcases aj9 s.r n with hm|hm
   ·exact h.hl _ hm
   ·rw[hm]
    simp only[iV,if_false];omega
 ·exact h
def anw{x:Hl}{well:Bool}{kF fall:Int}(hr:1<=kF/\kF<=100)(hf:1<=fall/\fall<=100)(h:0<=x.G/\x.G<(if x.down then kF else fall)):0<=(vk x well kF fall).1.G/\(vk x well kF fall).1.G<(if(vk x well kF fall).1.down then kF else fall):=by
 have hb:∀n:Int,1<=n/\n<=100->vg n=n:=fun n hn=>by unfold vg;rw[if_neg (by omega),if_neg (by omega)]
 unfold vk;cases hd:x.down
 ·rw[hd]at h
  simp only[iV,if_false]at h ⊢;rw[hb _ hf];split
  ·simp only[hd,iV,if_false];omega
  ·split
   ·simp only[Bool.not_false,if_true];omega
   ·simp only[iV,if_false];omega
 ·rw[hd]at h
  simp only[if_true]at h ⊢;rw[hb _ hr];split
  ·simp only[hd,if_true];omega
  ·split
   ·simp only[Bool.not_true,iV,if_false];omega
   ·simp only[if_true];omega
def aj'(x:Hl)(well:Bool)(kF fall:Int):(vk x well kF fall).1.E=x.E:=by
 unfold vk
 repeat' split
 all_goals rfl
theorem aep{M:Int}{e:En}{s:rE}(h:qm M e s)(n:List UInt8)(well:Bool):qm M e (SI e s n well).1:=by
 obtain⟨_,_,hr,hf⟩:=tC h.cn;unfold SI;split
 ·rename_i h0
  unfold Lm at h0 ⊢;split
  ·rename_i h1;rw[if_pos h1]at h0;cases h0
  ·rename_i h1
   have hin:(zT s.r n).g<s.r.a:=by
    unfold zT at h1 ⊢;cases hf:s.r.findIdx? (fun x=>x.E==n)with
    | none=>rw[hf]at h1;simp at h1
    | some i=>
      obtain⟨hi,_,_⟩:=gZ.1 hf;simpa using hi
   have hm:s.r.b (zT s.r n).g kQ∈s.r:=by
    rw[au,aC hin];exact fG hin
   refine⟨h.cn,h.pl,h.fi,?_,?_,h.fl,h.fw,h.ti,h.no,h.ct⟩
   ·simp only
    rw[<-h.nm,List.map_set];apply iR;intro i;rw[fI];split
    ·rename_i hi
     subst hi;rw[bV,if_pos hin,aj',iy,aC hin,au,aC hin];rfl
    ·rfl
   ·intro x hx
    simp only at hx;rcases List.mem_or_eq_of_mem_set hx with hx|rfl
    ·exact h.hl x hx
    ·exact anw hr hf (h.hl _ hm)
 ·exact h
def anx{M:Int}{e:En}{s:rE}(h:qm M e s):qm M e (SK e s).1:=by
 unfold SK;split
 ·exact h
 ·have ht:=h.ti
  refine⟨h.cn,h.pl,h.fi,h.nm,h.hl,h.fl.ayL _ _,?_,by simp only;omega,h.no,h.ct⟩;intro f hf;have:=h.fw f (mK.1 hf).1;simp only;omega
def yJ{M:Int}{e:En}{s:rE}(h:qm M e s)(a:Ac)(hof:a.op.bk.oQ)(how:a.op.w<18446744073709551616):qm (M+1) e (D8 e s a).1:=by
 unfold D8;split
 ·exact aj7 h _
 ·split
  ·exact(anv h a.op hof how).le (by omega)
  ·split
   ·exact(aep h _ _).le (by omega)
   ·split
    ·exact(anx h).le (by omega)
    ·exact h.le (by omega)
def oW{place:Nat->Option (Nat×Nat)}(i off:Nat)(v:aB)(ps:List (Nat×aB))(p r:Array aB)(h:place i=some (off,1))(hv:v.D = #[v])(ho:off<p.j):fD place (p++r) ((i,v)::ps)=fD place (p.c off v++r) ps:=by
 rw[EX place _ i off 1 v ps h (by rw[hv];rfl) (by rw[ou];omega),hv];congr 1;apply dZ;intro j;rw[EU];simp only[ou,aD,Array.size_setIfInBounds,dR];by_cases hj:j=off
 ·subst hj
  simp[ho];omega
 ·by_cases h1:off<=j/\j<off+1
  ·omega
  ·have:¬off=j:=fun e=>hj e.symm
   simp[this];intro a b;omega
@[go_sem]theorem azx(W:ak)(head dB IU aQ:Int)(src dst:fC):(uW 189 #[(0,.b .a head),(1,.b .a dB),(2,.b .a IU),(5,.b .a aQ),(6,.d src.ay),(7,.d dst.ay)]).G ah W = .Y (.d (Sx.mk head dB IU false 0 aQ src dst).ay) W:=
 kSx.bd W _ _ _ _ pW (auM W _ pW) (by
  show fD _ (#[aI .a 0,.b .a 0,.b .a 0,.e false,.b .a 0,.b .a 0]++(nM.ay++nM.ay)) [(0,.b .a head),(1,.b .a dB),(2,.b .a IU),(5,.b .a aQ),(6,.d src.ay),(7,.d dst.ay)]=_;rw[oW 0 0 _ _ _ _ rfl rfl (by simp),oW 1 1 _ _ _ _ rfl rfl (by simp),oW 2 2 _ _ _ _ rfl rfl (by simp),oW 5 5 _ _ _ _ rfl rfl (by simp)];rw[UE]
  ·simp[rF,cZ,Sx.ay]
  ·simp[r9,cZ,fC.r])
@[go_sem]theorem azy(W:ak)(head dB MV aQ:Int)(keep:Bool)(src dst:fC):(uW 192 #[(0,.b .a head),(1,.b .a dB),(5,.e keep),(6,.b .a MV),(7,.b .a aQ),(8,.d src.ay),(9,.d dst.ay)]).G ah W = .Y (.d (Fo.mk head dB 0 0 false keep MV aQ src dst).ay) W:=
 kFo.bd W _ _ _ _ pV (auJ W _ pV) (by
  show fD _ (#[aI .a 0,.b .a 0,.b .a 0,.b .a 0,.e false,.e false,.b .a 0,.b .a 0]++(nM.ay++nM.ay)) [(0,.b .a head),(1,.b .a dB),(5,.e keep),(6,.b .a MV),(7,.b .a aQ),(8,.d src.ay),(9,.d dst.ay)]=_;rw[oW 0 0 _ _ _ _ rfl rfl (by simp),oW 1 1 _ _ _ _ rfl rfl (by simp),oW 5 5 _ _ _ _ rfl rfl (by simp),oW 6 6 _ _ _ _ rfl rfl (by simp),oW 7 7 _ _ _ _ rfl rfl (by simp)];rw[UE]
  ·simp[rF,cZ,Fo.ay]
  ·simp[r9,cZ,fC.r])
section
attribute [local go_sem high] jd jL
def pK.ni{T:bE}{n:Nat}{z:Array aB}(K:pK T n z){W:ak}{b:Nat}{c:Array aB}(h:dM W b c)(hc:c.j=n):(yY T (.c (some ⟨b,0,none⟩))).G ah W = .Y (.d c) W:=by
 have hs:eB c=n:=hc;rw[K.ld W b 0 (of_eq_true (h.J.2.2.1 0 n (by omega))),h.J.2.2.2 0 n (by omega)];simp[<-hc]
def dM.aij{W:ak}{b:Nat}{a:fC}(h:dM W b a.ay):(rZ (.c (some ⟨b,0,none⟩))).G ah W = .Y (.d a.ay) W:=by
 have hs:eB a.ay=17:=fC.r a;rw[NA W b 0 (of_eq_true (h.J.2.2.1 0 17 (by omega))),h.J.2.2.2 0 17 (by omega)];simp[<-fC.r a]
def akb{d s:Vector UInt8 6}{fP:List Tg}{ty:Int}(h:fP.a<=2):(qN d s fP ty).a<=1000:=by
 have h2:=FL fP;unfold qN;simp only[aR,h2,nV];simp[qF];omega
def aer(x:Sx):(wX x).a=40:=by simp[wX]
def Bx.ow{L:List (Nat×Array aB)}{w W W':ak}{B:Nat}{g:Option Nat}{v:aB}{bs:List UInt8}(h:Bx L w W)(k:Ow B g W v bs W')(hB:∀p∈L,p.1<B)(hw:w.a.j<=B):Bx L w W':=
 ⟨h.1.trans (k.M.e hw),fun p hp=>⟨(h.2 p hp).1,by obtain⟨t,ht⟩:=(h.2 p hp).2;exact⟨t,(k.M.block p.1 (hB p hp)).trans ht⟩⟩⟩
def WV(x:Fo):(uj x).a=20:=by simp[uj,aeh,D7]
def Lr(W:ak):gu W W.a.j none 0 []:=DW (Ly.nil (w:=W)).o (aG _ _)
end
section
attribute [local go_sem high] jd jL
theorem anz(f:Nat):∀(x:Sx)(r:List UInt8),(ze f x r).1.dB=x.dB\/(ze f x r).1=qX:=by
 induction f with
 | zero=>intro x r;unfold ze;split;exact .a rfl;exact .b rfl
 | succ f ih=>
   intro x r;unfold ze;split
   ·exact .a rfl
   ·split
    ·exact .b rfl
    ·exact ih _ _
def aes(k:Int)(l:List UInt8):0<=(Am k l).dB/\(Am k l).dB<=l.a:=by
 unfold Am;split
 ·unfold Ak
  split
  ·rename_i h1 h2
   have:=anb (l:=l) (by unfold Ak;rw[if_pos h2]);unfold Ak at this;rw[if_pos h2]at this;simp only at this ⊢;omega
  ·simp[xD]
 ·split
  ·unfold Bn
   split
   ·simp[qX]
   ·split
    ·simp[qX]
    ·split
     ·simp[qX]
     ·rcases anz 8 (sx0 l) ((l.d (40+eY l 4)).f 40)with h|h
      ·rw[h];show 0<=(40:Int)+eY l 4/\(40:Int)+eY l 4<=l.a;omega
      ·simp[h,qX]
  ·simp[tK]
def Uk(l:List UInt8):Tn:=if(mO l).2≠0 then tK else Am (mO l).1.oM (l.f (mO l).1.fH)
def J3(l:List UInt8):List UInt8:=if(mO l).2≠0 then []else(l.f (mO l).1.fH).d (Uk l).dB.g
def azz(W:ak)(l:List UInt8)(e:lU)(W':ak):Prop:=∃A c PA pn pc,e=.a (.I #[.d ((mO l).1.cell A c).ay,.d (Uk l).ay,.a PA pn pc])/\iE Tg.ay 2 W' W'.a.j A (mO l).1.fP.a (mO l).1.fP/\gu W' W'.a.j PA pn (J3 l)/\pn<=pc/\(pc<=9223372036854775807/\pn<=1000000)/\aL W.a.j W W'
theorem avm{l:List UInt8}(h:(mO l).2≠0):(mO l).1=FC:=by
 have go:∀(m k:Nat)(fP:List Tg),(Dw l m k fP).2≠0->(Dw l m k fP).1=FC:=by
  intro m
  induction m with
  | zero=>intro k fP h;unfold Dw at h⊢;split at h<;>first|(exact absurd rfl h)|(rename_i h1;simp_all)|rfl
  | succ m ih=>
    intro k fP;cases ht:uy (eY l (k-2):Nat)with
    | false=>rw[zZ ht];intro h;exact absurd rfl h
    | true=>
      by_cases h4:l.a<k+4
      ·rw[Cx ht h4];intro _;rfl
      ·rw[FD ht h4];exact ih _ _
 unfold mO at h ⊢;split
 ·rfl
 ·rename_i h1;rw[if_neg h1]at h;exact go _ _ _ h
section
variable {fn:Func} {p q u:Tmp} {T U:bE} {b1 b2 n m:Nat} {z y c d:Array aB} {W:ak}
theorem aik(K:pK T n z)(K2:pK U m y)(h:fn.results = #[.cell p T,.cell q U,.a u])(tmps:Array aB)(hp:tmps.b p undef=.c (some ⟨b1,0,none⟩))(hq:tmps.b q undef=.c (some ⟨b2,0,none⟩))(hb:dM W b1 c)(hc:c.j=n)(hd:dM W b2 d)(hdc:d.j=m):(results fn tmps).G ah W = .Y (.I #[.d c,.d d,tmps.b u undef]) W:=by
 have l1:=K.ni hb hc;have l2:=K2.ni hd hdc;unfold yY at l1 l2;simp only[cK,Instr.sureAddr,jP,oJ,Result.andThen_ok]at l1 l2;rw[Array.getD_eq_getD_getElem?]at hp hq;simp[results,h,hp,hq,asAddr,iK,l1,l2]
end
def iE.azA{α:Type}{f:α->Array aB}{s:Nat}{w w':ak}{B B':Nat}{A:Option aT}(h:iE f s w B A 0 []):iE f s w' B' A 0 []:=
 ⟨rfl,⟨by simp,fun h=>absurd h (by omega)⟩,fun a _ h=>absurd h (by omega)⟩
theorem WX{l:List UInt8}:∀(m k:Nat)(fP:List Tg),(∀t∈fP,uy t.oM=true)->(∀t∈(Dw l m k fP).1.fP,uy t.oM=true)
 | 0,k,fP,h=>by
   cases ht:uy (eY l (k-2):Nat)with
   | false=>rw[zZ ht];exact h
   | true=>rw[KZ ht];exact fun t ht=>by simp[FC]at ht
 | m+1,k,fP,h=>by
   cases ht:uy (eY l (k-2):Nat)with
   | false=>rw[zZ ht];exact h
   | true=>
     by_cases h4:l.a<k+4
     ·rw[Cx ht h4];exact fun t ht=>by simp[FC]at ht
     ·rw[FD ht h4]
      refine WX m (k+4) _ (fun t h2=>?_);rcases qJ.1 h2 with h2|h2
      ·exact h t h2
      ·rw[fV.1 h2];exact ht
def Rs(l:List UInt8):∀t∈(mO l).1.fP,uy t.oM=true:=by
 unfold mO;split
 ·exact fun t ht=>by simp[FC]at ht
 ·exact WX 2 14 [] (fun t ht=>by cases ht)
def anA(c:Array aB):Bool:=c.all fun v=>match v with | .b .a z=>decide (z=0)|_=>true
def akc{c:Array aB}(h:anA c=true){j:Nat}{t:Int}(ht:t≠0):c[j]?≠some (.b .a t):=fun e=>by
 have:=Array.all_eq_true_iff_forall_mem.1 h _ (Array.mem_of_getElem? e);simp at this;exact ht this
def iE.apart{w:ak}{B b n:Nat}{A:Option aT}{l:List Tg}{c:Array aB}(h:iE Tg.ay 2 w B A n l)(hi:∀t∈l,uy t.oM=true)(hb:dM w b c)(hc:anA c=true)(hn:0<n):∀a,A=some a->b≠a.block:=by
 intro a ha e;obtain⟨b',o,hA,_,hcell⟩:=h.cell Tg.r Ui hn;rw[hA]at ha;injection ha with ha
 subst ha;simp only at e;subst e;have h1:=hcell 0 (by omega);rw[hb.J.1,Tg.EC]at h1;have ht:=hi _ (yc Ui l 0 (by rw[h.1];exact hn));refine akc hc ?_ h1;intro e0;rw[e0]at ht;cases ht
theorem iE.as1{α:Type}{f:α->Array aB}{s:Nat}{B b n:Nat}{A:Option aT}{l:List α}(hp:∀a,A=some a->b≠a.block)(x:Array aB):∀(o:Nat) {w:ak},iE f s w B A n l->iE f s (gX w b o x) B A n l:=by
 have:∀(vs:List aB)(o:Nat)(w:ak),iE f s w B A n l->iE f s (w.setCells b o vs) B A n l:=by
  intro vs
  induction vs with
  | nil=>exact fun _ _ h=>h
  | cons v vs ih=>intro o w h;exact ih (o+1) _ (h.aC0 v (fun a ha=>hp a ha))
 exact fun o w h=>this _ _ _ h
def akd(w:ak)(A:Option aT)(n c:Nat)(l:List UInt8)(hnc:n<=c)(hc:c<=9223372036854775807/\n<=1000000)(hr:gu w w.a.j A n l):aP ah 99 #[.a A n c] w (azz w l):=by
 have HR:=ab hr;have hl:=ab hr.len;have h0:=((Bx.start w).new rb.ay 108).new tK.ay 179;simp only[tQ]at h0;have Z0:=ab h0;have CL:=ab (Pj _ A n c l hnc (by omega) (h0.Pf hr));clear h0 hr;go_enter Tryz.func99,Tryz.ntmps99;obtain⟨r,hrr⟩:=bZ (mO l);have HRR:=ab hrr;obtain⟨k,er⟩:=r;unfold LkP at CL;rw[<-hrr]at CL;clear hrr;go_upto_region 1 with fail
 generalize(w.alloc (.D rb.ay 108)).alloc (.D tK.ay 179)=w0 at Z0 CL ⊢;go_upto_region 2 with(go_at_call 91;(with_reducible refine CL.i.e ?_);rintro e w1 ⟨TA,tc,rfl,hT,hb1⟩;have Z1:=ab ((Z0.i.go hb1).new (k.cell TA tc).ay 108);have HW:=ab (Z0.i.go hb1).R.lt;have RT:=ab (hT.alloc (av _) (.D (k.cell TA tc).ay 108));clear hb1 hT)
 have HW2:=ab (show w1.a.j<=(w1.alloc (.D (k.cell TA tc).ay 108)).a.j by simp);generalize w1.alloc (.D (k.cell TA tc).ay 108)=w2 at Z1 RT HW2 ⊢;generalize w1.a.j=y5 at Z1 RT HW HW2 ⊢;have YL:=HW2;have K8:=ab (show∀r∈[(w.a.j+1,tK.ay),(w.a.j,rb.ay)],r.1≠y5 from fun r hr=>by
  have:=HW.i;simp only[bB,fU,or_false]at hr;rcases hr with rfl|rfl<;>simp only[]<;>omega)
 by_cases h1:er≠0
 ·have q:(er != 0)=true:=by simp[h1]
  have HTN:=ab (show Uk l=tK by unfold Uk;rw[<-HRR.i,if_pos h1]);have HPK:=ab (show J3 l=[]by unfold J3;rw[<-HRR.i,if_pos h1]);have l5:=kLc.ni Z1.i.R (Lc.r _);have Z2:=ab (Z1.i.sub (L':=[(w.a.j,rb.ay),(y5,(k.cell TA tc).ay),(w.a.j+1,tK.ay)]) (by simp));have Z3:=ab (Z2.i.put (fun r hr=>by
   have:=HW.i;simp only[bB,fU,or_false]at hr;rcases hr with rfl|rfl<;>simp only[]<;>omega) (k.cell TA tc).ay (by rw[Lc.r,Lc.r]))
  have avn:=Z2.i.R.K 0 15 (aX (Lc.r rb).symm);have avo:=Z3.i.b2.K 0 5 (aX (Tn.r tK).symm);have Z4:=ab ((Z3.i.sub (L':=[(w.a.j+1,tK.ay),(w.a.j,(k.cell TA tc).ay)]) (by simp)).put (fun r hr=>by
   simp only[bB,fU,or_false]at hr;rcases hr with rfl<;>simp only[]<;>omega) tK.ay rfl)
  go_wp2;refine aN (aik kLc kTn rfl _ rfl rfl Z4.i.b1 (Lc.r _) Z4.i.R (Tn.r _)) rfl ?_;have RT2:=RT.i;refine⟨TA,tc,none,0,0,by rw[HTN.i,<-HRR.i];rfl,?_,by rw[HPK.i];exact Lr _,av _,by omega,Z4.i.O⟩;have hk0:k=FC:=by have:=avm (l:=l) (by rw[<-HRR.i];exact h1);rw[<-HRR.i]at this;exact this
  rw[<-HRR.i];subst hk0;exact iE.azA RT2
 obtain rfl:er=0:=by simpa using h1
 have q00:((0:Int) != 0)=false:=rfl;obtain⟨xu,aef⟩:=agC (l:=l) (by rw[<-HRR.i]);rw[<-HRR.i]at xu aef;rw[hl.i]at aef;simp only at xu aef;have i1:(k.fH:Int)<=n:=by omega
 have F8:=ab (fun(w':ak) (h:Bx [(y5,(k.cell TA tc).ay),(w.a.j+1,tK.ay),(w.a.j,rb.ay)] w w')=>show w'.b ⟨y5,13,none⟩=some (.b .a k.oM)/\w'.b ⟨y5,14,none⟩=some (.b .a (k.fH:Nat))from⟨(h.R.J.1 13).trans (Lc.EC _),(h.R.J.1 14).trans (Lc.MW _)⟩);have CN:=ab (fun(w':ak) (h:Bx [(y5,(k.cell TA tc).ay),(w.a.j+1,tK.ay),(w.a.j,rb.ay)] w w')=>agI w' k.oM (vQ A k.fH c 1) (n-k.fH) (c-k.fH) (l.f k.fH) (by omega) (by omega) ((h.Pf HR.i).yX (by omega) hnc));have HTN:=ab (show Uk l=Am k.oM (l.f k.fH)by unfold Uk;rw[<-HRR.i,if_neg (by simp)]);have HPK:=ab (show J3 l=(l.f k.fH).d (Uk l).dB.g by unfold J3;rw[<-HRR.i,if_neg (by simp)]);have HTO:=ab (aes k.oM (l.f k.fH));obtain⟨g,hg⟩:=bZ (Am k.oM (l.f k.fH));have HG:=ab hg;rw[<-hg]at CN HTN HTO;clear hg;rw[HTN.i]at HPK;go_upto_region 4 with fail
 refine Rl (WA (Bx.abK ([(y5,(k.cell TA tc).ay),(w.a.j+1,tK.ay),(w.a.j,rb.ay)]) w) w2) 7 8 7 179 tK.ay (by kernel_rfl) rfl (by kernel_rfl) (by decide) (by decide) (by kernel_rfl) (by kernel_rfl) (by kernel_rfl) rfl rfl rfl (fun a w=>by simp[go_sem]) ⟨Z1.i.drew,(aG w2.a.j w2).drew⟩ ?_;apply Exists.intro;refine⟨fun T f hT es ew=>?_,?_⟩
 ·have EW:=ab ew
  have ES:=ab es;have k1:=fun m=>(F8.i _ (ES.i m).1).1
  have k2:=fun m=>(F8.i _ (ES.i m).1).2
  have CF:=ab (fun m=>CN.i _ (ES.i m).1);clear es ew;simp only[lq,bK,bR,jA,j6]
  repeat(go_big_quiet_step ((first|(go_at_call 101;(with_reducible refine(CF.i _).e ?_);rintro e w2 ⟨rfl,hb⟩;exact⟨rfl,EW.i _ _ hb⟩))))
  exact eG rfl
 ·intro w9 w8 Ad _ hb
  have BN:=(Ad.2.alloc Ad.2.j (.D tK.ay 179)).trans (hb.e (by simp;exact kV Ad.2.j));have aEx:=Ad.2.j
  replace Ad:=Ad.1
  have ZN:=(Ad.new tK.ay 179).go hb;have hy:=Ad.O.j;have HYW:=BN.j;have BN:=ab BN;have ZN:=ab ZN;have yZ:=ZN.i.R.K 0 5 (aX (Tn.r tK).symm);have hyy:y5<w9.a.j:=Ad.R.lt;generalize w9.a.j=y7 at *;have Z8:=ab (ZN.i.put (fun r hr=>by
   have:=HW.i;simp only[bB,fU,or_false]at hr;rcases hr with rfl|rfl|rfl<;>simp only[]<;>omega) g.ay (by rw[Tn.r,Tn.r]))
  have B8:=ab (lI BN.i y7 0 g.ay aEx);go_upto_region 5 with fail
  clear yZ ZN;generalize gX w8 y7 0 g.ay=w10 at Z8 B8 ⊢;obtain⟨T0,hT0⟩:∃T:Nat,g.dB=T:=⟨g.dB.g,by have:=HTO.i;omega⟩
  have hT1:T0+k.fH<=n:=by have:=HTO.i.2;rw[jF,hl.i]at this;omega
  have HTT:=ab hT0;obtain⟨m0,hm0⟩:∃m:Nat,m=k.fH+T0:=⟨_,rfl⟩
  have q1:=jW ((k.fH:Int)+T0) (by omega);have q2:(k.fH:Int)+T0=m0:=by omega
  rw[q2]at q1;have q3:(k.fH:Int)<=m0:=by omega
  have q4:(m0:Int)<=c:=by omega
  have HM:=ab hm0;have HMN:=ab (show m0<=n by omega);have F9:=ab (fun(w':ak) (h:Bx [(y7,g.ay),(y5,(k.cell TA tc).ay)] w w')=>show(yY 108 (.c (some ⟨y5,0,none⟩))).G ah w' = .Y (.d (k.cell TA tc).ay) w'/\(yY 179 (.c (some ⟨y7,0,none⟩))).G ah w' = .Y (.d g.ay) w'/\w'.b ⟨y5,14,none⟩=some (.b .a (k.fH:Nat))/\w'.b ⟨y7,1,none⟩=some (.b .a (T0:Nat))from⟨kLc.ni h.b1 (Lc.r _),kTn.ni h.R (Tn.r _),(h.b1.J.1 14).trans (Lc.MW _),(h.R.J.1 1).trans ((Tn.yH g).trans (by rw[HTT.i]))⟩);clear hT0 hm0 hT1;have ZA:=ab Z8.i.drew;have WB:=ab B8.i.drew;have Z2:=ab (ZA.i.sub (L':=[(w.a.j,rb.ay),(w.a.j+1,tK.ay),(y7,g.ay),(y5,(k.cell TA tc).ay)]) (by simp));have aKA:w.a.j+1<y5:=HW.i;have Z3:=ab (Z2.i.put (fun r hr=>by
   simp only[bB,fU,or_false]at hr;rcases hr with rfl|rfl|rfl<;>simp only[]<;>omega) (k.cell TA tc).ay (by rw[Lc.r,Lc.r]))
  have avn:=Z2.i.R.K 0 15 (aX (Lc.r rb).symm);have avo:=Z3.i.b1.K 0 5 (aX (Tn.r tK).symm);have Z4:=ab ((Z3.i.sub (L':=[(w.a.j+1,tK.ay),(w.a.j,(k.cell TA tc).ay),(y7,g.ay),(y5,(k.cell TA tc).ay)]) (by simp)).put (fun r hr=>by
   simp only[bB,fU,or_false]at hr;rcases hr with rfl|rfl|rfl<;>simp only[]<;>omega) g.ay (by rw[Tn.r,Tn.r]))
  obtain⟨k1,k2,k3,k4⟩:=F9.i _ (ZA.i.sub (by simp));obtain⟨k5,k6,k7,k8⟩:=F9.i _ (Z3.i.sub (by simp));obtain⟨k9,k10,k11,k12⟩:=F9.i _ (Z4.i.sub (by simp));go_region;go_wp2;refine aN (aik kLc kTn rfl _ rfl rfl Z4.i.b1 (Lc.r _) Z4.i.R (Tn.r _)) rfl ?_;have hHN:=HMN.i;have RF:=ab (show gu (gX (gX w10.drew w.a.j 0 (k.cell TA tc).ay) (w.a.j+1) 0 g.ay) (gX (gX w10.drew w.a.j 0 (k.cell TA tc).ay) (w.a.j+1) 0 g.ay).a.j (vQ A k.fH c 1) (m0-k.fH) (J3 l)by
   have:=(Z4.i.Pf HR.i).ad6 (z:=k.fH) (b:=m0) (c:=c) (by omega) hHN hnc;have e2:(l.d m0).f k.fH=J3 l:=by rw[HPK.i,HTT.i,dU,List.drop_take,HM.i,Nat.add_sub_cancel_left]
   rwa [e2]at this)
  have TF:=ab (show iE Tg.ay 2 (gX (gX w10.drew w.a.j 0 (k.cell TA tc).ay) (w.a.j+1) 0 g.ay) (gX (gX w10.drew w.a.j 0 (k.cell TA tc).ay) (w.a.j+1) 0 g.ay).a.j TA k.fP.a k.fP by
   have h1:iE Tg.ay 2 w10.drew y5 TA k.fP.a k.fP:=RT.i.M (WB.i.e YL.i);have hI:=Rs l;rw[<-HRR.i]at hI;by_cases h0:k.fP.a=0
   ·have e0:k.fP=[]:=bG h0
    rw[e0]at h1 ⊢;exact iE.azA h1
   ·have p1:=h1.apart hI ZA.i.b3 (by kernel_rfl) (by omega)
    have p2:=h1.apart hI ZA.i.b2 (by kernel_rfl) (by omega);exact(iE.as1 p2 _ 0 (iE.as1 p1 _ 0 h1)).lN (aO (mX hyy) (mX (Z4.i.b2).lt)))
  refine⟨TA,tc,vQ A k.fH c 1,m0-k.fH,c-k.fH,by rw[HTN.i,<-HRR.i];rfl,?_,RF.i,by omega,by omega,Z4.i.O⟩;rw[<-HRR.i];exact TF.i
end
section
attribute [local go_sem high] jd jL
def azC(a c:Nat)(ha:a<256)(hc:c<256):bits .or .a ((a:Int)*256) (c:Int)=((a*256+c:Nat):Int):=by
 have h1:gF 64 ((a:Int)*256)=IE 64 (a*256):=by rw[show((a:Int)*256)=((a*256:Nat):Int)by omega];exact mD _ _
 have h2:gF 64 (c:Int)=IE 64 c:=mD _ _;show bU.d ((gF 64 ((a:Int)*256) ||| gF 64 (c:Int)).g:Int)=_;rw[h1,h2,BitVec.toNat_or,nR,nR,fO (by omega),fO (by omega),show a*256=a <<< 8 by rw[mU],<-Nat.shiftLeft_add_eq_or_of_lt (by omega)];rw[mU];simp[vS,nZ,mq];omega
def aqZ:mF 5 = #[0,1,2,3,4]:=by apply pQ;rw[kC];rfl
@[go_sem]theorem as2(w:ak)(a b c d e:Int):(MP 5 #[(0,.b .a a),(1,.b .a b),(2,.b .a c),(3,.b .a d),(4,.b .a e)]).G ah w = .Y (.a (some ⟨w.a.j,0,none⟩) 5 5) (w.alloc (.D (sZ [a,b,c,d,e]) 3)):=by
 obtain⟨i0,hi0,hz0,hz1⟩:=UC;simp[MP,bM,dJ oH,zeroValue,sizeOf,typeInfo,hi0,hz0,hz1,fD,newRow,sZ,cZ,aqZ]
def ail(x:Fo):List Nat:=[x.dB.g,x.id.g,if x.keep then 16384 else 0,x.MV.g*256+x.aQ.g,0]
def Iz(l:List Nat):List Int:=l.map (fun n:Nat=>(n:Int))
def akf(l:List Nat)(j:Nat)(hj:j<l.a):(sZ (Iz l))[j]? = some (.b .a ((l.b j 0:Nat):Int)):=by
 have:=Zi (Iz l) j (by simpa[Iz]using hj);rw[bl]at this;rw[this];simp[Iz,au,hj]
def gu.upN{w:ak}{B n k:Nat}{A:Option aT}{l:List UInt8}(h:gu w B A n l)(hk:k<=n):gu w B A k (l.d k):=by
 have:=Rd.upto h hk
 rwa [gL,<-AA]at this
def abU{l:List UInt8}{k:Nat}{a b:UInt8}(h:k+2<=l.a):sM l k [a,b]=(l.set k a).set (k+1) b:=by
 apply iR;intro i;unfold sM;simp only[cu,kW,bH,jr,jq,fI,aV,bD,gP];by_cases h1:i<k
 ·simp[h1,show¬k+1=i by omega,show¬k=i by omega,show i<min k l.a by omega]
 ·by_cases h2:i=k
  ·subst h2
   simp[show i<l.a by omega,show min i l.a=i by omega]
  ·by_cases h3:i=k+1
   ·subst h3
    simp[show k+1<l.a by omega,show min k l.a=k by omega,show¬k+1<k by omega]
   ·have e1:min k l.a=k:=by omega
    have e2:k+2+(i-k-2)=i:=by omega
    simp[show¬k+1=i by omega,show¬k=i by omega,e1,h1,show¬i-k<2 by omega,e2]
def anB(x:Fo)(h1:x.MV.g<256)(h2:x.aQ.g<256):D7 x=[69,aK x.Qg.g]++(ail x).h (fun n:Nat=>qF (n:Int))++x.h.b.a.d 4++x.S.b.a.d 4:=by
 unfold D7 ail;have e1:(x.MV.g*256+x.aQ.g)/256=x.MV.g:=by omega
 have e2:(x.MV.g*256+x.aQ.g)%256=x.aQ.g:=by omega
 cases x.keep<;>simp[qF,e1,e2]
theorem Te(x:Fo)(hh:x.head=20)(s0:0<=x.Qg)(s1:x.Qg<=255)(t0:20<=x.dB)(t1:x.dB<=65535)(i0:0<=x.id)(i1:x.id<=65535)(l0:0<=x.MV)(l1:x.MV<=255)(p0:0<=x.aQ)(p1:x.aQ<=255)(hf:x.oV=false)(hs:(!x.h.h&&x.h.lG)=true)(hd:(!x.S.h&&x.S.lG)=true)(w:ak):aP ah 271 #[.d x.ay] w (aej w (uj x)):=by
 have Z:=ab ((Bx.start w).new x.ay 192);have FA:=ab (fun(w':ak) (h:dM w' w.a.j x.ay)=>show w'.b ⟨w.a.j,0,none⟩=some (.b .a 20)/\w'.b ⟨w.a.j,1,none⟩=some (.b .a x.dB)/\w'.b ⟨w.a.j,2,none⟩=some (.b .a x.Qg)/\w'.b ⟨w.a.j,3,none⟩=some (.b .a x.id)/\w'.b ⟨w.a.j,4,none⟩=some (.e false)/\w'.b ⟨w.a.j,5,none⟩=some (.e x.keep)/\w'.b ⟨w.a.j,6,none⟩=some (.b .a x.MV)/\w'.b ⟨w.a.j,7,none⟩=some (.b .a x.aQ)/\(rZ (.c (some ⟨w.a.j,8,none⟩))).G ah w' = .Y (.d x.h.ay) w'/\(rZ (.c (some ⟨w.a.j,25,none⟩))).G ah w' = .Y (.d x.S.ay) w' by
  have f:=h.J.1;have hz:x.ay.j=42:=Fo.r x;refine⟨(f 0).trans ((Fo.KY x).trans (by rw[hh])),(f 1).trans (Fo.yH x),(f 2).trans (Fo.auG x),(f 3).trans (Fo.ayR x),(f 4).trans ((Fo.UG x).trans (by rw[hf])),(f 5).trans (Fo.abz x),(f 6).trans (Fo.auH x),(f 7).trans (Fo.Cv x),?_,?_⟩
  ·rw[NA w' w.a.j 8 (of_eq_true (h.J.2.2.1 8 17 (by unfold eB;omega))),h.J.2.2.2 8 17 (by unfold eB;omega),Fo.JK]
  ·rw[NA w' w.a.j 25 (of_eq_true (h.J.2.2.1 25 17 (by unfold eB;omega))),h.J.2.2.2 25 17 (by unfold eB;omega),Fo.JL])
 have CI:=ab (fun k m W (h:0<=k/\k<=m)=>show aP ah 316 #[.b .a k,.b .a m] W (fun e W'=>e=.a (.e true)/\aL W.a.j W W')by
  have:=agy k m W;rwa [decide_eq_true h.1,decide_eq_true h.2]at this)
 have C1:=ab (fun W=>CI.i x.dB 65535 W ⟨by omega,t1⟩);have C2:=ab (fun W=>CI.i x.Qg 255 W ⟨s0,s1⟩);have C3:=ab (fun W=>CI.i x.MV 255 W ⟨l0,l1⟩);have C4:=ab (fun W=>CI.i x.aQ 255 W ⟨p0,p1⟩);have C5:=ab (fun W=>CI.i x.id 65535 W ⟨i0,i1⟩);have C6:=ab (fun W=>by have:=Wt x.h W;rwa [hs]at this:∀W,aP ah 317 #[.d x.h.ay] W fun e W'=>e=.a (.e true)/\aL W.a.j W W');have C7:=ab (fun W=>by have:=Wt x.S W;rwa [hd]at this:∀W,aP ah 317 #[.d x.S.ay] W fun e W'=>e=.a (.e true)/\aL W.a.j W W');have q1:decide (x.dB<20)=false:=by simp;omega
 have HF:=ab (anB x (by omega) (by omega));clear hh hf hs hd;go_enter Tryz.func271,Tryz.ntmps271;go_upto_region 1 with fail
 generalize w.alloc (.D x.ay 192)=w1 at *;obtain⟨f0,f1,f2,f3,f4,f5,f6,f7,f8,f9⟩:=FA.i _ Z.i.R;go_upto_region 3 with(first|(go_at_call 316;(first|(with_reducible refine(C1.i _).e ?_)|(with_reducible refine(C2.i _).e ?_)|(with_reducible refine(C3.i _).e ?_)|(with_reducible refine(C4.i _).e ?_)|(with_reducible refine(C5.i _).e ?_));rintro e w5 ⟨rfl,hb⟩;have ZN:=ab (Z.i.go hb);clear f0 f1 f2 f3 f4 f5 f6 f7 f8 f9;obtain⟨f0,f1,f2,f3,f4,f5,f6,f7,f8,f9⟩:=FA.i _ ZN.i.R;clear hb Z;have Z:=ZN;clear ZN)|(go_at_call 317;(first|(with_reducible refine(C6.i _).e ?_)|(with_reducible refine(C7.i _).e ?_));rintro e w5 ⟨rfl,hb⟩;have ZN:=ab (Z.i.go hb);clear f0 f1 f2 f3 f4 f5 f6 f7 f8 f9;obtain⟨f0,f1,f2,f3,f4,f5,f6,f7,f8,f9⟩:=FA.i _ ZN.i.R;clear hb Z;have Z:=ZN;clear ZN))
 clear f0 f1 f2 f3 f4 f5 f6 f7 f8 f9 C1 C2 C3 C4 C5 C6 C7 CI q1;obtain⟨tt,htt⟩:∃n:Nat,x.dB=(n:Int):=⟨x.dB.g,by omega⟩
 obtain⟨ti,hti⟩:∃n:Nat,x.id=(n:Int):=⟨x.id.g,by omega⟩
 obtain⟨tl,htl⟩:∃n:Nat,x.MV=(n:Int):=⟨x.MV.g,by omega⟩
 obtain⟨tp,htp⟩:∃n:Nat,x.aQ=(n:Int):=⟨x.aQ.g,by omega⟩
 obtain⟨kb,hkb⟩:∃n:Nat,n=if x.keep then 16384 else 0:=⟨_,rfl⟩
 have hkb2:kb<=16384:=by rw[hkb];split<;>omega
 have HNS:=ab (show ail x=[tt,ti,kb,tl*256+tp,0]by unfold ail;rw[htt,hti,htl,htp,<-hkb];rfl);rw[HNS.i]at HF;have f:=FA.i _ Z.i.R;rw[htt,hti,htl,htp]at f;obtain⟨f0,f1,f2,f3,f4,f5,f6,f7,f8,f9⟩:=f;have q2:=azC tl tp (by omega) (by omega);have q3:aW.d x.Qg=x.Qg:=by rw[II];omega
 have HX1:=ab htt;have HX2:=ab hti;have HX3:=ab htl;have HX4:=ab htp;have B1:tt<=65535:=by omega
 have B2:ti<=65535:=by omega
 have B3:tl*256+tp<=65535:=by omega
 have B4:tl<=255:=by omega
 have B5:tp<=255:=by omega
 have HFA:=FA;have HKB:=ab hkb;clear htt hti htl htp i0 i1 l0 l1 p0 p1 t0 t1 HNS FA;cases hk:x.keep
 all_goals
  rw[hk]at f5;have HK:=ab hk;go_upto_region 6 with fail
  clear hk hkb;have L0:=ab ((Ly.ano w w5 Z.i.O #[.b .b 69,.b .b x.Qg] [69,aK x.Qg.g] 2 rfl (by omega) (by
   simp only[kR,oD,bv];rw[zy x.Qg.g (by omega),lS s0];rfl)).add (q:=w.a.j) (c:=x.ay) (Z.i.R.alloc _) (by simp[jy];exact uP Z.i.R.lt))
  go_upto_region 7 with fail
  clear f0 f1 f2 f3 f4 f5 f6 f7 f8 f9;generalize w5.alloc (.D #[.b .b 69,.b .b x.Qg] 5)=w6 at L0 ⊢;generalize bC (some ⟨w5.a.j,0,none⟩) 2 2=v6 at L0 ⊢;have f:=HFA.i _ L0.i.R;obtain⟨kv,hkv⟩:∃kv:Nat,kb=kv:=⟨_,rfl⟩
  have hkk:kb=(if x.keep then 16384 else 0):=HKB.i;rw[HK.i]at hkk;simp only[if_true,if_false,iV]at hkk;subst hkk;obtain⟨_,f1,_,f3,_,_,f6,f7,_,_⟩:=f;rw[HX1.i]at f1;rw[HX2.i]at f3;rw[HX3.i]at f6;rw[HX4.i]at f7;clear hkv kv;go_upto_region 8 with fail
  clear f1 f3 f6 f7 q2
  first
  | (have L1:=ab (L0.i.new (sZ (Iz [tt,ti,16384,tl*256+tp,0])) 3)
     have HIN:=ab (show Iz [tt,ti,16384,tl*256+tp,0]=[(tt:Int),ti,16384,(tl:Int)*256+tp,0]by simp[Iz]);rw[<-HIN.i];clear HIN;generalize hns:([tt,ti,16384,tl*256+tp,0]:List Nat)=ns at L1 HF⊢)
  | (have L1:=ab (L0.i.new (sZ (Iz [tt,ti,0,tl*256+tp,0])) 3)
     have HIN:=ab (show Iz [tt,ti,0,tl*256+tp,0]=[(tt:Int),ti,0,(tl:Int)*256+tp,0]by simp[Iz]);rw[<-HIN.i];clear HIN;generalize hns:([tt,ti,0,tl*256+tp,0]:List Nat)=ns at L1 HF⊢)
  have HNL:=ab (show ns.a=5 by rw[<-hns];rfl);have HNB:=ab (show∀z∈ns,z<=65535 by
   rw[<-hns];intro z hz;simp only[bB,fU,or_false]at hz;omega)
  clear hns hkb2 B1 B2 B3 B4 B5;obtain⟨A0,c0,hv⟩:=L1.i.o.Cr;have hv2:v6=.a A0 2 c0:=hv;clear hv;subst hv2;have hy7:=L0.i.R.lt;generalize w6.alloc (.D (sZ (Iz ns)) 3)=w7 at L1 ⊢;generalize w6.a.j=y7 at L1 hy7 ⊢;have au6:∀i:Nat,((ns.d i).h (fun n:Nat=>qF (n:Int))).a<=10:=by
   have h1:∀l:List Nat,(l.h (fun n:Nat=>qF (n:Int))).a=2*l.a:=by
    intro l
    induction l with
    | nil=>rfl
    | cons a l ih=>rw[jl,aR,ih];simp[qF];omega
   intro i;rw[h1,bH];have:=HNL.i;omega
  have HLT:=ab au6;clear au6;obtain⟨b0,hb0⟩:∃l:List UInt8,l=[69,aK x.Qg.g]:=⟨_,rfl⟩
  have HB0:=ab (show b0.a=2 by rw[hb0];rfl);rw[<-hb0]at L1 HF;clear hb0;go_loopw [5,81] (fun s5 s81 wr=>∃(i:Nat)(A:Option aT)(m c:Nat),i<=5/\s81=.b .a i/\s5=.a A m c/\Ly w.a.j [(y7,sZ (Iz ns)),(w.a.j,x.ay)] w wr (.a A m c) (b0++(ns.d i).h (fun n:Nat=>qF (n:Int)))) (fun _ s81 _=>5-(intOf s81).g)
  case atStart=>exact⟨0,_,_,_,by omega,rfl,rfl,by rw[j6,List.flatMap_nil,uU];exact L1.i⟩
  case round=>
   obtain⟨i,A,m,c,hin,rfl,rfl,h⟩:=hrel;have HO:=ab h;clear h;have HL1:=ab (show(b0++(ns.d i).h (fun n:Nat=>qF (n:Int))).a<=12 by rw[aR];have:=HLT.i i;have:=HB0.i;omega);by_cases hlt:i<5
   ·have hi:(i:Int)<5:=by omega
    have hi0:(0:Int)<=i:=by omega
    have e1:=(HO.i.R.J.1 i).trans (akf ns i (by rw[HNL.i];exact hlt));have Et:=ab (aek (fun n:Nat=>qF (n:Int)) 0 ns i (by rw[HNL.i];exact hlt));have hz:=HNB.i _ (yc 0 ns i (by rw[HNL.i];exact hlt));obtain⟨z,hzz⟩:=bZ (ns.b i 0);rw[<-hzz]at e1 Et hz;clear hzz;have cs:gB.d (z:Int)=(z:Int):=by rw[jh];omega
    have PS:=ab (fun W=>wO z hz W);rw[vD z hz]at PS;have HLN:=ab (show(b0++(ns.d i).h (fun n:Nat=>qF (n:Int))).a+2<=1000000000 by have:=HL1.i;omega);go_wp2_with (first|(go_at_call 184;(with_reducible refine(PS.i _).e ?_);rintro e w8 ⟨A8,rfl,ho,hb⟩;have R8:=ab (DW ho (aG _ _));have L4:=ab (HO.i.go hb);clear ho hb)|(at_builtin;refine jK rfl (.a 85) (.a 88) rfl rfl L4.i.o rfl R8.i HLN.i ?_;intro A9 n9 c9 w9 h2 h3;have L5:=ab (L4.i.step h3);clear h2 h3));go_roundw
    case rel=>exact⟨i+1,A9,n9,c9,by omega,by go_num,rfl,by rw[Et.i,<-cu];exact L5.i⟩
    case measure=>simp[intOf]<;>omega
   ·obtain rfl:i=5:=by omega
    have HFU:=ab (show ns.d 5=ns from aJ (by rw[HNL.i];omega));rw[HFU.i]at HO HL1;obtain⟨b1,hb1⟩:∃l:List UInt8,l=b0++ns.h (fun n:Nat=>qF (n:Int)):=⟨_,rfl⟩
    have HB1:=ab (show b1.a=12 by
     rw[hb1,aR,HB0.i];have h1:∀l:List Nat,(l.h (fun n:Nat=>qF (n:Int))).a=2*l.a:=by
      intro l
      induction l with
      | nil=>rfl
      | cons a l ih=>rw[jl,aR,ih];simp[qF];omega
     rw[h1,HNL.i])
    rw[<-hb1]at HO HF;clear hb1 HFU HL1 hin hlt;have LY:=ab (show Ly w.a.j [(w.a.j,x.ay)] w wr (.a A m c) b1 from HO.i.Uh);have RS:=ab (fun(w':ak) (h:dM w' w.a.j x.ay)=>show gu w' w'.a.j (some ⟨w.a.j,9,none⟩) 4 (x.h.b.a.d 4)from(Ng (o:=8) h x.h (Fo.JK x)).upN (by omega));have RD:=ab (fun(w':ak) (h:dM w' w.a.j x.ay)=>show gu w' w'.a.j (some ⟨w.a.j,26,none⟩) 4 (x.S.b.a.d 4)from(Ng (o:=25) h x.S (Fo.JL x)).upN (by omega));have LD:=ab LY.i.drew;have RSd:=ab (RS.i _ LD.i.R);obtain⟨A',c',hv⟩:=LD.i.o.Cr;have hm:m=b1.a:=by injection hv
    rw[HB1.i]at hm;subst hm;clear hv A' c';have LN1:=ab (show b1.a+4<=1000000000 by rw[HB1.i];decide);have LN2:=ab (show(b1++x.h.b.a.d 4).a+4<=1000000000 by rw[aR,bH,HB1.i];omega);go_wp2_with fail;go_region_held_law (fun _=>True) (trivial)
     (first
     | (refine Ox (o:=⟨some 95,_,_,_,_,_⟩) rfl (.a 91) (.a 94) rfl (.a A 12 c) (some ⟨w.a.j,9,none⟩) 4 16 rfl LD.i.o rfl RSd.i LN1.i ?_;intro A6 n6 c6 w6 h8 h9;have L6:=ab (LD.i.step h9);have RDd:=ab (RD.i _ L6.i.R);clear h8 h9)
     | (refine Ox (o:=⟨some 99,_,_,_,_,_⟩) rfl (.a 95) (.a 98) rfl (.a A6 n6 c6) (some ⟨w.a.j,26,none⟩) 4 16 rfl L6.i.o rfl RDd.i LN2.i ?_;intro A7 n7 c7 w7 h8 h9;have L7:=ab (L6.i.step h9);clear h8 h9))
    go_wp2_with fail;rw[<-HF.i]at L7;have HFL:=ab (show(D7 x).a=20 by simp[D7]);have HPF:=ab (show uj x=sM (D7 x) 10 (qF (xA (D7 x):Nat))by
     unfold uj aeh qF;rw[dU,abU (by rw[HFL.i];omega)])
    obtain⟨fh,hfh⟩:∃l,l=D7 x:=⟨_,rfl⟩
    rw[<-hfh]at L7 HFL HPF;clear hfh HF;obtain⟨g,hg1,hg2,hg3,hg4,hg5⟩:=L7.i.h (by rw[HFL.i];decide);rw[HFL.i]at hg2;subst hg1 hg2;have h10:(10:Int)<=c7:=by omega
    have L8:=L7.i.drew.new (#[bC (some ⟨g,0,none⟩) 20 c7]) 56;simp only[show w7.drew.a.j=w7.a.j from rfl,show∀(w:ak) ob,w.drew.alloc ob=(w.alloc ob).drew from fun _ _=>rfl]at L8;have L8:=ab L8;have hfr:gu w7 w7.a.j (some ⟨g,0,none⟩) 20 fh:=by have ho:=L7.i.o.vL;rw[HFL.i]at ho;exact gu.iG ho
    have CS:=ab (ahL ((w7.alloc (.D (#[bC (some ⟨g,0,none⟩) 20 c7]) 56)).drew) w7.a.j (some ⟨g,0,none⟩) 20 c7 w7.a.j fh (by decide) ((L8.i.R.J.1 0).trans rfl) (hfr.alloc (av _) _));have hsz:xA fh<=65535:=by unfold xA;omega
    obtain⟨z,hz⟩:=bZ (xA fh);rw[<-hz]at CS HPF hsz;clear hz hfr;have q7:gB.d (z:Int)=(z:Int):=by rw[jh];omega
    have PZ:=ab (fun W=>wO z hsz W);rw[vD z hsz]at PZ;have HP:=ab (show 0<2->∃g',(some ⟨g,0,none⟩:Option aT)=some ⟨g',0,none⟩/\vQ (some ⟨g,0,none⟩) 10 c7 1=some ⟨g',10,none⟩from fun _=>⟨g,rfl,Rq (n:=0) (by omega)⟩);have HZ:=ab (show 10+2<=fh.a by rw[HFL.i];decide);go_region_held_law (fun _=>True) (trivial)
     (first
     | (go_at_call 305;(with_reducible refine CS.i.e ?_);rintro e w8 ⟨rfl,rfl⟩)
     | (go_at_call 184;(with_reducible refine(PZ.i _).e ?_);rintro e w9 ⟨A9,rfl,ho,hb⟩;have R9:=ab (DW ho (aG _ _));have L9:=ab (L8.i.go hb);clear ho hb)
     | (refine Pw (o:=⟨some 107,_,_,_,_,_⟩) rfl (.a 101) (.a 106) rfl (some ⟨g,0,none⟩) 20 c7 L9.i 10 2 (vQ (some ⟨g,0,none⟩) 10 c7 1) 10 (c7-10) rfl A9 2 2 rfl R9.i rfl HP.i HZ.i ?_;intro w10 h10 h11;have L10:=ab h10;clear h10 h11))
    go_wp2;go_ret2;rw[HPF.i];exact L10.i.toE
end
section
attribute [local go_sem high] jd jL
theorem WY(x:Lc)(kind:Int)(fP:List Tg)(hf:∀t∈fP,abQ t)(hi:∀t∈fP,uy t.oM=true)(hn:fP.a<=2)(t0:0<=kind)(t1:kind<=65535)(ht:uy kind=false)(w:ak)(hT:iE Tg.ay 2 w w.a.j x.Ws x.Fz fP)
 (P:Option aT) (m mc:Nat) (sl:List Yj) (bss:List (List UInt8)) (hS:RdS w w.a.j P m sl) (hH:Ov w w.a.j sl bss) (hm:m<=1000) (hs:yV sl<=900000000) :
 aP ah 102 #[.d x.ay,.b .a kind,.a P m mc] w (IV w (qN x.S x.h fP kind++bss.flatten)):=by
 have Z1:=ab ((Bx.start w).new x.ay 108);have fz:=Z1.i.R.J.2.1 13;have HT:=ab hT;have HS:=ab hS;have HH:=ab hH;have Z2:=ab (Z1.i.set (fun p hp=>by cases hp) 13 (.b .a kind));rw[Lc.UJ]at Z2;clear hT hS hH;go_enter Tryz.func102,Tryz.ntmps102;go_upto_region 1 with fail
 have c13:(w.alloc (.D x.ay 108)).b ⟨w.a.j,13,none⟩=some (.b .a x.oM):=(Z1.i.R.J.1 13).trans (Lc.EC x);generalize w.alloc (.D x.ay 108)=w1 at *;go_upto_region 2 with fail
 generalize w1.F ⟨w.a.j,13,none⟩ (.b .a kind)=w2 at *;clear c13 fz;have l3:=kLc.ni Z2.i.R (Lc.r _);have CL:=ab (aeo ({x with oM:=kind}:Lc) fP hf hi hn t0 t1 ht w2 ((HT.i.M Z2.i.O).lN Z2.i.O.j));have HLB:=ab (show(qN x.S x.h fP kind).a<=1000 from akb hn);go_upto_region 3 with(go_at_call 185;(with_reducible refine CL.i.e ?_);rintro e w3 ⟨A3,n3,c3,rfl,hn3,ho3,hb3⟩;have N3:=ab hn3;have O3:=ab ho3;have B3:=ab (Z2.i.O.trans (hb3.e Z2.i.O.j));clear hn3 ho3 hb3)
 have C1:=ab (MO sl bss P m mc w3 ((HS.i.M B3.i).lN B3.i.j) ⟨HH.i.1,fun i hi=>((HH.i.2 i hi).M B3.i).lN B3.i.j⟩ hm (by omega));obtain⟨hb0,hhb⟩:∃l,l=qN x.S x.h fP kind:=⟨_,rfl⟩
 rw[<-hhb]at N3 O3 HLB;have HHB:=ab hhb;clear hhb l3;have HFL:=ab (show bss.flatten.a<=900000000 by
  have:=Wh HH.i sl.a (av _);rw[aJ (av _),HH.i.1,aJ (av _)]at this;omega)
 obtain⟨fl,hfl⟩:∃l,l=bss.flatten:=⟨_,rfl⟩
 unfold aum at C1;rw[<-hfl]at HFL C1;have HFB:=ab hfl;clear hfl;go_wp2_with (first
 | (go_at_call 181;(with_reducible refine C1.i.e ?_);rintro e w4 ⟨v4,rfl,ho4,hb4⟩;obtain⟨A4,c4,hv4,_,_⟩:=jG ho4;subst hv4;have O4:=ab ho4;have B4:=ab (B3.i.trans (hb4.e B3.i.j));have R3:=ab (gu.iG (jE O3.i hb4));have R4:=ab (gu.iG ho4);have C2:=ab (Ct [⟨A3,n3,c3⟩,⟨A4,fl.a,c4⟩] [hb0,fl] 56 2 w4 rfl (.cons R3.i (.cons R4.i .nil)) (by omega) (by have:=N3.i;have:=HLB.i;have:=HFL.i;simp[yV];omega));clear ho4 hb4)
 | (go_at_call 181;(with_reducible refine C2.i.e ?_);rintro e w5 ⟨A5,m5,c5,rfl,hm5,_,UM,hb5⟩;have O5:=ab UM;have N5:=ab hm5;have B5:=ab hb5;clear hm5 UM hb5))
 go_ret;have e2:[hb0,fl].flatten=hb0++fl:=by simp
 have ho:=O5.i;have hnn:=N5.i;rw[e2,HHB.i,HFB.i]at ho hnn;exact⟨A5,m5,c5,rfl,hnn,iH ho (kV B4.i.j),B4.i.trans (B5.i.e B4.i.j)⟩
end
section
attribute [local go_sem high] jd jL
def aq0{w:ak}{y:Nat}{a b c:Array aB}(h:w.a.j+1<y):∀p∈[(y+1,a),(w.a.j+1,b),(w.a.j,c)],p.1≠y:=fun r hr=>by
 simp only[bB,fU,or_false]at hr;rcases hr with rfl|rfl|rfl<;>simp only[]<;>omega
def anD{w:ak}{y:Nat}{a b c:Array aB}(h:w.a.j+1<y):∀p∈[(y,a),(w.a.j+1,b),(w.a.j,c)],p.1≠y+1:=fun r hr=>by
 simp only[bB,fU,or_false]at hr;rcases hr with rfl|rfl|rfl<;>simp only[]<;>omega
def anE(l:List UInt8):((J3 l).a:Int)=(Uk l).dB:=by
 unfold J3 Uk;split
 ·simp[tK]
 ·have:=aes (mO l).1.oM (l.f (mO l).1.fH)
  rw[bH];omega
def anF(l:List UInt8)(s d:fC):Iy l s d =
 (if(Uk l).Y=false then([],3)else if anq s d=false then([],1)else if s.h=true then if((J3 l).a:Int)>65535 then([],4)
 else(qN (mO l).1.S (mO l).1.h (mO l).1.fP 34525++wX ⟨40,40+((J3 l).a:Int),64,false,0,if(mO l).1.oM=34525 then 41 else 4,s,d⟩++J3 l,0)
 else if 20+((J3 l).a:Int)>65535 then([],4)
  else(qN (mO l).1.S (mO l).1.h (mO l).1.fP 2048++uj ⟨20,20+((J3 l).a:Int),0,0,false,true,64,if(mO l).1.oM=34525 then 41 else 4,s,d⟩++J3 l,0)):=by
 rw[anE];unfold Iy J3 Uk;by_cases h:(mO l).2≠0
 ·rw[if_pos h,if_pos h,if_pos (by rfl)]
 ·rw[if_neg h,if_neg h,if_neg h]
def agN(w:ak)(A:Option aT)(n c:Nat)(l:List UInt8)(s d:fC)(hnc:n<=c)(hc:c<=9223372036854775807/\n<=1000000)(hr:gu w w.a.j A n l):aP ah 207 #[.a A n c,.d s.ay,.d d.ay] w (aj5 w (Iy l s d)):=by
 have h0:=((Bx.start w).new s.ay 27).new d.ay 27;rw[show(w.alloc (.D s.ay 27)).a.j=w.a.j+1 by simp]at h0;have Z0:=ab h0;have CC:=ab (akd _ A n c l hnc hc (h0.Pf hr));have HW:=ab (anF l s d);clear h0 hr;go_enter Tryz.func207,Tryz.ntmps207;go_upto_region 1 with fail
 generalize(w.alloc (.D s.ay 27)).alloc (.D d.ay 27)=w0 at Z0 CC ⊢;obtain⟨k,hk⟩:=bZ ((mO l).1);obtain⟨g,hg⟩:=bZ (Uk l);obtain⟨pk,hpk⟩:∃q,q=J3 l:=⟨_,rfl⟩
 have HK:=ab hk;unfold azz at CC;rw[<-hk,<-hg,<-hpk]at CC HW;clear hk hg hpk;go_upto_region 2 with(go_at_call 99;(with_reducible refine CC.i.e ?_);rintro e w1 ⟨TA,tc,PA,pn,pc,rfl,hT,hP,hpc,azE,hb1⟩;have zn:=((Z0.i.go hb1).new rb.ay 108).new tK.ay 179;rw[tQ]at zn;have hsz:=(Z0.i.go hb1).R.lt;have ZN:=ab zn;have avn:=ZN.i.b1.K 0 15 (aX (Lc.r rb).symm);have Z2:=ab ((ZN.i.sub (L':=[(w1.a.j,rb.ay),(w1.a.j+1,tK.ay),(w.a.j+1,d.ay),(w.a.j,s.ay)]) (by simp)).put (aq0 hsz) (k.cell TA tc).ay (by rw[Lc.r,Lc.r]));have avo:=Z2.i.b1.K 0 5 (aX (Tn.r tK).symm);have Z1:=ab ((Z2.i.sub (L':=[(w1.a.j+1,tK.ay),(w1.a.j,(k.cell TA tc).ay),(w.a.j+1,d.ay),(w.a.j,s.ay)]) (by simp)).put (anD hsz) g.ay (by rw[Tn.r,Tn.r]));have Sk:=ab (lI (lI ((((aG w1.a.j w1).alloc (av _) (.D rb.ay 108)).alloc (by simp) (.D tK.ay 179))) w1.a.j 0 (k.cell TA tc).ay (av _)) (w1.a.j+1) 0 g.ay (Nat.le_succ _));have RT:=ab (hT.M Sk.i);have RP:=ab (hP.M Sk.i);have HPC:=ab (And.intro hpc azE);clear zn hpc azE;clear hb1 hT hP)
 have YL:=ab (show w1.a.j<=(gX (gX ((w1.alloc (.D rb.ay 108)).alloc (.D tK.ay 179)) w1.a.j 0 (k.cell TA tc).ay) (w1.a.j+1) 0 g.ay).a.j from Sk.i.j);have HY:=ab hsz;clear avn avo ZN Z2 Sk hsz;generalize gX (gX ((w1.alloc (.D rb.ay 108)).alloc (.D tK.ay 179)) w1.a.j 0 (k.cell TA tc).ay) (w1.a.j+1) 0 g.ay=w2 at Z1 RT RP YL ⊢;generalize w1.a.j=y8 at *;have hpn:=ab RP.i.len;have KS:=ab (fun(w':ak) (h:Bx [(y8+1,g.ay),(y8,(k.cell TA tc).ay),(w.a.j+1,d.ay),(w.a.j,s.ay)] w w')=>show w'.b ⟨y8+1,4,none⟩=some (.e g.Y)/\w'.b ⟨w.a.j,0,none⟩=some (.e s.h)/\w'.b ⟨w.a.j+1,0,none⟩=some (.e d.h)/\(rZ (.c (some ⟨w.a.j,0,none⟩))).G ah w' = .Y (.d s.ay) w'/\(rZ (.c (some ⟨w.a.j+1,0,none⟩))).G ah w' = .Y (.d d.ay) w'/\w'.b ⟨y8,13,none⟩=some (.b .a k.oM)/\(yY 108 (.c (some ⟨y8,0,none⟩))).G ah w' = .Y (.d (k.cell TA tc).ay) w' from⟨(h.R.J.1 4).trans (Tn.ay3 g),(h.b3.J.1 0).trans (fC.nS s),(h.b2.J.1 0).trans (fC.nS d),h.b3.aij,h.b2.aij,(h.b1.J.1 13).trans (Lc.EC _),kLc.ni h.b1 (Lc.r _)⟩);obtain⟨f1,f2,f3,f4,f5,f6,f7⟩:=KS.i _ Z1.i;have CP:=ab aei;cases hok:g.Y
 ·rw[hok]at f1
  go_wp2;go_ret2;rw[HW.i,if_pos hok];exact⟨none,0,0,rfl,Lr _,Z1.i.O⟩
 rw[hok]at f1;have HWO:=ab (HW.i.trans (if_neg (by rw[hok];simp)));clear HW;have HFM:=ab (show anq s d=(s.h==d.h&&(s.h||s.lG&&d.lG))from rfl);have NOF:=ab (show anq s d=false->Iy l s d=([],1)from fun h=>HWO.i.trans (if_pos h));cases h6:s.h<;>cases g6:d.h
 case false.true=>
  rw[h6]at f2 HFM;rw[g6]at f3 HFM;go_wp2;go_ret2;rw[NOF.i HFM.i];exact⟨none,0,0,rfl,Lr _,Z1.i.O⟩
 case true.false=>
  rw[h6]at f2 HFM;rw[g6]at f3 HFM;go_wp2;go_ret2;rw[NOF.i HFM.i];exact⟨none,0,0,rfl,Lr _,Z1.i.O⟩
 case true.true=>
  have HH6:=ab h6;have HG6:=ab g6;rw[h6]at f2 HFM;rw[g6]at f3 HFM;clear g6;have HWX:=ab (HWO.i.trans ((if_neg (by rw[HFM.i];simp)).trans (if_pos h6)));clear h6;have hty:(k.oM==34525)=true/\(if k.oM=34525 then(41:Int)else 4)=41\/(k.oM==34525)=false/\(if k.oM=34525 then(41:Int)else 4)=4:=by
   by_cases h:k.oM=34525
   ·exact .a ⟨by simpa using h,if_pos h⟩
   ·exact .b ⟨by simpa using h,if_neg h⟩
  by_cases hT:65535<pn
  ·have qt:decide ((65535:Int)<pn)=true:=by simp;omega
   go_wp2
   all_goals
    go_ret2;rw[HWX.i,if_pos (by have:=hpn.i;omega)];exact⟨none,0,0,rfl,Lr _,Z1.i.O⟩
  have qt:decide ((65535:Int)<pn)=false:=by simp;omega
  have Ol:=ab (HWX.i.trans (if_neg (by have:=hpn.i;omega)));have q5:=jW (40+(pn:Int)) (by omega);rcases hty with⟨qty,hpp⟩|⟨qty,hpp⟩
  case' inl=>
   rw[hpp,hpn.i]at Ol;clear hpp;have CS:=ab (fun W'=>WU (Sx.mk 40 (40+pn) 64 false 0 41 s d) pn (by omega) rfl rfl (show(0:Int)<=41 by decide) (show(41:Int)<=255 by decide) (by rfl) (show(0:Int)<=64 by decide) (show(64:Int)<=255 by decide) rfl rfl HH6.i HG6.i W');go_upto_region 14 with(go_at_call 270;(with_reducible refine(CS.i _).e ?_);rintro e w5 ⟨A5,n5,c5,rfl,hn5,UM,hb5⟩;have Z5:=ab (Z1.i.go hb5);have N5:=ab hn5;have R5:=ab (gu.iG UM);have B5:=ab hb5;clear hn5 UM hb5)
   clear f1 f2 f3 f4 f5 f6 f7 q5 qt qty;obtain⟨_,_,_,_,_,_,f7⟩:=KS.i _ Z5.i;obtain⟨sb,hsb⟩:∃l,l=wX (Sx.mk 40 (40+pn) 64 false 0 41 s d):=⟨_,rfl⟩
  case' inr=>
   rw[hpp,hpn.i]at Ol;clear hpp;have CS:=ab (fun W'=>WU (Sx.mk 40 (40+pn) 64 false 0 4 s d) pn (by omega) rfl rfl (show(0:Int)<=4 by decide) (show(4:Int)<=255 by decide) (by rfl) (show(0:Int)<=64 by decide) (show(64:Int)<=255 by decide) rfl rfl HH6.i HG6.i W');go_upto_region 14 with(go_at_call 270;(with_reducible refine(CS.i _).e ?_);rintro e w5 ⟨A5,n5,c5,rfl,hn5,UM,hb5⟩;have Z5:=ab (Z1.i.go hb5);have N5:=ab hn5;have R5:=ab (gu.iG UM);have B5:=ab hb5;clear hn5 UM hb5)
   clear f1 f2 f3 f4 f5 f6 f7 q5 qt qty;obtain⟨_,_,_,_,_,_,f7⟩:=KS.i _ Z5.i;obtain⟨sb,hsb⟩:∃l,l=wX (Sx.mk 40 (40+pn) 64 false 0 4 s d):=⟨_,rfl⟩
  all_goals
   have HSL:=ab (show sb.a=40 by rw[hsb,aer]);rw[<-hsb]at Ol N5 R5;clear hsb;have BA:=ab (Below.alloc (aG w5.a.j w5) (av _) (.D (zu [⟨A5,n5,c5⟩,⟨PA,pn,pc⟩]) 56));have TG:=WT l;have TI:=Rs l;rw[<-HK.i]at TG TI;have RT5:=((RT.i.M (B5.i.e YL.i)).M (BA.i.e (aO YL.i B5.i.j))).lN (aO YL.i (aO B5.i.j BA.i.j));have RP5:=((RP.i.M (B5.i.e YL.i)).M (BA.i.e (aO YL.i B5.i.j))).lN (aO YL.i (aO B5.i.j BA.i.j));have CJ:=ab (WY (k.cell TA tc) 34525 k.fP TG.1 TI TG.2 (by decide) (by decide) (by decide) _ RT5 (some ⟨w5.a.j,0,none⟩) 2 2 [⟨A5,n5,c5⟩,⟨PA,pn,pc⟩] [sb,pk] (RdS.lit w5 [⟨A5,n5,c5⟩,⟨PA,pn,pc⟩] 56) (.cons ((R5.i.M BA.i).lN BA.i.j) (.cons RP5 .nil)) (by omega) (by have:=N5.i;have:=HSL.i;have:=HPC.i;simp[yV];omega));clear TG TI RT5 RP5;go_wp2_with (go_at_call 102;(with_reducible refine CJ.i.e ?_);rintro e w8 ⟨A8,n8,c8,rfl,hn8,ho8,Yz⟩;have N8:=ab hn8;have R8:=ab (gu.iG ho8);have B8:=ab Yz;clear hn8 ho8 Yz);go_ret2;have e2:qN k.S k.h k.fP 34525++[sb,pk].flatten=qN k.S k.h k.fP 34525++sb++pk:=by simp
   rw[Ol.i];refine⟨A8,n8,c8,rfl,?_,Z5.i.O.trans ((BA.i.trans (B8.i.e BA.i.j)).e Z5.i.O.j)⟩;have:=R8.i
   rwa [show(k.cell TA tc).S=k.S from rfl,show(k.cell TA tc).h=k.h from rfl,e2]at this
 case false.false=>
  have HH6:=ab h6;have HG6:=ab g6;rw[h6]at f2 HFM;rw[g6]at f3 HFM;simp only[h6,g6]at KS;clear g6;have CP1:=ab (fun W=>CP.i s W);have CP2:=ab (fun W=>CP.i d W);cases hs:s.lG
  ·rw[hs]at CP1 HFM
   clear hs;go_wp2_with (go_at_call 269;(with_reducible refine(CP1.i _).e ?_);rintro e w4 ⟨rfl,hb⟩;have Z4:=ab (Z1.i.go hb);clear f1 f2 f3 f4 f5 f6 f7;obtain⟨f1,f2,f3,f4,f5,f6,f7⟩:=KS.i _ Z4.i;clear hb);go_ret2;rw[NOF.i HFM.i];exact⟨none,0,0,rfl,Lr _,Z4.i.O⟩
  cases hd:d.lG
  ·rw[hs]at CP1 HFM
   rw[hd]at CP2 HFM;clear hs hd;go_wp2_with (go_at_call 269;(first|((with_reducible refine(CP1.i _).e ?_);rintro e w4 ⟨rfl,hb⟩;have Z4:=ab (Z1.i.go hb);clear f1 f2 f3 f4 f5 f6 f7;obtain⟨f1,f2,f3,f4,f5,f6,f7⟩:=KS.i _ Z4.i;clear hb)|((with_reducible refine(CP2.i _).e ?_);rintro e w5 ⟨rfl,hb⟩;have Z5:=ab (Z4.i.go hb);clear f1 f2 f3 f4 f5 f6 f7;obtain⟨f1,f2,f3,f4,f5,f6,f7⟩:=KS.i _ Z5.i;clear hb)));go_ret2;rw[NOF.i HFM.i];exact⟨none,0,0,rfl,Lr _,Z5.i.O⟩
  have HS4:=ab (show(!s.h&&s.lG)=true by rw[HH6.i,hs];rfl);have HD4:=ab (show(!d.h&&d.lG)=true by rw[HG6.i,hd];rfl);rw[hs]at CP1 HFM;rw[hd]at CP2 HFM;clear hs hd;have HWX:=ab (HWO.i.trans ((if_neg (by rw[HFM.i];simp)).trans (if_neg (by rw[h6];simp))));clear h6;have hty:(k.oM==34525)=true/\(if k.oM=34525 then(41:Int)else 4)=41\/(k.oM==34525)=false/\(if k.oM=34525 then(41:Int)else 4)=4:=by
   by_cases h:k.oM=34525
   ·exact .a ⟨by simpa using h,if_pos h⟩
   ·exact .b ⟨by simpa using h,if_neg h⟩
  have q5:=jW (20+(pn:Int)) (by have:=HPC.i;omega);go_upto_region 7 with(go_at_call 269;(first|((with_reducible refine(CP1.i _).e ?_);rintro e w4 ⟨rfl,hb⟩;have Z4:=ab (Z1.i.go hb);have B4:=ab hb;clear f1 f2 f3 f4 f5 f6 f7;obtain⟨f1,f2,f3,f4,f5,f6,f7⟩:=KS.i _ Z4.i;clear hb)|((with_reducible refine(CP2.i _).e ?_);rintro e w5 ⟨rfl,hb⟩;have Z5:=ab (Z4.i.go hb);have B5:=ab (B4.i.trans (hb.e B4.i.j));clear f1 f2 f3 f4 f5 f6 f7;obtain⟨f1,f2,f3,f4,f5,f6,f7⟩:=KS.i _ Z5.i;clear hb)))
  by_cases hT:65535<20+pn
  ·have qt:decide ((65535:Int)<20+(pn:Int))=true:=by simp;omega
   go_wp2
   all_goals
    go_ret2;rw[HWX.i,if_pos (by have:=hpn.i;omega)];exact⟨none,0,0,rfl,Lr _,Z5.i.O⟩
  have qt:decide ((65535:Int)<20+(pn:Int))=false:=by simp;omega
  have Ol:=ab (HWX.i.trans (if_neg (by have:=hpn.i;omega)));rcases hty with⟨qty,hpp⟩|⟨qty,hpp⟩
  case' inl=>
   rw[hpp,hpn.i]at Ol;clear hpp;have CS:=ab (fun W'=>Te (Fo.mk 20 (20+pn) 0 0 false true 64 41 s d) rfl (show(0:Int)<=0 by decide) (show(0:Int)<=255 by decide) (show 20<=20+(pn:Int)by omega) (show 20+(pn:Int)<=65535 by omega) (show(0:Int)<=0 by decide) (show(0:Int)<=65535 by decide) (show(0:Int)<=64 by decide) (show(64:Int)<=255 by decide) (show(0:Int)<=41 by decide) (show(41:Int)<=255 by decide) rfl HS4.i HD4.i W');go_upto_region 18 with(go_at_call 271;(with_reducible refine(CS.i _).e ?_);rintro e w7 ⟨A5,n5,c5,rfl,hn5,UM,hb5⟩;have Z7:=ab (Z5.i.go hb5);have N5:=ab hn5;have R5:=ab (gu.iG UM);have B7:=ab (B5.i.trans (hb5.e B5.i.j));clear hn5 UM hb5)
   clear f1 f2 f3 f4 f5 f6 f7 q5 qt qty;obtain⟨_,_,_,_,_,_,f7⟩:=KS.i _ Z7.i;obtain⟨sb,hsb⟩:∃l,l=uj (Fo.mk 20 (20+pn) 0 0 false true 64 41 s d):=⟨_,rfl⟩
  case' inr=>
   rw[hpp,hpn.i]at Ol;clear hpp;have CS:=ab (fun W'=>Te (Fo.mk 20 (20+pn) 0 0 false true 64 4 s d) rfl (show(0:Int)<=0 by decide) (show(0:Int)<=255 by decide) (show 20<=20+(pn:Int)by omega) (show 20+(pn:Int)<=65535 by omega) (show(0:Int)<=0 by decide) (show(0:Int)<=65535 by decide) (show(0:Int)<=64 by decide) (show(64:Int)<=255 by decide) (show(0:Int)<=4 by decide) (show(4:Int)<=255 by decide) rfl HS4.i HD4.i W');go_upto_region 18 with(go_at_call 271;(with_reducible refine(CS.i _).e ?_);rintro e w7 ⟨A5,n5,c5,rfl,hn5,UM,hb5⟩;have Z7:=ab (Z5.i.go hb5);have N5:=ab hn5;have R5:=ab (gu.iG UM);have B7:=ab (B5.i.trans (hb5.e B5.i.j));clear hn5 UM hb5)
   clear f1 f2 f3 f4 f5 f6 f7 q5 qt qty;obtain⟨_,_,_,_,_,_,f7⟩:=KS.i _ Z7.i;obtain⟨sb,hsb⟩:∃l,l=uj (Fo.mk 20 (20+pn) 0 0 false true 64 4 s d):=⟨_,rfl⟩
  all_goals
   have HSL:=ab (show sb.a=20 by rw[hsb,WV]);rw[<-hsb]at Ol N5 R5;clear hsb;have BA:=ab (Below.alloc (aG w7.a.j w7) (av _) (.D (zu [⟨A5,n5,c5⟩,⟨PA,pn,pc⟩]) 56));have TG:=WT l;have TI:=Rs l;rw[<-HK.i]at TG TI;have RT5:=((RT.i.M (B7.i.e YL.i)).M (BA.i.e (aO YL.i B7.i.j))).lN (aO YL.i (aO B7.i.j BA.i.j));have RP5:=((RP.i.M (B7.i.e YL.i)).M (BA.i.e (aO YL.i B7.i.j))).lN (aO YL.i (aO B7.i.j BA.i.j));have CJ:=ab (WY (k.cell TA tc) 2048 k.fP TG.1 TI TG.2 (by decide) (by decide) (by decide) _ RT5 (some ⟨w7.a.j,0,none⟩) 2 2 [⟨A5,n5,c5⟩,⟨PA,pn,pc⟩] [sb,pk] (RdS.lit w7 [⟨A5,n5,c5⟩,⟨PA,pn,pc⟩] 56) (.cons ((R5.i.M BA.i).lN BA.i.j) (.cons RP5 .nil)) (by omega) (by have:=N5.i;have:=HSL.i;have:=HPC.i;simp[yV];omega));clear TG TI RT5 RP5;go_wp2_with (go_at_call 102;(with_reducible refine CJ.i.e ?_);rintro e w8 ⟨A8,n8,c8,rfl,hn8,ho8,Yz⟩;have N8:=ab hn8;have R8:=ab (gu.iG ho8);have B8:=ab Yz;clear hn8 ho8 Yz);go_ret2;have e2:qN k.S k.h k.fP 2048++[sb,pk].flatten=qN k.S k.h k.fP 2048++sb++pk:=by simp
   rw[Ol.i];refine⟨A8,n8,c8,rfl,?_,Z7.i.O.trans ((BA.i.trans (B8.i.e BA.i.j)).e Z7.i.O.j)⟩;have:=R8.i
   rwa [show(k.cell TA tc).S=k.S from rfl,show(k.cell TA tc).h=k.h from rfl,e2]at this
end
section
attribute [local go_sem high] jd jL
end
def Agr(l m:List UInt8)(a b:Nat):Prop:=∀j,a<=j->j<b->m.b j 0=l.b j 0
section
variable {l m:List UInt8} {a b:Nat}
theorem Agr.two(h:Agr l m a b){k:Nat}(h1:a<=k)(h2:k+2<=b):eY m k=eY l k:=by
 unfold eY;rw[h k (by omega) (by omega),h (k+1) (by omega) (by omega)]
theorem ZC(l:List UInt8)(z j:Nat):(l.f z).b j 0=l.b (z+j) 0:=by simp[au]
theorem ZH(l:List UInt8)(z j:Nat):(l.d z).b j 0=if j<z then l.b j 0 else 0:=by
 simp only[au,jr];split<;>rfl
end
def agO{l:List UInt8}(h:(wE l).kind=0):(mO l).2=0/\((mO l).1.oM=2048\/(mO l).1.oM=34525)/\(ny l).2=0/\(ny l).1.oV=false/\((ny l).1.aQ=6\/(ny l).1.aQ=17)/\(Na l).2=0 /\
 wE l=⟨0,⟨(ny l).1.h,(ny l).1.S,(ny l).1.aQ,(Na l).1.jv,(Na l).1.iQ⟩,(Na l).1.vw,(mO l).1.fH,(mO l).1.fH+(ny l).1.head,(mO l).1.fH+(ny l).1.dB⟩:=by
 unfold wE at h ⊢;by_cases h1:(mO l).2≠0
 ·rw[if_pos h1]at h;cases h
 rw[if_neg h1]at h ⊢;by_cases h2:(mO l).1.oM≠2048/\(mO l).1.oM≠34525
 ·rw[if_pos h2]at h;cases h
 rw[if_neg h2]at h ⊢;by_cases h3:(ny l).2≠0
 ·rw[if_pos h3]at h;cases h
 rw[if_neg h3]at h ⊢;by_cases h4:(ny l).1.oV=true
 ·rw[if_pos h4]at h;cases h
 rw[if_neg h4]at h ⊢;by_cases h5:(ny l).1.aQ≠6/\(ny l).1.aQ≠17
 ·rw[if_pos h5]at h;cases h
 rw[if_neg h5]at h ⊢;by_cases h6:(Na l).2≠0
 ·rw[if_pos h6]at h;cases h
 rw[if_neg h6]at h ⊢;exact⟨by omega,by omega,by omega,by simpa using h4,by omega,by omega,rfl⟩
def ZI(l:List UInt8)(z k:Nat):eY (l.f z) k=eY l (z+k):=by unfold eY;rw[ZC,ZC,nP]
def akg{l:List UInt8}(h:(wE l).kind=0):(wE l).I.h=(if(wE l).I.h.h then ajX (l.f ((wE l).Dv.g+8))else JQ (l.f ((wE l).Dv.g+12)))/\(wE l).I.S=(if(wE l).I.h.h then ajX (l.f ((wE l).Dv.g+24))else JQ (l.f ((wE l).Dv.g+16)))/\(wE l).I.jv=eY l (wE l).rP.g/\(wE l).I.iQ=eY l ((wE l).rP.g+2):=by
 have F:=Pq h;obtain⟨k1,k2,k3,k4,k5,k6,kp⟩:=agO h;have f5:=F.Ht;have f3:=F.rP;have f2:=F.Dv;have f6:=F.len;have hp:(wE l).I.jv=eY l (wE l).rP.g/\(wE l).I.iQ=eY l ((wE l).rP.g+2):=by
  rw[kp]at f5 f3 f2 f6 ⊢;simp only at f5 f3 f2 f6 ⊢;have e0:vC (ny l).1.aQ ((l.d ((mO l).1.fH+(ny l).1.dB.g)).f ((mO l).1.fH+(ny l).1.head.g))=0:=by
   unfold Na JU at k6;split at k6
   ·assumption
   ·rename_i hx;exact absurd k6 hx
  have e1:Na l=(qM (ny l).1.aQ ((l.d ((mO l).1.fH+(ny l).1.dB.g)).f ((mO l).1.fH+(ny l).1.head.g)),0):=Wu e0;have hd:0<=(ny l).1.head/\0<=(ny l).1.dB/\(ny l).1.head+8<=(ny l).1.dB:=by
   split at f3<;>split at f5<;>omega
  have e2:((mO l).1.fH+(ny l).1.head:Int).g=(mO l).1.fH+(ny l).1.head.g:=by omega
  rw[e1,e2];have ag:Agr l (l.d ((mO l).1.fH+(ny l).1.dB.g)) 0 ((mO l).1.fH+(ny l).1.dB.g):=fun j _ hj=>by rw[ZH,if_pos hj]
  have a1:=ag.two (k:=(mO l).1.fH+(ny l).1.head.g) (by omega) (by omega);have a2:=ag.two (k:=(mO l).1.fH+(ny l).1.head.g+2) (by omega) (by omega);constructor
  ·rw[<-a1];unfold qM;split<;>simp only[ZI,mW]
  ·rw[<-a2];unfold qM;split<;>simp only[ZI]
 refine⟨?_,?_,hp⟩
 all_goals
  rw[kp];simp only[dU];unfold ny Zu at k3 ⊢;by_cases ht:(mO l).1.oM=2048
  ·rw[if_pos ht]at k3 ⊢
   have es:=aib (l:=l.f (mO l).1.fH) k3;have e0:DZ (l.f (mO l).1.fH)=0:=by
    simp only at k3;unfold Ak at k3;split at k3
    ·assumption
    ·rename_i hx;exact absurd k3 hx
   simp only[es.1];unfold Ak;rw[if_pos e0];simp[Rk]
  ·rw[if_neg ht]at k3 ⊢
   have es:=aia (l:=l.f (mO l).1.fH) k3;simp only[es.1,if_true];simp only at k3;unfold Bn at k3 ⊢;by_cases h1:(l.f (mO l).1.fH).a<40
   ·rw[if_pos h1]at k3;cases k3
   rw[if_neg h1]at k3 ⊢;by_cases h2:mP (l.f (mO l).1.fH) 0/16≠6
   ·rw[if_pos h2]at k3;cases k3
   rw[if_neg h2]at k3 ⊢;by_cases h3:(l.f (mO l).1.fH).a<40+eY (l.f (mO l).1.fH) 4
   ·rw[if_pos h3]at k3;cases k3
   rw[if_neg h3]at k3 ⊢
   first|rw[(WO 8 _ _ k3).1]|rw[(WO 8 _ _ k3).2]
   simp[sx0]
def ain(l:List UInt8):0<=(wE l).kind/\(wE l).kind<=6:=by
 unfold wE xQ
 repeat' split
 all_goals simp
def aq1(e:En)(v:Vp)(b:Bk)(t:Tu)(l:List UInt8):(Py e v b t l).1=0\/(Py e v b t l).1=9\/(Py e v b t l).1=10:=by
 unfold Py
 repeat' split
 all_goals simp
def agP(e:En)(s:rE)(l:List UInt8):0<=(EH e s l).lu/\(EH e s l).lu<=10:=by
 have h1:=ain l;unfold EH;split
 ·split
  ·split
   ·rename_i i _ _ b GN _
    have:=aq1 e (e.vs.b i oL) b (wE l).I l;split<;>simp only<;>omega
   ·simp
  ·simp
 ·simp only;omega
def anG{s:rE}{t:Tu}{n:List UInt8}(h:Px s t=some n):∃f,qv s.h t=some f/\f.E=n/\tJ s.qO n=true/\xM (oC s.r) n=false:=by
 unfold Px at h;split at h
 ·rename_i f hf
  split at h
  ·rename_i hc
   injection h with h
   subst h;simp only[bf,nI]at hc;exact⟨f,hf,rfl,hc.1,hc.2⟩
  ·cases h
 ·cases h
def avs{s:rE}{t:Tu}{f:Fw}(hf:qv s.h t=some f)(h1:tJ s.qO f.E=true)(h2:xM (oC s.r) f.E=false):Px s t=some f.E:=by
 unfold Px;rw[hf];simp only;rw[h1,h2];rfl
def aq2{ls:List (List UInt8)}{qO:List Bk}{key:Vector UInt8 16}{n h:Nat}{m:List UInt8}(hp:lT n=true)(hpk:Ir (uL key n (lg ls qO)) h=some m):∃x∈qO,x.E=m/\x.drain=false/\xM ls m=false:=by
 have h0:∀x∈lg ls qO,0<=x.q:=fun x hx=>by
  unfold lg at hx;obtain⟨y,_,rfl⟩:=iZ.1 hx;unfold GZ;simp only;split
  ·exact Int.le_refl _
  ·exact Int.natCast_nonneg _
 unfold Ir at hpk;rcases YZ (key:=key) hp h0 with⟨h1,_⟩|⟨h1,h2⟩
 ·rw[h1]at hpk;simp at hpk
 ·have hn:0<n:=by
   rcases eu n with e|e
   ·subst e;rw[h1]at hpk;simp at hpk
   ·exact e
  rw[if_neg (by omega),h1]at hpk;injection hpk with hpk
  obtain⟨i,hi,hs⟩:=h2 (h%n) (fE _ hn);rw[hs,dU,au,aC hi,jY]at hpk;have hm:m∈(uL key n (lg ls qO)).h:=by rw[<-hpk];exact fG hi
  unfold uL at hm;simp only at hm;split at hm
  ·simp at hm
  ·obtain⟨x,hx,rfl⟩:=iZ.1 hm
   obtain⟨hx1,hx2⟩:=mK.1 hx;unfold lg at hx1;obtain⟨y,hy,rfl⟩:=iZ.1 hx1;refine⟨y,hy,rfl,?_⟩;unfold GZ at hx2 ⊢;simp only at hx2 ⊢;cases hd:y.drain<;>cases ho:xM ls y.E<;>rw[hd,ho]at hx2<;>simp at hx2;exact⟨rfl,rfl⟩
def qm.srt{M:Int}{e:En}{s:rE}(h:qm M e s):GA s.qO:=(xC.1 h.pl).2.2.2.2
theorem aq3{M:Int}{e:En}{s:rE}(h:qm M e s){t:Tu}{b:Bk}{GN:Bool}(hb:JY e s t=some (b,GN)):b∈s.qO/\xM (oC s.r) b.E=false/\(GN=true->Px s t=some b.E)/\(GN=false->Px s t=none/\Ir (Af e s) (aie e t)=some b.E):=by
 unfold JY at hb;cases hh:Px s t with
 | some n=>
   rw[hh]at hb;simp only[Option.some.injEq,Prod.mk.injEq]at hb;obtain⟨rfl,rfl⟩:=hb;obtain⟨f,_,_,h1,h2⟩:=anG hh;obtain⟨g1,g2⟩:=UA h1;rw[g2];exact⟨g1,h2,fun _=>rfl,fun e=>by cases e⟩
 | none=>
   rw[hh]at hb;simp only at hb;cases hp:Ir (Af e s) (aie e t)with
   | none=>rw[hp]at hb;cases hb
   | some n=>
     rw[hp]at hb;simp only[mE,Option.some.injEq,Prod.mk.injEq]at hb;obtain⟨rfl,rfl⟩:=hb;obtain⟨x,hx,hn,_,ho⟩:=aq2 (tC h.cn).1.2.2 hp;subst hn;rw[amq h.srt hx];exact⟨hx,ho,fun e=>(by cases e),fun _=>⟨rfl,rfl⟩⟩
def aio(l:List UInt8):qg (JQ l)=true:=by
 unfold qg JQ;simp only[Bool.false_or,fM,beq_iff_eq];intro x hx;obtain⟨j,hj,rfl⟩:=mG.1 hx;simp only[qE,List.getElem_drop,Vector.getElem_toList,Vector.getElem_ofFn];rw[ZH,if_neg (by omega)]
theorem aip(l:List UInt8):qg (ajX l)=true:=rfl
def azI{l:List UInt8}(h:(wE l).kind=0):Ev (wE l).I=true/\((wE l).I.aQ=6\/(wE l).I.aQ=17):=by
 have F:=Pq h;obtain⟨t1,t2,t3,t4⟩:=akg h;have hs:qg (wE l).I.h=true:=by rw[t1];split;exact aip _;exact aio _
 have hd:qg (wE l).I.S=true:=by rw[t2];split;exact aip _;exact aio _
 have b1:=Pv l (wE l).rP.g;have b2:=Pv l ((wE l).rP.g+2);have hp:=F.pro;refine⟨?_,hp⟩;unfold Ev XW;rw[hs,hd];simp only[bf,decide_eq_true_eq];have:=F.fam;refine⟨⟨⟨⟨⟨this,trivial⟩,trivial⟩,?_⟩,?_⟩,?_⟩<;>omega
def anH(c:Cn)(h:Hl)(n:List UInt8):Bool:=(h.E==n)&&(decide (0<=h.G)&&decide (h.G<if h.down then c.kF else c.S))
def J4(c:Cn)(s:rE)(k:Nat):Bool:=anH c (s.r.b k kQ) (s.qO.b k iO).E
def J5(l:List Fw)(k:Nat):Bool:=(l.d k).any (tq (l.b k jw).key)
def IX(s:rE)(k:Nat):Bool:=AY (s.h.b k jw)&&(decide ((s.h.b k jw).seen<=s.fK)&&(decide (1<=(s.h.b k jw).no)&&(decide ((s.h.b k jw).no<=s.no)&&(!J5 s.h k&&(decide (k=0)||kG (s.h.b (k-1) jw) (s.h.b k jw))))))
def WZ(s:rE):Bool:=XW s.fK 1099511627776&&(XW s.no 1152921504606846976&&s.S.a.all (XW · 1152921504606846976))
def W9(c:Cn)(vs:List Vp)(s:rE):Bool:=yG c vs&&(rU s.lD s.qO&&(decide (s.r.a=s.qO.a)&&decide ((s.h.a:Int)<=c.dS)))
def xG(c:Cn)(vs:List Vp)(s:rE):Bool:=W9 c vs s&&(WZ s&&((bY s.r.a).all (J4 c s)&&(bY s.h.a).all (IX s)))
theorem akh{α:Type}{lt:α->α->Bool}(hs:Jw lt){l:List α}(h:∀(i:Nat)(hi:i+1<l.a),lt (l[i]'(by omega)) l[i+1]=true):Asc lt l:=by
 unfold Asc;rw[gy];intro i j hi hj hij;obtain⟨d,rfl⟩:∃d,j=i+1+d:=⟨j-i-1,by omega⟩
 induction d with
 | zero=>exact h i hj
 | succ d ih=>exact hs.tr _ _ _ (ih (by omega) (by omega)) (h (i+1+d) hj)
def sj{α:Type}{l:List α}{d:α}{k:Nat}(hk:k<l.a):l.b k d=l[k]:=by
 rw[au,aC hk,jY]
def aki{dS:Int}{s:rE}(hl:(s.h.a:Int)<=dS)(h:∀k,k<s.h.a->IX s k=true):wP dS s.h/\∀f∈s.h,f.seen<=s.fK/\1<=f.no/\f.no<=s.no:=by
 have H:∀(k:Nat)(hk:k<s.h.a),AY s.h[k]=true/\(s.h[k].seen<=s.fK/\1<=s.h[k].no/\s.h[k].no<=s.no)/\J5 s.h k=false/\(k=0\/kG (s.h.b (k-1) jw) s.h[k]=true):=fun k hk=>by
  have:=h k hk;unfold IX at this;rw[sj hk]at this;simp only[bf,decide_eq_true_eq,nI,mJ]at this;exact⟨this.1,⟨this.2.1,this.2.2.1,this.2.2.2.1⟩,this.2.2.2.2.1,this.2.2.2.2.2⟩
 refine⟨⟨akh ug (fun i hi=>?_),?_,?_,hl⟩,fun f hf=>?_⟩
 ·rcases(H (i+1) hi).2.2.2 with e|e
  ·omega
  ·rw[Nat.add_sub_cancel,sj (by omega)]at e;exact e
 ·rw[gy]
  intro i j hi hj hij e;have h1:=(H j hj).2.2.1;unfold J5 at h1;rw[sj hj,nH]at h1;refine h1 s.h[i] ?_ (by simp[tq,e]);rw[nu];exact⟨i,by omega,rfl⟩
 ·intro x hx
  obtain⟨k,hk,rfl⟩:=mG.1 hx;exact(H k hk).1
 ·obtain⟨k,hk,rfl⟩:=mG.1 hf
  exact(H k hk).2.1
def Xa{c:Cn}{vs:List Vp}{s:rE}(key:Vector UInt8 16)(h:xG c vs s=true)(hf:∀x∈s.qO,x.oQ):qm 1152921504606846976 ⟨key,c,vs⟩ s:=by
 unfold xG W9 WZ XW at h;simp only[bf,decide_eq_true_eq,fM,dV]at h;obtain⟨⟨h1,h2,h3,h4⟩,⟨h5,h6,h7⟩,h8,h9⟩:=h;obtain⟨f1,f2⟩:=aki h4 h9;have H:∀(k:Nat)(hk:k<s.r.a),s.r[k].E=(s.qO[k]'(by omega)).E/\0<=s.r[k].G/\s.r[k].G<(if s.r[k].down then c.kF else c.S):=fun k hk=>by
  have:=h8 k hk;unfold J4 anH at this;rw[sj hk,sj (by omega)]at this;simpa using this
 refine⟨h1,h2,hf,?_,?_,f1,f2,by omega,by omega,h7⟩
 ·apply List.ext_getElem (by simpa using h3)
  intro i hi1 hi2;simp only[List.getElem_map];exact(H i (by simpa using hi1)).1
 ·intro x hx
  obtain⟨k,hk,rfl⟩:=mG.1 hx;exact(H k hk).2
def qm.right{M:Int}{e:En}{s:rE}(h:qm M e s)(hM:M<=1152921504606846976):xG e.c e.vs s=true:=by
 have hlen:s.r.a=s.qO.a:=by have:=congrArg List.length h.nm;simpa using this
 unfold xG W9 WZ XW;simp only[bf,decide_eq_true_eq,fM,dV];refine⟨⟨h.cn,h.pl,hlen,h.fl.len⟩,⟨h.ti,by have:=h.no;omega,fun n hn=>by have:=h.ct n hn;omega⟩,fun k hk=>?_,fun k hk=>?_⟩
 ·unfold J4 anH
  rw[sj hk,sj (show k<s.qO.a by omega)];have e1:s.r[k].E=(s.qO[k]'(by omega)).E:=by
   have:=List.getElem_of_eq h.nm (i:=k) (by simpa using hk);simpa using this
  have:=h.hl _ (fG hk);simp only[bf,decide_eq_true_eq,beq_iff_eq];exact⟨e1,this⟩
 ·unfold IX
  rw[sj hk];have h1:=h.fw _ (fG hk);simp only[bf,decide_eq_true_eq,nI,mJ];refine⟨h.fl.Y _ (fG hk),h1.1,h1.2.1,h1.2.2,?_,?_⟩
  ·unfold J5
   rw[sj hk,nH];intro x hx;rw[nu]at hx;obtain⟨i,hi,rfl⟩:=hx;have:=gy.1 h.fl.one i k (by omega) hk (by omega);simpa[tq]using this
  ·rcases eu k with e|e
   ·exact .a e
   ·right
    rw[sj (by omega)];exact gy.1 h.fl.asc (k-1) k (by omega) hk (by omega)
def anI{dS:Int}{l:List Fw}{k:Nat}(h:wP dS l)(hk:k<l.a):Ez dS (l.d k) (l.b k jw)=l.d (k+1):=by
 rw[sj hk];have hn:qv (l.d k) l[k].key=none:=by
  unfold qv;rw[List.find?_eq_none];intro x hx;rw[nu]at hx;obtain⟨i,hi,rfl⟩:=hx;have:=gy.1 h.one i k (by omega) hk (by omega);simpa[tq]using this
 have hlen:=h.len;unfold Ez;rw[if_pos (h.Y _ (fG hk)),hn,if_neg (by simp),if_neg (by rw[bH];omega),adq (fun x hx=>ug.asy ?_),dF hk];rw[nu]at hx;obtain⟨i,hi,rfl⟩:=hx;exact gy.1 h.asc i k (by omega) hk (by omega)
def ZJ{c:Cn}{vs:List Vp}(key:Vector UInt8 16)(h:yG c vs=true):qm 0 ⟨key,c,vs⟩ zq:=by
 have hr:=(tC h).2.1;refine⟨h,xC.2 ⟨?_,?_,?_,?_,?_⟩,(fun x hx=>by cases hx),rfl,(fun x hx=>by cases hx),.nil ?_,(fun x hx=>by cases hx),?_,?_,fun n hn=>?_⟩
 ·simp[zq]
 ·simp[zq]
 ·simp[zq]
 ·intro x hx;cases hx
 ·exact List.Pairwise.nil
 ·show 0<=c.dS;omega
 ·simp[zq]
 ·simp[zq]
 ·simp[zq]at hn;omega
def wG(z:Int):Bool:=decide (z<0)||decide (1152921504606846976<z)
def akj(z:Int):wG z = !XW z 1152921504606846976:=by
 unfold wG XW;rw[Bool.eq_iff_iff];simp only[mJ,decide_eq_true_eq,nI,Bool.and_eq_false_iff,decide_eq_false_iff_not];omega
def abX(z:Int)(w:ak):aP ah 47 #[.b .a z] w fun e w'=>e=.a (.e (wG z))/\w=w':=by
 have HB:=ab (show wG z=(decide (z<0)||decide (1152921504606846976<z))from rfl);go_enter Tryz.func47,Tryz.ntmps47;go_wp2
 all_goals(go_ret;refine⟨?_,rfl⟩;rw[HB.i];simp_all)
theorem aev(args:Array aB)(w:ak):(callFunc 47 args).G ah w = .Y (.enter 47 args) w:=by kernel_rfl
def RdI.fH{w:ak}{B n:Nat}{A:Option aT}{l:List Int}(h:RdI w B A n l){k:Nat}(hk:k<n):∃b o,A=some ⟨b,o,none⟩/\w.b ⟨b,o+k,none⟩=some (.b .a (l.b k 0)):=by
 obtain⟨b,o,hA,hb,hc⟩:=iE.cell (f:=Ho) (s:=1) (fun _=>rfl) 0 h hk;refine⟨b,o,hA,?_⟩;have:=hc 0 (by omega);rw[gL,mW]at this;exact this
def avt(A:Option aT)(n c B:Nat)(w:ak)(l:List Int)(hc:n<=1000000000)(hr:RdI w B A n l):
 aP ah 114 #[.a A n c,.func (.func 47) #[] #[]] w fun e w'=>∃r:Int,e=.a (.b .a r)/\(decide (0<=r)=l.any wG)/\w=w':=by
 have hen:=aev;have GG:=ab abX;have HR:=ab hr;have hl:=ab hr.len;clear hr;go_enter Tryz.func114,Tryz.ntmps114;go_wp2;go_loop [8] (fun s8=>∃i:Nat,i<=n/\s8=.b .a i/\∀j,j<i->wG (l.b j 0)=false) (fun s8=>n-(intOf s8).g)
 case atStart=>exact⟨0,by omega,rfl,fun j h1=>by omega⟩
 case round=>
  obtain⟨i,hi,rfl,hall⟩:=hrel;have HA:=ab hall;clear hall;by_cases hlt:i<n
  ·have hin:(i:Int)<n:=by omega
   obtain⟨b,o,rfl,hcell⟩:=HR.i.fH hlt;have HG:=ab (sj (l:=l) (d:=0) (k:=i) (by rw[hl.i];exact hlt));obtain⟨m,hm⟩:=bZ (l.b i 0);rw[<-hm]at hcell;have HM:=ab hm;clear hm;obtain⟨k,hk⟩:=rT (wG m);have HK:=ab hk;have G1:=ab (fun w=>GG.i m w);rw[hk]at G1;clear hk;cases k
   ·go_wp2_with (refine(G1.i _).e ?_;rintro e w' ⟨rfl,rfl⟩)
    go_round
    case rel=>exact⟨i+1,by omega,by go_num,fun j h1=>by
     by_cases hji:j=i
     ·rw[hji,<-HM.i];exact HK.i
     ·exact HA.i j (by omega)⟩
    case measure=>simp[intOf]<;>omega
   ·have Gy:=ab (show l.any wG=true from List.any_eq_true.2 ⟨m,by rw[HM.i,HG.i];exact fG _,HK.i⟩)
    go_wp2_with (refine(G1.i _).e ?_;rintro e w' ⟨rfl,rfl⟩);go_ret;exact⟨_,rfl,by rw[Gy.i];simp,rfl⟩
  ·obtain rfl:i=n:=by omega
   have HS:=ab (show l.any wG=false from nH.2 (fun x hx=>by
    obtain⟨j,hj,rfl⟩:=mG.1 hx;have:=HA.i j (by rw[hl.i]at hj;exact hj);rw[sj hj]at this;simp[this]))
   go_wp2;go_ret;exact⟨_,rfl,by rw[HS.i];simp,rfl⟩
def avu(A:Option aT)(n c B:Nat)(w:ak)(l:List Int)(hc:n<=1000000000)(hr:RdI w B A n l):
 aP ah 46 #[.a A n c,.func (.func 47) #[] #[]] w fun e w'=>e=.a (.e (l.any wG))/\w=w':=by
 have I:=ab (avt A n c B w l hc hr);clear hr;go_enter Tryz.func46,Tryz.ntmps46;go_wp2_with (go_at_call 114;refine I.i.e ?_;rintro e w' ⟨r,rfl,hr,rfl⟩);go_ret;exact⟨by simp,rfl⟩
def aiq(v:Vector Int 11):(v.a.any wG) = !v.a.all (XW · 1152921504606846976):=by
 rw[List.not_all_eq_any_not];congr 1;funext z;exact akj z
structure Sl where
 adn:Bool
 rH:Fw
def Sl.ay(x:Sl):Array aB:=#[.e x.adn]++x.rH.ay
def Sl.r(x:Sl):x.ay.j=42:=by simp[Sl.ay,Fw.r]
def Sl.dw(x:Sl):x.ay.all (·.h)=true:=ig ((by simp[dx])) (Fw.dw _)
@[go_sem]theorem Sl.eB(x:Sl):eB x.ay=42:=Sl.r x
@[go_sem]theorem Sl.all(x:Sl):x.ay.m 0 42=x.ay:=by have:=Sl.r x;rw[<-this];simp
@[go_sem]theorem Sl.PE(x:Sl):x.ay[0]? = some (.e x.adn):=by simp[Sl.ay,aD,Fw.r]
@[go_sem]theorem Sl.UN(x:Sl):x.ay.m 1 42=x.rH.ay:=by simp[Sl.ay,dD,Fw.r,qB,uw]
def Ib:Sl:=⟨false,jw⟩
@[go_sem]theorem azJ:cB #[bT false,bT false,aA,aA,aA,aA,aA,aA,aA,aA,aA,aA,aA,aA,aA,aA,aA,aA,bT false,aA,aA,aA,aA,aA,aA,aA,aA,aA,aA,aA,aA,aA,aA,aA,aA,bg,bg,bg,jk {data:=#[]},bg,bg,bg]=cB Ib.ay:=rfl
@[go_sem]theorem avv:eO #[bT false,bT false,aA,aA,aA,aA,aA,aA,aA,aA,aA,aA,aA,aA,aA,aA,aA,aA,bT false,aA,aA,aA,aA,aA,aA,aA,aA,aA,aA,aA,aA,aA,aA,aA,aA,bg,bg,bg,jk {data:=#[]},bg,bg,bg] 213=eO Ib.ay 213:=rfl
def kSl:pK 213 42 Ib.ay:=⟨⟨_,uH,rfl⟩,by kernel_rfl,by kernel_rfl,Sl.r _⟩
@[go_sem ↓]theorem aKK(v:aB):cK 213 v=yY 213 v:=rfl
@[go_sem ↓]theorem aKL(v x:aB):eU 213 v x=zQ 213 v x:=rfl
@[go_sem]theorem aHC(W:ak)(b o:Nat)(h:vK W b o 42):(yY 213 (.c (some ⟨b,o,none⟩))).G ah W = .Y (.d (dO W b o 42)) W:=kSl.ld W b o h
@[go_sem]theorem aEC(W:ak)(c:Array aB)(x:Sl)(b:Nat)(hb:b=W.a.j)(hc:eB c=42):(zQ 213 (.c (some ⟨b,0,none⟩)) (.d x.ay)).G ah (W.alloc (.D c 213)) = .Y () (W.alloc (.D x.ay 213)):=kSl.stN W c x.ay b hb hc (Sl.r x) (Sl.dw x)
@[go_sem]theorem aHD(W:ak)(b o:Nat)(x:Sl)(h:W.K b o 42):(zQ 213 (.c (some ⟨b,o,none⟩)) (.d x.ay)).G ah W = .Y () (gX W b o x.ay):=kSl.st W b o x.ay h (Sl.r x) (Sl.dw x)
@[go_sem ↓]theorem aKM(ps:Array (Nat×aB)):fQ 213 ps=uW 213 ps:=rfl
def azK(w:ak)(fs:Array oh)(h:ah.k 213=some (.struct fs)):(iF (fun f=>Prod.mk f.X <$> sizeOf f.type) fs:Sem (Array (Nat×Nat))).G ah w = .Y #[(0,1),(1,41)] w:=by
 have e:=uH;rw[h]at e;cases e;show _=_
 kernel_rfl
@[go_sem]theorem aED(W:ak):(uW 213 #[]).G ah W = .Y (.d Ib.ay) W:=kSl.bd0 W _ uH ⟨_,azK W _ uH⟩
@[go_sem]theorem azL(W:ak)(adn:Bool)(rH:Fw):(uW 213 #[(0,.e adn),(1,.d (rH.ay))]).G ah W = .Y (.d (Sl.mk adn rH).ay) W:=kSl.bd W _ _ _ _ uH (azK W _ uH) (by
 refine vo (Sl.r _) ?_ ?_
 ·simp[r9,cZ,Fw.r]
 ·simp[rF,cZ,Sl.ay]<;>(simp only[<-Array.append_assoc];rfl))
structure Tk where
 key:Vector UInt8 16
 dS:Int
 count:Int
 ru:Option aT
 qC:Nat
 yK:Nat
def Tk.ay(x:Tk):Array aB:=jc x.key ++ #[.b .a x.dS,.b .a x.count,.a x.ru x.qC x.yK]
def Tk.r(x:Tk):x.ay.j=19:=by simp[Tk.ay,dN]
@[go_sem]theorem Tk.abY(x:Tk):x.ay.m 0 16=jc x.key:=by simp[Tk.ay,dD,dN,qB,uw]
@[go_sem]theorem Tk.OJ(x:Tk):x.ay[16]? = some (.b .a x.dS):=by simp[Tk.ay,aD,dN]
@[go_sem]theorem Tk.aew(x:Tk):x.ay[17]? = some (.b .a x.count):=by simp[Tk.ay,aD,dN]
@[go_sem]theorem Tk.yL(x:Tk):x.ay[18]? = some (.a x.ru x.qC x.yK):=by simp[Tk.ay,aD,dN]
def Tk.Rt(x:Tk)(v:Int):x.ay.c 17 (.b .a v)=({x with count:=v}:Tk).ay:=by simp[Tk.ay,aM,dN]
def akk:Tk:=⟨(bJ 16 0),0,0,none,0,0⟩
@[go_sem]theorem azM:cB #[aA,aA,aA,aA,aA,aA,aA,aA,aA,aA,aA,aA,aA,aA,aA,aA,bg,bg,bC none 0 0]=cB akk.ay:=rfl
@[go_sem]theorem avw:eO #[aA,aA,aA,aA,aA,aA,aA,aA,aA,aA,aA,aA,aA,aA,aA,aA,bg,bg,bC none 0 0] 207=eO akk.ay 207:=rfl
def kTk:pK 207 19 akk.ay:=⟨⟨_,Em,rfl⟩,by kernel_rfl,by kernel_rfl,Tk.r _⟩
@[go_sem ↓]theorem aKO(v:aB):cK 207 v=yY 207 v:=rfl
@[go_sem ↓]theorem aKP(v x:aB):eU 207 v x=zQ 207 v x:=rfl
@[go_sem ↓]theorem aKQ(ps:Array (Nat×aB)):fQ 207 ps=uW 207 ps:=rfl
def aEE(w:ak)(fs:Array oh)(h:ah.k 207=some (.struct fs)):(iF (fun f=>Prod.mk f.X <$> sizeOf f.type) fs:Sem (Array (Nat×Nat))).G ah w = .Y #[(0,16),(16,1),(17,1),(18,1)] w:=by
 have e:=Em;rw[h]at e;cases e;show _=_
 kernel_rfl
def wH:Option Fw->Sl
 | none=>Ib
 | some f=>⟨true,f⟩
def J6(o:Option Fw):(wH o).adn=o.isSome:=by cases o<;>rfl
def slC(o:Option Fw):Array aB:=(wH o).ay
def FP(o:Option Fw):(slC o).j=42:=Sl.r _
section
attribute [local go_sem high] jd jL
def uD(w:ak):∃(T:Type)(f:T->ak)(n0:T),f n0=w.drew/\(∀n,aL w.a.j w (f n))/\(∀W,aL w.a.j w W->∃n,W=f n):=Cc (aL w.a.j w) w (aG _ _).drew
def aex(n:Nat)(z:Int)(hz:z=n)(hn:n<=4)(p:Nat)(s:S4)(hs:s.Y)(W:ak)(hb:dM W p s.ay):aP ah 183 #[.c (some ⟨p,0,none⟩),.b .a z] W fun e W'=>e=.a (.I #[])/\dM W' p (zU Ll n s).ay/\W.d W' (some p):=by subst hz;exact afM n hn p s hs W hb
theorem aey(p:Nat)(s:S4)(n:Nat)(hs:s.Y)(hn:n<18446744073709551616)(W:ak)(hb:dM W p s.ay):aP ah 182 #[.c (some ⟨p,0,none⟩),.b .c n] W fun e W'=>e=.a (.I #[])/\dM W' p (Vu s n).ay/\W.d W' (some p):=by
 obtain⟨a,b,c,d⟩:=s;have HS:=ab hs;obtain⟨y1,y2,y3,y4,y5⟩:=hb.num;simp only[S4.Y]at hs y1 y2 y3 y4;have e1:=qp d n hs.2.2.2 hn;have OK1:=ab (ahH HS.i hn);have X1:=ab (hb.p3 (d ^^^ n));have G1:=ab (xZ (ahG W (some p)) (p:=⟨p,3,none⟩) (.a rfl) (.b .c (d ^^^ n:Nat)));have OK2:=ab (NV 2 _ OK1.i);have C:=ab (aex 2 2 rfl (by omega) p (al1 ⟨a,b,c,d⟩ n) OK1.i _ X1.i);have HW:=ab (show Vu ⟨a,b,c,d⟩ n=atO (zU Ll 2 (al1 ⟨a,b,c,d⟩ n)) n from rfl);obtain⟨t,ht⟩:=bZ (zU Ll 2 (al1 ⟨a,b,c,d⟩ n));rw[<-ht]at OK2 C HW;have HN:=ab hn;obtain⟨ta,tb,tc,td⟩:=t;have e2:=qp ta n OK2.i.1 hn;clear ht hs hb hn;rw[HW.i];go_enter Tryz.func182,Tryz.ntmps182;go_wp2_with (go_at_call 183;go_loud (with_reducible refine C.i.e ?_);rintro e w2 ⟨rfl,hb2,hg2⟩;obtain⟨z1,z2,z3,z4,z5⟩:=hb2.num;have zz:=z5 0;have X2:=ab hb2;have G2:=ab hg2;clear hb2 hg2);go_end0;exact⟨rfl,X2.i.p0 _,xZ (Ns G1.i G2.i) (p:=⟨p,0,none⟩) (.a rfl) _⟩
theorem anJ{W:ak}{q:Nat}{k:Vector UInt8 16}(h:dM W q (jc k))(o m:Nat)(ho:o+m<=16):gu W W.a.j (some ⟨q,o,none⟩) m ((k.a.f o).d m):=by
 refine⟨by simp;omega,fun _=>⟨_,rfl,h.lt,fun j u hu=>?_⟩⟩;have hj:j<m:=by
  rcases aZ j m with hj|hj
  ·exact hj
  ·rw[aS (by simp;omega)]at hu;cases hu
 rw[iJ,h.J.1,<-hu];simp[jc,jr,hj,jq]
theorem kS4:pK 280 4 (S4.mk 0 0 0 0).ay:=⟨⟨_,Eo,rfl⟩,by kernel_rfl,by kernel_rfl,rfl⟩
@[go_sem ↓]theorem aKS(ps:Array (Nat×aB)):fQ 280 ps=uW 280 ps:=rfl
theorem aEF(w:ak)(fs:Array oh)(h:ah.k 280=some (.struct fs)):(iF (fun f=>Prod.mk f.X <$> sizeOf f.type) fs:Sem (Array (Nat×Nat))).G ah w = .Y #[(0,1),(1,1),(2,1),(3,1)] w:=by
 have e:=Eo;rw[h]at e;cases e;show _=_
 kernel_rfl
@[go_sem]theorem azN(W:ak)(a b c d:Nat):(uW 280 #[(0,.b .c a),(1,.b .c b),(2,.b .c c),(3,.b .c d)]).G ah W = .Y (.d (S4.mk a b c d).ay) W:=kS4.bd W _ _ _ _ Eo (aEF W _ Eo) (by
 refine vo rfl ?_ ?_
 ·simp[r9,cZ,S4.ay]
 ·simp[rF,cZ,S4.ay])
theorem aez(x y:Nat)(hx:x<256)(hy:y<72057594037927936):bits .or .c ((x*72057594037927936:Nat):Int) (y:Int)=((y+x*72057594037927936:Nat):Int):=by
 rw[bits_or_u64_nat _ _ (by omega) (by omega)];congr 1;have h:=Nat.two_pow_add_eq_or_of_lt (i:=56) (b:=y) (by simpa using hy) x;rw[show(2:Nat)^56=72057594037927936 by decide,DF]at h;omega
theorem avx{W:ak}{q:Nat}{k:Vector UInt8 16}(h:dM W q (jc k)):aP ah 180 #[.a (some ⟨q,0,none⟩) 8 16,.e false] W (fT W (.b .c (leN (k.a.d 8)))):=by
 have:=MI _ 8 16 _ W (by omega) (by omega) (anJ h 0 8 (by omega));rw[lH,vX]at this;exact this
theorem avy{W:ak}{q:Nat}{k:Vector UInt8 16}(h:dM W q (jc k)):aP ah 180 #[.a (some ⟨q,8,none⟩) 8 8,.e false] W (fT W (.b .c (leN (k.a.f 8)))):=by
 have:=MI _ 8 8 _ W (by omega) (by omega) (anJ h 8 8 (by omega));rw[vX]at this;have e:(k.a.f 8).d 8=k.a.f 8:=aJ (by simp);rw[show min 8 8=8 from rfl,e]at this;exact this
theorem Ov.go{W W':ak}{l:List Yj}{bss:List (List UInt8)}(h:Ov W W.a.j l bss)(hb:aL W.a.j W W'):Ov W' W'.a.j l bss:=⟨h.1,fun i hi=>((h.2 i hi).M hb).lN hb.j⟩
theorem akl(l:List Yj)(bss:List (List UInt8))(A:Option aT)(n c:Nat)(w:ak)(hR:RdS w w.a.j A n l)(hH:Ov w w.a.j l bss)(hn:n<=1000)(hs:yV l<=1000000000)(bs:List UInt8)(m:Nat)(hbs:bss.flatten=bs)(hm:bs.a=m):
 aP ah 181 #[.a A n c] w fun e w'=>∃A1 c1,e=.a (.a A1 m c1)/\(m<=c1/\c1<=maxLen)/\gu w' w'.a.j A1 m bs/\(∀a,A1=some a->w.a.j<=a.block)/\aL w.a.j w w':=by
 subst hbs hm;refine(MO l bss A n c w hR hH hn hs).e ?_;rintro e w' ⟨v,rfl,ho,hb⟩;obtain⟨A1,c1,rfl,h1,h2⟩:=jG ho;exact⟨A1,c1,rfl,⟨h1,h2⟩,gu.iG ho,fun a ha=>(ho.lt a.block (by rw[ha];rfl)).1,hb⟩
def Yn(s:S4)(l:List UInt8)(e:Nat):Nat:=al3 ((Qy (l.a/8) l e).foldl Vu s)
theorem akm(s:S4)(l:List UInt8)(e:Nat)(h:8<=l.a):Yn s l e=Yn (Vu s (leN (l.d 8))) (l.f 8) e:=by
 unfold Yn;rw[show l.a/8=(l.f 8).a/8+1 by rw[jF];omega,Qy,j3]
theorem akn(s:S4)(l:List UInt8)(e:Nat)(h:l.a<8):Yn s l e=al3 (Vu s (leN l+e*72057594037927936)):=by
 unfold Yn;rw[show l.a/8=0 by omega];rfl
theorem ZL(key:Vector UInt8 16)(l:List Yj)(bss:List (List UInt8))(A:Option aT)(n c:Nat)(w:ak)(hR:RdS w w.a.j A n l)(hH:Ov w w.a.j l bss)(hn:n<=1000)(hs:yV l<=100000000)(bs:List UInt8)(hbs:bss.flatten=bs)(hl:bs.a<=100000000):
 aP ah 97 #[.d (jc key),.a A n c] w (fT w (.b .c (yw key bs))):=by
 obtain⟨m,hm⟩:=rT bs.a;have HM:=ab hm;have HBS:=ab hbs;have HT:=ab (show yw key bs=Yn (apN key) bs (bs.a%256)from rfl);rw[hm]at hl HT;clear hm hbs;have HR:=ab hR;have HH:=ab hH;have Z0:=ab ((Bx.start w).new (jc key) 22);clear hR hH;go_enter Tryz.func97,Tryz.ntmps97;go_upto_region 1 with fail
 generalize w.alloc (.D (jc key) 22)=w1 at Z0 ⊢;obtain⟨k0,hk0⟩:∃k,k=leN (key.a.d 8):=⟨_,rfl⟩
 obtain⟨k1,hk1⟩:∃k,k=leN (key.a.f 8):=⟨_,rfl⟩
 have HS:=ab (show apN key=⟨k0 ^^^ 8317987319222330741,k1 ^^^ 7237128888997146477,k0 ^^^ 7816392313619706465,k1 ^^^ 8387220255154660723⟩by rw[hk0,hk1];rfl);have b0:k0<18446744073709551616:=by rw[hk0];exact KQ _ (by simp)
 have b1:k1<18446744073709551616:=by rw[hk1];exact KQ _ (by simp)
 have Dt:=ab (ahI key);obtain⟨T,f,n0,E0,es,ew⟩:=uD (w1);have hT:Nonempty T:=⟨n0⟩
 have ES:=ab es;have EW:=ab ew;have C0:=ab (fun m=>avx (Z0.i.go (es m)).R);have C1:=ab (fun m=>avy (Z0.i.go (es m)).R);rw[<-hk0]at C0;rw[<-hk1]at C1;clear es ew;refine lQ f (by kernel_rfl) (by kernel_rfl) n0 E0 ?_
 repeat(go_big_quiet_step ((first|(go_at_call 180;(with_reducible refine(C0.i _).e ?_);rintro e w2 ⟨rfl,hb⟩;exact⟨rfl,EW.i _ ((ES.i _).trans (hb.e (ES.i _).j))⟩)|(go_at_call 180;(with_reducible refine(C1.i _).e ?_);rintro e w2 ⟨rfl,hb⟩;exact⟨rfl,EW.i _ ((ES.i _).trans (hb.e (ES.i _).j))⟩))))
 refine eG ?_;rintro _ ⟨m',rfl⟩;have HB:=ab (ES.i m');generalize f m'=wN at *;clear ES EW E0 hT n0;have Z1:=ab (Z0.i.go HB.i);clear HB C0 C1 hk0 hk1 Z0;have x0:bits .xor .c (k0:Int) 8317987319222330741=((k0 ^^^ 8317987319222330741:Nat):Int):=qp k0 8317987319222330741 b0 (by decide);have x1:bits .xor .c (k1:Int) 7237128888997146477=((k1 ^^^ 7237128888997146477:Nat):Int):=qp k1 7237128888997146477 b1 (by decide);have x2:bits .xor .c (k0:Int) 7816392313619706465=((k0 ^^^ 7816392313619706465:Nat):Int):=qp k0 7816392313619706465 b0 (by decide);have x3:bits .xor .c (k1:Int) 8387220255154660723=((k1 ^^^ 8387220255154660723:Nat):Int):=qp k1 8387220255154660723 b1 (by decide);obtain⟨S,hS⟩:=bZ (S4.mk (k0 ^^^ 8317987319222330741) (k1 ^^^ 7237128888997146477) (k0 ^^^ 7816392313619706465) (k1 ^^^ 8387220255154660723));go_upto_region 3 with fail
 rw[<-hS]at HS ⊢;rw[HS.i]at Dt;have Z2:=ab (Z1.i.new S.ay 280);have HPW:=ab Z1.i.O.j;clear hS x0 x1 x2 x3 b0 b1;generalize wN.alloc (.D S.ay 280)=w3 at Z2 ⊢;generalize wN.a.j=p at *;have HP3:=ab Z2.i.R.lt;have CC:=ab (akl l bss A n c w3 (Z2.i.rdR HR.i) (HH.i.go Z2.i.O) hn (by omega) bs m HBS.i HM.i);go_upto_region 4 with(go_at_call 181;(with_reducible refine CC.i.e ?_);rintro e w4 ⟨A1,c1,rfl,hc1,hrd,hbk,hb⟩;have RD:=ab hrd;have HC1:=ab hc1;have HBK:=ab hbk;have Z4:=ab (Z2.i.go hb);clear hrd hb hc1 hbk)
 clear CC Z2;have v1:gB.d (m:Int)=m:=by rw[jh];omega
 have v2:gB.d ((m:Int)*72057594037927936)=((m%256*72057594037927936:Nat):Int):=by rw[jh];omega
 obtain⟨e8,he8⟩:∃e,e=m%256:=⟨_,rfl⟩
 rw[<-he8]at v2 HT;have he9:e8<256:=by omega
 rw[HS.i]at HT;obtain⟨eN,heN⟩:∃e,e=e8*72057594037927936:=⟨_,rfl⟩
 rw[<-heN]at v2;have HEN:=ab heN;clear he8 heN;go_wp2;go_loopw [8] (fun s8 wr=>∃(A':Option aT)(m' c':Nat)(s:S4)(l':List UInt8),s8=.a A' m' c'/\(m'<=c'/\c'<=maxLen/\m'<=m)/\s.Y/\dM wr p s.ay/\gu wr wr.a.j A' m' l'/\(∀a,A'=some a->a.block≠p)/\Yn S bs e8=Yn s l' e8/\aL w.a.j w wr) (fun s8 _=>asB s8)
 case atStart=>exact⟨A1,m,c1,S,bs,rfl,⟨HC1.i.1,HC1.i.2,av _⟩,Dt.i,Z4.i.R,RD.i,fun a ha=>by have:=HBK.i a ha;have:=HP3.i;omega,rfl,Z4.i.O⟩
 case round=>
  obtain⟨A',m',c',s,l',rfl,⟨hmc,hcc,hmm⟩,hok,hbx,hrd,hne,hst,hbl⟩:=hrel;have aq4:=ab hok;have HBX:=ab hbx;have HRD:=ab hrd;have HNE:=ab hne;have HST:=ab hst;have EP:=ab hbl;have K8:=ab hrd.len;have C1:=ab (MI A' m' c' l' wr hmc (by unfold maxLen at hcc;omega) hrd);clear hok hbx hrd hne hst hbl;by_cases h8:8<=m'
  ·have h8i:(8:Int)<=m':=by omega
   obtain⟨x,hx⟩:=bZ (leN (l'.d 8));have HXL:=ab (show x<18446744073709551616 by rw[hx];exact KQ _ (by simp;omega));have HX:=ab hx;rw[<-hx]at C1;clear hx;go_wp2_with (first|(go_at_call 180;(with_reducible refine C1.i.e ?_);rintro e w5 ⟨rfl,hb⟩;have C2:=ab (aey p s x aq4.i HXL.i w5 (HBX.i.go hb));have R5:=ab (HRD.i.upon hb);have L5:=ab (EP.i.trans (hb.e EP.i.j));clear hb)|(go_at_call 182;go_loud (with_reducible refine C2.i.e ?_);rintro e w6 ⟨rfl,hb6,hg6⟩;have B6:=ab hb6;have R6:=ab ((gu.aua (w:=w5) R5.i hg6 (fun a ha e=>HNE.i a ha (Option.some.inj e))).lN hg6.j);have L6:=ab (sS L5.i hg6 HPW.i L5.i.j);clear hb6 hg6));go_roundw
   case rel=>exact⟨_,_,_,Vu s x,l'.f 8,rfl,⟨by omega,by omega,by omega⟩,aaV aq4.i HXL.i,B6.i,R6.i.yX h8 hmc,fun a ha=>by
    unfold vQ at ha;split at ha
    ·exact HNE.i a ha
    ·cases hA:A' with
     | none=>rw[hA]at ha;cases ha
     | some a0=>rw[hA]at ha;injection ha with ha;rw[<-ha];exact HNE.i a0 hA,by rw[HST.i,akm _ _ _ (by rw[K8.i];exact h8),HX.i],L6.i⟩
   case measure=>simp[asB];omega
  ·have h8i:¬(8:Int)<=m':=by omega
   obtain⟨y,hy⟩:=bZ (leN l');have hy2:l'.d 8=l':=aJ (by rw[K8.i];omega);have hy3:y<72057594037927936:=by
    have h1:=afN l';have h2:256^l'.a<=256^7:=Nat.pow_le_pow_right (by omega) (by rw[K8.i];omega);omega
   rw[hy2,<-hy]at C1;have HF:=ab (show Yn S bs e8=al3 (Vu s (y+e8*72057594037927936))by rw[HST.i,akn _ _ _ (by rw[K8.i];omega),<-hy]);have o1:=aez e8 y he9 hy3;rw[<-HEN.i]at o1 HF;obtain⟨z,hz⟩:=bZ (y+eN);have HZL:=ab (show z<18446744073709551616 by have:=HEN.i;omega);rw[<-hz]at o1 HF;obtain⟨t,ht⟩:=bZ (Vu s z);have HTK:=ab (show t.Y by rw[ht];exact aaV aq4.i HZL.i);have HT2:=ab ht;rw[<-ht]at HF;obtain⟨u,hu⟩:=bZ (zU Ll 4 (al2 t 255));have HUK:=ab (show u.Y by rw[hu];exact NV 4 _ (aaU HTK.i (by decide)));have HU:=ab hu;have HFU:=ab (show Yn S bs e8=atP u by rw[HF.i,hu];rfl);have x2:bits .xor .c (t.c:Int) 255=((t.c ^^^ 255:Nat):Int):=qp t.c 255 HTK.i.2.2.1 (by decide);clear hy hy2 hz ht hu hy3;go_upto_region 9 with(first|(go_at_call 180;(with_reducible refine C1.i.e ?_);rintro e w5 ⟨rfl,hb⟩;have C2:=ab (HT2.i ▸ aey p s z aq4.i HZL.i w5 (HBX.i.go hb));have L5:=ab (EP.i.trans (hb.e EP.i.j));clear hb)|(go_at_call 182;(with_reducible refine C2.i.e ?_);rintro e w6 ⟨rfl,hb6,hg6⟩;have B6:=ab hb6;have L6:=ab (sS L5.i hg6 HPW.i L5.i.j);clear hb6 hg6))
   obtain⟨y1,y2,y3,y4,y5⟩:=B6.i.num;have f2:=y5 2;have X9:=ab (show dM (w6.F ⟨p,2,none⟩ (.b .c (t.c ^^^ 255:Nat))) p (al2 t 255).ay from B6.i.p2 (t.c ^^^ 255));have L9:=ab (L6.i.F (p:=⟨p,2,none⟩) HPW.i (.b .c (t.c ^^^ 255:Nat)));go_upto_region 10 with fail
   clear y1 y2 y3 y4 y5 f2 x2 o1 B6 L6;generalize w6.F ⟨p,2,none⟩ (.b .c (t.c ^^^ 255:Nat))=w7 at X9 L9 ⊢;have C4:=ab (HU.i ▸ aex 4 4 rfl (by omega) p (al2 t 255) (aaU HTK.i (by decide)) w7 X9.i);go_upto_region 11 with(go_at_call 183;go_loud (with_reducible refine C4.i.e ?_);rintro e w8 ⟨rfl,Yz,hg8⟩;have B8:=ab Yz;have L8:=ab (sS L9.i hg8 HPW.i L9.i.j);clear Yz hg8)
   obtain⟨u1,u2,u3,u4⟩:=u;obtain⟨y1,y2,y3,y4,y5⟩:=B8.i.num;simp only at y1 y2 y3 y4;have o2:=qp u1 u2 HUK.i.1 HUK.i.2.1;have o3:=qp (u1 ^^^ u2) u3 (yu _ _ HUK.i.1 HUK.i.2.1) HUK.i.2.2.1;have o4:=qp (u1 ^^^ u2 ^^^ u3) u4 (yu _ _ (yu _ _ HUK.i.1 HUK.i.2.1) HUK.i.2.2.1) HUK.i.2.2.2;go_quiet (fail);have L10:=ab (eH L8.i nq);go_wp2;go_ret;refine⟨?_,L10.i⟩;rw[HT.i,HFU.i];rfl
end
section
def Xb(s:List (Option Fw)):Array aB:=(s.h fun o=>(slC o).a).c
theorem Xc(o:Option Fw)(s:List (Option Fw)):Xb (o::s)=slC o++Xb s:=by
 simp[Xb,jl]
theorem vE(s:List (Option Fw)):(Xb s).j=s.a*42:=by
 induction s with
 | nil=>rfl
 | cons o s ih=>rw[Xc,ou,ih,FP,bD];omega
theorem K9:∀(s:List (Option Fw))(i j:Nat),i<s.a->j<42->(Xb s)[i*42+j]? = (slC (fH s i))[j]?
 | [],i,j,hi,_=>by simp at hi
 | o::s,0,j,_,hj=>by
   rw[Xc,Nat.zero_mul,bl,aD,if_pos (by rw[FP];exact hj)];rfl
 | o::s,i+1,j,hi,hj=>by
   rw[Xc,aD,if_neg (by rw[FP];omega),FP,show(i+1)*42+j-42=i*42+j by omega];exact K9 s i j (by simpa using hi) hj
theorem Ru(s:List (Option Fw))(i k m:Nat)(hi:i<s.a)(hm:k+m<=42)(c:Array aB)(hc:(slC (fH s i)).m k (k+m)=c):(Xb s).m (i*42+k) (i*42+k+m)=c:=by
 rw[<-hc];have h1:=vE s;have h2:=FP (fH s i);have h3:(i+1)*42<=s.a*42:=dz 42 hi;apply dZ;intro j;rw[dA,dA];by_cases hj:j<m
 ·rw[if_pos (by omega),if_pos (by omega),nP,K9 s i (k+j) hi (by omega)]
 ·rw[if_neg (by omega),if_neg (by omega)]
theorem anK(s:List (Option Fw))(i:Nat)(hi:i<s.a):(Xb s).m (i*42) (i*42+42)=(wH (fH s i)).ay:=Ru s i 0 42 hi (by omega) _ (Sl.all _)
theorem anL(s:List (Option Fw))(i:Nat)(hi:i<s.a):(Xb s).m (i*42+1) (i*42+1+41)=(wH (fH s i)).rH.ay:=Ru s i 1 41 hi (by omega) _ (Sl.UN _)
theorem aq7(s:List (Option Fw))(i:Nat)(hi:i<s.a):(Xb s).m (i*42+1) (i*42+1+37)=(wH (fH s i)).rH.key.ay:=by
 refine Ru s i 1 37 hi (by omega) _ ?_;show(Sl.ay _).m 1 38=_;simp[Sl.ay,Fw.ay,dD,Tu.r,qB (Tu.r _),uw]
theorem anM(s:List (Option Fw))(i:Nat)(hi:i<s.a):(Xb s)[i*42]? = some (.e (fH s i).isSome):=by
 have:=K9 s i 0 hi (by omega);rw[mW]at this;rw[this];show(wH (fH s i)).ay[0]? = _;rw[Sl.PE,J6]
theorem UO(s:List (Option Fw))(i:Nat)(o:Option Fw)(hi:i<s.a):sV (Xb s) (i*42) (slC o)=Xb (s.set i o):=by
 apply dZ;intro j;rw[EU,vE,FP];have h3:(i+1)*42<=s.a*42:=dz 42 hi;by_cases hj:j<s.a*42
 ·have e:j=j/42*42+j%42:=by omega
  have hq:j/42<s.a:=by omega
  have h4:(Xb (s.set i o))[j]? = (slC (fH (s.set i o) (j/42)))[j%42]?:=by
   conv=>lhs;rw[e]
   exact K9 _ _ _ (by simpa using hq) (by omega)
  have h5:(Xb s)[j]? = (slC (fH s (j/42)))[j%42]?:=by
   conv=>lhs;rw[e]
   exact K9 _ _ _ hq (by omega)
  rw[h4,h5,GK _ _ _ _ hi];by_cases hc:i*42<=j/\j<i*42+42
  ·rw[if_pos ⟨hc.1,hc.2,hj⟩,if_pos (by omega)]
   congr 1;omega
  ·rw[if_neg (by omega),if_neg (by omega)]
 ·rw[if_neg (by omega),aU (by rw[vE];omega),aU (by rw[vE];simp;omega)]
structure Gl(W:ak)(q g:Nat)(key:Vector UInt8 16)(dS:Int)(s:List (Option Fw)):Prop where
 h:dM W q (Tk.mk key dS (iA s).a (some ⟨g,0,none⟩) s.a s.a).ay
 sl:dM W g (Xb s)
 ne:q≠g
 sz:0<s.a/\s.a<=100000
variable {W W':ak} {q g:Nat} {key:Vector UInt8 16} {dS:Int} {s:List (Option Fw)}
theorem Gl.go(h:Gl W q g key dS s)(hb:aL W.a.j W W'):Gl W' q g key dS s:=⟨h.h.go hb,h.sl.go hb,h.ne,h.sz⟩
theorem Gl.alloc(h:Gl W q g key dS s)(ob:Obj):Gl (W.alloc ob) q g key dS s:=h.go ((aG _ _).alloc (av _) _)
theorem Gl.drew(h:Gl W q g key dS s):Gl W.drew q g key dS s:=⟨h.h.drew,h.sl.drew,h.ne,h.sz⟩
theorem Gl.drewN(h:Gl W q g key dS s)(n:Nat):Gl (W.drewN n) q g key dS s:=⟨h.h.drewN n,h.sl.drewN n,h.ne,h.sz⟩
theorem Gl.Xd(h:Gl W q g key dS s){i:Nat}(hi:i<s.a):W.b ⟨g,i*42,none⟩=some (.e (fH s i).isSome)/\dO W g (i*42) 42=(wH (fH s i)).ay/\dO W g (i*42+1) 41=(wH (fH s i)).rH.ay/\dO W g (i*42+1) 37=(wH (fH s i)).rH.key.ay/\vK W g (i*42) 42/\vK W g (i*42+1) 41/\vK W g (i*42+1) 37:=by
 obtain⟨h1,h2,h3,h4⟩:=h.sl.J;have hs:=vE s;have hm:(i+1)*42<=s.a*42:=dz 42 hi;have hh:∀o n,o+n<=s.a*42->vK W g o n:=fun o n hn=>by rw[h3 o n (by unfold eB;omega)];trivial
 refine⟨by rw[h1,anM s i hi],?_,?_,?_,hh _ _ (by omega),hh _ _ (by omega),hh _ _ (by omega)⟩
 ·rw[h4 _ _ (by unfold eB;omega),anK s i hi]
 ·rw[h4 _ _ (by unfold eB;omega),anL s i hi]
 ·rw[h4 _ _ (by unfold eB;omega),aq7 s i hi]
theorem Gl.J(h:Gl W q g key dS s):W.b ⟨q,18,none⟩=some (.a (some ⟨g,0,none⟩) s.a s.a)/\W.b ⟨q,17,none⟩=some (.b .a (iA s).a)/\W.b ⟨q,16,none⟩=some (.b .a dS)/\(∀j,W.frozen? ⟨q,j,none⟩=false)/\dO W q 0 16=jc key/\vK W q 0 16:=by
 obtain⟨h1,h2,h3,h4⟩:=h.h.J;refine⟨(h1 18).trans (Tk.yL _),(h1 17).trans (Tk.aew _),(h1 16).trans (Tk.OJ _),h2,?_,?_⟩
 ·rw[h4 0 16 (by unfold eB;rw[Tk.r];omega)];exact Tk.abY _
 ·rw[h3 0 16 (by unfold eB;rw[Tk.r];omega)];trivial
def hmK(key:Vector UInt8 16)(N:Nat)(k:Tu):Nat:=yw key (GH k)%N
end
section
open Go.RowKit Go.Shelf
attribute [local go_sem] qK
theorem pR.BF(x:pR):x.ay.j=2:=by simp[pR.ay]
theorem pR.aeB(x:pR):x.ay.all (·.h)=true:=by simp[pR.ay,dx]
@[go_sem]theorem pR.aEH(x:pR):eB x.ay=2:=pR.BF x
@[go_sem]theorem pR.aEI(x:pR):x.ay.m 0 2=x.ay:=by have:=pR.BF x;rw[<-this];simp
@[go_sem]theorem pR.Ea(x:pR):x.ay[0]? = some (.g (bP x.E)):=rfl
@[go_sem]theorem pR.aq8(x:pR):x.ay[1]? = some (.b .a x.q):=rfl
def lJ:pR:=⟨[],0⟩
instance:Inhabited pR:=⟨lJ⟩
@[go_sem]theorem aq9:eO #[jk {data:=#[]},aI bU 0] 151=eO lJ.ay 151:=rfl
theorem avB:pK 151 2 lJ.ay:=⟨⟨_,Tryz.underlying151,rfl⟩,by kernel_rfl,by kernel_rfl,rfl⟩
@[go_sem ↓]theorem aHI(v:aB):cK 151 v=yY 151 v:=rfl
@[go_sem ↓]theorem aHJ(v x:aB):eU 151 v x=zQ 151 v x:=rfl
@[go_sem]theorem avC(W:ak)(b o:Nat)(h:vK W b o 2):(yY 151 (.c (some ⟨b,o,none⟩))).G ah W = .Y (.d (dO W b o 2)) W:=avB.ld W b o h
@[go_sem]theorem aB0(W:ak)(c:Array aB)(x:pR)(b:Nat)(hb:b=W.a.j)(hc:eB c=2):(zQ 151 (.c (some ⟨b,0,none⟩)) (.d x.ay)).G ah (W.alloc (.D c 151)) = .Y () (W.alloc (.D x.ay 151)):=avB.stN W c x.ay b hb hc rfl (pR.aeB x)
@[go_sem]theorem avD(w:ak)(x:pR):(ams 1 #[(0,.d x.ay)]).G ah w = .Y (.a (some ⟨w.a.j,0,none⟩) 1 1) (w.alloc (.D x.ay 151)):=ajt w x.E x.q
theorem pR.r(x:pR):x.ay.j=2:=rfl
theorem pR.dw(x:pR):x.ay.all (·.h)=true:=pR.aeB x
theorem kE{W:ak}{b:Nat}{x:Fw}(h:dM W b x.ay):(ML (.c (some ⟨b,0,none⟩))).G ah W = .Y (.d x.ay) W:=by
 have hs:eB x.ay=41:=Fw.r x;rw[abn W b 0 (of_eq_true (h.J.2.2.1 0 41 (by omega))),h.J.2.2.2 0 41 (by omega),bl,Fw.kD]
theorem Xe{W:ak}{b:Nat}{x:pR}(h:dM W b x.ay):(yY 151 (.c (some ⟨b,0,none⟩))).G ah W = .Y (.d x.ay) W:=by
 have hs:eB x.ay=2:=rfl;rw[avC W b 0 (of_eq_true (h.J.2.2.1 0 2 (by omega))),h.J.2.2.2 0 2 (by omega),bl,pR.aEI]
theorem Xf(F:LC)(n:Nat)(h3:F.fn 266)(hro:F.round=none)(hn:3<=n)(gf:Nat)(lb:Array aB)(hgf:F.fn gf)(eg:∀args w,(callFunc gf args).G ah w = .Y (.enter gf args) w)(S Sp:List Fw->Prop)(N:Nat)(hN:N<=100000)(w:ak)
 (hseq:vZ F (n-1) ah gf lb (fun x:Fw=>#[cB x.ay]) (aL w.a.j) S Sp N w) :
 Nn F n ah 266 #[.a none 0 0,.func (.func gf) #[] lb] w fun e W'=>
  ∃ys,S ys/\∃A' c',e=.a (.a A' ys.a c')/\W'.c w.a.j 86 41 (.a A' ys.a c') ys.a (ys.h fun x=>x.ay.a)/\aL w.a.j w W':=by
 have h1:1<=n:=by omega
 obtain⟨i0,hi,hz0,hz1,hzb⟩:=agj;refine rO Tryz.func266 rfl h3 ?_ hro;simp only[Tryz.ntmps266,dL,bD,gP,kT,kU,gH,gI,iT,gU,dH,gW];gi_wp2;have bO:=Boxed.new w 34 (.a none 0 0);have hB0:aL w.a.j w (w.alloc (.D #[.a none 0 0] 34)):=(aG _ w).alloc (av _) _;have hs0:(w.alloc (.D #[.a none 0 0] 34)).a.j=w.a.j+1:=by simp
 generalize w.alloc (.D #[.a none 0 0] 34)=W0 at bO hB0 hs0 ⊢;refine yS hro h1 (gf:=gf) (lb:=lb) rfl hgf eg hseq (fun h k=>Below.trans h k) (vT (by omega)) hB0 (fun _=>rfl)
  (fun(pre:List Fw) W=>(∃v,Boxed W w.a.j 34 v/\W.c w.a.j 86 41 v pre.a (pre.h fun x=>x.ay.a)/\True)/\aL w.a.j w W)
  (fun _ _ _=>False)
  (OwnFrom.and (Own.from (holdsRow_own w.a.j w.a.j 34 86 41 (fun pre:List Fw=>pre.a) (fun pre:List Fw=>pre.h fun x=>x.ay.a) (fun _ _=>True)) _) (zo (av _) (by omega)))
  (fun _ _ _ _ _ hs _ _=>hs)
  ⟨⟨_,bO,fu _ _ _ _,trivial⟩,hB0⟩
  (fun x a' W=>∃Bq,w.a.j<Bq/\dM W Bq x.ay/\a'={tmps:=#[.a none 0 0,.func (.func gf) #[] lb,.c (some ⟨w.a.j,0,none⟩),undef,.a none 0 0,.c (some ⟨Bq,0,none⟩),.func (.func gf) #[] lb,.d x.ay,undef,undef,undef,undef,undef],defers:=[]})
  (fun x a' _ X Y row hs hg hr=>by obtain⟨Bq,h1,h2,h3⟩:=hs;exact⟨Bq,h1,zP Bq x.ay () X Y row h2 hg (fun r e=>(hr r e).2),h3⟩)
  ?assign ?body ?done ?stop
 case assign=>
  rintro q pre x W K ⟨⟨v,hv,hrow,_⟩,hB⟩ hK;gi_wp2;refine hK _ _ ((xL _ _).from _) ((aG _ W).alloc hB.j _) ⟨⟨v,hv.alloc _,hrow.alloc _,trivial⟩,hB.alloc hB.j _⟩ ⟨W.a.j,hv.lt,dM.new W _ _,rfl⟩
 case body=>
  rintro q pre x a' W hq ⟨r,hr⟩ ⟨⟨v,hv,hrow,_⟩,hB⟩ ⟨Bq,hBq,bX,rfl⟩ hlt;have hcv:=hv.cell;have hld:=kE bX;have hby:(pre.a+1)*i0.bytes<=140737488355328:=aO (gY (show pre.a+1<=100002 by omega) hzb) (by omega);have HN1:=ab (show x.ay.a.a=1*41 by simp[Fw.r]);have HNC:=ab (fun(W:ak) (j:Nat) (u:aB) (hu:x.ay.a[j]? = some u)=>show(W.alloc (.D x.ay 86)).b ((⟨W.a.j,0,none⟩:aT).add j)=some u by
   rw[iJ,bl,lX,<-dG];exact hu)
  have Gy:=ab (show∀u∈x.ay.a,u.h=true from fun u hu=>by have:=Fw.dw x;rw[xW]at this;exact this u (by simpa using hu));gi_wp2_with (gi_at_builtin;refine ET _ rfl _ _ 34 rfl w.a.j 86 i0 (.d jw.ay) 41 i0.bytes Gb hi hz0 hz1 rfl (by simp[cZ,Fw.r]) (by decide) _ _ _ rfl (hrow.alloc _) ⟨W.a.j,0,none⟩ 1 1 x.ay.a rfl HN1.i (HNC.i W) Gy.i (by unfold maxLen;omega) hby (by have:=hB.j;simp;omega) ?_;intro v' w1 hown' hgrow _;obtain⟨g',cap',rfl⟩:=ownsRow_succ hown';obtain⟨hv1,hv2,hr2,hk2,hb2⟩:=hv.appended (by decide) hrow hB.j (av _) hown' hgrow;have hc1:=hv1.cell;have hf1:=hv1.frozen);exact⟨hk2.from _,hb2,⟨_,hv2,by rw[aR,xk];simpa using hr2,trivial⟩,hB.trans hb2⟩
 case done=>
  rintro D ys W hD hS ⟨⟨v,hv,hrow,_⟩,hB⟩ hK;have hcv:=hv.cell;gi_wp2;refine⟨by simp,.a ⟨_,_,rfl,uQ hK,?_⟩⟩;obtain⟨A',c',hv',_,_⟩:=jG hrow;refine⟨_,I9 rfl _ _ _,ys,hS,A',c',by rw[<-hv'];rfl,?_,hB.trans (vT (w:=w) (av _) W D _ _ (by omega) hK rfl rfl)⟩;rw[<-hv'];exact ownsRow_putObj hrow _ hK rfl
 case stop=>
  rintro D c pre W _ _ h _;exact h.elim
theorem Yo(gf:Nat)(lb:Array aB)(eg:∀args w,(callFunc gf args).G ah w = .Y (.enter gf args) w)(S Sp:List Fw->Prop)(N:Nat)(hN:N<=100000)(w:ak)(hseq:vZ nU 5 ah gf lb (fun x:Fw=>#[cB x.ay]) (aL w.a.j) S Sp N w):
 aP ah 201 #[.func (.func gf) #[] lb] w fun e W'=>
  ∃ys,S ys/\∃A' c',e=.a (.a A' ys.a c')/\W'.c w.a.j 86 41 (.a A' ys.a c') ys.a (ys.h fun x=>x.ay.a)/\aL w.a.j w W':=by
 have AP:=ab ((nJ (n:=6)).1 (Xf nU 6 trivial rfl (by omega) gf lb trivial eg S Sp N hN w hseq));clear hseq;go_enter Tryz.func201,Tryz.ntmps201;go_wp2_with fail;refine AP.i.e ?_;rintro e w1 ⟨ys,hS,A1,c1,rfl,ho,hb⟩;have HS:=ab hS;have HO:=ab ho;have HB:=ab hb;clear ho hb hS;obtain⟨m,hm⟩:=bZ ys.a;rw[<-hm]at HO ⊢;go_wp2;go_ret;subst hm;exact⟨ys,HS.i,A1,c1,rfl,HO.i,HB.i⟩
theorem Ul(F:LC)(n:Nat)(h3:F.fn 300)(hro:F.round=none)(hn:3<=n)(gf:Nat)(lb:Array aB)(hgf:F.fn gf)(eg:∀args w,(callFunc gf args).G ah w = .Y (.enter gf args) w)(S Sp:List pR->Prop)(N:Nat)(hN:N<=100000)(w:ak)
 (hseq:vZ F (n-1) ah gf lb (fun x:pR=>#[cB x.ay]) (aL w.a.j) S Sp N w) :
 Nn F n ah 300 #[.a none 0 0,.func (.func gf) #[] lb] w fun e W'=>
  ∃ys,S ys/\∃A' c',e=.a (.a A' ys.a c')/\W'.c w.a.j 151 2 (.a A' ys.a c') ys.a (ys.h fun x=>x.ay.a)/\aL w.a.j w W':=by
 have h1:1<=n:=by omega
 obtain⟨i0,hi,hz0,hz1,hzb⟩:=aa9;refine rO Tryz.func300 rfl h3 ?_ hro;simp only[Tryz.ntmps300,dL,bD,gP,kT,kU,gH,gI,iT,gU,dH,gW];gi_wp2;have bO:=Boxed.new w 75 (.a none 0 0);have hB0:aL w.a.j w (w.alloc (.D #[.a none 0 0] 75)):=(aG _ w).alloc (av _) _;have hs0:(w.alloc (.D #[.a none 0 0] 75)).a.j=w.a.j+1:=by simp
 generalize w.alloc (.D #[.a none 0 0] 75)=W0 at bO hB0 hs0 ⊢;refine yS hro h1 (gf:=gf) (lb:=lb) rfl hgf eg hseq (fun h k=>Below.trans h k) (vT (by omega)) hB0 (fun _=>rfl)
  (fun(pre:List pR) W=>(∃v,Boxed W w.a.j 75 v/\W.c w.a.j 151 2 v pre.a (pre.h fun x=>x.ay.a)/\True)/\aL w.a.j w W)
  (fun _ _ _=>False)
  (OwnFrom.and (Own.from (holdsRow_own w.a.j w.a.j 75 151 2 (fun pre:List pR=>pre.a) (fun pre:List pR=>pre.h fun x=>x.ay.a) (fun _ _=>True)) _) (zo (av _) (by omega)))
  (fun _ _ _ _ _ hs _ _=>hs)
  ⟨⟨_,bO,fu _ _ _ _,trivial⟩,hB0⟩
  (fun x a' W=>∃Bq,w.a.j<Bq/\dM W Bq x.ay/\a'={tmps:=#[.a none 0 0,.func (.func gf) #[] lb,.c (some ⟨w.a.j,0,none⟩),undef,.a none 0 0,.c (some ⟨Bq,0,none⟩),.func (.func gf) #[] lb,.d x.ay,undef,undef,undef,undef,undef],defers:=[]})
  (fun x a' _ X Y row hs hg hr=>by obtain⟨Bq,h1,h2,h3⟩:=hs;exact⟨Bq,h1,zP Bq x.ay () X Y row h2 hg (fun r e=>(hr r e).2),h3⟩)
  ?assign ?body ?done ?stop
 case assign=>
  rintro q pre x W K ⟨⟨v,hv,hrow,_⟩,hB⟩ hK;gi_wp2;refine hK _ _ ((xL _ _).from _) ((aG _ W).alloc hB.j _) ⟨⟨v,hv.alloc _,hrow.alloc _,trivial⟩,hB.alloc hB.j _⟩ ⟨W.a.j,hv.lt,dM.new W _ _,rfl⟩
 case body=>
  rintro q pre x a' W hq ⟨r,hr⟩ ⟨⟨v,hv,hrow,_⟩,hB⟩ ⟨Bq,hBq,bX,rfl⟩ hlt;have hcv:=hv.cell;have hld:=Xe bX;have hby:(pre.a+1)*i0.bytes<=140737488355328:=aO (gY (show pre.a+1<=100002 by omega) hzb) (by omega);have HN1:=ab (show x.ay.a.a=1*2 by simp[pR.r]);have HNC:=ab (fun(W:ak) (j:Nat) (u:aB) (hu:x.ay.a[j]? = some u)=>show(W.alloc (.D x.ay 151)).b ((⟨W.a.j,0,none⟩:aT).add j)=some u by
   rw[iJ,bl,lX,<-dG];exact hu)
  have Gy:=ab (show∀u∈x.ay.a,u.h=true from fun u hu=>by have:=pR.dw x;rw[xW]at this;exact this u (by simpa using hu));gi_wp2_with (gi_at_builtin;refine ET _ rfl _ _ 75 rfl w.a.j 151 i0 (.d #[.g ⟨#[]⟩,.b .a 0]) 2 i0.bytes vH hi hz0 hz1 rfl (by simp[cZ]) (by decide) _ _ _ rfl (hrow.alloc _) ⟨W.a.j,0,none⟩ 1 1 x.ay.a rfl HN1.i (HNC.i W) Gy.i (by unfold maxLen;omega) hby (by have:=hB.j;simp;omega) ?_;intro v' w1 hown' hgrow _;obtain⟨g',cap',rfl⟩:=ownsRow_succ hown';obtain⟨hv1,hv2,hr2,hk2,hb2⟩:=hv.appended (by decide) hrow hB.j (av _) hown' hgrow;have hc1:=hv1.cell;have hf1:=hv1.frozen);exact⟨hk2.from _,hb2,⟨_,hv2,by rw[aR,xk];simpa using hr2,trivial⟩,hB.trans hb2⟩
 case done=>
  rintro D ys W hD hS ⟨⟨v,hv,hrow,_⟩,hB⟩ hK;have hcv:=hv.cell;gi_wp2;refine⟨by simp,.a ⟨_,_,rfl,uQ hK,?_⟩⟩;obtain⟨A',c',hv',_,_⟩:=jG hrow;refine⟨_,I9 rfl _ _ _,ys,hS,A',c',by rw[<-hv'];rfl,?_,hB.trans (vT (w:=w) (av _) W D _ _ (by omega) hK rfl rfl)⟩;rw[<-hv'];exact ownsRow_putObj hrow _ hK rfl
 case stop=>
  rintro D c pre W _ _ h _;exact h.elim
theorem Xg(gf:Nat)(lb:Array aB)(eg:∀args w,(callFunc gf args).G ah w = .Y (.enter gf args) w)(S Sp:List pR->Prop)(N:Nat)(hN:N<=100000)(w:ak)(hseq:vZ nU 5 ah gf lb (fun x:pR=>#[cB x.ay]) (aL w.a.j) S Sp N w):
 aP ah 237 #[.func (.func gf) #[] lb] w fun e W'=>
  ∃ys,S ys/\∃A' c',e=.a (.a A' ys.a c')/\W'.c w.a.j 151 2 (.a A' ys.a c') ys.a (ys.h fun x=>x.ay.a)/\aL w.a.j w W':=by
 have AP:=ab ((nJ (n:=6)).1 (Ul nU 6 trivial rfl (by omega) gf lb trivial eg S Sp N hN w hseq));clear hseq;go_enter Tryz.func237,Tryz.ntmps237;go_wp2_with fail;refine AP.i.e ?_;rintro e w1 ⟨ys,hS,A1,c1,rfl,ho,hb⟩;have HS:=ab hS;have HO:=ab ho;have HB:=ab hb;clear ho hb hS;obtain⟨m,hm⟩:=bZ ys.a;rw[<-hm]at HO ⊢;go_wp2;go_ret;subst hm;exact⟨ys,HS.i,A1,c1,rfl,HO.i,HB.i⟩
end
theorem Xh:pK 22 16 (jc (bJ 16 0)):=⟨⟨_,qH,rfl⟩,by kernel_rfl,by kernel_rfl,dN _⟩
@[go_sem ↓]theorem aHK(v:aB):cK 22 v=yY 22 v:=rfl
theorem agQ(key:Vector UInt8 16)(A:Option aT)(n c:Nat)(bs:List UInt8)(w:ak)(hr:gu w w.a.j A n bs)(hn:n<=1000000):aP ah 97 #[.d (jc key),.a (some ⟨w.a.j,0,none⟩) 1 1] (w.alloc (.D #[.a A n c] 56)) (fT w (.b .c (yw key bs))):=by
 have hl:=hr.len;refine(ZL key [⟨A,n,c⟩] [bs] _ 1 1 _ (RdS.lit w [⟨A,n,c⟩] 56) (.cons ((hr.alloc (av _) _).lN (by simp)) .nil) (by omega) (by simp[yV];omega) bs (by simp) (by omega)).e ?_;rintro e w' ⟨rfl,hb⟩;exact⟨rfl,((aG _ w).alloc (av _) _).trans (hb.e (by simp))⟩
theorem ako{W:ak}{q:Nat}{k:Vector UInt8 16}(h:dM W q (jc k)):W.rangeAt q 0 (k.a.map bv):=by
 intro j v hj;rw[h.J.1,bl];unfold jc;rw[List.getElem?_toArray];exact hj
theorem agR(key:Vector UInt8 16)(A:Option aT)(n c:Nat)(bs:List UInt8)(w:ak)(hr:gu w w.a.j A n bs)(hn:n<=1000000):aP ah 97 #[.d (key.a.map bv).c,.a (some ⟨w.a.j,0,none⟩) 1 1] (w.alloc (.D #[.a A n c] 56)) (fT w (.b .c (yw key bs))):=agQ key A n c bs w hr hn
theorem J7(t:Tu)(ht:uf t)(w:ak):aP ah 98 #[.d t.ay] w fun e w'=>∃A c,e=.a (.a A 38 c)/\gu w' w'.a.j A 38 (GH t)/\aL w.a.j w w':=by
 refine(abr t ht w).e ?_;rintro e w' ⟨A,n,c,rfl,hn,ho,hb⟩;rw[OB]at hn;subst hn;exact⟨A,c,rfl,gu.iG ho,hb⟩
theorem Tf(key:Vector UInt8 16)(t:Tu)(ht:uf t)(w:ak):aP ah 36 #[.d (jc key),.d t.ay] w (fT w (.b .c (yw key (GH t)))):=by
 have Z0:=ab (((Bx.start w).new (jc key) 22).new t.ay 81);have e1:(w.alloc (.D (jc key) 22)).a.j=w.a.j+1:=by simp
 rw[e1]at Z0;have CB:=ab (fun W=>J7 t ht W);clear e1;go_enter Tryz.func36,Tryz.ntmps36;go_upto_region 1 with fail
 generalize(w.alloc (.D (jc key) 22)).alloc (.D t.ay 81)=w1 at Z0 ⊢;have KS:=ab (fun(w':ak) (h:Bx [(w.a.j+1,t.ay),(w.a.j,jc key)] w w')=>show w'.rangeAt w.a.j 0 (key.a.map bv)/\(uM (.c (some ⟨w.a.j+1,0,none⟩))).G ah w' = .Y (.d t.ay) w' from⟨ako h.b1,qh h.R⟩);obtain⟨l1,l2⟩:=KS.i _ Z0.i;obtain⟨bs,hbs⟩:=bZ (GH t);have HBS:=ab hbs;rw[<-hbs]at CB;clear hbs;have hU:=qH;have hI:(ah.info? 22).map (·.j)=some (key.a.map bv).a:=by rw[bV,nV];kernel_rfl
 go_region_held_law (fun w'=>w'.rangeAt w.a.j 0 (key.a.map bv)/\(uM (.c (some ⟨w.a.j+1,0,none⟩))).G ah w' = .Y (.d t.ay) w')
  (first|exact KS.i _ Z0.i.drew|exact KS.i _ Z6.i|exact KS.i _ (Z5.i.alloc _)|exact KS.i _ Z5.i|go_keep)
  (first
  | (go_at_call 98;(with_reducible refine(CB.i _).e ?_);rintro e w5 ⟨A5,c5,rfl,UM,hb5⟩;have C6:=ab (agR key A5 38 c5 bs w5 UM (by decide));have Z5:=ab (Z0.i.drew.go hb5);clear UM hb5)
  | (go_at_call 97;(with_reducible refine C6.i.e ?_);rintro e w6 ⟨rfl,hb6⟩;have Z6:=ab (Z5.i.go hb6);clear hb6))
 go_wp2;go_ret;refine⟨?_,Z6.i.O⟩;rw[HBS.i];rfl
def aeC:Go.Shelf.Ren:=⟨fun|6=>238|15=>219|14=>301|28=>283|29=>284|20=>339|21=>340|22=>341|23=>342|24=>343|25=>344|26=>345|27=>346|46=>363|47=>329|48=>330|49=>364|50=>365|57=>372|n=>n,fun|22=>75|24=>151|25=>257|3=>3|39=>259|0=>0|53=>323|55=>92|4=>4|46=>352|45=>351|50=>158|5=>5|9=>9|66=>388|70=>392|76=>410|77=>152|n=>n,fun|n=>n⟩
theorem ara:Go.Proofs.SlLaysF0.n6 ah aeC:={
 mixed:=by kernel_rfl,
 f6:=⟨Tryz.f238.E,by decide,Tryz.func238.trans (congrArg some (by kernel_rfl))⟩,
 f14:=⟨Tryz.f301.E,by decide,Tryz.func301.trans (congrArg some (by kernel_rfl))⟩,
 f15:=Tryz.func219.trans (congrArg some (by kernel_rfl)),
 f20:=⟨Tryz.f339.E,by decide,Tryz.func339.trans (congrArg some (by kernel_rfl))⟩,
 f21:=⟨Tryz.f340.E,by decide,Tryz.func340.trans (congrArg some (by kernel_rfl))⟩,
 f22:=⟨Tryz.f341.E,by decide,Tryz.func341.trans (congrArg some (by kernel_rfl))⟩,
 f23:=⟨Tryz.f342.E,by decide,Tryz.func342.trans (congrArg some (by kernel_rfl))⟩,
 f24:=⟨Tryz.f343.E,by decide,Tryz.func343.trans (congrArg some (by kernel_rfl))⟩,
 f25:=⟨Tryz.f344.E,by decide,Tryz.func344.trans (congrArg some (by kernel_rfl))⟩,
 f26:=⟨Tryz.f345.E,by decide,Tryz.func345.trans (congrArg some (by kernel_rfl))⟩,
 f27:=⟨Tryz.f346.E,by decide,Tryz.func346.trans (congrArg some (by kernel_rfl))⟩,
 f28:=Tryz.func283.trans (congrArg some (by kernel_rfl)),
 f29:=Tryz.func284.trans (congrArg some (by kernel_rfl)),
 f46:=⟨Tryz.f363.E,by decide,Tryz.func363.trans (congrArg some (by kernel_rfl))⟩,
 f47:=Tryz.func329.trans (congrArg some (by kernel_rfl)),
 f48:=Tryz.func330.trans (congrArg some (by kernel_rfl)),
 f49:=⟨Tryz.f364.E,by decide,Tryz.func364.trans (congrArg some (by kernel_rfl))⟩,
 f50:=⟨Tryz.f365.E,by decide,Tryz.func365.trans (congrArg some (by kernel_rfl))⟩,
 f57:=⟨Tryz.f372.E,by decide,Tryz.func372.trans (congrArg some (by kernel_rfl))⟩,
 t0:=IG,
 a0:=Tryz.isAgg0,
 z0:=Tryz.sizeOf0,
 v0:=Kn,
 t3:=gV,
 a3:=Tryz.isAgg3,
 z3:=Tryz.sizeOf3,
 v3:=Ko,
 t4:=nX,
 a4:=Tryz.isAgg4,
 z4:=Tryz.sizeOf4,
 v4:=Kq,
 t5:=mQ,
 a5:=Tryz.isAgg5,
 z5:=Tryz.sizeOf5,
 v5:=Tryz.zeroValue5,
 t9:=iU,
 a9:=Ml,
 z9:=I8,
 v9:=BJ,
 t22:=vH,
 a22:=Tryz.isAgg75,
 z22:=Tryz.sizeOf75,
 v22:=Tryz.zeroValue75,
 t25:=Tryz.underlying257,
 a25:=Tryz.isAgg257,
 z25:=Tryz.sizeOf257,
 v25:=Tryz.zeroValue257,
 t39:=Tryz.underlying259,
 a39:=Tryz.isAgg259,
 z39:=Tryz.sizeOf259,
 v39:=Tryz.zeroValue259,
 t45:=Tryz.underlying351,
 a45:=Tryz.isAgg351,
 z45:=Tryz.sizeOf351,
 v45:=Tryz.zeroValue351,
 t46:=Tryz.underlying352,
 a46:=Tryz.isAgg352,
 z46:=Tryz.sizeOf352,
 v46:=Tryz.zeroValue352,
 t50:=Tryz.underlying158,
 a50:=Tryz.isAgg158,
 z50:=Tryz.sizeOf158,
 v50:=Tryz.zeroValue158,
 t53:=Tryz.underlying323,
 a53:=Tryz.isAgg323,
 z53:=Tryz.sizeOf323,
 v53:=Tryz.zeroValue323,
 t55:=Tryz.underlying92,
 a55:=Tryz.isAgg92,
 z55:=Tryz.sizeOf92,
 v55:=Tryz.zeroValue92,
 t66:=Tryz.underlying388,
 a66:=Tryz.isAgg388,
 z66:=Tryz.sizeOf388,
 v66:=Tryz.zeroValue388,
 t70:=Tryz.underlying392,
 a70:=Tryz.isAgg392,
 z70:=Tryz.sizeOf392,
 v70:=Tryz.zeroValue392,
 t76:=Tryz.underlying410,
 a76:=Tryz.isAgg410,
 z76:=Tryz.sizeOf410,
 v76:=Tryz.zeroValue410,
 t77:=Tryz.underlying152,
 a77:=Tryz.isAgg152,
 z77:=Tryz.sizeOf152,
 v77:=Tryz.zeroValue152}
def agS:Go.Shelf.Ren:=⟨fun|6=>151|15=>219|14=>218|28=>283|29=>284|20=>275|21=>276|22=>277|23=>278|24=>279|25=>280|26=>281|27=>282|46=>328|47=>329|48=>330|49=>331|50=>332|57=>359|n=>n,fun|22=>34|24=>86|25=>201|3=>3|39=>259|0=>0|53=>323|55=>92|4=>4|46=>352|45=>351|50=>158|5=>5|9=>9|66=>388|70=>392|76=>410|77=>152|n=>n,fun|n=>n⟩
theorem avE:Go.Proofs.SlLaysF0.n6 ah agS:={
 mixed:=by kernel_rfl,
 f6:=⟨Tryz.f151.E,by decide,Tryz.func151.trans (congrArg some (by kernel_rfl))⟩,
 f14:=⟨Tryz.f218.E,by decide,Tryz.func218.trans (congrArg some (by kernel_rfl))⟩,
 f15:=Tryz.func219.trans (congrArg some (by kernel_rfl)),
 f20:=⟨Tryz.f275.E,by decide,Tryz.func275.trans (congrArg some (by kernel_rfl))⟩,
 f21:=⟨Tryz.f276.E,by decide,Tryz.func276.trans (congrArg some (by kernel_rfl))⟩,
 f22:=⟨Tryz.f277.E,by decide,Tryz.func277.trans (congrArg some (by kernel_rfl))⟩,
 f23:=⟨Tryz.f278.E,by decide,Tryz.func278.trans (congrArg some (by kernel_rfl))⟩,
 f24:=⟨Tryz.f279.E,by decide,Tryz.func279.trans (congrArg some (by kernel_rfl))⟩,
 f25:=⟨Tryz.f280.E,by decide,Tryz.func280.trans (congrArg some (by kernel_rfl))⟩,
 f26:=⟨Tryz.f281.E,by decide,Tryz.func281.trans (congrArg some (by kernel_rfl))⟩,
 f27:=⟨Tryz.f282.E,by decide,Tryz.func282.trans (congrArg some (by kernel_rfl))⟩,
 f28:=Tryz.func283.trans (congrArg some (by kernel_rfl)),
 f29:=Tryz.func284.trans (congrArg some (by kernel_rfl)),
 f46:=⟨Tryz.f328.E,by decide,Tryz.func328.trans (congrArg some (by kernel_rfl))⟩,
 f47:=Tryz.func329.trans (congrArg some (by kernel_rfl)),
 f48:=Tryz.func330.trans (congrArg some (by kernel_rfl)),
 f49:=⟨Tryz.f331.E,by decide,Tryz.func331.trans (congrArg some (by kernel_rfl))⟩,
 f50:=⟨Tryz.f332.E,by decide,Tryz.func332.trans (congrArg some (by kernel_rfl))⟩,
 f57:=⟨Tryz.f359.E,by decide,Tryz.func359.trans (congrArg some (by kernel_rfl))⟩,
 t0:=IG,
 a0:=Tryz.isAgg0,
 z0:=Tryz.sizeOf0,
 v0:=Kn,
 t3:=gV,
 a3:=Tryz.isAgg3,
 z3:=Tryz.sizeOf3,
 v3:=Ko,
 t4:=nX,
 a4:=Tryz.isAgg4,
 z4:=Tryz.sizeOf4,
 v4:=Kq,
 t5:=mQ,
 a5:=Tryz.isAgg5,
 z5:=Tryz.sizeOf5,
 v5:=Tryz.zeroValue5,
 t9:=iU,
 a9:=Ml,
 z9:=I8,
 v9:=BJ,
 t22:=Gb,
 a22:=Tryz.isAgg34,
 z22:=Tryz.sizeOf34,
 v22:=Tryz.zeroValue34,
 t25:=Tryz.underlying201,
 a25:=Tryz.isAgg201,
 z25:=Tryz.sizeOf201,
 v25:=Tryz.zeroValue201,
 t39:=Tryz.underlying259,
 a39:=Tryz.isAgg259,
 z39:=Tryz.sizeOf259,
 v39:=Tryz.zeroValue259,
 t45:=Tryz.underlying351,
 a45:=Tryz.isAgg351,
 z45:=Tryz.sizeOf351,
 v45:=Tryz.zeroValue351,
 t46:=Tryz.underlying352,
 a46:=Tryz.isAgg352,
 z46:=Tryz.sizeOf352,
 v46:=Tryz.zeroValue352,
 t50:=Tryz.underlying158,
 a50:=Tryz.isAgg158,
 z50:=Tryz.sizeOf158,
 v50:=Tryz.zeroValue158,
 t53:=Tryz.underlying323,
 a53:=Tryz.isAgg323,
 z53:=Tryz.sizeOf323,
 v53:=Tryz.zeroValue323,
 t55:=Tryz.underlying92,
 a55:=Tryz.isAgg92,
 z55:=Tryz.sizeOf92,
 v55:=Tryz.zeroValue92,
 t66:=Tryz.underlying388,
 a66:=Tryz.isAgg388,
 z66:=Tryz.sizeOf388,
 v66:=Tryz.zeroValue388,
 t70:=Tryz.underlying392,
 a70:=Tryz.isAgg392,
 z70:=Tryz.sizeOf392,
 v70:=Tryz.zeroValue392,
 t76:=Tryz.underlying410,
 a76:=Tryz.isAgg410,
 z76:=Tryz.sizeOf410,
 v76:=Tryz.zeroValue410,
 t77:=Tryz.underlying152,
 a77:=Tryz.isAgg152,
 z77:=Tryz.sizeOf152,
 v77:=Tryz.zeroValue152}
section
variable {α:Type} [Inhabited α]
theorem Xi(f:α->Array aB)(k:Nat)(hk:∀x,(f x).j=k)(l:List α):(Sort.flatK (fun x=>(f x).a) k l.c).a=l.h fun x=>(f x).a:=by
 apply iR;intro t;have hl:=tT f k hk l;by_cases ht:t<l.a*k
 ·have hk0:0<k:=by
   rcases eu k with h|h
   ·subst h;simp at ht
   ·exact h
  have hq:t/k<l.a:=(Nat.div_lt_iff_lt_mul hk0).2 ht;have hm:=fE t hk0;have e:=Nat.div_add_mod t k;have h1:=Sort.get_flatK (fun x=>(f x).a) k l.c t (by simpa using ht);have h2:=uY f k hk l (t/k) (t%k) hq hm;rw[show t/k*k+t%k=t by rw[DF];exact e]at h2;rw[h2,dG];have hs:t<(Sort.flatK (fun x=>(f x).a) k l.c).j:=by rw[xX];simpa using ht
  rw[getElem!_pos _ t hs]at h1;rw[fF hs,h1];have hs2:t%k<(f l[t/k]).j:=by rw[hk];exact hm
  rw[fF hs2,getElem!_pos l.c (t/k) (by simpa using hq)];simp only[List.getElem_toArray];rw[getElem!_pos _ (t%k) (by simpa using hs2)];simp
 ·rw[aS (by simp[xX];omega),aS (by omega)]
theorem Um(f:α->Array aB)(k:Nat)(hk:∀x,(f x).j=k){w:ak}{g:Nat}{cur:Array aB}{e:bE}{l:List α}(hb:w.a[g]? = some (.D cur e (0,0)))(ht:cur.a.d (l.a*k)=l.h fun x=>(f x).a):Sort.HoldsK (fun x=>(f x).a) k w g 0 l.c:=by
 intro j hj;rw[xX]at hj;have hj':j<l.a*k:=by simpa using hj
 refine⟨?_,by simp[sN,hb]⟩;have h1:(cur.a.d (l.a*k))[j]? = (l.h fun x=>(f x).a)[j]?:=by rw[ht]
 rw[iw hj',<-Xi f k hk l,dG,dG]at h1;have hs:j<(Sort.flatK (fun x=>(f x).a) k l.c).j:=by rw[xX];exact hj
 simp only[World.cell?,hb,bl,Option.isSome_none,iV,if_false,id];rw[h1,fF hs,getElem!_pos _ j hs]
theorem abZ(f:α->Array aB)(k:Nat){w:ak}{g n:Nat}{os:Array Obj}{cur:Array aB}{e:bE}{fr:Nat×Nat}(d:Array α)(hb:w.a[g]? = some (.D cur e fr)):
 (sortWorldK (fun x=>(f x).a) k w g 0 n d os).a[g]? = some (.D (Sort.putCells id 0 (Sort.flatK (fun x=>(f x).a) k d) cur) e fr):=by
 have hg:g<w.a.j:=(bW.1 hb).1;unfold sortWorldK Sort.putRowK;rw[Sort.heap_grow_old _ _ (by simpa using hg)];simp[Sort.putRow,Sort.mapBlock,Sort.ahead,zR,hb,Sort.onCells]
theorem Un(f:α->Array aB)(k:Nat){w:ak}{g n:Nat}{os:Array Obj}(d:Array α):w.d (sortWorldK (fun x=>(f x).a) k w g 0 n d os) (some g):=by
 unfold sortWorldK Sort.putRowK;refine⟨rfl,rfl,rfl,by simp,fun j hj hne=>?_⟩;rw[Sort.heap_grow_old _ _ (by simpa using hj)];have:g≠j:=fun e=>hne (by rw[e])
 simp[Sort.putRow,Sort.mapBlock,Sort.ahead,zR,this]
theorem Uo(f:α->Array aB)(k:Nat)(hk:∀x,(f x).j=k){w:ak}{base g cap n:Nat}{e:bE}{os:Array Obj}{cur:Array aB}{l l':List α}(hl:l'.a=l.a)(hbase:base<=g)(hb:w.a[g]? = some (.D cur e (0,0)))
 (h1:l.a<=cap) (h2:cap<=maxLen) (h3:cur.j=cap*k):(sortWorldK (fun x=>(f x).a) k w g 0 n l'.c os).c base e k (.a (some ⟨g,0,none⟩) l.a cap) l.a (l'.h fun x=>(f x).a):=by
 have hle:l.a*k<=cap*k:=dz k h1;refine⟨by rw[tT f k hk,hl],.b ⟨g,cap,_,rfl,hbase,abZ f k _ hb,h1,h2,by simp[Sort.putCells,h3],?_⟩⟩;rw[<-Xi f k hk l'];apply iR;intro j;by_cases hj:j<l.a*k
 ·have hs:j<(Sort.flatK (fun x=>(f x).a) k l'.c).j:=by rw[xX];simp[hl];exact hj
  rw[iw hj,dG,dG,fF hs];simp only[Sort.putCells,Array.getElem?_mapIdx];rw[fF (by omega)];simp only[mE,jf,true_and,bl,hs,if_true,Nat.sub_zero,id];rw[getElem!_pos _ j hs]
 ·rw[List.getElem?_take_eq_none (by omega),aS (by simp[xX,hl];omega)]
open Go.Shelf in
theorem ZO {P:Program} {ρ:Ren} (L:SlLaysF0.n6 P ρ) (k:Nat) (aE:∀w,(isAgg (ρ.t 24)).G P w = .Y true w) (zE:∀w,(Go.sizeOf (ρ.t 24)).G P w = .Y k w) (f:α->Array aB) (hk:∀x,(f x).j=k) (h1:∀x,(f x).all (·.h)=true) (cf:α->α->Int) (hO:Sort.SWO (ltOf cf)) (g:Nat)
 (eg:∀args w,(callFunc g args).G P w = .Y (.enter g args) w) (base:Nat) (T:bE) (A:Option aT) (n c:Nat) (l:List α) (w:ak) (hn:l.a=n) (hn2:n<=1000000) (ho:w.c base T k (.a A n c) n (l.h fun x=>(f x).a))
 (hcmp:∀x y W,aP P g #[.d (f x),.d (f y)] W (fT W (.b .a (cf x y)))) :
 aP P (ρ.f 6) #[.a A n c,.func (.func g) #[] #[]] w fun e w'=>e=.a (.I #[])/\∃l':List α,l'.Perm l/\l'.Pairwise (fun x y=>ltOf cf y x=false)/\w'.c base T k (.a A n c) n (l'.h fun x=>(f x).a)/\w.d w' (bC A n c).f:=by
 subst hn;rcases ho.2 with⟨hv,h0⟩|⟨b,cap,cur,hv,h2,h3,h4,h5,h6,h7⟩
 ·injection hv with e1 e2 e3
  subst e1 e3;have hnil:l=[]:=bG h0;subst hnil;refine(AnyF.slices_SortFunc_none L none 0 _ w).e ?_;rintro e w' ⟨rfl,rfl⟩;exact⟨rfl,[],.refl _,.nil,ho,dQ _ _⟩
 ·injection hv with e1 e2 e3
  subst e1 e3;have hg:b<w.a.j:=(bW.1 h3).1;have hH:=Um f k hk (l:=l) h3 h7;have hc:CmpLays P g #[] (fun x=>(f x).a) k cf b 0 l.c.j w:=by
   intro m os dk _ x y;refine(Calls.aym (hcmp x y _)).e ?_;rintro e w' ⟨rfl,q,os',hw⟩;exact⟨rfl,q,os',hw⟩
  have:=AnyQ.slices_SortFunc L k aE zE (fun x=>(f x).a) (fun x=>by simp[hk]) (fun x v hv=>by
   have:=h1 x;rw[xW]at this;exact this v (by simpa using hv)) cf hO g #[] b 0 c l.c w eg hc hH hg (by simp;omega)
  rw[show l.c.j=l.a by simp]at this;refine this.e ?_;rintro e w' ⟨rfl,d',nn,os,hp,hs,rfl⟩;obtain⟨p1,p2,p3⟩:=hp;have hsz:d'.j=l.a:=by simpa using p1
  refine⟨rfl,d'.a,?_,?_,?_,Un f k d'⟩
  ·have e1:d'.m 0 l.a=d':=by rw[<-hsz];simp
   have e2:l.c.m 0 l.a=l.c:=by simp
   rw[e1,e2]at p3;simpa using p3
  ·rw[gy]
   intro i j hi hj hij;have:=hs i j (jf _) hij (by simpa[hsz]using hj);rw[getElem!_pos _ j (by simpa using hj),getElem!_pos _ i (by simpa using hi)]at this;simpa using this
  ·have:=Uo f k hk (l:=l) (l':=d'.a) (n:=nn) (os:=os) (e:=T) (by simp[hsz]) h2 h3 h4 h5 h6
   simpa using this
end
theorem agT(l:List UInt8):Lib.bytesOf (l.map fun b=>((b.g:Nat):Int))=l:=by
 unfold Lib.bytesOf;rw[I6]
 conv=>rhs;rw[<-List.map_id l]
 apply Db;intro b _;simp
theorem J8{P:Program}{w:ak}{B n:Nat}{A:Option aT}{l:List UInt8}(h:gu w B A n l)(c:Nat):(uI (.a A n c)).G P w = .Y (bP l) w:=by
 have hl:=h.len;rcases eu n with h0|h0
 ·subst h0
  obtain rfl:l=[]:=bG hl;cases A with
  | none=>simp[uI,bP];rfl
  | some a=>simp[uI,Extern.Bytes.loadBytes,bP];rfl
 ·obtain⟨a,rfl,_,hc⟩:=h.2 h0
  have:=Lib.run_loadBytesX (P:=P) w (l.map fun b=>((b.g:Nat):Int)) a .empty (fun j x hj=>by
   rw[iy]at hj;refine hc j _ ?_;rw[iy];cases hj2:l[j]? with
   | none=>rw[hj2]at hj;cases hj
   | some b=>rw[hj2]at hj;simp at hj;subst hj;rfl)
  rw[bV,hl,agT]at this;show Kk P (Extern.Bytes.loadBytes a n .empty) w=_;rw[this];congr 1;exact congrArg ByteArray.mk (by show #[]++l.c=l.c;simp)
theorem Yp{w:ak}{B C n m:Nat}{A A':Option aT}{l k:List UInt8}(h:gu w B A n l)(h':gu w C A' m k)(c c':Nat):(callFunc 263 #[.a A n c,.a A' m c']).G ah w = .Y (.value (.b .a (mg l k))) w:=by
 rw[run_callFunc_extern Tryz.func263 (by kernel_rfl) (by kernel_rfl) (by kernel_rfl) (e:=Extern.BytealgCompare.compare) (by kernel_rfl)];have:(Extern.BytealgCompare.compare #[.a A n c,.a A' m c']).G ah w = .Y (.b .a (mg l k)) w:=by
  change Kk ah (do pure (goInt (Extern.BytealgCompare.cmp (<-uI (.a A n c)) (<-uI (.a A' m c'))))) w=_;simp only[jP,J8 h,J8 h',oJ,iK];rw[Lib.cmp_eq];rfl
 rw[this];rfl
theorem Rv{w:ak}{n m:Nat}{A A':Option aT}{l k:List UInt8}(h:gu w w.a.j A n l)(h':gu w w.a.j A' m k)(c c':Nat):aP ah 194 #[.a A n c,.a A' m c'] w fun e w'=>e=.a (.b .a (mg l k))/\w=w':=by
 have hc:=Yp h h' c c';go_enter Tryz.func194,Tryz.ntmps194;go_wp2;go_ret;exact⟨rfl,rfl⟩
def ab0(a b:Fw):Int:=if a.no=b.no then mg (GH a.key) (GH b.key)else a.no-b.no
theorem ab1(a b:Fw):ltOf ab0 a b=kG a b:=by
 unfold ltOf ab0 kG;by_cases h:a.no=b.no
 ·rw[if_pos h,if_pos h,vN]
 ·rw[if_neg h,if_neg h]
  exact decide_eq_decide.2 (by omega)
theorem pO{W:ak}{b:Nat}{x:Fw}(h:dM W b x.ay):(uM (.c (some ⟨b,0,none⟩))).G ah W = .Y (.d x.key.ay) W:=by
 have hs:eB x.ay=41:=Fw.r x;have e:x.ay.m 0 37=x.key.ay:=by
  unfold Fw.ay;simp[dD,Tu.r,qB (Tu.r _)]
 rw[Ot W b 0 (of_eq_true (h.J.2.2.1 0 37 (by omega))),h.J.2.2.2 0 37 (by omega),bl,e]
theorem Ti(a b:Fw)(ha:uf a.key)(hb:uf b.key)(na:0<=a.no/\a.no<=1152921504606846976)(nb:0<=b.no/\b.no<=1152921504606846976)(w:ak):
 aP ah 117 #[.d a.ay,.d b.ay] w (fT w (.b .a (ab0 a b))):=by
 have Z0:=ab (((Bx.start w).new a.ay 86).new b.ay 86);rw[show(w.alloc (.D a.ay 86)).a.j=w.a.j+1 by simp]at Z0;have C1:=ab (fun W=>J7 a.key ha W);have C2:=ab (fun W=>J7 b.key hb W);obtain⟨l,hl⟩:=bZ (GH a.key);obtain⟨k,hk⟩:=bZ (GH b.key);rw[<-hl]at C1;rw[<-hk]at C2;have HL:=ab hl;have HK:=ab hk;clear hl hk;go_enter Tryz.func117,Tryz.ntmps117;go_upto_region 1 with fail
 generalize(w.alloc (.D a.ay 86)).alloc (.D b.ay 86)=w1 at Z0 ⊢;have s1:=(Z0.i.b1.J.1 40).trans (Fw.MJ a);have s2:=(Z0.i.R.J.1 40).trans (Fw.MJ b);have l1:=pO Z0.i.b1;have l2:=pO Z0.i.R;by_cases h:a.no=b.no
 ·have t1:decide (a.no=b.no)=true:=by simp[h]
  have t2:(a.no==b.no)=true:=by simp[h]
  have t3:decide (a.no≠b.no)=false:=by simp[h]
  have t4:(a.no != b.no)=false:=by simp[h]
  have HC:=ab (show ab0 a b=mg l k by unfold ab0;rw[if_pos h,<-HL.i,<-HK.i]);clear h;have KS:=ab (fun(w':ak) (h:Bx [(w.a.j+1,b.ay),(w.a.j,a.ay)] w w')=>show(uM (.c (some ⟨w.a.j,0,none⟩))).G ah w' = .Y (.d a.key.ay) w'/\(uM (.c (some ⟨w.a.j+1,0,none⟩))).G ah w' = .Y (.d b.key.ay) w' from⟨pO h.b1,pO h.R⟩);go_wp2_with fail;go_region_held_law (fun w'=>(uM (.c (some ⟨w.a.j,0,none⟩))).G ah w' = .Y (.d a.key.ay) w'/\(uM (.c (some ⟨w.a.j+1,0,none⟩))).G ah w' = .Y (.d b.key.ay) w')
   (first|exact KS.i _ Z0.i.drew|exact KS.i _ Z7.i|exact KS.i _ Z6.i|exact KS.i _ Z5.i|go_keep)
   (first
   | (go_at_call 98;(with_reducible refine(C1.i _).e ?_);rintro e w5 ⟨A5,c5,rfl,UM,hb5⟩;first|(have R5:=ab UM;have Z5:=ab (Z6.i.go hb5);have R6:=ab (R6.i.go hb5))|(have R5:=ab UM;have Z5:=ab (Z0.i.drew.go hb5));clear UM hb5)
   | (go_at_call 98;(with_reducible refine(C2.i _).e ?_);rintro e w6 ⟨A6,c6,rfl,ho6,hb6⟩;first|(have R6:=ab ho6;have Z6:=ab (Z5.i.go hb6);have R5:=ab (R5.i.go hb6))|(have R6:=ab ho6;have Z6:=ab (Z0.i.drew.go hb6));clear ho6 hb6)
   | (go_at_call 194;(with_reducible refine(Rv R5.i R6.i _ _).e ?_);rintro e w7 ⟨rfl,rfl⟩))
  all_goals go_wp2
  all_goals go_ret
  all_goals(refine⟨by rw[HC.i];rfl,?_⟩;first|exact Z6.i.O|exact Z5.i.O)
 ·have t1:decide (a.no=b.no)=false:=by simp[h]
  have t2:(a.no==b.no)=false:=by simp[h]
  have t3:decide (a.no≠b.no)=true:=by simp[h]
  have t4:(a.no != b.no)=true:=by simp[h]
  have HC:=ab (show ab0 a b=a.no-b.no by unfold ab0;rw[if_neg h]);have i1:=jW (a.no-b.no) (by omega);clear h;go_wp2;go_ret;exact⟨by rw[HC.i];rfl,Z0.i.O⟩
theorem Tj(a b:Fw)(ha:uf a.key)(hb:uf b.key)(na:0<=a.no/\a.no<=1152921504606846976)(nb:0<=b.no/\b.no<=1152921504606846976)(w:ak):
 aP ah 49 #[.d a.ay,.d b.ay] w (fT w (.e (kG a b))):=by
 have Z0:=ab (((Bx.start w).new a.ay 86).new b.ay 86);rw[show(w.alloc (.D a.ay 86)).a.j=w.a.j+1 by simp]at Z0;have C1:=ab (fun W=>Ti a b ha hb na nb W);obtain⟨r,hr⟩:=bZ (ab0 a b);obtain⟨o,ho⟩:=bZ (kG a b);rw[<-hr]at C1;have t1:decide (r<0)=o:=by rw[ho,<-ab1,hr];rfl
 have HO:=ab ho;clear hr ho;go_enter Tryz.func49,Tryz.ntmps49;go_upto_region 1 with fail
 generalize(w.alloc (.D a.ay 86)).alloc (.D b.ay 86)=w1 at Z0 ⊢;have l1:=kE Z0.i.b1;have l2:=kE Z0.i.R;go_wp2_with (go_at_call 117;(with_reducible refine(C1.i _).e ?_);rintro e w5 ⟨rfl,hb5⟩;have Z5:=ab (Z0.i.go hb5);clear hb5);go_ret;exact⟨by rw[HO.i];rfl,Z5.i.O⟩
section
open Go.RowKit Go.Shelf
attribute [local go_sem] qK
theorem Ic{β:Type}{B:Nat}{J:β->ak->Prop}(h:AbidesFrom B J){s:β}{W:ak}(hs:J s W)(o:Obj):J s (W.alloc o):=h s W _ none hs (World.grownBy_alloc W o none) (fun r e=>by cases e)
theorem ab2(F:LC)(n:Nat)(hf:F.fn 239)(hro:F.round=none)(hn:1<=n)(l Bs n₀ B0:Nat)(A:Option aT)(len cap:Nat)(zs:List pR)(hlen:len<=100000)(J Jx:List pR->ak->Prop)(hJ:AbidesFrom B0 J)
 (hY:∀pre x W,J pre W->pre.a<len->YieldAt F (n-1) ah l #[.d x.ay] W fun e W'=>
  (e=.a (.e true)/\J (pre++[x]) W'/\aL n₀ W W')\/(e=.a (.e false)/\Jx (pre++[x]) W'))
 (W:ak) (hn₀:n₀<=W.a.j) (Q8:W.b ⟨Bs,0,none⟩=some (.a A len cap)) (hR:iE pR.ay 2 W n₀ A len zs) (h0:J [] W) :
 Nn F n ah 239 #[.func (.yield l) #[] #[],.c (some ⟨Bs,0,none⟩)] W fun e W'=>(∃v,e=.a v) /\
  ((∃ys,ys=zs/\J ys W')\/(∃pre,pre <+: zs/\Jx pre W')):=by
 have hzl:=hR.1;refine Dm Tryz.func239 rfl hf ?_ hro;simp only[Tryz.ntmps239,dL,bD,gP,kT,kU,gH,gI,iT,gU,dH,gW];gi_wp2;gi_loopw [7] (fun i wr=>∃k:Nat,k<=len/\i=.b .a k/\J (zs.d k) wr/\aL n₀ W wr)
  (fun i _=>len-(intOf i).g)
 case atStart=>exact⟨0,jf _,rfl,h0,aG _ _⟩
 case round=>
  obtain⟨k,hk,rfl,hJs,hnx⟩:=hrel;by_cases hlt:k<len
  ·have hki:(k:Int)<len:=by omega
   obtain⟨b,o,rfl,hbb,hh,hc⟩:=iE.fH pR.BF lJ (hR.M hnx) hlt;obtain⟨x,hx⟩:=bZ (zs.b k lJ);rw[<-hx]at hc;have Et:=ab (show zs.d k++[x]=zs.d (k+1)by rw[hx];exact lY lJ zs k (by omega));clear hx hbb;have bx:=dM.new wr x.ay 151;have hld:=Xe bx;have hsz:=hnx.j;obtain⟨fn,tmps,assign,body,hy,hRd⟩:=hY _ x (wr.alloc (.D x.ay 151)) (Ic hJ hJs _) (by rw[bH];omega);have Rw:=ab (hnx.alloc (by omega) (.D x.ay 151));clear bx;gi_wp2;refine hRd.e ?_;rintro e W3 (⟨rfl,hJ3,hk3⟩|⟨rfl,hJx3⟩)
   ·gi_wp2
    go_roundw
    case rel=>exact⟨k+1,by omega,by simp,by rw[<-Et.i];exact hJ3,Rw.i.trans hk3⟩
    case measure=>simp[intOf];omega
   ·gi_wp2
    refine aN (vI rfl _ _ _) rfl ?_;exact⟨⟨_,rfl⟩,.b ⟨_,by rw[Et.i];exact List.take_prefix _ _,hJx3⟩⟩
  ·obtain rfl:k=len:=by omega
   have hd:decide ((k:Int)<k)=false:=by simp
   gi_wp2;go_end0;exact⟨⟨_,rfl⟩,.a ⟨_,aJ (by omega),hJs⟩⟩
theorem ab3(A:Option aT)(len cap:Nat)(w:ak):
 aP ah 164 #[.a A len cap] w fun e w'=>e=.a (.func (.func 239) #[] #[.c (some ⟨w.a.j,0,none⟩)])/\w.alloc (.D #[.a A len cap] 75)=w':=by
 go_enter Tryz.func164,Tryz.ntmps164;go_wp2;go_ret;exact⟨rfl,rfl⟩
theorem Xj(F:LC)(n:Nat)(hf:F.fn 239)(hro:F.round=none)(hn:1<=n)(Bs n₀:Nat)(A:Option aT)(len cap:Nat)(zs:List pR)(hlen:len<=100000)(w:ak)(Q8:Bs<w.a.j)(hn₀:n₀<=w.a.j)
 (hc:w.b ⟨Bs,0,none⟩=some (.a A len cap)) (hR:iE pR.ay 2 w n₀ A len zs) :
 vZ F n ah 239 #[.c (some ⟨Bs,0,none⟩)] (fun x:pR=>#[cB x.ay]) (aL n₀) (fun ys=>ys=zs) (fun pre=>pre <+: zs) len w:=fun l J Jx W hW hJ _ hY h0=>by
 have hc':=(hW.cell (p:=⟨Bs,0,none⟩) Q8).trans hc;exact ab2 F n hf hro hn l Bs n₀ W.a.j A len cap zs hlen J Jx hJ hY W (aO hn₀ hW.j) hc' (hR.to hW hn₀) h0
theorem akp(x y:pR)(w:ak):aP ah 165 #[.d x.ay,.d y.ay] w (fT w (.b .a (mg x.E y.E))):=by
 have Z0:=ab (((Bx.start w).new x.ay 151).new y.ay 151);rw[show(w.alloc (.D x.ay 151)).a.j=w.a.j+1 by simp]at Z0;have CC:=ab (fun W=>Si x.E y.E W);go_enter Tryz.func165,Tryz.ntmps165;go_upto_region 1 with fail
 generalize(w.alloc (.D x.ay 151)).alloc (.D y.ay 151)=w1 at Z0 ⊢;have c1:=(Z0.i.b1.J.1 0).trans (pR.Ea x);have c2:=(Z0.i.R.J.1 0).trans (pR.Ea y);go_wp2_with (go_at_call 166;(with_reducible refine(CC.i _).e ?_);rintro e w2 ⟨rfl,rfl⟩);go_ret;exact⟨rfl,Z0.i.O⟩
def ZU(x y:pR):Int:=mg x.E y.E
theorem akq:Sort.SWO (ltOf ZU):=by
 have e:∀x y,ltOf ZU x y=bI x.E y.E:=fun x y=>by rw[vN];rfl
 refine⟨fun x=>?_,fun x y z h1 h2=>?_,fun x y z h1 h2=>?_⟩
 ·rw[e];exact rX _
 ·rw[e]at *;exact yC _ _ _ h1 h2
 ·rw[e]at *;exact JE h2 h1
def Xk(l:List pR):Prop:=l.Pairwise fun x y=>bI x.E y.E=true
theorem anN{l l':List pR}(h:Xk l)(hp:l'.Perm l)(hs:l'.Pairwise fun x y=>ltOf ZU y x=false):l'=l:=by
 have e:∀x y,ltOf ZU x y=bI x.E y.E:=fun x y=>by rw[vN];rfl
 have hst:Jw (fun x y:pR=>bI x.E y.E):=⟨fun x=>rX _,fun x y z h1 h2=>yC _ _ _ h1 h2⟩
 have hnd:l'.Pairwise fun x y=>x.E≠y.E:=by
  refine(hp.pairwise_iff (fun{a b} (hab:a.E≠b.E)=>Ne.symm hab)).2 (h.imp ?_);intro a b hab heq;rw[heq,rX]at hab;cases hab
 have h':Asc (fun x y:pR=>bI x.E y.E) l':=by
  refine(hs.and hnd).imp ?_;rintro a b ⟨h1,h2⟩;rw[e]at h1;cases h3:bI a.E b.E
  ·exact absurd (zX _ _ h3 h1) h2
  ·exact h3
 exact Asc.eq hst h' h hp
theorem anO(w:ak):(isAgg 151).G ah w = .Y true w:=by simp[isAgg,dJ Tryz.underlying151]
theorem ard(w:ak):(Go.sizeOf 151).G ah w = .Y 2 w:=by
 obtain⟨i,hi,hi2,_⟩:=avB.ags;rw[run_sizeOf w hi];have hc:ah.cellsOf 151=2:=by simp[Program.cellsOf,hi,hi2]
 rw[hc]
theorem Xl{B base size n:Nat}{e:bE}{v:aB}{xs:List aB}{w w1 w2:ak}(hb:aL B w w1)(ho:w1.c base e size v n xs)(hB:B<=base)(hB2:B<=w.a.j)(hg:w1.d w2 v.f):aL B w w2:=by
 refine⟨hg.os.trans hb.os,hg.tape.trans hb.tape,hg.output.trans hb.output,aO hb.j hg.j,fun k hk=>?_⟩;refine(hg.block k (eF (eF hk hB2) hb.j) (fun e2=>?_)).trans (hb.block k hk)
 ·rcases ho.2 with⟨rfl,_⟩|⟨g,cap,cur,rfl,h2,h3,_⟩
  ·cases e2
  ·injection e2 with e2
   dsimp at e2;omega
theorem agU(l:List pR)(hl:l.a<=1000000)(W:ak)(base:Nat)(A:Option aT)(c:Nat)(h:W.c base 151 2 (.a A l.a c) l.a (l.h fun x=>x.ay.a)):
 aP ah 238 #[.a A l.a c,.func (.func 165) #[] #[]] W fun e w'=>e=.a (.I #[])/\∃l':List pR,l'.Perm l/\l'.Pairwise (fun x y=>ltOf ZU y x=false)/\w'.c base 151 2 (.a A l.a c) l.a (l'.h fun x=>x.ay.a)/\W.d w' (bC A l.a c).f:=
 ZO ara 2 anO ard pR.ay pR.r pR.dw ZU akq 165 (fun args w=>rfl) base 151 A l.a c l W rfl hl h akp
theorem PG(gf:Nat)(lb:Array aB)(eg:∀args w,(callFunc gf args).G ah w = .Y (.enter gf args) w)(l:List pR)(hs:Xk l)(hN:l.a<=100000)(w:ak)(hseq:vZ nU 5 ah gf lb (fun x:pR=>#[cB x.ay]) (aL w.a.j) (fun ys=>ys=l) (fun pre=>pre <+: l) l.a w):
 aP ah 163 #[.func (.func gf) #[] lb,.func (.func 165) #[] #[]] w fun e W'=>
  ∃A' c',e=.a (.a A' l.a c')/\W'.c w.a.j 151 2 (.a A' l.a c') l.a (l.h fun x=>x.ay.a)/\aL w.a.j w W':=by
 have CO:=ab (Xg gf lb eg (fun ys=>ys=l) (fun pre=>pre <+: l) l.a hN w hseq);have SO:=ab (fun(W:ak) (A:Option aT) (c:Nat) h=>agU l (by omega) W w.a.j A c h);clear hseq;go_enter Tryz.func163,Tryz.ntmps163;go_wp2_with fail;refine CO.i.e ?_;rintro e w1 ⟨ys,rfl,A1,c1,rfl,ho,hb⟩;have SO1:=ab (SO.i w1 A1 c1 ho);have HB:=ab hb;have HO:=ab ho;have HS:=ab hs;clear hb ho hs SO CO;obtain⟨m,hm⟩:=bZ ys.a;rw[<-hm]at HO SO1 ⊢;have HM:=ab hm;clear hm;go_wp2_with fail;refine SO1.i.e ?_;rintro e w2 ⟨rfl,l',hp,hpw,ho2,hg⟩;obtain rfl:=anN HS.i hp hpw;have H2:=ab ho2;have HG:=ab hg;clear ho2 hg hp hpw;go_wp2;go_ret;obtain rfl:=HM.i;exact⟨A1,c1,rfl,H2.i,Xl HB.i HO.i (av _) (av _) HG.i⟩
theorem ab4(l:List pR)(hs:Xk l)(A:Option aT)(n c:Nat)(w:ak)(hR:iE pR.ay 2 w w.a.j A n l)(hn:n<=100000):
 aP ah 80 #[.a A n c] w fun e w'=>∃A' c',e=.a (.a A' n c')/\iE pR.ay 2 w' w'.a.j A' n l/\aL w.a.j w w':=by
 have hl:=hR.1;have w1s:=(dM.new w #[.a A n c] 75)
 have hB1:aL w.a.j w (w.alloc (.D #[.a A n c] 75)):=(aG _ _).alloc (av _) _;have hR1:=hR.up (.D #[.a A n c] 75);have SQ:=ab (Xj nU 5 trivial rfl (by omega) w.a.j (w.alloc (.D #[.a A n c] 75)).a.j A n c l (by omega) (w.alloc (.D #[.a A n c] 75)) w1s.lt (av _) (w1s.J.1 0) hR1);have VA:=ab (ab3 A n c w);generalize hw:w.alloc (.D #[.a A n c] 75)=w1 at *;have SF:=ab (PG 239 #[.c (some ⟨w.a.j,0,none⟩)] (fun args w=>rfl) l hs (by omega) w1 (by rw[hl];exact SQ.i));have HB1:=ab hB1;have HR1:=ab hR1;clear hw w1s hB1 hR1 hR SQ;go_enter Tryz.func80,Tryz.ntmps80;go_wp2_with fail;refine VA.i.e ?_;rintro e w2 ⟨rfl,rfl⟩;go_wp2_with fail;refine SF.i.e ?_;rintro e w2 ⟨A1,c1,rfl,ho,hb⟩;have HO:=ab ho;have HB:=ab hb;clear ho hb;subst hl;go_wp2;go_ret;refine⟨A1,c1,rfl,iE.iG rfl HO.i,?_⟩;have h1:=HB1.i;have h2:=HB.i;exact⟨h2.os.trans h1.os,h2.tape.trans h1.tape,h2.output.trans h1.output,aO h1.j h2.j,fun k hk=>(h2.block k (eF hk h1.j)).trans (h1.block k hk)⟩
end
theorem agV(key:Vector UInt8 16)(A:Option aT)(n c:Nat)(s:List UInt8)(tag:UInt8)(a:Int)(ha:a=(tag.g:Int))(w:ak)(hr:gu w w.a.j A n s)(hn:n<=1000000):aP ah 97 #[.d (jc key),.a (some ⟨w.a.j+1,0,none⟩) 2 2] ((w.alloc (.D #[.b .b a] 5)).alloc (.D (zu [⟨A,n,c⟩,⟨some ⟨w.a.j,0,none⟩,1,1⟩]) 56)) (fT w (.b .c (yw key (s++[tag])))):=by
 have hl:=hr.len;have e1:(w.alloc (.D #[.b .b a] 5)).a.j=w.a.j+1:=by simp
 have h1:=((hr.alloc (av _) (.D #[.b .b a] 5)).lN (show w.a.j<=w.a.j+1 by omega))
 have h2:=Cu w tag a ha;have R:=RdS.lit (w.alloc (.D #[.b .b a] 5)) [⟨A,n,c⟩,⟨some ⟨w.a.j,0,none⟩,1,1⟩] 56;rw[e1]at R;have up:∀{A:Option aT} {n:Nat} {l:List UInt8},gu (w.alloc (.D #[.b .b a] 5)) (w.a.j+1) A n l->gu ((w.alloc (.D #[.b .b a] 5)).alloc (.D (zu [⟨A,n,c⟩,⟨some ⟨w.a.j,0,none⟩,1,1⟩]) 56)) ((w.alloc (.D #[.b .b a] 5)).alloc (.D (zu [⟨A,n,c⟩,⟨some ⟨w.a.j,0,none⟩,1,1⟩]) 56)).a.j A n l:=fun h=>(h.alloc (by rw[e1];omega) _).lN (by simp)
 have go:∀{A:Option aT} {n:Nat} {l:List UInt8} (ob:Obj),gu (w.alloc (.D #[.b .b a] 5)) (w.a.j+1) A n l->gu ((w.alloc (.D #[.b .b a] 5)).alloc ob) ((w.alloc (.D #[.b .b a] 5)).alloc ob).a.j A n l:=fun ob h=>(h.alloc (by rw[e1];omega) _).lN (by simp)
 refine(ZL key [⟨A,n,c⟩,⟨some ⟨w.a.j,0,none⟩,1,1⟩] [s,[tag]] _ 2 2 _ R (.cons (go _ h1) (.cons (go _ h2) .nil)) (by omega) (by simp[yV];omega) (s++[tag]) (by simp) (by simp;omega)).e ?_;rintro e w' ⟨rfl,hb⟩;exact⟨rfl,(((aG _ w).alloc (av _) _).alloc (by simp) _).trans (hb.e (by simp;omega))⟩
theorem PI(key:Vector UInt8 16)(s:List UInt8)(tag:UInt8)(a:Int)(ha:a=(tag.g:Int))(b:Nat)(z:Int)(hz:z=b)(hb:1<=b)(hb2:b<=1000000)(hs:s.a<=1000000)(r:Nat)(hr:yw key (s++[tag])%b=r)(kb nb:Nat)(W:ak)(hk:dM W kb (jc key))(hn:dM W nb #[.g (bP s)]):
 aP ah 167 #[.b .b a,.b .a z,.c (some ⟨kb,0,none⟩),.c (some ⟨nb,0,none⟩)] W (fT W (.b .a (r:Nat))):=by
 subst hz;have l1:=Xh.ni hk (dN _);have l2:=hn.J.1 0;have l2:W.b ⟨nb,0,none⟩=some (.g (bP s)):=l2;have TW:=ab (aqk W s);have hcv:=Jh (P:=ah) 9 56 5 iU cO mQ s W;obtain⟨W3,hW3⟩:=bZ (sU W 5 s);rw[<-hW3]at hcv TW;obtain⟨cc,hcc⟩:=rT (grownCap W s.a 0 5);rw[hcc]at hcv;obtain⟨h,hh⟩:=bZ (yw key (s++[tag]));have CS:=ab (agV key (some ⟨W.a.j,0,none⟩) s.a cc s tag a ha W3 TW.i.1 hs);rw[<-hh]at CS;have HH:=ab hh;have w1:gB.d (b:Int)=b:=by rw[jh];omega
 have w2:((h:Int)%(b:Int))=((h%b:Nat):Int):=by omega
 rw[<-hh]at hr;have hlt:=fE h (show 0<b by omega);have w3:=jW ((h%b:Nat):Int) (by omega);have hb0:¬(b:Int)=0:=by omega
 have hb1:¬b=0:=by omega
 rw[hr]at w2 w3 hlt;clear hcc hW3 hh hk hn ha hr;go_enter Tryz.func167,Tryz.ntmps167;go_wp2_with (go_at_call 97;go_loud (with_reducible refine CS.i.e ?_);rintro e w9 ⟨rfl,hb9⟩;have B9:=ab hb9;clear hb9);go_ret;exact⟨rfl,TW.i.2.trans (B9.i.e TW.i.2.j)⟩
theorem Xm(o s n i:Nat)(hn:1<=n)(hn2:n<=100000)(ho:o<=100000)(hs:s<=100000)(hi:i<=1000000000)(W:ak):aP ah 243 #[.b .a o,.b .a s,.b .a n,.b .a i] W fun e W'=>e=.a (.b .a (rV o s n (i%n):Nat))/\W=W':=by
 have h1:((i:Int)%(n:Int))=((i%n:Nat):Int):=by omega
 have h0:¬(n:Int)=0:=by omega
 have h0':¬n=0:=by omega
 obtain⟨j,hj⟩:=bZ (i%n);have hjl:j<=100000:=by have:=fE i (show 0<n by omega);omega
 rw[<-hj]at h1 ⊢;have hm:j*s<=10000000000:=aO (gY hjl hs) (by decide);have h2:(j:Int)*(s:Int)=((j*s:Nat):Int):=by simp
 obtain⟨p,hp⟩:=bZ (j*s);rw[<-hp]at h2 hm;have h3:=jW (p:Int) (by omega);have h4:(o:Int)+(p:Int)=((o+p:Nat):Int):=by omega
 obtain⟨q,hq⟩:=bZ (o+p);rw[<-hq]at h4;have h5:=jW (q:Int) (by omega);have h6:(q:Int)%(n:Int)=((q%n:Nat):Int):=by omega
 have HC:=ab (show rV o s n j=q%n by rw[hq,hp];rfl);clear hj hp hq;rw[HC.i];go_enter Tryz.func243,Tryz.ntmps243;go_wp2;go_ret;exact⟨rfl,rfl⟩
theorem agW(key:Vector UInt8 16)(s:List UInt8)(n:Nat)(hn:2<=n)(hn2:n<=100000)(hs:s.a<=1000000)(w:ak):aP ah 83 #[.d (jc key),.g (bP s),.b .a n] w (fT w (.I #[.b .a (DT key s n:Nat),.b .a (AL key s n:Nat)])):=by
 have Z0:=ab (((Bx.start w).new (jc key) 22).new #[.g (bP s)] 9);rw[show(w.alloc (.D (jc key) 22)).a.j=w.a.j+1 by simp]at Z0;obtain⟨o,ho⟩:=rT (yw key (s++[0])%n);have HO:=ab (show DT key s n=o from ho);obtain⟨t,ht⟩:=rT (yw key (s++[1])%(n-1));obtain⟨t1,ht1⟩:=bZ (t+1);have HT:=ab (show AL key s n=t1 by rw[ht1,<-ht];rfl);have C0:=ab (fun W (h:Bx [(w.a.j+1,#[.g (bP s)]),(w.a.j,jc key)] w W)=>PI key s 0 0 rfl n n rfl (by omega) (by omega) hs o ho w.a.j (w.a.j+1) W h.b1 h.R);have C1:=ab (fun W (h:Bx [(w.a.j+1,#[.g (bP s)]),(w.a.j,jc key)] w W)=>PI key s 1 1 rfl (n-1) ((n:Int)-1) (by omega) (by omega) (by omega) hs t ht w.a.j (w.a.j+1) W h.b1 h.R);have htl:t<n-1:=by rw[<-ht];exact fE _ (by omega)
 have i1:=jW ((n:Int)-1) (by omega);have i2:=jW (t1:Int) (by omega);have i3:(t:Int)+1=(t1:Int):=by omega
 rw[HT.i,HO.i];clear ht ho ht1;go_enter Tryz.func83,Tryz.ntmps83;go_upto_region 1 with fail
 generalize(w.alloc (.D (jc key) 22)).alloc (.D #[.g (bP s)] 9)=w1 at Z0 ⊢;go_wp2_with (first|(go_at_call 167;(with_reducible refine(C0.i _ Z0.i).e ?_);rintro e w5 ⟨rfl,hb⟩;have Z5:=ab (Z0.i.go hb);clear hb)|(go_at_call 167;(with_reducible refine(C1.i _ Z5.i).e ?_);rintro e w6 ⟨rfl,hb⟩;have Z6:=ab (Z5.i.go hb);clear hb));go_ret2;exact⟨rfl,Z6.i.O⟩
def SlA(d:Array aB)(sl:List Int):Prop:=∀j,j<sl.a->d[j]? = some (.b .a (sl.b j 0))
theorem SlA.set{d:Array aB}{sl:List Int}(h:SlA d sl){k:Nat}(v:Int):SlA (d.c k (.b .a v)) (sl.set k v):=by
 intro j hj;rw[aV]at hj;rw[dR,au,fI];by_cases e:k=j
 ·subst e
  have:=h k hj;have hlt:k<d.j:=by
   rcases aZ k d.j with h1|h1
   ·exact h1
   ·rw[aU h1]at this;cases this
  simp[hj,hlt]
 ·rw[if_neg e,if_neg e,h j hj,au]
theorem anQ(o s n i r:Nat)(hr:rV o s n (i%n)=r)(hn:1<=n)(hn2:n<=100000)(ho:o<=100000)(hs:s<=100000)(hi:i<=1000000000)(W:ak):aP ah 243 #[.b .a o,.b .a s,.b .a n,.b .a i] W fun e W'=>e=.a (.b .a (r:Nat))/\W=W':=by subst hr;exact Xm o s n i hn hn2 ho hs hi W
theorem agX(tb sb z i n cn o s x f:Nat)(c d:Array aB)(sl:List Int)(W:ak)(hc:dM W tb c)(hd:dM W sb d)(hne:tb≠sb)(h2:c[z+2]? = some (.b .a o))(h3:c[z+3]? = some (.b .a s))(h4:c[z+4]? = some (.b .a x))
 (hsl:SlA d sl) (hl:sl.a=n) (hn:1<=n) (hn2:n<=100000) (hcn:n<=cn) (ho:o<=100000) (hs:s<=100000) (hx:x<=f) (hf:f<n) (hno:∀t,x<=t->t<f->sl.b (rV o s n t) 0≠-1) (hyes:sl.b (rV o s n f) 0 = -1) :
 aP ah 169 #[.c (some ⟨tb,z,none⟩),.a (some ⟨sb,0,none⟩) n cn,.b .a i] W fun e W'=>e=.a (.I #[])/\dM W' tb (c.c (z+4) (.b .a (f+1:Nat)))/\dM W' sb (d.c (rV o s n f) (.b .a i))/\jM [tb,sb] W W':=by
 have HC:=ab hc;have HD:=ab hd;have HNE:=ab hne;have HSL:=ab hsl;have Gy:=ab hno;have HY:=ab hyes;have HL:=ab hl;have H4:=ab h4;clear hc hd hne hsl hno hyes hl h4;have hz4:(c.c (z+4) (.b .a (x:Nat)))=c:=by
  apply dZ;intro j;rw[dR];split
  ·rename_i e;subst e;rw[H4.i];simp;have:=H4.i;exact(bW.1 this).1
  ·rfl
 have HZ4:=ab hz4;have hcs:z+4<c.j:=(bW.1 H4.i).1;clear hz4;go_enter Tryz.func169,Tryz.ntmps169;go_wp2;go_loopw [] (fun wr=>∃y:Nat,x<=y/\y<=f/\dM wr tb (c.c (z+4) (.b .a (y:Nat)))/\dM wr sb d/\jM [tb,sb] W wr)
  (fun wr=>f-(intOf ((wr.b ⟨tb,z+4,none⟩).b undef)).g)
 case atStart=>exact⟨x,av _,hx,by rw[HZ4.i];exact HC.i,HD.i,jM.refl _ _⟩
 case round=>
  obtain⟨y,hy1,hy2,hb1,hb2,hfr⟩:=hrel;obtain⟨c1,c2,c3,c4⟩:=hb1.J;have k2:=(c1 (z+2)).trans ((dR ..).trans ((if_neg (by omega)).trans h2));have k3:=(c1 (z+3)).trans ((dR ..).trans ((if_neg (by omega)).trans h3));have k4:=(c1 (z+4)).trans ((dR ..).trans ((if_pos rfl).trans (if_pos hcs)));have kf:=c2 (z+4);obtain⟨d1,d2,d3,d4⟩:=hb2.J;have HB1:=ab hb1;have HB2:=ab hb2;have HFR:=ab hfr;have hyn:y%n=y:=fO (by omega);obtain⟨fH,hat⟩:∃a,a=rV o s n y:=⟨_,rfl⟩
  have aEK:fH<n:=by rw[hat];exact Qt (by omega)
  have CC:=ab (fun w=>anQ o s n y fH (by rw[hyn,hat]) hn hn2 ho hs (by omega) w);obtain⟨v,hv⟩:=bZ (sl.b fH 0);have e1:wr.b ⟨sb,fH,none⟩=some (.b .a v):=by rw[d1,HSL.i fH (by rw[HL.i];exact aEK),hv]
  have ef:=d2 fH;obtain⟨y1,hy⟩:=bZ (y+1);have i1:(y:Int)+1=(y1:Int):=by omega
  have i2:=jW (y1:Int) (by omega);have aef:(fH:Int)<n:=by omega
  clear c1 c2 c3 c4 d1 d2 d3 d4 hb1 hb2 hfr hyn h2 h3;have HAT:=ab hat;have HV:=ab hv;have X1:=ab (show dM (wr.F ⟨tb,z+4,none⟩ (.b .a y1)) tb (c.c (z+4) (.b .a (y1:Nat)))by have:=HB1.i.eX (z+4) (.b .a y1);rwa [Array.setIfInBounds_setIfInBounds]at this);have X2:=ab (HB2.i.dP ⟨tb,z+4,none⟩ (.b .a y1) HNE.i);have F1:=ab (HFR.i.set ⟨tb,z+4,none⟩ (.b .a y1) (.a (by simp)));have HYV:=ab hy;have e2:(wr.F ⟨tb,z+4,none⟩ (.b .a y1)).b ⟨sb,fH,none⟩=some (.b .a v):=(X2.i.J.1 fH).trans ((HB2.i.J.1 fH).symm.trans e1);have e3:=X2.i.J.2.1 fH;clear e1 ef hat hv hy;go_wp2_with fail;go_quiet ((go_at_call 243;(with_reducible refine(CC.i _).e ?_);rintro e w2 ⟨rfl,rfl⟩;exact⟨rfl,_,rfl⟩));have W1:=ab (show(wr.drewN nq).F ⟨tb,z+4,none⟩ (.b .a y1)=(wr.F ⟨tb,z+4,none⟩ (.b .a y1)).drewN nq from rfl)
  replace k4:(wr.drewN nq).b ⟨tb,z+4,none⟩=some (.b .a y):=k4
  replace kf:(wr.drewN nq).frozen? ⟨tb,z+4,none⟩=false:=kf
  replace e2:((wr.drewN nq).F ⟨tb,z+4,none⟩ (.b .a y1)).b ⟨sb,fH,none⟩=some (.b .a v):=e2
  replace e3:((wr.drewN nq).F ⟨tb,z+4,none⟩ (.b .a y1)).frozen? ⟨sb,fH,none⟩=false:=e3
  clear k2 k3;by_cases hfr:v = -1
  ·have hyf:y=f:=by
    rcases aZ y f with h1|h1
    ·exact absurd hfr (by rw[HV.i,HAT.i];exact Gy.i y hy1 h1)
    ·omega
   subst hfr;have HYF:=ab hyf;clear hyf;go_wp2;refine aN (vI rfl _ _ _) rfl ?_;refine⟨rfl,?_,?_,?_⟩
   ·rw[<-HYF.i,<-HYV.i];exact X1.i.dP ⟨sb,fH,none⟩ (.b .a i) (Ne.symm HNE.i)
   ·rw[<-HYF.i,<-HAT.i];exact X2.i.eX fH (.b .a i)
   ·exact(F1.i.drewN nq).set ⟨sb,fH,none⟩ (.b .a i) (.a (by simp))
  ·have hyf:y<f:=by
    rcases aZ y f with h1|h1
    ·exact h1
    ·exfalso
     have:y=f:=by omega
     exact hfr (by rw[HV.i,HAT.i,this];exact HY.i)
   go_wp2;go_roundw
   case rel=>exact⟨y1,by omega,by omega,X1.i,X2.i,F1.i.drewN nq⟩
   case measure=>
    have q1:((wr.drewN nq).F ⟨tb,z+4,none⟩ (.b .a y1)).b ⟨tb,z+4,none⟩=some (.b .a y1):=(X1.i.J.1 (z+4)).trans ((dR ..).trans ((if_pos rfl).trans (if_pos hcs)));have q2:wr.b ⟨tb,z+4,none⟩=some (.b .a y):=k4;rw[q1,q2];simp only[jY,intOf,dU];omega
section
structure Tr where
 qY:Int
 uN:Int
 X:Int
 skip:Int
 next:Int
def Tr.ay(x:Tr):Array aB:=#[.b .a x.qY,.b .a x.uN,.b .a x.X,.b .a x.skip,.b .a x.next]
theorem Tr.r(x:Tr):x.ay.j=5:=by simp[Tr.ay]
theorem Tr.dw(x:Tr):x.ay.all (·.h)=true:=by simp[Tr.ay,dx]
@[go_sem]theorem Tr.ZV(x:Tr):x.ay[0]? = some (.b .a x.qY):=by simp[Tr.ay,aD]
@[go_sem]theorem Tr.akr(x:Tr):x.ay[1]? = some (.b .a x.uN):=by simp[Tr.ay,aD]
@[go_sem]theorem Tr.aks(x:Tr):x.ay[2]? = some (.b .a x.X):=by simp[Tr.ay,aD]
@[go_sem]theorem Tr.arf(x:Tr):x.ay[3]? = some (.b .a x.skip):=by simp[Tr.ay,aD]
@[go_sem]theorem Tr.arh(x:Tr):x.ay[4]? = some (.b .a x.next):=by simp[Tr.ay,aD]
theorem Tr.Xn(x:Tr)(v:Int):x.ay.c 1 (.b .a v)=({x with uN:=v}:Tr).ay:=by simp[Tr.ay,aM]
theorem Tr.anR(x:Tr)(v:Int):x.ay.c 4 (.b .a v)=({x with next:=v}:Tr).ay:=by simp[Tr.ay,aM]
def zM:Tr:=⟨0,0,0,0,0⟩
@[go_sem]theorem azQ:cB #[bg,bg,bg,bg,bg]=cB zM.ay:=rfl
@[go_sem]theorem avG:eO #[bg,bg,bg,bg,bg] 155=eO zM.ay 155:=rfl
theorem kTr:pK 155 5 zM.ay:=⟨⟨_,Ep,rfl⟩,by kernel_rfl,by kernel_rfl,Tr.r _⟩
@[go_sem ↓]theorem aKY(v:aB):cK 155 v=yY 155 v:=rfl
@[go_sem ↓]theorem aKZ(v x:aB):eU 155 v x=zQ 155 v x:=rfl
@[go_sem]theorem aHM(W:ak)(b o:Nat)(h:vK W b o 5):(yY 155 (.c (some ⟨b,o,none⟩))).G ah W = .Y (.d (dO W b o 5)) W:=kTr.ld W b o h
@[go_sem]theorem aEN(W:ak)(c:Array aB)(x:Tr)(b:Nat)(hb:b=W.a.j)(hc:eB c=5):(zQ 155 (.c (some ⟨b,0,none⟩)) (.d x.ay)).G ah (W.alloc (.D c 155)) = .Y () (W.alloc (.D x.ay 155)):=kTr.stN W c x.ay b hb hc (Tr.r x) (Tr.dw x)
@[go_sem ↓]theorem aK0(ps:Array (Nat×aB)):fQ 155 ps=uW 155 ps:=rfl
theorem aEO(w:ak)(fs:Array oh)(h:ah.k 155=some (.struct fs)):(iF (fun f=>Prod.mk f.X <$> sizeOf f.type) fs:Sem (Array (Nat×Nat))).G ah w = .Y #[(0,1),(1,1),(2,1),(3,1),(4,1)] w:=by
 have e:=Ep;rw[h]at e;cases e;show _=_
 kernel_rfl
theorem Tr.D(x:Tr)(j:Nat)(hj:j<5):∃v,x.ay[j]? = some v:=⟨x.ay[j]'(by rw[Tr.r];exact hj),by simp[Tr.r,hj]⟩
def TrA(c:Array aB)(l:List Tr):Prop:=∀i,i<l.a->∀j,j<5->c[i*5+j]? = (l.b i zM).ay[j]?
theorem TrA.put{c:Array aB}{l:List Tr}(h:TrA c l){i j:Nat}(hi:i<l.a)(hj:j<5)(v:aB)(y:Tr)(hy:(l.b i zM).ay.c j v=y.ay):TrA (c.c (i*5+j) v) (l.set i y):=by
 intro i2 hi2 j2 hj2;rw[aV]at hi2;have h0:=h i2 hi2 j2 hj2;rw[dR,au,fI];by_cases e:i=i2
 ·subst e
  rw[if_pos rfl,if_pos hi,jY,<-hy,dR];by_cases e2:j=j2
  ·subst e2
   have hlt:i*5+j<c.j:=by
    rcases aZ (i*5+j) c.j with h1|h1
    ·exact h1
    ·obtain⟨u,hu⟩:=Tr.D (l.b i zM) j hj
     rw[aU h1,hu]at h0;cases h0
   rw[if_pos rfl,if_pos rfl,if_pos hlt,if_pos (by rw[Tr.r];exact hj)]
  ·rw[if_neg (by omega),if_neg e2,h0]
 ·rw[if_neg (by omega),if_neg e,<-au,h0]
theorem TrA.fH{W:ak}{b:Nat}{c:Array aB}{l:List Tr}(h:TrA c l)(hb:dM W b c){i:Nat}(hi:i<l.a):vK W b (i*5) 5/\dO W b (i*5) 5=(l.b i zM).ay/\W.b ⟨b,i*5,none⟩=some (.b .a (l.b i zM).qY)/\W.b ⟨b,i*5+1,none⟩=some (.b .a (l.b i zM).uN)/\W.frozen? ⟨b,i*5+1,none⟩=false:=by
 obtain⟨h1,h2,h3,h4⟩:=hb.J;have hs:i*5+5<=c.j:=by
  obtain⟨u,hu⟩:=Tr.D (l.b i zM) 4 (by omega);have:=h i hi 4 (by omega);rw[hu]at this;have:=(bW.1 this).1;omega
 refine⟨by rw[h3 _ _ (by unfold eB;omega)];trivial,?_,?_,?_,h2 _⟩
 ·rw[h4 _ _ (by unfold eB;omega)]
  apply dZ;intro j;rw[dA];by_cases hj:j<5
  ·rw[if_pos (by omega),h i hi j hj]
  ·rw[if_neg (by omega),aU (by rw[Tr.r];omega)]
 ·rw[h1];have:=h i hi 0 (by omega);rw[mW]at this;rw[this];exact Tr.ZV _
 ·rw[h1,h i hi 1 (by omega)];exact Tr.akr _
theorem Yq(q:List Nat)(i:Nat)(hi:i<q.a):mh (q.d (i+1))=max (mh (q.d i)) (q.b i 0):=by
 unfold mh;rw[dF hi,zC,au,aC hi];rfl
structure FiL(g n:Nat)(q o s:List Nat)(m:Mg)(l:List Tr):Prop where
 len:l.a=q.a
 crl:m.cr.a=q.a
 all:∀i,i<q.a->(l.b i zM).qY=q.b i 0/\(l.b i zM).X=o.b i 0/\(l.b i zM).skip=s.b i 0/\(l.b i zM).uN=m.cr.b i 0/\m.cr.b i 0<g/\∃x:Nat,(l.b i zM).next=x/\x<=n/\∀t,t<x->sF m.sl (rV (o.b i 0) (s.b i 0) n t)=false
theorem Cz{α:Type}(l:List α)(i j:Nat)(v d:α)(hi:i<l.a):(l.set i v).b j d=if i=j then v else l.b j d:=by
 rw[au,fI];by_cases h:i=j
 ·subst h;simp[hi]
 ·simp[h,au]
theorem aeD{sl:List Int}{k j:Nat}{v:Int}(hv:v≠-1)(h:sF sl j=false):sF (sl.set k v) j=false:=by
 unfold sF at h ⊢;rw[au,fI];split
 ·split
  ·simpa using hv
  ·simp
 ·rwa [<-au]
def IY(o s:List Nat)(n i t:Nat):Nat:=rV (o.b i 0) (s.b i 0) n t
variable {g n:Nat} {q o s:List Nat} {m:Mg} {l:List Tr}
theorem FiL.low(h:FiL g n q o s m l){i:Nat}(hi:i<q.a)(hlt:m.cr.b i 0+q.b i 0<g):FiL g n q o s (sW g n q (IY o s n) m i) (l.set i {l.b i zM with uN:=(m.cr.b i 0+q.b i 0:Nat)}):=by
 have hl:=h.len;have hcl:=h.crl;unfold sW;rw[if_pos hlt];refine⟨by simpa using hl,by simpa using hcl,fun j hj=>?_⟩;rw[Cz _ _ _ _ _ (by omega),Cz _ _ _ _ _ (by omega)];by_cases e:i=j
 ·subst e
  simp only[if_true];obtain⟨a1,a2,a3,a4,a5,a6⟩:=h.all i hi;exact⟨a1,a2,a3,trivial,hlt,a6⟩
 ·rw[if_neg e,if_neg e]
  exact h.all j hj
theorem FiL.high(h:FiL g n q o s m l){i:Nat}(hi:i<q.a)(hge:¬m.cr.b i 0+q.b i 0<g)(hq:q.b i 0<=g){f:Nat}(hf:f=ff m.sl (IY o s n i) n)(hfn:f<n)(hno:∀t,t<f->sF m.sl (IY o s n i t)=false):
 FiL g n q o s (sW g n q (IY o s n) m i) ((l.set i {l.b i zM with uN:=(m.cr.b i 0+q.b i 0-g:Nat)}).set i {l.b i zM with uN:=(m.cr.b i 0+q.b i 0-g:Nat),next:=(f+1:Nat)}):=by
 have hl:=h.len;have hcl:=h.crl;unfold sW;rw[if_neg hge,<-hf,List.set_set];refine⟨by simpa using hl,by simpa using hcl,fun j hj=>?_⟩;rw[Cz _ _ _ _ _ (by omega),Cz _ _ _ _ _ (by omega)];by_cases e:i=j
 ·subst e
  simp only[if_true];obtain⟨a1,a2,a3,a4,a5,a6⟩:=h.all i hi;refine⟨a1,a2,a3,trivial,by omega,f+1,rfl,by omega,fun t ht=>?_⟩;rcases aZ t f with h1|h1
  ·exact aeD (by omega) (hno t h1)
  ·have:t=f:=by omega
   subst this;unfold sF;rw[au,fI];have e2:IY o s n i t=rV (o.b i 0) (s.b i 0) n t:=rfl;rw[e2,if_pos rfl];split
   ·simp
   ·simp
 ·rw[if_neg e,if_neg e]
  obtain⟨a1,a2,a3,a4,a5,x,a6,a7,a8⟩:=h.all j hj;exact⟨a1,a2,a3,a4,a5,x,a6,a7,fun t ht=>aeD (by omega) (a8 t ht)⟩
theorem FiL.first(h:FiL g n q o s m l){i:Nat}(hi:i<q.a){f x:Nat}(hx:(l.b i zM).next=x)(hfree:sF m.sl (IY o s n i f)=true):x<=f:=by
 obtain⟨_,_,_,_,_,y,b1,b2,b3⟩:=h.all i hi;have:y=x:=by omega
 subst this;rcases aZ f y with h1|h1
 ·have:=b3 f h1
  have e2:IY o s n i f=rV (o.b i 0) (s.b i 0) n f:=rfl;rw[e2,this]at hfree;cases hfree
 ·exact h1
theorem aeE(q:List Nat){i:Nat}(hi:i<q.a):q.b i 0<=mh q:=by
 have h1:∀(t:List Nat)(b:Nat),b<=t.foldl max b:=by
  intro t
  induction t with
  | nil=>intro b;exact av _
  | cons y t ih=>intro b;rw[j3];exact aO (Nat.le_max_left _ _) (ih _)
 have h2:∀(t:List Nat)(b i:Nat),i<t.a->t.b i 0<=t.foldl max b:=by
  intro t
  induction t with
  | nil=>intro b i hi;simp at hi
  | cons y t ih=>
    intro b i hi;rw[j3];cases i with
    | zero=>exact aO (Nat.le_max_right b y) (h1 t _)
    | succ i=>exact ih _ i (by simpa using hi)
 exact h2 q 0 i hi
variable (g n:Nat) (q o s:List Nat)
def FiS(g n:Nat)(q o s:List Nat)(tb sb:Nat)(W:ak)(J:Nat)(wr:ak):Prop:=∃(l:List Tr)(c d:Array aB),FiL g n q o s (jT g n q (IY o s n) J) l/\TrA c l/\SlA d (jT g n q (IY o s n) J).sl/\dM wr tb c/\dM wr sb d/\jM [tb,sb] W wr
theorem agY(tb sb k ck n cn g:Nat)(q o s:List Nat)(c d:Array aB)(l0:List Tr)(W:ak)(hg:mh q=g)(hc:dM W tb c)(hd:dM W sb d)(hne:tb≠sb)(hk:q.a=k)(hT:TrA c l0)(hS:SlA d (dY n (-1)))(hL:FiL g n q o s ⟨q.map fun _=>0,dY n (-1),n⟩ l0)
 (hk1:1<=k) (hk2:k<=100000) (hck:k<=ck) (hn:1<=n) (hn2:n<=100000) (hcn:n<=cn) (hq0:∀x∈q,0<x) (hg2:g<=100000000) (ho:∀i,i<k->o.b i 0<=100000) (hs:∀i,i<k->s.b i 0<=100000) (hf:adi n k (IY o s n)) :
 aP ah 85 #[.a (some ⟨tb,0,none⟩) k ck,.a (some ⟨sb,0,none⟩) n cn] W fun e W'=>e=.a (.I #[])/\(∃d',dM W' sb d'/\SlA d' (Fu n q (IY o s n)))/\jM [tb,sb] W W':=by
 have hqn:q≠[]:=by intro e;rw[e]at hk;simp at hk;omega
 obtain⟨K,_,hK1,hK2,hK3⟩:=YX (n:=n) (ch:=IY o s n) hqn hq0;rw[hg]at hK1 hK2 hK3;have OK:=ab (fun J (hJ:J<=K)=>alY (g:=g) (n:=n) (q:=q) (ch:=IY o s n) (by omega) (by rw[hk];exact hf) J (fun t ht=>hK2 t (by omega)));have HK1:=ab hK1;have HK2:=ab hK2;have HK3:=ab hK3;have HG:=ab hg;have HF:=ab (show adi n q.a (IY o s n)by rw[hk];exact hf);have HKQ:=ab hk;have ST0:=ab (show FiS g n q o s tb sb W 0 W from⟨l0,c,d,hL,hT,hS,hc,hd,jM.refl _ _⟩);have HT:=ab hT;have K8:=ab (hL.len.trans hk);have HQ0:=ab (fun i (hi:i<k)=>(hL.all i (by omega)).1);have HO:=ab ho;have HS':=ab hs;have HNE:=ab hne;have HC:=ab hc;have ZW:=ab (fun i (hi:i<k)=>(by have:=aeE q (i:=i) (by omega);omega:q.b i 0<=g));have HQP:=ab hq0;clear hK1 hK2 hK3 hg hf hk hL hT hS hc hd ho hs hne hqn hq0;go_enter Tryz.func85,Tryz.ntmps85;go_wp2;go_step3;go_wp2;go_loopw [4,12] (fun s4 s12 wr=>∃i:Nat,i<=k/\s12=.b .a i/\s4=.b .a (mh (q.d i):Nat)/\dM wr tb c/\FiS g n q o s tb sb W 0 wr) (fun _ s12 _=>k-(intOf s12).g)
 case atStart=>exact⟨0,jf _,rfl,rfl,HC.i,ST0.i⟩
 case round=>
  obtain⟨i,hi,rfl,rfl,hbc,hst⟩:=hrel;have HB:=ab hbc;have HST:=ab hst;clear hst;by_cases hlt:i<k
  ·have hli:(i:Int)<k:=by omega
   obtain⟨a1,a2,_,_,_⟩:=HT.i.fH hbc (i:=i) (by rw[K8.i];exact hlt);obtain⟨x,hx⟩:=bZ (l0.b i zM);have hxq:x.qY=(q.b i 0:Nat):=by rw[hx];exact HQ0.i i hlt
   rw[<-hx]at a2;have hg1:=Yq q i (by rw[HKQ.i];exact hlt);obtain⟨u,hu⟩:=bZ (mh (q.d i));obtain⟨v,hv⟩:=bZ (q.b i 0);obtain⟨z,hz⟩:=bZ (mh (q.d (i+1)));rw[<-hu,<-hv,<-hz]at hg1;rw[<-hv]at hxq;have m1:max (u:Int) (v:Int)=z:=by omega
   have m2:(if(u:Int)<(v:Int)then(v:Int)else(u:Int))=z:=by split<;>omega
   have X1:=ab (dM.new wr x.ay 155);have b0:=X1.i.J.1 0;rw[Tr.ZV]at b0;have HZ:=ab hz;rw[<-hu];clear hx hu hv hg1 hz hbc;go_wp2;go_roundw
   case rel=>exact⟨i+1,by omega,by go_num,by rw[<-HZ.i],HB.i.alloc _,by obtain⟨l,c1,d1,y1,y2,y3,y4,y5,y6⟩:=HST.i;exact⟨l,c1,d1,y1,y2,y3,y4.alloc _,y5.alloc _,y6.alloc _⟩⟩
   case measure=>simp[intOf]<;>omega
  ·have hik:i=k:=by omega
   have hd:decide ((i:Int)<k)=false:=by simp;omega
   have HGI:=ab (show mh (q.d i)=g by rw[hik,<-HKQ.i,Aj,HG.i]);rw[HGI.i];clear hik;go_wp2;go_step3;go_wp2;have HKP:=ab (show 0<K by
    rcases eu K with h0|h0
    ·have:=HK1.i;rw[h0]at this;simp[jT]at this;omega
    ·exact h0)
   go_loopw [7] (fun s7 wr=>∃(J r:Nat),J=r*k/\J<K/\s7=.b .a ((jT g n q (IY o s n) J).left:Nat)/\FiS g n q o s tb sb W J wr) (fun s7 _=>(intOf s7).g)
   case atStart=>exact⟨0,0,by omega,HKP.i,rfl,HST.i⟩
   case round=>
    obtain⟨J,r,hJ,hJK,rfl,azT⟩:=hrel;have HJ:=ab hJ;have aEP:=ab azT;obtain⟨lf,hlf⟩:=bZ ((jT g n q (IY o s n) J).left);have HLF:=ab hlf;rw[<-hlf];clear hJ azT hlf hd;go_wp2;go_loopw [7,25] (fun s7 s25 wr=>∃(i J2:Nat),i<=k/\s25=.b .a i/\J2=J+i/\J2<K/\s7=.b .a ((jT g n q (IY o s n) J2).left:Nat)/\FiS g n q o s tb sb W J2 wr) (fun _ s25 _=>k-(intOf s25).g)
    case atStart=>exact⟨0,J,jf _,rfl,rfl,hJK,by rw[HLF.i],aEP.i⟩
    case round=>
     obtain⟨i2,J2,hi2,rfl,hJ2,azU,rfl,l,c1,d1,hL,hT,hS,hb1,hb2,hfr⟩:=hrel;have HJ2:=ab hJ2;obtain⟨m,hm⟩:=bZ (jT g n q (IY o s n) J2);have HM:=ab hm;rw[<-hm]at hL hS;rw[<-hm];clear hJ2 hm;by_cases hlt:i2<k
     ·have hli:(i2:Int)<k:=by omega
      have hiq:i2<q.a:=by rw[HKQ.i];exact hlt
      have MOK:=ab (show afL n q m by rw[HM.i];exact OK.i J2 (by omega));have hl0:m.left≠0:=by rw[HM.i];exact HK2.i J2 azU
      have HNX:=ab (show jT g n q (IY o s n) (J2+1)=sW g n q (IY o s n) m i2 by
       rw[HM.i];show sW g n q (IY o s n) _ (J2%q.a)=_;rw[HKQ.i,HJ2.i,HJ.i,DF,Nat.mul_add_mod,fO hlt])
      obtain⟨e1,e2,e3,e4,e5,x,e6,e7,e8⟩:=hL.all i2 hiq;have hll:i2<l.a:=by rw[hL.len];exact hiq
      obtain⟨_,_,k1,k2,k3⟩:=hT.fH hb1 hll;obtain⟨y,hy⟩:=bZ (l.b i2 zM);rw[<-hy]at e1 e2 e3 e4 e6 k1 k2;obtain⟨ci,hci⟩:=bZ (m.cr.b i2 0);obtain⟨qi,hqi⟩:=bZ (q.b i2 0);rw[<-hci]at e4 e5;rw[<-hqi]at e1;rw[e1]at k1;rw[e4]at k2;have hqg:qi<=g:=by rw[hqi];exact ZW.i i2 hlt
      obtain⟨cs,hcs⟩:=bZ (ci+qi);have s1:(ci:Int)+(qi:Int)=cs:=by omega
      have hcs2:cs<=200000000:=by omega
      have s2:=jW (cs:Int) (by omega);have X1:=ab (show dM ((wr.F ⟨tb,i2*5+1,none⟩ (.b .a cs)).drew) tb (c1.c (i2*5+1) (.b .a (cs:Nat)))from hb1.eX (i2*5+1) (.b .a cs));have X2:=ab (show dM ((wr.F ⟨tb,i2*5+1,none⟩ (.b .a cs)).drew) sb d1 from hb2.dP ⟨tb,i2*5+1,none⟩ (.b .a cs) HNE.i);have F1:=ab (show jM [tb,sb] W ((wr.F ⟨tb,i2*5+1,none⟩ (.b .a cs)).drew)from(hfr.set ⟨tb,i2*5+1,none⟩ (.b .a cs) (.a (by simp))).drewN 1);have T1:=ab (hT.put (j:=1) hll (by omega) (.b .a (cs:Nat)) {y with uN:=(cs:Nat)} (by rw[<-hy];exact Tr.Xn y cs));have HL:=ab hL;have HS:=ab hS;have HCI:=ab hci;have HQI:=ab hqi;have HCS:=ab hcs;have HYL:=ab hy;have E2:=ab e2;have E3:=ab e3;have E6:=ab e6;clear hL hT hS hb1 hb2 hfr e1 e2 e3 e4 e6 e7 e8 hy hci hqi hcs;go_upto_region 11 with fail
      go_region;clear k1 k2 k3 s1 s2;generalize(wr.F ⟨tb,i2*5+1,none⟩ (.b .a cs)).drew=w1 at X1 X2 F1 ⊢;obtain⟨_,_,_,k2,k3⟩:=T1.i.fH X1.i (i:=i2) (by rw[aV];exact hll);rw[Cz _ _ _ _ _ hll,if_pos rfl]at k2;simp only at k2;by_cases hlow:cs<g
      ·have hlo:(cs:Int)<g:=by omega
       have HL2:=ab (show FiL g n q o s (jT g n q (IY o s n) (J2+1)) (l.set i2 {y with uN:=(cs:Nat)})by
        have:=HL.i.low hiq (by rw[<-HCI.i,<-HQI.i,<-HCS.i];exact hlow);rw[<-HCI.i,<-HQI.i,<-HCS.i,<-HYL.i]at this;rw[HNX.i];exact this)
       have HM2:=ab (show(jT g n q (IY o s n) (J2+1)).sl=m.sl/\(jT g n q (IY o s n) (J2+1)).left=m.left by
        rw[HNX.i];unfold sW;rw[if_pos (by rw[<-HCI.i,<-HQI.i,<-HCS.i];exact hlow)];exact⟨rfl,rfl⟩)
       have aET:=ab (show J2+1<K by
        rcases aZ (J2+1) K with h1|h1
        ·exact h1
        ·exfalso
         have:J2+1=K:=by omega
         have h2:=HM2.i.2;rw[this,HK1.i]at h2;omega)
       clear hlow;go_wp2;go_roundw
       case rel=>exact⟨i2+1,J2+1,by omega,by go_num,by rw[HJ2.i];omega,aET.i,by rw[HM2.i.2],_,_,_,HL2.i,T1.i,by rw[HM2.i.1];exact HS.i,X1.i,X2.i,F1.i⟩
       case measure=>simp[intOf]<;>omega
      ·have hge:¬(cs:Int)<g:=by omega
       obtain⟨dh,hdh⟩:=bZ (cs-g);have s3:(cs:Int)-(g:Int)=dh:=by omega
       have s4:=jW (dh:Int) (by omega);have HDH:=ab hdh;have X3:=ab (show dM (w1.F ⟨tb,i2*5+1,none⟩ (.b .a dh)) tb ((c1.c (i2*5+1) (.b .a (cs:Nat))).c (i2*5+1) (.b .a (dh:Nat)))from X1.i.eX (i2*5+1) (.b .a dh));have X4:=ab (show dM (w1.F ⟨tb,i2*5+1,none⟩ (.b .a dh)) sb d1 from X2.i.dP ⟨tb,i2*5+1,none⟩ (.b .a dh) HNE.i);have F3:=ab (show jM [tb,sb] W (w1.F ⟨tb,i2*5+1,none⟩ (.b .a dh))from F1.i.set ⟨tb,i2*5+1,none⟩ (.b .a dh) (.a (by simp)));have T3:=ab (show TrA ((c1.c (i2*5+1) (.b .a (cs:Nat))).c (i2*5+1) (.b .a (dh:Nat))) (l.set i2 {y with uN:=(dh:Nat)})by
        have:=T1.i.put (j:=1) (i:=i2) (by rw[aV];exact hll) (by omega) (.b .a (dh:Nat)) {y with uN:=(dh:Nat)} (by rw[Cz _ _ _ _ _ hll,if_pos rfl,Tr.Xn])
        rwa [List.set_set]at this)
       clear X1 X2 T1 hdh;generalize(c1.c (i2*5+1) (.b .a (cs:Nat))).c (i2*5+1) (.b .a (dh:Nat))=c3 at X3 T3;obtain⟨f,hf⟩:=bZ (ff m.sl (IY o s n i2) n);obtain⟨ff1,ff2,ff3⟩:=asu (MOK.i.free HF.i hl0 hiq);rw[<-hf]at ff1 ff2 ff3;have hlen3:i2<(l.set i2 {y with uN:=(dh:Nat)}).a:=by rw[aV];exact hll
       have hget:(l.set i2 {y with uN:=(dh:Nat)}).b i2 zM={y with uN:=(dh:Nat)}:=by rw[Cz _ _ _ _ _ hll,if_pos rfl]
       have q2:=T3.i i2 hlen3 2 (by omega);have q3:=T3.i i2 hlen3 3 (by omega);have q4:=T3.i i2 hlen3 4 (by omega);rw[hget]at q2 q3 q4;rw[Tr.aks]at q2;rw[Tr.arf]at q3;rw[Tr.arh]at q4;simp only[E2.i,E3.i,E6.i]at q2 q3 q4;have CT:=ab (fun(w2:ak) (hb1:dM w2 tb c3) (hb2:dM w2 sb d1)=>agX tb sb (i2*5) i2 n cn (o.b i2 0) (s.b i2 0) x f c3 d1 m.sl w2 hb1 hb2 HNE.i q2 q3 q4 HS.i MOK.i.sll hn hn2 hcn (HO.i i2 hlt) (HS'.i i2 hlt) (HL.i.first hiq (by rw[<-HYL.i];exact E6.i) ff2) ff1
        (fun t _ ht=>of_decide_eq_false (ff3 t ht)) (of_decide_eq_true ff2))
       have HL3:=ab (show FiL g n q o s (jT g n q (IY o s n) (J2+1)) ((l.set i2 {y with uN:=(dh:Nat)}).set i2 {y with uN:=(dh:Nat),next:=(f+1:Nat)})by
        have:=HL.i.high hiq (by rw[<-HCI.i,<-HQI.i,<-HCS.i];exact hlow) (by rw[<-HQI.i];exact hqg) hf ff1 ff3;rw[<-HCI.i,<-HQI.i,<-HCS.i,<-HYL.i,<-HDH.i]at this;rw[HNX.i];exact this)
       have HM3:=ab (show(jT g n q (IY o s n) (J2+1)).sl=m.sl.set (rV (o.b i2 0) (s.b i2 0) n f) i2/\(jT g n q (IY o s n) (J2+1)).left=m.left-1 by
        rw[HNX.i];unfold sW;rw[if_neg (by rw[<-HCI.i,<-HQI.i,<-HCS.i];exact hlow),<-hf];exact⟨rfl,rfl⟩)
       have T4:=ab (T3.i.put (j:=4) hlen3 (by omega) (.b .a (f+1:Nat)) {y with uN:=(dh:Nat),next:=(f+1:Nat)} (by rw[hget];exact Tr.anR _ _));obtain⟨lf2,azV⟩:=bZ (m.left-1);have hmn:m.left<=n:=by
        have:=MOK.i.fr;have h1:=MOK.i.sll;have h2:=List.countP_le_length (p:=fun x:Int=>decide (x = -1)) (l:=m.sl);unfold Jv at this;omega
       have s5:(m.left:Int)-1=lf2:=by omega
       have s6:=jW (lf2:Int) (by omega);rw[<-azV]at HM3;clear hlow ff1 ff2 ff3 hf hget q2 q3 q4 hlen3 azV hmn;by_cases hz:lf2=0
       ·have aEU:=ab (show Fu n q (IY o s n)=m.sl.set (rV (o.b i2 0) (s.b i2 0) n f) i2 by
         have hK:K=J2+1:=by
          rcases aZ (J2+1) K with h1|h1
          ·have:=HK2.i _ h1
           rw[HM3.i.2]at this;exact absurd hz this
          ·omega
         rw[HK3.i,hK,HM3.i.1])
        subst hz;go_wp2_with (go_at_call 169;(with_reducible refine(CT.i _ X3.i X4.i).e ?_);rintro e w3 ⟨rfl,ht1,ht2,ht3⟩;have X5:=ab ht2;have F5:=ab (F3.i.qA ht3);clear ht1 ht2 ht3)
        try rw[Exit.noGoto_normal]
        go_end0;exact⟨rfl,⟨_,X5.i,by rw[aEU.i];exact HS.i.set _⟩,F5.i⟩
       ·have hz2:¬(lf2:Int)=0:=by omega
        have aEV:=ab (show J2+1<K by
         rcases aZ (J2+1) K with h1|h1
         ·exact h1
         ·exfalso
          have:J2+1=K:=by omega
          have h2:=HM3.i.2;rw[this,HK1.i]at h2;omega)
        go_wp2_with (go_at_call 169;(with_reducible refine(CT.i _ X3.i X4.i).e ?_);rintro e w3 ⟨rfl,ht1,ht2,ht3⟩;have X5:=ab ht1;have X6:=ab ht2;have F5:=ab (F3.i.qA ht3);clear ht1 ht2 ht3);go_roundw
        case rel=>exact⟨i2+1,J2+1,by omega,by go_num,by rw[HJ2.i];omega,aEV.i,by rw[HM3.i.2],_,_,_,HL3.i,T4.i,by rw[HM3.i.1];exact HS.i.set _,X5.i,X6.i,F5.i⟩
        case measure=>simp[intOf]<;>omega
     ·have azW:i2=k:=by omega
      have hd2:decide ((i2:Int)<k)=false:=by simp;omega
      have HJR:=ab (show J2=(r+1)*k by rw[HJ2.i,HJ.i,azW,Nat.add_mul];omega);have HLS:=ab (show m.left<lf by
       obtain⟨i0,hi0,hgi⟩:=DU (q:=q) (by intro e;have:=HKQ.i;rw[e]at this;simp at this;omega) HQP.i;rw[HG.i]at hgi;have hp:=aaP (g:=g) (n:=n) (q:=q) (ch:=IY o s n) hi0 hgi r;rw[HKQ.i,<-HJR.i,<-HJ.i,<-HLF.i,<-HM.i]at hp;have h1:=HK2.i J hJK;rw[<-HLF.i]at h1;omega)
      have aEW:=ab (show FiS g n q o s tb sb W J2 wr from⟨l,c1,d1,by rw[<-HM.i];exact hL,hT,by rw[<-HM.i];exact hS,hb1,hb2,hfr⟩);clear hL hT hS hb1 hb2 hfr azW;go_wp2;go_roundw
      case rel=>exact⟨J2,r+1,HJR.i,azU,by rw[HM.i],aEW.i⟩
      case measure=>have:=HLS.i;simp[intOf]<;>omega
end
def ark(l:List pR):Prop:=Xk l/\(∀x∈l,0<=x.q/\x.q<=1024000)/\l.a<=1024
theorem Xk.ne{l:List pR}(h:Xk l){j:Nat}(hj:j+1<l.a):(l.b j lJ).E≠(l.b (j+1) lJ).E:=by
 have:=gy.1 h j (j+1) (by omega) hj (by omega);rw[au,au,aC (by omega),aC hj,jY,jY];intro e;rw[e,rX]at this;cases this
theorem aac{B:Nat}{w W:ak}(h:aL B w W)(q:Nat):aL B w (W.drewN q):=⟨h.os,h.tape,h.output,h.j,h.block⟩
theorem aku(l:List pR)(hk:ark l)(A:Option aT)(n c:Nat)(w:ak)(hR:iE pR.ay 2 w w.a.j A n l):
 aP ah 82 #[.a A n c] w (fT w (.e true)):=by
 have hl:=hR.1;have hn:n<=1024:=by have:=hk.2.2;omega
 have HK:=ab hk;have HR:=ab hR;have HL:=ab hl;clear hk hl;go_enter Tryz.func82,Tryz.ntmps82;go_wp2;go_loopw [7] (fun i wr=>∃k:Nat,k<=n/\i=.b .a k/\aL w.a.j w wr)
  (fun i _=>n-(intOf i).g)
 case atStart=>exact⟨0,jf _,rfl,aG _ _⟩
 case round=>
  obtain⟨k,hkn,rfl,hnx⟩:=hrel;have HN:=ab hnx;by_cases hlt:k<n
  ·have hki:(k:Int)<n:=by omega
   have R1:=ab (HR.i.M HN.i);obtain⟨b,o,hA,hbb,hh,hc⟩:=iE.fH pR.BF lJ R1.i hlt;subst hA;obtain⟨x,hx⟩:=bZ (l.b k lJ);rw[<-hx]at hc;have hxm:x∈l:=by rw[hx,au,aC (by rw[HL.i];omega),jY];exact fG _
   obtain⟨q1,q2⟩:=HK.i.2.1 x hxm;have t1:decide (x.q<0)=false:=by simp;omega
   have t2:decide (x.q>1024000)=false:=by simp;omega
   have t3:decide (1024000<x.q)=false:=by simp;omega
   have HX:=ab hx;have hsz:=hnx.j;have HB1:=ab (hnx.alloc (by omega) (.D x.ay 151));have bx:=ab (dM.new wr x.ay 151);have f0:∀i,(wr.alloc (.D x.ay 151)).b ⟨wr.a.j,i,none⟩=x.ay[i]?:=bx.i.J.1;have s0:=(f0 0).trans (pR.Ea x);have s1:=(f0 1).trans (pR.aq8 x);have i3:=jW ((k:Int)+1) (by omega);clear hx hbb hnx hxm f0 q1 q2 hsz;by_cases h0:0<k
   ·obtain⟨j,hj⟩:∃j,k=j+1:=⟨k-1,by omega⟩
    obtain⟨b2,o2,hA2,NR,hcj⟩:=iE.cell pR.BF lJ ((HR.i.M HN.i).alloc (by have:=HN.i.j;omega) (.D x.ay 151)) (show j<n by omega);obtain⟨y,hy⟩:=bZ (l.b j lJ);have hne:y.E≠x.E:=by
     rw[hy,HX.i,hj];exact HK.i.1.ne (by rw[HL.i];omega)
    rw[<-hy]at hcj;cases hA2;have c0:=(hcj 0 (by omega)).trans (pR.Ea y);rw[mW]at c0;have t4:decide ((k:Int)>0)=true:=by simp;omega
    have t5:decide (0<k)=true:=by simp;omega
    have t6:(y.E==x.E)=false:=by simpa using hne
    have i1:(k:Int)-1=(j:Int):=by omega
    have i2:=jW (j:Int) (by omega);have i4:(j:Int)<n:=by omega
    clear hcj hy hne hj h0 NR;go_wp2_with fail;go_quiet (fail);go_wp2;go_roundw
    case rel=>exact⟨k+1,by omega,by simp,aac HB1.i _⟩
    case measure=>simp[intOf];omega
   ·have t4:decide ((k:Int)>0)=false:=by simp;omega
    have t5:decide (0<k)=false:=by simp;omega
    clear h0;go_wp2_with fail;go_quiet (fail);go_wp2;go_roundw
    case rel=>exact⟨k+1,by omega,by simp,aac HB1.i _⟩
    case measure=>simp[intOf];omega
  ·obtain rfl:k=n:=by omega
   have hd:decide ((k:Int)<k)=false:=by simp
   have t1:decide ((k:Int)<=1024)=true:=by simp;omega
   go_wp2;go_ret;exact⟨rfl,HN.i⟩
theorem akv(x y:Nat)(hx:x<18446744073709551616)(hy:y<18446744073709551616)(w:ak):
 aP ah 242 #[.b .c x,.b .c y] w fun e w'=>e=.a (.I #[.b .c ((x*y/18446744073709551616:Nat):Int),.b .c ((x*y%18446744073709551616:Nat):Int)])/\w=w':=by
 obtain⟨bd,bt,bw,hhi⟩:=Lib.mul64_hi x y hx hy;have ba:=Lib.half_mul_le (a:=x/4294967296) (b:=y/4294967296) (by omega) (by omega);have bb:=Lib.half_mul_le (a:=x/4294967296) (b:=y%4294967296) (by omega) (by omega);have bc:=Lib.half_mul_le (a:=x%4294967296) (b:=y/4294967296) (by omega) (by omega);have ba':x/4294967296*(y/4294967296)<18446744073709551616:=by omega
 have bb':x/4294967296*(y%4294967296)<18446744073709551616:=by omega
 have bc':x%4294967296*(y/4294967296)<18446744073709551616:=by omega
 have bh1:x/4294967296*(y/4294967296)+(x/4294967296*(y%4294967296)+x%4294967296*(y%4294967296)/4294967296)/4294967296<18446744073709551616:=by omega
 have bh:x/4294967296*(y/4294967296)+(x/4294967296*(y%4294967296)+x%4294967296*(y%4294967296)/4294967296)/4294967296+((x/4294967296*(y%4294967296)+x%4294967296*(y%4294967296)/4294967296)%4294967296+x%4294967296*(y/4294967296))/4294967296<18446744073709551616:=by
  rw[hhi];have:=gY (show x<=18446744073709551615 by omega) (show y<=18446744073709551615 by omega);omega
 go_enter Tryz.func242,Tryz.ntmps242;go_wp2;simp only[Mul64.maskN x hx,Mul64.maskN y hy,Mul64.divN,Mul64.mulN,Mul64.addN,vU _ bd,vU _ bb',vU _ bt,Mul64.maskN _ bt,vU _ bc',vU _ bw,vU _ ba',vU _ bh1,vU _ bh,Mul64.wrapM];rw[hhi];go_ret2;exact⟨rfl,rfl⟩
theorem arl(x y:Nat)(hx:x<18446744073709551616)(hy:y<18446744073709551616)(w:ak):
 aP ah 168 #[.b .c x,.b .c y] w fun e w'=>e=.a (.I #[.b .c ((x*y/18446744073709551616:Nat):Int),.b .c ((x*y%18446744073709551616:Nat):Int)])/\w=w':=by
 have C:=ab (akv x y hx hy w);go_enter Tryz.func168,Tryz.ntmps168;go_wp2_with (go_at_call 242;(with_reducible refine C.i.e ?_);rintro e w1 ⟨rfl,rfl⟩);go_ret2;exact⟨rfl,rfl⟩
theorem mul_one(n:Nat)(hn:n<=1000000)(w:ak):
 aP ah 168 #[.b .c 1,.b .c n] w fun e w'=>e=.a (.I #[.b .c 0,.b .c n])/\w=w':=by
 refine(arl 1 n (by decide) (by omega) w).e ?_;rintro e w1 ⟨rfl,rfl⟩;have e1:1*n/18446744073709551616=0:=by omega
 have e2:1*n%18446744073709551616=n:=by omega
 rw[e1,e2];exact⟨rfl,rfl⟩
theorem ait(w:ak)(n:Nat)(hn:n<=1000000):(xU 70 (.b .a n) (.b .a n)).G ah w = .Y (.a (some ⟨w.a.j,0,none⟩) n n) (w.alloc (.D (madeCells #[.b .a 0] n) 3)):=by
 obtain⟨i,h1,h2,h3,h4⟩:=zO (P:=ah) (e:=3) (z:=.b .a 0) (size:=1) (bytes:=8) (by kernel_rfl);have:=run_make w 70 3 i _ oH h1 h2 .a .a (n:Int) (n:Int) (by omega) (by omega) (by rw[h4];omega) (by omega);rw[dU,h3,gL]at this;exact this
theorem agZ{w:ak}{ops:Array iM}{rest:List iM}{o:iM}{a:qG}{Q:yP->qG->ak->Prop}(hg:o.guard=none)(l c:qj)(IU:o.op=Op.makeSlice 70 l c)
 (n:Nat) (hl:a.eval l=.b .a n) (hc:a.eval c=.b .a n) (hn:n<=1000000)
 (hK:wpList ah ops Q rest (a.put o.S (.a (some ⟨w.a.j,0,none⟩) n n)) (w.alloc (.D (madeCells #[.b .a 0] n) 3))):wpList ah ops Q (o::rest) a w:=by
 refine tL hg fun K hK'=>?_
 unfold nG;simp[execOp,IU,hl,hc,ait w n hn,iK];exact hK' _ _ hK
theorem aiu(W:ak){y z m dl dc sl sc:Nat}{a:aT}{vs:List aB}(hm:vs.a=m)(hm2:m=qI sl dl)(hsrc:∀j v,vs[j]? = some v->W.b (a.add j)=some v)(hth:W.K y z m)(h1:∀v∈vs,v.h=true)(ty:bE):
 (Builtin.copy_ #[70,70] ty #[.a (some ⟨y,z,none⟩) dl dc,.a (some a) sl sc]).G ah W = .Y (goInt m) (W.setCells y z vs):=by
 have:=run_copy_cells (P:=ah) W 70 70 ty 3 y z dl dc a sl sc vs oH (by kernel_rfl) (by rw[hm,hm2]) hsrc (fun j hj=>(hth j (by rw[<-hm];exact hj)).1) (fun j hj=>(hth j (by rw[<-hm];exact hj)).2) h1;rw[hm]at this;exact this
theorem ag0{w:ak}{ops:Array iM}{rest:List iM}{o:iM}{a:qG}{Q:yP->qG->ak->Prop}(hgd:o.guard=none)(d s:qj)
 (ho:o.op=.call {callee:=.builtin .copy,args:=#[d,s],argTypes:=#[70,70]}) {y z m dl dc sl sc:Nat} {dp:Option aT} {b:aT} {vs:List aB} (hdp:dp=some ⟨y,z,none⟩) (hd:a.eval d=.a dp dl dc) (hs:a.eval s=.a (some b) sl sc)
 (hm:vs.a=m) (hm2:m=qI sl dl) (hsrc:∀j v,vs[j]? = some v->w.b (b.add j)=some v) (hth:w.K y z m) (h1:∀v∈vs,v.h=true)
 (h:wpList ah ops Q rest (a.put o.S (goInt m)) (w.setCells y z vs)):wpList ah ops Q (o::rest) a w:=by
 subst hdp;refine tL hgd fun K hK=>?_
 unfold nG;simp[execOp,ho,resolve,invoke,builtin,hd,hs,aiu w hm hm2 hsrc hth h1,iK];exact hK _ _ h
theorem anU{w:ak}{ops:Array iM}{o:iM}{a:qG}{K:qG->ak->Prop}{Q:yP->qG->ak->Prop}{E:Prop}(hgd:o.guard=none)(d s:qj)
 (ho:o.op=.call {callee:=.builtin .copy,args:=#[d,s],argTypes:=#[70,70]}) {y z m dl dc sl sc:Nat} (dp:Option aT) {b:aT} {vs:List aB} (hdp:dp=some ⟨y,z,none⟩) (hd:a.eval d=.a dp dl dc) (hs:a.eval s=.a (some b) sl sc)
 (hm:vs.a=m) (hm2:m=qI sl dl) (hsrc:∀j v,vs[j]? = some v->w.b (b.add j)=some v) (hth:w.K y z m) (h1:∀v∈vs,v.h=true)
 (h:K (a.put o.S (goInt m)) (w.setCells y z vs)):if fq o (yielded ops a.tmps)=true then nG ah o a w K Q else E:=by
 subst hdp;have hw:fq o (yielded ops a.tmps)=true:=by simp[fq,hgd]
 rw[if_pos hw];unfold nG;simp[execOp,ho,resolve,invoke,builtin,hd,hs,aiu w hm hm2 hsrc hth h1,iK];exact h
section
attribute [local go_sem high] jd jL
theorem anV(n:Nat)(h:n<18446744073709551616):gB.d (n:Int)=(n:Int):=vU n h
theorem ag1(n:Nat)(hn:1<=n)(hn2:n<=100000)(b cx:Nat)(v:Int)(w:ak)(hx:dM w b #[.b .a v]):
 aP ah 84 #[.a (some ⟨b,0,none⟩) 1 cx,.b .a n] w fun e w'=>∃g d,w.a.j<=g/\e=.a (.a (some ⟨g,0,none⟩) n n)/\dM w' g d/\d.j=n/\SlA d (dY n v)/\aL w.a.j w w':=by
 have MU:=ab (fun w=>mul_one n (by omega) w);have hnI:(1:Int)<=n:=by omega
 have t1:decide ((n:Int)<0)=false:=by simp
 have t2:decide ((n:Int)>9223372036854775807)=false:=by simp;omega
 have t3:decide ((9223372036854775807:Int)<n)=false:=by simp;omega
 have t4:decide (9223372036854775807<n)=false:=by simp;omega
 have u1:=anV n (by omega);have i1:=jW (n:Int) (by omega);obtain⟨d0,hd0⟩:=bZ (madeCells #[.b .a 0] n);have D0:=ab (show d0.j=n by rw[hd0];exact size_madeCells _ _);have HD0:=ab hd0;obtain⟨g,hg⟩:=bZ w.a.j;have BG:=ab (show dM (w.alloc (.D d0 3)) g d0 by rw[hg];exact dM.new w d0 3);have BX:=ab (hx.alloc (.D d0 3));have HG:=ab hg;have HLT:=ab (show b≠g by rw[hg];exact Nat.ne_of_lt hx.lt);have BL:=ab ((aG w.a.j w).alloc (av _) (.D d0 3));have SRC:=ab (show∀j u,[(.b .a v:aB)][j]? = some u->(w.alloc (.D d0 3)).b ((⟨b,0,none⟩:aT).add j)=some u by
  intro j u hu;have:=BX.i.J.1 j;cases j with
  | zero=>simpa[qQ]using this.trans hu
  | succ j=>simp at hu)
 have TH:=ab (BG.i.K 0 1 (by rw[D0.i];omega));have MK:=ab (ait w n (by omega));clear hd0 hg;go_enter Tryz.func84,Tryz.ntmps84;go_wp2_with (first|(go_at_call 168;(with_reducible refine(MU.i _).e ?_);rintro e w1 ⟨rfl,rfl⟩)|(refine agZ rfl (.a 29) (.a 29) rfl n rfl rfl (by omega) ?_;rw[<-HD0.i,<-HG.i];generalize hww:w.alloc (.D d0 3)=w1 at BG BX BL SRC TH⊢;clear hww)|(refine ag0 rfl (.a 31) (.a 32) rfl (y:=g) (z:=0) (m:=1) (vs:=[.b .a v]) rfl rfl rfl rfl (by show 1=min 1 n;omega) SRC.i TH.i (by simp[dx]) ?_));have B1:=ab (BG.i.setCells 0 [.b .a v]);have L1:=ab (yg (B:=w.a.j) (aX HG.i.symm) [.b .a v] 0 _ BL.i);clear SRC TH MU;go_loopw [8] (fun i wr=>∃(k:Nat)(d:Array aB),1<=k/\k<=n/\i=.b .a k/\dM wr g d/\d.j=n/\(∀j,j<k->d[j]? = some (.b .a v))/\aL w.a.j w wr)
  (fun i _=>n-(intOf i).g)
 case atStart=>
  refine⟨1,_,av _,hn,rfl,B1.i,by rw[YA,D0.i],fun j hj=>?_,L1.i⟩;obtain rfl:j=0:=by omega
  rw[EU,if_pos ⟨by omega,by simp,by rw[D0.i];omega⟩];rfl
 case round=>
  obtain⟨k,d,hk1,hkn,rfl,hb,hds,hall,hbel⟩:=hrel;by_cases hlt:k<n
  ·have hki:(k:Int)<n:=by omega
   have aK':(k:Int)<=n:=by omega
   obtain⟨m,hm⟩:=bZ (qI k (n-k));have hm2:m<=k/\0<m/\k+m<=n:=by have e:qI k (n-k)=min k (n-k):=rfl;rw[e]at hm;omega
   obtain⟨k2,hk2⟩:=bZ (k+m);have i2:(k:Int)+(m:Int)=(k2:Int):=by omega
   have i3:=jW (k2:Int) (by omega);have SRC:=ab (show∀j u,(dY m (.b .a v:aB))[j]? = some u->wr.b ((⟨g,0,none⟩:aT).add j)=some u by
    intro j u hu;have h1:=hb.J.1 j;rw[tV]at hu;split at hu
    ·rename_i hj
     rw[hall j (by omega)]at h1;injection hu with hu
     subst hu;by_cases h0:j=0
     ·subst h0;simpa[qQ]using h1
     ·simpa[qQ,h0]using h1
    ·cases hu)
   have TH:=ab (hb.K k m (by rw[hds];omega));have HM:=ab (show m=qI k (n-k)from hm);have HC:=ab (show vQ (some ⟨g,0,none⟩) k n 1=some ⟨g,k,none⟩from Rq (n:=0) hlt);have HR:=ab (show(dY m (.b .a v:aB)).a=m by simp);have HO:=ab (show∀u∈dY m (.b .a v:aB),u.h=true from fun u hu=>by rw[List.eq_of_mem_replicate hu];rfl);have HB:=ab hb;have HDS:=ab hds;have aEX:=ab hall;have aEY:=ab hbel;have HK2:=ab hk2;have HM2:=ab hm2;clear hm hb hds hall hbel hk2 hm2;go_wp2_with fail;go_region_held_law (fun _=>True) (trivial)
    (first|(refine anU (o:=⟨some 45,_,_,_,_,_⟩) rfl (.a 41) (.a 44) rfl (y:=g) (z:=k) (m:=m) (vs:=dY m (.b .a v)) (vQ (some ⟨g,0,none⟩) k n 1) HC.i rfl rfl HR.i HM.i SRC.i TH.i HO.i ?_))
   go_wp2;go_roundw
   case rel=>
    refine⟨k2,_,by have:=HM2.i;have:=HK2.i;omega,by have:=HM2.i;have:=HK2.i;omega,rfl,HB.i.drew.setCells k _,by rw[YA,HDS.i],fun j hj=>?_,yg (aX HG.i.symm) _ _ _ aEY.i.drew⟩;have h1:=HK2.i;have h2:=HM2.i;rw[EU];split
    ·rename_i h3
     simp at h3;have:j-k<m:=by omega
     simp[this]
    ·rename_i h3
     simp at h3;refine aEX.i j ?_;rcases aZ j k with h4|h4
     ·exact h4
     ·have h6:=h3 h4 (by omega)
      have h7:=HDS.i;omega
   case measure=>
    have h1:=HK2.i;have h2:=HM2.i;simp only[intOf,dU];omega
  ·obtain rfl:k=n:=by omega
   have hd:decide ((k:Int)<k)=false:=by simp
   have HB:=ab hb;go_wp2;go_ret;exact⟨g,d,aX HG.i.symm,rfl,HB.i,hds,fun j hj=>by
    rw[pI]at hj;rw[hall j hj,au,tV,if_pos hj];rfl,hbel⟩
end
section
variable {W W':ak} {q g:Nat} {key:Vector UInt8 16} {dS:Int} {s:List (Option Fw)}
theorem Gl.azY(h:Gl W q g key dS s):(yY 22 (.c (some ⟨q,0,none⟩))).G ah W = .Y (.d (jc key)) W:=by
 obtain⟨_,_,_,_,h5,h6⟩:=h.J;rw[Xh.ld W q 0 h6,h5]
theorem Gl.lt(h:Gl W q g key dS s):q<W.a.j/\g<W.a.j:=⟨h.h.lt,h.sl.lt⟩
theorem Xo(T:Gl W q g key dS s)(k:Tu)(hk:uf k):
 aP ah 200 #[.c (some ⟨q,0,none⟩),.d k.ay] W (fT W (.b .a (hmK key s.a k:Nat))):=by
 have T0:=ab (T.alloc (.D k.ay 81));have X0:=ab (dM.new W k.ay 81);have B0:=ab ((aG W.a.j W).alloc (av _) (.D k.ay 81));obtain⟨N,hN⟩:=bZ s.a;obtain⟨h,hh⟩:=bZ (yw key (GH k));have HM:=ab (show hmK key s.a k=h%N by unfold hmK;rw[hN,hh]);have hsz:=T.sz;rw[<-hN]at hsz;have C0:=ab (fun W=>Tf key k hk W);rw[<-hh]at C0;have HN:=ab hN;clear hN hh T;obtain⟨r,hr⟩:=bZ (h%N);have hrl:r<N:=by rw[hr];exact fE _ (by omega)
 have e1:(h:Int)%(N:Int)=(r:Int):=by rw[hr];omega
 have e2:Nq (h:Int) (N:Int)=(r:Int):=by rw[mM (by omega)];exact e1
 have u1:=anV N (by omega);have u2:=anV r (by omega);have i1:=jW (N:Int) (by omega);have i2:=jW (r:Int) (by omega);have z1:¬(N:Int)=0:=by omega
 have z2:¬N=0:=by omega
 rw[<-hr]at HM;clear hr;rw[HM.i];go_enter Tryz.func200,Tryz.ntmps200;go_upto_region 1 with fail
 generalize W.alloc (.D k.ay 81)=w1 at T0 X0 B0 ⊢;obtain⟨T,f,n0,E0,es,ew⟩:=uD (w1);have hT:Nonempty T:=⟨n0⟩
 have ES:=ab es;have EW:=ab ew;have l1:=fun m=>(T0.i.go (es m)).azY
 have l2:=fun m=>qh (X0.i.go (es m))
 have l3:∀m,(f m).b ⟨q,18,none⟩=some (.a (some ⟨g,0,none⟩) N N):=fun m=>by rw[HN.i];exact(T0.i.go (es m)).J.1
 clear es ew;refine lQ f (by kernel_rfl) (by kernel_rfl) n0 E0 ?_
 repeat(go_big_quiet_step ((first|(go_at_call 36;(with_reducible refine(C0.i _).e ?_);rintro e w2 ⟨rfl,hb⟩;exact⟨rfl,EW.i _ ((ES.i _).trans (hb.e (ES.i _).j))⟩))))
 refine eG ?_;rintro _ ⟨m',rfl⟩;have HB:=ab (ES.i m');generalize f m'=wN at *;clear ES EW E0 hT n0;clear l1 l2 l3;go_wp2;go_ret;exact⟨rfl,fJ B0.i HB.i⟩
theorem C8(T:Gl W q g key dS s)(k:Tu)(hk:uf k)(d:Nat)(hd:Found (hmK key s.a) Fw.key s k d):
 aP ah 129 #[.c (some ⟨q,0,none⟩),.d k.ay] W (fT W (.b .a ((hmK key s.a k+d)%s.a:Nat))):=by
 have T0:=ab (T.alloc (.D k.ay 81));have X0:=ab (dM.new W k.ay 81);have B0:=ab ((aG W.a.j W).alloc (av _) (.D k.ay 81));have hsz:=T.sz;have HD:=ab hd;obtain⟨h,hh⟩:=bZ (hmK key s.a k);have hhl:h<s.a:=by rw[hh];exact fE _ (by omega)
 have C0:=ab (fun(W:ak) (T:Gl W q g key dS s)=>Xo T k hk);rw[<-hh]at C0;have HH:=ab hh;obtain⟨N,hN⟩:=bZ s.a;rw[<-hN]at hsz hhl;have HN:=ab hN;clear T hd hh hN;go_enter Tryz.func129,Tryz.ntmps129;go_upto_region 1 with fail
 generalize W.alloc (.D k.ay 81)=w1 at T0 X0 B0 ⊢;have l0:=qh X0.i;go_wp2_with (go_at_call 200;(with_reducible refine(C0.i _ T0.i).e ?_);rintro e w2 ⟨rfl,hb⟩;have T2:=ab (T0.i.go hb);have X2:=ab (X0.i.go hb);have B2:=ab (fJ B0.i hb);clear hb l0);go_loopw [5] (fun v wr=>∃j:Nat,j<=d/\v=.b .a ((h+j)%N:Nat)/\aL w2.a.j w2 wr)
  (fun v wr=>((h+d)%N+N-(intOf v).g)%N)
 case atStart=>exact⟨0,jf _,by rw[mW,fO hhl],aG _ _⟩
 case round=>
  obtain⟨j,hj,rfl,hbw⟩:=hrel;have HB:=ab hbw;have hdN:d<N:=by rw[HN.i];exact HD.i.1
  obtain⟨i,hi⟩:=bZ ((h+j)%N);have hil:i<N:=by rw[hi];exact fE _ (by omega)
  have TR:=ab (T2.i.go hbw);have b1:vK wr W.a.j 0 37:=of_eq_true ((X2.i.go hbw).J.2.2.1 0 37 (by rw[Tu.eB];omega));have b2:dO wr W.a.j 0 37=k.ay:=by rw[(X2.i.go hbw).J.2.2.2 0 37 (by rw[Tu.eB];omega)];exact Tu.kD k
  have l2:wr.b ⟨q,18,none⟩=some (.a (some ⟨g,0,none⟩) N N):=by rw[HN.i];exact TR.i.J.1
  obtain⟨a1,a2,a3,a4,a5,a6,a7⟩:=TR.i.Xd (show i<s.a by rw[<-HN.i];exact hil);rw[<-hi];have hii:(i:Int)<N:=by omega
  obtain⟨i1,hi1⟩:=bZ (i+1);have e0:(i:Int)+1=(i1:Int):=by omega
  have w0:=jW (i1:Int) (by omega);obtain⟨i2,hi2⟩:=bZ (i1%N);have aLa:i2<N:=by rw[hi2];exact fE _ (by omega)
  have e1:(i1:Int)%(N:Int)=(i2:Int):=by rw[hi2];omega
  have e2:Nq (i1:Int) (N:Int)=(i2:Int):=by rw[mM (by omega)];exact e1
  have w2':=jW (i2:Int) (by omega);have z1:¬(N:Int)=0:=by omega
  have z2:¬N=0:=by omega
  have HI:=ab hi;have HI2:=ab (show i2=(h+(j+1))%N by rw[hi2,hi1,hi,Nat.mod_add_mod,nP]);clear a2 a3 a5 a6 hi hi1 hi2 hbw;have HST:=ab (show stops (kf:=Fw.key) s k i=true->j=d from fun h1=>by
   rcases aZ j d with h2|h2
   ·have h3:=HD.i.2.2 j h2
    rw[<-HH.i,<-HN.i,<-HI.i,h1]at h3;cases h3
   ·omega)
  have Et:=ab (show stops (kf:=Fw.key) s k i=false->j<d from fun h1=>by
   rcases aZ j d with h2|h2
   ·exact h2
   ·have h3:=HD.i.2.1
    obtain rfl:j=d:=by omega
    rw[<-HH.i,<-HN.i,<-HI.i,h1]at h3;cases h3)
  cases hat:fH s i with
  | none=>
    rw[hat]at a1 a4;have HE:=ab (HST.i (by unfold stops;rw[hat]));clear a4 a7 hat
    replace a1:wr.b ⟨g,i*42,none⟩=some (.e false):=a1
    go_wp2_with fail;go_quiet (fail);go_wp2;go_ret;refine⟨?_,?_⟩
    ·rw[<-HH.i,<-HN.i,<-HE.i,<-HI.i];rfl
    ·exact eH (fJ B2.i HB.i) _
  | some x=>
    rw[hat]at a1 a4
    replace a1:wr.b ⟨g,i*42,none⟩=some (.e true):=a1
    replace a4:dO wr g (i*42+1) 37=x.key.ay:=a4
    by_cases hxk:x.key=k
    ·have HE:=ab (HST.i (by unfold stops;rw[hat];simp[hxk]))
     have t1:decide (x.key=k)=true:=by simp[hxk]
     clear hxk hat;go_wp2_with fail;go_quiet (fail);go_wp2;go_ret;refine⟨?_,?_⟩
     ·rw[<-HH.i,<-HN.i,<-HE.i,<-HI.i];rfl
     ·exact eH (fJ B2.i HB.i) _
    ·have HE:=ab (Et.i (by unfold stops;rw[hat];simp[hxk]))
     have t1:decide (x.key=k)=false:=by simp[hxk]
     clear hxk hat;go_wp2_with fail;go_quiet (fail);go_wp2;go_roundw
     case rel=>exact⟨j+1,HE.i,by rw[HI2.i],eH HB.i _⟩
     case measure=>
      have h1:=HE.i;have e3:=wT (N:=N) (a:=h+d) (by omega);have e4:=HI.i;rw[wT (N:=N) (a:=h+j) (by omega)]at e4;have e5:=HI2.i;rw[wT (N:=N) (a:=h+(j+1)) (by omega)]at e5;simp only[intOf,dU];rw[e3];generalize hM:(if h+d<N then h+d else h+d-N)=M;have hM2:M<N:=by rw[<-hM];split<;>omega
      rw[wT (N:=N) (a:=M+N-i2) (by omega),wT (N:=N) (a:=M+N-i) (by omega)];rw[e4,e5,<-hM]
      repeat' split
      all_goals omega
end
section
variable {W W':ak} {q g:Nat} {key:Vector UInt8 16} {dS:Int} {s:List (Option Fw)} {l:List Fw}
theorem kFw:pK 86 41 jw.ay:=⟨⟨_,lW,rfl⟩,by kernel_rfl,by kernel_rfl,Fw.r _⟩
theorem azZ(w:ak)(fs:Array oh)(h:ah.k 86=some (.struct fs)):(iF (fun f=>Prod.mk f.X <$> sizeOf f.type) fs:Sem (Array (Nat×Nat))).G ah w = .Y #[(0,37),(37,1),(38,1),(39,1),(40,1)] w:=by
 have e:=lW;rw[h]at e;cases e;show _=_
 kernel_rfl
@[go_sem]theorem axz(W:ak):(aue #[]).G ah W = .Y (.d jw.ay) W:=kFw.bd0 W _ lW ⟨_,azZ W _ lW⟩
structure Ls(W:ak)(q g:Nat)(key:Vector UInt8 16)(dS:Int)(s:List (Option Fw))(l:List Fw):Prop where
 w:Gl W q g key dS s
 r:TbR (hmK key s.a) s l
 Y:wP dS l
theorem Ls.go(h:Ls W q g key dS s l)(hb:aL W.a.j W W'):Ls W' q g key dS s l:=⟨h.w.go hb,h.r,h.Y⟩
theorem BH{t:Tu}(h:Ev t=true):uf t:=by
 unfold Ev XW at h;simp only[bf,decide_eq_true_eq]at h;unfold uf;omega
theorem Ls.Wn(h:Ls W q g key dS s l)(k:Tu):∃d,Found (hmK key s.a) Fw.key s k d/\fH s ((hmK key s.a k+d)%s.a)=qv l k:=by
 obtain⟨d,hd⟩:=h.r.tab.found k;exact⟨d,hd,h.r.stop h.Y hd⟩
theorem wP.none{dS:Int}(h:wP dS l){k:Tu}(hk:Ev k=false):qv l k=none:=by
 cases hf:qv l k with
 | none=>rfl
 | some x=>
   obtain⟨h1,h2⟩:=xP hf;have:=wW (h.Y x h1);rw[h2,hk]at this;cases this
def anW(o:Option Fw):aB:=.I #[.d (wH o).rH.ay,.e o.isSome]
theorem La(T:Ls W q g key dS s l)(k:Tu):
 aP ah 126 #[.c (some ⟨q,0,none⟩),.d k.ay] W (fT W (anW (qv l k))):=by
 have Z0:=ab (((Bx.start W).new k.ay 81).new jw.ay 86);rw[show(W.alloc (.D k.ay 81)).a.j=W.a.j+1 by simp]at Z0;have CK:=ab (fun w=>KU k w);obtain⟨ok,hok⟩:=bZ (Ev k);rw[<-hok]at CK;have HT:=ab T;have Dt:=ab hok;have HLT:=ab T.w.lt;obtain⟨o,ho⟩:=bZ (qv l k);rw[<-ho];have HO:=ab ho.symm;clear T hok ho;go_enter Tryz.func126,Tryz.ntmps126;go_upto_region 1 with fail
 generalize(W.alloc (.D k.ay 81)).alloc (.D jw.ay 86)=w1 at Z0 ⊢;have l1:=qh Z0.i.b1;have HE:=ab (fun(w':ak) (x:Fw) (h:Bx [(W.a.j+1,jw.ay),(W.a.j,k.ay)] W w')=>show dM (AO w' (W.a.j+1) 0 x) (W.a.j+1) x.ay/\aL W.a.j W (AO w' (W.a.j+1) 0 x)from
  have k2:=h.put (fun p hp=>by rw[fV.1 hp];simp) x.ay (by rw[Fw.r,Fw.r])
  ⟨k2.R,k2.O⟩)
 cases ok
 ·have HN:=ab (HT.i.Y.none Dt.i.symm)
  rw[HO.i]at HN;go_wp2_with (go_at_call 115;(with_reducible refine(CK.i _).e ?_);rintro e w2 ⟨rfl,hb⟩;have Z2:=ab (Z0.i.go hb);clear hb l1;have yZ:=Z2.i.R.K 0 41 (aX (Fw.r _).symm));refine aN (kFw.qW rfl _ rfl (HE.i _ jw Z2.i).1 (Fw.r _)) rfl ?_;exact⟨by rw[HN.i];rfl,(HE.i _ jw Z2.i).2⟩
 ·go_wp2_with (go_at_call 115;(with_reducible refine(CK.i _).e ?_);rintro e w2 ⟨rfl,hb⟩;have Z2:=ab (Z0.i.go hb);clear hb l1)
  obtain⟨d,hd,hat⟩:=HT.i.Wn k;have hsz:=HT.i.w.sz;obtain⟨i,hi⟩:=bZ ((hmK key s.a k+d)%s.a);have hil:i<s.a:=by rw[hi];exact fE _ (by omega)
  have CF:=ab (fun(w:ak) (h:Bx [(W.a.j+1,jw.ay),(W.a.j,k.ay)] W w)=>C8 (HT.i.w.go h.O) k (BH Dt.i.symm) d hd);rw[<-hi]at CF hat;have HAT:=ab hat;have HIL:=ab hil;obtain⟨N,hN⟩:=bZ s.a;have HN:=ab hN;have hii:(i:Int)<N:=by omega
  rw[HO.i]at HAT;clear hd hat hi hil hN hsz;refine Rl (Bx.abK ([(W.a.j+1,jw.ay),(W.a.j,k.ay)]) W) 9 10 6 213 Ib.ay (by kernel_rfl) rfl (by kernel_rfl) (by decide) (by decide) (by kernel_rfl) (by kernel_rfl) (by kernel_rfl) rfl rfl rfl (fun a w=>by simp[go_sem]) Z2.i.drew ?_;apply Exists.intro;refine⟨fun T f hT es ew=>?_,?_⟩
  ·have EW:=ab ew
   have ES:=ab es;have l1:=fun m=>qh (ES.i m).b1
   have l2:∀m,(f m).b ⟨q,18,none⟩=some (.a (some ⟨g,0,none⟩) N N):=fun m=>by rw[HN.i];exact(HT.i.w.go (ES.i m).O).J.1
   have l3:∀m,vK (f m) g (i*42) 42:=fun m=>((HT.i.w.go (ES.i m).O).Xd HIL.i).2.2.2.2.1
   have l4:∀m,dO (f m) g (i*42) 42=(wH o).ay:=fun m=>by rw[((HT.i.w.go (ES.i m).O).Xd HIL.i).2.1,HAT.i]
   have CG:=ab (fun m=>CF.i (f m) (ES.i m));clear es ew;simp only[lq,bK,bR,jA,j6]
   repeat(go_big_quiet_step ((first|(go_at_call 129;(with_reducible refine(CG.i _).e ?_);rintro e w2 ⟨rfl,hb⟩;exact⟨rfl,EW.i _ _ hb⟩))))
   exact eG rfl
  ·intro w9 w8 Ad _ hb
   have ZN:=(Ad.new Ib.ay 213).go hb;have hy:=Ad.O.j;have hyW:W.a.j+1<w9.a.j:=Ad.R.lt;have ZN:=ab ZN;generalize w9.a.j=y at *;clear Ad hb;simp only[Act.put,List.setIfInBounds_toArray,bK,bR,List.drop_succ_cons,lH];have hne:=ab (show∀p∈[(W.a.j+1,jw.ay),(W.a.j,k.ay)],p.1≠y from fun p hp=>by simp at hp;rcases hp with rfl|rfl<;>simp<;>omega);have HYW:=ab hyW;clear hyW hy;have yZ:=ZN.i.R.K 0 42 (aX (Sl.r Ib).symm);have Z5:=ab (ZN.i.put hne.i (wH o).ay (by rw[Sl.r,Sl.r]));go_step;go_simp;go_step;go_step;clear yZ ZN;generalize gX w8 y 0 (wH o).ay=w6 at Z5 ⊢;have b0:=Z5.i.R;have f1:w6.b ⟨y,0,none⟩=some (.e o.isSome):=by rw[b0.J.1 0,Sl.PE,J6]
   have f2:vK w6 y 1 41:=of_eq_true (b0.J.2.2.1 1 41 (by rw[Sl.eB];omega));have f3:dO w6 y 1 41=(wH o).rH.ay:=by rw[b0.J.2.2.2 1 41 (by rw[Sl.eB];omega)];exact Sl.UN _
   have yZ:=Z5.i.b1.K 0 41 (aX (Fw.r _).symm);have Z7:=ab (show Bx [(W.a.j+1,(wH o).rH.ay),(y,(wH o).ay),(W.a.j,k.ay)] W (AO w6.drew (W.a.j+1) 0 (wH o).rH)from Z5.i.drew.swap.put (fun p hp=>by have:=HYW.i;simp at hp;rcases hp with rfl|rfl<;>simp<;>omega) (wH o).rH.ay (by rw[Fw.r,Fw.r]));have f4:(AO w6.drew (W.a.j+1) 0 (wH o).rH).b ⟨y,0,none⟩=some (.e o.isSome):=by rw[Z7.i.b1.J.1 0,Sl.PE,J6]
   clear b0;go_wp2_with fail;go_region;go_wp2;refine aN (kFw.qW rfl _ rfl Z7.i.R (Fw.r _)) rfl ?_;exact⟨rfl,Z7.i.O⟩
end
theorem anX(N:Nat):madeCells Ib.ay (N*42)=Xb (dY N none):=by
 apply dZ;intro j;by_cases hj:j<N*42
 ·have e:j=j/42*42+j%42:=by omega
  have h1:(Xb (dY N none))[j]? = (slC (fH (dY N none) (j/42)))[j%42]?:=by
   conv=>lhs;rw[e]
   exact K9 _ _ _ (by rw[pI];omega) (by omega)
  have h2:fH (dY N (none:Option Fw)) (j/42)=none:=by unfold fH;rw[au,tV];split<;>rfl
  rw[h1,h2];have h3:Ib.ay.j=42:=Sl.r _;have h4:j%42<Ib.ay.j:=by omega
  simp only[madeCells,Array.getElem?_map,Array.getElem?_range,h3,hj,if_true,mE];show some Ib.ay[j%42]! = (wH none).ay[j%42]?;show some Ib.ay[j%42]! = Ib.ay[j%42]?;rw[fF h4];congr 1;exact getElem!_pos Ib.ay (j%42) h4
 ·rw[aU (by rw[size_madeCells];omega),aU (by rw[vE,pI];omega)]
theorem anY(w:ak)(N:Nat)(hN:N<=100000):(xU 205 (.b .a N) (.b .a N)).G ah w = .Y (.a (some ⟨w.a.j,0,none⟩) N N) (w.alloc (.D (Xb (dY N none)) 213)):=by
 obtain⟨i,h1,h2,h3⟩:=kSl.ags;have hb:i.bytes<=1000:=by
  have:(ah.info? 213).map (fun i=>decide (i.bytes<=1000))=some true:=by kernel_rfl
  rw[h1]at this;simpa using this
 have:=run_make w 205 213 i _ Tryz.underlying205 h1 h3 .a .a (N:Int) (N:Int) (by omega) (by omega) (by have h5:=gY hb hN;rw[<-Int.natCast_mul];omega) (by omega);rw[dU,h2]at this;rw[this];show _=Result.ok _ (w.alloc (.D _ _));rw[<-anX];rfl
theorem arn(key:Vector UInt8 16):sV akk.ay 0 (jc key)=jc key ++ #[aI .a 0,.b .a 0,.a none 0 0]:=by
 show sV (jc (bJ 16 0) ++ #[aI .a 0,.b .a 0,.a none 0 0]) 0 (jc key)=_;exact Hu (by rw[dN,dN])
@[go_sem]theorem az0(W:ak)(key:Vector UInt8 16)(dS:Int)(A:Option aT)(n c:Nat):(uW 207 #[(0,.d (jc key)),(1,.b .a dS),(3,.a A n c)]).G ah W = .Y (.d (Tk.mk key dS 0 A n c).ay) W:=
 kTk.bd W _ _ _ _ Em (aEE W _ Em) (by
  show fD _ akk.ay [(0,.d (jc key)),(1,.b .a dS),(3,.a A n c)]=_;rw[EX _ _ 0 0 16 _ _ rfl (by show(jc key).j=16;rw[dN]) (by rw[Tk.r];omega)];show fD _ (sV akk.ay 0 (jc key)) _=_;rw[arn,<-Array.append_empty (xs:=jc key ++ #[aI .a 0,.b .a 0,.a none 0 0])];rw[oW 1 16 _ _ _ _ rfl rfl (by simp[dN]),oW 3 18 _ _ _ _ rfl rfl (by simp[dN])];simp[fD,Tk.ay,aM,dN])
def az1(l c:aB):Sem aB:=xU 205 l c
@[go_sem ↓]theorem aB6(l c:aB):xU 205 l c=az1 l c:=rfl
def as4(w:ak)(key:Vector UInt8 16)(dS:Int)(e:lU)(w':ak):Prop:=
 ∃q g s,e=.a (.I #[.c (some ⟨q,0,none⟩),.b .a 0])/\Ls w' q g key dS s []/\dS*2<=s.a/\w.a.j<=q/\w.a.j<=g/\aL w.a.j w w'
theorem akw(key:Vector UInt8 16)(r:Nat)(h1:1<=r)(h2:r<=4096)(w:ak):
 aP ah 62 #[.d (jc key),.b .a r] w (as4 w key r):=by
 have Z0:=ab ((Bx.start w).new (jc key) 22);have t1:decide ((r:Int)<1)=false:=by simp;omega
 have t2:decide ((r:Int)>4096)=false:=by simp;omega
 have t3:decide ((4096:Int)<r)=false:=by simp;omega
 have t4:decide (4096<r)=false:=by simp;omega
 have t5:decide (r<1)=false:=by simp;omega
 have t6:decide (r=0)=false:=by simp;omega
 obtain⟨r2,hr2⟩:=bZ (2*r);have e1:(2:Int)*(r:Int)=(r2:Int):=by omega
 have i1:=jW (r2:Int) (by omega);have HR2:=ab hr2;clear hr2;go_enter Tryz.func62,Tryz.ntmps62;go_upto_region 1 with fail
 generalize w.alloc (.D (jc key) 22)=w1 at Z0 ⊢;go_wp2;go_loopw [6] (fun v wr=>∃N:Nat,1<=N/\N<=2*r2/\v=.b .a N/\wr=w1) (fun v _=>2*r2-(intOf v).g)
 case atStart=>exact⟨1,av _,by have:=HR2.i;omega,rfl,by first|rfl|trivial⟩
 case round=>
  obtain⟨N,hN1,hN2,rfl,rfl⟩:=hrel;have hr:=HR2.i;by_cases hlt:N<r2
  ·have hki:(N:Int)<r2:=by omega
   obtain⟨N2,az2⟩:=bZ (N*2);have e2:(N:Int)*2=(N2:Int):=by omega
   have i2:=jW (N2:Int) (by omega);have Rw:=ab az2;clear az2 hr;go_wp2;go_roundw
   case rel=>exact⟨N2,by have:=Rw.i;omega,by have:=Rw.i;omega,rfl,by first|rfl|trivial⟩
   case measure=>have:=Rw.i;simp only[intOf,dU];omega
  ·have hki:¬(N:Int)<r2:=by omega
   have hd:decide ((N:Int)<r2)=false:=by simpa using hki
   have hd2:decide (N<r2)=false:=by simpa using hlt
   have mk:=fun w=>anY w N (by omega)
   have Z1:=ab Z0.i.drew;have l1:=Xh.ni Z1.i.R (dN _);have l2:=Xh.ni ((Z0.i.alloc (.D (Xb (dY N none)) 213)).drew).R (dN _);have l3:=Xh.ni (Z1.i.alloc (.D (Xb (dY N none)) 213)).R (dN _);clear hr hlt;go_wp2_with fail
   replace mk:∀w,(az1 (.b .a N) (.b .a N)).G ah w = .Y (.a (some ⟨w.a.j,0,none⟩) N N) (w.alloc (.D (Xb (dY N none)) 213)):=mk
   go_region;go_wp2;go_ret2;have hr:=HR2.i;have hsz:=Z0.i.O.j;have hlt:¬N<r2:=by omega
   refine⟨wr.a.j+1,wr.a.j,dY N none,rfl,⟨⟨?_,?_,by omega,by rw[pI];omega⟩,?_,wP.nil (by omega)⟩,by rw[pI];omega,by omega,by omega,?_⟩
   ·rw[Vt,pI]
    exact(dM.TJ wr _ _ _).drew
   ·exact((dM.new wr _ _).alloc _).drew
   ·exact TbR.new (by omega) (fun k=>by rw[pI];exact fE _ (by omega))
   ·exact(((Z0.i.O.alloc hsz _).alloc (by simp;omega) _)).drew
section
open Go.RowKit Go.Shelf
attribute [local go_sem] qK
theorem aad{α:Type}(a b:List (Option α)):iA (a++b)=iA a++iA b:=by simp[iA]
theorem Xp{α:Type}(s:List (Option α))(k:Nat)(hk:k<s.a):iA (s.d (k+1))=iA (s.d k)++(fH s k).a:=by
 rw[dF hk,aad];congr 1;unfold fH;rw[au,aC hk,jY];cases s[k]<;>rfl
theorem aae{α:Type}(s:List (Option α))(k:Nat):iA (s.d k) <+: iA s:=by
 have:iA s=iA (s.d k)++iA (s.f k):=by rw[<-aad,List.take_append_drop]
 rw[this];exact List.prefix_append _ _
theorem FQ{α:Type}(s:List (Option α)):(iA s).a<=s.a:=List.length_filterMap_le _ _
theorem Gl.anZ{W W':ak}{q g n₀:Nat}{key:Vector UInt8 16}{dS:Int}{s:List (Option Fw)}(h:Gl W q g key dS s)(hb:aL n₀ W W')(hq:q<n₀/\g<n₀):Gl W' q g key dS s:=⟨h.h.M hb hq.1,h.sl.M hb hq.2,h.ne,h.sz⟩
theorem akx(F:LC)(n:Nat)(hf:F.fn 202)(hro:F.round=none)(hn:1<=n)(l Bs n₀ B0:Nat)(q g:Nat)(key:Vector UInt8 16)(dS:Int)(s:List (Option Fw))(J Jx:List Fw->ak->Prop)(hJ:AbidesFrom B0 J)
 (hY:∀pre x W,J pre W->pre.a<s.a->YieldAt F (n-1) ah l #[.d x.ay] W fun e W'=>
  (e=.a (.e true)/\J (pre++[x]) W'/\aL n₀ W W')\/(e=.a (.e false)/\Jx (pre++[x]) W'))
 (W:ak) (hn₀:n₀<=W.a.j) (hB0:B0<=W.a.j) (Q8:W.b ⟨Bs,0,none⟩=some (.c (some ⟨q,0,none⟩))) (T:Gl W q g key dS s) (hqg:q<n₀/\g<n₀) (h0:J [] W) :
 Nn F n ah 202 #[.func (.yield l) #[] #[],.c (some ⟨Bs,0,none⟩)] W fun e W'=>(∃v,e=.a v) /\
  ((∃ys,ys=iA s/\J ys W')\/(∃pre,pre <+: iA s/\Jx pre W')):=by
 have hsz:=T.sz;obtain⟨N,hN⟩:=bZ s.a;have l2:W.b ⟨q,18,none⟩=some (.a (some ⟨g,0,none⟩) N N):=by rw[hN];exact T.J.1
 have HT:=ab T;have HN:=ab hN;rw[<-hN]at hsz;clear hN T;refine Dm Tryz.func202 rfl hf ?_ hro;simp only[Tryz.ntmps202,dL,bD,gP,kT,kU,gH,gI,iT,gU,dH,gW];gi_wp2;gi_loopw [10] (fun i wr=>∃k:Nat,k<=N/\i=.b .a k/\J (iA (s.d k)) wr/\aL n₀ W wr)
  (fun i _=>N-(intOf i).g)
 case atStart=>exact⟨0,jf _,rfl,h0,aG _ _⟩
 case round=>
  obtain⟨k,hk,rfl,hJs,hnx⟩:=hrel;by_cases hlt:k<N
  ·have hki:(k:Int)<N:=by omega
   have TR:=ab (HT.i.anZ hnx hqg);have hks:k<s.a:=by rw[<-HN.i];exact hlt
   obtain⟨_,a2,_,_,a5,_,_⟩:=TR.i.Xd hks;have hET:=Xp s k hks;have bx:=dM.new wr (wH (fH s k)).ay 213;have f1:=(bx.J.1 0).trans (Sl.PE _);rw[J6]at f1;have f2:vK (wr.alloc (.D (wH (fH s k)).ay 213)) wr.a.j 1 41:=of_eq_true (bx.J.2.2.1 1 41 (by rw[Sl.eB];omega));have f3:dO (wr.alloc (.D (wH (fH s k)).ay 213)) wr.a.j 1 41=(wH (fH s k)).rH.ay:=by rw[bx.J.2.2.2 1 41 (by rw[Sl.eB];omega)];exact Sl.UN _
   have hsz2:=hnx.j;have Rw:=ab (hnx.alloc (by omega) (.D (wH (fH s k)).ay 213));have HJA:=ab (Ic hJ hJs (.D (wH (fH s k)).ay 213));clear bx hsz2;cases hat:fH s k with
   | none=>
     rw[hat]at a2 f1 f2 f3 Rw HJA hET
     replace f1:(wr.alloc (.D (wH none).ay 213)).b ⟨wr.a.j,0,none⟩=some (.e false):=f1
     have Et:=ab (show iA (s.d (k+1))=iA (s.d k)by rw[hET];simp);clear hET hat f2 f3;gi_wp2;refine⟨fun f h=>(by cases h),?_⟩;gi_wp2;go_roundw
     case rel=>exact⟨k+1,by omega,by simp,by rw[Et.i];exact HJA.i,Rw.i⟩
     case measure=>simp[intOf];omega
   | some x=>
     rw[hat]at a2 f1 f2 f3 Rw HJA hET
     replace f1:(wr.alloc (.D (wH (some x)).ay 213)).b ⟨wr.a.j,0,none⟩=some (.e true):=f1
     replace f3:dO (wr.alloc (.D (wH (some x)).ay 213)) wr.a.j 1 41=x.ay:=f3
     have Et:=ab (show iA (s.d k)++[x]=iA (s.d (k+1))by rw[hET];simp);clear hET hat;obtain⟨fn,tmps,assign,body,hy,hRd⟩:=hY _ x _ HJA.i (by have:=FQ (s.d k);rw[bH]at this;omega);gi_wp2;refine hRd.e ?_;rintro e W3 (⟨rfl,hJ3,hk3⟩|⟨rfl,hJx3⟩)
     ·gi_wp2
      go_roundw
      case rel=>exact⟨k+1,by omega,by simp,by rw[<-Et.i];exact hJ3,Rw.i.trans hk3⟩
      case measure=>simp[intOf];omega
     ·gi_wp2
      refine aN (vI rfl _ _ _) rfl ?_;exact⟨⟨_,rfl⟩,.b ⟨_,by rw[Et.i];exact aae _ _,hJx3⟩⟩
  ·obtain rfl:k=N:=by omega
   have hd:decide ((k:Int)<k)=false:=by simp
   gi_wp2;go_end0;exact⟨⟨_,rfl⟩,.a ⟨_,by rw[HN.i,Aj],hJs⟩⟩
end
section
open Go.RowKit Go.Shelf
abbrev OkF:={x:Fw // AY x=true}
instance:Inhabited OkF:=⟨⟨⟨afA,[97],1,0,0⟩,by kernel_rfl⟩⟩
theorem an0:∀(ys:List Fw),(∀x∈ys,AY x=true)->∃zs:List OkF,zs.map (·.1)=ys
 | [],_=>⟨[],rfl⟩
 | y::ys,h=>by
   obtain⟨zs,hz⟩:=an0 ys (fun x hx=>h x (j5 _ hx));exact⟨⟨y,h y (mH ..)⟩::zs,by simp[hz]⟩
theorem aaf(zs:List OkF):(zs.h fun x=>x.1.ay.a)=(zs.map (·.1)).h fun x=>x.ay.a:=by
 induction zs with
 | nil=>rfl
 | cons z zs ih=>simp[jl]
theorem akz{a b c:List UInt8}(h1:bI a b=false)(h2:bI b c=false):bI a c=false:=by
 cases h3:bI a c with
 | false=>rfl
 | true=>
   exfalso;cases h4:bI b a with
   | true=>rw[yC _ _ _ h4 h3]at h2;cases h2
   | false=>
     have:=zX _ _ h1 h4;subst this;rw[h3]at h2;cases h2
theorem ab5{a b c:Fw}(h1:kG a b=false)(h2:kG b c=false):kG a c=false:=by
 unfold kG at *;by_cases e1:a.no=b.no
 ·rw[if_pos e1]at h1
  by_cases e2:b.no=c.no
  ·rw[if_pos e2]at h2
   rw[if_pos (e1.trans e2)];exact akz h1 h2
  ·rw[if_neg e2]at h2
   rw[if_neg (by omega)];simp at h2 ⊢;omega
 ·rw[if_neg e1]at h1
  simp at h1;by_cases e2:b.no=c.no
  ·rw[if_neg (by omega)]
   simp;omega
  ·rw[if_neg e2]at h2
   simp at h2;rw[if_neg (by omega)];simp;omega
def arp(x y:OkF):Int:=ab0 x.1 y.1
theorem an1:Sort.SWO (ltOf arp):=by
 have e:∀x y,ltOf arp x y=kG x.1 y.1:=fun x y=>ab1 x.1 y.1
 refine⟨fun x=>?_,fun x y z h1 h2=>?_,fun x y z h1 h2=>?_⟩
 ·rw[e];exact ug.irr _
 ·rw[e]at *;exact ug.tr _ _ _ h1 h2
 ·rw[e]at *;exact ab5 h1 h2
theorem Eb{x:Fw}(h:AY x=true):uf x.key/\0<=x.no/\x.no<=1152921504606846976:=by
 refine⟨BH (wW h),?_⟩;unfold AY XW at h;simp only[bf,decide_eq_true_eq]at h;omega
theorem arq(w:ak):(isAgg 86).G ah w = .Y true w:=by simp[isAgg,dJ lW]
theorem avI(w:ak):(Go.sizeOf 86).G ah w = .Y 41 w:=by
 obtain⟨i,hi,hi2,_⟩:=kFw.ags;rw[run_sizeOf w hi];have hc:ah.cellsOf 86=41:=by simp[Program.cellsOf,hi,hi2]
 rw[hc]
theorem akA(x y:OkF)(w:ak):aP ah 117 #[.d x.1.ay,.d y.1.ay] w (fT w (.b .a (arp x y))):=by
 obtain⟨h1,h2⟩:=Eb x.2;obtain⟨h3,h4⟩:=Eb y.2;exact Ti x.1 y.1 h1 h3 h2 h4 w
theorem Me(l ys:List Fw)(dS:Int)(hl:wP dS l)(hp:ys.Perm l)(hn:ys.a<=1000000)(W:ak)(base:Nat)(A:Option aT)(c:Nat)(h:W.c base 86 41 (.a A ys.a c) ys.a (ys.h fun x=>x.ay.a)):
 aP ah 151 #[.a A ys.a c,.func (.func 117) #[] #[]] W fun e w'=>e=.a (.I #[])/\w'.c base 86 41 (.a A ys.a c) ys.a (l.h fun x=>x.ay.a)/\W.d w' (bC A ys.a c).f:=by
 obtain⟨zs,hz⟩:=an0 ys (fun x hx=>hl.Y x (hp.mem_iff.1 hx));have hlen:zs.a=ys.a:=by rw[<-hz,bV]
 have hc:=aaf zs;rw[hz]at hc;rw[<-hc]at h;refine(ZO avE 41 arq avI (fun x:OkF=>x.1.ay) (fun x=>Fw.r x.1) (fun x=>Fw.dw x.1) arp an1 117 (fun args w=>rfl) base 86 A ys.a c zs W hlen hn h akA).e ?_;rintro e w' ⟨rfl,l',h1,h2,h3,h4⟩;refine⟨rfl,?_,h4⟩;rw[aaf]at h3;have hp2:(l'.map (·.1)).Perm l:=((h1.map _).trans (by rw[hz])).trans hp;have hone:(l'.map (·.1)).Pairwise fun x y=>x.key≠y.key:=(hp2.pairwise_iff (fun{a b} (hab:a.key≠b.key)=>Ne.symm hab)).2 hl.one
 have hasc:Asc kG (l'.map (·.1)):=by
  have h5:(l'.map (·.1)).Pairwise fun x y=>kG y x=false:=by
   rw[zB];exact h2.imp (fun{a b} hab=>by rw[<-hab];exact(ab1 b.1 a.1).symm)
  refine List.Pairwise.imp_of_mem ?_ (h5.and hone);rintro a b ha hb ⟨h6,h7⟩;rcases Sz (OG (wW (hl.Y a (hp2.mem_iff.1 ha)))) (OG (wW (hl.Y b (hp2.mem_iff.1 hb)))) h7 with h8|h8
  ·exact h8
  ·rw[h6]at h8;cases h8
 rw[<-Asc.eq ug hasc hl.asc hp2];exact h3
end
section
open Go.RowKit Go.Shelf
variable {W W':ak} {q g:Nat} {key:Vector UInt8 16} {dS:Int} {s:List (Option Fw)} {l:List Fw}
theorem Rx(q:Nat)(w:ak):
 aP ah 132 #[.c (some ⟨q,0,none⟩)] w fun e w'=>e=.a (.func (.func 202) #[] #[.c (some ⟨w.a.j,0,none⟩)])/\w.alloc (.D #[.c (some ⟨q,0,none⟩)] 121)=w':=by
 go_enter Tryz.func132,Tryz.ntmps132;go_wp2;go_ret;exact⟨rfl,rfl⟩
theorem aeF(F:LC)(n:Nat)(hf:F.fn 202)(hro:F.round=none)(hn:1<=n)(Bs n₀:Nat)(w:ak)(Q8:Bs<w.a.j)(hn₀:n₀<=w.a.j)
 (hc:w.b ⟨Bs,0,none⟩=some (.c (some ⟨q,0,none⟩))) (T:Gl w q g key dS s) (hqg:q<n₀/\g<n₀) :
 vZ F n ah 202 #[.c (some ⟨Bs,0,none⟩)] (fun x:Fw=>#[cB x.ay]) (aL n₀) (fun ys=>ys=iA s) (fun pre=>pre <+: iA s) s.a w:=fun l J Jx W hW hJ _ hY h0=>by
 have hc':=(hW.cell (p:=⟨Bs,0,none⟩) Q8).trans hc;exact akx F n hf hro hn l Bs n₀ W.a.j q g key dS s J Jx hJ hY W (aO hn₀ hW.j) (av _) hc' (T.go hW) hqg h0
theorem ab6(gf:Nat)(lb:Array aB)(eg:∀args w,(callFunc gf args).G ah w = .Y (.enter gf args) w)(l ys:List Fw)(dS:Int)(hl:wP dS l)(hp:ys.Perm l)(N:Nat)(hN:N<=100000)(hyN:ys.a<=100000)(w:ak)(hseq:vZ nU 5 ah gf lb (fun x:Fw=>#[cB x.ay]) (aL w.a.j) (fun zs=>zs=ys) (fun pre=>pre <+: ys) N w):
 aP ah 131 #[.func (.func gf) #[] lb,.func (.func 117) #[] #[]] w fun e W'=>
  ∃A' c',e=.a (.a A' l.a c')/\W'.c w.a.j 86 41 (.a A' l.a c') l.a (l.h fun x=>x.ay.a)/\aL w.a.j w W':=by
 have CO:=ab (Yo gf lb eg (fun zs=>zs=ys) (fun pre=>pre <+: ys) N hN w hseq);have SO:=ab (fun(W:ak) (A:Option aT) (c:Nat) h=>Me l ys dS hl hp (by omega) W w.a.j A c h);have HP:=ab hp.t;clear hseq hl hp;go_enter Tryz.func131,Tryz.ntmps131;go_wp2_with fail;refine CO.i.e ?_;rintro e w1 ⟨zs,hzs,A1,c1,rfl,ho,hb⟩;rw[hzs]at ho ⊢;have SO1:=ab (SO.i w1 A1 c1 ho);have HB:=ab hb;have HO:=ab ho;clear hb ho SO CO hzs;obtain⟨m,hm⟩:=bZ ys.a;rw[<-hm]at HO SO1 HP ⊢;clear hm;go_wp2_with fail;refine SO1.i.e ?_;rintro e w2 ⟨rfl,ho2,hg⟩;have H2:=ab ho2;have HG:=ab hg;clear ho2 hg;go_wp2;go_ret;have h1:=H2.i;have h2:=HP.i;exact⟨A1,c1,by rw[<-h2];rfl,by rw[<-h2];exact h1,Xl HB.i HO.i (av _) (av _) HG.i⟩
theorem ag3(T:Ls W q g key dS s l):
 aP ah 65 #[.c (some ⟨q,0,none⟩)] W fun e w'=>∃A' c',e=.a (.a A' l.a c')/\w'.c W.a.j 86 41 (.a A' l.a c') l.a (l.h fun x=>x.ay.a)/\aL W.a.j W w':=by
 have w1s:=(dM.new W #[.c (some ⟨q,0,none⟩)] 121)
 have hB1:aL W.a.j W (W.alloc (.D #[.c (some ⟨q,0,none⟩)] 121)):=(aG _ _).alloc (av _) _;have T1:=T.w.go hB1;have hs:=T.w.sz;have hlt:=T.w.lt;have hsz:(W.alloc (.D #[.c (some ⟨q,0,none⟩)] 121)).a.j=W.a.j+1:=by simp
 have SQ:=ab (aeF nU 5 trivial rfl (by omega) W.a.j (W.alloc (.D #[.c (some ⟨q,0,none⟩)] 121)).a.j (W.alloc (.D #[.c (some ⟨q,0,none⟩)] 121)) w1s.lt (av _) (w1s.J.1 0) T1 (by rw[hsz];omega));have VA:=ab (Rx q W);generalize hw:W.alloc (.D #[.c (some ⟨q,0,none⟩)] 121)=w1 at *;have SF:=ab (ab6 202 #[.c (some ⟨W.a.j,0,none⟩)] (fun args w=>rfl) l (iA s) dS T.Y T.r.Qx s.a hs.2 (by have:=FQ s;omega) w1 SQ.i);have HB1:=ab hB1;clear hw w1s hB1 SQ T T1 hs hlt hsz;go_enter Tryz.func65,Tryz.ntmps65;go_wp2_with fail;refine VA.i.e ?_;rintro e w2 ⟨rfl,rfl⟩;go_wp2_with fail;refine SF.i.e ?_;rintro e w2 ⟨A1,c1,rfl,ho,hb⟩;have HO:=ab ho;have HB:=ab hb;clear ho hb;obtain⟨m,hm⟩:=bZ l.a;rw[<-hm]at HO ⊢;have HM:=ab hm;clear hm;go_wp2;go_ret;obtain rfl:=HM.i;have h1:=HB1.i;have h2:=HB.i;exact⟨A1,c1,rfl,iH HO.i h1.j,⟨h2.os.trans h1.os,h2.tape.trans h1.tape,h2.output.trans h1.output,aO h1.j h2.j,fun k hk=>(h2.block k (eF hk h1.j)).trans (h1.block k hk)⟩⟩
end
section
open Go.RowKit Go.Shelf
attribute [local go_sem] qK
variable {W W':ak} {q g:Nat} {key:Vector UInt8 16} {dS:Int} {s:List (Option Fw)} {l:List Fw}
theorem ag4{β:Type}(val:β->Fw)(F:LC)(n:Nat)(hf:F.fn 202)(hro:F.round=none)(hn:1<=n)(l Bs n₀ B0:Nat)(q g:Nat)(key:Vector UInt8 16)(dS:Int)(s:List (Option Fw))(hval:∀x∈iA s,∃z,val z=x)(J Jx:List β->ak->Prop)(hJ:AbidesFrom B0 J)
 (hY:∀pre x W,J pre W->pre.a<s.a->YieldAt F (n-1) ah l #[.d (val x).ay] W fun e W'=>
  (e=.a (.e true)/\J (pre++[x]) W'/\aL n₀ W W')\/(e=.a (.e false)/\Jx (pre++[x]) W'))
 (W:ak) (hn₀:n₀<=W.a.j) (hB0:B0<=W.a.j) (Q8:W.b ⟨Bs,0,none⟩=some (.c (some ⟨q,0,none⟩))) (T:Gl W q g key dS s) (hqg:q<n₀/\g<n₀) (h0:J [] W) :
 Nn F n ah 202 #[.func (.yield l) #[] #[],.c (some ⟨Bs,0,none⟩)] W fun e W'=>(∃v,e=.a v) /\
  ((∃ys:List β,ys.map val=iA s/\J ys W')\/(∃pre:List β,pre.map val <+: iA s/\Jx pre W')):=by
 have hsz:=T.sz;obtain⟨N,hN⟩:=bZ s.a;have l2:W.b ⟨q,18,none⟩=some (.a (some ⟨g,0,none⟩) N N):=by rw[hN];exact T.J.1
 have HT:=ab T;have HN:=ab hN;rw[<-hN]at hsz;clear hN T;refine Dm Tryz.func202 rfl hf ?_ hro;simp only[Tryz.ntmps202,dL,bD,gP,kT,kU,gH,gI,iT,gU,dH,gW];gi_wp2;gi_loopw [10] (fun i wr=>∃(k:Nat)(zs:List β),k<=N/\i=.b .a k/\zs.map val=iA (s.d k)/\J zs wr/\aL n₀ W wr)
  (fun i _=>N-(intOf i).g)
 case atStart=>exact⟨0,[],jf _,rfl,rfl,h0,aG _ _⟩
 case round=>
  obtain⟨k,zs,hk,rfl,hzs,hJs,hnx⟩:=hrel;have HZ:=ab hzs;clear hzs;by_cases hlt:k<N
  ·have hki:(k:Int)<N:=by omega
   have TR:=ab (HT.i.anZ hnx hqg);have hks:k<s.a:=by rw[<-HN.i];exact hlt
   obtain⟨_,a2,_,_,a5,_,_⟩:=TR.i.Xd hks;have hET:=Xp s k hks;have bx:=dM.new wr (wH (fH s k)).ay 213;have f1:=(bx.J.1 0).trans (Sl.PE _);rw[J6]at f1;have f2:vK (wr.alloc (.D (wH (fH s k)).ay 213)) wr.a.j 1 41:=of_eq_true (bx.J.2.2.1 1 41 (by rw[Sl.eB];omega));have f3:dO (wr.alloc (.D (wH (fH s k)).ay 213)) wr.a.j 1 41=(wH (fH s k)).rH.ay:=by rw[bx.J.2.2.2 1 41 (by rw[Sl.eB];omega)];exact Sl.UN _
   have hsz2:=hnx.j;have Rw:=ab (hnx.alloc (by omega) (.D (wH (fH s k)).ay 213));have HJA:=ab (Ic hJ hJs (.D (wH (fH s k)).ay 213));clear bx hsz2;cases hat:fH s k with
   | none=>
     rw[hat]at a2 f1 f2 f3 Rw HJA hET
     replace f1:(wr.alloc (.D (wH none).ay 213)).b ⟨wr.a.j,0,none⟩=some (.e false):=f1
     have Et:=ab (show iA (s.d (k+1))=iA (s.d k)by rw[hET];simp);clear hET hat f2 f3;gi_wp2;refine⟨fun f h=>(by cases h),?_⟩;gi_wp2;go_roundw
     case rel=>exact⟨k+1,zs,by omega,by simp,by rw[Et.i];exact HZ.i,HJA.i,Rw.i⟩
     case measure=>simp[intOf];omega
   | some x=>
     rw[hat]at a2 f1 f2 f3 Rw HJA hET
     replace f1:(wr.alloc (.D (wH (some x)).ay 213)).b ⟨wr.a.j,0,none⟩=some (.e true):=f1
     replace f3:dO (wr.alloc (.D (wH (some x)).ay 213)) wr.a.j 1 41=x.ay:=f3
     have hxm:x∈iA s:=Qw.2 ⟨k,hks,hat⟩;have hZL:zs.a<=k:=by have h1:=FQ (s.d k);rw[<-HZ.i,bV,bH]at h1;omega
     have az3:=show iA (s.d k)++[x]=iA (s.d (k+1))by rw[hET];simp
     clear hET hat;obtain⟨z,rfl⟩:=hval x hxm;have Et:=ab (show(zs++[z]).map val=iA (s.d (k+1))by rw[<-az3,iY,HZ.i];rfl);clear az3 hxm;obtain⟨fn,tmps,assign,body,hy,hRd⟩:=hY zs z _ HJA.i (by omega);gi_wp2;refine hRd.e ?_;rintro e W3 (⟨rfl,hJ3,hk3⟩|⟨rfl,hJx3⟩)
     ·gi_wp2
      go_roundw
      case rel=>exact⟨k+1,zs++[z],by omega,by simp,Et.i,hJ3,Rw.i.trans hk3⟩
      case measure=>simp[intOf];omega
     ·gi_wp2
      refine aN (vI rfl _ _ _) rfl ?_;exact⟨⟨_,rfl⟩,.b ⟨zs++[z],by rw[Et.i];exact aae _ _,hJx3⟩⟩
  ·obtain rfl:k=N:=by omega
   have hd:decide ((k:Int)<k)=false:=by simp
   gi_wp2;go_end0;exact⟨⟨_,rfl⟩,.a ⟨zs,by rw[HZ.i,HN.i,Aj],hJs⟩⟩
theorem Mf(F:LC)(n:Nat)(hf:F.fn 202)(hro:F.round=none)(hn:1<=n)(Bs n₀:Nat)(w:ak)(Q8:Bs<w.a.j)(hn₀:n₀<=w.a.j)
 (hc:w.b ⟨Bs,0,none⟩=some (.c (some ⟨q,0,none⟩))) (T:Ls w q g key dS s l) (hqg:q<n₀/\g<n₀) :
 vZ F n ah 202 #[.c (some ⟨Bs,0,none⟩)] (fun x:OkF=>#[cB x.1.ay]) (aL n₀) (fun ys=>ys.map (·.1)=iA s) (fun pre=>pre.map (·.1) <+: iA s) s.a w:=fun l' J Jx W hW hJ _ hY h0=>by
 have hc':=(hW.cell (p:=⟨Bs,0,none⟩) Q8).trans hc;exact ag4 (fun x:OkF=>x.1) F n hf hro hn l' Bs n₀ W.a.j q g key dS s (fun x hx=>⟨⟨x,T.Y.Y x (T.r.Qx.mem_iff.1 hx)⟩,rfl⟩) J Jx hJ hY W (aO hn₀ hW.j) (av _) hc' (T.w.go hW) hqg h0
def ars(pre:List Fw):Option Fw:=pre.foldl (least kG) none
def PL(pre:List OkF):Option Fw:=ars (pre.map (·.1))
theorem akB{l:List Fw}:∀(b:Option Fw)(y:Fw),l.foldl (least kG) b=some y->y∈l\/b=some y:=by
 induction l with
 | nil=>intro b y h;exact .b h
 | cons x l ih=>
   intro b y h;rw[j3]at h;rcases ih _ _ h with h1|h1
   ·exact .a (j5 _ h1)
   ·unfold least at h1
    split at h1
    ·injection h1 with h1;subst h1;exact .a (mH ..)
    ·split at h1
     ·injection h1 with h1;subst h1;exact .a (mH ..)
     ·exact .b h1
theorem aru(pre:List OkF)(y:Fw)(h:ars (pre.map (·.1))=some y):AY y=true:=by
 rcases akB _ _ h with h1|h1
 ·obtain⟨z,_,rfl⟩:=iZ.1 h1
  exact z.2
 ·cases h1
theorem Xq{W:ak}{b D:Nat}{c:Array aB}{x:Option (List Deferred)}(h:dM W b c)(hD:W.a[D]? = some (.deferred x))(o:Obj):dM (W.putObj D o) b c:=by
 obtain⟨t,ht⟩:=h;refine⟨t,(World.putObj_heap_other (fun e=>?_)).trans ht⟩;rw[e,hD]at ht;cases ht
theorem FT{F:List Nat}{B:Nat}{W W':ak}(h:jM F W W')(hF:∀k∈F,k<B):KeepsFrom B W W':=
 ⟨h.j,fun k o hB hk _=>(h.block k (bW.1 hk).1 (fun hm=>by have:=hF k hm;omega)).trans hk⟩
theorem ab7(w:ak)(T:Ls w q g key dS s l):
 aP ah 127 #[.c (some ⟨q,0,none⟩)] w (fT w (.d (l.head?.b jw).ay)):=by
 refine(nJ (n:=8)).1 ?_;have hs:=T.w.sz;have hlt:=T.w.lt;have hold:=ajM T.r T.Y;have HT:=ab T;clear T;refine rO Tryz.func127 rfl trivial ?_ rfl;have hfn:∀f,nU.fn f:=fun _=>trivial
 simp only[Tryz.ntmps127,dL,bD,gP,kT,kU,gH,gI,iT,gU,dH,gW];gi_wp2_with (gi_at_call 132;refine(nJ.2 (Rx q _)).e ?_;rintro e w' ⟨rfl,rfl⟩);have Z4:=ab (((((Bx.start w).new jw.ay 86).new jw.ay 86).new #[.e true] 4).new #[.c (some ⟨q,0,none⟩)] 121);have e1:(w.alloc (.D jw.ay 86)).a.j=w.a.j+1:=by simp
 have e2:((w.alloc (.D jw.ay 86)).alloc (.D jw.ay 86)).a.j=w.a.j+1+1:=by simp
 have e3:(((w.alloc (.D jw.ay 86)).alloc (.D jw.ay 86)).alloc (.D #[.e true] 4)).a.j=w.a.j+1+1+1:=by simp
 rw[e3,e2,e1]at Z4;have hs4:((((w.alloc (.D jw.ay 86)).alloc (.D jw.ay 86)).alloc (.D #[.e true] 4)).alloc (.D #[.c (some ⟨q,0,none⟩)] 121)).a.j=w.a.j+1+1+1+1:=by simp
 generalize(((w.alloc (.D jw.ay 86)).alloc (.D jw.ay 86)).alloc (.D #[.e true] 4)).alloc (.D #[.c (some ⟨q,0,none⟩)] 121)=W4 at Z4 hs4 ⊢;clear e1 e2 e3;refine yS rfl (by omega) (gf:=202) (lb:=#[.c (some ⟨w.a.j+1+1+1,0,none⟩)]) rfl trivial (fun args w=>rfl)
  (Mf nU 7 trivial rfl (by omega) (w.a.j+1+1+1) w.a.j W4 (by omega) (by omega) (Z4.i.R.J.1 0) (HT.i.go Z4.i.O) hlt) (fun h k=>Below.trans h k) (vT (by omega)) (aG _ _) (fun _=>rfl)
  (fun(pre:List OkF) W=>(dM W (w.a.j+1) ((PL pre).b jw).ay/\dM W (w.a.j+1+1) #[.e (PL pre).isNone]/\dM W w.a.j jw.ay)/\aL w.a.j w W)
  (fun _ _ _=>False)
  (OwnFrom.and (fun s X Y row hs hg hr=>⟨zP _ _ () X Y row hs.1 hg (fun r e=>(hr r e).2),zP _ _ () X Y row hs.2.1 hg (fun r e=>(hr r e).2),zP _ _ () X Y row hs.2.2 hg (fun r e=>(hr r e).2)⟩) (zo (av _) (by omega)))
  (fun _ _ _ _ _ hs _ _=>hs)
  ⟨⟨Z4.i.b2,Z4.i.b1,Z4.i.b3⟩,Z4.i.O⟩
  (fun x a' W=>∃Bq,w.a.j+1+1<Bq/\dM W Bq x.1.ay/\a'={tmps:=#[.c (some ⟨q,0,none⟩),undef,.c (some ⟨w.a.j,0,none⟩),.c (some ⟨w.a.j+1,0,none⟩),.c (some ⟨w.a.j+1+1,0,none⟩),.c (some ⟨Bq,0,none⟩),.c (some ⟨q,0,none⟩),.func (.func 202) #[] #[.c (some ⟨w.a.j+1+1+1,0,none⟩)],.d x.1.ay,undef,undef,undef,undef,undef,undef,undef,undef],defers:=[]})
  (fun x a' _ X Y row hs hg hr=>by obtain⟨Bq,h1,h2,h3⟩:=hs;exact⟨Bq,h1,zP Bq x.1.ay () X Y row h2 hg (fun r e=>(hr r e).2),h3⟩)
  ?assign ?body ?done ?stop
 case assign=>
  rintro q' pre x W K ⟨⟨h1,h2,h3⟩,hB⟩ hK;gi_wp2;refine hK _ _ ((xL _ _).from _) ((aG _ W).alloc hB.j _) ⟨⟨h1.alloc _,h2.alloc _,h3.alloc _⟩,hB.alloc hB.j _⟩ ⟨W.a.j,h2.lt,dM.new W _ _,rfl⟩
 case body=>
  rintro q' pre x a' W hq ⟨r,hr⟩ ⟨⟨h1,h2,h3⟩,hB⟩ ⟨Bq,hBq,bX,rfl⟩ hlt';have hd1:(1:Nat)<=8-1-1:=by omega
  have l1:=kE bX;have f1:=h2.J.1 0;have f2:=h2.J.2.1 0;have th:=h1.K 0 41 (aX (Fw.r _).symm);have HB:=ab hB;have H1:=ab h1;have H2:=ab h2;have H3:=ab h3;have HX:=ab bX;have HA:=ab (show PL (pre++[x])=least kG (PL pre) x.1 by unfold PL ars;rw[iY,zC];rfl);have HM:=ab (show∀y,PL pre=some y->AY y=true from fun y e=>aru pre y e);clear hB h1 h2 h3 bX;cases ha:PL pre with
  | none=>
    rw[ha]at HA H1 H2 f1;have f3:(AO W (w.a.j+1) 0 x.1).b ⟨w.a.j+1+1,0,none⟩=some (.e true):=((H2.i.gK (by simp)).J.1 0:_)
    have f4:(AO W (w.a.j+1) 0 x.1).frozen? ⟨w.a.j+1+1,0,none⟩=false:=((H2.i.gK (by simp)).J.2.1 0:_)
    clear ha;gi_wp2;have F:=(jM.VO (F:=[w.a.j+1,w.a.j+1+1]) (mo (dQ W (some (w.a.j+1))) 0 x.1.ay) (fun g e=>.a (by injection e with e;simp[e]))).set ⟨w.a.j+1+1,0,none⟩ (.e false) (.a (by simp));refine⟨FT F (by intro k hk;simp at hk;omega),F.uq (by intro k hk;simp at hk;omega) HB.i.j,⟨?_,?_,?_⟩,HB.i.trans (F.uq (by intro k hk;simp at hk;omega) HB.i.j)⟩
    ·rw[HA.i];exact(H1.i.put x.1.ay (by rw[Fw.r,Fw.r])).dP _ _ (by simp)
    ·rw[HA.i];exact(H2.i.gK (by simp)).eX 0 (.e false)
    ·exact(H3.i.gK (by omega)).dP _ _ (by simp;omega)
  | some y=>
    rw[ha]at HA H1 H2 f1;have hy:=HM.i y ha;obtain⟨y1,y2⟩:=Eb hy;obtain⟨x1,x2⟩:=Eb x.2
    replace H1:Hid (dM W (w.a.j+1) y.ay):=H1
    replace f1:W.b ⟨w.a.j+1+1,0,none⟩=some (.e false):=f1
    have l2:=kE H1.i;have OC:=ab (Tj x.1 y x1 y1 x2 y2 W);obtain⟨o,ho⟩:=bZ (kG x.1 y);rw[<-ho]at OC;have HE:=ab (show PL (pre++[x])=if o=true then some x.1 else some y by rw[HA.i,ho];rfl);clear ha hy y1 y2 x1 x2 ho f2 th;cases o
    ·gi_wp2_with (gi_at_call 49;refine(CallsIn.inRound q' (nJ.2 OC.i)).e ?_;rintro e w1 ⟨rfl,hb⟩;have IK:=ab hb;clear hb)
     have F:=jM.jD (F:=[w.a.j+1,w.a.j+1+1]) IK.i;refine⟨FT F (by intro k hk;simp at hk;omega),F.uq (by intro k hk;simp at hk;omega) HB.i.j,⟨?_,?_,?_⟩,HB.i.trans (F.uq (by intro k hk;simp at hk;omega) HB.i.j)⟩
     ·rw[show PL (pre++[x])=some y from HE.i];exact H1.i.go IK.i
     ·rw[show PL (pre++[x])=some y from HE.i];exact H2.i.go IK.i
     ·exact H3.i.go IK.i
    ·gi_wp2_with (gi_at_call 49;refine(CallsIn.inRound q' (nJ.2 OC.i)).e ?_;rintro e w1 ⟨rfl,hb⟩;have IK:=ab hb;have G1:=ab (H1.i.go hb);have G2:=ab (H2.i.go hb);have G3:=ab (H3.i.go hb);have l3:=kE (HX.i.go hb);clear hb l1 l2 f1;have th:=G1.i.K 0 41 (aX (Fw.r _).symm);have f3:(AO w1 (w.a.j+1) 0 x.1).b ⟨w.a.j+1+1,0,none⟩=some (.e false):=((G2.i.gK (by simp)).J.1 0:_);have f4:(AO w1 (w.a.j+1) 0 x.1).frozen? ⟨w.a.j+1+1,0,none⟩=false:=((G2.i.gK (by simp)).J.2.1 0:_))
     have F:=((jM.jD (F:=[w.a.j+1,w.a.j+1+1]) IK.i).grown (mo (dQ w1 (some (w.a.j+1))) 0 x.1.ay) (fun g e=>.a (by injection e with e;simp[e]))).set ⟨w.a.j+1+1,0,none⟩ (.e false) (.a (by simp));refine⟨FT F (by intro k hk;simp at hk;omega),F.uq (by intro k hk;simp at hk;omega) HB.i.j,⟨?_,?_,?_⟩,HB.i.trans (F.uq (by intro k hk;simp at hk;omega) HB.i.j)⟩
     ·rw[show PL (pre++[x])=some x.1 from HE.i];exact(G1.i.put x.1.ay (by rw[Fw.r,Fw.r])).dP _ _ (by simp)
     ·rw[show PL (pre++[x])=some x.1 from HE.i];exact(G2.i.gK (by simp)).eX 0 (.e false)
     ·exact(G3.i.gK (by omega)).dP _ _ (by simp;omega)
 case done=>
  rintro D ys W hD hS ⟨⟨h1,h2,h3⟩,hB⟩ hK;have hacc:PL ys=l.head?:=by unfold PL ars;rw[hS];exact hold
  rw[hacc]at h1;have ld:=kE h1;have th:=h3.K 0 41 (aX (Fw.r _).symm);obtain⟨y,hy⟩:=bZ (l.head?.b jw);rw[<-hy]at ld h1;have HY:=ab hy;have H3:=ab h3;have HB:=ab hB;clear hy h3 hB h1 h2 hacc hS;gi_wp2;have hG:=mo (dQ W (some w.a.j)) 0 y.ay;have hDW:D<W.a.j:=(bW.1 hK).1;have hK2:(AO W w.a.j 0 y).a[D]? = some (.deferred (some [])):=(hG.block D hDW (fun e=>by injection e with e;omega)).trans hK;refine⟨by simp,.a ⟨_,_,rfl,uQ hK2,?_⟩⟩;refine⟨_,kFw.zI rfl _ rfl (Xq (H3.i.put y.ay (by rw[Fw.r,Fw.r])) hK2 _) (Fw.r _),by rw[HY.i],?_⟩;exact((lI HB.i w.a.j 0 y.ay (av _)).trans (vT (w:=w) (av _) _ D _ _ (by omega) hK2 rfl rfl))
 case stop=>
  rintro D c pre W _ _ h _;exact h.elim
end
section
theorem akC{α:Type}(s:List (Option α))(i:Nat)(x:α)(h:fH s i=some x):s.set i (some x)=s:=by
 apply iR;intro j;rw[fI];split
 ·rename_i e
  subst e;unfold fH at h;rw[au]at h;split
  ·rename_i hl
   rw[aC hl]at h ⊢;rw[jY]at h;rw[h]
  ·rename_i hl
   rw[aS (by omega)]
 ·rfl
theorem Ld{α:Type}(s:List (Option α))(i:Nat)(x:α)(hi:i<s.a)(h:fH s i=some x):(iA s).Perm (x::iA (s.set i none)):=by
 have:=zH s i x hi
 rwa [akC s i x h]at this
theorem aag{N z c:Nat}(hz:z<N)(h1:1<=c)(h2:c<=N):yU N ((z+1)%N) (yT N z c)=c-1:=by
 have e1:yT N z c=(z+c)%N:=rfl;rw[e1,wT (N:=N) (a:=z+1) (by omega),wT (N:=N) (a:=z+c) (by omega)];unfold yU
 repeat' split
 all_goals omega
variable {W W':ak} {q g:Nat} {key:Vector UInt8 16} {dS:Int} {s:List (Option Fw)} {l:List Fw}
theorem Gl.aiv(h:Gl W q g key dS s){i:Nat}(hi:i<s.a)(o:Option Fw)(n:Nat)(hn:(iA (s.set i o)).a=n)(hc:n=(iA s).a):Gl (gX W g (i*42) (slC o)) q g key dS (s.set i o):=by
 have hb:=h.sl.setCells (i*42) (slC o).a;refine⟨?_,?_,h.ne,by rw[aV];exact h.sz⟩
 ·rw[hn,hc,aV]
  exact h.h.gK h.ne
 ·rw[<-UO s i o hi]
  simpa[gX]using hb
theorem Xr{l:List Fw}{k:Tu}(h:qv l k=none):yX l k=l:=by
 unfold yX;refine List.filter_eq_self.2 fun x hx=>?_
 have:=BD h x hx;simp[tq,this]
theorem Xu(T:Ls W q g key dS s l)(k:Tu):
 aP ah 128 #[.c (some ⟨q,0,none⟩),.d k.ay] W fun e w'=>e=.a (.e (qv l k).isSome)/\(∃s',Ls w' q g key dS s' (yX l k)/\s'.a=s.a)/\jM [q,g] W w':=by
 have X0:=ab (dM.new W k.ay 81);have B0:=ab ((aG W.a.j W).alloc (av _) (.D k.ay 81));have T0:=ab (T.go B0.i);have HT:=ab T;have HLT:=ab T.w.lt;have CG:=ab (fun(w:ak) (T:Ls w q g key dS s l)=>La T k);obtain⟨o,ho⟩:=bZ (qv l k);rw[<-ho]at CG ⊢;have HO:=ab ho.symm;have hcg:∀o,anW o = .I #[.d (wH o).rH.ay,.e o.isSome]:=fun _=>rfl
 simp only[hcg]at CG;clear T ho hcg;go_enter Tryz.func128,Tryz.ntmps128;go_upto_region 1 with fail
 generalize W.alloc (.D k.ay 81)=w1 at X0 B0 T0 ⊢;have l1:=qh X0.i;cases o with
 | none=>
   go_wp2_with (go_at_call 126;(with_reducible refine(CG.i _ T0.i).e ?_);rintro e w2 ⟨rfl,hb⟩;have B2:=ab (fJ B0.i hb);clear hb l1);go_ret;have HB:=(B2.i.alloc B2.i.j (.D (wH none).rH.ay 86))
   refine⟨rfl,⟨s,?_,rfl⟩,jM.jD HB⟩;rw[Xr HO.i];exact HT.i.go HB
 | some x=>
   obtain⟨hxl,hxk⟩:=xP HO.i;have hok:=HT.i.Y.Y x hxl;have hkn:uf k:=by rw[<-hxk];exact BH (wW hok)
   obtain⟨d,hd,hat⟩:=HT.i.Wn k;rw[HO.i]at hat;have hsz:=HT.i.w.sz;obtain⟨j,hj⟩:=bZ ((hmK key s.a k+d)%s.a);have hjl:j<s.a:=by rw[hj];exact fE _ (by omega)
   have CF:=ab (fun(w:ak) (T:Gl w q g key dS s)=>C8 T k hkn d hd);rw[<-hj]at CF hat;obtain⟨z,a0,aah,arv⟩:=HT.i.r.tab.aDb hjl hat;obtain⟨N,hN⟩:=bZ s.a;rw[<-hN]at arv hjl hsz;have hz:z<N:=by rw[hN];exact aah.hz
   have ha0:1<=a0/\a0+1<=N:=⟨aah.a0,by rw[hN];exact aah.cN⟩
   have HL:=ab (Ld s j x (by rw[<-hN];exact hjl) hat);obtain⟨L,hL⟩:=bZ (iA (s.set j none));rw[<-hL]at aah HL;have H0:=ab aah;have HN:=ab hN;have HJ:=ab arv;have HAT:=ab hat;have HX:=ab (show x.key=k from hxk);obtain⟨j1,hj1⟩:=bZ (j+1);have e1:(j:Int)+1=(j1:Int):=by omega
   have i1:=jW (j1:Int) (by omega);obtain⟨j2,hj2⟩:=bZ (j1%N);have aLc:j2<N:=by rw[hj2];exact fE _ (by omega)
   have e2:(j1:Int)%(N:Int)=(j2:Int):=by rw[hj2];omega
   have e3:Nq (j1:Int) (N:Int)=(j2:Int):=by rw[mM (by omega)];exact e2
   have i2:=jW (j2:Int) (by omega);have z1:¬(N:Int)=0:=by omega
   have z2:¬N=0:=by omega
   have HJ2:=ab (show j2=yT N z (a0+1)by rw[hj2,hj1,<-arv];exact adp hz (by omega));clear hxl hxk hok hkn hd hat hj aah arv hN hL hj1 hj2;go_wp2_with (first|(go_at_call 126;(with_reducible refine(CG.i _ T0.i).e ?_);rintro e w2 ⟨rfl,hb⟩;have T2:=ab ((T0.i.go hb).go ((aG _ _).alloc (av _) (.D (wH (some x)).rH.ay 86)));have B2:=ab ((fJ B0.i hb).alloc ((fJ B0.i hb).j) (.D (wH (some x)).rH.ay 86));have l2:=qh ((X0.i.go hb).alloc (.D (wH (some x)).rH.ay 86));have f2:(w2.alloc (.D (wH (some x)).rH.ay 86)).b ⟨q,18,none⟩=some (.a (some ⟨g,0,none⟩) N N):=(by rw[HN.i];exact T2.i.w.J.1);clear hb l1)|(go_at_call 129;(with_reducible refine(CF.i _ T2.i.w).e ?_);rintro e w3 ⟨rfl,hb⟩;have T3:=ab (T2.i.go hb);have B3:=ab (fJ B2.i hb);clear hb l2 f2));go_loopw [8,9] (fun v8 v9 wr=>∃(s':List (Option Fw))(a c:Nat)(y:Fw),s'.a=N/\Yc Fw.key (hmK key N) z s' a c L/\fH s' (yT N z a)=some y/\Gl wr q g key dS s'/\v8=.b .a (yT N z a:Nat)/\v9=.b .a (yT N z c:Nat)/\jM [g] w3 wr)
    (fun _ v9 wr=>N-yU N ((z+1)%N) (intOf v9).g)
   case atStart=>exact⟨s,a0,a0+1,x,HN.i.symm,by rw[HN.i];exact H0.i,by rw[HJ.i];exact HAT.i,T3.i.w,by rw[HJ.i],by rw[<-HJ2.i],jM.refl _ _⟩
   case round=>
    obtain⟨s',a,c,y,hlen,hol,hay,hTb,rfl,rfl,hfr⟩:=hrel;have hcN:c<=N:=by rw[<-hlen];exact hol.cN
    have hac:=hol.ac;have ha1:=hol.a0;obtain⟨i,hi⟩:=bZ (yT N z c);obtain⟨b,hb⟩:=bZ (yT N z a);have hil:i<N:=by rw[hi];exact Ch (by omega)
    have hbl:b<N:=by rw[hb];exact Ch (by omega)
    have HOL:=ab hol;have HLEN:=ab hlen;have HTB:=ab hTb;have HFR:=ab hfr;have f18:wr.b ⟨q,18,none⟩=some (.a (some ⟨g,0,none⟩) N N):=by rw[<-hlen];exact hTb.J.1
    have hai:=(hTb.Xd (show i<s'.a by rw[hlen];exact hil))
    rw[<-hi,<-hb];rw[<-hb]at hay;have HI:=ab hi;have IK:=ab hb;have HAY:=ab hay;have hii:(i:Int)<N:=by omega
    have hbi:(b:Int)<N:=by omega
    have HCT:=ab (show(iA s').a=L.a+1 by
     have h1:=(Ld s' b y (by rw[hlen];exact hbl) hay).t;rw[bD]at h1;have h2:=hol.Qx;rw[hlen,<-hb]at h2;rw[h1,h2.t])
    have thb:=hTb.sl.K (b*42) 42 (by rw[vE,hlen];have:=dz 42 (show b+1<=N from hbl);omega);clear hol hlen hTb hfr hi hb hay;cases hat:fH s' i with
    | none=>
      rw[hat]at hai;have a1:wr.b ⟨g,i*42,none⟩=some (.e false):=hai.1;have aE1:=ab hat;have PQ:=ab (HTB.i.h.gK (b2:=g) (o:=b*42) (x:=Ib.ay) HTB.i.ne);have f17:=(PQ.i.J.1 17).trans (Tk.aew _);have g17:=PQ.i.J.2.1 17;have aLe:=(PQ.i.J.1 18).trans (Tk.yL _);rw[HCT.i]at f17;obtain⟨m,hm⟩:=bZ L.a;rw[<-hm]at f17;obtain⟨m1,hm1⟩:=bZ (m+1);rw[<-hm1]at f17;have e5:(m1:Int)-1=(m:Int):=by omega
      have hmb:m1<=100000:=by have h1:=FQ s';have h2:=HTB.i.sz;have h3:=HCT.i;omega
      have i5:=jW (m:Int) (by omega);have HM:=ab hm;clear hai hat hm hm1 hmb;go_wp2;go_ret;obtain⟨hd1,hd2⟩:=HOL.i.done (by rw[HLEN.i,<-HI.i];exact aE1.i);rw[HLEN.i,<-IK.i]at hd1 hd2;have hxl:=xP HO.i;have hlp:l.Perm (x::L):=(HT.i.r.Qx.symm).trans HL.i;have hcut:=Wo HT.i.Y hxl.1 hlp;rw[hxl.2]at hcut;have hbs:b<s'.a:=by rw[HLEN.i];exact hbl
      have hel:(iA (s'.set b none)).a=m:=by rw[hd2.t,HM.i]
      have hW:Gl ((gX wr g (b*42) Ib.ay).F ⟨q,17,none⟩ (.b .a m)) q g key dS (s'.set b none):=by
       refine⟨?_,?_,HTB.i.ne,by rw[aV];exact HTB.i.sz⟩
       ·have:=PQ.i.eX 17 (.b .a m)
        rw[Tk.Rt]at this;rw[hel,aV];exact this
       ·have h1:=HTB.i.sl.setCells (b*42) Ib.ay.a
        have h2:=UO s' b none hbs;refine dM.dP ?_ _ _ HTB.i.ne;rw[<-h2];simpa[gX,slC,wH]using h1
      refine⟨rfl,⟨s'.set b none,⟨hW,⟨?_,?_⟩,HT.i.Y.sub (abv l k)⟩,by rw[aV,HLEN.i,HN.i]⟩,?_⟩
      ·rw[aV,HLEN.i];exact hd1
      ·exact hd2.trans hcut
      ·refine jM.set ?_ _ _ (.a (by simp))
       refine jM.grown ?_ (mo (dQ wr (some g)) (b*42) Ib.ay) (fun j e=>.a (by injection e with e;simp[e]));exact(jM.jD B3.i).trans HFR.i (fun j hj=>.a (by simp at hj;simp[hj]))
    | some v=>
      rw[hat]at hai;obtain⟨a1,a2,_,a4,a5,_,a7⟩:=hai
      replace a1:wr.b ⟨g,i*42,none⟩=some (.e true):=a1
      replace a4:dO wr g (i*42+1) 37=v.key.ay:=a4
      have hcl:c<N:=by
       rcases aZ c N with h1|h1
       ·exact h1
       ·exfalso
        have h2:c=N:=by omega
        have h3:=HOL.i.free;have h4:i=z:=by rw[HI.i,h2];show(z+N)%N=z;rw[Nat.add_mod_right,fO hz]
        rw[h4,h3]at hat;cases hat
      have hib:i≠b:=fun e=>by
       have:=KO hz hcl (show a<N by omega) (by rw[<-HI.i,<-IK.i];exact e);omega
      have hvl:v∈l:=by
       have h1:v∈iA (s'.set b none):=Qw.2 ⟨i,by rw[aV,HLEN.i];exact hil,by rw[GK _ _ _ _ (by rw[HLEN.i];exact hbl),if_neg (Ne.symm hib)];exact hat⟩;have h2:=HOL.i.Qx;rw[HLEN.i,<-IK.i]at h2;exact HT.i.r.Qx.mem_iff.1 (HL.i.mem_iff.2 (j5 _ (h2.mem_iff.1 h1)))
      have hvn:=BH (wW (HT.i.Y.Y v hvl));obtain⟨hv,hhv⟩:=bZ (hmK key N v.key);have hvN:hv<N:=by rw[hhv];exact fE _ (by omega)
      have CH:=ab (fun(w:ak) (T:Gl w q g key dS s')=>Xo T v.key hvn);rw[HLEN.i,<-hhv]at CH;have hat':fH s' (yT s'.a z c)=some v:=by rw[HLEN.i,<-HI.i];exact hat
      have hlin:=(HOL.i.lin c v (by rw[HLEN.i];exact hcl) (by omega) hat').1;rw[HLEN.i,<-hhv]at hlin;have az6:=ab (show hmK key N v.key=hv from hhv.symm);obtain⟨p1,hp1⟩:=bZ (i+N-hv);obtain⟨p2,hp2⟩:=bZ (i+N-b);obtain⟨d1,hd1⟩:=bZ (p1%N);obtain⟨d2,hd2⟩:=bZ (p2%N);have aLg:d1<N:=by rw[hd1];exact fE _ (by omega)
      have aLh:d2<N:=by rw[hd2];exact fE _ (by omega)
      have g1:=jW ((i:Int)-(hv:Int)) (by omega);have g2:=jW ((i:Int)-(b:Int)) (by omega);have g3:(i:Int)-(hv:Int)+(N:Int)=(p1:Int):=by omega
      have g4:(i:Int)-(b:Int)+(N:Int)=(p2:Int):=by omega
      have g5:=jW (p1:Int) (by omega);have g6:=jW (p2:Int) (by omega);have g7:(p1:Int)%(N:Int)=(d1:Int):=by rw[hd1];omega
      have g8:(p2:Int)%(N:Int)=(d2:Int):=by rw[hd2];omega
      have g9:Nq (p1:Int) (N:Int)=(d1:Int):=by rw[mM (by omega)];exact g7
      have g10:Nq (p2:Int) (N:Int)=(d2:Int):=by rw[mM (by omega)];exact g8
      have g11:=jW (d1:Int) (by omega);have g12:=jW (d2:Int) (by omega);have D1:=ab (show d1=c-yU N z hv by rw[hd1,hp1,HI.i];exact ajh hz hvN hlin hcl);have D2:=ab (show d2=c-a by rw[hd2,hp2,HI.i,IK.i];exact ado hz (by omega) hcl);obtain⟨n1,hn1⟩:=bZ (i+1);have k1:(i:Int)+1=(n1:Int):=by omega
      have k2:=jW (n1:Int) (by omega);obtain⟨n2,hn2⟩:=bZ (n1%N);have aLi:n2<N:=by rw[hn2];exact fE _ (by omega)
      have k3:(n1:Int)%(N:Int)=(n2:Int):=by rw[hn2];omega
      have k4:Nq (n1:Int) (N:Int)=(n2:Int):=by rw[mM (by omega)];exact k3
      have k5:=jW (n2:Int) (by omega);have Rw:=ab (show n2=yT N z (c+1)by rw[hn2,hn1,HI.i];exact adp hz hcl);have arw:=ab hat';have az7:=ab hlin;have HIB:=ab hib;have as5:=ab (show N-yU N ((z+1)%N) n2<N-yU N ((z+1)%N) i by
       rw[Rw.i,HI.i,aag hz (by omega) (by omega),aag hz (by omega) (by omega)];omega)
      have HC:=ab (show c<N/\a<c/\0<a from⟨hcl,hac,ha1⟩);clear hvl hvn hhv hat' hlin hp1 hp2 hd1 hd2 hn1 hn2 hib hat a2 a5 hcl;by_cases hle:d2<=d1
      ·have t1:decide ((d1:Int)>=(d2:Int))=true:=by simp;omega
       have t2:decide ((d2:Int)<=(d1:Int))=true:=by simp;omega
       have t3:decide (d2<=d1)=true:=by simp;omega
       have HLE:=ab hle;clear hle thb;go_wp2_with (go_at_call 200;(with_reducible refine(CH.i _ HTB.i).e ?_);rintro e w5 ⟨rfl,hb5⟩;have HB5:=ab hb5;have T5:=ab (HTB.i.go hb5);clear hb5 a1 a4 a7 f18;have f18:w5.b ⟨q,18,none⟩=some (.a (some ⟨g,0,none⟩) N N):=(by rw[<-HLEN.i];exact T5.i.J.1);have a5:vK w5 g (i*42) 42:=(T5.i.Xd (by rw[HLEN.i];exact hil)).2.2.2.2.1;have a2:dO w5 g (i*42) 42=(wH (some v)).ay:=(by rw[(T5.i.Xd (by rw[HLEN.i];exact hil)).2.1,show fH s' i=some v from(by have:=arw.i;rw[HLEN.i,<-HI.i]at this;exact this)]);have thb:w5.K g (b*42) 42:=T5.i.sl.K (b*42) 42 (by rw[vE,HLEN.i];have:=dz 42 (show b+1<=N from hbl);omega));go_region;go_wp2;go_roundw
       case rel=>
        have h1:=HC.i;have h2:=HLE.i;rw[D1.i,D2.i]at h2;have h3:=az7.i;have hmv:=HOL.i.move (by rw[HLEN.i];exact h1.1) arw.i (by rw[HLEN.i,az6.i];omega);rw[HLEN.i,<-IK.i]at hmv;have hbs:b<s'.a:=by rw[HLEN.i];exact hbl
        have hai2:fH (s'.set b (some v)) i=some v:=by
         rw[GK _ _ _ _ hbs,if_neg (Ne.symm HIB.i)];have:=arw.i;rw[HLEN.i,<-HI.i]at this;exact this
        have hel:(iA (s'.set b (some v))).a=L.a+1:=by
         have h4:=(Ld (s'.set b (some v)) i v (by rw[aV,HLEN.i];exact hil) hai2).t;rw[bD]at h4;have h5:=hmv.Qx;rw[aV,HLEN.i,<-HI.i]at h5;rw[h4,h5.t]
        refine⟨s'.set b (some v),c,c+1,v,by rw[aV,HLEN.i],hmv,by rw[<-HI.i];exact hai2,?_,by rw[HI.i],by rw[Rw.i],?_⟩
        ·exact T5.i.drew.aiv hbs (some v) (L.a+1) hel (HCT.i.symm)
        ·exact jM.grown (HFR.i.M HB5.i.drew HFR.i.j) (mo (dQ w5.drew (some g)) (b*42) (wH (some v)).ay) (fun j e=>.a (by injection e with e;simp[e]))
       case measure=>
        simp only[intOf,dU];exact as5.i
      ·have t1:decide ((d1:Int)>=(d2:Int))=false:=by simp;omega
       have t2:decide ((d2:Int)<=(d1:Int))=false:=by simp;omega
       have t3:decide (d2<=d1)=false:=by simp;omega
       have HLE:=ab hle;clear hle thb;go_wp2_with (go_at_call 200;(with_reducible refine(CH.i _ HTB.i).e ?_);rintro e w5 ⟨rfl,hb5⟩;have HB5:=ab hb5;clear hb5 a1 a4 a7 f18);go_roundw
       case rel=>
        have h1:=HC.i;have h2:=HLE.i;rw[D1.i,D2.i]at h2;have h3:=az7.i;refine⟨s',a,c+1,y,HLEN.i,HOL.i.aDc (by rw[HLEN.i];exact h1.1) arw.i (by rw[HLEN.i,az6.i];omega),by rw[<-IK.i];exact HAY.i,HTB.i.go HB5.i,by rw[IK.i],by rw[Rw.i],HFR.i.M HB5.i HFR.i.j⟩
       case measure=>
        simp only[intOf,dU];exact as5.i
end
end Go.Proofs.YtkjojjopamaoiaaGreat
