/- Parts. -/
import Derived.Test.YtkjojjopamaoiaaGreatSc4
import Derived.Shelf.SlSortCmp.NoneTotal
import Derived.Lib.BytesEntry
set_option linter.unusedSimpArgs false
set_option linter.unusedVariables false
set_option linter.unusedSectionVars false
set_option maxRecDepth 100000
set_option maxHeartbeats 8000000
open Array renaming range->mK,ext'->pU,toList_range->kF,length_toList->aY,getElem?_append->aD,getElem?_toList->dH,getElem?_extract->cu,size_append->oJ,ext_getElem?->dZ,getElem?_setIfInBounds->dS,extract_append->bZ,mapM->iI,getElem?_eq_none->aW,replicate_succ->gL,replicate_zero->gM,all_eq_true'->yR,getElem?_eq_getElem->fH,getElem?_eq_some_iff->bY,getElem?_modify->Az,size->Array.j,toList->Array.a,getD->Array.b,setIfInBounds->Array.c,extract->Array.m
open BitVec renaming ofInt->gI,ofNat->Iw,ofInt_natCast->mI,toNat_ofNat->nW,toNat->BitVec.e
open Bool renaming and_eq_true->bf,false_eq_true->fM,or_eq_true->kR,not_eq_true'->oO
open ByteArray renaming size->ByteArray.j,extract->ByteArray.m
open Go renaming World->ak,run_underlying->dK,Calls->aR,Addr->aV,Value->aB,bodyPost_ret->aO,Ending->lJ,TypeId->bL,setRow_other->pJ,Oper->ji,wpQuiet_nil->iw,Fence->Ll,SeqStopsK->wZ,CallsIn->MS,callsIn_of_wp_marks->rR,wpIn_rangeFunc_ownH->zO,belowK_b->wR,ownFrom_below->zW,wpListIn_append_own->EU,run_takeDeferred->vC,results_tmp->I4,callsIn_wide->nL,results_none->wI
open Go.Addr renaming add_mid->iL
open Go.BoundsCode renaming toNat->Go.BoundsCode.e
open Go.Calls renaming mono->Go.Calls.g
open Go.Ending renaming returned->Go.Ending.a
open Go.Extern.Bytes renaming bytesOf->uX
open Go.Fence renaming wide->nY
open Go.FrameMode renaming run->Go.FrameMode.O
open Go.Func renaming name->Go.Func.F
open Go.Instr renaming buildSlice->bJ,fill->fJ,loadAt->dw,storeAt->eY,build->fU,slice->Go.Instr.a,extract->Go.Instr.m
open Go.IntKind renaming u64->jG,wrap_u64->jZ,u8->aX,wrap_u8->Iz,i64->bT,wrap->wP,bits->oH,signed->mH,i64->Go.IntKind.a,u8->Go.IntKind.b,u64->Go.IntKind.c
open Go.Lib renaming hid->ab
open Go.Obj renaming cells->eX,cells->Go.Obj.D
open Go.Op renaming bytesLess->bU,slice->Go.Op.a,extract->Go.Op.m
open Go.Oper renaming wp->nV,semAt_some->qQ
open Go.Operand renaming tmp->Go.Operand.a
open Go.Proofs.Tryz renaming prog->ah,underlying56->dD,underlying189->pY,underlying192->pX,underlying213->uW,underlying207->Er,underlying280->Es,underlying34->Gh,underlying75->wH,underlying22->qK,underlying0->Iy,zeroValue0->Kc,underlying3->fI,zeroValue3->Ke,underlying4->om,zeroValue4->Kh,underlying5->lX,underlying9->iZ,isAgg9->LW,sizeOf9->IZ,zeroValue9->Cx
open Go.Result renaming andThen->iM
open Go.ResultVar renaming tmp->Go.ResultVar.a
open Go.RoundIn renaming mono->Go.RoundIn.g
open Go.RowKit renaming Below->aM
open Go.RowKit.Below renaming refl->aG,size->Go.RowKit.Below.j,mono->Go.RowKit.Below.g,setCell->Go.RowKit.Below.I
open Go.RowKit.Hid renaming out->Go.RowKit.Hid.i
open Go.Sem renaming run_bind->jS,run_pure->oU,run->J8,run->Go.Sem.O
open Go.Shut renaming out->Go.Shut.i
open Go.Sort renaming size_flatK->yT
open Go.TypeDesc renaming slice->Go.TypeDesc.a,int->Go.TypeDesc.b,bool->Go.TypeDesc.e
open Go.TypeInfo renaming size->Go.TypeInfo.j
open Go.Value renaming cells->dz,ownBlock->j6,slice->bB,int->aI,oneCell'->dA,agg->cO,bool->bP,string->iK,cells->Go.Value.D,slice->Go.Value.a,int->Go.Value.b,pointer->Go.Value.c,agg->Go.Value.d,tuple->Go.Value.K,bool->Go.Value.e,ownBlock->Go.Value.f,oneCell'->Go.Value.h,string->Go.Value.g
open Go.World renaming frozen?->tF,setRow->sV,size_alloc->pV,ownsRow_nil->fQ,heap->Go.World.a,cell?->Go.World.b,setCell->Go.World.I,ownsRow->Go.World.c,there->Go.World.S,grownBy->Go.World.d
open Go.World.grownBy renaming size->Go.World.grownBy.j
open Int renaming toNat_of_nonneg->mg,toNat_natCast->cK,toNat->Int.e
open List renaming getD_eq_getElem?_getD->au,getElem?_take_of_lt->iB,map_cons->kV,map_nil->qm,length_append->aQ,length_take->bE,append_assoc->bM,take_of_length_le->aK,nil_append->dJ,getElem?_append_left->lF,getElem?_take->jc,getElem?_append_right->mQ,getElem?_drop->iY,ext_getElem?->iC,getElem?_eq_getElem->aC,getElem?_eq_none->aT,drop_of_length_le->jg,length_drop->fZ,length_map->bW,flatMap_cons->iW,cons_append->gQ,getElem_mem->eZ,take_succ_eq_append_getElem->dU,flatMap_append->uD,length_set->aS,mem_append->qP,mem_singleton->fO,mem_map->jf,take_zero->kC,getElem?_map->jM,map_take->BI,getElem?_append->ko,range->eu,append_nil->vI,take_append_of_le_length->fV,take_left'->yQ,drop_drop->wW,drop_left'->yS,mem_cons->bD,map_map->IX,map_congr_left->Dz,findIdx?_eq_some_iff_getElem->fT,getElem?_set->fu,mem_filter->mY,not_mem_nil->gu,drop_take->oQ,eq_nil_of_length_eq_zero->bF,length_cons->bl,length_nil->gU,all_eq_true->gq,mem_iff_getElem->lC,take_take->qw,getElem?_set_ne->Ca,pairwise_iff_getElem->gF,any_eq_false->qL,mem_take_iff_getElem->sK,mem_range->fq,size_toArray->dN,push_toArray->iX,append_toArray->gZ,length->List.a,take->List.E,getD->List.b,toArray->List.c,drop->List.G,flatMap->List.d,below->List.Y,extract->List.m
open Nat renaming mod_eq_of_lt->gy,le_refl->av,le_of_eq->aU,ne_of_gt->tH,lt_succ_self->nD,mul_one->gP,zero_add->bC,min->qO,le_trans->aP,le_succ_of_le->qR,add_sub_cancel_left->cZ,le_of_lt->nE,shiftLeft_eq->nC,sub_self->J9,add_assoc->kY,add_zero->kQ,min_eq_left->lU,eq_zero_or_pos->eB,mod_lt->fP,lt_or_ge->aZ,mul_comm->DY,mul_le_mul_right->dB,reduceAdd->kZ,reduceSub->lg,mul_le_mul->iq,zero_le->jo,lt_of_lt_of_le->fE,below->Nat.Y
open Option renaming map_some->nS,getD_some->jJ,getD->Option.b
open Or renaming inr->Or.a,inl->Or.b
open UInt8 renaming ofNat->aJ,toNat_ofNat'->jB,toNat->UInt8.e,toNat_lt->UInt8.a
open Vector renaming getElem_ofFn->oK,length_toList->nZ,ext->AB,replicate->bG,toList->Vector.a
namespace Go.Proofs.YtkjojjopamaoiaaGreat
open Go.RowKit
def psB(s d:fD)(p n:Nat):List UInt8:=
 if s.h=true then s.b.a.E 16++d.b.a.E 16++[0,0,aJ (n/256),aJ (n%256),0,0,0,aJ p]
 else s.b.a.E 4++d.b.a.E 4++[0,aJ p,aJ (n/256),aJ (n%256)]
theorem aqC(s d:fD)(p n:Nat):(psB s d p n).a<=40:=by unfold psB;split<;>simp
theorem Bh(a:fD)(k:Nat)(hk:k<=16):(a.b.a.E k).a=k/\∀i,i<k->a.ay[1+i]? = some (bv ((a.b.a.E k).b i 0)):=by
 refine⟨by simp;omega,fun i hi=>?_⟩;rw[Nat.add_comm 1 i,fD.Fe _ i (by omega)];simp[au,iB hi]
theorem zZ(n:Nat)(h:n<=255):((aJ n).e:Int)=(n:Int):=by rw[jB,gy (by omega)]
@[go_sem]theorem au0(w:ak)(a0 a1 a2 a3:Int):(Dk 4 #[(0,.b .b a0),(1,.b .b a1),(2,.b .b a2),(3,.b .b a3)]).O ah w=.ok (.a (some ⟨w.a.j,0,none⟩) 4 4) (w.alloc (.D #[.b .b a0,.b .b a1,.b .b a2,.b .b a3] 5)):=by
 obtain⟨i0,hi0,hz0,hz1,hz2⟩:=Av;have hr:mK 4 = #[0,1,2,3]:=by apply pU;rw[kF];rfl
 simp[Dk,bJ,dK dD,zeroValue,sizeOf,typeInfo,hi0,hz0,hz1,fJ,newRow,dz,hr]
@[go_sem]theorem au1(w:ak)(a0 a1 a2 a3 a4 a5 a6 a7:Int):(Dk 8 #[(0,.b .b a0),(1,.b .b a1),(2,.b .b a2),(3,.b .b a3),(4,.b .b a4),(5,.b .b a5),(6,.b .b a6),(7,.b .b a7)]).O ah w=.ok (.a (some ⟨w.a.j,0,none⟩) 8 8) (w.alloc (.D #[.b .b a0,.b .b a1,.b .b a2,.b .b a3,.b .b a4,.b .b a5,.b .b a6,.b .b a7] 5)):=by
 obtain⟨i0,hi0,hz0,hz1,hz2⟩:=Av;have hr:mK 8 = #[0,1,2,3,4,5,6,7]:=by apply pU;rw[kF];rfl
 simp[Dk,bJ,dK dD,zeroValue,sizeOf,typeInfo,hi0,hz0,hz1,fJ,newRow,dz,hr]
theorem aqD(p n:Nat)(hp:p<=255)(hn:n<=65535)(wr:ak):gG (wr.alloc (.D #[.b .b 0,.b .b 0,.b .b ((n:Int)/256),.b .b ((n:Int)%256),.b .b 0,.b .b 0,.b .b 0,.b .b p] 5)) (wr.a.j+1) (some ⟨wr.a.j,0,none⟩) 8 [0,0,aJ (n/256),aJ (n%256),0,0,0,aJ p]:=
 Wh wr #[.b .b 0,.b .b 0,.b .b ((n:Int)/256),.b .b ((n:Int)%256),.b .b 0,.b .b 0,.b .b 0,.b .b p] [0,0,aJ (n/256),aJ (n%256),0,0,0,aJ p] (by
  simp only[kV,qm,bv];rw[zZ _ hp,zZ (n/256) (by omega),zZ (n%256) (by omega)];rfl)
theorem au2(p n:Nat)(hp:p<=255)(hn:n<=65535)(wr:ak):gG (wr.alloc (.D #[.b .b 0,.b .b p,.b .b ((n:Int)/256),.b .b ((n:Int)%256)] 5)) (wr.a.j+1) (some ⟨wr.a.j,0,none⟩) 4 [0,aJ p,aJ (n/256),aJ (n%256)]:=
 Wh wr #[.b .b 0,.b .b p,.b .b ((n:Int)/256),.b .b ((n:Int)%256)] [0,aJ p,aJ (n/256),aJ (n%256)] (by
  simp only[kV,qm,bv];rw[zZ _ hp,zZ (n/256) (by omega),zZ (n%256) (by omega)];rfl)
theorem XH(s d:fD)(p n:Nat)(hp:p<=255)(hn:n<=65535)(w:ak):aR ah 259 #[.d s.ay,.d d.ay,.b .a p,.b .a n] w (Le w (psB s d p n)):=by
 have aEb:=ab (aqD p n hp hn);have PR4:=ab (au2 p n hp hn);have h0:=((Ly.nil (w:=w)).new s.ay 27).new d.ay 27;rw[show(w.alloc (.D s.ay 27)).a.j=w.a.j+1 by simp]at h0;have S0:=ab h0;clear h0;obtain⟨q1,q2,q3,q4⟩:=S0.i.b1.R;obtain⟨p1,p2,p3,p4⟩:=S0.i.Z.R;have x0:=fD.qW s;obtain⟨b6,hb6⟩:∃b,s.h=b:=⟨_,rfl⟩
 have H6:=ab hb6;rw[hb6]at x0;clear hb6;have n0:(0:Int)<=n:=by omega
 have n1:(n:Int)<=65535:=by omega
 have n2:(0:Int)<=p:=by omega
 have n3:(p:Int)<=255:=by omega
 cases b6
 ·have Ho:=ab (show([]:List UInt8).a=0 from rfl)
  obtain⟨ls,oq⟩:∃l,l=s.b.a.E 4:=⟨_,rfl⟩
  obtain⟨ld,hld⟩:∃l,l=d.b.a.E 4:=⟨_,rfl⟩
  have LS:=ab (show ls.a=4 by rw[oq];exact(Bh s 4 (by omega)).1);have LD:=ab (show ld.a=4 by rw[hld];exact(Bh d 4 (by omega)).1);have CS:=ab (show∀i,i<4->s.ay[1+i]? = some (bv (ls.b i 0))by rw[oq];exact(Bh s 4 (by omega)).2);have CD:=ab (show∀i,i<4->d.ay[1+i]? = some (bv (ld.b i 0))by rw[hld];exact(Bh d 4 (by omega)).2);have HT:=ab (show psB s d p n=ls++ld++[0,aJ p,aJ (n/256),aJ (n%256)]by rw[oq,hld];unfold psB;rw[H6.i];rfl);clear oq hld;go_enter Tryz.func259,Tryz.ntmps259;go_wp2;clear q1 q2 q3 q4 p1 p2 p3 p4;go_loopw [9,11] (fun sr si wr=>∃(i:Nat)(A':Option aV)(m' c':Nat),i<=4/\si=.b .a i/\sr=.a A' m' c'/\Ly w.a.j [(w.a.j+1,d.ay),(w.a.j,s.ay)] w wr (.a A' m' c') ([]++ls.E i)) (fun _ si _=>4-(intOf si).e)
  case atStart=>exact⟨0,_,_,_,by omega,rfl,rfl,by simpa using S0.i⟩
  case round=>
   obtain⟨i,A',m',c',hi,rfl,rfl,h⟩:=hrel;have HO:=ab h;clear h;by_cases hlt:i<4
   ·have hlt2:(i:Int)<4:=by omega
    obtain⟨q1,q2,q3,q4⟩:=HO.i.b1.R;have hlq:=HO.i.b1.lt;have hc:=CS.i i hlt;obtain⟨u,hu⟩:=uP (ls.b i 0);rw[hu]at hc;unfold bv at hc;have HS:=ab (yK ls i (by rw[LS.i];exact hlt));rw[hu]at HS;have L1:=ab (HO.i.alloc (.D #[.b .b (u.e:Int)] 5));have R1:=ab (FH wr u _ rfl);have MZ:=ab (show([]++ls.E i).a+1<=1000000000 by rw[aQ,bE,Ho.i,LS.i];omega);go_wp2_with (at_builtin;refine kJ rfl (.a 20) (.a 25) rfl rfl L1.i.o rfl R1.i MZ.i ?_;intro A5 n5 c5 w5 h2 h3;have L2:=ab (L1.i.step h3);clear h2 h3);go_roundw
    case rel=>exact⟨i+1,A5,n5,c5,by omega,by go_num,rfl,by rw[HS.i,<-bM];exact L2.i⟩
    case measure=>simp[intOf]<;>omega
   ·have hge:¬(i:Int)<4:=by omega
    have HF:=ab (show ls.E i=ls from aK (by rw[LS.i];omega));rw[HF.i]at HO;clear HF;rw[dJ]at HO;clear Ho S0;obtain⟨bs2,K8⟩:∃b,b=ls:=⟨_,rfl⟩
    have Ho:=ab (show bs2.a=4 by rw[K8,LS.i]);rw[<-K8]at HO HT;clear K8;go_wp2;clear hge hi hlt;go_loopw [9,12] (fun sr si wr=>∃(i:Nat)(A':Option aV)(m' c':Nat),i<=4/\si=.b .a i/\sr=.a A' m' c'/\Ly w.a.j [(w.a.j+1,d.ay),(w.a.j,s.ay)] w wr (.a A' m' c') (bs2++ld.E i)) (fun _ si _=>4-(intOf si).e)
    case atStart=>exact⟨0,_,_,_,by omega,rfl,rfl,by simpa using HO.i⟩
    case round=>
     obtain⟨i,A',m',c',hi,rfl,rfl,h⟩:=hrel;have HO:=ab h;clear h;by_cases hlt:i<4
     ·have hlt2:(i:Int)<4:=by omega
      obtain⟨q1,q2,q3,q4⟩:=HO.i.Z.R;have hlq:=HO.i.Z.lt;have hc:=CD.i i hlt;obtain⟨u,hu⟩:=uP (ld.b i 0);rw[hu]at hc;unfold bv at hc;have HS:=ab (yK ld i (by rw[LD.i];exact hlt));rw[hu]at HS;have L1:=ab (HO.i.alloc (.D #[.b .b (u.e:Int)] 5));have R1:=ab (FH wr u _ rfl);have MZ:=ab (show(bs2++ld.E i).a+1<=1000000000 by rw[aQ,bE,Ho.i,LD.i];omega);go_wp2_with (at_builtin;refine kJ rfl (.a 32) (.a 37) rfl rfl L1.i.o rfl R1.i MZ.i ?_;intro A5 n5 c5 w5 h2 h3;have L2:=ab (L1.i.step h3);clear h2 h3);go_roundw
      case rel=>exact⟨i+1,A5,n5,c5,by omega,by go_num,rfl,by rw[HS.i,<-bM];exact L2.i⟩
      case measure=>simp[intOf]<;>omega
     ·have hge:¬(i:Int)<4:=by omega
      have HF:=ab (show ld.E i=ld from aK (by rw[LD.i];omega));rw[HF.i]at HO;clear HF;obtain⟨bs3,MF⟩:∃b,b=bs2++ld:=⟨_,rfl⟩
      have Oq:=ab (show bs3.a=8 by rw[MF,aQ,Ho.i,LD.i]);rw[<-MF]at HO HT;clear MF;obtain⟨q1,q2,q3,q4⟩:=HO.i.b1.R;have L4:=ab (HO.i.alloc (.D #[.b .b 0,.b .b p,.b .b ((n:Int)/256),.b .b ((n:Int)%256)] 5));have R4:=ab (PR4.i wr);have HL4:=ab (show bs3.a+4<=1000000000 by rw[Oq.i];omega);go_wp2_with (at_builtin;refine kJ rfl (.a 52) (.a 61) rfl rfl L4.i.o rfl R4.i HL4.i ?_;intro A5 n5 c5 w5 h2 h3;have L5:=ab (L4.i.step h3);clear h2 h3);go_ret;rw[<-HT.i]at L5;have ho:=L5.i.o;obtain⟨A9,c9,e9⟩:=ho.DT;injection e9 with e9 e10 e11
      subst e10;exact⟨A5,_,c5,rfl,rfl,ho.vM,ho.X⟩
 ·have Ho:=ab (show([]:List UInt8).a=0 from rfl)
  obtain⟨ls,oq⟩:∃l,l=s.b.a.E 16:=⟨_,rfl⟩
  obtain⟨ld,hld⟩:∃l,l=d.b.a.E 16:=⟨_,rfl⟩
  have LS:=ab (show ls.a=16 by rw[oq];exact(Bh s 16 (by omega)).1);have LD:=ab (show ld.a=16 by rw[hld];exact(Bh d 16 (by omega)).1);have CS:=ab (show∀i,i<16->s.ay[1+i]? = some (bv (ls.b i 0))by rw[oq];exact(Bh s 16 (by omega)).2);have CD:=ab (show∀i,i<16->d.ay[1+i]? = some (bv (ld.b i 0))by rw[hld];exact(Bh d 16 (by omega)).2);have HT:=ab (show psB s d p n=ls++ld++[0,0,aJ (n/256),aJ (n%256),0,0,0,aJ p]by rw[oq,hld];unfold psB;rw[H6.i];rfl);clear oq hld;go_enter Tryz.func259,Tryz.ntmps259;go_wp2;clear q1 q2 q3 q4 p1 p2 p3 p4;go_loopw [9,11] (fun sr si wr=>∃(i:Nat)(A':Option aV)(m' c':Nat),i<=16/\si=.b .a i/\sr=.a A' m' c'/\Ly w.a.j [(w.a.j+1,d.ay),(w.a.j,s.ay)] w wr (.a A' m' c') ([]++ls.E i)) (fun _ si _=>16-(intOf si).e)
  case atStart=>exact⟨0,_,_,_,by omega,rfl,rfl,by simpa using S0.i⟩
  case round=>
   obtain⟨i,A',m',c',hi,rfl,rfl,h⟩:=hrel;have HO:=ab h;clear h;by_cases hlt:i<16
   ·have hlt2:(i:Int)<16:=by omega
    obtain⟨q1,q2,q3,q4⟩:=HO.i.b1.R;have hlq:=HO.i.b1.lt;have hc:=CS.i i hlt;obtain⟨u,hu⟩:=uP (ls.b i 0);rw[hu]at hc;unfold bv at hc;have HS:=ab (yK ls i (by rw[LS.i];exact hlt));rw[hu]at HS;have L1:=ab (HO.i.alloc (.D #[.b .b (u.e:Int)] 5));have R1:=ab (FH wr u _ rfl);have MZ:=ab (show([]++ls.E i).a+1<=1000000000 by rw[aQ,bE,Ho.i,LS.i];omega);go_wp2_with (at_builtin;refine kJ rfl (.a 20) (.a 25) rfl rfl L1.i.o rfl R1.i MZ.i ?_;intro A5 n5 c5 w5 h2 h3;have L2:=ab (L1.i.step h3);clear h2 h3);go_roundw
    case rel=>exact⟨i+1,A5,n5,c5,by omega,by go_num,rfl,by rw[HS.i,<-bM];exact L2.i⟩
    case measure=>simp[intOf]<;>omega
   ·have hge:¬(i:Int)<16:=by omega
    have HF:=ab (show ls.E i=ls from aK (by rw[LS.i];omega));rw[HF.i]at HO;clear HF;rw[dJ]at HO;clear Ho S0;obtain⟨bs2,K8⟩:∃b,b=ls:=⟨_,rfl⟩
    have Ho:=ab (show bs2.a=16 by rw[K8,LS.i]);rw[<-K8]at HO HT;clear K8;go_wp2;clear hge hi hlt;go_loopw [9,12] (fun sr si wr=>∃(i:Nat)(A':Option aV)(m' c':Nat),i<=16/\si=.b .a i/\sr=.a A' m' c'/\Ly w.a.j [(w.a.j+1,d.ay),(w.a.j,s.ay)] w wr (.a A' m' c') (bs2++ld.E i)) (fun _ si _=>16-(intOf si).e)
    case atStart=>exact⟨0,_,_,_,by omega,rfl,rfl,by simpa using HO.i⟩
    case round=>
     obtain⟨i,A',m',c',hi,rfl,rfl,h⟩:=hrel;have HO:=ab h;clear h;by_cases hlt:i<16
     ·have hlt2:(i:Int)<16:=by omega
      obtain⟨q1,q2,q3,q4⟩:=HO.i.Z.R;have hlq:=HO.i.Z.lt;have hc:=CD.i i hlt;obtain⟨u,hu⟩:=uP (ld.b i 0);rw[hu]at hc;unfold bv at hc;have HS:=ab (yK ld i (by rw[LD.i];exact hlt));rw[hu]at HS;have L1:=ab (HO.i.alloc (.D #[.b .b (u.e:Int)] 5));have R1:=ab (FH wr u _ rfl);have MZ:=ab (show(bs2++ld.E i).a+1<=1000000000 by rw[aQ,bE,Ho.i,LD.i];omega);go_wp2_with (at_builtin;refine kJ rfl (.a 32) (.a 37) rfl rfl L1.i.o rfl R1.i MZ.i ?_;intro A5 n5 c5 w5 h2 h3;have L2:=ab (L1.i.step h3);clear h2 h3);go_roundw
      case rel=>exact⟨i+1,A5,n5,c5,by omega,by go_num,rfl,by rw[HS.i,<-bM];exact L2.i⟩
      case measure=>simp[intOf]<;>omega
     ·have hge:¬(i:Int)<16:=by omega
      have HF:=ab (show ld.E i=ld from aK (by rw[LD.i];omega));rw[HF.i]at HO;clear HF;obtain⟨bs3,MF⟩:∃b,b=bs2++ld:=⟨_,rfl⟩
      have Oq:=ab (show bs3.a=32 by rw[MF,aQ,Ho.i,LD.i]);rw[<-MF]at HO HT;clear MF;obtain⟨q1,q2,q3,q4⟩:=HO.i.b1.R;have L4:=ab (HO.i.alloc (.D #[.b .b 0,.b .b 0,.b .b ((n:Int)/256),.b .b ((n:Int)%256),.b .b 0,.b .b 0,.b .b 0,.b .b p] 5));have R4:=ab (aEb.i wr);have HL4:=ab (show bs3.a+8<=1000000000 by rw[Oq.i];omega);go_wp2_with (at_builtin;refine kJ rfl (.a 41) (.a 50) rfl rfl L4.i.o rfl R4.i HL4.i ?_;intro A5 n5 c5 w5 h2 h3;have L5:=ab (L4.i.step h3);clear h2 h3);go_ret;rw[<-HT.i]at L5;have ho:=L5.i.o;obtain⟨A9,c9,e9⟩:=ho.DT;injection e9 with e9 e10 e11
      subst e10;exact⟨A5,_,c5,rfl,rfl,ho.vM,ho.X⟩
def rZ(l:List UInt8)(k:Nat)(b:List UInt8):List UInt8:=l.E k++b++l.G (k+b.a)
def Hq(n:Nat):List UInt8:=[aJ (n/256),aJ (n%256)]
theorem ug(n:Nat):(Hq n).a=2:=rfl
theorem xL{l:List UInt8}{k:Nat}{b:List UInt8}(h:k+b.a<=l.a):(rZ l k b).a=l.a:=by
 unfold rZ;simp;omega
theorem FT{l:List UInt8}{k:Nat}{b:List UInt8}(h:k+b.a<=l.a)(j:Nat):(rZ l k b).b j 0=if k<=j/\j<k+b.a then b.b (j-k) 0 else l.b j 0:=by
 unfold rZ;rw[au,au,au,bM];by_cases h1:j<k
 ·rw[lF (by simp;omega),jc,if_pos h1,if_neg (by omega)]
 ·rw[mQ (by simp;omega)]
  have e:(l.E k).a=k:=by simp;omega
  rw[e];by_cases h2:j<k+b.a
  ·rw[lF (by omega),if_pos (by omega)]
  ·rw[mQ (by omega),if_neg (by omega),iY]
   congr 2;omega
theorem am7{l:List UInt8}{k:Nat}{b:List UInt8}(h:k+b.a<=l.a){z n:Nat}(hj:z+n<=k\/k+b.a<=z):((rZ l k b).G z).E n=(l.G z).E n:=by
 apply iC;intro i;rw[jc,jc];by_cases hi:i<n
 ·rw[if_pos hi,if_pos hi,iY,iY]
  have hg:=FT h (z+i);rw[if_neg (by omega),au,au]at hg;have hl:=xL h;by_cases hlt:z+i<l.a
  ·rw[aC hlt,aC (by omega)]at hg ⊢
   simpa using hg
  ·rw[aT (by omega),aT (by omega)]
 ·rw[if_neg hi,if_neg hi]
theorem ajN{l:List UInt8}{k:Nat}{b:List UInt8}(h:k+b.a<=l.a):((rZ l k b).G k).E b.a=b:=by
 unfold rZ;rw[bM,List.drop_append_of_le_length (by simp;omega),jg (by simp;omega)];simp
def zF(p:Int):Nat:=if p=6 then 16 else if p=17 then 6 else 0
def Ip(l:List UInt8)(a:fD)(n:Int):Bool:=(lW l).kind==0&&(a.h==(lW l).K.h.h&&((lW l).K.h.h||a.mO))&&(decide (0<=n)&&decide (n<=65535))
def Wi(p:Pk)(dst:Bool):Nat:=p.h.e+(if p.K.h.h then 8 else 12)+(if dst then(if p.K.h.h then 16 else 4)else 0)
def uh(p:Pk):Nat:=if p.K.h.h then 16 else 4
def Bv(p:Pk)(dst:Bool):Nat:=p.ru.e+(if dst then 2 else 0)
def rw1(l:List UInt8)(p:Pk)(a:fD)(n:Nat)(dst:Bool):List UInt8:=rZ (rZ (l.E p.rE.e) (Wi p dst) (a.b.a.E (uh p))) (Bv p dst) (Hq n)
def Rb(l:List UInt8)(p:Pk)(dst:Bool):List UInt8:=(l.G (Wi p dst)).E (uh p)
def rw2(l:List UInt8)(p:Pk)(a:fD)(n:Nat)(dst:Bool):List UInt8:=
 if p.K.h.h then rw1 l p a n dst else rZ (rw1 l p a n dst) (p.h.e+10) (Hq (kT (dF l (p.h.e+10)) (Rb l p dst) (a.b.a.E (uh p))))
def ahW(l:List UInt8)(p:Pk)(a:fD)(n:Nat)(dst:Bool):Nat:=
 kT (kT (dF l (p.ru.e+zF p.K.aN)) (Rb l p dst) (a.b.a.E (uh p))) ((l.G (Bv p dst)).E 2) (Hq n)
def Wj(l:List UInt8)(p:Pk)(a:fD)(n:Nat)(dst:Bool):List UInt8:=
 if p.K.aN=17/\dF l (p.ru.e+zF p.K.aN)=0 then rw2 l p a n dst
 else rZ (rw2 l p a n dst) (p.ru.e+zF p.K.aN) (Hq (if p.K.aN=17/\ahW l p a n dst=0 then 65535 else ahW l p a n dst))
def Ot(l:List UInt8)(a:fD)(n:Int)(dst:Bool):List UInt8:=if Ip l a n then Wj l (lW l) a n.e dst else []
structure am8(l:List UInt8)(p:Pk):Prop where
 fam:p.K.h.h=p.K.dst.h
 h:14<=p.h
 ru:p.h+(if p.K.h.h then 40 else 20)<=p.ru
 pro:p.K.aN=6\/p.K.aN=17
 rE:p.ru+(if p.K.aN=6 then 20 else 8)<=p.rE
 len:p.rE<=l.a
theorem Wm(f:Nat):∀(x:Sx)(r:List UInt8),(wm f x r).2=0->(wm f x r).1.h=x.h/\(wm f x r).1.dst=x.dst:=by
 induction f with
 | zero=>
   intro x r h;unfold wm at h ⊢;split
   ·exact⟨rfl,rfl⟩
   ·rename_i h1;rw[if_neg h1]at h;cases h
 | succ f ih=>
   intro x r h;unfold wm at h ⊢;split
   ·exact⟨rfl,rfl⟩
   ·rename_i h1
    rw[if_neg h1]at h;split
    ·rename_i h2;rw[if_pos h2]at h;cases h
    ·rename_i h2;rw[if_neg h2]at h;exact ih _ _ h
theorem abq{l:List UInt8}(h:(yO l).2=0):(yO l).1.h.h=true/\(yO l).1.dst.h=true:=by
 unfold yO at h ⊢;split
 ·rename_i h1;rw[if_pos h1]at h;cases h
 ·rename_i h1
  rw[if_neg h1]at h;split
  ·rename_i h2;rw[if_pos h2]at h;cases h
  ·rename_i h2
   rw[if_neg h2]at h;split
   ·rename_i h3;rw[if_pos h3]at h;cases h
   ·rename_i h3
    rw[if_neg h3]at h;obtain⟨a,b⟩:=Wm _ _ _ h;rw[a,b];exact⟨rfl,rfl⟩
theorem abr{l:List UInt8}(h:(wV l).2=0):(wV l).1.h.h=false/\(wV l).1.dst.h=false:=by
 unfold wV at h ⊢;split
 ·exact⟨rfl,rfl⟩
 ·rename_i h1;rw[if_neg h1]at h;exact absurd h h1
theorem ahX{p:Int}{l:List UInt8}(hp:p=6\/p=17)(h:(FM p l).2=0):(if p=6 then 20 else 8)<=l.a:=by
 rcases hp with rfl|rfl
 ·rw[asG]at h
  rw[if_pos rfl];by_cases h1:l.a<20
  ·rw[if_pos h1]at h;cases h
  ·omega
 ·rw[am5]at h
  rw[if_neg (by decide)];by_cases h1:l.a<8
  ·rw[if_pos h1]at h;cases h
  ·omega
theorem xM{l:List UInt8}(h:(lW l).kind=0):am8 l (lW l):=by
 unfold lW at h ⊢;by_cases h1:(iV l).2≠0
 ·rw[if_pos h1]at h;cases h
 rw[if_neg h1]at h ⊢;by_cases h2:(iV l).1.mP≠2048/\(iV l).1.mP≠34525
 ·rw[if_pos h2]at h;cases h
 rw[if_neg h2]at h ⊢;by_cases h3:(jO l).2≠0
 ·rw[if_pos h3]at h;cases h
 rw[if_neg h3]at h ⊢;by_cases h4:(jO l).1.mW=true
 ·rw[if_pos h4]at h;cases h
 rw[if_neg h4]at h ⊢;by_cases h5:(jO l).1.aN≠6/\(jO l).1.aN≠17
 ·rw[if_pos h5]at h;cases h
 rw[if_neg h5]at h ⊢;by_cases h6:(Bu l).2≠0
 ·rw[if_pos h6]at h;cases h
 rw[if_neg h6];have hat:=JJ (l:=l) (by omega);have h3':(Pf (iV l).1.mP (l.G (iV l).1.dW)).2=0:=by simpa[jO]using h3
 have hip:=abk h3';rw[fZ]at hip;have hp:(jO l).1.aN=6\/(jO l).1.aN=17:=by omega
 have hpt:=ahX hp (l:=(l.E ((iV l).1.dW+(jO l).1.bR.e)).G ((iV l).1.dW+(jO l).1.head.e)) (by simpa[Bu]using h6);rw[fZ,bE]at hpt;have hh:(jO l).1.head=(Pf (iV l).1.mP (l.G (iV l).1.dW)).1.head:=rfl;have ht:(jO l).1.bR=(Pf (iV l).1.mP (l.G (iV l).1.dW)).1.bR:=rfl;have ay5:(jO l).1.h.h=(jO l).1.dst.h/\((jO l).1.h.h=true->40<=(jO l).1.head):=by
  unfold jO Pf;unfold Pf at h3';by_cases h7:(iV l).1.mP=2048
  ·rw[if_pos h7]at h3' ⊢
   have:=abr h3';exact⟨by simp only[this.1,this.2],fun e=>by simp only[this.1]at e;cases e⟩
  ·rw[if_neg h7]at h3' ⊢
   have:=abq h3';exact⟨by simp only[this.1,this.2],fun _=>(abj h3').1⟩
 refine⟨ay5.1,?_,?_,hp,?_,?_⟩
 ·show(14:Int)<=((iV l).1.dW:Nat)
  omega
 ·show((iV l).1.dW:Int)+(if(jO l).1.h.h then 40 else 20)<=((iV l).1.dW:Int)+(jO l).1.head
  split
  ·have:=ay5.2 ‹_›;omega
  ·omega
 ·show((iV l).1.dW:Int)+(jO l).1.head+(if(jO l).1.aN=6 then 20 else 8)<=((iV l).1.dW:Int)+(jO l).1.bR
  rcases hp with e|e
  ·rw[if_pos e]at hpt⊢;omega
  ·rw[if_neg (by rw[e];decide)]at hpt⊢;omega
 ·show((iV l).1.dW:Int)+(jO l).1.bR<=l.a
  omega
theorem Ly.am9(w w1:ak)(hb:aM w.a.j w w1)(c:Array aB)(l:List UInt8)(k:Nat)(hk:l.a=k)(hk2:k<=1000000)(h:c.a=l.map bv):Ly w.a.j [] w (w1.alloc (.D c 5)) (.a (some ⟨w1.a.j,0,none⟩) k k) l:=by
 have hc:c.j=k:=by rw[<-aY,h,bW,hk]
 have h1:(w1.alloc (.D c 5)).c w1.a.j 5 1 (.a (some ⟨w1.a.j,0,none⟩) k k) k c.a:=World.ownsRow_lit w1 c k (av _) (by unfold maxLen;omega) (by omega);rw[h]at h1;have h2:=hb.alloc hb.j (.D c 5);subst hk;exact⟨⟨iU h1 hb.j,⟨h2.os,h2.tape,h2.output,h2.j,fun i hi _=>h2.block i hi⟩,.a ⟨_,rfl,hb.j⟩,av _,fun k h=>by cases h⟩,fun p hp=>by cases hp⟩
def oD(x:Sx):List UInt8:=[96,0,0,0,aJ ((x.bR-40).e/256),aJ ((x.bR-40).e%256),aJ x.aN.e,aJ x.II.e]++x.h.b.a++x.dst.b.a
def oV(n:Int):List UInt8:=[aJ (n.e/256),aJ (n.e%256)]
def yP(t:Tg):List UInt8:=oV t.mP++oV t.tci
def oF(d s:Vector UInt8 6)(dM:List Tg)(ty:Int):List UInt8:=d.a++s.a++dM.d yP++oV ty
def abt(t:Tg):Prop:=(0<=t.mP/\t.mP<=65535)/\0<=t.tci/\t.tci<=65535
theorem FU(l:List Tg):(l.d yP).a=4*l.a:=by
 induction l with
 | nil=>rfl
 | cons a l ih=>rw[iW,aQ,ih];simp[yP,oV];omega
theorem asI(d:Vector UInt8 6)(i:Nat)(hi:i<6):(Bp d)[i]? = some (bv (d.a.b i 0)):=by
 simp[Bp,au,hi]
theorem Lc.au3(x:Lc)(i:Nat)(hi:i<6):x.ay[i]? = some (bv (x.dst.a.b i 0)):=by
 rw[<-asI _ i hi];simp[Lc.ay,aD,gH,hi]
theorem Lc.au4(x:Lc)(i:Nat)(hi:i<6):x.ay[6+i]? = some (bv (x.h.a.b i 0)):=by
 rw[<-asI _ i hi];simp[Lc.ay,aD,gH,hi,show¬6+i<6 by omega]
theorem Wn(n:Int)(h0:0<=n)(h1:n<=65535):((aJ (n.e/256)).e:Int)=n/256/\((aJ (n.e%256)).e:Int)=n%256:=by
 rw[zZ _ (by omega),zZ _ (by omega)];omega
theorem au5(n:Int)(h0:0<=n)(h1:n<=65535)(wr:ak):gG (wr.alloc (.D #[.b .b (n/256),.b .b (n%256)] 5)) (wr.a.j+1) (some ⟨wr.a.j,0,none⟩) 2 (oV n):=
 Wh wr #[.b .b (n/256),.b .b (n%256)] (oV n) (by
  obtain⟨e1,e2⟩:=Wn n h0 h1;simp only[oV,kV,qm,bv];rw[e1,e2])
theorem au6(t:Tg)(h:abt t)(wr:ak):gG (wr.alloc (.D #[.b .b (t.mP/256),.b .b (t.mP%256),.b .b (t.tci/256),.b .b (t.tci%256)] 5)) (wr.a.j+1) (some ⟨wr.a.j,0,none⟩) 4 (yP t):=
 Wh wr #[.b .b (t.mP/256),.b .b (t.mP%256),.b .b (t.tci/256),.b .b (t.tci%256)] (yP t) (by
  obtain⟨e1,e2⟩:=Wn t.mP h.1.1 h.1.2;obtain⟨e3,e4⟩:=Wn t.tci h.2.1 h.2.2;simp only[yP,oV,kV,qm,bv,gQ,dJ];rw[e1,e2,e3,e4])
theorem Wo(x:Lc)(dM:List Tg)(hf:∀t∈dM,abt t)(hn:dM.a<=1000)(t0:0<=x.mP)(t1:x.mP<=65535)(w:ak)(hT:iT Tg.ay 2 w w.a.j x.VQ x.FJ dM):aR ah 103 #[.d x.ay] w (Le w (oF x.dst x.h dM x.mP)):=by
 have HT:=ab (show oF x.dst x.h dM x.mP=x.dst.a++x.h.a++dM.d yP++oV x.mP from rfl);have l0:=((Ly.nil (w:=w)).new x.ay 108)
 have S0:=ab l0;clear l0;have hl:=ab hT.len;have hnt:x.FJ<=1000:=by rw[<-hl.i];exact hn
 have HR:=ab hT;have HF:=ab hf;clear hT hf;have Ho:=ab (show([]:List UInt8).a=0 from rfl);have CS:=ab (x.au4);have CD:=ab (x.au3);obtain⟨ls,oq⟩:∃l,l=x.h.a:=⟨_,rfl⟩
 obtain⟨ld,hld⟩:∃l,l=x.dst.a:=⟨_,rfl⟩
 have LS:=ab (show ls.a=6 by rw[oq];simp);have LD:=ab (show ld.a=6 by rw[hld];simp);rw[<-oq]at HT CS;rw[<-hld]at HT CD;clear oq hld;go_enter Tryz.func103,Tryz.ntmps103;go_wp2;go_loopw [3,4] (fun sr si wr=>∃(i:Nat)(A':Option aV)(m' c':Nat),i<=6/\si=.b .a i/\sr=.a A' m' c'/\Ly w.a.j [(w.a.j,x.ay)] w wr (.a A' m' c') ([]++ld.E i)) (fun _ si _=>6-(intOf si).e)
 case atStart=>exact⟨0,_,_,_,by omega,rfl,rfl,by simpa using S0.i⟩
 case round=>
  obtain⟨i,A',m',c',hi,rfl,rfl,h⟩:=hrel;have HO:=ab h;clear h;by_cases hlt:i<6
  ·have hlt2:(i:Int)<6:=by omega
   obtain⟨q1,q2,q3,q4⟩:=HO.i.Z.R;have hlq:=HO.i.Z.lt;have hc:=CD.i i hlt;obtain⟨u,hu⟩:=uP (ld.b i 0);rw[hu]at hc;unfold bv at hc;have HS:=ab (yK ld i (by rw[LD.i];exact hlt));rw[hu]at HS;have L1:=ab (HO.i.alloc (.D #[.b .b (u.e:Int)] 5));have R1:=ab (FH wr u _ rfl);have MZ:=ab (show([]++ld.E i).a+1<=1000000000 by rw[aQ,bE,Ho.i,LD.i];omega);go_wp2_with (at_builtin;refine kJ rfl (.a 12) (.a 17) rfl rfl L1.i.o rfl R1.i MZ.i ?_;intro A5 n5 c5 w5 h2 h3;have L2:=ab (L1.i.step h3);clear h2 h3);go_roundw
   case rel=>exact⟨i+1,A5,n5,c5,by omega,by go_num,rfl,by rw[HS.i,<-bM];exact L2.i⟩
   case measure=>simp[intOf]<;>omega
  ·have hge:¬(i:Int)<6:=by omega
   have HF:=ab (show ld.E i=ld from aK (by rw[LD.i];omega));rw[HF.i]at HO;clear HF;rw[dJ]at HO;clear Ho S0;obtain⟨bs2,K8⟩:∃b,b=ld:=⟨_,rfl⟩
   have Ho:=ab (show bs2.a=6 by rw[K8,LD.i]);rw[<-K8]at HO HT;clear K8;go_wp2;clear hge hi hlt;go_loopw [3,5] (fun sr si wr=>∃(i:Nat)(A':Option aV)(m' c':Nat),i<=6/\si=.b .a i/\sr=.a A' m' c'/\Ly w.a.j [(w.a.j,x.ay)] w wr (.a A' m' c') (bs2++ls.E i)) (fun _ si _=>6-(intOf si).e)
   case atStart=>exact⟨0,_,_,_,by omega,rfl,rfl,by simpa using HO.i⟩
   case round=>
    obtain⟨i,A',m',c',hi,rfl,rfl,h⟩:=hrel;have HO:=ab h;clear h;by_cases hlt:i<6
    ·have hlt2:(i:Int)<6:=by omega
     obtain⟨q1,q2,q3,q4⟩:=HO.i.Z.R;have hlq:=HO.i.Z.lt;have hc:=CS.i i hlt;obtain⟨u,hu⟩:=uP (ls.b i 0);rw[hu]at hc;unfold bv at hc;have HS:=ab (yK ls i (by rw[LS.i];exact hlt));rw[hu]at HS;have L1:=ab (HO.i.alloc (.D #[.b .b (u.e:Int)] 5));have R1:=ab (FH wr u _ rfl);have MZ:=ab (show(bs2++ls.E i).a+1<=1000000000 by rw[aQ,bE,Ho.i,LS.i];omega);go_wp2_with (at_builtin;refine kJ rfl (.a 23) (.a 28) rfl rfl L1.i.o rfl R1.i MZ.i ?_;intro A5 n5 c5 w5 h2 h3;have L2:=ab (L1.i.step h3);clear h2 h3);go_roundw
     case rel=>exact⟨i+1,A5,n5,c5,by omega,by go_num,rfl,by rw[HS.i,<-bM];exact L2.i⟩
     case measure=>simp[intOf]<;>omega
    ·have hge:¬(i:Int)<6:=by omega
     have HF:=ab (show ls.E i=ls from aK (by rw[LS.i];omega));rw[HF.i]at HO;clear HF;obtain⟨bs3,MF⟩:∃b,b=bs2++ls:=⟨_,rfl⟩
     have Oq:=ab (show bs3.a=12 by rw[MF,aQ,Ho.i,LS.i]);rw[<-MF]at HO HT;clear MF Ho;have S3:=HO;clear HO;go_wp2;clear hge hi hlt;go_loopw [3,6] (fun sr si wr=>∃(i:Nat)(A':Option aV)(m' c':Nat),i<=x.FJ/\si=.b .a i/\sr=.a A' m' c'/\Ly w.a.j [(w.a.j,x.ay)] w wr (.a A' m' c') (bs3++(dM.E i).d yP)) (fun _ si _=>x.FJ-(intOf si).e)
     case atStart=>exact⟨0,_,_,_,by omega,rfl,rfl,by simpa using S3.i⟩
     case round=>
      obtain⟨i,A',m',c',hi,rfl,rfl,h⟩:=hrel;have HO:=ab h;clear h S3;obtain⟨q1,q2,q3,q4⟩:=HO.i.Z.R;by_cases hlt:i<x.FJ
      ·have hlt2:(i:Int)<x.FJ:=by omega
       obtain⟨ba,oa,ea,_,t3,t4⟩:=(HR.i.go HO.i.o.X).dW Tg.J SH hlt;obtain⟨t,ht⟩:=cB (dM.b i SH);rw[<-ht]at t4;have HK:=ab (show abt t by rw[ht,au,aC (by rw[hl.i];exact hlt)];exact HF.i _ (eZ _));have HS:=ab (show(dM.E (i+1)).d yP=(dM.E i).d yP++yP t by rw[ht,dU (by rw[hl.i];exact hlt),uD,au,aC (by rw[hl.i];exact hlt)];simp);obtain⟨⟨k1,k2⟩,k3,k4⟩:=HK.i;have MZ:=ab (show(bs3++(dM.E i).d yP).a+4<=1000000000 by rw[aQ,FU,bE,Oq.i];omega);clear ht;have L1:=ab ((HO.i.alloc (.D t.ay 268)).alloc (.D #[.b .b (t.mP/256),.b .b (t.mP%256),.b .b (t.tci/256),.b .b (t.tci%256)] 5));have R1:=ab (au6 t HK.i (wr.alloc (.D t.ay 268)));have TB:=ab (dP.new wr t.ay 268);go_upto_region 14 with fail
       obtain⟨y1,y2,y3,y4⟩:=TB.i.R;generalize wr.alloc (.D t.ay 268)=wt at *;go_wp2_with (at_builtin;refine kJ rfl (.a 42) (.a 59) rfl rfl L1.i.o rfl R1.i MZ.i ?_;intro A5 n5 c5 w5 h2 h3;have L2:=ab (L1.i.step h3);clear h2 h3);go_roundw
       case rel=>exact⟨i+1,A5,n5,c5,by omega,by go_num,rfl,by rw[HS.i,<-bM];exact L2.i⟩
       case measure=>simp[intOf]<;>omega
      ·have hge:¬(i:Int)<x.FJ:=by omega
       have HE:=ab (show dM.E i=dM from aK (by rw[hl.i];omega));rw[HE.i]at HO;have L4:=ab (HO.i.alloc (.D #[.b .b (x.mP/256),.b .b (x.mP%256)] 5));have R4:=ab (au5 x.mP t0 t1 wr);have HL4:=ab (show(bs3++dM.d yP).a+2<=1000000000 by rw[aQ,FU,Oq.i];omega);clear HE;go_wp2_with (at_builtin;refine kJ rfl (.a 61) (.a 70) rfl rfl L4.i.o rfl R4.i HL4.i ?_;intro A5 n5 c5 w5 h2 h3;have L5:=ab (L4.i.step h3);clear h2 h3);go_ret;rw[<-HT.i]at L5;have ho:=L5.i.o;obtain⟨A9,c9,e9⟩:=ho.DT;injection e9 with e9 e10 e11
       subst e10;exact⟨A5,_,c5,rfl,rfl,ho.vM,ho.X⟩
theorem Ly.at0{B:Nat}{L:List (Nat×Array aB)}{w0 W:ak}{A:Option aV}{n c:Nat}{bs:List UInt8}(h:Ly B L w0 W (.a A n c) bs)(hn:0<bs.a):
 n=bs.a/\n<=c/\∃g,A=some ⟨g,0,none⟩/\(∀j,j<bs.a->W.b ⟨g,j,none⟩=some (bv (bs.b j 0)))/\(∀j,W.frozen? ⟨g,j,none⟩=false):=by
 obtain⟨h1,h2⟩:=h.o.vM;rcases h2 with⟨e,e2⟩|⟨g,cap,cur,e,hg,hh,hle,hm,hs,ht⟩
 ·omega
 ·injection e with e1 e2 e3
  subst e1 e2 e3;refine⟨rfl,hle,g,rfl,fun j hj=>?_,fun j=>by simp[tF,hh]⟩;rw[cell_of_row W g j cur _ (0,0) hh];have:(bs.map bv)[j]? = some (bv (bs.b j 0)):=by simp[au,hj]
  rw[<-this,<-ht,iB (by omega),dH]
theorem Ly.agh{B:Nat}{L:List (Nat×Array aB)}{w0 W:ak}{g n c:Nat}{bs:List UInt8}(h:Ly B L w0 W (.a (some ⟨g,0,none⟩) n c) bs)(j:Nat)(b:UInt8):Ly B L w0 (W.I ⟨g,j,none⟩ (bv b)) (.a (some ⟨g,0,none⟩) n c) (bs.set j b):=by
 obtain⟨A9,c9,e9⟩:=h.o.DT;injection e9 with e9 e10 e11
 subst e10;obtain⟨g1,g2⟩:=h.o.vM.stored j (bv b);refine⟨⟨by rw[aS,List.map_set];exact g1,auk h.o.gr (.a ?_) _,h.o.xG,h.o.hB,h.o.gb⟩,fun p hp=>⟨(h.J p hp).1.dQ _ _ (fun e=>(h.J p hp).2 (by rw[<-e];rfl)),(h.J p hp).2⟩⟩;rcases h.o.xG with e|⟨k,e,e2⟩
 ·cases e
 ·injection e with e
  subst e;exact e2
def zG(x:Fo):List UInt8:=[69,aJ x.Pb.e,aJ (x.bR.e/256),aJ (x.bR.e%256),aJ (x.id.e/256),aJ (x.id.e%256),(if x.keep then 64 else 0),0,aJ x.Mv.e,aJ x.aN.e,0,0]++x.h.b.a.E 4++x.dst.b.a.E 4
def LJ(l:List UInt8):List UInt8:=(l.set 10 (aJ (uo l/256))).set 11 (aJ (uo l%256))
def lS(x:Fo):List UInt8:=LJ (zG x)
theorem Fo.NJ(x:Fo)(i:Nat)(hi:i<16):x.ay[9+i]? = some (bv (x.h.b.a.b i 0)):=by
 rw[<-fD.Fe _ i hi];have:i+1<17:=by omega
 simp[Fo.ay,aD,fD.J,show 9+i-8=i+1 by omega,show¬9+i<8 by omega,this]
theorem Fo.LC(x:Fo)(i:Nat)(hi:i<16):x.ay[26+i]? = some (bv (x.dst.b.a.b i 0)):=by
 rw[<-fD.Fe _ i hi];simp[Fo.ay,aD,fD.J,show¬26+i<8 by omega,show¬26+i-8<17 by omega,show 26+i-8-17=i+1 by omega]
theorem asK(l:List UInt8)(i:Nat)(hi:i<4):(l.E 4).b i 0=l.b i 0:=by
 simp[au,iB hi]
@[go_sem]theorem asL(w:ak)(a0 a1 a2 a3 a4 a5 a6 a7 a8 a9 a10 a11:Int):(Dk 12 #[(0,.b .b a0),(1,.b .b a1),(2,.b .b a2),(3,.b .b a3),(4,.b .b a4),(5,.b .b a5),(6,.b .b a6),(7,.b .b a7),(8,.b .b a8),(9,.b .b a9),(10,.b .b a10),(11,.b .b a11)]).O ah w=.ok (.a (some ⟨w.a.j,0,none⟩) 12 12) (w.alloc (.D #[.b .b a0,.b .b a1,.b .b a2,.b .b a3,.b .b a4,.b .b a5,.b .b a6,.b .b a7,.b .b a8,.b .b a9,.b .b a10,.b .b a11] 5)):=by
 obtain⟨i0,hi0,hz0,hz1,hz2⟩:=Av;have hr:mK 12 = #[0,1,2,3,4,5,6,7,8,9,10,11]:=by apply pU;rw[kF];rfl
 simp[Dk,bJ,dK dD,zeroValue,sizeOf,typeInfo,hi0,hz0,hz1,fJ,newRow,dz,hr]
theorem Wp(x:Fo)(s0:0<=x.Pb)(s1:x.Pb<=255)(t0:0<=x.bR)(t1:x.bR<=65535)(i0:0<=x.id)(i1:x.id<=65535)(l0:0<=x.Mv)(l1:x.Mv<=255)(p0:0<=x.aN)(p1:x.aN<=255)(w:ak):aR ah 106 #[.d x.ay] w (Le w (lS x)):=by
 have T:=ab (dP.new w x.ay 192);have HB:=ab ((aG w.a.j w).alloc (av _) (.D x.ay 192));have r0:=(Ly.am9 w _ HB.i #[.b .b 69,.b .b x.Pb,.b .b (x.bR/256),.b .b (x.bR%256),.b .b (x.id/256),.b .b (x.id%256),.b .b 0,.b .b 0,.b .b x.Mv,.b .b x.aN,.b .b 0,.b .b 0] [69,aJ x.Pb.e,aJ (x.bR.e/256),aJ (x.bR.e%256),aJ (x.id.e/256),aJ (x.id.e%256),0,0,aJ x.Mv.e,aJ x.aN.e,0,0] 12 rfl (by omega) (by
  obtain⟨e1,e2⟩:=Wn x.bR t0 t1;obtain⟨e3,e4⟩:=Wn x.id i0 i1;simp only[kV,qm,bv];rw[e1,e2,e3,e4,zZ x.Pb.e (by omega),zZ x.Mv.e (by omega),zZ x.aN.e (by omega),mg s0,mg l0,mg p0];rfl)).add (q:=w.a.j) (c:=x.ay) (T.i.alloc _) (by rw[show(w.alloc (.D x.ay 192)).a.j=w.a.j+1 by simp];simp[j6])
 rw[show(w.alloc (.D x.ay 192)).a.j=w.a.j+1 by simp]at r0;have S:=ab r0;have HP:=ab (show lS x=LJ (zG x)from rfl);have CS:=ab (show∀i,i<4->x.ay[9+i]? = some (bv ((x.h.b.a.E 4).b i 0))from fun i hi=>by rw[asK _ i hi];exact x.NJ i (by omega));have CD:=ab (show∀i,i<4->x.ay[26+i]? = some (bv ((x.dst.b.a.E 4).b i 0))from fun i hi=>by rw[asK _ i hi];exact x.LC i (by omega));have HT:=ab (show zG x=[69,aJ x.Pb.e,aJ (x.bR.e/256),aJ (x.bR.e%256),aJ (x.id.e/256),aJ (x.id.e%256),(if x.keep then 64 else 0),0,aJ x.Mv.e,aJ x.aN.e,0,0]++x.h.b.a.E 4++x.dst.b.a.E 4 from rfl);obtain⟨ls,oq⟩:∃l,l=x.h.b.a.E 4:=⟨_,rfl⟩
 obtain⟨ld,hld⟩:∃l,l=x.dst.b.a.E 4:=⟨_,rfl⟩
 have LS:=ab (show ls.a=4 by rw[oq];simp);have LD:=ab (show ld.a=4 by rw[hld];simp);rw[<-oq]at HT CS;rw[<-hld]at HT CD;clear oq hld r0;obtain⟨q1,q2,q3,q4⟩:=T.i.R;have x5:=x.aa4;obtain⟨kp,hkp⟩:∃k,x.keep=k:=⟨_,rfl⟩
 rw[hkp]at x5 HT;clear hkp;go_enter Tryz.func106,Tryz.ntmps106;go_upto_region 2 with fail
 obtain⟨y1,y2,y3,y4⟩:=S.i.Z.R;obtain⟨_,_,g,eg,c1,c2⟩:=S.i.at0 (by simp);injection eg with eg
 injection eg with eg
 subst eg;clear q1 q2 q3 q4;have c6:=c1 6 (by simp);clear c1;generalize(w.alloc (.D x.ay 192)).alloc (.D #[.b .b 69,.b .b x.Pb,.b .b (x.bR/256),.b .b (x.bR%256),.b .b (x.id/256),.b .b (x.id%256),.b .b 0,.b .b 0,.b .b x.Mv,.b .b x.aN,.b .b 0,.b .b 0] 5)=w2 at *;cases kp
 case' false=>
  go_wp2;have S0:=S;obtain⟨bs,hbs⟩:∃bs:List UInt8,bs=[69,aJ x.Pb.e,aJ (x.bR.e/256),aJ (x.bR.e%256),aJ (x.id.e/256),aJ (x.id.e%256),0,0,aJ x.Mv.e,aJ x.aN.e,0,0]:=⟨_,rfl⟩
  have Ho:=ab (show bs.a=12 by rw[hbs];rfl);have HQ:=ab (show zG x=bs++ls++ld by rw[HT.i,hbs];rfl);rw[<-hbs]at S0
 case' true=>
  go_wp2;have S0:=ab (S.i.agh 6 64);rw[show bv 64=.b .b 64 from rfl]at S0;obtain⟨bs,hbs⟩:∃bs:List UInt8,bs=[69,aJ x.Pb.e,aJ (x.bR.e/256),aJ (x.bR.e%256),aJ (x.id.e/256),aJ (x.id.e%256),64,0,aJ x.Mv.e,aJ x.aN.e,0,0]:=⟨_,rfl⟩
  have Ho:=ab (show bs.a=12 by rw[hbs];rfl);have HQ:=ab (show zG x=bs++ls++ld by rw[HT.i,hbs];rfl);rw[show([69,aJ x.Pb.e,aJ (x.bR.e/256),aJ (x.bR.e%256),aJ (x.id.e/256),aJ (x.id.e%256),0,0,aJ x.Mv.e,aJ x.aN.e,0,0]:List UInt8).set 6 64=bs by rw[hbs];rfl]at S0
 all_goals
  clear HT hbs y1 y2 y3 y4 c2 c6 S;go_loopw [3,4] (fun sr si wr=>∃(i:Nat)(A':Option aV)(m' c':Nat),i<=4/\si=.b .a i/\sr=.a A' m' c'/\Ly w.a.j [(w.a.j,x.ay)] w wr (.a A' m' c') (bs++ls.E i)) (fun _ si _=>4-(intOf si).e)
  case atStart=>exact⟨0,_,_,_,by omega,rfl,rfl,by simpa using S0.i⟩
  case round=>
   obtain⟨i,A',m',c',hi,rfl,rfl,h⟩:=hrel;have HO:=ab h;clear h;by_cases hlt:i<4
   ·have hlt2:(i:Int)<4:=by omega
    obtain⟨q1,q2,q3,q4⟩:=HO.i.Z.R;have hlq:=HO.i.Z.lt;have hc:=CS.i i hlt;obtain⟨u,hu⟩:=uP (ls.b i 0);rw[hu]at hc;unfold bv at hc;have HS:=ab (yK ls i (by rw[LS.i];exact hlt));rw[hu]at HS;have L1:=ab (HO.i.alloc (.D #[.b .b (u.e:Int)] 5));have R1:=ab (FH wr u _ rfl);have MZ:=ab (show(bs++ls.E i).a+1<=1000000000 by rw[aQ,bE,Ho.i,LS.i];omega);go_wp2_with (at_builtin;refine kJ rfl (.a 41) (.a 47) rfl rfl L1.i.o rfl R1.i MZ.i ?_;intro A5 n5 c5 w5 h2 h3;have L2:=ab (L1.i.step h3);clear h2 h3);go_roundw
    case rel=>exact⟨i+1,A5,n5,c5,by omega,by go_num,rfl,by rw[HS.i,<-bM];exact L2.i⟩
    case measure=>simp[intOf]<;>omega
   ·have hge:¬(i:Int)<4:=by omega
    have HF:=ab (show ls.E i=ls from aK (by rw[LS.i];omega));rw[HF.i]at HO;clear HF;obtain⟨bs2,K8⟩:∃b,b=bs++ls:=⟨_,rfl⟩
    have ay7:=ab (show bs2.a=16 by rw[K8,aQ,Ho.i,LS.i]);rw[<-K8]at HO HQ;clear K8 S0 Ho;have Ho:=ay7;clear ay7;go_wp2;clear hge hi hlt;go_loopw [3,5] (fun sr si wr=>∃(i:Nat)(A':Option aV)(m' c':Nat),i<=4/\si=.b .a i/\sr=.a A' m' c'/\Ly w.a.j [(w.a.j,x.ay)] w wr (.a A' m' c') (bs2++ld.E i)) (fun _ si _=>4-(intOf si).e)
    case atStart=>exact⟨0,_,_,_,by omega,rfl,rfl,by simpa using HO.i⟩
    case round=>
     obtain⟨i,A',m',c',hi,rfl,rfl,h⟩:=hrel;have HO:=ab h;clear h;by_cases hlt:i<4
     ·have hlt2:(i:Int)<4:=by omega
      obtain⟨q1,q2,q3,q4⟩:=HO.i.Z.R;have hlq:=HO.i.Z.lt;have hc:=CD.i i hlt;obtain⟨u,hu⟩:=uP (ld.b i 0);rw[hu]at hc;unfold bv at hc;have HS:=ab (yK ld i (by rw[LD.i];exact hlt));rw[hu]at HS;have L1:=ab (HO.i.alloc (.D #[.b .b (u.e:Int)] 5));have R1:=ab (FH wr u _ rfl);have MZ:=ab (show(bs2++ld.E i).a+1<=1000000000 by rw[aQ,bE,Ho.i,LD.i];omega);go_wp2_with (at_builtin;refine kJ rfl (.a 53) (.a 59) rfl rfl L1.i.o rfl R1.i MZ.i ?_;intro A5 n5 c5 w5 h2 h3;have L2:=ab (L1.i.step h3);clear h2 h3);go_roundw
      case rel=>exact⟨i+1,A5,n5,c5,by omega,by go_num,rfl,by rw[HS.i,<-bM];exact L2.i⟩
      case measure=>simp[intOf]<;>omega
     ·have hge:¬(i:Int)<4:=by omega
      have HF:=ab (show ld.E i=ld from aK (by rw[LD.i];omega));rw[HF.i]at HO;clear HF;obtain⟨bs3,MF⟩:∃b,b=bs2++ld:=⟨_,rfl⟩
      have Oq:=ab (show bs3.a=20 by rw[MF,aQ,Ho.i,LD.i]);rw[<-MF]at HO HQ;clear MF Ho;have CQ:=ab (V9 wr A' m' c' bs3 (by have:=HO.i.o.DT;obtain⟨A9,c9,e9⟩:=this;injection e9 with e9 e10 e11;rw[e10,Oq.i];omega) (Ec HO.i.o (aG _ _)));have HSL:=ab (show uo bs3<=65535 by unfold uo;omega);have HP2:=ab (show lS x=(bs3.set 10 (aJ (uo bs3/256))).set 11 (aJ (uo bs3%256))by rw[HP.i,HQ.i];rfl);clear HP HQ;generalize uo bs3=z at *;have z0:(0:Int)<=z:=by omega
      have z1:(z:Int)<=65535:=by have:=HSL.i;omega
      go_upto_region 13 with(go_at_call 186;(with_reducible refine CQ.i.g ?_);rintro e w6 ⟨rfl,hb⟩;have M1:=ab (HO.i.go hb);clear hb)
      clear hlt hge hi;obtain⟨hm1,hm2,g,rfl,k1,k2⟩:=M1.i.at0 (by rw[Oq.i];omega);have m1:(10:Int)<m':=by rw[Oq.i]at hm1;omega
      have m2:(11:Int)<m':=by rw[Oq.i]at hm1;omega
      have k10:=k1 10 (by rw[Oq.i];omega);have M2:=ab (M1.i.agh 10 (aJ (z/256)));have e1:((aJ (z/256)).e:Int)=(z:Int)/256:=by rw[zZ _ (by have:=HSL.i;omega)];omega
      unfold bv at M2;rw[e1]at M2;clear k1 e1;go_upto_region 14 with fail
      generalize w6.I ⟨g,10,none⟩ (.b .b ((z:Int)/256))=w7 at *;obtain⟨_,_,g',eg,k3,k4⟩:=M2.i.at0 (by rw[aS,Oq.i];omega);injection eg with eg
      injection eg with eg
      subst eg;have k11:=k3 11 (by rw[aS,Oq.i];omega);have M3:=ab (M2.i.agh 11 (aJ (z%256)));have e2:((aJ (z%256)).e:Int)=(z:Int)%256:=by rw[zZ _ (by omega)];omega
      unfold bv at M3;rw[e2]at M3;clear k3 e2 k2 k10;go_wp2;go_ret;rw[<-HP2.i]at M3;have ho:=M3.i.o;obtain⟨A9,c9,e9⟩:=ho.DT;injection e9 with e9 e10 e11
      subst e10;have HLE:bs3.a=(lS x).a:=by rw[HP2.i,aS,aS]
      rw[HLE];exact⟨_,_,_,rfl,rfl,ho.vM,ho.X⟩
def ajO(a b:fD):Bool:=a.h==b.h&&(a.h||a.mO&&b.mO)
def oG(k:Int)(l:List UInt8):Tn:=
 if k=2048 then⟨(wV l).1.head,(wV l).1.bR,(wV l).1.aN,(wV l).1.mW,(wV l).2==0⟩
 else if k=34525 then⟨(yO l).1.head,(yO l).1.bR,(yO l).1.aN,(yO l).1.mW,(yO l).2==0⟩
 else sS
def agi(x:Lc)(t:Tu):Lc:={x with mP:=if t.h.h then 34525 else 2048}
theorem abu(x:Lc)(t:Tu)(w:ak):aR ah 104 #[.d x.ay,.d t.ay] w (gY w (.d (agi x t).ay)):=by
 have h0:=(((Bx.start w).new x.ay 108).new t.ay 81).new qG.ay 108;rw[show((w.alloc (.D x.ay 108)).alloc (.D t.ay 81)).a.j=w.a.j+2 by simp,show(w.alloc (.D x.ay 108)).a.j=w.a.j+1 by simp]at h0;have Z:=ab (h0.sub (L':=[(w.a.j,x.ay),(w.a.j+1,t.ay),(w.a.j+2,qG.ay)]) (by simp));clear h0;have hne:=ab (fun p (hp:p∈[(w.a.j+1,t.ay),(w.a.j+2,qG.ay)])=>show p.1≠w.a.j by
  simp at hp;rcases hp with rfl|rfl<;>simp)
 go_enter Tryz.func104,Tryz.ntmps104;go_upto_region 1 with fail
 generalize((w.alloc (.D x.ay 108)).alloc (.D t.ay 81)).alloc (.D qG.ay 108)=w2 at Z ⊢;obtain⟨y1,y2,y3,y4⟩:=Z.i.Z.R;have Z1:=ab (Z.i.set hne.i 13 (.b .a 2048));rw[Lc.Ue]at Z1;go_upto_region 2 with fail
 clear y1 y2 y3 y4;generalize w2.I ⟨w.a.j,13,none⟩ (.b .a 2048)=w3 at Z1 ⊢;obtain⟨x1,x2,x3,x4⟩:=Z1.i.b1.R;have x0:=Tu.qW t;cases h6:t.h.h
 ·have H6:=ab h6
  rw[h6]at x0;clear h6;obtain⟨u1,u2,u3,u4⟩:=Z1.i.Z.R;have th:=Z1.i.b2.S 0 15 (aU (Lc.J qG).symm);have ZP:=ab ((Z1.i.sub (L':=[(w.a.j+2,qG.ay)]) (by simp)).put (fun p hp=>by cases hp) ({x with mP:=2048}:Lc).ay (by rw[Lc.J,Lc.J]));go_wp2;refine aO (kLc.Aj rfl _ rfl ZP.i.Z (Lc.J _)) rfl ?_;rw[show agi x t={x with mP:=2048}by unfold agi;rw[H6.i];rfl];exact⟨rfl,ZP.i.X⟩
 ·have H6:=ab h6
  rw[h6]at x0;clear h6;obtain⟨y1,y2,y3,y4⟩:=Z1.i.Z.R;have Z2:=ab (Z1.i.set hne.i 13 (.b .a 34525));rw[Lc.Ue]at Z2;go_upto_region 4 with fail
  clear y1 y2 y3 y4 x1 x2 x3 x4;generalize w3.I ⟨w.a.j,13,none⟩ (.b .a 34525)=w4 at Z2 ⊢;obtain⟨u1,u2,u3,u4⟩:=Z2.i.Z.R;have th:=Z2.i.b2.S 0 15 (aU (Lc.J qG).symm);have ZP:=ab ((Z2.i.sub (L':=[(w.a.j+2,qG.ay)]) (by simp)).put (fun p hp=>by cases hp) ({x with mP:=34525}:Lc).ay (by rw[Lc.J,Lc.J]));go_wp2;refine aO (kLc.Aj rfl _ rfl ZP.i.Z (Lc.J _)) rfl ?_;rw[show agi x t={x with mP:=34525}by unfold agi;rw[H6.i];rfl];exact⟨rfl,ZP.i.X⟩
section
attribute [local go_sem high] iR jI
def vG(l:List UInt8)(s d:fD):List UInt8×Int:=
 if(iV l).2≠0 then([],3)
 else if(oG (iV l).1.mP (l.G (iV l).1.dW)).ok=false then([],3)
 else if ajO s d=false then([],1)
 else if s.h=true then
  if(oG (iV l).1.mP (l.G (iV l).1.dW)).bR>65535 then([],4)
  else(oF (iV l).1.dst (iV l).1.h (iV l).1.dM 34525++oD ⟨40,40+(oG (iV l).1.mP (l.G (iV l).1.dW)).bR,64,false,0,if(iV l).1.mP=34525 then 41 else 4,s,d⟩++(l.G (iV l).1.dW).E (oG (iV l).1.mP (l.G (iV l).1.dW)).bR.e,0)
 else if 20+(oG (iV l).1.mP (l.G (iV l).1.dW)).bR>65535 then([],4)
  else(oF (iV l).1.dst (iV l).1.h (iV l).1.dM 2048++lS ⟨20,20+(oG (iV l).1.mP (l.G (iV l).1.dW)).bR,0,0,false,true,64,if(iV l).1.mP=34525 then 41 else 4,s,d⟩++(l.G (iV l).1.dW).E (oG (iV l).1.mP (l.G (iV l).1.dW)).bR.e,0)
def ajP(W:ak)(r:List UInt8×Int)(e:lJ)(W':ak):Prop:=∃A n c,e=.a (.K #[.a A n c,.b .a r.2])/\gG W' W'.a.j A n r.1/\aM W.a.j W W'
theorem JL(l:List UInt8)(k:Nat):dF l k<=65535:=by
 have h1:=(l.b k 0).a;have h2:=(l.b (k+1) 0).a;unfold dF;omega
theorem YU{l:List UInt8}:∀(m k:Nat)(dM:List Tg),(∀t∈dM,abt t)->dM.a+m<=2->(∀t∈(rF l m k dM).1.dM,abt t)/\(rF l m k dM).1.dM.a<=2
 | 0,k,dM,h,hl=>by
   cases ht:oC (dF l (k-2):Nat)with
   | false=>rw[ny ht];exact⟨h,hl⟩
   | true=>rw[wL ht];exact⟨fun t ht=>by simp[FK]at ht,by simp[FK]⟩
 | m+1,k,dM,h,hl=>by
   cases ht:oC (dF l (k-2):Nat)with
   | false=>rw[ny ht];exact⟨h,by simp only;omega⟩
   | true=>
     by_cases h4:l.a<k+4
     ·rw[sU ht h4];exact⟨fun t ht=>by simp[FK]at ht,by simp[FK]⟩
     ·rw[sj ht h4]
      refine YU m (k+4) _ (fun t ht=>?_) (by simp;omega);rcases qP.1 ht with ht|ht
      ·exact h t ht
      ·rw[fO.1 ht]
       have h1:=JL l (k-2);have h2:=JL l k;exact⟨⟨by simp only;omega,by simp only;omega⟩,by simp only;omega,by simp only;omega⟩
theorem JM(l:List UInt8):(∀t∈(iV l).1.dM,abt t)/\(iV l).1.dM.a<=2:=by
 unfold iV;split
 ·exact⟨fun t ht=>by simp[FK]at ht,by simp[FK]⟩
 ·exact YU 2 14 [] (fun t ht=>by cases ht) (by simp)
theorem abv{k:Int}{l:List UInt8}(h:(oG k l).ok=true):(k=2048\/k=34525)/\20<=(oG k l).head/\(oG k l).head<=(oG k l).bR/\(oG k l).bR<=l.a:=by
 unfold oG at h ⊢;by_cases h1:k=2048
 ·rw[if_pos h1]at h ⊢
  have:=agc (l:=l) (by simpa using h);exact⟨.b h1,this⟩
 ·rw[if_neg h1]at h ⊢
  by_cases h2:k=34525
  ·rw[if_pos h2]at h ⊢
   have h3:=abk (k:=k) (l:=l) (by unfold Pf;rw[if_neg h1];simpa using h);unfold Pf at h3;rw[if_neg h1]at h3;exact⟨.a h2,h3⟩
  ·rw[if_neg h2]at h
   cases h
end
section
attribute [local go_sem high] iR jI
theorem Wq(W:ak)(k:Int)(A:Option aV)(n c:Nat)(l:List UInt8)(hnc:n<=c)(hc:c<=9223372036854775807/\n<=1000000)(hr:gG W W.a.j A n l):aR ah 101 #[.b .a k,.a A n c] W (gY W (.d (oG k l).ay)):=by
 have b0:=ab ((Bx.start W).new sS.ay 179);have R0:=b0.i.Oh hr;have C4:=ab (Og _ A n c l hnc (by omega) R0);have C6:=ab (Ra _ A n c l hnc (by omega) R0);clear R0 hr;go_enter Tryz.func101,Tryz.ntmps101;by_cases hk:k=2048
 ·have q:(k==2048)=true:=by simp[hk]
  obtain⟨x,hx⟩:=cB ((wV l));obtain⟨x,er⟩:=x;have H:=ab (show oG k l=⟨x.head,x.bR,x.aN,x.mW,er==0⟩by unfold oG;rw[if_pos hk,<-hx]);unfold FoP at C4;rw[<-hx]at C4;clear hx hk;go_wp2_with (go_at_call 175;with_reducible refine C4.i.g ?_;rintro e w1 ⟨rfl,hb1⟩;have Z1:=ab (b0.i.go hb1);have Z2:=ab (Z1.i.new x.ay 192);obtain⟨y1,y2,y3,y4⟩:=Z2.i.Z.R;have zS:=Z2.i.b1.S 0 5 (aU (Tn.J sS).symm);clear hb1);have Z3:=ab (Z2.i.swap.put (fun p hp=>by rw[fO.1 hp];exact tH Z1.i.Z.lt) (Tn.mk x.head x.bR x.aN x.mW (er==0)).ay (by rw[Tn.J,Tn.J]));refine aO (kTn.Aj rfl _ rfl Z3.i.Z (Tn.J _)) rfl ?_;rw[H.i];exact⟨rfl,Z3.i.X⟩
 by_cases hk6:k=34525
 ·have q:(k==2048)=false:=by simp[hk]
  have q2:(k==34525)=true:=by simp[hk6]
  obtain⟨x,hx⟩:=cB ((yO l));obtain⟨x,er⟩:=x;have H:=ab (show oG k l=⟨x.head,x.bR,x.aN,x.mW,er==0⟩by unfold oG;rw[if_neg hk,if_pos hk6,<-hx]);unfold SxP at C6;rw[<-hx]at C6;clear hx hk hk6;go_wp2_with (go_at_call 176;with_reducible refine C6.i.g ?_;rintro e w1 ⟨rfl,hb1⟩;have Z1:=ab (b0.i.go hb1);have Z2:=ab (Z1.i.new x.ay 189);obtain⟨y1,y2,y3,y4⟩:=Z2.i.Z.R;have zS:=Z2.i.b1.S 0 5 (aU (Tn.J sS).symm);clear hb1);have Z3:=ab (Z2.i.swap.put (fun p hp=>by rw[fO.1 hp];exact tH Z1.i.Z.lt) (Tn.mk x.head x.bR x.aN x.mW (er==0)).ay (by rw[Tn.J,Tn.J]));refine aO (kTn.Aj rfl _ rfl Z3.i.Z (Tn.J _)) rfl ?_;rw[H.i];exact⟨rfl,Z3.i.X⟩
 ·have q:(k==2048)=false:=by simp[hk]
  have q2:(k==34525)=false:=by simp[hk6]
  have H:=ab (show oG k l=sS by unfold oG;rw[if_neg hk,if_neg hk6]);have zS:=b0.i.Z.S 0 5 (aU (Tn.J sS).symm);clear hk hk6;go_wp2;have Z3:=ab (b0.i.put (fun p hp=>by cases hp) sS.ay rfl);refine aO (kTn.Aj rfl _ rfl (b:=W.a.j) (c:=sS.ay) (by first|exact Z3.i.Z|exact b0.i.Z) (Tn.J _)) rfl ?_;rw[H.i];exact⟨rfl,by first|exact Z3.i.X|exact b0.i.X⟩
theorem aEd:ajC 314:=⟨fun c w=>by
 go_enter Tryz.func314,Tryz.ntmps314;go_wp2;go_ret;exact⟨rfl,rfl⟩,fun args w=>by kernel_rfl⟩
theorem adR(a:fD)(w:ak):aR ah 269 #[.d a.ay] w (gY w (.e a.mO)):=by
 have HB:=ab ((aG w.a.j w).alloc (av _) (.D a.ay 27));have x0:=dP.new w a.ay 27;have C:=ab (ahS _ aEd _ 12 12 _ _ _ (by omega) (gG.tail (B:=w.a.j+1) (nD _) x0));have HS:=ab (KE a);obtain⟨z,hz⟩:=cB (nzB (a.b.a.G 4));rw[<-hz]at C HS;clear hz;go_enter Tryz.func269,Tryz.ntmps269;go_wp2_with fail;refine C.i.g ?_;rintro e w' ⟨rfl,rfl⟩;cases z
 all_goals
  go_wp2;go_ret;exact⟨by have:=HS.i;simp at this;simp[<-this],HB.i⟩
theorem agj(k:Int)(w:ak):aR ah 256 #[.b .a k] w fun e w'=>e=.a (.e (decide (0<=k)&&decide (k<=65535)))/\w=w':=by
 go_enter Tryz.func256,Tryz.ntmps256;by_cases h1:0<=k<;>by_cases h2:k<=65535
 all_goals
  go_wp2;go_ret;exact⟨by simp[h1,h2],rfl⟩
theorem ajQ(k:Int)(w:ak):aR ah 315 #[.b .a k] w fun e w'=>e=.a (.e (decide (0<=k)&&decide (k<=255)))/\w=w':=by
 go_enter Tryz.func315,Tryz.ntmps315;by_cases h1:0<=k<;>by_cases h2:k<=255
 all_goals
  go_wp2;go_ret;exact⟨by simp[h1,h2],rfl⟩
end
theorem agk(l:List UInt8):∀v∈l.map bv,v.h=true:=by
 intro v hv;obtain⟨b,_,rfl⟩:=jf.1 hv;rfl
theorem ana(l:List UInt8)(k:Nat):rZ l k []=l:=by unfold rZ;simp
theorem Qr{g z n c:Nat}(h:z<c):sH (some ⟨g,0,none⟩) z c 1=some ⟨g,z,none⟩:=by
 unfold sH;rw[if_neg (by omega)];simp only[nS,gP];rw[iL,bC]
theorem Ly.copy{B:Nat}{L:List (Nat×Array aB)}{w0 W:ak}{A:Option aV}{n c:Nat}{bs:List UInt8}(h:Ly B L w0 W (.a A n c) bs)(z:Nat){C:Nat}{sp:Option aV}{sLen:Nat}{ys:List UInt8}(hr:gG W C sp sLen ys)(m:Nat)(dp:Option aV)(dLen dCap sCap:Nat)
 (hm:m=qO sLen dLen) (hd:0<m->∃g,A=some ⟨g,0,none⟩/\dp=some ⟨g,z,none⟩) (hz:z+m<=bs.a) (ty:bL) (dT sT:bL) (hu:ah.underlying dT=some (.a 5)) :
 ∃W',(Builtin.copy_ #[dT,sT] ty #[.a dp dLen dCap,.a sp sLen sCap]).O ah W=.ok (goInt m) W'/\Ly B L w0 W' (.a A n c) (rZ bs z (ys.E m))/\W.d W' (j6 (.a A n c)):=by
 have hsz:(ah.info? 5).map (·.j)=some 1:=by
  obtain⟨i0,hi0,hz0,hz1,_⟩:=info_parts LZ;rw[hi0];simp[hz1]
 by_cases h0:m=0
 ·subst h0
  exact⟨W,run_copy_none (P:=ah) W dT sT ty 5 dp sp dLen dCap sLen sCap hu hsz hm.symm,by rw[kC,ana];exact h,World.grownBy.refl _ _⟩
 ·obtain⟨g,rfl,rfl⟩:=hd (by omega)
  have hln:=hr.len;have hms:m<=sLen:=by rw[hm];exact Nat.min_le_left _ _
  obtain⟨a,rfl,_,hsrc⟩:=hr.2 (by omega);have hl1:((ys.E m).map bv).a=m:=by simp;omega
  rcases h.o.vM.2 with⟨e,_⟩|⟨g',cap,cur,e,hB,hh,hn,hcap,hcs,htk⟩
  ·cases e
  ·injection e with e1 e2 e3
   injection e1 with e1
   injection e1 with e1
   subst e1 e3;have hnb:n=bs.a:=e2;have hg2:w0.a.j<=g:=by
    rcases h.o.xG with e|⟨k',e,e2⟩
    ·cases e
    ·injection e with e;subst e;exact e2
   have hrun:=run_copy_row (P:=ah) W dT sT ty 5 g z dLen dCap a sLen sCap cur 5 ((ys.E m).map bv) hu hsz hh (by rw[hl1,hm]) (fun j v hv=>hsrc j v (by
    simp only[jM,jc]at hv ⊢;split at hv
    ·exact hv
    ·cases hv)) (by rw[hl1,hcs];omega) (agk _)
   rw[hl1]at hrun;refine⟨_,hrun,?_,?_⟩
   ·have Vl:(rZ bs z (ys.E m)).a=bs.a:=xL (by simp;omega)
    have aEe:(cur.a.E bs.a)=bs.map bv:=by rw[<-htk,gP]
    refine⟨⟨⟨by simp[Vl],.a ⟨g,c,_,by rw[Vl,hnb],hB,setRow_heap W g cur _ _ _ hh,by rw[Vl];omega,hcap,by simp;simp at hcs;omega,?_⟩⟩,?_,h.o.xG,h.o.hB,h.o.gb⟩,fun p hp=>⟨?_,(h.J p hp).2⟩⟩
    ·rw[Vl,gP]
     unfold rZ;simp only[List.toList_toArray,List.map_append,BI,List.map_drop,<-aEe];simp only[Array.toList_ofFn,bE];apply iC;intro i;have hcz:cur.a.a=c:=by rw[aY,hcs,gP]
     rw[jc];by_cases hi:i<bs.a
     ·rw[if_pos hi]
      simp only[bM,ko,bE,bW,jc,iY,hcz]
      repeat' split
      all_goals first|omega|rfl|(simp at *;omega)|(congr 1;omega)|(simp;omega)|skip
     ·rw[if_neg hi]
      symm;apply aT;simp[hcz];omega
    ·exact⟨h.o.gr.os,h.o.gr.tape,h.o.gr.output,by simpa[sV]using h.o.gr.j,fun k hk hne=>(pJ W g k _ (by omega)).trans (h.o.gr.block k hk hne)⟩
    ·obtain⟨t,ht⟩:=(h.J p hp).1
     exact⟨t,(pJ W g p.1 _ (fun e=>(h.J p hp).2 (by rw[e];rfl))).trans ht⟩
   ·exact⟨rfl,rfl,rfl,by simp[sV],fun k hk hne=>pJ W g k _ (fun e=>hne (by rw[e];rfl))⟩
section
attribute [local go_sem high] iR jI
theorem aqE:mK 3 = #[0,1,2]:=by apply pU;rw[kF];rfl
@[go_sem]theorem asN(w:ak)(A0 A1 A2:Option aV)(n0 n1 n2 c0 c1 c2:Nat):(GV 3 #[(0,.a A0 n0 c0),(1,.a A1 n1 c1),(2,.a A2 n2 c2)]).O ah w=.ok (.a (some ⟨w.a.j,0,none⟩) 3 3) (w.alloc (.D (zy [⟨A0,n0,c0⟩,⟨A1,n1,c1⟩,⟨A2,n2,c2⟩]) 56)):=by
 obtain⟨i0,hi0,hz0,hz1⟩:=TQ;simp[GV,bJ,dK Tryz.underlying276,zeroValue,sizeOf,typeInfo,hi0,hz0,hz1,fJ,newRow,zy,dz,aqE]
def adS(w:ak)(bs:List UInt8)(e:lJ)(w':ak):Prop:=∃A n c,e=.a (.K #[.a A n c,.b .a 0])/\n=bs.a/\w'.c w.a.j 5 1 (.a A n c) n (bs.map bv)/\aM w.a.j w w'
theorem Ly.anb{B:Nat}{L:List (Nat×Array aB)}{w0 W:ak}{A:Option aV}{n c:Nat}{bs:List UInt8}(ho:W.c B 5 1 (.a A n c) n (bs.map bv))(hB0:w0.a.j<=B)(hb:aM w0.a.j w0 W)(hx:∀p∈L,dP W p.1 p.2/\p.1<B):Ly w0.a.j L w0 W (.a A n c) bs:=by
 have hn:n=bs.a:=by have:=ho.1;rw[bW]at this;omega
 subst hn;have hk:∀k,(bB A bs.a c).f=some k->B<=k:=fun k hk=>(ho.lt k hk).1
 refine⟨⟨iU ho hB0,⟨hb.os,hb.tape,hb.output,hb.j,fun i hi _=>hb.block i hi⟩,?_,av _,fun k h=>by cases h⟩,fun p hp=>⟨(hx p hp).1,fun e=>by have:=hk _ e;have:=(hx p hp).2;omega⟩⟩;cases A with
 | none=>exact .b rfl
 | some a=>exact .a ⟨_,rfl,aP hB0 (hk _ rfl)⟩
theorem Ly.toE{L:List (Nat×Array aB)}{w0 W:ak}{A:Option aV}{n c:Nat}{bs:List UInt8}(h:Ly w0.a.j L w0 W (.a A n c) bs):adS w0 bs (.a (.K #[.a A n c,.b .a 0])) W:=by
 obtain⟨A9,c9,e9⟩:=h.o.DT;injection e9 with e1 e2 e3
 subst e2;exact⟨A,_,c,rfl,rfl,h.o.vM,h.o.X⟩
theorem wu(n:Nat)(h:n<=65535):jd n 2 true=oV n:=by
 simp only[jd,xk,oV,if_true,cK];rw[show eu 2=[0,1]from rfl];simp[I9];apply UInt8.toNat_inj.1;simp
theorem adT{α β:Type}(f:α->List β)(d:α)(l:List α)(i:Nat)(hi:i<l.a):(l.E (i+1)).d f=(l.E i).d f++f (l.b i d):=by
 rw[<-pE d l i hi];simp
theorem ahY{W:ak}{q o:Nat}{c:Array aB}(h:dP W q c)(v:Vector UInt8 6)(hc:c.m o (o+6)=Bp v):gG W W.a.j (some ⟨q,o,none⟩) 6 v.a:=by
 have:=gG.KD (w:=W) (B:=W.a.j) (b:=q) (o:=o) (l:=v.a) h.lt (fun j hj=>by
  rw[h.R.1];have h2:(c.m o (o+6))[j]? = (Bp v)[j]?:=by rw[hc]
  have hj6:j<6:=by simpa using hj
  have hs:(Bp v)[j]? = some (bv (v.a.b j 0)):=by simp[Bp,au,hj6]
  rw[hs,cu]at h2;split at h2
  ·exact h2
  ·cases h2)
 simpa using this
theorem adU(xd xr:Vector UInt8 6)(TA:Option aV)(tn adV:Nat)(xty xat:Int)(dM:List Tg)(hf:∀t∈dM,abt t)(hi:∀t∈dM,oC t.mP=true)(hn:dM.a<=2)(t0:0<=xty)(t1:xty<=65535)(ht:oC xty=false)(w:ak)(hT:iT Tg.ay 2 w w.a.j TA tn dM):aR ah 185 #[.d (Lc.mk xd xr TA tn adV xty xat).ay] w (adS w (oF xd xr dM xty)):=by
 have Z:=ab ((Bx.start w).new (Lc.mk xd xr TA tn adV xty xat).ay 108);have HT:=ab hT;have HN:=ab hT.1;have hn2:tn<=2:=by have:=hT.1;omega
 have q2:decide ((2:Int)<tn)=false:=by simp;omega
 have CI:=ab (fun k W (h:0<=k/\k<=65535)=>show aR ah 256 #[.b .a k] W (fun e W'=>e=.a (.e true)/\W=W')by
  have:=agj k W;rwa [decide_eq_true h.1,decide_eq_true h.2]at this)
 have CX:=ab (fun W=>CI.i xty W ⟨t0,t1⟩);have CT:=ab (fun W=>by have:=aa9 (W:=W) xty;rwa [ht]at this:∀W,aR ah 174 #[.b .a xty] W fun e W'=>e=.a (.e false)/\W=W');have HF:=ab hf;have HI:=ab hi;have HTY:=ab ht;clear hT hf hi ht;go_enter Tryz.func185,Tryz.ntmps185;go_upto_region 1 with fail
 generalize w.alloc (.D (Lc.mk xd xr TA tn adV xty xat).ay 108)=w1 at *;obtain⟨y1,y2,y3,y4⟩:=Z.i.Z.R;go_upto_region 3 with(first|(go_at_call 256;(with_reducible refine(CX.i _).g ?_);rintro e w4 ⟨rfl,rfl⟩)|(go_at_call 174;(with_reducible refine(CT.i _).g ?_);rintro e w4 ⟨rfl,rfl⟩))
 have CC:=ab (Dj [⟨some ⟨w.a.j,0,none⟩,6,6⟩,⟨some ⟨w.a.j,6,none⟩,6,6⟩] [xd.a,xr.a] 56 2 w1.drew rfl (.cons (ahY Z.i.drew.Z xd (Lc.JC _)) (.cons (ahY Z.i.drew.Z xr (Lc.JB _)) .nil)) (by omega) (by simp[zw]));simp only[show w1.drew.a.j=w1.a.j from rfl,show∀(w:ak) ob,w.drew.alloc ob=(w.alloc ob).drew from fun _ _=>rfl]at CC;obtain⟨bs,hbs⟩:=cB (xd.a++xr.a);have HBS:=ab (show oF xd xr dM xty=bs++dM.d yP++oV xty by rw[hbs];rfl);have Ho:=ab (show bs.a=12 by rw[hbs];simp);rw[show [xd.a,xr.a].flatten=bs by rw[hbs];simp]at CC;clear hbs y1 y2 y3 y4 q2;go_region_held_law (fun _=>True) (trivial) (first|(go_at_call 181;(with_reducible refine CC.i.g ?_);rintro e w2 ⟨A2,m2,c2,rfl,hm2,_,ho2,hb2⟩;have O2:=ab ho2;have B2:=ab (NR hb2);clear hm2 ho2 hb2));have S0:=ab (Ly.anb (L:=[(w.a.j,(Lc.mk xd xr TA tn adV xty xat).ay)]) (w0:=w) O2.i (qR Z.i.X.j) (Z.i.X.trans (B2.i.g Z.i.X.j)) (fun p hp=>by rw[fO.1 hp];exact⟨Z.i.Z.go B2.i,Nat.lt_succ_of_lt Z.i.Z.lt⟩));have fg:=fun(w':ak) (h:dP w' w.a.j (Lc.mk xd xr TA tn adV xty xat).ay)=>show w'.b ⟨w.a.j,12,none⟩=some (.a TA tn adV)from(h.R.1 12).trans (Lc.aa6 _)
 have FG:=ab fg;have fy:=fun(w':ak) (h:dP w' w.a.j (Lc.mk xd xr TA tn adV xty xat).ay)=>show w'.b ⟨w.a.j,13,none⟩=some (.b .a xty)from(h.R.1 13).trans (Lc.EH _)
 have FY:=ab fy;clear fg fy;have f12:=FG.i _ S0.i.Z;have HTL:=ab (FU dM);go_wp2;clear f12;go_loopw [4,31] (fun s4 s31 wr=>∃(i:Nat)(A:Option aV)(m c:Nat),i<=tn/\s31=.b .a i/\s4=.a A m c/\Ly w.a.j [(w.a.j,(Lc.mk xd xr TA tn adV xty xat).ay)] w wr (.a A m c) (bs++(dM.E i).d yP)) (fun _ s31 _=>tn-(intOf s31).e)
 case atStart=>exact⟨0,_,_,_,by omega,rfl,rfl,by simpa using S0.i⟩
 case round=>
  obtain⟨i,A,m,c,hin,rfl,rfl,h⟩:=hrel;have HO:=ab h;clear h;have HL1:=ab (show((dM.E i).d yP).a<=8 by rw[FU,bE];have:=HN.i;omega);by_cases hlt:i<tn
  ·have hi:(i:Int)<tn:=by omega
   obtain⟨b,o,hA,hbb,hh,hcl⟩:=iT.dW Tg.J SH ((HT.i.Y HO.i.o.X).lD HO.i.o.X.j) hlt;have hm:=Fb SH dM i (by rw[HN.i];exact hlt);have Ew:=ab (adT yP SH dM i (by rw[HN.i];exact hlt));have ok1:=HF.i _ hm;have ok2:=HI.i _ hm;obtain⟨t,htt⟩:=cB (dM.b i SH);rw[<-htt]at hcl ok1 ok2 Ew;clear htt hm;obtain⟨⟨k0,k1⟩,k2,k3⟩:=ok1;obtain⟨ty,hty⟩:∃n:Nat,t.mP=(n:Int):=⟨t.mP.e,by omega⟩
   obtain⟨tc,htc⟩:∃n:Nat,t.tci=(n:Int):=⟨t.tci.e,by omega⟩
   have CTT:=ab (show∀W,aR ah 174 #[.b .a t.mP] W fun e W'=>e=.a (.e true)/\W=W' from fun W=>by have:=aa9 (W:=W) t.mP;rwa [ok2]at this);have CII:=ab (fun W=>CI.i t.tci W ⟨k2,k3⟩);have HTB:=ab (show yP t=oV ty++oV tc by unfold yP;rw[hty,htc]);have cs:jG.wrap t.mP=(ty:Int):=by rw[jZ];omega
   have cd:jG.wrap t.tci=(tc:Int):=by rw[jZ];omega
   have PS:=ab (fun W=>xH ty (by omega) W);have PD:=ab (fun W=>xH tc (by omega) W);rw[wu ty (by omega)]at PS;rw[wu tc (by omega)]at PD;have HZ:=ab hty;have HZ2:=ab htc;subst hA;clear hty htc ok2 k0 k1 k2 k3;have L1:=ab (HO.i.new t.ay 268);go_upto_region 7 with fail
   clear hh hcl;generalize wr.alloc (.D t.ay 268)=w5 at L1 ⊢;generalize wr.a.j=y6 at L1 ⊢;have e1:=(L1.i.Z.R.1 0).trans (Tg.EH t);have e2:=(L1.i.Z.R.1 1).trans (Tg.amV t);go_upto_region 9 with(first|(go_at_call 174;(with_reducible refine(CTT.i _).g ?_);rintro e w6 ⟨rfl,rfl⟩)|(go_at_call 256;(with_reducible refine(CII.i _).g ?_);rintro e w6 ⟨rfl,rfl⟩))
   go_upto_region 10 with(first|(go_at_call 184;(with_reducible refine(PS.i _).g ?_);rintro e w6 ⟨A6,rfl,ho,hb⟩;have R6:=ab (Ec ho (aG _ _));have L2:=ab (L1.i.go hb);have HLN:=ab (show(bs++(dM.E i).d yP).a+2<=1000000000 by rw[aQ];have:=HL1.i;have:=Ho.i;omega);clear ho hb)|(at_builtin;refine kJ rfl (.a 45) (.a 49) rfl rfl L2.i.o rfl R6.i HLN.i ?_;intro A7 n7 c7 w7 h2 h3;have L3:=ab (L2.i.step h3);clear h2 h3))
   have e3:=(L3.i.Z.R.1 1).trans (Tg.amV t);have au':=ab (show(bs++(dM.E i).d yP++oV ty).a+2<=1000000000 by rw[aQ,aQ];have:=HL1.i;have:=Ho.i;have:(oV ty).a=2:=rfl;omega);go_wp2_with (first|(go_at_call 184;(with_reducible refine(PD.i _).g ?_);rintro e w8 ⟨A8,rfl,ho,hb⟩;have R8:=ab (Ec ho (aG _ _));have L4:=ab (L3.i.go hb);clear ho hb)|(at_builtin;refine kJ rfl (.a 51) (.a 55) rfl rfl L4.i.o rfl R8.i au'.i ?_;intro A9 n9 c9 w9 h2 h3;have L5:=ab (L4.i.step h3);clear h2 h3));go_roundw
   case rel=>exact⟨i+1,A9,n9,c9,by omega,by go_num,rfl,by have:=L5.i.TS;rw[Ew.i,HTB.i,<-bM,<-bM];exact this⟩
   case measure=>simp[intOf]<;>omega
  ·have hge:¬(i:Int)<tn:=by omega
   have HFU:=ab (show(dM.E i).d yP=dM.d yP by rw[aK (by rw[HN.i];omega)]);obtain⟨ty,hty⟩:∃n:Nat,xty=(n:Int):=⟨xty.e,by omega⟩
   subst hty;have cs:jG.wrap (ty:Int)=(ty:Int):=by rw[jZ];omega
   have PS:=ab (fun W=>xH ty (by omega) W);rw[wu ty (by omega)]at PS;have e3:=FY.i _ HO.i.Z;have au':=ab (show(bs++(dM.E i).d yP).a+2<=1000000000 by rw[aQ];have:=HL1.i;have:=Ho.i;omega);go_wp2_with (first|(go_at_call 184;(with_reducible refine(PS.i _).g ?_);rintro e w8 ⟨A8,rfl,ho,hb⟩;have R8:=ab (Ec ho (aG _ _));have L4:=ab (HO.i.go hb);clear ho hb)|(at_builtin;refine kJ rfl (.a 58) (.a 62) rfl rfl L4.i.o rfl R8.i au'.i ?_;intro A9 n9 c9 w9 h2 h3;have L5:=ab (L4.i.step h3);clear h2 h3));go_ret2;rw[HBS.i,<-HFU.i];exact L5.i.toE
theorem adX(x:Lc)(dM:List Tg)(hf:∀t∈dM,abt t)(hi:∀t∈dM,oC t.mP=true)(hn:dM.a<=2)(t0:0<=x.mP)(t1:x.mP<=65535)(ht:oC x.mP=false)(w:ak)(hT:iT Tg.ay 2 w w.a.j x.VQ x.FJ dM):aR ah 185 #[.d x.ay] w (adS w (oF x.dst x.h dM x.mP)):=
 adU x.dst x.h x.VQ x.FJ x.ahR x.mP x.dW dM hf hi hn t0 t1 ht w hT
end
section
attribute [local go_sem high] iR jI
theorem ay'(w:ak)(c:Array aB)(t:bL)(l:List UInt8)(h:c.a=l.map bv):gG (w.alloc (.D c t)) (w.a.j+1) (some ⟨w.a.j,0,none⟩) l.a l:=by
 have:=gG.KD (w:=w.alloc (.D c t)) (B:=w.a.j+1) (b:=w.a.j) (o:=0) (l:=l) (nD _) (fun j hj=>by
  rw[bC,nK w c t j,<-dH,h];simp[au,hj])
 exact this
theorem MG{W:ak}{q o:Nat}{c:Array aB}(h:dP W q c)(a:fD)(hc:c.m o (o+17)=a.ay):gG W W.a.j (some ⟨q,o+1,none⟩) 16 a.b.a:=by
 have:=gG.KD (w:=W) (B:=W.a.j) (b:=q) (o:=o+1) (l:=a.b.a) h.lt (fun j hj=>by
  have hj6:j<16:=by simpa using hj
  rw[h.R.1,show o+1+j=o+(j+1)by omega];have h2:(c.m o (o+17))[j+1]? = a.ay[j+1]?:=by rw[hc]
  rw[fD.Fe a j hj6,cu]at h2;split at h2
  ·exact h2
  ·cases h2)
 simpa using this
theorem adS.of{w W:ak}{A:Option aV}{n c:Nat}{bs:List UInt8}{B:Nat}(hn:n=bs.a)(ho:W.c B 5 1 (.a A n c) n (bs.map bv))(hB:w.a.j<=B)(hb:aM w.a.j w W):adS w bs (.a (.K #[.a A n c,.b .a 0])) W:=⟨A,n,c,rfl,hn,iU ho hB,hb⟩
theorem Wr(x:Sx)(n:Nat)(hn:n<=65535)(hh:x.head=40)(ht:x.bR=40+n)(p0:0<=x.aN)(p1:x.aN<=255)(pe:sG x.aN=false)(h0:0<=x.II)(h1:x.II<=255)(hf:x.mW=false)(he:x.IJ=0)(hs:x.h.h=true)(hd:x.dst.h=true)(w:ak):aR ah 270 #[.d x.ay] w (adS w (oD x)):=by
 have Z:=ab ((Bx.start w).new x.ay 189);have FA:=ab (fun(w':ak) (h:dP w' w.a.j x.ay)=>show w'.b ⟨w.a.j,0,none⟩=some (.b .a 40)/\w'.b ⟨w.a.j,1,none⟩=some (.b .a (40+n))/\w'.b ⟨w.a.j,2,none⟩=some (.b .a x.II)/\w'.b ⟨w.a.j,3,none⟩=some (.e false)/\w'.b ⟨w.a.j,4,none⟩=some (.b .a 0)/\w'.b ⟨w.a.j,5,none⟩=some (.b .a x.aN)/\w'.b ⟨w.a.j,6,none⟩=some (.e true)/\w'.b ⟨w.a.j,23,none⟩=some (.e true)by
  have f:=h.R.1;refine⟨(f 0).trans ((Sx.Ee x).trans (by rw[hh])),(f 1).trans ((Sx.vX x).trans (by rw[ht])),(f 2).trans (Sx.auz x),(f 3).trans ((Sx.Kz x).trans (by rw[hf])),(f 4).trans ((Sx.aql x).trans (by rw[he])),(f 5).trans (Sx.xJ x),(f 6).trans ?_,(f 23).trans ?_⟩
  ·have:=Sx.JB x
   have h2:(x.ay.m 6 23)[0]? = x.h.ay[0]?:=by rw[this]
   rw[fD.qW,hs,cu,if_pos (by rw[Sx.J];omega)]at h2;exact h2
  ·have:=Sx.JC x
   have h2:(x.ay.m 23 40)[0]? = x.dst.ay[0]?:=by rw[this]
   rw[fD.qW,hd,cu,if_pos (by rw[Sx.J];omega)]at h2;exact h2)
 have HT:=ab (show oD x=[96,0,0,0]++oV n++[aJ x.aN.e,aJ x.II.e]++x.h.b.a++x.dst.b.a by
  unfold oD oV;rw[ht,show((40:Int)+n-40).e=n by omega];rfl)
 have CI:=ab (fun k W (h:0<=k/\k<=255)=>show aR ah 315 #[.b .a k] W (fun e W'=>e=.a (.e true)/\W=W')by
  have:=ajQ k W;rwa [decide_eq_true h.1,decide_eq_true h.2]at this)
 have C1:=ab (fun W=>CI.i x.II W ⟨h0,h1⟩);have C2:=ab (fun W=>CI.i x.aN W ⟨p0,p1⟩);have CE:=ab (fun W=>by have:=VT x.aN W;rwa [pe]at this:∀W,aR ah 250 #[.b .a x.aN] W fun e W'=>e=.a (.e false)/\aM W.a.j W W');have q1:decide ((40:Int)+n<40)=false:=by simp;omega
 have q2:decide ((65575:Int)<40+(n:Int))=false:=by simp;omega
 have q3:=jY (40+(n:Int)-40) (by omega);have q4:(40:Int)+n-40=n:=by omega
 rw[q4]at q3;have q5:jG.wrap (n:Int)=n:=by rw[jZ];omega
 have q6:aX.wrap x.aN=x.aN:=by rw[Iz];omega
 have q7:aX.wrap x.II=x.II:=by rw[Iz];omega
 have PS:=ab (fun W=>xH n hn W);rw[wu n hn]at PS;have HP:=ab (show #[aI .b x.aN,.b .b x.II].a=[aJ x.aN.e,aJ x.II.e].map bv by
  simp only[kV,qm,bv];rw[zZ x.aN.e (by omega),zZ x.II.e (by omega),mg p0,mg h0])
 have E1:=ab (Sx.JB x);have E2:=ab (Sx.JC x);clear hh ht pe hf he hs hd p0 p1 h0 h1;go_enter Tryz.func270,Tryz.ntmps270;go_upto_region 1 with fail
 generalize w.alloc (.D x.ay 189)=w1 at *;obtain⟨f0,f1,f2,f3,f4,f5,f6,f7⟩:=FA.i _ Z.i.Z;go_upto_region 3 with(first|(go_at_call 315;(with_reducible refine(C1.i _).g ?_);rintro e w4 ⟨rfl,rfl⟩)|(go_at_call 315;(with_reducible refine(C2.i _).g ?_);rintro e w4 ⟨rfl,rfl⟩)|(go_at_call 250;(with_reducible refine(CE.i _).g ?_);rintro e w5 ⟨rfl,hb⟩;have Z5:=ab (Z.i.go hb);clear f0 f1 f2 f3 f4 f5 f6 f7;obtain⟨f0,f1,f2,f3,f4,f5,f6,f7⟩:=FA.i _ Z5.i.Z;clear hb))
 clear f0 f3 f4 f6 f7 f1 f2 f5 q1 q2;have L0:=ab ((Ly.am9 w w5 Z5.i.X #[.b .b 96,.b .b 0,.b .b 0,.b .b 0] [96,0,0,0] 4 rfl (by omega) rfl).add (q:=w.a.j) (c:=x.ay) (Z5.i.Z.alloc _) (by simp[j6];exact tH Z5.i.Z.lt));go_upto_region 4 with fail
 generalize w5.alloc (.D #[.b .b 96,.b .b 0,.b .b 0,.b .b 0] 5)=w6 at L0 ⊢;generalize bB (some ⟨w5.a.j,0,none⟩) 4 4=v6 at L0 ⊢;have f1:=(FA.i _ L0.i.Z).2.1;go_upto_region 5 with(first|(go_at_call 184;(with_reducible refine(PS.i _).g ?_);rintro e w7 ⟨A7,rfl,ho,hb⟩;have R7:=ab (Ec ho (aG _ _));have L1:=ab (L0.i.go hb);clear ho hb)|(at_builtin;refine kJ rfl (.a 57) (.a 62) rfl rfl L1.i.o rfl R7.i (show 4+2<=1000000000 by decide) ?_;intro A8 n8 c8 w8 h2 h3;have L2:=ab (L1.i.step h3);clear h2 h3))
 clear f1 q3 q5 q4;obtain⟨_,_,f2,_,_,f5,_,_⟩:=FA.i _ L2.i.Z;have L3:=ab (L2.i.alloc (.D #[.b .b x.aN,.b .b x.II] 5));have R8:=ab (ay' w8 #[.b .b x.aN,.b .b x.II] 5 _ HP.i);go_upto_region 6 with(first|(at_builtin;refine kJ rfl (.a 64) (.a 71) rfl rfl L3.i.o rfl R8.i (show 4+2+2<=1000000000 by decide) ?_;intro A9 n9 c9 w9 h2 h3;have L4:=ab (L3.i.step h3);clear h2 h3))
 clear f2 f5 q6 q7;obtain⟨bs,hbs⟩:=cB ([96,0,0,0]++oV n++[aJ x.aN.e,aJ x.II.e]);have Ho:=ab (show bs.a=8 by rw[hbs];rfl);rw[<-hbs]at L4 HT;clear hbs;obtain⟨A10,c10,e10⟩:=L4.i.o.DT;injection e10 with e11 e12 e13
 subst e11 e12 e13;have BX:=ab L4.i.Z.drew;have RB:=ab (gG.jh L4.i.o.vM);have CC:=ab (Dj [⟨A9,bs.a,c9⟩,⟨some ⟨w.a.j,7,none⟩,16,16⟩,⟨some ⟨w.a.j,24,none⟩,16,16⟩] [bs,x.h.b.a,x.dst.b.a] 56 3 w9.drew rfl (.cons RB.i (.cons (MG (o:=6) BX.i x.h E1.i) (.cons (MG (o:=23) BX.i x.dst E2.i) .nil))) (by omega) (by simp[zw,Ho.i]));simp only[show w9.drew.a.j=w9.a.j from rfl,show∀(w:ak) ob,w.drew.alloc ob=(w.alloc ob).drew from fun _ _=>rfl]at CC;rw[show [bs,x.h.b.a,x.dst.b.a].flatten=oD x by rw[HT.i];simp]at CC;go_region_held_law (fun _=>True) (trivial) (first|(go_at_call 181;(with_reducible refine CC.i.g ?_);rintro e w2 ⟨A2,m2,c2,rfl,hm2,_,ho2,hb2⟩;have O2:=ab ho2;have N2:=ab hm2;have B2:=ab (NR hb2);clear hm2 ho2 hb2));go_wp2;go_ret2;exact adS.of N2.i O2.i (qR L4.i.o.X.j) (L4.i.o.X.trans (B2.i.g L4.i.o.X.j))
end
theorem MH{w:ak}{ops:Array ji}{rest:List ji}{o:ji}{a:Act}{Q:Exit->Act->ak->Prop}(hgd:o.guard=none)(d s:Operand)
 (ho:o.op=.call {callee:=.builtin .copy,args:=#[d,s],argTypes:=#[56,56]}) {B:Nat} {L:List (Nat×Array aB)} {w0:ak} {A:Option aV} {n c:Nat} {bs:List UInt8} (H:Ly B L w0 w (.a A n c) bs) (z m:Nat)
 {dp:Option aV} {dLen dCap:Nat} (hd:a.eval d=.a dp dLen dCap) {sp:Option aV} {sLen sCap:Nat} (hs:a.eval s=.a sp sLen sCap) {C:Nat} {ys:List UInt8} (hr:gG w C sp sLen ys) (hm:m=qO sLen dLen)
 (hp:0<m->∃g,A=some ⟨g,0,none⟩/\dp=some ⟨g,z,none⟩) (hz:z+m<=bs.a)
 (h:∀w',Ly B L w0 w' (.a A n c) (rZ bs z (ys.E m))->w.d w' (j6 (.a A n c))->wpList ah ops Q rest (a.put o.dst (goInt m)) w'):wpList ah ops Q (o::rest) a w:=by
 obtain⟨W',hrun,hL,hG⟩:=H.copy z hr m dp dLen dCap sCap hm hp hz o.type 56 56 dD;refine wpList_plain hgd fun K hK=>?_
 unfold nV;simp[execOp,ho,resolve,invoke,builtin,hd,hs,hrun,iM];exact hK _ _ (h W' hL hG)
theorem Ov{w:ak}{ops:Array ji}{o:ji}{a:Act}{K:Act->ak->Prop}{Q:Exit->Act->ak->Prop}{E:Prop}(hgd:o.guard=none)(d s:Operand)
 (ho:o.op=.call {callee:=.builtin .copy,args:=#[d,s],argTypes:=#[56,56]}) {B:Nat} {L:List (Nat×Array aB)} {w0:ak} (A:Option aV) (n c:Nat) {bs:List UInt8} (H:Ly B L w0 w (.a A n c) bs) (z m:Nat)
 (dp:Option aV) (dLen dCap:Nat) (hd:a.eval d=.a dp dLen dCap) (sp:Option aV) (sLen sCap:Nat) (hs:a.eval s=.a sp sLen sCap) {C:Nat} {ys:List UInt8} (hr:gG w C sp sLen ys) (hm:m=qO sLen dLen)
 (hp:0<m->∃g,A=some ⟨g,0,none⟩/\dp=some ⟨g,z,none⟩) (hz:z+m<=bs.a)
 (h:∀w',Ly B L w0 w' (.a A n c) (rZ bs z (ys.E m))->w.d w' (j6 (.a A n c))->K (a.put o.dst (goInt m)) w'):if Region.wanted o (yielded ops a.tmps)=true then nV ah o a w K Q else E:=by
 have hw:Region.wanted o (yielded ops a.tmps)=true:=by simp[Region.wanted,hgd]
 rw[if_pos hw];obtain⟨W',hrun,hL,hG⟩:=H.copy z hr m dp dLen dCap sCap hm hp hz o.type 56 56 dD;unfold nV;simp[execOp,ho,resolve,invoke,builtin,hd,hs,hrun,iM];exact h W' hL hG
theorem Ly.h{B:Nat}{L:List (Nat×Array aB)}{w0 w:ak}{A:Option aV}{n c:Nat}{bs:List UInt8}(H:Ly B L w0 w (.a A n c) bs)(h:0<bs.a):∃g,A=some ⟨g,0,none⟩/\n=bs.a/\n<=c/\w0.a.j<=g/\∀p∈L,p.1≠g:=by
 rcases H.o.vM.2 with⟨e,h0⟩|⟨g,cap,cur,e,hB,_,hn,_⟩
 ·omega
 ·injection e with e1 e2 e3
  subst e1 e2 e3;refine⟨g,rfl,rfl,hn,?_,fun p hp e=>(H.J p hp).2 (by rw[e];rfl)⟩;rcases H.o.xG with e|⟨k',e,e2⟩
  ·cases e
  ·injection e with e;subst e;exact e2
section
attribute [local go_sem high] iR jI
def sZ(l:List UInt8)(d s:Vector UInt8 6):List UInt8:=(d.a++s.a++l.G 12).E l.a
theorem aza(l:List UInt8)(d s:Vector UInt8 6)(h:l.a<=6):rZ l 0 (d.a.E l.a)=sZ l d s:=by
 have e:(d.a.E l.a).a=l.a:=by simp;omega
 unfold rZ sZ;rw[kC,dJ,bC,e,List.drop_length,vI,bM,fV (by simp;omega)]
theorem azb(l:List UInt8)(d s:Vector UInt8 6)(h:6<l.a):rZ (rZ l 0 (d.a.E 6)) 6 (s.a.E (min 6 (l.a-6)))=sZ l d s:=by
 have hd:d.a.E 6=d.a:=aK (by simp);have hdl:d.a.a=6:=by simp
 have hsl:s.a.a=6:=by simp
 rw[hd];unfold rZ sZ;simp only[kC,dJ,bC,hdl];rw[yQ hdl,<-wW];have e2:(d.a++l.G 6).G 6=l.G 6:=yS hdl;have e3:(s.a.E (min 6 (l.a-6))).a=min 6 (l.a-6):=by simp
 rw[e2,e3,wW,bM d.a s.a,List.take_append,hdl];rw[aK (by omega:d.a.a<=l.a),bM];congr 1;rw[List.take_append,hsl];by_cases h2:l.a<=12
 ·rw[show min 6 (l.a-6)=l.a-6 by omega,jg (by omega),jg (by omega:l.a<=12)]
  simp
 ·rw[show min 6 (l.a-6)=6 by omega,aK (by omega:s.a.a<=6),aK (by omega:s.a.a<=l.a-6)]
  congr 1;rw[aK (by simp;omega)]
theorem Ly.toN{L:List (Nat×Array aB)}{w0 W:ak}{A:Option aV}{n c:Nat}{bs:List UInt8}(h:Ly w0.a.j L w0 W (.a A n c) bs):Le w0 bs (.a (.a A n c)) W:=by
 obtain⟨A9,c9,e9⟩:=h.o.DT;injection e9 with e1 e2 e3
 subst e2;exact⟨A,_,c,rfl,rfl,h.o.vM,h.o.X⟩
theorem abw(w:ak)(A:Option aV)(n c:Nat)(l:List UInt8)(d s:Vector UInt8 6)(hn:n<=1000000)(hr:gG w w.a.j A n l):aR ah 206 #[.a A n c,.d (Bp d),.d (Bp s)] w (Le w (sZ l d s)):=by
 have h0:=((Bx.start w).new (Bp d) 25).new (Bp s) 25;simp only[pV]at h0;have Z:=ab h0;have CC:=ab (aji l A n c _ (h0.Oh hr) (by omega));have hl:=ab hr.len;clear h0 hr;go_enter Tryz.func206,Tryz.ntmps206;go_upto_region 1 with fail
 generalize(w.alloc (.D (Bp d) 25)).alloc (.D (Bp s) 25)=w1 at Z CC ⊢;go_upto_region 2 with(go_at_call 268;(with_reducible refine CC.i.g ?_);rintro e w2 ⟨A2,c2,rfl,ho,hb⟩;have L1:=ab (Ly.anb (w0:=w) (L:=[(w.a.j+1,Bp s),(w.a.j,Bp d)]) ho Z.i.X.j (Z.i.X.trans (hb.g Z.i.X.j)) (fun p hp=>⟨((Z.i.go hb).2 p hp).2,(Z.i.2 p hp).2.lt⟩));clear ho hb)
 have RD:=ab (ahY (o:=0) L1.i.b1 d (by rw[<-gH d];simp));by_cases h6:n<=6
 ·have hm:n=qO 6 n:=by show n=min 6 n;omega
  have HM:=ab hm;have q:decide ((6:Int)<n)=false:=by simp;omega
  have HP:=ab (show 0<n->∃g,A2=some ⟨g,0,none⟩/\A2=some ⟨g,0,none⟩from fun h=>by
   obtain⟨g,hg,_⟩:=L1.i.h (by rw[hl.i];exact h);exact⟨g,hg,hg⟩)
  have HZ:=ab (show 0+n<=l.a by rw[hl.i];omega);clear hm;go_wp2_with (first|(at_builtin;fail)|(refine MH rfl (.a 10) (.a 11) rfl L1.i 0 n rfl rfl RD.i HM.i HP.i HZ.i ?_;intro w3 h3 h4;have L2:=ab h3;clear h3 h4));go_ret;have:=L2.i.toN;have e:rZ l 0 (d.a.E n)=sZ l d s:=by rw[<-aza l d s (by rw[hl.i];exact h6),hl.i]
  rw[e]at this;exact this
 ·have q:decide ((6:Int)<n)=true:=by simp;omega
  obtain⟨g,hg1,hg2,hg3,hg4,hg5⟩:=L1.i.h (by rw[hl.i];omega);subst hg1;clear hg2;have HP:=ab (show 0<6->∃g',(some ⟨g,0,none⟩:Option aV)=some ⟨g',0,none⟩/\(some ⟨g,0,none⟩:Option aV)=some ⟨g',0,none⟩from fun h=>⟨g,rfl,rfl⟩);have HM:=ab (show 6=qO 6 n by show 6=min 6 n;omega);have HZ:=ab (show 0+6<=l.a by rw[hl.i];omega);have hn6:(6:Int)<=n:=by omega
  go_upto_region 4 with(first|(refine MH rfl (.a 10) (.a 11) rfl L1.i 0 6 rfl rfl RD.i HM.i HP.i HZ.i ?_;intro w3 h3 h4;have L2:=ab h3;clear h3 h4))
  have aKf:(6:Int)<=c2:=by omega
  have L3:=ab L2.i.drew;have RS:=ab (ahY (o:=0) L3.i.Z s (by rw[<-gH s];simp));have HPL:=ab (show(rZ l 0 (d.a.E 6)).a=n by rw[xL (by simp;rw[hl.i];omega),hl.i]);obtain⟨m2,hm2⟩:∃m,m=qO 6 (n-6):=⟨_,rfl⟩
  have HM2:=ab hm2;have hm3:m2=min 6 (n-6):=hm2;have HP2:=ab (show 0<m2->∃g',(some ⟨g,0,none⟩:Option aV)=some ⟨g',0,none⟩/\sH (some ⟨g,0,none⟩) 6 c2 1=some ⟨g',6,none⟩from fun h=>⟨g,rfl,Qr (n:=0) (by omega)⟩);have HZ2:=ab (show 6+m2<=(rZ l 0 (d.a.E 6)).a by rw[HPL.i];omega);have HT:=ab (show rZ (rZ l 0 (d.a.E 6)) 6 (s.a.E m2)=sZ l d s by rw[hm3,<-hl.i];exact azb l d s (by rw[hl.i];omega));clear hm2 hm3 h6;go_region_held_law (fun _=>True) (trivial)
   (first|(refine Ov (o:=⟨some 19,_,_,_,_,_⟩) rfl (.a 17) (.a 18) rfl (some ⟨g,0,none⟩) n c2 L3.i 6 m2 (sH (some ⟨g,0,none⟩) 6 c2 1) (n-6) (c2-6) rfl (some ⟨w.a.j+1,0,none⟩) 6 6 rfl RS.i HM2.i HP2.i HZ2.i ?_;intro w4 h3 h4;have L4:=ab h3;clear h3 h4))
  go_wp2;go_ret;have:=L4.i.toN;rw[HT.i]at this;exact this
end
structure Ac where
 kind:Int
 frame:List UInt8
 op:rJ
 F:List UInt8
 h:Bool
structure Ou where
 err:Int
 jm:Int
 Bo:Bool
 nP:Int
 F:List UInt8
 i:List UInt8
deriving DecidableEq
def Hr:Ou:=⟨0,0,false,0,[],[]⟩
structure En where
 key:Vector UInt8 16
 c:Cn
 vs:List Vp
def Bj(e:En)(s:qE):Tl:=uZ e.key e.c.j.e (lH (oM s.J) s.h)
def ahZ(e:En)(t:Tu):Nat:=zi e.key (MX t)
def Ox(s:qE)(t:Tu):Option (List UInt8):=match qp s.tQ t with
 | some f=>if rX s.h f.F && !yG (oM s.J) f.F then some f.F else none
 | none=>none
def Ef(e:En)(s:qE)(t:Tu):Option (Bk×Bool):=match Ox s t with
 | some n=>some (qg s.h n,true)
 | none=>(Il (Bj e s) (ahZ e t)).map fun n=>(qg s.h n,false)
def DU(e:En)(v:Vp)(b:Bk)(t:Tu)(l:List UInt8):Int×List UInt8:=
 if v.Ak then
  if(vG l (if b.h.h then e.c.h else e.c.Dl) b.h).2=0 then(0,sZ (vG l (if b.h.h then e.c.h else e.c.Dl) b.h).1 b.xQ e.c.xQ)else(10,[])
 else if b.h.h=t.dst.h then(0,sZ (Ot l b.h b.ni true) b.xQ e.c.xQ)else(9,[])
structure Wy where
 jm:Int
 i:List UInt8
 h:Bk
 Bo:Bool
def oW(e:En)(s:qE)(l:List UInt8):Wy:=
 if(lW l).kind=0 then
  match sQ e.vs (lW l).K.dst (lW l).K.aN (lW l).K.iG with
  | some i=>match Ef e s (lW l).K with
    | some (b,Bo)=>
      if(DU e (e.vs.b i mJ) b (lW l).K l).1=0 then⟨0,(DU e (e.vs.b i mJ) b (lW l).K l).2,b,Bo⟩
      else⟨(DU e (e.vs.b i mJ) b (lW l).K l).1,[],jq,false⟩
    | none=>⟨8,[],jq,false⟩
  | none=>⟨7,[],jq,false⟩
 else⟨(lW l).kind,[],jq,false⟩
def upC(v:Vector Int 11)(r:Int):Vector Int 11:=Vector.ofFn fun i=>if(i:Int)=r then v[i]+1 else v[i]
def ah0(s:qE)(p:Pk):Int:=match qp s.tQ p.K with
 | some f=>ahm f.yF p.sW.e
 | none=>aao p.K.aN p.sW.e
def anc(s:qE)(p:Pk)(n:List UInt8):Fw:=⟨p.K,n,ah0 s p,s.ig,s.no+1⟩
def Dr(e:En)(s:qE)(l:List UInt8):qE×Ou:=
 if(oW e s l).jm=0 then
  ({s with mV:=upC s.mV 0,no:=s.no+1,tQ:=ED e.c.dV s.tQ (anc s (lW l) (oW e s l).h.F)},⟨0,0,(oW e s l).Bo,s.nP,(oW e s l).h.F,(oW e s l).i⟩)
 else({s with mV:=upC s.mV (oW e s l).jm},{Hr with jm:=(oW e s l).jm})
def opE(s:qE)(o:rJ):qE×Ou:=
 if qU s.nP s.h o=0 then({s with nP:=doV s.nP s.h o,h:=doL s.nP s.h o,J:=FC s.J ((doL s.nP s.h o).map (·.F))},{Hr with nP:=doV s.nP s.h o})
 else(s,{Hr with err:=qU s.nP s.h o})
def Rf(e:En)(s:qE)(n:List UInt8)(well:Bool):qE×Ou:=
 if(Ld s.J n well e.c.kI e.c.fall).2.2=0 then({s with J:=(Ld s.J n well e.c.kI e.c.fall).1},Hr)
 else(s,{Hr with err:=(Ld s.J n well e.c.kI e.c.fall).2.2})
def Rh(e:En)(s:qE):qE×Ou:=
 if 1099511627776<=s.ig then(s,{Hr with err:=7})else({s with ig:=s.ig+1,tQ:=Mt (s.ig+1) e.c.kK s.tQ},Hr)
def xO(e:En)(s:qE)(a:Ac):qE×Ou:=
 if a.kind=1 then Dr e s a.frame else if a.kind=2 then opE s a.op else if a.kind=3 then Rf e s a.F a.h else if a.kind=4 then Rh e s else(s,{Hr with err:=1})
structure og(M:Int)(e:En)(s:qE):Prop where
 cn:zA e.c e.vs=true
 pl:zf s.nP s.h=true
 fi:∀x∈s.h,x.sD
 nm:s.J.map (·.F)=s.h.map (·.F)
 hl:∀x∈s.J,0<=x.O/\x.O<(if x.down then e.c.kI else e.c.fall)
 fl:xI e.c.dV s.tQ
 fw:∀f∈s.tQ,f.seen<=s.ig/\1<=f.no/\f.no<=s.no
 ti:0<=s.ig/\s.ig<=1099511627776
 no:0<=s.no/\s.no<=M
 ct:∀n∈s.mV.a,0<=n/\n<=M
theorem og.le{M K:Int}{e:En}{s:qE}(h:og M e s)(hk:M<=K):og K e s:=
 ⟨h.cn,h.pl,h.fi,h.nm,h.hl,h.fl,h.fw,h.ti,by have:=h.no;omega,fun n hn=>by have:=h.ct n hn;omega⟩
theorem uj{x:Cn}{l:List Vp}(h:zA x l=true):(2<=x.j/\x.j<=65537/\mh x.j.e=true)/\(1<=x.dV/\x.dV<=4096)/\(1<=x.kI/\x.kI<=100)/\(1<=x.fall/\x.fall<=100):=by
 unfold zA at h;simp only[bf,decide_eq_true_eq]at h;obtain⟨⟨⟨⟨⟨⟨⟨⟨⟨⟨_,_⟩,⟨⟨h1,h2⟩,h3⟩⟩,h4⟩,h5⟩,h6⟩,_⟩,_⟩,_⟩,_⟩,_⟩:=h;exact⟨⟨h1,h2,h3⟩,h4,h5,h6⟩
theorem ah1{v:Vector Int 11}{r:Int}{M:Int}(h:∀n∈v.a,0<=n/\n<=M):∀n∈(upC v r).a,0<=n/\n<=M+1:=by
 intro n hn;have hv:∀(i:Nat)(hi:i<11),0<=v[i]/\v[i]<=M:=fun i hi=>h _ (by rw[Vector.mem_toList_iff];exact Vector.getElem_mem hi)
 rw[Vector.mem_toList_iff,Vector.mem_iff_getElem]at hn;obtain⟨i,hi,rfl⟩:=hn;unfold upC;rw[oK];have:=hv i hi;simp only[Fin.getElem_fin];split<;>omega
theorem abx{f x:Fw}{l:List Fw}:x∈ins mo f l↔x=f\/x∈l:=by
 rw[(Db (lt:=mo) f l).mem_iff,bD]
theorem aqF{dV:Int}{l:List Fw}{f x:Fw}(h:x∈ED dV l f):x=f\/x∈l:=by
 unfold ED at h;split at h
 ·split at h
  ·rcases abx.1 h with h|h
   ·exact .b h
   ·exact .a ((aaY l f.key).subset h)
  ·split at h
   ·rcases abx.1 h with h|h
    ·exact .b h
    ·exact .a (List.mem_of_mem_tail h)
   ·exact abx.1 h
 ·exact .a h
theorem ajR{M:Int}{e:En}{s:qE}(h:og M e s)(l:List UInt8):og (M+1) e (Dr e s l).1:=by
 obtain⟨_,⟨r1,_⟩,_⟩:=uj h.cn;have hno:=h.no;unfold Dr;split
 ·refine⟨h.cn,h.pl,h.fi,h.nm,h.hl,h.fl.put r1 _,?_,h.ti,?_,ah1 h.ct⟩
  ·intro f hf
   simp only at hf ⊢;rcases aqF hf with rfl|hf
   ·simp only[anc];omega
   ·have:=h.fw f hf;omega
  ·simp only;omega
 ·exact⟨h.cn,h.pl,h.fi,h.nm,h.hl,h.fl,h.fw,h.ti,by simp only;omega,ah1 h.ct⟩
theorem JN:∀{l:List (List UInt8)},l.Pairwise (fun x y=>bU x y=true)->IE l=l
 | [],_=>rfl
 | x::l,h=>by
   obtain⟨h1,h2⟩:=List.pairwise_cons.1 h;have ih:=JN h2;unfold IE at ih ⊢;rw[List.foldr_cons,ih];cases l with
   | nil=>rfl
   | cons y l=>
     have:=h1 y (by simp);simp[Vr,this]
theorem YV{a b:List UInt8}(h:nu a b<0):bU a b=true:=by
 rw[ze];simpa using h
theorem ajS{l:List Bk}(h:Fj l):(l.map (·.F)).Pairwise (fun x y=>bU x y=true):=by
 unfold Fj at h;rw[List.pairwise_map];exact h.imp (fun hab=>YV hab)
theorem agl{l:List Hl}{names:List (List UInt8)}(h:names.Pairwise (fun x y=>bU x y=true)):(FC l names).map (·.F)=names:=by
 unfold FC;rw[JN h,IX]
 conv=>rhs;rw[<-List.map_id names]
 apply Dz;intro s _;exact afF l s
theorem ajT(l:List Hl)(s:List UInt8):Dg l s∈l\/Dg l s=⟨s,false,0⟩:=by
 unfold Dg;split
 ·exact .a rfl
 ·rename_i h
  left;unfold AL at h ⊢;cases hf:l.findIdx? (fun x=>x.F==s)with
  | none=>rw[hf]at h;simp at h
  | some i=>
    obtain⟨hi,_,_⟩:=fT.1 hf;simp only[cK];rw[au,aC hi];exact eZ hi
theorem ane{M:Int}{e:En}{s:qE}(h:og M e s)(o:rJ)(hof:o.h.sD)(how:o.w<18446744073709551616):og M e (opE s o).1:=by
 obtain⟨_,_,⟨r1,_⟩,f1,_⟩:=uj h.cn;unfold opE;split
 ·rename_i hw
  have hd:=afB h.pl h.fi hof how hw;have hs:=(vT.1 hd.1).2.2.2.2;refine⟨h.cn,?_,hd.2,?_,?_,h.fl,h.fw,h.ti,h.no,h.ct⟩
  ·simp only[doV,hw,if_true];exact hd.1
  ·simp only
   exact agl (ajS hs)
  ·intro x hx
   simp only at hx;unfold FC at hx;obtain⟨n,_,rfl⟩:=jf.1 hx;rcases ajT s.J n with hm|hm
   ·exact h.hl _ hm
   ·rw[hm]
    simp only[fM,if_false];omega
 ·exact h
theorem anf{x:Hl}{well:Bool}{kI fall:Int}(hr:1<=kI/\kI<=100)(hf:1<=fall/\fall<=100)(h:0<=x.O/\x.O<(if x.down then kI else fall)):0<=(vS x well kI fall).1.O/\(vS x well kI fall).1.O<(if(vS x well kI fall).1.down then kI else fall):=by
 have hb:∀n:Int,1<=n/\n<=100->vR n=n:=fun n hn=>by unfold vR;rw[if_neg (by omega),if_neg (by omega)]
 unfold vS;cases hd:x.down
 ·rw[hd]at h
  simp only[fM,if_false]at h ⊢;rw[hb _ hf];split
  ·simp only[hd,fM,if_false];omega
  ·split
   ·simp only[Bool.not_false,if_true];omega
   ·simp only[fM,if_false];omega
 ·rw[hd]at h
  simp only[if_true]at h ⊢;rw[hb _ hr];split
  ·simp only[hd,if_true];omega
  ·split
   ·simp only[Bool.not_true,fM,if_false];omega
   ·simp only[if_true];omega
theorem ajU(x:Hl)(well:Bool)(kI fall:Int):(vS x well kI fall).1.F=x.F:=by
 unfold vS
 repeat' split
 all_goals rfl
theorem adY{M:Int}{e:En}{s:qE}(h:og M e s)(n:List UInt8)(well:Bool):og M e (Rf e s n well).1:=by
 obtain⟨_,_,hr,hf⟩:=uj h.cn;unfold Rf;split
 ·rename_i h0
  unfold Ld at h0 ⊢;split
  ·rename_i h1;rw[if_pos h1]at h0;cases h0
  ·rename_i h1
   have hin:(AL s.J n).e<s.J.a:=by
    unfold AL at h1 ⊢;cases hf:s.J.findIdx? (fun x=>x.F==n)with
    | none=>rw[hf]at h1;simp at h1
    | some i=>
      obtain⟨hi,_,_⟩:=fT.1 hf;simpa using hi
   have hm:s.J.b (AL s.J n).e lY∈s.J:=by
    rw[au,aC hin];exact eZ hin
   refine⟨h.cn,h.pl,h.fi,?_,?_,h.fl,h.fw,h.ti,h.no,h.ct⟩
   ·simp only
    rw[<-h.nm,List.map_set];apply iC;intro i;rw[fu];split
    ·rename_i hi
     subst hi;rw[bW,if_pos hin,ajU,jM,aC hin,au,aC hin];rfl
    ·rfl
   ·intro x hx
    simp only at hx;rcases List.mem_or_eq_of_mem_set hx with hx|rfl
    ·exact h.hl x hx
    ·exact anf hr hf (h.hl _ hm)
 ·exact h
theorem ang{M:Int}{e:En}{s:qE}(h:og M e s):og M e (Rh e s).1:=by
 unfold Rh;split
 ·exact h
 ·have ht:=h.ti
  refine⟨h.cn,h.pl,h.fi,h.nm,h.hl,h.fl.ayu _ _,?_,by simp only;omega,h.no,h.ct⟩;intro f hf;have:=h.fw f (mY.1 hf).1;simp only;omega
theorem wC{M:Int}{e:En}{s:qE}(h:og M e s)(a:Ac)(hof:a.op.h.sD)(how:a.op.w<18446744073709551616):og (M+1) e (xO e s a).1:=by
 unfold xO;split
 ·exact ajR h _
 ·split
  ·exact(ane h a.op hof how).le (by omega)
  ·split
   ·exact(adY h _ _).le (by omega)
   ·split
    ·exact(ang h).le (by omega)
    ·exact h.le (by omega)
theorem pI{place:Nat->Option (Nat×Nat)}(i off:Nat)(v:aB)(ps:List (Nat×aB))(p r:Array aB)(h:place i=some (off,1))(hv:v.D = #[v])(ho:off<p.j):fJ place (p++r) ((i,v)::ps)=fJ place (p.c off v++r) ps:=by
 rw[EZ place _ i off 1 v ps h (by rw[hv];rfl) (by rw[oJ];omega),hv];congr 1;apply dZ;intro j;rw[EX];simp only[oJ,aD,Array.size_setIfInBounds,dS];by_cases hj:j=off
 ·subst hj
  simp[ho];omega
 ·by_cases h1:off<=j/\j<off+1
  ·omega
  ·have:¬off=j:=fun e=>hj e.symm
   simp[this];intro a b;omega
@[go_sem]theorem azc(W:ak)(head bR II aN:Int)(src dst:fD):(vK 189 #[(0,.b .a head),(1,.b .a bR),(2,.b .a II),(5,.b .a aN),(6,.d src.ay),(7,.d dst.ay)]).O ah W=.ok (.d (Sx.mk head bR II false 0 aN src dst).ay) W:=
 kSx.bd W _ _ _ _ pY (auB W _ pY) (by
  show fJ _ (#[aI .a 0,.b .a 0,.b .a 0,.e false,.b .a 0,.b .a 0]++(nQ.ay++nQ.ay)) [(0,.b .a head),(1,.b .a bR),(2,.b .a II),(5,.b .a aN),(6,.d src.ay),(7,.d dst.ay)]=_;rw[pI 0 0 _ _ _ _ rfl rfl (by simp),pI 1 1 _ _ _ _ rfl rfl (by simp),pI 2 2 _ _ _ _ rfl rfl (by simp),pI 5 5 _ _ _ _ rfl rfl (by simp)];rw[TU]
  ·simp[rM,dz,Sx.ay]
  ·simp[sF,dz,fD.J])
@[go_sem]theorem azd(W:ak)(head bR Mv aN:Int)(keep:Bool)(src dst:fD):(vK 192 #[(0,.b .a head),(1,.b .a bR),(5,.e keep),(6,.b .a Mv),(7,.b .a aN),(8,.d src.ay),(9,.d dst.ay)]).O ah W=.ok (.d (Fo.mk head bR 0 0 false keep Mv aN src dst).ay) W:=
 kFo.bd W _ _ _ _ pX (auy W _ pX) (by
  show fJ _ (#[aI .a 0,.b .a 0,.b .a 0,.b .a 0,.e false,.e false,.b .a 0,.b .a 0]++(nQ.ay++nQ.ay)) [(0,.b .a head),(1,.b .a bR),(5,.e keep),(6,.b .a Mv),(7,.b .a aN),(8,.d src.ay),(9,.d dst.ay)]=_;rw[pI 0 0 _ _ _ _ rfl rfl (by simp),pI 1 1 _ _ _ _ rfl rfl (by simp),pI 5 5 _ _ _ _ rfl rfl (by simp),pI 6 6 _ _ _ _ rfl rfl (by simp),pI 7 7 _ _ _ _ rfl rfl (by simp)];rw[TU]
  ·simp[rM,dz,Fo.ay]
  ·simp[sF,dz,fD.J])
section
attribute [local go_sem high] iR jI
theorem pQ.nR{T:bL}{n:Nat}{z:Array aB}(K:pQ T n z){W:ak}{b:Nat}{c:Array aB}(h:dP W b c)(hc:c.j=n):(yU T (.c (some ⟨b,0,none⟩))).O ah W=.ok (.d c) W:=by
 have hs:eU c=n:=hc;rw[K.ld W b 0 (of_eq_true (h.R.2.2.1 0 n (by omega))),h.R.2.2.2 0 n (by omega)];simp[<-hc]
theorem dP.ah2{W:ak}{b:Nat}{a:fD}(h:dP W b a.ay):(sw (.c (some ⟨b,0,none⟩))).O ah W=.ok (.d a.ay) W:=by
 have hs:eU a.ay=17:=fD.J a;rw[Nc W b 0 (of_eq_true (h.R.2.2.1 0 17 (by omega))),h.R.2.2.2 0 17 (by omega)];simp[<-fD.J a]
theorem YW{d s:Vector UInt8 6}{dM:List Tg}{ty:Int}(h:dM.a<=2):(oF d s dM ty).a<=1000:=by
 have h2:=FU dM;unfold oF;simp only[aQ,h2,nZ];simp[oV];omega
theorem Ri(x:Sx):(oD x).a=40:=by simp[oD]
theorem Bx.ow{L:List (Nat×Array aB)}{w W W':ak}{B:Nat}{g:Option Nat}{v:aB}{bs:List UInt8}(h:Bx L w W)(k:Ow B g W v bs W')(hB:∀p∈L,p.1<B)(hw:w.a.j<=B):Bx L w W':=
 ⟨h.1.trans (k.Y.g hw),fun p hp=>⟨(h.2 p hp).1,by obtain⟨t,ht⟩:=(h.2 p hp).2;exact⟨t,(k.Y.block p.1 (hB p hp)).trans ht⟩⟩⟩
theorem MI(x:Fo):(lS x).a=20:=by simp[lS,LJ,zG]
theorem Ht(W:ak):gG W W.a.j none 0 []:=Ec (Ly.nil (w:=W)).o (aG _ _)
end
section
attribute [local go_sem high] iR jI
theorem anh(f:Nat):∀(x:Sx)(r:List UInt8),(wm f x r).1.bR=x.bR\/(wm f x r).1=re:=by
 induction f with
 | zero=>intro x r;unfold wm;split;exact .b rfl;exact .a rfl
 | succ f ih=>
   intro x r;unfold wm;split
   ·exact .b rfl
   ·split
    ·exact .a rfl
    ·exact ih _ _
theorem Ws(k:Int)(l:List UInt8):0<=(oG k l).bR/\(oG k l).bR<=l.a:=by
 unfold oG;split
 ·unfold wV
  split
  ·rename_i h1 h2
   have:=agc (l:=l) (by unfold wV;rw[if_pos h2]);unfold wV at this;rw[if_pos h2]at this;simp only at this ⊢;omega
  ·simp[yu]
 ·split
  ·unfold yO
   split
   ·simp[re]
   ·split
    ·simp[re]
    ·split
     ·simp[re]
     ·rcases anh 8 (Q8 l) ((l.E (40+dF l 4)).G 40)with h|h
      ·rw[h];show 0<=(40:Int)+dF l 4/\(40:Int)+dF l 4<=l.a;omega
      ·simp[h,re]
  ·simp[sS]
def Ao(l:List UInt8):Tn:=if(iV l).2≠0 then sS else oG (iV l).1.mP (l.G (iV l).1.dW)
def Ch(l:List UInt8):List UInt8:=if(iV l).2≠0 then []else(l.G (iV l).1.dW).E (Ao l).bR.e
def avb(W:ak)(l:List UInt8)(e:lJ)(W':ak):Prop:=∃A c PA pn pc,e=.a (.K #[.d ((iV l).1.cell A c).ay,.d (Ao l).ay,.a PA pn pc])/\iT Tg.ay 2 W' W'.a.j A (iV l).1.dM.a (iV l).1.dM/\gG W' W'.a.j PA pn (Ch l)/\pn<=pc/\(pc<=9223372036854775807/\pn<=1000000)/\aM W.a.j W W'
theorem avc{l:List UInt8}(h:(iV l).2≠0):(iV l).1=FK:=by
 have go:∀(m k:Nat)(dM:List Tg),(rF l m k dM).2≠0->(rF l m k dM).1=FK:=by
  intro m
  induction m with
  | zero=>intro k dM h;unfold rF at h⊢;split at h<;>first|(exact absurd rfl h)|(rename_i h1;simp_all)|rfl
  | succ m ih=>
    intro k dM;cases ht:oC (dF l (k-2):Nat)with
    | false=>rw[ny ht];intro h;exact absurd rfl h
    | true=>
      by_cases h4:l.a<k+4
      ·rw[sU ht h4];intro _;rfl
      ·rw[sj ht h4];exact ih _ _
 unfold iV at h ⊢;split
 ·rfl
 ·rename_i h1;rw[if_neg h1]at h;exact go _ _ _ h
section
variable {fn:Func} {p q u:Tmp} {T U:bL} {b1 b2 n m:Nat} {z y c d:Array aB} {W:ak}
theorem ah3(K:pQ T n z)(K2:pQ U m y)(h:fn.results = #[.cell p T,.cell q U,.a u])(tmps:Array aB)(hp:tmps.b p undef=.c (some ⟨b1,0,none⟩))(hq:tmps.b q undef=.c (some ⟨b2,0,none⟩))(hb:dP W b1 c)(hc:c.j=n)(hd:dP W b2 d)(hdc:d.j=m):(results fn tmps).O ah W=.ok (.K #[.d c,.d d,tmps.b u undef]) W:=by
 have l1:=K.nR hb hc;have l2:=K2.nR hd hdc;unfold yU at l1 l2;simp only[dw,Instr.sureAddr,jS,oU,Result.andThen_ok]at l1 l2;rw[Array.getD_eq_getD_getElem?]at hp hq;simp[results,h,hp,hq,asAddr,iM,l1,l2]
end
theorem iT.aze{α:Type}{f:α->Array aB}{s:Nat}{w w':ak}{B B':Nat}{A:Option aV}(h:iT f s w B A 0 []):iT f s w' B' A 0 []:=
 ⟨rfl,⟨by simp,fun h=>absurd h (by omega)⟩,fun a _ h=>absurd h (by omega)⟩
theorem Wt{l:List UInt8}:∀(m k:Nat)(dM:List Tg),(∀t∈dM,oC t.mP=true)->(∀t∈(rF l m k dM).1.dM,oC t.mP=true)
 | 0,k,dM,h=>by
   cases ht:oC (dF l (k-2):Nat)with
   | false=>rw[ny ht];exact h
   | true=>rw[wL ht];exact fun t ht=>by simp[FK]at ht
 | m+1,k,dM,h=>by
   cases ht:oC (dF l (k-2):Nat)with
   | false=>rw[ny ht];exact h
   | true=>
     by_cases h4:l.a<k+4
     ·rw[sU ht h4];exact fun t ht=>by simp[FK]at ht
     ·rw[sj ht h4]
      refine Wt m (k+4) _ (fun t h2=>?_);rcases qP.1 h2 with h2|h2
      ·exact h t h2
      ·rw[fO.1 h2];exact ht
theorem KQ(l:List UInt8):∀t∈(iV l).1.dM,oC t.mP=true:=by
 unfold iV;split
 ·exact fun t ht=>by simp[FK]at ht
 ·exact Wt 2 14 [] (fun t ht=>by cases ht)
def ani(c:Array aB):Bool:=c.all fun v=>match v with | .b .a z=>decide (z=0)|_=>true
theorem ajV{c:Array aB}(h:ani c=true){j:Nat}{t:Int}(ht:t≠0):c[j]?≠some (.b .a t):=fun e=>by
 have:=Array.all_eq_true_iff_forall_mem.1 h _ (Array.mem_of_getElem? e);simp at this;exact ht this
theorem iT.apart{w:ak}{B b n:Nat}{A:Option aV}{l:List Tg}{c:Array aB}(h:iT Tg.ay 2 w B A n l)(hi:∀t∈l,oC t.mP=true)(hb:dP w b c)(hc:ani c=true)(hn:0<n):∀a,A=some a->b≠a.block:=by
 intro a ha e;obtain⟨b',o,hA,_,hcell⟩:=h.cell Tg.J SH hn;rw[hA]at ha;injection ha with ha
 subst ha;simp only at e;subst e;have h1:=hcell 0 (by omega);rw[hb.R.1,Tg.EH]at h1;have ht:=hi _ (Fb SH l 0 (by rw[h.1];exact hn));refine ajV hc ?_ h1;intro e0;rw[e0]at ht;cases ht
theorem iT.asP{α:Type}{f:α->Array aB}{s:Nat}{B b n:Nat}{A:Option aV}{l:List α}(hp:∀a,A=some a->b≠a.block)(x:Array aB):∀(o:Nat) {w:ak},iT f s w B A n l->iT f s (gV w b o x) B A n l:=by
 have:∀(vs:List aB)(o:Nat)(w:ak),iT f s w B A n l->iT f s (w.setCells b o vs) B A n l:=by
  intro vs
  induction vs with
  | nil=>exact fun _ _ h=>h
  | cons v vs ih=>intro o w h;exact ih (o+1) _ (h.aCC v (fun a ha=>hp a ha))
 exact fun o w h=>this _ _ _ h
theorem YX(w:ak)(A:Option aV)(n c:Nat)(l:List UInt8)(hnc:n<=c)(hc:c<=9223372036854775807/\n<=1000000)(hr:gG w w.a.j A n l):aR ah 99 #[.a A n c] w (avb w l):=by
 have HR:=ab hr;have hl:=ab hr.len;have h0:=((Bx.start w).new qG.ay 108).new sS.ay 179;simp only[pV]at h0;have Z0:=ab h0;have CL:=ab (Ol _ A n c l hnc (by omega) (h0.Oh hr));clear h0 hr;go_enter Tryz.func99,Tryz.ntmps99;obtain⟨r,hrr⟩:=cB (iV l);have HRR:=ab hrr;obtain⟨k,er⟩:=r;unfold LkP at CL;rw[<-hrr]at CL;clear hrr;go_upto_region 1 with fail
 generalize(w.alloc (.D qG.ay 108)).alloc (.D sS.ay 179)=w0 at Z0 CL ⊢;go_upto_region 2 with(go_at_call 91;(with_reducible refine CL.i.g ?_);rintro e w1 ⟨TA,tc,rfl,hT,hb1⟩;have Z1:=ab ((Z0.i.go hb1).new (k.cell TA tc).ay 108);have HW:=ab (Z0.i.go hb1).Z.lt;have RT:=ab (hT.alloc (av _) (.D (k.cell TA tc).ay 108));clear hb1 hT)
 have HW2:=ab (show w1.a.j<=(w1.alloc (.D (k.cell TA tc).ay 108)).a.j by simp);generalize w1.alloc (.D (k.cell TA tc).ay 108)=w2 at Z1 RT HW2 ⊢;generalize w1.a.j=y5 at Z1 RT HW HW2 ⊢;have YL:=HW2;have MZ:=ab (show∀r∈[(w.a.j+1,sS.ay),(w.a.j,qG.ay)],r.1≠y5 from fun r hr=>by
  have:=HW.i;simp only[bD,gu,or_false]at hr;rcases hr with rfl|rfl<;>simp only[]<;>omega)
 by_cases h1:er≠0
 ·have q:(er != 0)=true:=by simp[h1]
  have HTN:=ab (show Ao l=sS by unfold Ao;rw[<-HRR.i,if_pos h1]);have HPK:=ab (show Ch l=[]by unfold Ch;rw[<-HRR.i,if_pos h1]);have l5:=kLc.nR Z1.i.Z (Lc.J _);have Z2:=ab (Z1.i.sub (L':=[(w.a.j,qG.ay),(y5,(k.cell TA tc).ay),(w.a.j+1,sS.ay)]) (by simp));have Z3:=ab (Z2.i.put (fun r hr=>by
   have:=HW.i;simp only[bD,gu,or_false]at hr;rcases hr with rfl|rfl<;>simp only[]<;>omega) (k.cell TA tc).ay (by rw[Lc.J,Lc.J]))
  have anj:=Z2.i.Z.S 0 15 (aU (Lc.J qG).symm);have ank:=Z3.i.b2.S 0 5 (aU (Tn.J sS).symm);have Z4:=ab ((Z3.i.sub (L':=[(w.a.j+1,sS.ay),(w.a.j,(k.cell TA tc).ay)]) (by simp)).put (fun r hr=>by
   simp only[bD,gu,or_false]at hr;rcases hr with rfl<;>simp only[]<;>omega) sS.ay rfl)
  go_wp2;refine aO (ah3 kLc kTn rfl _ rfl rfl Z4.i.b1 (Lc.J _) Z4.i.Z (Tn.J _)) rfl ?_;have RT2:=RT.i;refine⟨TA,tc,none,0,0,by rw[HTN.i,<-HRR.i];rfl,?_,by rw[HPK.i];exact Ht _,av _,by omega,Z4.i.X⟩;have hk0:k=FK:=by have:=avc (l:=l) (by rw[<-HRR.i];exact h1);rw[<-HRR.i]at this;exact this
  rw[<-HRR.i];subst hk0;exact iT.aze RT2
 obtain rfl:er=0:=by simpa using h1
 have q00:((0:Int) != 0)=false:=rfl;obtain⟨yN,adQ⟩:=JJ (l:=l) (by rw[<-HRR.i]);rw[<-HRR.i]at yN adQ;rw[hl.i]at adQ;simp only at yN adQ;have i1:(k.dW:Int)<=n:=by omega
 have F8:=ab (fun(w':ak) (h:Bx [(y5,(k.cell TA tc).ay),(w.a.j+1,sS.ay),(w.a.j,qG.ay)] w w')=>show w'.b ⟨y5,13,none⟩=some (.b .a k.mP)/\w'.b ⟨y5,14,none⟩=some (.b .a (k.dW:Nat))from⟨(h.Z.R.1 13).trans (Lc.EH _),(h.Z.R.1 14).trans (Lc.Mw _)⟩);have CN:=ab (fun(w':ak) (h:Bx [(y5,(k.cell TA tc).ay),(w.a.j+1,sS.ay),(w.a.j,qG.ay)] w w')=>Wq w' k.mP (sH A k.dW c 1) (n-k.dW) (c-k.dW) (l.G k.dW) (by omega) (by omega) ((h.Oh HR.i).yt (by omega) hnc));have HTN:=ab (show Ao l=oG k.mP (l.G k.dW)by unfold Ao;rw[<-HRR.i,if_neg (by simp)]);have HPK:=ab (show Ch l=(l.G k.dW).E (Ao l).bR.e by unfold Ch;rw[<-HRR.i,if_neg (by simp)]);have HTO:=ab (Ws k.mP (l.G k.dW));obtain⟨g,hg⟩:=cB (oG k.mP (l.G k.dW));have HG:=ab hg;rw[<-hg]at CN HTN HTO;clear hg;rw[HTN.i]at HPK;go_upto_region 4 with fail
 refine Qn (VY (Bx.abg ([(y5,(k.cell TA tc).ay),(w.a.j+1,sS.ay),(w.a.j,qG.ay)]) w) w2) 7 8 7 179 sS.ay (by kernel_rfl) rfl (by kernel_rfl) (by decide) (by decide) (by kernel_rfl) (by kernel_rfl) (by kernel_rfl) rfl rfl rfl (fun a w=>by simp[go_sem]) ⟨Z1.i.drew,(aG w2.a.j w2).drew⟩ ?_;apply Exists.intro;refine⟨fun T f hT es ew=>?_,?_⟩
 ·have EW:=ab ew
  have ES:=ab es;have k1:=fun m=>(F8.i _ (ES.i m).1).1
  have k2:=fun m=>(F8.i _ (ES.i m).1).2
  have CF:=ab (fun m=>CN.i _ (ES.i m).1);clear es ew;simp only[lI,List.set_cons_succ,List.set_cons_zero,List.take_succ_cons,kC]
  repeat(go_big_quiet_step ((first|(go_at_call 101;(with_reducible refine(CF.i _).g ?_);rintro e w2 ⟨rfl,hb⟩;exact⟨rfl,EW.i _ _ hb⟩))))
  exact iw rfl
 ·intro w9 w8 Bg _ hb
  have BN:=(Bg.2.alloc Bg.2.j (.D sS.ay 179)).trans (hb.g (by simp;exact qR Bg.2.j));have aEg:=Bg.2.j
  replace Bg:=Bg.1
  have ZN:=(Bg.new sS.ay 179).go hb;have hy:=Bg.X.j;have HYW:=BN.j;have BN:=ab BN;have ZN:=ab ZN;have zS:=ZN.i.Z.S 0 5 (aU (Tn.J sS).symm);have hyy:y5<w9.a.j:=Bg.Z.lt;generalize w9.a.j=y7 at *;have Z8:=ab (ZN.i.put (fun r hr=>by
   have:=HW.i;simp only[bD,gu,or_false]at hr;rcases hr with rfl|rfl|rfl<;>simp only[]<;>omega) g.ay (by rw[Tn.J,Tn.J]))
  have B8:=ab (lQ BN.i y7 0 g.ay aEg);go_upto_region 5 with fail
  clear zS ZN;generalize gV w8 y7 0 g.ay=w10 at Z8 B8 ⊢;obtain⟨T0,hT0⟩:∃T:Nat,g.bR=T:=⟨g.bR.e,by have:=HTO.i;omega⟩
  have hT1:T0+k.dW<=n:=by have:=HTO.i.2;rw[fZ,hl.i]at this;omega
  have HTT:=ab hT0;obtain⟨m0,hm0⟩:∃m:Nat,m=k.dW+T0:=⟨_,rfl⟩
  have q1:=jY ((k.dW:Int)+T0) (by omega);have q2:(k.dW:Int)+T0=m0:=by omega
  rw[q2]at q1;have q3:(k.dW:Int)<=m0:=by omega
  have q4:(m0:Int)<=c:=by omega
  have HM:=ab hm0;have HMN:=ab (show m0<=n by omega);have F9:=ab (fun(w':ak) (h:Bx [(y7,g.ay),(y5,(k.cell TA tc).ay)] w w')=>show(yU 108 (.c (some ⟨y5,0,none⟩))).O ah w'=.ok (.d (k.cell TA tc).ay) w'/\(yU 179 (.c (some ⟨y7,0,none⟩))).O ah w'=.ok (.d g.ay) w'/\w'.b ⟨y5,14,none⟩=some (.b .a (k.dW:Nat))/\w'.b ⟨y7,1,none⟩=some (.b .a (T0:Nat))from⟨kLc.nR h.b1 (Lc.J _),kTn.nR h.Z (Tn.J _),(h.b1.R.1 14).trans (Lc.Mw _),(h.Z.R.1 1).trans ((Tn.vX g).trans (by rw[HTT.i]))⟩);clear hT0 hm0 hT1;have ZA:=ab Z8.i.drew;have WB:=ab B8.i.drew;have Z2:=ab (ZA.i.sub (L':=[(w.a.j,qG.ay),(w.a.j+1,sS.ay),(y7,g.ay),(y5,(k.cell TA tc).ay)]) (by simp));have aKi:w.a.j+1<y5:=HW.i;have Z3:=ab (Z2.i.put (fun r hr=>by
   simp only[bD,gu,or_false]at hr;rcases hr with rfl|rfl|rfl<;>simp only[]<;>omega) (k.cell TA tc).ay (by rw[Lc.J,Lc.J]))
  have anj:=Z2.i.Z.S 0 15 (aU (Lc.J qG).symm);have ank:=Z3.i.b1.S 0 5 (aU (Tn.J sS).symm);have Z4:=ab ((Z3.i.sub (L':=[(w.a.j+1,sS.ay),(w.a.j,(k.cell TA tc).ay),(y7,g.ay),(y5,(k.cell TA tc).ay)]) (by simp)).put (fun r hr=>by
   simp only[bD,gu,or_false]at hr;rcases hr with rfl|rfl|rfl<;>simp only[]<;>omega) g.ay (by rw[Tn.J,Tn.J]))
  obtain⟨k1,k2,k3,k4⟩:=F9.i _ (ZA.i.sub (by simp));obtain⟨k5,k6,k7,k8⟩:=F9.i _ (Z3.i.sub (by simp));obtain⟨k9,k10,k11,k12⟩:=F9.i _ (Z4.i.sub (by simp));go_region;go_wp2;refine aO (ah3 kLc kTn rfl _ rfl rfl Z4.i.b1 (Lc.J _) Z4.i.Z (Tn.J _)) rfl ?_;have hHN:=HMN.i;have RF:=ab (show gG (gV (gV w10.drew w.a.j 0 (k.cell TA tc).ay) (w.a.j+1) 0 g.ay) (gV (gV w10.drew w.a.j 0 (k.cell TA tc).ay) (w.a.j+1) 0 g.ay).a.j (sH A k.dW c 1) (m0-k.dW) (Ch l)by
   have:=(Z4.i.Oh HR.i).XE (z:=k.dW) (b:=m0) (c:=c) (by omega) hHN hnc;have e2:(l.E m0).G k.dW=Ch l:=by rw[HPK.i,HTT.i,cK,oQ,HM.i,cZ]
   rwa [e2]at this)
  have TF:=ab (show iT Tg.ay 2 (gV (gV w10.drew w.a.j 0 (k.cell TA tc).ay) (w.a.j+1) 0 g.ay) (gV (gV w10.drew w.a.j 0 (k.cell TA tc).ay) (w.a.j+1) 0 g.ay).a.j TA k.dM.a k.dM by
   have h1:iT Tg.ay 2 w10.drew y5 TA k.dM.a k.dM:=RT.i.Y (WB.i.g YL.i);have hI:=KQ l;rw[<-HRR.i]at hI;by_cases h0:k.dM.a=0
   ·have e0:k.dM=[]:=bF h0
    rw[e0]at h1 ⊢;exact iT.aze h1
   ·have p1:=h1.apart hI ZA.i.b3 (by kernel_rfl) (by omega)
    have p2:=h1.apart hI ZA.i.b2 (by kernel_rfl) (by omega);exact(iT.asP p2 _ 0 (iT.asP p1 _ 0 h1)).lD (aP (nE hyy) (nE (Z4.i.b2).lt)))
  refine⟨TA,tc,sH A k.dW c 1,m0-k.dW,c-k.dW,by rw[HTN.i,<-HRR.i];rfl,?_,RF.i,by omega,by omega,Z4.i.X⟩;rw[<-HRR.i];exact TF.i
end
section
attribute [local go_sem high] iR jI
theorem azf(a c:Nat)(ha:a<256)(hc:c<256):bits .or .a ((a:Int)*256) (c:Int)=((a*256+c:Nat):Int):=by
 have h1:gI 64 ((a:Int)*256)=Iw 64 (a*256):=by rw[show((a:Int)*256)=((a*256:Nat):Int)by omega];exact mI _ _
 have h2:gI 64 (c:Int)=Iw 64 c:=mI _ _;show bT.wrap ((gI 64 ((a:Int)*256) ||| gI 64 (c:Int)).e:Int)=_;rw[h1,h2,BitVec.toNat_or,nW,nW,gy (by omega),gy (by omega),show a*256=a <<< 8 by rw[nC],<-Nat.shiftLeft_add_eq_or_of_lt (by omega)];rw[nC];simp[wP,oH,mH];omega
theorem aqH:mK 5 = #[0,1,2,3,4]:=by apply pU;rw[kF];rfl
@[go_sem]theorem asR(w:ak)(a b c d e:Int):(Ms 5 #[(0,.b .a a),(1,.b .a b),(2,.b .a c),(3,.b .a d),(4,.b .a e)]).O ah w=.ok (.a (some ⟨w.a.j,0,none⟩) 5 5) (w.alloc (.D (tZ [a,b,c,d,e]) 3)):=by
 obtain⟨i0,hi0,hz0,hz1⟩:=TP;simp[Ms,bJ,dK Tryz.underlying70,zeroValue,sizeOf,typeInfo,hi0,hz0,hz1,fJ,newRow,tZ,dz,aqH]
def ah4(x:Fo):List Nat:=[x.bR.e,x.id.e,if x.keep then 16384 else 0,x.Mv.e*256+x.aN.e,0]
def Iq(l:List Nat):List Int:=l.map (fun n:Nat=>(n:Int))
theorem ajX(l:List Nat)(j:Nat)(hj:j<l.a):(tZ (Iq l))[j]? = some (.b .a ((l.b j 0:Nat):Int)):=by
 have:=YM (Iq l) j (by simpa[Iq]using hj);rw[bC]at this;rw[this];simp[Iq,au,hj]
theorem gG.upN{w:ak}{B n k:Nat}{A:Option aV}{l:List UInt8}(h:gG w B A n l)(hk:k<=n):gG w B A k (l.E k):=by
 have:=Rd.upto h hk
 rwa [gP,<-BI]at this
theorem aby{l:List UInt8}{k:Nat}{a b:UInt8}(h:k+2<=l.a):rZ l k [a,b]=(l.set k a).set (k+1) b:=by
 apply iC;intro i;unfold rZ;simp only[bM,ko,bE,jc,iY,fu,aS,bl,gU];by_cases h1:i<k
 ·simp[h1,show¬k+1=i by omega,show¬k=i by omega,show i<min k l.a by omega]
 ·by_cases h2:i=k
  ·subst h2
   simp[show i<l.a by omega,show min i l.a=i by omega]
  ·by_cases h3:i=k+1
   ·subst h3
    simp[show k+1<l.a by omega,show min k l.a=k by omega,show¬k+1<k by omega]
   ·have e1:min k l.a=k:=by omega
    have e2:k+2+(i-k-2)=i:=by omega
    simp[show¬k+1=i by omega,show¬k=i by omega,e1,h1,show¬i-k<2 by omega,e2]
theorem anl(x:Fo)(h1:x.Mv.e<256)(h2:x.aN.e<256):zG x=[69,aJ x.Pb.e]++(ah4 x).d (fun n:Nat=>oV (n:Int))++x.h.b.a.E 4++x.dst.b.a.E 4:=by
 unfold zG ah4;have e1:(x.Mv.e*256+x.aN.e)/256=x.Mv.e:=by omega
 have e2:(x.Mv.e*256+x.aN.e)%256=x.aN.e:=by omega
 cases x.keep<;>simp[oV,e1,e2]
theorem Rj(x:Fo)(hh:x.head=20)(s0:0<=x.Pb)(s1:x.Pb<=255)(t0:20<=x.bR)(t1:x.bR<=65535)(i0:0<=x.id)(i1:x.id<=65535)(l0:0<=x.Mv)(l1:x.Mv<=255)(p0:0<=x.aN)(p1:x.aN<=255)(hf:x.mW=false)(hs:(!x.h.h&&x.h.mO)=true)(hd:(!x.dst.h&&x.dst.mO)=true)(w:ak):aR ah 271 #[.d x.ay] w (adS w (lS x)):=by
 have Z:=ab ((Bx.start w).new x.ay 192);have FA:=ab (fun(w':ak) (h:dP w' w.a.j x.ay)=>show w'.b ⟨w.a.j,0,none⟩=some (.b .a 20)/\w'.b ⟨w.a.j,1,none⟩=some (.b .a x.bR)/\w'.b ⟨w.a.j,2,none⟩=some (.b .a x.Pb)/\w'.b ⟨w.a.j,3,none⟩=some (.b .a x.id)/\w'.b ⟨w.a.j,4,none⟩=some (.e false)/\w'.b ⟨w.a.j,5,none⟩=some (.e x.keep)/\w'.b ⟨w.a.j,6,none⟩=some (.b .a x.Mv)/\w'.b ⟨w.a.j,7,none⟩=some (.b .a x.aN)/\(sw (.c (some ⟨w.a.j,8,none⟩))).O ah w'=.ok (.d x.h.ay) w'/\(sw (.c (some ⟨w.a.j,25,none⟩))).O ah w'=.ok (.d x.dst.ay) w' by
  have f:=h.R.1;have hz:x.ay.j=42:=Fo.J x;refine⟨(f 0).trans ((Fo.Ee x).trans (by rw[hh])),(f 1).trans (Fo.vX x),(f 2).trans (Fo.auu x),(f 3).trans (Fo.ayz x),(f 4).trans ((Fo.Kz x).trans (by rw[hf])),(f 5).trans (Fo.aa4 x),(f 6).trans (Fo.auv x),(f 7).trans (Fo.xJ x),?_,?_⟩
  ·rw[Nc w' w.a.j 8 (of_eq_true (h.R.2.2.1 8 17 (by unfold eU;omega))),h.R.2.2.2 8 17 (by unfold eU;omega),Fo.JB]
  ·rw[Nc w' w.a.j 25 (of_eq_true (h.R.2.2.1 25 17 (by unfold eU;omega))),h.R.2.2.2 25 17 (by unfold eU;omega),Fo.JC])
 have CI:=ab (fun k m W (h:0<=k/\k<=m)=>show aR ah 316 #[.b .a k,.b .a m] W (fun e W'=>e=.a (.e true)/\aM W.a.j W W')by
  have:=af9 k m W;rwa [decide_eq_true h.1,decide_eq_true h.2]at this)
 have C1:=ab (fun W=>CI.i x.bR 65535 W ⟨by omega,t1⟩);have C2:=ab (fun W=>CI.i x.Pb 255 W ⟨s0,s1⟩);have C3:=ab (fun W=>CI.i x.Mv 255 W ⟨l0,l1⟩);have C4:=ab (fun W=>CI.i x.aN 255 W ⟨p0,p1⟩);have C5:=ab (fun W=>CI.i x.id 65535 W ⟨i0,i1⟩);have C6:=ab (fun W=>by have:=VR x.h W;rwa [hs]at this:∀W,aR ah 317 #[.d x.h.ay] W fun e W'=>e=.a (.e true)/\aM W.a.j W W');have C7:=ab (fun W=>by have:=VR x.dst W;rwa [hd]at this:∀W,aR ah 317 #[.d x.dst.ay] W fun e W'=>e=.a (.e true)/\aM W.a.j W W');have q1:decide (x.bR<20)=false:=by simp;omega
 have HF:=ab (anl x (by omega) (by omega));clear hh hf hs hd;go_enter Tryz.func271,Tryz.ntmps271;go_upto_region 1 with fail
 generalize w.alloc (.D x.ay 192)=w1 at *;obtain⟨f0,f1,f2,f3,f4,f5,f6,f7,f8,f9⟩:=FA.i _ Z.i.Z;go_upto_region 3 with(first|(go_at_call 316;(first|(with_reducible refine(C1.i _).g ?_)|(with_reducible refine(C2.i _).g ?_)|(with_reducible refine(C3.i _).g ?_)|(with_reducible refine(C4.i _).g ?_)|(with_reducible refine(C5.i _).g ?_));rintro e w5 ⟨rfl,hb⟩;have ZN:=ab (Z.i.go hb);clear f0 f1 f2 f3 f4 f5 f6 f7 f8 f9;obtain⟨f0,f1,f2,f3,f4,f5,f6,f7,f8,f9⟩:=FA.i _ ZN.i.Z;clear hb Z;have Z:=ZN;clear ZN)|(go_at_call 317;(first|(with_reducible refine(C6.i _).g ?_)|(with_reducible refine(C7.i _).g ?_));rintro e w5 ⟨rfl,hb⟩;have ZN:=ab (Z.i.go hb);clear f0 f1 f2 f3 f4 f5 f6 f7 f8 f9;obtain⟨f0,f1,f2,f3,f4,f5,f6,f7,f8,f9⟩:=FA.i _ ZN.i.Z;clear hb Z;have Z:=ZN;clear ZN))
 clear f0 f1 f2 f3 f4 f5 f6 f7 f8 f9 C1 C2 C3 C4 C5 C6 C7 CI q1;obtain⟨tt,htt⟩:∃n:Nat,x.bR=(n:Int):=⟨x.bR.e,by omega⟩
 obtain⟨ti,hti⟩:∃n:Nat,x.id=(n:Int):=⟨x.id.e,by omega⟩
 obtain⟨tl,htl⟩:∃n:Nat,x.Mv=(n:Int):=⟨x.Mv.e,by omega⟩
 obtain⟨tp,htp⟩:∃n:Nat,x.aN=(n:Int):=⟨x.aN.e,by omega⟩
 obtain⟨kb,hkb⟩:∃n:Nat,n=if x.keep then 16384 else 0:=⟨_,rfl⟩
 have hkb2:kb<=16384:=by rw[hkb];split<;>omega
 have HNS:=ab (show ah4 x=[tt,ti,kb,tl*256+tp,0]by unfold ah4;rw[htt,hti,htl,htp,<-hkb];rfl);rw[HNS.i]at HF;have f:=FA.i _ Z.i.Z;rw[htt,hti,htl,htp]at f;obtain⟨f0,f1,f2,f3,f4,f5,f6,f7,f8,f9⟩:=f;have q2:=azf tl tp (by omega) (by omega);have q3:aX.wrap x.Pb=x.Pb:=by rw[Iz];omega
 have HX1:=ab htt;have HX2:=ab hti;have HX3:=ab htl;have HX4:=ab htp;have B1:tt<=65535:=by omega
 have B2:ti<=65535:=by omega
 have B3:tl*256+tp<=65535:=by omega
 have B4:tl<=255:=by omega
 have B5:tp<=255:=by omega
 have HFA:=FA;have HKB:=ab hkb;clear htt hti htl htp i0 i1 l0 l1 p0 p1 t0 t1 HNS FA;cases hk:x.keep
 all_goals
  rw[hk]at f5;have HK:=ab hk;go_upto_region 6 with fail
  clear hk hkb;have L0:=ab ((Ly.am9 w w5 Z.i.X #[.b .b 69,.b .b x.Pb] [69,aJ x.Pb.e] 2 rfl (by omega) (by
   simp only[kV,qm,bv];rw[zZ x.Pb.e (by omega),mg s0];rfl)).add (q:=w.a.j) (c:=x.ay) (Z.i.Z.alloc _) (by simp[j6];exact tH Z.i.Z.lt))
  go_upto_region 7 with fail
  clear f0 f1 f2 f3 f4 f5 f6 f7 f8 f9;generalize w5.alloc (.D #[.b .b 69,.b .b x.Pb] 5)=w6 at L0 ⊢;generalize bB (some ⟨w5.a.j,0,none⟩) 2 2=v6 at L0 ⊢;have f:=HFA.i _ L0.i.Z;obtain⟨kv,hkv⟩:∃kv:Nat,kb=kv:=⟨_,rfl⟩
  have hkk:kb=(if x.keep then 16384 else 0):=HKB.i;rw[HK.i]at hkk;simp only[if_true,if_false,fM]at hkk;subst hkk;obtain⟨_,f1,_,f3,_,_,f6,f7,_,_⟩:=f;rw[HX1.i]at f1;rw[HX2.i]at f3;rw[HX3.i]at f6;rw[HX4.i]at f7;clear hkv kv;go_upto_region 8 with fail
  clear f1 f3 f6 f7 q2
  first
  | (have L1:=ab (L0.i.new (tZ (Iq [tt,ti,16384,tl*256+tp,0])) 3)
     have HIN:=ab (show Iq [tt,ti,16384,tl*256+tp,0]=[(tt:Int),ti,16384,(tl:Int)*256+tp,0]by simp[Iq]);rw[<-HIN.i];clear HIN;generalize hns:([tt,ti,16384,tl*256+tp,0]:List Nat)=ns at L1 HF⊢)
  | (have L1:=ab (L0.i.new (tZ (Iq [tt,ti,0,tl*256+tp,0])) 3)
     have HIN:=ab (show Iq [tt,ti,0,tl*256+tp,0]=[(tt:Int),ti,0,(tl:Int)*256+tp,0]by simp[Iq]);rw[<-HIN.i];clear HIN;generalize hns:([tt,ti,0,tl*256+tp,0]:List Nat)=ns at L1 HF⊢)
  have HNL:=ab (show ns.a=5 by rw[<-hns];rfl);have HNB:=ab (show∀z∈ns,z<=65535 by
   rw[<-hns];intro z hz;simp only[bD,gu,or_false]at hz;omega)
  clear hns hkb2 B1 B2 B3 B4 B5;obtain⟨A0,c0,hv⟩:=L1.i.o.DT;have hv2:v6=.a A0 2 c0:=hv;clear hv;subst hv2;have hy7:=L0.i.Z.lt;generalize w6.alloc (.D (tZ (Iq ns)) 3)=w7 at L1 ⊢;generalize w6.a.j=y7 at L1 hy7 ⊢;have auV:∀i:Nat,((ns.E i).d (fun n:Nat=>oV (n:Int))).a<=10:=by
   have h1:∀l:List Nat,(l.d (fun n:Nat=>oV (n:Int))).a=2*l.a:=by
    intro l
    induction l with
    | nil=>rfl
    | cons a l ih=>rw[iW,aQ,ih];simp[oV];omega
   intro i;rw[h1,bE];have:=HNL.i;omega
  have HLT:=ab auV;clear auV;obtain⟨b0,hb0⟩:∃l:List UInt8,l=[69,aJ x.Pb.e]:=⟨_,rfl⟩
  have HB0:=ab (show b0.a=2 by rw[hb0];rfl);rw[<-hb0]at L1 HF;clear hb0;go_loopw [5,81] (fun s5 s81 wr=>∃(i:Nat)(A:Option aV)(m c:Nat),i<=5/\s81=.b .a i/\s5=.a A m c/\Ly w.a.j [(y7,tZ (Iq ns)),(w.a.j,x.ay)] w wr (.a A m c) (b0++(ns.E i).d (fun n:Nat=>oV (n:Int)))) (fun _ s81 _=>5-(intOf s81).e)
  case atStart=>exact⟨0,_,_,_,by omega,rfl,rfl,by rw[kC,List.flatMap_nil,vI];exact L1.i⟩
  case round=>
   obtain⟨i,A,m,c,hin,rfl,rfl,h⟩:=hrel;have HO:=ab h;clear h;have HL1:=ab (show(b0++(ns.E i).d (fun n:Nat=>oV (n:Int))).a<=12 by rw[aQ];have:=HLT.i i;have:=HB0.i;omega);by_cases hlt:i<5
   ·have hi:(i:Int)<5:=by omega
    have hi0:(0:Int)<=i:=by omega
    have e1:=(HO.i.Z.R.1 i).trans (ajX ns i (by rw[HNL.i];exact hlt));have Ew:=ab (adT (fun n:Nat=>oV (n:Int)) 0 ns i (by rw[HNL.i];exact hlt));have hz:=HNB.i _ (Fb 0 ns i (by rw[HNL.i];exact hlt));obtain⟨z,hzz⟩:=cB (ns.b i 0);rw[<-hzz]at e1 Ew hz;clear hzz;have cs:jG.wrap (z:Int)=(z:Int):=by rw[jZ];omega
    have PS:=ab (fun W=>xH z hz W);rw[wu z hz]at PS;have HLN:=ab (show(b0++(ns.E i).d (fun n:Nat=>oV (n:Int))).a+2<=1000000000 by have:=HL1.i;omega);go_wp2_with (first|(go_at_call 184;(with_reducible refine(PS.i _).g ?_);rintro e w8 ⟨A8,rfl,ho,hb⟩;have R8:=ab (Ec ho (aG _ _));have L4:=ab (HO.i.go hb);clear ho hb)|(at_builtin;refine kJ rfl (.a 85) (.a 88) rfl rfl L4.i.o rfl R8.i HLN.i ?_;intro A9 n9 c9 w9 h2 h3;have L5:=ab (L4.i.step h3);clear h2 h3));go_roundw
    case rel=>exact⟨i+1,A9,n9,c9,by omega,by go_num,rfl,by rw[Ew.i,<-bM];exact L5.i⟩
    case measure=>simp[intOf]<;>omega
   ·obtain rfl:i=5:=by omega
    have HFU:=ab (show ns.E 5=ns from aK (by rw[HNL.i];omega));rw[HFU.i]at HO HL1;obtain⟨b1,hb1⟩:∃l:List UInt8,l=b0++ns.d (fun n:Nat=>oV (n:Int)):=⟨_,rfl⟩
    have HB1:=ab (show b1.a=12 by
     rw[hb1,aQ,HB0.i];have h1:∀l:List Nat,(l.d (fun n:Nat=>oV (n:Int))).a=2*l.a:=by
      intro l
      induction l with
      | nil=>rfl
      | cons a l ih=>rw[iW,aQ,ih];simp[oV];omega
     rw[h1,HNL.i])
    rw[<-hb1]at HO HF;clear hb1 HFU HL1 hin hlt;have LY:=ab (show Ly w.a.j [(w.a.j,x.ay)] w wr (.a A m c) b1 from HO.i.TS);have RS:=ab (fun(w':ak) (h:dP w' w.a.j x.ay)=>show gG w' w'.a.j (some ⟨w.a.j,9,none⟩) 4 (x.h.b.a.E 4)from(MG (o:=8) h x.h (Fo.JB x)).upN (by omega));have RD:=ab (fun(w':ak) (h:dP w' w.a.j x.ay)=>show gG w' w'.a.j (some ⟨w.a.j,26,none⟩) 4 (x.dst.b.a.E 4)from(MG (o:=25) h x.dst (Fo.JC x)).upN (by omega));have LD:=ab LY.i.drew;have RSd:=ab (RS.i _ LD.i.Z);obtain⟨A',c',hv⟩:=LD.i.o.DT;have hm:m=b1.a:=by injection hv
    rw[HB1.i]at hm;subst hm;clear hv A' c';have LN1:=ab (show b1.a+4<=1000000000 by rw[HB1.i];decide);have LN2:=ab (show(b1++x.h.b.a.E 4).a+4<=1000000000 by rw[aQ,bE,HB1.i];omega);go_wp2_with fail;go_region_held_law (fun _=>True) (trivial)
     (first
     | (refine NQ (o:=⟨some 95,_,_,_,_,_⟩) rfl (.a 91) (.a 94) rfl (.a A 12 c) (some ⟨w.a.j,9,none⟩) 4 16 rfl LD.i.o rfl RSd.i LN1.i ?_;intro A6 n6 c6 w6 h8 h9;have L6:=ab (LD.i.step h9);have RDd:=ab (RD.i _ L6.i.Z);clear h8 h9)
     | (refine NQ (o:=⟨some 99,_,_,_,_,_⟩) rfl (.a 95) (.a 98) rfl (.a A6 n6 c6) (some ⟨w.a.j,26,none⟩) 4 16 rfl L6.i.o rfl RDd.i LN2.i ?_;intro A7 n7 c7 w7 h8 h9;have L7:=ab (L6.i.step h9);clear h8 h9))
    go_wp2_with fail;rw[<-HF.i]at L7;have HFL:=ab (show(zG x).a=20 by simp[zG]);have HPF:=ab (show lS x=rZ (zG x) 10 (oV (uo (zG x):Nat))by
     unfold lS LJ oV;rw[cK,aby (by rw[HFL.i];omega)])
    obtain⟨fh,hfh⟩:∃l,l=zG x:=⟨_,rfl⟩
    rw[<-hfh]at L7 HFL HPF;clear hfh HF;obtain⟨g,hg1,hg2,hg3,hg4,hg5⟩:=L7.i.h (by rw[HFL.i];decide);rw[HFL.i]at hg2;subst hg1 hg2;have h10:(10:Int)<=c7:=by omega
    have L8:=L7.i.drew.new (#[bB (some ⟨g,0,none⟩) 20 c7]) 56;simp only[show w7.drew.a.j=w7.a.j from rfl,show∀(w:ak) ob,w.drew.alloc ob=(w.alloc ob).drew from fun _ _=>rfl]at L8;have L8:=ab L8;have hfr:gG w7 w7.a.j (some ⟨g,0,none⟩) 20 fh:=by have ho:=L7.i.o.vM;rw[HFL.i]at ho;exact gG.jh ho
    have CS:=ab (ahy ((w7.alloc (.D (#[bB (some ⟨g,0,none⟩) 20 c7]) 56)).drew) w7.a.j (some ⟨g,0,none⟩) 20 c7 w7.a.j fh (by decide) ((L8.i.Z.R.1 0).trans rfl) (hfr.alloc (av _) _));have hsz:uo fh<=65535:=by unfold uo;omega
    obtain⟨z,hz⟩:=cB (uo fh);rw[<-hz]at CS HPF hsz;clear hz hfr;have q7:jG.wrap (z:Int)=(z:Int):=by rw[jZ];omega
    have PZ:=ab (fun W=>xH z hsz W);rw[wu z hsz]at PZ;have HP:=ab (show 0<2->∃g',(some ⟨g,0,none⟩:Option aV)=some ⟨g',0,none⟩/\sH (some ⟨g,0,none⟩) 10 c7 1=some ⟨g',10,none⟩from fun _=>⟨g,rfl,Qr (n:=0) (by omega)⟩);have HZ:=ab (show 10+2<=fh.a by rw[HFL.i];decide);go_region_held_law (fun _=>True) (trivial)
     (first
     | (go_at_call 305;(with_reducible refine CS.i.g ?_);rintro e w8 ⟨rfl,rfl⟩)
     | (go_at_call 184;(with_reducible refine(PZ.i _).g ?_);rintro e w9 ⟨A9,rfl,ho,hb⟩;have R9:=ab (Ec ho (aG _ _));have L9:=ab (L8.i.go hb);clear ho hb)
     | (refine Ov (o:=⟨some 107,_,_,_,_,_⟩) rfl (.a 101) (.a 106) rfl (some ⟨g,0,none⟩) 20 c7 L9.i 10 2 (sH (some ⟨g,0,none⟩) 10 c7 1) 10 (c7-10) rfl A9 2 2 rfl R9.i rfl HP.i HZ.i ?_;intro w10 h10 h11;have L10:=ab h10;clear h10 h11))
    go_wp2;go_ret2;rw[HPF.i];exact L10.i.toE
end
section
attribute [local go_sem high] iR jI
theorem MJ(x:Lc)(kind:Int)(dM:List Tg)(hf:∀t∈dM,abt t)(hi:∀t∈dM,oC t.mP=true)(hn:dM.a<=2)(t0:0<=kind)(t1:kind<=65535)(ht:oC kind=false)(w:ak)(hT:iT Tg.ay 2 w w.a.j x.VQ x.FJ dM)
 (P:Option aV) (m mc:Nat) (sl:List XC) (bss:List (List UInt8)) (hS:RdS w w.a.j P m sl) (hH:NM w w.a.j sl bss) (hm:m<=1000) (hs:zw sl<=900000000) :
 aR ah 102 #[.d x.ay,.b .a kind,.a P m mc] w (Le w (oF x.dst x.h dM kind++bss.flatten)):=by
 have Z1:=ab ((Bx.start w).new x.ay 108);have fz:=Z1.i.Z.R.2.1 13;have HT:=ab hT;have HS:=ab hS;have HH:=ab hH;have Z2:=ab (Z1.i.set (fun p hp=>by cases hp) 13 (.b .a kind));rw[Lc.Ue]at Z2;clear hT hS hH;go_enter Tryz.func102,Tryz.ntmps102;go_upto_region 1 with fail
 have c13:(w.alloc (.D x.ay 108)).b ⟨w.a.j,13,none⟩=some (.b .a x.mP):=(Z1.i.Z.R.1 13).trans (Lc.EH x);generalize w.alloc (.D x.ay 108)=w1 at *;go_upto_region 2 with fail
 generalize w1.I ⟨w.a.j,13,none⟩ (.b .a kind)=w2 at *;clear c13 fz;have l3:=kLc.nR Z2.i.Z (Lc.J _);have CL:=ab (adX ({x with mP:=kind}:Lc) dM hf hi hn t0 t1 ht w2 ((HT.i.Y Z2.i.X).lD Z2.i.X.j));have HLB:=ab (show(oF x.dst x.h dM kind).a<=1000 from YW hn);go_upto_region 3 with(go_at_call 185;(with_reducible refine CL.i.g ?_);rintro e w3 ⟨A3,n3,c3,rfl,hn3,ho3,hb3⟩;have N3:=ab hn3;have O3:=ab ho3;have B3:=ab (Z2.i.X.trans (hb3.g Z2.i.X.j));clear hn3 ho3 hb3)
 have C1:=ab (Mr sl bss P m mc w3 ((HS.i.Y B3.i).lD B3.i.j) ⟨HH.i.1,fun i hi=>((HH.i.2 i hi).Y B3.i).lD B3.i.j⟩ hm (by omega));obtain⟨hb0,hhb⟩:∃l,l=oF x.dst x.h dM kind:=⟨_,rfl⟩
 rw[<-hhb]at N3 O3 HLB;have HHB:=ab hhb;clear hhb l3;have HFL:=ab (show bss.flatten.a<=900000000 by
  have:=VF HH.i sl.a (av _);rw[aK (av _),HH.i.1,aK (av _)]at this;omega)
 obtain⟨fl,hfl⟩:∃l,l=bss.flatten:=⟨_,rfl⟩
 unfold auj at C1;rw[<-hfl]at HFL C1;have HFB:=ab hfl;clear hfl;go_wp2_with (first
 | (go_at_call 181;(with_reducible refine C1.i.g ?_);rintro e w4 ⟨v4,rfl,ho4,hb4⟩;obtain⟨A4,c4,hv4,_,_⟩:=j3 ho4;subst hv4;have O4:=ab ho4;have B4:=ab (B3.i.trans (hb4.g B3.i.j));have R3:=ab (gG.jh (jH O3.i hb4));have R4:=ab (gG.jh ho4);have C2:=ab (Dj [⟨A3,n3,c3⟩,⟨A4,fl.a,c4⟩] [hb0,fl] 56 2 w4 rfl (.cons R3.i (.cons R4.i .nil)) (by omega) (by have:=N3.i;have:=HLB.i;have:=HFL.i;simp[zw];omega));clear ho4 hb4)
 | (go_at_call 181;(with_reducible refine C2.i.g ?_);rintro e w5 ⟨A5,m5,c5,rfl,hm5,_,Uf,hb5⟩;have O5:=ab Uf;have N5:=ab hm5;have B5:=ab hb5;clear hm5 Uf hb5))
 go_ret;have e2:[hb0,fl].flatten=hb0++fl:=by simp
 have ho:=O5.i;have hnn:=N5.i;rw[e2,HHB.i,HFB.i]at ho hnn;exact⟨A5,m5,c5,rfl,hnn,iU ho (qR B4.i.j),B4.i.trans (B5.i.g B4.i.j)⟩
end
section
attribute [local go_sem high] iR jI
theorem aqI{w:ak}{y:Nat}{a b c:Array aB}(h:w.a.j+1<y):∀p∈[(y+1,a),(w.a.j+1,b),(w.a.j,c)],p.1≠y:=fun r hr=>by
 simp only[bD,gu,or_false]at hr;rcases hr with rfl|rfl|rfl<;>simp only[]<;>omega
theorem ano{w:ak}{y:Nat}{a b c:Array aB}(h:w.a.j+1<y):∀p∈[(y,a),(w.a.j+1,b),(w.a.j,c)],p.1≠y+1:=fun r hr=>by
 simp only[bD,gu,or_false]at hr;rcases hr with rfl|rfl|rfl<;>simp only[]<;>omega
theorem adZ(l:List UInt8):((Ch l).a:Int)=(Ao l).bR:=by
 unfold Ch Ao;split
 ·simp[sS]
 ·have:=Ws (iV l).1.mP (l.G (iV l).1.dW)
  rw[bE];omega
theorem anp(l:List UInt8)(s d:fD):vG l s d =
 (if(Ao l).ok=false then([],3)else if ajO s d=false then([],1)else if s.h=true then if((Ch l).a:Int)>65535 then([],4)
 else(oF (iV l).1.dst (iV l).1.h (iV l).1.dM 34525++oD ⟨40,40+((Ch l).a:Int),64,false,0,if(iV l).1.mP=34525 then 41 else 4,s,d⟩++Ch l,0)
 else if 20+((Ch l).a:Int)>65535 then([],4)
  else(oF (iV l).1.dst (iV l).1.h (iV l).1.dM 2048++lS ⟨20,20+((Ch l).a:Int),0,0,false,true,64,if(iV l).1.mP=34525 then 41 else 4,s,d⟩++Ch l,0)):=by
 rw[adZ];unfold vG Ch Ao;by_cases h:(iV l).2≠0
 ·rw[if_pos h,if_pos h,if_pos (by rfl)]
 ·rw[if_neg h,if_neg h,if_neg h]
theorem agn(w:ak)(A:Option aV)(n c:Nat)(l:List UInt8)(s d:fD)(hnc:n<=c)(hc:c<=9223372036854775807/\n<=1000000)(hr:gG w w.a.j A n l):aR ah 207 #[.a A n c,.d s.ay,.d d.ay] w (ajP w (vG l s d)):=by
 have h0:=((Bx.start w).new s.ay 27).new d.ay 27;rw[show(w.alloc (.D s.ay 27)).a.j=w.a.j+1 by simp]at h0;have Z0:=ab h0;have CC:=ab (YX _ A n c l hnc hc (h0.Oh hr));have HW:=ab (anp l s d);clear h0 hr;go_enter Tryz.func207,Tryz.ntmps207;go_upto_region 1 with fail
 generalize(w.alloc (.D s.ay 27)).alloc (.D d.ay 27)=w0 at Z0 CC ⊢;obtain⟨k,hk⟩:=cB ((iV l).1);obtain⟨g,hg⟩:=cB (Ao l);obtain⟨pk,hpk⟩:∃q,q=Ch l:=⟨_,rfl⟩
 have HK:=ab hk;unfold avb at CC;rw[<-hk,<-hg,<-hpk]at CC HW;clear hk hg hpk;go_upto_region 2 with(go_at_call 99;(with_reducible refine CC.i.g ?_);rintro e w1 ⟨TA,tc,PA,pn,pc,rfl,hT,hP,hpc,anq,hb1⟩;have zn:=((Z0.i.go hb1).new qG.ay 108).new sS.ay 179;rw[pV]at zn;have hsz:=(Z0.i.go hb1).Z.lt;have ZN:=ab zn;have anj:=ZN.i.b1.S 0 15 (aU (Lc.J qG).symm);have Z2:=ab ((ZN.i.sub (L':=[(w1.a.j,qG.ay),(w1.a.j+1,sS.ay),(w.a.j+1,d.ay),(w.a.j,s.ay)]) (by simp)).put (aqI hsz) (k.cell TA tc).ay (by rw[Lc.J,Lc.J]));have ank:=Z2.i.b1.S 0 5 (aU (Tn.J sS).symm);have Z1:=ab ((Z2.i.sub (L':=[(w1.a.j+1,sS.ay),(w1.a.j,(k.cell TA tc).ay),(w.a.j+1,d.ay),(w.a.j,s.ay)]) (by simp)).put (ano hsz) g.ay (by rw[Tn.J,Tn.J]));have QM:=ab (lQ (lQ ((((aG w1.a.j w1).alloc (av _) (.D qG.ay 108)).alloc (by simp) (.D sS.ay 179))) w1.a.j 0 (k.cell TA tc).ay (av _)) (w1.a.j+1) 0 g.ay (Nat.le_succ _));have RT:=ab (hT.Y QM.i);have RP:=ab (hP.Y QM.i);have HPC:=ab (And.intro hpc anq);clear zn hpc anq;clear hb1 hT hP)
 have YL:=ab (show w1.a.j<=(gV (gV ((w1.alloc (.D qG.ay 108)).alloc (.D sS.ay 179)) w1.a.j 0 (k.cell TA tc).ay) (w1.a.j+1) 0 g.ay).a.j from QM.i.j);have HY:=ab hsz;clear anj ank ZN Z2 QM hsz;generalize gV (gV ((w1.alloc (.D qG.ay 108)).alloc (.D sS.ay 179)) w1.a.j 0 (k.cell TA tc).ay) (w1.a.j+1) 0 g.ay=w2 at Z1 RT RP YL ⊢;generalize w1.a.j=y8 at *;have hpn:=ab RP.i.len;have KS:=ab (fun(w':ak) (h:Bx [(y8+1,g.ay),(y8,(k.cell TA tc).ay),(w.a.j+1,d.ay),(w.a.j,s.ay)] w w')=>show w'.b ⟨y8+1,4,none⟩=some (.e g.ok)/\w'.b ⟨w.a.j,0,none⟩=some (.e s.h)/\w'.b ⟨w.a.j+1,0,none⟩=some (.e d.h)/\(sw (.c (some ⟨w.a.j,0,none⟩))).O ah w'=.ok (.d s.ay) w'/\(sw (.c (some ⟨w.a.j+1,0,none⟩))).O ah w'=.ok (.d d.ay) w'/\w'.b ⟨y8,13,none⟩=some (.b .a k.mP)/\(yU 108 (.c (some ⟨y8,0,none⟩))).O ah w'=.ok (.d (k.cell TA tc).ay) w' from⟨(h.Z.R.1 4).trans (Tn.amT g),(h.b3.R.1 0).trans (fD.qW s),(h.b2.R.1 0).trans (fD.qW d),h.b3.ah2,h.b2.ah2,(h.b1.R.1 13).trans (Lc.EH _),kLc.nR h.b1 (Lc.J _)⟩);obtain⟨f1,f2,f3,f4,f5,f6,f7⟩:=KS.i _ Z1.i;have CP:=ab adR;cases hok:g.ok
 ·rw[hok]at f1
  go_wp2;go_ret2;rw[HW.i,if_pos hok];exact⟨none,0,0,rfl,Ht _,Z1.i.X⟩
 rw[hok]at f1;have HWO:=ab (HW.i.trans (if_neg (by rw[hok];simp)));clear HW;have HFM:=ab (show ajO s d=(s.h==d.h&&(s.h||s.mO&&d.mO))from rfl);have NOF:=ab (show ajO s d=false->vG l s d=([],1)from fun h=>HWO.i.trans (if_pos h));cases h6:s.h<;>cases g6:d.h
 case false.true=>
  rw[h6]at f2 HFM;rw[g6]at f3 HFM;go_wp2;go_ret2;rw[NOF.i HFM.i];exact⟨none,0,0,rfl,Ht _,Z1.i.X⟩
 case true.false=>
  rw[h6]at f2 HFM;rw[g6]at f3 HFM;go_wp2;go_ret2;rw[NOF.i HFM.i];exact⟨none,0,0,rfl,Ht _,Z1.i.X⟩
 case true.true=>
  have HH6:=ab h6;have HG6:=ab g6;rw[h6]at f2 HFM;rw[g6]at f3 HFM;clear g6;have HWX:=ab (HWO.i.trans ((if_neg (by rw[HFM.i];simp)).trans (if_pos h6)));clear h6;have hty:(k.mP==34525)=true/\(if k.mP=34525 then(41:Int)else 4)=41\/(k.mP==34525)=false/\(if k.mP=34525 then(41:Int)else 4)=4:=by
   by_cases h:k.mP=34525
   ·exact .b ⟨by simpa using h,if_pos h⟩
   ·exact .a ⟨by simpa using h,if_neg h⟩
  by_cases hT:65535<pn
  ·have qt:decide ((65535:Int)<pn)=true:=by simp;omega
   go_wp2
   all_goals
    go_ret2;rw[HWX.i,if_pos (by have:=hpn.i;omega)];exact⟨none,0,0,rfl,Ht _,Z1.i.X⟩
  have qt:decide ((65535:Int)<pn)=false:=by simp;omega
  have NC:=ab (HWX.i.trans (if_neg (by have:=hpn.i;omega)));have q5:=jY (40+(pn:Int)) (by omega);rcases hty with⟨qty,hpp⟩|⟨qty,hpp⟩
  case' inl=>
   rw[hpp,hpn.i]at NC;clear hpp;have CS:=ab (fun W'=>Wr (Sx.mk 40 (40+pn) 64 false 0 41 s d) pn (by omega) rfl rfl (show(0:Int)<=41 by decide) (show(41:Int)<=255 by decide) (by rfl) (show(0:Int)<=64 by decide) (show(64:Int)<=255 by decide) rfl rfl HH6.i HG6.i W');go_upto_region 14 with(go_at_call 270;(with_reducible refine(CS.i _).g ?_);rintro e w5 ⟨A5,n5,c5,rfl,hn5,Uf,hb5⟩;have Z5:=ab (Z1.i.go hb5);have N5:=ab hn5;have R5:=ab (gG.jh Uf);have B5:=ab hb5;clear hn5 Uf hb5)
   clear f1 f2 f3 f4 f5 f6 f7 q5 qt qty;obtain⟨_,_,_,_,_,_,f7⟩:=KS.i _ Z5.i;obtain⟨sb,hsb⟩:∃l,l=oD (Sx.mk 40 (40+pn) 64 false 0 41 s d):=⟨_,rfl⟩
  case' inr=>
   rw[hpp,hpn.i]at NC;clear hpp;have CS:=ab (fun W'=>Wr (Sx.mk 40 (40+pn) 64 false 0 4 s d) pn (by omega) rfl rfl (show(0:Int)<=4 by decide) (show(4:Int)<=255 by decide) (by rfl) (show(0:Int)<=64 by decide) (show(64:Int)<=255 by decide) rfl rfl HH6.i HG6.i W');go_upto_region 14 with(go_at_call 270;(with_reducible refine(CS.i _).g ?_);rintro e w5 ⟨A5,n5,c5,rfl,hn5,Uf,hb5⟩;have Z5:=ab (Z1.i.go hb5);have N5:=ab hn5;have R5:=ab (gG.jh Uf);have B5:=ab hb5;clear hn5 Uf hb5)
   clear f1 f2 f3 f4 f5 f6 f7 q5 qt qty;obtain⟨_,_,_,_,_,_,f7⟩:=KS.i _ Z5.i;obtain⟨sb,hsb⟩:∃l,l=oD (Sx.mk 40 (40+pn) 64 false 0 4 s d):=⟨_,rfl⟩
  all_goals
   have HSL:=ab (show sb.a=40 by rw[hsb,Ri]);rw[<-hsb]at NC N5 R5;clear hsb;have BA:=ab (Below.alloc (aG w5.a.j w5) (av _) (.D (zy [⟨A5,n5,c5⟩,⟨PA,pn,pc⟩]) 56));have TG:=JM l;have TI:=KQ l;rw[<-HK.i]at TG TI;have RT5:=((RT.i.Y (B5.i.g YL.i)).Y (BA.i.g (aP YL.i B5.i.j))).lD (aP YL.i (aP B5.i.j BA.i.j));have RP5:=((RP.i.Y (B5.i.g YL.i)).Y (BA.i.g (aP YL.i B5.i.j))).lD (aP YL.i (aP B5.i.j BA.i.j));have CJ:=ab (MJ (k.cell TA tc) 34525 k.dM TG.1 TI TG.2 (by decide) (by decide) (by decide) _ RT5 (some ⟨w5.a.j,0,none⟩) 2 2 [⟨A5,n5,c5⟩,⟨PA,pn,pc⟩] [sb,pk] (RdS.lit w5 [⟨A5,n5,c5⟩,⟨PA,pn,pc⟩] 56) (.cons ((R5.i.Y BA.i).lD BA.i.j) (.cons RP5 .nil)) (by omega) (by have:=N5.i;have:=HSL.i;have:=HPC.i;simp[zw];omega));clear TG TI RT5 RP5;go_wp2_with (go_at_call 102;(with_reducible refine CJ.i.g ?_);rintro e w8 ⟨A8,n8,c8,rfl,hn8,ho8,Tm⟩;have N8:=ab hn8;have R8:=ab (gG.jh ho8);have B8:=ab Tm;clear hn8 ho8 Tm);go_ret2;have e2:oF k.dst k.h k.dM 34525++[sb,pk].flatten=oF k.dst k.h k.dM 34525++sb++pk:=by simp
   rw[NC.i];refine⟨A8,n8,c8,rfl,?_,Z5.i.X.trans ((BA.i.trans (B8.i.g BA.i.j)).g Z5.i.X.j)⟩;have:=R8.i
   rwa [show(k.cell TA tc).dst=k.dst from rfl,show(k.cell TA tc).h=k.h from rfl,e2]at this
 case false.false=>
  have HH6:=ab h6;have HG6:=ab g6;rw[h6]at f2 HFM;rw[g6]at f3 HFM;simp only[h6,g6]at KS;clear g6;have CP1:=ab (fun W=>CP.i s W);have CP2:=ab (fun W=>CP.i d W);cases hs:s.mO
  ·rw[hs]at CP1 HFM
   clear hs;go_wp2_with (go_at_call 269;(with_reducible refine(CP1.i _).g ?_);rintro e w4 ⟨rfl,hb⟩;have Z4:=ab (Z1.i.go hb);clear f1 f2 f3 f4 f5 f6 f7;obtain⟨f1,f2,f3,f4,f5,f6,f7⟩:=KS.i _ Z4.i;clear hb);go_ret2;rw[NOF.i HFM.i];exact⟨none,0,0,rfl,Ht _,Z4.i.X⟩
  cases hd:d.mO
  ·rw[hs]at CP1 HFM
   rw[hd]at CP2 HFM;clear hs hd;go_wp2_with (go_at_call 269;(first|((with_reducible refine(CP1.i _).g ?_);rintro e w4 ⟨rfl,hb⟩;have Z4:=ab (Z1.i.go hb);clear f1 f2 f3 f4 f5 f6 f7;obtain⟨f1,f2,f3,f4,f5,f6,f7⟩:=KS.i _ Z4.i;clear hb)|((with_reducible refine(CP2.i _).g ?_);rintro e w5 ⟨rfl,hb⟩;have Z5:=ab (Z4.i.go hb);clear f1 f2 f3 f4 f5 f6 f7;obtain⟨f1,f2,f3,f4,f5,f6,f7⟩:=KS.i _ Z5.i;clear hb)));go_ret2;rw[NOF.i HFM.i];exact⟨none,0,0,rfl,Ht _,Z5.i.X⟩
  have HS4:=ab (show(!s.h&&s.mO)=true by rw[HH6.i,hs];rfl);have HD4:=ab (show(!d.h&&d.mO)=true by rw[HG6.i,hd];rfl);rw[hs]at CP1 HFM;rw[hd]at CP2 HFM;clear hs hd;have HWX:=ab (HWO.i.trans ((if_neg (by rw[HFM.i];simp)).trans (if_neg (by rw[h6];simp))));clear h6;have hty:(k.mP==34525)=true/\(if k.mP=34525 then(41:Int)else 4)=41\/(k.mP==34525)=false/\(if k.mP=34525 then(41:Int)else 4)=4:=by
   by_cases h:k.mP=34525
   ·exact .b ⟨by simpa using h,if_pos h⟩
   ·exact .a ⟨by simpa using h,if_neg h⟩
  have q5:=jY (20+(pn:Int)) (by have:=HPC.i;omega);go_upto_region 7 with(go_at_call 269;(first|((with_reducible refine(CP1.i _).g ?_);rintro e w4 ⟨rfl,hb⟩;have Z4:=ab (Z1.i.go hb);have B4:=ab hb;clear f1 f2 f3 f4 f5 f6 f7;obtain⟨f1,f2,f3,f4,f5,f6,f7⟩:=KS.i _ Z4.i;clear hb)|((with_reducible refine(CP2.i _).g ?_);rintro e w5 ⟨rfl,hb⟩;have Z5:=ab (Z4.i.go hb);have B5:=ab (B4.i.trans (hb.g B4.i.j));clear f1 f2 f3 f4 f5 f6 f7;obtain⟨f1,f2,f3,f4,f5,f6,f7⟩:=KS.i _ Z5.i;clear hb)))
  by_cases hT:65535<20+pn
  ·have qt:decide ((65535:Int)<20+(pn:Int))=true:=by simp;omega
   go_wp2
   all_goals
    go_ret2;rw[HWX.i,if_pos (by have:=hpn.i;omega)];exact⟨none,0,0,rfl,Ht _,Z5.i.X⟩
  have qt:decide ((65535:Int)<20+(pn:Int))=false:=by simp;omega
  have NC:=ab (HWX.i.trans (if_neg (by have:=hpn.i;omega)));rcases hty with⟨qty,hpp⟩|⟨qty,hpp⟩
  case' inl=>
   rw[hpp,hpn.i]at NC;clear hpp;have CS:=ab (fun W'=>Rj (Fo.mk 20 (20+pn) 0 0 false true 64 41 s d) rfl (show(0:Int)<=0 by decide) (show(0:Int)<=255 by decide) (show 20<=20+(pn:Int)by omega) (show 20+(pn:Int)<=65535 by omega) (show(0:Int)<=0 by decide) (show(0:Int)<=65535 by decide) (show(0:Int)<=64 by decide) (show(64:Int)<=255 by decide) (show(0:Int)<=41 by decide) (show(41:Int)<=255 by decide) rfl HS4.i HD4.i W');go_upto_region 18 with(go_at_call 271;(with_reducible refine(CS.i _).g ?_);rintro e w7 ⟨A5,n5,c5,rfl,hn5,Uf,hb5⟩;have Z7:=ab (Z5.i.go hb5);have N5:=ab hn5;have R5:=ab (gG.jh Uf);have B7:=ab (B5.i.trans (hb5.g B5.i.j));clear hn5 Uf hb5)
   clear f1 f2 f3 f4 f5 f6 f7 q5 qt qty;obtain⟨_,_,_,_,_,_,f7⟩:=KS.i _ Z7.i;obtain⟨sb,hsb⟩:∃l,l=lS (Fo.mk 20 (20+pn) 0 0 false true 64 41 s d):=⟨_,rfl⟩
  case' inr=>
   rw[hpp,hpn.i]at NC;clear hpp;have CS:=ab (fun W'=>Rj (Fo.mk 20 (20+pn) 0 0 false true 64 4 s d) rfl (show(0:Int)<=0 by decide) (show(0:Int)<=255 by decide) (show 20<=20+(pn:Int)by omega) (show 20+(pn:Int)<=65535 by omega) (show(0:Int)<=0 by decide) (show(0:Int)<=65535 by decide) (show(0:Int)<=64 by decide) (show(64:Int)<=255 by decide) (show(0:Int)<=4 by decide) (show(4:Int)<=255 by decide) rfl HS4.i HD4.i W');go_upto_region 18 with(go_at_call 271;(with_reducible refine(CS.i _).g ?_);rintro e w7 ⟨A5,n5,c5,rfl,hn5,Uf,hb5⟩;have Z7:=ab (Z5.i.go hb5);have N5:=ab hn5;have R5:=ab (gG.jh Uf);have B7:=ab (B5.i.trans (hb5.g B5.i.j));clear hn5 Uf hb5)
   clear f1 f2 f3 f4 f5 f6 f7 q5 qt qty;obtain⟨_,_,_,_,_,_,f7⟩:=KS.i _ Z7.i;obtain⟨sb,hsb⟩:∃l,l=lS (Fo.mk 20 (20+pn) 0 0 false true 64 4 s d):=⟨_,rfl⟩
  all_goals
   have HSL:=ab (show sb.a=20 by rw[hsb,MI]);rw[<-hsb]at NC N5 R5;clear hsb;have BA:=ab (Below.alloc (aG w7.a.j w7) (av _) (.D (zy [⟨A5,n5,c5⟩,⟨PA,pn,pc⟩]) 56));have TG:=JM l;have TI:=KQ l;rw[<-HK.i]at TG TI;have RT5:=((RT.i.Y (B7.i.g YL.i)).Y (BA.i.g (aP YL.i B7.i.j))).lD (aP YL.i (aP B7.i.j BA.i.j));have RP5:=((RP.i.Y (B7.i.g YL.i)).Y (BA.i.g (aP YL.i B7.i.j))).lD (aP YL.i (aP B7.i.j BA.i.j));have CJ:=ab (MJ (k.cell TA tc) 2048 k.dM TG.1 TI TG.2 (by decide) (by decide) (by decide) _ RT5 (some ⟨w7.a.j,0,none⟩) 2 2 [⟨A5,n5,c5⟩,⟨PA,pn,pc⟩] [sb,pk] (RdS.lit w7 [⟨A5,n5,c5⟩,⟨PA,pn,pc⟩] 56) (.cons ((R5.i.Y BA.i).lD BA.i.j) (.cons RP5 .nil)) (by omega) (by have:=N5.i;have:=HSL.i;have:=HPC.i;simp[zw];omega));clear TG TI RT5 RP5;go_wp2_with (go_at_call 102;(with_reducible refine CJ.i.g ?_);rintro e w8 ⟨A8,n8,c8,rfl,hn8,ho8,Tm⟩;have N8:=ab hn8;have R8:=ab (gG.jh ho8);have B8:=ab Tm;clear hn8 ho8 Tm);go_ret2;have e2:oF k.dst k.h k.dM 2048++[sb,pk].flatten=oF k.dst k.h k.dM 2048++sb++pk:=by simp
   rw[NC.i];refine⟨A8,n8,c8,rfl,?_,Z7.i.X.trans ((BA.i.trans (B8.i.g BA.i.j)).g Z7.i.X.j)⟩;have:=R8.i
   rwa [show(k.cell TA tc).dst=k.dst from rfl,show(k.cell TA tc).h=k.h from rfl,e2]at this
end
section
attribute [local go_sem high] iR jI
theorem ajZ(p:Int):0<=(if p=4 then(2048:Int)else if p=41 then 34525 else 0)/\(if p=4 then(2048:Int)else if p=41 then 34525 else 0)<=65535/\oC (if p=4 then(2048:Int)else if p=41 then 34525 else 0)=false:=by
 split
 ·decide
 ·split<;>decide
def Dt(p:Int):Int:=if p=4 then 2048 else if p=41 then 34525 else 0
theorem ad1(p:Int)(w:ak):aR ah 100 #[.b .a p] w fun e w'=>e=.a (.b .a (Dt p))/\w=w':=by
 have H:=ab (show Dt p=if p=4 then 2048 else if p=41 then 34525 else 0 from rfl);go_enter Tryz.func100,Tryz.ntmps100;by_cases h1:p=4
 ·have q:(p==4)=true:=by simp[h1]
  have HH:=ab (H.i.trans (if_pos h1));clear h1;go_wp2;go_ret;exact⟨by rw[HH.i];rfl,rfl⟩
 by_cases h2:p=41
 ·have q:(p==4)=false:=by simp[h1]
  have q2:(p==41)=true:=by simp[h2]
  have HH:=ab (H.i.trans ((if_neg h1).trans (if_pos h2)));clear h1 h2;go_wp2;go_ret;exact⟨by rw[HH.i];rfl,rfl⟩
 ·have q:(p==4)=false:=by simp[h1]
  have q2:(p==41)=false:=by simp[h2]
  have HH:=ab (H.i.trans ((if_neg h1).trans (if_neg h2)));clear h1 h2;go_wp2;go_ret;exact⟨by rw[HH.i];rfl,rfl⟩
def ad2(l:List UInt8):List UInt8×Int:=
 if(Ao l).ok=false\/(Ao l).mW=true then([],3)
 else if(oG (Dt (Ao l).aN) ((Ch l).G (Ao l).head.e)).ok=false then([],3)
 else(oF (iV l).1.dst (iV l).1.h (iV l).1.dM (Dt (Ao l).aN)++((Ch l).G (Ao l).head.e).E (oG (Dt (Ao l).aN) ((Ch l).G (Ao l).head.e)).bR.e,0)
theorem aqJ{l:List UInt8}(h:(Ao l).ok=true):20<=(Ao l).head/\(Ao l).head<=(Ch l).a:=by
 rw[adZ];unfold Ao at h ⊢;by_cases h1:(iV l).2≠0
 ·rw[if_pos h1]at h;cases h
 ·rw[if_neg h1]at h ⊢
  have:=abv h;exact⟨this.2.1,this.2.2.1⟩
theorem ah6{w:ak}{base n sz k c:Nat}{e:bL}{A:Option aV}{xs:List aB}(h:w.c base e sz (.a A n c) k xs):n<=c/\c<=9223372036854775807:=by
 rcases h.2 with⟨h1,h2⟩|⟨g,cap,cur,h1,_,_,h4,h5,_⟩
 ·injection h1 with _ e1 e2
  omega
 ·injection h1 with _ e1 e2
  have:maxLen=9223372036854775807:=rfl;omega
def azk(W:ak)(r:List UInt8×Int)(e:lJ)(W':ak):Prop:=∃A n c,e=.a (.K #[.a A n c,.b .a r.2])/\gG W' W'.a.j A n r.1/\n<=c/\aM W.a.j W W'
theorem abB(w:ak)(A:Option aV)(n c:Nat)(l:List UInt8)(hnc:n<=c)(hc:c<=9223372036854775807/\n<=1000000)(hr:gG w w.a.j A n l):aR ah 38 #[.a A n c] w (azk w (ad2 l)):=by
 have CC:=ab (YX _ A n c l hnc hc hr);have HV:=ab (show ad2 l=_ from rfl);have HAT:=ab (aqJ (l:=l));unfold ad2 at HV;clear hr;go_enter Tryz.func38,Tryz.ntmps38;obtain⟨k,hk⟩:=cB ((iV l).1);obtain⟨g,hg⟩:=cB (Ao l);obtain⟨pk,hpk⟩:∃q,q=Ch l:=⟨_,rfl⟩
 have HK:=ab hk;unfold avb at CC;rw[<-hk,<-hg,<-hpk]at CC;rw[<-hg,<-hpk]at HAT;have HVV:=ab (show ad2 l=if g.ok=false\/g.mW=true then([],3)else if(oG (Dt g.aN) (pk.G g.head.e)).ok=false then([],3)else(oF k.dst k.h k.dM (Dt g.aN)++(pk.G g.head.e).E (oG (Dt g.aN) (pk.G g.head.e)).bR.e,0)by rw[hk,hg,hpk];rfl);clear hk hg hpk HV;go_upto_region 2 with(go_at_call 99;(with_reducible refine CC.i.g ?_);rintro e w1 ⟨TA,tc,PA,pn,pc,rfl,hT,hP,hpc,anq,hb1⟩;have zn:=((Bx.start w1).new qG.ay 108).new sS.ay 179;rw[pV]at zn;have ZN:=ab zn;have anj:=ZN.i.b1.S 0 15 (aU (Lc.J qG).symm);have Z2:=ab (ZN.i.swap.put (fun r hr=>by rw[fO.1 hr];exact Nat.succ_ne_self _) (k.cell TA tc).ay (by rw[Lc.J,Lc.J]));have ank:=Z2.i.b1.S 0 5 (aU (Tn.J sS).symm);have Z1:=ab (Z2.i.swap.put (fun r hr=>by rw[fO.1 hr];exact(Nat.succ_ne_self _).symm) g.ay (by rw[Tn.J,Tn.J]));have RT:=ab (hT.Y Z1.i.X);have RP:=ab (hP.Y Z1.i.X);have HPC:=ab (And.intro hpc anq);have B1:=ab hb1;clear zn hpc anq hT hP hb1)
 clear anj ank ZN Z2;generalize gV (gV ((w1.alloc (.D qG.ay 108)).alloc (.D sS.ay 179)) w1.a.j 0 (k.cell TA tc).ay) (w1.a.j+1) 0 g.ay=w2 at Z1 RT RP ⊢;have BW:=ab (B1.i.trans (Z1.i.X.g B1.i.j));have SG:=ab B1.i.j;have HS2:=ab Z1.i.X.j;have HTN:=ab RP.i.len;clear B1;generalize w1.a.j=y at *;have KS:=ab (fun(w':ak) (h:dP w' (y+1) g.ay)=>show w'.b ⟨y+1,0,none⟩=some (.b .a g.head)/\w'.b ⟨y+1,2,none⟩=some (.b .a g.aN)/\w'.b ⟨y+1,3,none⟩=some (.e g.mW)/\w'.b ⟨y+1,4,none⟩=some (.e g.ok)from⟨(h.R.1 0).trans (Tn.Ee g),(h.R.1 2).trans (Tn.xJ g),(h.R.1 3).trans (Tn.Kz g),(h.R.1 4).trans (Tn.amT g)⟩);obtain⟨f0,f2,f3,f4⟩:=KS.i _ Z1.i.Z;cases hok:g.ok
 ·rw[hok]at f4
  go_wp2;go_ret2;rw[HVV.i,if_pos (.b hok)];exact⟨none,0,0,rfl,Ht _,av _,BW.i⟩
 rw[hok]at f4;cases hfr:g.mW
 case true=>
  rw[hfr]at f3;go_wp2;go_ret2;rw[HVV.i,if_pos (.a hfr)];exact⟨none,0,0,rfl,Ht _,av _,BW.i⟩
 rw[hfr]at f3;have HVW:=ab (HVV.i.trans (if_neg (by rw[hok,hfr];simp)));obtain⟨hd1,hd2⟩:=HAT.i hok;obtain⟨hd,hhd⟩:∃n:Nat,g.head=(n:Int):=⟨g.head.e,by omega⟩
 rw[hhd]at HVW f0 hd2;rw[cK]at HVW;have hd3:(hd:Int)<=pn:=by have:=HTN.i;omega
 have CI:=ab (fun W=>ad1 g.aN W);obtain⟨kk,hkk⟩:∃q,q=Dt g.aN:=⟨_,rfl⟩
 have HKK:=ab hkk;rw[<-hkk]at HVW CI;have CR:=ab (Wq w2 kk (sH PA hd pc 1) (pn-hd) (pc-hd) (pk.G hd) (by have:=HPC.i;omega) (by have:=HPC.i;omega) ((RP.i.lD HS2.i).yt (by omega) HPC.i.1));obtain⟨m,hm⟩:=cB (oG kk (pk.G hd));have HTO:=ab (Ws kk (pk.G hd));rw[<-hm]at HVW CR HTO;clear hkk hm hhd hd1 hd2 hok hfr HVV HAT;go_upto_region 7 with(first|(go_at_call 100;(with_reducible refine(CI.i _).g ?_);rintro e w3 ⟨rfl,rfl⟩)|(go_at_call 101;(with_reducible refine CR.i.g ?_);rintro e w4 ⟨rfl,hb⟩;have Z4:=ab (((Bx.start w2).go hb).new m.ay 179);have B4:=ab hb;clear hb))
 clear f0 f2 f3 f4;have Z6:=ab ((Z1.i.go B4.i).new m.ay 179);have HS4:=ab B4.i.j;have B5:=ab (B4.i.alloc B4.i.j (.D m.ay 179));clear Z4;generalize w4.alloc (.D m.ay 179)=w5 at Z6 B5 ⊢;generalize w4.a.j=y9 at *;have g4:=(Z6.i.Z.R.1 4).trans (Tn.amT m);cases hmo:m.ok
 ·rw[hmo]at g4
  go_wp2;go_ret2;rw[HVW.i,if_pos hmo];exact⟨none,0,0,rfl,Ht _,av _,BW.i.trans (B5.i.g (aP BW.i.j (av _)))⟩
 rw[hmo]at g4;have HVX:=ab (HVW.i.trans (if_neg (by rw[hmo];simp)));clear hmo HVW;obtain⟨T,hT⟩:∃n:Nat,m.bR=(n:Int):=⟨m.bR.e,by have:=HTO.i;omega⟩
 rw[hT]at HVX;rw[cK]at HVX;have HMT:=ab hT;have hT2:T<=pn-hd:=by have:=HTO.i.2;rw[hT,fZ,HTN.i]at this;omega
 have g1:=(Z6.i.Z.R.1 1).trans ((Tn.vX m).trans (by rw[hT]));have KL:=ab (fun(w':ak) (h:Bx [(y9,m.ay),(y+1,g.ay),(y,(k.cell TA tc).ay)] w1 w')=>show(yU 108 (.c (some ⟨y,0,none⟩))).O ah w'=.ok (.d (k.cell TA tc).ay) w'/\w'.b ⟨y9,1,none⟩=some (.b .a (T:Nat))from⟨kLc.nR h.b2 (Lc.J _),(h.Z.R.1 1).trans ((Tn.vX m).trans (by rw[HMT.i]))⟩);have hT3:(T:Int)<=((pc-hd:Nat):Int):=by have:=HPC.i;omega
 have hKO:=ajZ g.aN;rw[show(if g.aN=4 then(2048:Int)else if g.aN=41 then 34525 else 0)=kk from HKK.i.symm]at hKO;have TG:=JM l;have TI:=KQ l;rw[<-HK.i]at TG TI;have BA:=ab (Below.alloc (aG w5.a.j w5) (av _) (.D #[bB (sH PA hd pc 1) T (pc-hd)] 56)).drew;have HS5:=ab B5.i.j;have RT5:=((RT.i.Y (B5.i.g HS2.i)).Y (BA.i.g (aP HS2.i HS5.i))).lD (aP HS2.i (aP HS5.i BA.i.j));have RL:=ab (((RP.i.Y (B5.i.g HS2.i)).lD (aP HS2.i HS5.i)).yt (z:=hd) (c:=pc) (by omega) HPC.i.1);have RL2:=ab (RL.i.upN hT2);have RS:=RdS.lit w5 [⟨sH PA hd pc 1,T,pc-hd⟩] 56;rw[show zy [⟨sH PA hd pc 1,T,pc-hd⟩] = #[bB (sH PA hd pc 1) T (pc-hd)]from rfl]at RS;have CJ:=ab (MJ (k.cell TA tc) kk k.dM TG.1 TI TG.2 hKO.1 hKO.2.1 hKO.2.2 _ RT5 (some ⟨w5.a.j,0,none⟩) 1 1 [⟨sH PA hd pc 1,T,pc-hd⟩] [(pk.G hd).E T] RS.drew (.cons ((RL2.i.Y BA.i).lD BA.i.j) .nil) (by omega) (by have:=HPC.i;simp[zw];omega));clear TG TI RT5 RS hKO hT;go_upto_region 9 with fail
 obtain⟨k1,k2⟩:=KL.i _ Z6.i;go_region_held_law (fun w'=>(yU 108 (.c (some ⟨y,0,none⟩))).O ah w'=.ok (.d (k.cell TA tc).ay) w'/\w'.b ⟨y9,1,none⟩=some (.b .a (T:Nat)))
  (first|exact KL.i _ Z6.i.drew|exact KL.i _ (Z6.i.drew.alloc _)|exact KL.i _ (Z6.i.alloc _).drew|exact KL.i _ Z8.i|go_keep)
  (first|(go_at_call 102;(with_reducible refine CJ.i.g ?_);rintro e w8 ⟨A8,n8,c8,rfl,hn8,ho8,Tm⟩;have N8:=ab hn8;have R8:=ab (gG.jh ho8);have C8:=ab (ah6 ho8);have B8:=ab Tm;have Z8:=ab ((Z6.i.alloc (.D #[bB (sH PA hd pc 1) T (pc-hd)] 56)).drew.go Tm);clear hn8 ho8 Tm))
 go_wp2;go_ret2;rw[HVX.i];refine⟨A8,n8,c8,rfl,?_,C8.i.1,BW.i.trans ((B5.i.trans (BA.i.trans (B8.i.g BA.i.j) |>.g HS5.i)).g BW.i.j)⟩;have:=R8.i;rw[show(k.cell TA tc).dst=k.dst from rfl,show(k.cell TA tc).h=k.h from rfl,show [(pk.G hd).E T].flatten=(pk.G hd).E T by simp]at this;exact this
end
def Gn(l m:List UInt8)(a b:Nat):Prop:=∀j,a<=j->j<b->m.b j 0=l.b j 0
section
variable {l m:List UInt8} {a b:Nat}
theorem Gn.two(h:Gn l m a b){k:Nat}(h1:a<=k)(h2:k+2<=b):dF m k=dF l k:=by
 unfold dF;rw[h k (by omega) (by omega),h (k+1) (by omega) (by omega)]
theorem Gn.lK(h:Gn l m a b){k:Nat}(h1:a<=k)(h2:k<b):lK m k=lK l k:=by
 unfold Go.Proofs.YtkjojjopamaoiaaGreat.lK;rw[h k h1 h2]
theorem kX(l:List UInt8)(z j:Nat):(l.G z).b j 0=l.b (z+j) 0:=by simp[au]
theorem kE(l:List UInt8)(z j:Nat):(l.E z).b j 0=if j<z then l.b j 0 else 0:=by
 simp only[au,jc];split<;>rfl
theorem qI(l m:List UInt8)(j:Nat):(l++m).b j 0=if j<l.a then l.b j 0 else m.b (j-l.a) 0:=by
 simp only[au,ko];split<;>rfl
theorem Gn.G(h:Gn l m a b)(z:Nat):Gn (l.G z) (m.G z) (a-z) (b-z):=fun j h1 h2=>by
 rw[kX,kX];exact h _ (by omega) (by omega)
theorem Gn.E(h:Gn l m a b)(z:Nat):Gn (l.E z) (m.E z) a b:=fun j h1 h2=>by
 rw[kE,kE,h j h1 h2]
theorem Gn.sub(h:Gn l m a b){c d:Nat}(h1:a<=c)(h2:d<=b):Gn l m c d:=fun j h3 h4=>h j (by omega) (by omega)
theorem aj0{a b:List UInt8}(h:a.a=b.a)(g:∀j,j<a.a->a.b j 0=b.b j 0):a=b:=by
 apply List.ext_getElem h;intro i h1 h2;have:=g i h1
 rwa [au,au,aC h1,aC h2]at this
theorem ad3{k:Nat}{a b:List UInt8}(g:∀j,j<k->a.b j 0=b.b j 0):lZ k a=lZ k b:=by
 apply AB;intro i hi;simp only[lZ,oK];exact g i hi
end
theorem abC{l:List UInt8}:∀(f k:Nat)(dM:List Tg),(rF l f k dM).2=0->k<=(rF l f k dM).1.dW
 | 0,k,dM,h=>by
   cases ht:oC (dF l (k-2):Nat)with
   | false=>rw[ny ht];exact av _
   | true=>rw[wL ht]at h;cases h
 | f+1,k,dM,h=>by
   cases ht:oC (dF l (k-2):Nat)with
   | false=>rw[ny ht];exact av _
   | true=>
     by_cases h4:l.a<k+4
     ·rw[sU ht h4]at h;cases h
     ·rw[sj ht h4]at h⊢;have:=abC f (k+4) _ h;omega
theorem ad4{l m:List UInt8}:∀(f k:Nat)(dM:List Tg),14<=k->(rF l f k dM).2=0->Gn l m 12 (rF l f k dM).1.dW->(rF l f k dM).1.dW<=m.a ->
 rF m f k dM=(⟨lZ 6 m,lZ 6 (m.G 6),(rF l f k dM).1.dM,(rF l f k dM).1.mP,(rF l f k dM).1.dW⟩,0)
 | 0,k,dM,hk,h,ha,hm=>by
   cases ht:oC (dF l (k-2):Nat)with
   | false=>
     rw[ny ht]at ha ⊢;have e:=ha.two (k:=k-2) (by omega) (by simp only;omega);rw[ny (by rw[e];exact ht),e]
   | true=>rw[wL ht]at h;cases h
 | f+1,k,dM,hk,h,ha,hm=>by
   cases ht:oC (dF l (k-2):Nat)with
   | false=>
     rw[ny ht]at ha ⊢;have e:=ha.two (k:=k-2) (by omega) (by simp only;omega);rw[ny (by rw[e];exact ht),e]
   | true=>
     by_cases h4:l.a<k+4
     ·rw[sU ht h4]at h;cases h
     ·rw[sj ht h4]at h ha hm ⊢
      have hg:=abC f (k+4) _ h;have e:=ha.two (k:=k-2) (by omega) (by omega);have e2:=ha.two (k:=k) (by omega) (by omega);rw[sj (by rw[e];exact ht) (by omega),e,e2];exact ad4 f (k+4) _ (by omega) h ha hm
theorem ah7{l m:List UInt8}(h:(iV l).2=0)(ha:Gn l m 12 (iV l).1.dW)(hm:(iV l).1.dW<=m.a):
 iV m=(⟨lZ 6 m,lZ 6 (m.G 6),(iV l).1.dM,(iV l).1.mP,(iV l).1.dW⟩,0):=by
 have h14:=JJ h;unfold iV at h ha hm h14 ⊢;by_cases hl:l.a<14
 ·rw[if_pos hl]at h;cases h
 rw[if_neg hl]at h ha hm h14 ⊢;rw[if_neg (by omega)];exact ad4 2 14 [] (by omega) h ha hm
theorem Cu{l:List UInt8}:wU l=0↔20<=l.a/\lK l 0/16=4/\20<=qV l/\qV l<=l.a/\qV l<=dF l 2/\dF l 2<=l.a/\uo (l.E (qV l))=0:=by
 unfold wU;constructor
 ·intro h
  repeat(split at h;(first|cases h|skip))
  all_goals(first|omega|simp_all)
  all_goals omega
 ·rintro⟨h1,h2,h3,h4,h5,h6,h7⟩
  rw[if_neg (by omega),if_neg (by omega),if_neg (by omega),if_neg (by omega),if_neg (by omega),if_neg (by simpa using h7)]
theorem abD(l:List UInt8)(k:Nat)(j:Nat)(hj:j<2):(QN (dF l k)).b j 0=l.b (k+j) 0:=by
 have h1:=(l.b k 0).a;have h2:=(l.b (k+1) 0).a;rcases(show j=0\/j=1 by omega)with rfl|rfl
 ·show aJ (dF l k/256)=_
  unfold dF;rw[show(256*(l.b k 0).e+(l.b (k+1) 0).e)/256=(l.b k 0).e by omega];simp
 ·show aJ (dF l k%256)=_
  unfold dF;rw[show(256*(l.b k 0).e+(l.b (k+1) 0).e)%256=(l.b (k+1) 0).e by omega];simp
theorem Rk{l m nw:List UInt8}{c hd z:Nat}(hz:12<=z)(hdl:z+nw.a<=hd)(hm:hd<=m.a)(hl:hd<=l.a)(a1:Gn l m 0 10)(a2:Gn l m 12 z)(a3:Gn l m (z+nw.a) hd)(hn:∀j,j<nw.a->m.b (z+j) 0=nw.b j 0)(hc:∀j,j<2->m.b (10+j) 0=(QN c).b j 0):
 m.E hd=l.E 10++(QN c++((l.G 12).E (z-12)++(nw++(l.E hd).G (z+nw.a)))):=by
 apply aj0
 ·simp[QN];omega
 ·intro j hj
  have hj:j<hd:=by simp at hj;omega
  have l1:(l.E 10).a=10:=by simp;omega
  have l2:(QN c).a=2:=rfl;have l3:((l.G 12).E (z-12)).a=z-12:=by simp;omega
  rw[kE,if_pos hj,qI,l1,qI,l2,qI,l3,qI,kE,kE,kX,kX,kE];by_cases c1:j<10
  ·rw[if_pos c1,if_pos c1];exact a1 j (by omega) c1
  rw[if_neg c1];by_cases c2:j-10<2
  ·rw[if_pos c2,<-hc _ c2];congr 1;omega
  rw[if_neg c2];by_cases c3:j-10-2<z-12
  ·rw[if_pos c3,if_pos c3,a2 j (by omega) (by omega)];congr 1;omega
  rw[if_neg c3];by_cases c4:j-10-2-(z-12)<nw.a
  ·rw[if_pos c4,<-hn _ c4];congr 1;omega
  rw[if_neg c4,if_pos (by omega),a3 j (by omega) hj];congr 1;omega
theorem aj1{l:List UInt8}{hd z k:Nat}(hz:12<=z)(hdl:z+k<=hd)(hl:hd<=l.a):
 l.E hd=l.E 10++(QN (dF l 10)++((l.G 12).E (z-12)++((l.G z).E k++(l.E hd).G (z+k)))):=by
 have e:((l.G z).E k).a=k:=by simp;omega
 have:=Rk (l:=l) (m:=l) (nw:=(l.G z).E k) (c:=dF l 10) (hd:=hd) (z:=z) hz (by omega) hl hl (fun _ _ _=>rfl) (fun _ _ _=>rfl) (fun _ _ _=>rfl) (fun j hj=>by rw[kE,if_pos (by omega),kX]) (fun j hj=>(abD l 10 j hj).symm)
 rwa [e]at this
theorem aj2{l:List UInt8}(h:20<=l.a)(h4:lK l 0/16=4):Ai (l.E 10)≠0:=by
 match l,h with
 | a::b::t,_=>
   rw[show(a::b::t).E 10=a::b::t.E 8 from rfl,zm];have:lK (a::b::t) 0=a.e:=rfl;omega
theorem aqK{l m nw:List UInt8}{z:Nat}(hz:z=12\/z=16)(ok:wU l=0)(hn:nw.a=4)(hl:dF l 2<=m.a)(a1:Gn l m 0 10)(a2:Gn l m 12 z)(a3:Gn l m (z+4) (qV l))(hm:∀j,j<4->m.b (z+j) 0=nw.b j 0)
 (hc:∀j,j<2->m.b (10+j) 0=(QN (kT (dF l 10) ((l.G z).E 4) nw)).b j 0):wU m=0/\qV m=qV l/\vZ m={vZ l with h:=xK (m.G 12),dst:=xK (m.G 16)}:=by
 rw[Cu]at ok;obtain⟨h1,h2,h3,h4,h5,h6,h7⟩:=ok;have b0:=a1.lK (k:=0) (by omega) (by omega);have hh:qV m=qV l:=by unfold qV;rw[b0]
 have t2:=a1.two (k:=2) (by omega) (by omega);refine⟨?_,hh,?_⟩
 ·rw[Cu,hh,t2,b0]
  refine⟨by omega,h2,h3,by omega,h5,hl,?_⟩;rw[Rk (l:=l) (nw:=nw) (c:=kT (dF l 10) ((l.G z).E 4) nw) (z:=z) (by omega) (by omega) (by omega) h4 a1 a2 (by rw[hn];exact a3) (by rw[hn];exact hm) hc];rw[aj1 (z:=z) (k:=4) (by omega) (by omega) h4]at h7;rw[hn];exact al7 (JL _ _) (by simp;omega) (by simp;omega) (by simp;omega) (by simp;omega) (aj2 h1 h2) h7
 ·unfold vZ
  rw[hh,t2,a1.lK (k:=1) (by omega) (by omega),a1.two (k:=4) (by omega) (by omega),a1.two (k:=6) (by omega) (by omega),a1.lK (k:=8) (by omega) (by omega),a1.lK (k:=9) (by omega) (by omega)]
theorem agp{p:Int}{r:List UInt8}(h:sG p=true):8<=mX p r:=by
 unfold sG at h;rw[decide_eq_true_eq]at h;unfold mX;split
 ·omega
 ·split
  ·omega
  ·split<;>omega
theorem ad5{p:Int}{r s:List UInt8}(h:lK s 1=lK r 1):mX p s=mX p r:=by unfold mX;rw[h]
theorem YZ(f:Nat):∀(x:Sx)(r:List UInt8),(wm f x r).2=0->x.head<=(wm f x r).1.head:=by
 induction f with
 | zero=>
   intro x r h;by_cases hx:x.mW=true\/sG x.aN=false
   ·rw[wo hx];exact Int.le_refl _
   ·have hf:x.mW=false:=by simpa using fun e=>hx (.b e)
    have he:sG x.aN=true:=by simpa using fun e=>hx (.a e)
    rw[KI hf he]at h;cases h
 | succ f ih=>
   intro x r h;by_cases hx:x.mW=true\/sG x.aN=false
   ·rw[wo hx];exact Int.le_refl _
   ·have hf:x.mW=false:=by simpa using fun e=>hx (.b e)
    have he:sG x.aN=true:=by simpa using fun e=>hx (.a e)
    by_cases hs:r.a<8\/r.a<mX x.aN r
    ·rw[Dp hf he hs]at h;cases h
    ·rw[FP hf he hs]at h ⊢
     have:=ih _ _ h;simp only at this;omega
theorem anr(f:Nat):∀(x:Sx)(r s:List UInt8)(sc ds:fD)(n:Nat),(wm f x r).2=0->s.a=r.a->(wm f x r).1.head-x.head<=n->Gn r s 0 n ->
 wm f {x with h:=sc,dst:=ds} s=({(wm f x r).1 with h:=sc,dst:=ds},0):=by
 induction f with
 | zero=>
   intro x r s sc ds n h hl hn ha;by_cases hx:x.mW=true\/sG x.aN=false
   ·rw[wo hx,wo (x:={x with h:=sc,dst:=ds}) hx]
   ·have hf:x.mW=false:=by simpa using fun e=>hx (.b e)
    have he:sG x.aN=true:=by simpa using fun e=>hx (.a e)
    rw[KI hf he]at h;cases h
 | succ f ih=>
   intro x r s sc ds n h hl hn ha;by_cases hx:x.mW=true\/sG x.aN=false
   ·rw[wo hx,wo (x:={x with h:=sc,dst:=ds}) hx]
   ·have hf:x.mW=false:=by simpa using fun e=>hx (.b e)
    have he:sG x.aN=true:=by simpa using fun e=>hx (.a e)
    by_cases hs:r.a<8\/r.a<mX x.aN r
    ·rw[Dp hf he hs]at h;cases h
    ·rw[FP hf he hs]at h hn ⊢
     have hh:=YZ f _ _ h;simp only at hh;have h8:=agp (r:=r) he;have e1:=ad5 (p:=x.aN) (ha.lK (k:=1) (by omega) (by omega));rw[FP (x:={x with h:=sc,dst:=ds}) hf he (by simp only;rw[e1,hl];exact hs)];simp only;rw[e1,ha.lK (k:=0) (by omega) (by omega),show EI s=EI r by unfold EI;rw[ha.lK (k:=2) (by omega) (by omega),ha.lK (k:=3) (by omega) (by omega)]];refine ih _ _ _ sc ds (n-mX x.aN r) h (by simp;omega) (by simp only;omega) ?_;have:=ha.G (mX x.aN r)
     rwa [Nat.zero_sub]at this
theorem ah8{l m:List UInt8}{z:Nat}(hz:z=8\/z=24)(ok:(yO l).2=0)(hl:40+dF l 4<=m.a)(a1:Gn l m 0 8)(a3:Gn l m 40 (yO l).1.head.e):
 yO m=({(yO l).1 with h:=Dn (m.G 8),dst:=Dn (m.G 24)},0):=by
 unfold yO at ok a3 ⊢;by_cases h1:l.a<40
 ·rw[if_pos h1]at ok;cases ok
 rw[if_neg h1]at ok a3 ⊢;by_cases h2:lK l 0/16≠6
 ·rw[if_pos h2]at ok;cases ok
 rw[if_neg h2]at ok a3 ⊢;by_cases h3:l.a<40+dF l 4
 ·rw[if_pos h3]at ok;cases ok
 rw[if_neg h3]at ok a3 ⊢;have t4:=a1.two (k:=4) (by omega) (by omega);rw[if_neg (by omega),if_neg (by rw[a1.lK (k:=0) (by omega) (by omega)];exact h2),t4,if_neg (by omega)];have e:Q8 m={Q8 l with h:=Dn (m.G 8),dst:=Dn (m.G 24)}:=by
  unfold Q8;rw[t4,a1.lK (k:=7) (by omega) (by omega),a1.lK (k:=6) (by omega) (by omega)]
 rw[e];refine anr 8 _ _ _ _ _ ((wm 8 (Q8 l) ((l.E (40+dF l 4)).G 40)).1.head.e-40) ok (by simp;omega) ?_ ?_
 ·have:=YZ 8 _ _ ok
  have h40:(Q8 l).head=40:=rfl;omega
 ·have:=(a3.E (40+dF l 4)).G 40
  rwa [J9]at this
theorem aqL{l m:List UInt8}{p:Int}(hp:p=6\/p=17)(ok:(FM p l).2=0)(hl:m.a=l.a)(a4:Gn l m 4 (if p=6 then 16 else 6)):
 FM p m=({(FM p l).1 with kg:=dF m 0,iG:=dF m 2},0):=by
 have e0:uF p l=0:=by
  unfold FM at ok;split at ok
  ·assumption
  ·rename_i h;exact absurd ok h
 have eg:pG p m={pG p l with kg:=dF m 0,iG:=dF m 2}:=by
  unfold pG;split
  ·rename_i h6
   rw[if_pos h6]at a4;rw[a4.lK (k:=13) (by omega) (by omega),a4.lK (k:=12) (by omega) (by omega),hl]
  ·rename_i h6
   rw[if_neg h6]at a4;rw[a4.two (k:=4) (by omega) (by omega)]
 have e1:uF p m=0:=by
  unfold uF at e0 ⊢;rw[eg,hl];exact e0
 rw[Mx e1,Mx e0,eg]
theorem ML{l:List UInt8}(h:(lW l).kind=0):(iV l).2=0/\((iV l).1.mP=2048\/(iV l).1.mP=34525)/\(jO l).2=0/\(jO l).1.mW=false/\((jO l).1.aN=6\/(jO l).1.aN=17)/\(Bu l).2=0 /\
 lW l=⟨0,⟨(jO l).1.h,(jO l).1.dst,(jO l).1.aN,(Bu l).1.kg,(Bu l).1.iG⟩,(Bu l).1.sW,(iV l).1.dW,(iV l).1.dW+(jO l).1.head,(iV l).1.dW+(jO l).1.bR⟩:=by
 unfold lW at h ⊢;by_cases h1:(iV l).2≠0
 ·rw[if_pos h1]at h;cases h
 rw[if_neg h1]at h ⊢;by_cases h2:(iV l).1.mP≠2048/\(iV l).1.mP≠34525
 ·rw[if_pos h2]at h;cases h
 rw[if_neg h2]at h ⊢;by_cases h3:(jO l).2≠0
 ·rw[if_pos h3]at h;cases h
 rw[if_neg h3]at h ⊢;by_cases h4:(jO l).1.mW=true
 ·rw[if_pos h4]at h;cases h
 rw[if_neg h4]at h ⊢;by_cases h5:(jO l).1.aN≠6/\(jO l).1.aN≠17
 ·rw[if_pos h5]at h;cases h
 rw[if_neg h5]at h ⊢;by_cases h6:(Bu l).2≠0
 ·rw[if_pos h6]at h;cases h
 rw[if_neg h6]at h ⊢;exact⟨by omega,by omega,by omega,by simpa using h4,by omega,by omega,rfl⟩
theorem avg{l:List UInt8}(h1:(iV l).2=0)(h2:(iV l).1.mP=2048\/(iV l).1.mP=34525)(h3:(jO l).2=0)(h4:(jO l).1.mW=false)(h5:(jO l).1.aN=6\/(jO l).1.aN=17)(h6:(Bu l).2=0):
 lW l=⟨0,⟨(jO l).1.h,(jO l).1.dst,(jO l).1.aN,(Bu l).1.kg,(Bu l).1.iG⟩,(Bu l).1.sW,(iV l).1.dW,(iV l).1.dW+(jO l).1.head,(iV l).1.dW+(jO l).1.bR⟩:=by
 unfold lW;rw[if_neg (by omega),if_neg (by omega),if_neg (by omega),if_neg (by simp[h4]),if_neg (by omega),if_neg (by omega)]
structure aqM(l y:List UInt8)(N S z:Nat):Prop where
 hz:z=12\/z=16
 a1:Gn l y N (N+10)
 a2:Gn l y (N+12) (N+z)
 a3:Gn l y (N+z+4) S
 hc:∀j,j<2->y.b (N+10+j) 0=(QN (kT (dF l (N+10)) ((l.G (N+z)).E 4) ((y.G (N+z)).E 4))).b j 0
theorem FV(l:List UInt8)(z k:Nat):dF (l.G z) k=dF l (z+k):=by unfold dF;rw[kX,kX,kY]
theorem aqN{l y:List UInt8}{z:Nat}(h:(lW l).kind=0)(hy:y.a=(lW l).rE.e)(g1:Gn l y 12 (lW l).h.e)
 (g4:(lW l).K.h.h=false->aqM l y (lW l).h.e (lW l).ru.e z)
 (g6:(lW l).K.h.h=true->Gn l y (lW l).h.e ((lW l).h.e+8)/\Gn l y ((lW l).h.e+40) (lW l).ru.e)
 (g5:Gn l y ((lW l).ru.e+4) ((lW l).ru.e+if(lW l).K.aN=6 then 16 else 6)) :
 lW y={lW l with K:=⟨if(lW l).K.h.h then Dn (y.G ((lW l).h.e+8))else xK (y.G ((lW l).h.e+12)),if(lW l).K.h.h then Dn (y.G ((lW l).h.e+24))else xK (y.G ((lW l).h.e+16)),(lW l).K.aN,dF y (lW l).ru.e,dF y ((lW l).ru.e+2)⟩}/\iV y=(⟨lZ 6 y,lZ 6 (y.G 6),(iV l).1.dM,(iV l).1.mP,(iV l).1.dW⟩,0):=by
 obtain⟨k1,k2,k3,k4,k5,k6,kp⟩:=ML h;have hat:=JJ k1;have hip:=abk (k:=(iV l).1.mP) (l:=l.G (iV l).1.dW) k3;rw[fZ]at hip;have hpt:=ahX k5 k6;have ehd:(jO l).1.head=(Pf (iV l).1.mP (l.G (iV l).1.dW)).1.head:=rfl;have eto:(jO l).1.bR=(Pf (iV l).1.mP (l.G (iV l).1.dW)).1.bR:=rfl;rw[kp]at hy g1 g4 g6 g5 ⊢;simp only[cK]at hy g1 g4 g6 g5 ⊢;obtain⟨N,hN⟩:=cB ((iV l).1.dW);obtain⟨H,hH⟩:∃H:Nat,(H:Int)=(jO l).1.head:=⟨(jO l).1.head.e,by omega⟩
 obtain⟨T,hT⟩:∃T:Nat,(T:Int)=(jO l).1.bR:=⟨(jO l).1.bR.e,by omega⟩
 have eS:((iV l).1.dW+(jO l).1.head).e=N+H:=by omega
 have eE:((iV l).1.dW+(jO l).1.bR).e=N+T:=by omega
 rw[<-hN]at hat hip ehd eto;rw[eS]at g4 g6 g5 ⊢;rw[eE]at hy;rw[<-hN]at g1 g4 g6 ⊢;have hl:=ah7 k1 (by rw[<-hN];exact g1) (by omega);rw[<-hN]at hl;refine⟨?_,hl⟩;have q1:(iV y).2=0:=by rw[hl]
 have qt:(iV y).1.mP=(iV l).1.mP:=by rw[hl]
 have qa:(iV y).1.dW=N:=by rw[hl]
 have hI:(jO y)=({(jO l).1 with h:=if(jO l).1.h.h then Dn (y.G (N+8))else xK (y.G (N+12)),dst:=if(jO l).1.h.h then Dn (y.G (N+24))else xK (y.G (N+16))},0):=by
  have e1:jO y=Pf (iV l).1.mP (y.G N):=by unfold jO;rw[qt,qa]
  have e2:jO l=Pf (iV l).1.mP (l.G N):=by rw[hN];rfl
  rw[e2]at k3 hH hT g4 g6 ⊢;rw[e1];unfold Pf at k3 hH hT g4 g6 ⊢;by_cases ht:(iV l).1.mP=2048
  ·rw[if_pos ht]at k3 hH hT g4 ⊢
   rw[if_pos ht];simp only at k3 hH hT g4 ⊢;have e0:wU (l.G N)=0:=by
    unfold wV at k3;split at k3
    ·assumption
    ·rename_i hx;exact absurd k3 hx
   have es:(wV (l.G N)).1.h.h=false:=(abr k3).1;obtain⟨hz,a1,a2,a3,hc⟩:=g4 es;have eh:(wV (l.G N)).1.head=(qV (l.G N):Nat):=by unfold wV;rw[if_pos e0];rfl
   have et:(wV (l.G N)).1.bR=(dF (l.G N) 2:Nat):=by unfold wV;rw[if_pos e0];rfl
   have eh':qV (l.G N)=H:=by omega
   have et':dF (l.G N) 2=T:=by omega
   have hlen:((y.G (N+z)).E 4).a=4:=by
    have:=Cu.1 e0;simp;omega
   obtain⟨f1,f2,f3⟩:=aqK (l:=l.G N) (m:=y.G N) (nw:=(y.G (N+z)).E 4) hz e0 hlen (by rw[fZ];omega)
    (by have:=a1.G N;rwa [J9,cZ]at this)
    (by have:=a2.G N;rwa [cZ,cZ]at this)
    (by have:=a3.G N;rw[eh'];rwa [kY,cZ,cZ]at this)
    (fun j hj=>by rw[kX,kE,if_pos hj,kX,kY])
    (fun j hj=>by rw[kX,FV,wW,<-kY];exact hc j hj)
   have fy:wV (y.G N)=(vZ (y.G N),0):=by unfold wV;rw[if_pos f1]
   have fl:wV (l.G N)=(vZ (l.G N),0):=by unfold wV;rw[if_pos e0]
   replace es:(vZ (l.G N)).h.h=false:=by rw[fl]at es;exact es
   rw[fy,fl,f3];simp only[es,wW,fM,if_false]
  ·rw[if_neg ht]at k3 hH hT g6 ⊢
   rw[if_neg ht];simp only at k3 hH hT g6 ⊢;have es:(yO (l.G N)).1.h.h=true:=(abq k3).1;obtain⟨a1,a3⟩:=g6 es;have et:(yO (l.G N)).1.bR=40+(dF (l.G N) 4:Nat):=by
    have hs:=abj k3;unfold yO at k3 hs ⊢;by_cases h1:(l.G N).a<40
    ·rw[if_pos h1]at k3;cases k3
    rw[if_neg h1]at k3 hs ⊢;by_cases h2:lK (l.G N) 0/16≠6
    ·rw[if_pos h2]at k3;cases k3
    rw[if_neg h2]at k3 hs ⊢;by_cases h3:(l.G N).a<40+dF (l.G N) 4
    ·rw[if_pos h3]at k3;cases k3
    rw[if_neg h3]at k3 hs ⊢;exact(abh 8 _ _ (by simp[Q8]) (by rw[fZ,bE];simp only[Q8];omega) k3).2.2
   have sy:=ah8 (l:=l.G N) (m:=y.G N) (z:=24) (.a rfl) k3 (by rw[fZ];omega)
    (by have:=a1.G N;rwa [J9,cZ]at this)
    (by have:=a3.G N;rw[show(yO (l.G N)).1.head.e=H by omega];rwa [cZ,cZ]at this)
   rw[sy];simp only[es,wW,if_true]
 have hP:Bu y=({(Bu l).1 with kg:=dF y (N+H),iG:=dF y (N+H+2)},0):=by
  have e1:Bu y=FM (jO l).1.aN ((y.E (N+T)).G (N+H)):=by
   unfold Bu;rw[hI,qa];simp only;rw[<-hT,<-hH];rfl
  have e2:Bu l=FM (jO l).1.aN ((l.E (N+T)).G (N+H)):=by
   unfold Bu;rw[<-hT,<-hH,<-hN];rfl
  rw[e2]at k6 ⊢;rw[e1,aqL (l:=(l.E (N+T)).G (N+H)) (m:=(y.E (N+T)).G (N+H)) k5 k6 (by simp;omega) (by
   have:=(g5.E (N+T)).G (N+H)
   rwa [cZ,cZ]at this)]
  rw[FV,FV,aK (by omega:y.a<=N+T)];rfl
 rw[avg q1 (by rw[qt];exact k2) (by rw[hI]) (by rw[hI];exact k4) (by rw[hI];exact k5) (by rw[hP]),hI,hP,qa]
theorem Y0{l:List UInt8}(h:(lW l).kind=0):(lW l).K.h=(if(lW l).K.h.h then Dn (l.G ((lW l).h.e+8))else xK (l.G ((lW l).h.e+12)))/\(lW l).K.dst=(if(lW l).K.h.h then Dn (l.G ((lW l).h.e+24))else xK (l.G ((lW l).h.e+16)))/\(lW l).K.kg=dF l (lW l).ru.e/\(lW l).K.iG=dF l ((lW l).ru.e+2):=by
 have F:=xM h;obtain⟨k1,k2,k3,k4,k5,k6,kp⟩:=ML h;have f5:=F.rE;have f3:=F.ru;have f2:=F.h;have f6:=F.len;have hp:(lW l).K.kg=dF l (lW l).ru.e/\(lW l).K.iG=dF l ((lW l).ru.e+2):=by
  rw[kp]at f5 f3 f2 f6 ⊢;simp only at f5 f3 f2 f6 ⊢;have e0:uF (jO l).1.aN ((l.E ((iV l).1.dW+(jO l).1.bR.e)).G ((iV l).1.dW+(jO l).1.head.e))=0:=by
   unfold Bu FM at k6;split at k6
   ·assumption
   ·rename_i hx;exact absurd k6 hx
  have e1:Bu l=(pG (jO l).1.aN ((l.E ((iV l).1.dW+(jO l).1.bR.e)).G ((iV l).1.dW+(jO l).1.head.e)),0):=Mx e0;have hd:0<=(jO l).1.head/\0<=(jO l).1.bR/\(jO l).1.head+8<=(jO l).1.bR:=by
   split at f3<;>split at f5<;>omega
  have e2:((iV l).1.dW+(jO l).1.head:Int).e=(iV l).1.dW+(jO l).1.head.e:=by omega
  rw[e1,e2];have ag:Gn l (l.E ((iV l).1.dW+(jO l).1.bR.e)) 0 ((iV l).1.dW+(jO l).1.bR.e):=fun j _ hj=>by rw[kE,if_pos hj]
  have a1:=ag.two (k:=(iV l).1.dW+(jO l).1.head.e) (by omega) (by omega);have a2:=ag.two (k:=(iV l).1.dW+(jO l).1.head.e+2) (by omega) (by omega);constructor
  ·rw[<-a1];unfold pG;split<;>simp only[FV,kQ]
  ·rw[<-a2];unfold pG;split<;>simp only[FV]
 refine⟨?_,?_,hp⟩
 all_goals
  rw[kp];simp only[cK];unfold jO Pf at k3 ⊢;by_cases ht:(iV l).1.mP=2048
  ·rw[if_pos ht]at k3 ⊢
   have es:=abr (l:=l.G (iV l).1.dW) k3;have e0:wU (l.G (iV l).1.dW)=0:=by
    simp only at k3;unfold wV at k3;split at k3
    ·assumption
    ·rename_i hx;exact absurd k3 hx
   simp only[es.1];unfold wV;rw[if_pos e0];simp[vZ]
  ·rw[if_neg ht]at k3 ⊢
   have es:=abq (l:=l.G (iV l).1.dW) k3;simp only[es.1,if_true];simp only at k3;unfold yO at k3 ⊢;by_cases h1:(l.G (iV l).1.dW).a<40
   ·rw[if_pos h1]at k3;cases k3
   rw[if_neg h1]at k3 ⊢;by_cases h2:lK (l.G (iV l).1.dW) 0/16≠6
   ·rw[if_pos h2]at k3;cases k3
   rw[if_neg h2]at k3 ⊢;by_cases h3:(l.G (iV l).1.dW).a<40+dF (l.G (iV l).1.dW) 4
   ·rw[if_pos h3]at k3;cases k3
   rw[if_neg h3]at k3 ⊢
   first|rw[(Wm 8 _ _ k3).1]|rw[(Wm 8 _ _ k3).2]
   simp[Q8]
theorem Du(l:List UInt8)(d s:Vector UInt8 6):(sZ l d s).a=l.a:=by unfold sZ;simp;omega
theorem KR(l:List UInt8)(d s:Vector UInt8 6)(j:Nat)(hj:j<l.a):(sZ l d s).b j 0=if j<6 then d.a.b j 0 else if j<12 then s.a.b (j-6) 0 else l.b j 0:=by
 unfold sZ;have e1:(d.a++s.a).a=12:=by simp
 have e2:d.a.a=6:=by simp
 rw[kE,if_pos hj,qI,e1,qI,e2,kX];by_cases h1:j<6
 ·rw[if_pos h1,if_pos h1,if_pos (by omega)]
 ·rw[if_neg h1,if_neg h1]
  by_cases h2:j<12
  ·rw[if_pos h2,if_pos h2]
  ·rw[if_neg h2,if_neg h2];congr 1;omega
def asV(t:Tu)(a:fD)(n:Int)(dst:Bool):Tu:=if dst then{t with dst:=a,iG:=n}else{t with h:=a,kg:=n}
theorem ah9{a:fD}{y:List UInt8}{z:Nat}(h6:a.h=false)(hs:a.mO=true)(hy:∀j,j<4->y.b (z+j) 0=(a.b.a.E 4).b j 0):xK (y.G z)=a:=by
 obtain⟨x,b⟩:=a;simp only at h6 hs hy;subst h6;unfold xK;congr 1;apply AB;intro i hi;simp only[lZ,oK];rw[kE];have hg:∀j (hj:j<16),b.a.b j 0=b[j]:=fun j hj=>by simp[au,hj]
 by_cases h4:i<4
 ·rw[if_pos h4,kX,hy i h4,kE,if_pos h4,hg i hi]
 ·rw[if_neg h4]
  unfold fD.mO at hs;rw[gq]at hs;have hm:b[i]∈b.a.G 4:=by
   rw[lC];exact⟨i-4,by simp;omega,by simp[show 4+(i-4)=i by omega]⟩
  have:=hs _ hm;simp at this;exact this.symm
theorem ah'{a:fD}{y:List UInt8}{z:Nat}(h6:a.h=true)(hy:∀j,j<16->y.b (z+j) 0=(a.b.a.E 16).b j 0):Dn (y.G z)=a:=by
 obtain⟨x,b⟩:=a;simp only at h6 hy;subst h6;unfold Dn;congr 1;apply AB;intro i hi;simp only[lZ,oK];rw[kX,hy i hi,kE,if_pos hi];simp[au,hi]
theorem ant{l y:List UInt8}{z:Nat}(hy:∀j,j<4->y.b (z+j) 0=l.b (z+j) 0):xK (y.G z)=xK (l.G z):=by
 unfold xK;congr 1;apply ad3;intro j hj;rw[kE,kE];split
 ·rw[kX,kX];exact hy j ‹_›
 ·rfl
theorem anu{l y:List UInt8}{z:Nat}(hy:∀j,j<16->y.b (z+j) 0=l.b (z+j) 0):Dn (y.G z)=Dn (l.G z):=by
 unfold Dn;congr 1;apply ad3;intro j hj;rw[kX,kX];exact hy j hj
theorem ad6(n:Nat)(hn:n<=65535)(y:List UInt8)(k:Nat)(h:∀j,j<2->y.b (k+j) 0=(Hq n).b j 0):dF y k=n:=by
 have h0:=h 0 (by omega);have h1:=h 1 (by omega);unfold dF;rw[kQ]at h0;rw[h0,h1];show 256*(aJ (n/256)).e+(aJ (n%256)).e=n;rw[jB,jB];omega
theorem aqO{l:List UInt8}{a:fD}{n:Int}{dst:Bool}(ok:Ip l a n=true)(d s:Vector UInt8 6):
 lW (sZ (Ot l a n dst) d s)={lW l with K:=asV (lW l).K a n dst}/\(Ot l a n dst).a=(lW l).rE.e/\Gn l (sZ (Ot l a n dst) d s) 12 (lW l).h.e:=by
 have ok2:=ok;unfold Ip at ok2;simp only[bf,beq_iff_eq,decide_eq_true_eq,kR]at ok2;obtain⟨⟨hk,h6,hsh⟩,hn0,hn1⟩:=ok2;have F:=xM hk;have ft:=Y0 hk;obtain⟨p,hp⟩:=cB (lW l);have PUT:=aqN (l:=l) (y:=sZ (Ot l a n dst) d s) (z:=if dst then 16 else 12) hk;unfold Ot at PUT ⊢;rw[if_pos ok]at PUT ⊢;rw[<-hp]at F ft h6 hsh hk PUT ⊢;have f2:=F.h;have f3:=F.ru;have f5:=F.rE;have f6:=F.len;have f4:=F.pro;obtain⟨N,hN⟩:=cB p.h.e;obtain⟨S,hS⟩:=cB p.ru.e;obtain⟨E,hE⟩:=cB p.rE.e;obtain⟨m,hm⟩:=cB n.e;have hNl:14<=N:=by omega
 have hN6:p.K.h.h=true->N+40<=S:=fun hh=>by rw[if_pos hh]at f3;omega
 have hN4:p.K.h.h=false->N+20<=S:=fun hh=>by rw[if_neg (by simp[hh])]at f3;omega
 have hNS:N+20<=S:=by cases hh:p.K.h.h;exact hN4 hh;have:=hN6 hh;omega
 have hS6:p.K.aN=6->S+20<=E:=fun hh=>by rw[if_pos hh]at f5;omega
 have hSE:S+8<=E:=by
  by_cases hh:p.K.aN=6
  ·have:=hS6 hh;omega
  ·rw[if_neg hh]at f5;omega
 have hEl:E<=l.a:=by omega
 have hpl:zF p.K.aN=if p.K.aN=6 then 16 else 6:=by
  unfold zF;rcases f4 with h|h<;>rw[h]<;>rfl
 obtain⟨pl,aj3⟩:=cB (zF p.K.aN);have aKz:6<=pl/\pl<=16:=by rw[aj3,hpl];split<;>omega
 have hsz:uh p=if p.K.h.h then 16 else 4:=rfl
 have aqP:Wi p dst=N+(if p.K.h.h then(if dst then 24 else 8)else(if dst then 16 else 12)):=by
  unfold Wi;rw[<-hN];cases p.K.h.h<;>cases dst<;>rfl
 have hpo:Bv p dst=S+(if dst then 2 else 0):=by unfold Bv;rw[<-hS]
 have hbl:(a.b.a.E (uh p)).a=uh p:=by simp;rw[hsz];split<;>omega
 obtain⟨dW,hA⟩:∃k,k=Wi p dst:=⟨_,rfl⟩
 obtain⟨sz,hZ⟩:∃k,k=uh p:=⟨_,rfl⟩
 obtain⟨po,hP⟩:∃k,k=Bv p dst:=⟨_,rfl⟩
 have ha1:N+8<=dW/\dW+sz<=S:=by
  rw[hA,hZ,aqP,hsz];cases hh:p.K.h.h
  ·simp only[fM,if_false];split<;>omega
  ·have:=hN6 hh;simp only[if_true];split<;>omega
 have ha4:p.K.h.h=false->sz=4/\(dW=N+if dst then 16 else 12):=fun hh=>by rw[hA,hZ,aqP,hsz,hh];exact⟨rfl,rfl⟩
 have ha6:p.K.h.h=true->sz=16/\(dW=N+if dst then 24 else 8):=fun hh=>by rw[hA,hZ,aqP,hsz,hh];exact⟨rfl,rfl⟩
 have hp1:S<=po/\po+2<=S+4:=by rw[hP,hpo];split<;>omega
 have hpE:S+pl+2<=E:=by
  rw[aj3,hpl];split
  ·have:=hS6 ‹_›;omega
  ·omega
 rw[<-hA]at aqP;rw[<-hZ]at hsz hbl;rw[<-hP]at hpo;rw[<-hE,<-hN,<-hS]at PUT;rw[<-hm]at PUT ⊢;rw[<-hE,<-hN];have l0:(l.E E).a=E:=by simp;omega
 have c1:dW+(a.b.a.E sz).a<=(l.E E).a:=by rw[hbl,l0];omega
 have l1:=xL c1;rw[l0]at l1;have c2:po+(Hq m).a<=(rZ (l.E E) dW (a.b.a.E sz)).a:=by rw[l1,ug];omega
 have l2:=xL c2;rw[l1]at l2;have r1:rw1 l p a m dst=rZ (rZ (l.E E) dW (a.b.a.E sz)) po (Hq m):=by unfold rw1;rw[<-hE,<-hA,<-hZ,<-hP]
 have g1:∀j,j<E->(rw1 l p a m dst).b j 0=if po<=j/\j<po+2 then(Hq m).b (j-po) 0 else if dW<=j/\j<dW+sz then(a.b.a.E sz).b (j-dW) 0 else l.b j 0:=fun j hj=>by
  rw[r1,FT c2,ug,FT c1,hbl,kE l,if_pos hj]
 have L1:(rw1 l p a m dst).a=E:=by rw[r1];exact l2
 have L2:(rw2 l p a m dst).a=E:=by
  unfold rw2;split
  ·exact L1
  ·rw[xL (by rw[ug,L1,<-hN];omega)];exact L1
 have g2:∀j,(p.K.h.h=true\/j<N+10\/N+12<=j)->(rw2 l p a m dst).b j 0=(rw1 l p a m dst).b j 0:=fun j hj=>by
  unfold rw2;split
  ·rfl
  ·rename_i hs6
   have hj2:j<N+10\/N+12<=j:=by rcases hj with hj|hj;exact absurd hj hs6;exact hj
   rw[FT (by rw[ug,L1,<-hN];omega),ug,if_neg (by rw[<-hN];omega)]
 have L3:(Wj l p a m dst).a=E:=by
  unfold Wj;rw[<-aj3];split
  ·exact L2
  ·rw[xL (by rw[ug,L2,<-hS];omega)];exact L2
 have g3:∀j,¬(S+pl<=j/\j<S+pl+2)->(Wj l p a m dst).b j 0=(rw2 l p a m dst).b j 0:=fun j hj=>by
  unfold Wj;rw[<-aj3];split
  ·rfl
  ·rw[FT (by rw[ug,L2,<-hS];omega),ug,if_neg (by rw[<-hS];exact hj)]
 have gt:∀j,12<=j->j<E->(sZ (Wj l p a m dst) d s).b j 0=(Wj l p a m dst).b j 0:=fun j h1 h2=>by
  rw[KR _ _ _ _ (by rw[L3];exact h2),if_neg (by omega),if_neg (by omega)]
 have hy:(sZ (Wj l p a m dst) d s).a=E:=by rw[Du,L3]
 obtain⟨Y,hY⟩:=cB (sZ (Wj l p a m dst) d s);rw[<-hY]at PUT hy gt ⊢;have KEEP:∀j,12<=j->j<E->¬(S+pl<=j/\j<S+pl+2)->(p.K.h.h=true\/j<N+10\/N+12<=j)->¬(po<=j/\j<po+2)->¬(dW<=j/\j<dW+sz)->Y.b j 0=l.b j 0:=fun j h1 h2 h3 h4 h5 h6=>by
  rw[gt j h1 h2,g3 j h3,g2 j h4,g1 j h2,if_neg h5,if_neg h6]
 have AD:∀j,j<sz->Y.b (dW+j) 0=(a.b.a.E sz).b j 0:=fun j hj=>by
  have h4:p.K.h.h=true\/dW+j<N+10\/N+12<=dW+j:=by
   cases hh:p.K.h.h
   ·have:=(ha4 hh).2;right;right;split at this<;>omega
   ·exact .b rfl
  rw[gt _ (by omega) (by omega),g3 _ (by omega),g2 _ h4,g1 _ (by omega),if_neg (by omega),if_pos (by omega),cZ]
 have PO:∀j,j<2->Y.b (po+j) 0=(Hq m).b j 0:=fun j hj=>by
  rw[gt _ (by omega) (by omega),g3 _ (by omega),g2 _ (.a (.a (by omega))),g1 _ (by omega),if_pos (by omega),cZ]
 have A0:Gn l Y 12 N:=fun j h1 h2=>KEEP j h1 (by omega) (by omega) (.a (.b (by omega))) (by omega) (by omega)
 have A5:Gn l Y (S+4) (S+if p.K.aN=6 then 16 else 6):=fun j h1 h2=>by
  rw[<-hpl,<-aj3]at h2;exact KEEP j (by omega) (by omega) (by omega) (.a (.a (by omega))) (by omega) (by omega)
 obtain⟨q1,q2⟩:=PUT hy A0 (fun e=>by
  obtain⟨e4,e5⟩:=ha4 e;obtain⟨z,hz⟩:=cB (if dst=true then 16 else 12);rw[<-hz]at e5 ⊢;have hz2:z=12\/z=16:=by rw[hz];split<;>simp
  refine⟨hz2,?_,?_,?_,?_⟩
  ·intro j h1 h2
   exact KEEP j (by omega) (by omega) (by omega) (.a (.b (by omega))) (by omega) (by omega)
  ·intro j h1 h2
   exact KEEP j (by omega) (by omega) (by omega) (.a (.a (by omega))) (by omega) (by omega)
  ·intro j h1 h2
   exact KEEP j (by omega) (by omega) (by omega) (.a (.a (by omega))) (by omega) (by omega)
  ·intro j hj
   have e1:(List.drop (N+z) Y).E 4=a.b.a.E 4:=by
    apply aj0
    ·simp[hy];omega
    ·intro i hi
     have hi:i<4:=by simp at hi;omega
     have:=AD i (by omega);rw[e5,e4]at this;rw[kE,if_pos hi,kX,this]
   have e2:Rb l p dst=(l.G (N+z)).E 4:=by unfold Rb;rw[<-hA,<-hZ,e5,e4]
   rw[e1,gt _ (by omega) (by omega),g3 _ (by omega)];unfold rw2;rw[if_neg (by rw[e];simp),FT (by rw[ug,L1,<-hN];omega),ug,<-hN,if_pos (by omega),e2,<-hZ,e4,cZ];rfl) (fun e=>by
  obtain⟨e4,e5⟩:=ha6 e;have:=hN6 e;have e6:dW=N+8\/dW=N+24:=by rw[e5];split<;>simp
  constructor
  ·intro j h1 h2
   exact KEEP j (by omega) (by omega) (by omega) (.b e) (by omega) (by omega)
  ·intro j h1 h2
   exact KEEP j (by omega) (by omega) (by omega) (.b e) (by omega) (by omega)) A5
 refine⟨?_,L3,A0⟩;rw[q1];congr 1;have hmN:(m:Int)=n:=by omega
 have azn:p.K.h.h=false->∀z,z=12\/z=16->z≠(if dst then 16 else 12)->xK (Y.G (N+z))=xK (l.G (N+z)):=fun e z hz hne=>by
  obtain⟨e4,e5⟩:=ha4 e;have e6:dW=N+12\/dW=N+16:=by rw[e5];split<;>simp
  have e7:dW≠N+z:=by rw[e5];omega
  exact ant fun j hj=>KEEP _ (by omega) (by omega) (by omega) (.a (.a (by omega))) (by omega) (by omega)
 have azo:p.K.h.h=true->∀z,z=8\/z=24->z≠(if dst then 24 else 8)->Dn (Y.G (N+z))=Dn (l.G (N+z)):=fun e z hz hne=>by
  obtain⟨e4,e5⟩:=ha6 e;have:=hN6 e;have e6:dW=N+8\/dW=N+24:=by rw[e5];split<;>simp
  have e7:dW≠N+z:=by rw[e5];omega
  exact anu fun j hj=>KEEP _ (by omega) (by omega) (by omega) (.b e) (by omega) (by omega)
 have PRT:∀z,z=0\/z=2->z≠(if dst then 2 else 0)->dF Y (S+z)=dF l (S+z):=fun z hz hne=>by
  have e7:po≠S+z:=by rw[hpo];omega
  have e8:po=S\/po=S+2:=by rw[hpo];split<;>simp
  exact(show Gn l Y (S+z) (S+z+2)from fun j h1 h2=>KEEP j (by omega) (by omega) (by omega) (.a (.a (by omega))) (by omega) (by omega)).two (av _) (av _)
 obtain⟨ts,td,t3,t4⟩:=ft;rw[<-hN]at ts td;rw[<-hS]at t3 t4;have anv:dF Y po=m:=ad6 m (by omega) _ _ PO;rw[hpo]at anv;have P1:(dF Y S:Int)=if dst then p.K.kg else n:=by
  cases dst
  ·rw[if_neg (by simp),kQ]at anv;rw[anv];simp[hmN]
  ·have:=PRT 0 (.b rfl) (by simp);rw[kQ]at this;simp[t3,this]
 have P2:(dF Y (S+2):Int)=if dst then n else p.K.iG:=by
  cases dst
  ·have:=PRT 2 (.a rfl) (by simp);simp[t4,this]
  ·rw[if_pos rfl]at anv;rw[anv];simp[hmN]
 have A1:(if p.K.h.h then Dn (Y.G (N+8))else xK (Y.G (N+12)))=if dst then p.K.h else a:=by
  cases h6s:p.K.h.h
  ·obtain⟨e4,e5⟩:=ha4 h6s
   rw[h6s]at h6 ts;cases dst
   ·simp only[fM,if_false]at e5 ⊢
    exact ah9 h6 (by rcases hsh with hh|hh;rw[h6s]at hh;cases hh;exact hh) (fun j hj=>by have:=AD j (by omega);rwa [e5,e4]at this)
   ·simp only[fM,if_false,if_true]at ts ⊢
    rw[ts];exact azn h6s 12 (.b rfl) (by simp)
  ·obtain⟨e4,e5⟩:=ha6 h6s
   rw[h6s]at h6 ts;cases dst
   ·simp only[fM,if_false,if_true]at e5 ⊢
    exact ah' h6 (fun j hj=>by have:=AD j (by omega);rwa [e5,e4]at this)
   ·simp only[if_true]at ts ⊢
    rw[ts];exact azo h6s 8 (.b rfl) (by simp)
 have A2:(if p.K.h.h then Dn (Y.G (N+24))else xK (Y.G (N+16)))=if dst then a else p.K.dst:=by
  cases h6s:p.K.h.h
  ·obtain⟨e4,e5⟩:=ha4 h6s
   rw[h6s]at h6 td;cases dst
   ·simp only[fM,if_false]at td ⊢
    rw[td];exact azn h6s 16 (.a rfl) (by simp)
   ·simp only[fM,if_false,if_true]at e5 ⊢
    exact ah9 h6 (by rcases hsh with hh|hh;rw[h6s]at hh;cases hh;exact hh) (fun j hj=>by have:=AD j (by omega);rwa [e5,e4]at this)
  ·obtain⟨e4,e5⟩:=ha6 h6s
   rw[h6s]at h6 td;cases dst
   ·simp only[fM,if_false,if_true]at td ⊢
    rw[td];exact azo h6s 24 (.a rfl) (by simp)
   ·simp only[if_true]at e5 ⊢
    exact ah' h6 (fun j hj=>by have:=AD j (by omega);rwa [e5,e4]at this)
 rw[A1,A2,P1,P2];unfold asV;cases dst<;>simp
theorem Y1{l m:List UInt8}:∀(f k:Nat)(dM:List Tg),14<=k->(rF l f k dM).2=0->Gn l m 12 ((rF l f k dM).1.dW-2)->(rF l f k dM).1.dW<=m.a->oC (dF m ((rF l f k dM).1.dW-2):Nat)=false ->
 rF m f k dM=(⟨lZ 6 m,lZ 6 (m.G 6),(rF l f k dM).1.dM,(dF m ((rF l f k dM).1.dW-2):Nat),(rF l f k dM).1.dW⟩,0)
 | 0,k,dM,hk,h,ha,hm,hi=>by
   cases ht:oC (dF l (k-2):Nat)with
   | false=>
     rw[ny ht]at ha hi ⊢;rw[ny hi]
   | true=>rw[wL ht]at h;cases h
 | f+1,k,dM,hk,h,ha,hm,hi=>by
   cases ht:oC (dF l (k-2):Nat)with
   | false=>
     rw[ny ht]at ha hi ⊢;rw[ny hi]
   | true=>
     by_cases h4:l.a<k+4
     ·rw[sU ht h4]at h;cases h
     ·rw[sj ht h4]at h ha hm hi ⊢
      have hg:=abC f (k+4) _ h;have e:=ha.two (k:=k-2) (by omega) (by omega);have e2:=ha.two (k:=k) (by omega) (by omega);rw[sj (by rw[e];exact ht) (by omega),e,e2];exact Y1 f (k+4) _ (by omega) h ha hm hi
theorem anw(l:List UInt8)(k:Nat):oV (dF l k:Nat)=[l.b k 0,l.b (k+1) 0]:=by
 have h0:=abD l k 0 (by omega);have h1:=abD l k 1 (by omega);show QN (dF l k)=_;unfold QN at h0 h1 ⊢;simp only[List.getD_cons_zero,List.getD_cons_succ,kQ]at h0 h1;rw[h0,h1]
theorem abE(l:List UInt8)(k:Nat)(h:k+2<=l.a):l.E (k+2)=l.E k++oV (dF l k:Nat):=by
 rw[anw];apply aj0
 ·simp;omega
 ·intro j hj
  have hj:j<k+2:=by simp at hj;omega
  have e:(l.E k).a=k:=by simp;omega
  rw[kE,if_pos hj,qI,e,kE];by_cases h1:j<k
  ·rw[if_pos h1,if_pos h1]
  ·rw[if_neg h1]
   rcases(show j=k\/j=k+1 by omega)with rfl|rfl
   ·simp
   ·simp
theorem ad7{l:List UInt8}:∀(f k:Nat)(dM:List Tg),14<=k->k<=l.a->(rF l f k dM).2=0->l.E (k-2)=l.E 12++dM.d yP ->
 l.E ((rF l f k dM).1.dW-2)=l.E 12++(rF l f k dM).1.dM.d yP/\(rF l f k dM).1.mP=(dF l ((rF l f k dM).1.dW-2):Nat)
 | 0,k,dM,h1,h2,h,he=>by
   cases ht:oC (dF l (k-2):Nat)with
   | false=>rw[ny ht];exact⟨he,rfl⟩
   | true=>rw[wL ht]at h;cases h
 | f+1,k,dM,h1,h2,h,he=>by
   cases ht:oC (dF l (k-2):Nat)with
   | false=>rw[ny ht];exact⟨he,rfl⟩
   | true=>
     by_cases h4:l.a<k+4
     ·rw[sU ht h4]at h;cases h
     ·rw[sj ht h4]at h ⊢
      refine ad7 f (k+4) _ (by omega) (by omega) h ?_;rw[show k+4-2=(k-2)+2+2 by omega,abE l _ (by omega),abE l _ (by omega),he,uD,show k-2+2=k by omega];simp[yP]
theorem aqQ{l:List UInt8}(h:(iV l).2=0):l.E ((iV l).1.dW-2)=l.E 12++(iV l).1.dM.d yP/\(iV l).1.mP=(dF l ((iV l).1.dW-2):Nat)/\(iV l).1.dst.a++(iV l).1.h.a=l.E 12:=by
 have h3:(iV l).1.dst=lZ 6 l/\(iV l).1.h=lZ 6 (l.G 6):=by
  have:=ah7 h (fun _ _ _=>rfl) (JJ h).2;rw[this];exact⟨rfl,rfl⟩
 have h14:14<=l.a:=by have:=JJ h;omega
 have h4:(iV l).1.dst.a++(iV l).1.h.a=l.E 12:=by
  rw[h3.1,h3.2];apply aj0
  ·simp;omega
  ·intro j hj
   have hj:j<12:=by simpa using hj
   have e:(lZ 6 l).a.a=6:=by simp
   have hv:∀(m:List UInt8) i,i<6->(lZ 6 m).a.b i 0=m.b i 0:=fun m i hi=>by simp[lZ,au,hi]
   rw[qI,e,kE,if_pos hj];by_cases h6:j<6
   ·rw[if_pos h6,hv _ _ h6]
   ·rw[if_neg h6,hv _ _ (by omega),kX];congr 1;omega
 unfold iV at h ⊢;rw[if_neg (by omega)]at h ⊢;have:=ad7 2 14 [] (by omega) h14 h (by simp);refine⟨this.1,this.2,?_⟩;unfold iV at h4;rw[if_neg (by omega)]at h4;exact h4
theorem aj4{l:List UInt8}(h:(iV l).2=0):oC (iV l).1.mP=false:=by
 have hg:∀(f k:Nat)(dM:List Tg),(rF l f k dM).2=0->oC (rF l f k dM).1.mP=false:=by
  intro f
  induction f with
  | zero=>
    intro k dM h;cases ht:oC (dF l (k-2):Nat)with
    | false=>rw[ny ht];exact ht
    | true=>rw[wL ht]at h;cases h
  | succ f ih=>
    intro k dM h;cases ht:oC (dF l (k-2):Nat)with
    | false=>rw[ny ht];exact ht
    | true=>
      by_cases h4:l.a<k+4
      ·rw[sU ht h4]at h;cases h
      ·rw[sj ht h4]at h⊢;exact ih _ _ h
 unfold iV at h ⊢;split at h
 ·cases h
 ·rename_i hl;rw[if_neg hl];exact hg _ _ _ h
theorem avh{h:List UInt8}(hl:h.a=20)(h10:h.b 10 0=0)(h11:h.b 11 0=0)(hp:Ai h≠0):uo (LJ h)=0:=by
 have hs:LJ h=h.E 10++(QN (uo h)++h.G 12):=by
  unfold LJ;apply iC;intro j;have e1:(h.E 10).a=10:=by simp;omega
  rw[fu,fu,aS];by_cases c1:j<10
  ·rw[if_neg (by omega),if_neg (by omega),lF (by omega),jc,if_pos c1]
  ·rw[mQ (by omega),e1]
   rcases(show j=10\/j=11\/12<=j by omega)with rfl|rfl|h12
   ·rw[if_neg (by omega),if_pos rfl,if_pos (by omega)];rfl
   ·rw[if_pos rfl,if_pos (by omega)];rfl
   ·rw[if_neg (by omega),if_neg (by omega),mQ (by simp[QN];omega),iY]
    congr 1;simp[QN];omega
 have hh:h=h.E 10++(QN 0++h.G 12):=by
  apply aj0
  ·simp[QN];omega
  ·intro j hj
   have e1:(h.E 10).a=10:=by simp;omega
   have e2:(QN 0).a=2:=rfl;rw[qI,e1,qI,e2,kE,kX];rcases(show j<10\/j=10\/j=11\/12<=j by omega)with c|rfl|rfl|c
   ·rw[if_pos c,if_pos c]
   ·rw[h10];rfl
   ·rw[h11];rfl
   ·rw[if_neg (by omega),if_neg (by omega)];congr 1;omega
 have hw:=U3 h 0;have hle:=Nq h 0 (by omega);have hb:uo h=65535-AQ 0 h:=rfl;have w1:Ai h=Ai (h.E 10)+(0+Ai (h.G 12)):=by
  conv=>lhs;rw[hh]
  rw[tV _ _ (by simp;omega),tV _ _ (by simp[QN]),Nu (by omega)]
 rw[Yu,hs,tV _ _ (by simp;omega),tV _ _ (by simp[QN]),Nu (by omega)];omega
theorem aj5{k:Int}{l:List UInt8}(h:(oG k l).ok=true):oG k (l.E (oG k l).bR.e)=oG k l/\(l.E (oG k l).bR.e).a=(oG k l).bR.e/\0<=(oG k l).bR:=by
 have hat:=abv h;refine⟨?_,by simp;omega,by omega⟩;have ag:Gn l (l.E (oG k l).bR.e) 0 (oG k l).bR.e:=fun j _ hj=>by rw[kE,if_pos hj]
 obtain⟨T,hT⟩:=cB ((oG k l).bR.e);rw[<-hT]at ag ⊢;have hTl:T<=l.a:=by omega
 have hlen:(l.E T).a=T:=by simp;omega
 unfold oG at h hT hat ⊢;by_cases h1:k=2048
 ·rw[if_pos h1]at h hT hat ⊢
  rw[if_pos h1];simp only[beq_iff_eq]at h hT hat;have e0:wU l=0:=by
   unfold wV at h;split at h
   ·assumption
   ·rename_i hx;exact absurd h hx
  have eF:wV l=(vZ l,0):=by unfold wV;rw[if_pos e0]
  rw[eF]at hT hat;have eT:T=dF l 2:=by rw[hT];show((dF l 2:Nat):Int).e=_;simp
  obtain⟨f1,f2,f3,f4,f5,f6,f7⟩:=Cu.1 e0;have eh:qV (l.E T)=qV l:=by unfold qV;rw[ag.lK (k:=0) (by omega) (by omega)]
  have e1:wU (l.E T)=0:=by
   rw[Cu,eh,ag.lK (k:=0) (by omega) (by omega),ag.two (k:=2) (by omega) (by omega),hlen];refine⟨by omega,f2,f3,by omega,f5,by omega,?_⟩;rw[qw,lU (by omega)];exact f7
  have eG:wV (l.E T)=(vZ (l.E T),0):=by unfold wV;rw[if_pos e1]
  rw[eF,eG];unfold vZ;rw[eh,ag.two (k:=2) (by omega) (by omega),ag.two (k:=6) (by omega) (by omega),ag.lK (k:=9) (by omega) (by omega)]
 ·rw[if_neg h1]at h hT hat ⊢
  rw[if_neg h1];by_cases h2:k=34525
  ·rw[if_pos h2]at h hT hat ⊢
   rw[if_pos h2];simp only[beq_iff_eq]at h hT hat;have hs:=abj h;have ht:40+dF l 4<=T:=by
    have:=h;unfold yO at this hT;by_cases c1:l.a<40
    ·rw[if_pos c1]at this;cases this
    rw[if_neg c1]at this hT;by_cases c2:lK l 0/16≠6
    ·rw[if_pos c2]at this;cases this
    rw[if_neg c2]at this hT;by_cases c3:l.a<40+dF l 4
    ·rw[if_pos c3]at this;cases this
    rw[if_neg c3]at this hT;have e3:=(abh 8 _ _ (by simp[Q8]) (by rw[fZ,bE];simp only[Q8];omega) this).2.2;have e4:(Q8 l).bR=40+(dF l 4:Nat):=rfl;omega
   rw[ah8 (l:=l) (m:=l.E T) (z:=24) (.a rfl) h (by omega) (ag.sub (by omega) (by omega)) (ag.sub (by omega) (by omega)),h]
  ·rw[if_neg h2]at h;cases h
theorem anx{l:List UInt8}{a b:fD}(h:(lW l).kind=0)(hw:(vG l a b).2=0)(d s:Vector UInt8 6):
 ad2 (sZ (vG l a b).1 d s)=(d.a++s.a++(l.E (lW l).rE.e).G 12,0)/\14<=(vG l a b).1.a:=by
 obtain⟨k1,k2,k3,k4,k5,k6,kp⟩:=ML h;have F:=xM h;have hat:=JJ k1;obtain⟨y1,y2,y3⟩:=aqQ k1;have hnt:=aj4 k1;have hok:(oG (iV l).1.mP (l.G (iV l).1.dW)).ok=true:=by
  cases ho:(oG (iV l).1.mP (l.G (iV l).1.dW)).ok with
  | true=>rfl
  | false=>unfold vG at hw;rw[if_neg (by omega),if_pos ho]at hw;cases hw
 have hna:=abv hok;have hnk:=aj5 hok;have htot:(jO l).1.bR=(oG (iV l).1.mP (l.G (iV l).1.dW)).bR:=by
  unfold jO Pf oG;rcases k2 with e|e<;>rw[e]<;>simp
 obtain⟨N,hN⟩:=cB ((iV l).1.dW);obtain⟨ty,hty⟩:∃t,t=(iV l).1.mP:=⟨_,rfl⟩
 have hE:(lW l).rE.e=N+(oG (iV l).1.mP (l.G (iV l).1.dW)).bR.e:=by rw[kp];simp only;rw[htot,hN];omega
 obtain⟨T,hT⟩:=cB ((oG (iV l).1.mP (l.G (iV l).1.dW)).bR.e);have hTi:(oG (iV l).1.mP (l.G (iV l).1.dW)).bR=T:=by omega
 rw[<-hT]at hE hnk;rw[hE];obtain⟨P,hP⟩:=cB ((l.G N).E T);rw[<-hN]at hnk hTi hok;rw[<-hP]at hnk;have hPl:P.a=T:=hnk.2.1;have shape:∃(ty':Int)(H:List UInt8)(pr:Int),(ty'=2048\/ty'=34525)/\(vG l a b).1=l.E (N-2)++(oV ty'++(H++P))/\Dt pr=ty/\H.a<=40/\oG ty' (H++P)=⟨H.a,H.a+T,pr,false,true⟩:=by
  have azr:∀t,oF (iV l).1.dst (iV l).1.h (iV l).1.dM t=l.E (N-2)++oV t:=fun t=>by
   unfold oF;rw[y3,<-y1,hN]
  have hpr:Dt (if(iV l).1.mP=34525 then 41 else 4)=ty:=by
   rw[hty];rcases k2 with e|e<;>rw[e]<;>rfl
  have aEl:∀p:Int,p=(if(iV l).1.mP=34525 then 41 else 4)->(p=41\/p=4):=fun p e=>by rw[e];split<;>simp
  obtain⟨pr,hpe⟩:∃p:Int,p=(if(iV l).1.mP=34525 then 41 else 4):=⟨_,rfl⟩
  have hpb:=aEl pr hpe;rw[<-hpe]at hpr;unfold vG at hw ⊢;rw[if_neg (by omega),if_neg (by rw[<-hN,hok];simp)]at hw ⊢;by_cases hf:ajO a b=false
  ·rw[if_pos hf]at hw;cases hw
  rw[if_neg hf]at hw ⊢;by_cases h6:a.h=true
  ·rw[if_pos h6]at hw ⊢
   rw[<-hN,hTi]at hw ⊢;by_cases hbig:(T:Int)>65535
   ·rw[if_pos hbig]at hw;cases hw
   rw[if_neg hbig]at hw ⊢;rw[<-hpe];refine⟨34525,oD ⟨40,40+T,64,false,0,pr,a,b⟩,pr,.a rfl,?_,hpr,by simp[oD],?_⟩
   ·simp only[azr,cK,<-hP,bM]
   ·have hHl:(oD ⟨40,40+T,64,false,0,pr,a,b⟩).a=40:=by simp[oD]
    have e40:((40:Int)+T-40).e=T:=by omega
    have b0:lK (oD ⟨40,40+T,64,false,0,pr,a,b⟩++P) 0=96:=rfl;have b4:dF (oD ⟨40,40+T,64,false,0,pr,a,b⟩++P) 4=T:=by
     show 256*(aJ (((40:Int)+T-40).e/256)).e+(aJ (((40:Int)+T-40).e%256)).e=T;rw[e40,jB,jB];omega
    have b6:(lK (oD ⟨40,40+T,64,false,0,pr,a,b⟩++P) 6:Int)=pr:=by
     show((aJ pr.e).e:Int)=pr;rw[jB];rcases hpb with e|e<;>rw[e]<;>rfl
    have hll:(oD ⟨40,40+T,64,false,0,pr,a,b⟩++P).a=40+T:=by rw[aQ,hHl,hPl]
    have hx:sG (Q8 (oD ⟨40,40+T,64,false,0,pr,a,b⟩++P)).aN=false:=by
     show sG ((lK _ 6:Nat):Int)=false;rw[b6];rcases hpb with e|e<;>rw[e]<;>rfl
    have hsx:yO (oD ⟨40,40+T,64,false,0,pr,a,b⟩++P)=(Q8 (oD ⟨40,40+T,64,false,0,pr,a,b⟩++P),0):=by
     unfold yO;rw[if_neg (by omega),if_neg (by rw[b0];decide),b4,if_neg (by omega),wo (.a hx)]
    unfold oG;rw[if_neg (by decide),if_pos rfl,hsx,hHl];unfold Q8;rw[b4,b6];rfl
  ·rw[if_neg h6]at hw ⊢
   rw[<-hN,hTi]at hw ⊢;by_cases hbig:(20:Int)+T>65535
   ·rw[if_pos hbig]at hw;cases hw
   rw[if_neg hbig]at hw ⊢;rw[<-hpe];obtain⟨x,hx⟩:∃x:Fo,x=⟨20,20+T,0,0,false,true,64,pr,a,b⟩:=⟨_,rfl⟩
   rw[<-hx];have hH4:zG x=[69,0,aJ ((20+(T:Int)).e/256),aJ ((20+(T:Int)).e%256),0,0,64,0,64,aJ pr.e,0,0]++a.b.a.E 4++b.b.a.E 4:=by rw[hx];simp[zG]
   have hl4:(zG x).a=20:=by rw[hH4];simp
   have hHl:(lS x).a=20:=by unfold lS LJ;rw[aS,aS,hl4]
   have hset:∀j,j≠10->j≠11->(lS x).b j 0=(zG x).b j 0:=fun j h1 h2=>by
    unfold lS LJ;rw[au,au,Ca (by omega),Ca (by omega)]
   have hgt:∀j,j<20->(lS x++P).b j 0=(lS x).b j 0:=fun j hj=>by rw[qI,hHl,if_pos hj]
   have g4:∀j,j<10->(lS x++P).b j 0=(zG x).b j 0:=fun j hj=>by rw[hgt j (by omega),hset j (by omega) (by omega)]
   have b0:lK (lS x++P) 0=69:=by unfold lK;rw[g4 0 (by omega),hH4];rfl
   have e20:((20:Int)+T).e=20+T:=by omega
   have b2:dF (lS x++P) 2=20+T:=by
    unfold dF;rw[g4 2 (by omega),g4 3 (by omega),hH4,e20];show 256*(aJ ((20+T)/256)).e+(aJ ((20+T)%256)).e=20+T;rw[jB,jB];omega
   have b6:dF (lS x++P) 6=16384:=by unfold dF;rw[g4 6 (by omega),g4 7 (by omega),hH4];rfl
   have b9:(lK (lS x++P) 9:Int)=pr:=by
    unfold lK;rw[g4 9 (by omega),hH4];show((aJ pr.e).e:Int)=pr;rw[jB];rcases hpb with e|e<;>rw[e]<;>rfl
   have hll:(lS x++P).a=20+T:=by rw[aQ,hHl,hPl]
   have hhd:qV (lS x++P)=20:=by unfold qV;rw[b0]
   have hsum:uo (lS x)=0:=by
    refine avh hl4 (by rw[hH4];rfl) (by rw[hH4];rfl) ?_;rw[hH4];show Ai (69::0::_)≠0;rw[zm];have:(69:UInt8).e=69:=rfl;omega
   have e0:wU (lS x++P)=0:=by
    rw[Cu,hhd,b0,b2,hll];refine⟨by omega,by decide,by omega,by omega,by omega,by omega,?_⟩;rw[fV (by omega),aK (by omega)];exact hsum
   have eF:wV (lS x++P)=(vZ (lS x++P),0):=by unfold wV;rw[if_pos e0]
   refine⟨2048,lS x,pr,.b rfl,?_,hpr,by omega,?_⟩
   ·simp only[azr,cK,<-hP,bM]
   ·unfold oG
    rw[if_pos rfl,eF,hHl];unfold vZ;rw[hhd,b2,b6,b9];simp
 obtain⟨ty',H,pr,hty',hv,hin,hHl,aEm⟩:=shape;have aEn:14<=N:=by omega
 have hNl:N<=l.a:=by omega
 have avj:(oV ty').a=2:=rfl;have hlen:(vG l a b).1.a=N+H.a+T:=by rw[hv];simp[avj,hPl];omega
 refine⟨?_,by omega⟩;obtain⟨y,hy⟩:=cB (sZ (vG l a b).1 d s);rw[<-hy];have hyl:y.a=N+H.a+T:=by rw[hy,Du,hlen]
 have hyg:∀j,12<=j->j<N+H.a+T->y.b j 0=(vG l a b).1.b j 0:=fun j h1 h2=>by
  rw[hy,KR _ _ _ _ (by rw[hlen];exact h2),if_neg (by omega),if_neg (by omega)]
 have htk:(l.E (N-2)).a=N-2:=by simp;omega
 have ag:Gn l y 12 (N-2):=fun j h1 h2=>by rw[hyg j h1 (by omega),hv,qI,htk,if_pos h2,kE,if_pos h2]
 have aKA:0<=ty'/\ty'<=65535:=by rcases hty' with e|e<;>rw[e]<;>decide
 have tw:(dF y (N-2):Int)=ty':=by
  have:dF y (N-2)=ty'.e:=ad6 ty'.e (by omega) y (N-2) (fun j hj=>by
   rw[hyg _ (by omega) (by omega),hv,qI,htk,if_neg (by omega),qI,avj,if_pos (by omega),cZ];rfl)
  omega
 have hdrop:y.G N=H++P:=by
  apply aj0
  ·simp[hyl,hPl];omega
  ·intro j hj
   have hj:j<H.a+T:=by simp[hyl]at hj;omega
   rw[kX,hyg _ (by omega) (by omega),hv,qI,htk,if_neg (by omega),qI,avj,if_neg (by omega)];congr 1;omega
 have hlk:iV y=(⟨lZ 6 y,lZ 6 (y.G 6),(iV l).1.dM,ty',N⟩,0):=by
  have aEo:¬l.a<14:=by omega
  have hg:iV l=rF l 2 14 []:=by unfold iV;rw[if_neg aEo]
  rw[hg]at hN k1 ⊢;have:=Y1 (l:=l) (m:=y) 2 14 [] (by omega) k1 (by rw[<-hN];exact ag) (by rw[<-hN];omega) (by rw[<-hN,tw];rcases hty' with e|e<;>rw[e]<;>rfl);rw[<-hN,tw]at this;unfold iV;rw[if_neg (by omega)];exact this
 have htn:Ao y=⟨H.a,H.a+T,pr,false,true⟩:=by unfold Ao;rw[hlk];simp only;rw[if_neg (by simp),hdrop,aEm]
 have hpk:Ch y=H++P:=by
  unfold Ch;rw[htn,hlk];simp only;rw[if_neg (by simp),hdrop];exact aK (by rw[aQ,hPl];omega)
 have hPd:(H++P).G ((H.a:Int)).e=P:=by rw[cK,List.drop_left]
 unfold ad2;rw[htn,hpk,hlk];simp only;rw[hPd,hin,if_neg (by simp)];rw[<-hty]at hok hTi hnk;have aEp:oG ty P=oG ty (l.G N):=hnk.1;rw[aEp,if_neg (by rw[hok];simp),hTi,cK,aK (by omega)];congr 1;have v1:lZ 6 y=d:=by
  apply AB;intro i hi;simp only[lZ,oK];rw[hy,KR _ _ _ _ (by omega),if_pos hi];simp[au,hi]
 have v2:lZ 6 (y.G 6)=s:=by
  apply AB;intro i hi;simp only[lZ,oK];rw[kX,hy,KR _ _ _ _ (by omega),if_neg (by omega),if_pos (by omega),cZ];simp[au,hi]
 rw[v1,v2];have eN:l.E N=l.E 12++((iV l).1.dM.d yP++oV ty):=by
  have:=abE l (N-2) (by omega);rw[show N-2+2=N by omega]at this;rw[this,hN,y1,<-y2,<-hty,bM]
 have e12:(l.E 12).a=12:=by simp;omega
 rw[show l.E (N+T)=l.E N++P by rw[hP,List.take_add],eN,bM (l.E 12),yS e12];unfold oF;simp only[bM]
theorem aia(l:List UInt8):0<=(lW l).kind/\(lW l).kind<=6:=by
 unfold lW yJ
 repeat' split
 all_goals simp
theorem aqR(e:En)(v:Vp)(b:Bk)(t:Tu)(l:List UInt8):(DU e v b t l).1=0\/(DU e v b t l).1=9\/(DU e v b t l).1=10:=by
 unfold DU
 repeat' split
 all_goals simp
theorem agr(e:En)(s:qE)(l:List UInt8):0<=(oW e s l).jm/\(oW e s l).jm<=10:=by
 have h1:=aia l;unfold oW;split
 ·split
  ·split
   ·rename_i i _ _ b Bo _
    have:=aqR e (e.vs.b i mJ) b (lW l).K l;split<;>simp only<;>omega
   ·simp
  ·simp
 ·simp only;omega
theorem Oy{e:En}{s:qE}{l:List UInt8}(h:(oW e s l).jm=0):(lW l).kind=0/\∃i,sQ e.vs (lW l).K.dst (lW l).K.aN (lW l).K.iG=some i/\Ef e s (lW l).K=some ((oW e s l).h,(oW e s l).Bo)/\(DU e (e.vs.b i mJ) (oW e s l).h (lW l).K l).1=0/\(oW e s l).i=(DU e (e.vs.b i mJ) (oW e s l).h (lW l).K l).2:=by
 unfold oW at h ⊢;by_cases h1:(lW l).kind=0
 ·rw[if_pos h1]at h ⊢
  cases hv:sQ e.vs (lW l).K.dst (lW l).K.aN (lW l).K.iG with
  | none=>rw[hv]at h;simp at h
  | some i=>
    rw[hv]at h;simp only at h ⊢;cases hb:Ef e s (lW l).K with
    | none=>rw[hb]at h;simp at h
    | some bh=>
      obtain⟨b,Bo⟩:=bh;rw[hb]at h;simp only at h ⊢;by_cases ho:(DU e (e.vs.b i mJ) b (lW l).K l).1=0
      ·rw[if_pos ho];exact⟨h1,i,rfl,rfl,ho,rfl⟩
      ·rw[if_neg ho]at h;exact absurd h ho
 ·rw[if_neg h1]at h;exact absurd h h1
theorem anz{s:qE}{t:Tu}{n:List UInt8}(h:Ox s t=some n):∃f,qp s.tQ t=some f/\f.F=n/\rX s.h n=true/\yG (oM s.J) n=false:=by
 unfold Ox at h;split at h
 ·rename_i f hf
  split at h
  ·rename_i hc
   injection h with h
   subst h;simp only[bf,oO]at hc;exact⟨f,hf,rfl,hc.1,hc.2⟩
  ·cases h
 ·cases h
theorem avk{s:qE}{t:Tu}{f:Fw}(hf:qp s.tQ t=some f)(h1:rX s.h f.F=true)(h2:yG (oM s.J) f.F=false):Ox s t=some f.F:=by
 unfold Ox;rw[hf];simp only;rw[h1,h2];rfl
theorem aqS{ls:List (List UInt8)}{rT:List Bk}{key:Vector UInt8 16}{n h:Nat}{m:List UInt8}(hp:mh n=true)(hpk:Il (uZ key n (lH ls rT)) h=some m):∃x∈rT,x.F=m/\x.drain=false/\yG ls m=false:=by
 have h0:∀x∈lH ls rT,0<=x.q:=fun x hx=>by
  unfold lH at hx;obtain⟨y,_,rfl⟩:=jf.1 hx;unfold GN;simp only;split
  ·exact Int.le_refl _
  ·exact Int.natCast_nonneg _
 unfold Il at hpk;rcases YB (key:=key) hp h0 with⟨h1,_⟩|⟨h1,h2⟩
 ·rw[h1]at hpk;simp at hpk
 ·have hn:0<n:=by
   rcases eB n with e|e
   ·subst e;rw[h1]at hpk;simp at hpk
   ·exact e
  rw[if_neg (by omega),h1]at hpk;injection hpk with hpk
  obtain⟨i,hi,hs⟩:=h2 (h%n) (fP _ hn);rw[hs,cK,au,aC hi,jJ]at hpk;have hm:m∈(uZ key n (lH ls rT)).h:=by rw[<-hpk];exact eZ hi
  unfold uZ at hm;simp only at hm;split at hm
  ·simp at hm
  ·obtain⟨x,hx,rfl⟩:=jf.1 hm
   obtain⟨hx1,hx2⟩:=mY.1 hx;unfold lH at hx1;obtain⟨y,hy,rfl⟩:=jf.1 hx1;refine⟨y,hy,rfl,?_⟩;unfold GN at hx2 ⊢;simp only at hx2 ⊢;cases hd:y.drain<;>cases ho:yG ls y.F<;>rw[hd,ho]at hx2<;>simp at hx2;exact⟨rfl,rfl⟩
theorem og.srt{M:Int}{e:En}{s:qE}(h:og M e s):Fj s.h:=(vT.1 h.pl).2.2.2.2
theorem abF{M:Int}{e:En}{s:qE}(h:og M e s){t:Tu}{b:Bk}{Bo:Bool}(hb:Ef e s t=some (b,Bo)):b∈s.h/\yG (oM s.J) b.F=false/\(Bo=true->Ox s t=some b.F)/\(Bo=false->Ox s t=none/\Il (Bj e s) (ahZ e t)=some b.F):=by
 unfold Ef at hb;cases hh:Ox s t with
 | some n=>
   rw[hh]at hb;simp only[Option.some.injEq,Prod.mk.injEq]at hb;obtain⟨rfl,rfl⟩:=hb;obtain⟨f,_,_,h1,h2⟩:=anz hh;obtain⟨g1,g2⟩:=TL h1;rw[g2];exact⟨g1,h2,fun _=>rfl,fun e=>by cases e⟩
 | none=>
   rw[hh]at hb;simp only at hb;cases hp:Il (Bj e s) (ahZ e t)with
   | none=>rw[hp]at hb;cases hb
   | some n=>
     rw[hp]at hb;simp only[nS,Option.some.injEq,Prod.mk.injEq]at hb;obtain⟨rfl,rfl⟩:=hb;obtain⟨x,hx,hn,_,ho⟩:=aqS (uj h.cn).1.2.2 hp;subst hn;rw[adg h.srt hx];exact⟨hx,ho,fun e=>(by cases e),fun _=>⟨rfl,rfl⟩⟩
theorem aj6{M:Int}{e:En}{s:qE}(h:og M e s){t:Tu}{b:Bk}{Bo:Bool}(hb:Ef e s t=some (b,Bo)):rX s.h b.F=true/\qg s.h b.F=b:=by
 obtain⟨h1,_⟩:=abF h hb;exact⟨(amj h.srt).2 ⟨b,h1,rfl⟩,adg h.srt h1⟩
theorem aib(l:List UInt8):rz (xK l)=true:=by
 unfold rz xK;simp only[Bool.false_or,gq,beq_iff_eq];intro x hx;obtain⟨j,hj,rfl⟩:=lC.1 hx;simp only[lZ,List.getElem_drop,Vector.getElem_toList,oK];rw[kE,if_neg (by omega)]
theorem aic(l:List UInt8):rz (Dn l)=true:=rfl
theorem azs{l:List UInt8}(h:(lW l).kind=0):Gz (lW l).K=true/\((lW l).K.aN=6\/(lW l).K.aN=17):=by
 have F:=xM h;obtain⟨t1,t2,t3,t4⟩:=Y0 h;have hs:rz (lW l).K.h=true:=by rw[t1];split;exact aic _;exact aib _
 have hd:rz (lW l).K.dst=true:=by rw[t2];split;exact aic _;exact aib _
 have b1:=JL l (lW l).ru.e;have b2:=JL l ((lW l).ru.e+2);have hp:=F.pro;refine⟨?_,hp⟩;unfold Gz Yf;rw[hs,hd];simp only[bf,decide_eq_true_eq];have:=F.fam;refine⟨⟨⟨⟨⟨this,trivial⟩,trivial⟩,?_⟩,?_⟩,?_⟩<;>omega
theorem Qs{M:Int}{e:En}{s:qE}(h:og M e s){l:List UInt8}(hw:(oW e s l).jm=0){i:Nat}(hv:sQ e.vs (lW l).K.dst (lW l).K.aN (lW l).K.iG=some i)(ht:(e.vs.b i mJ).Ak=false):
 lW (oW e s l).i={lW l with K:={(lW l).K with dst:=(oW e s l).h.h,iG:=(oW e s l).h.ni}}/\(oW e s l).i.a=(lW l).rE.e:=by
 obtain⟨hk,j,h1,h2,h3,h4⟩:=Oy hw;rw[hv]at h1;injection h1 with h1
 subst h1;have hf:=(vT.1 h.pl).2.2.2.1 _ (abF h h2).1;unfold Bk.Cz at hf;simp only[bf,kR,decide_eq_true_eq]at hf;obtain⟨⟨⟨⟨⟨f1,_⟩,f2⟩,f3⟩,_⟩,_⟩:=hf;have F:=xM hk;unfold DU at h3 h4;rw[if_neg (by rw[ht];simp)]at h3 h4;by_cases h6:(oW e s l).h.h.h=(lW l).K.dst.h
 ·rw[if_pos h6]at h3 h4
  have ok:Ip l (oW e s l).h.h (oW e s l).h.ni=true:=by
   unfold Ip;simp only[bf,beq_iff_eq,kR,decide_eq_true_eq];refine⟨⟨hk,by rw[h6,F.fam],?_⟩,by omega,f3⟩;rcases f1 with f1|f1
   ·left;rw[F.fam,<-h6];exact f1
   ·exact .a f1
  obtain⟨r1,r2,_⟩:=aqO (dst:=true) ok (oW e s l).h.xQ e.c.xQ;rw[h4];exact⟨r1,by rw[Du];exact r2⟩
 ·rw[if_neg h6]at h3;cases h3
theorem Y8{M:Int}{e:En}{s:qE}(h:og M e s){l:List UInt8}(hw:(oW e s l).jm=0){i:Nat}(hv:sQ e.vs (lW l).K.dst (lW l).K.aN (lW l).K.iG=some i)(ht:(e.vs.b i mJ).Ak=true):
 ad2 (oW e s l).i=((oW e s l).h.xQ.a++e.c.xQ.a++(l.E (lW l).rE.e).G 12,0)/\14<=(oW e s l).i.a:=by
 obtain⟨hk,j,h1,h2,h3,h4⟩:=Oy hw;rw[hv]at h1;injection h1 with h1
 subst h1;unfold DU at h3 h4;rw[if_pos ht]at h3 h4;by_cases h6:(vG l (if(oW e s l).h.h.h=true then e.c.h else e.c.Dl) (oW e s l).h.h).2=0
 ·rw[if_pos h6]at h3 h4
  obtain⟨r1,r2⟩:=anx hk h6 (oW e s l).h.xQ e.c.xQ;rw[h4];exact⟨r1,by rw[Du];exact r2⟩
 ·rw[if_neg h6]at h3;cases h3
theorem ags{M:Int}{e:En}{s:qE}(h:og M e s){l:List UInt8}(hw:(oW e s l).jm=0):14<=(oW e s l).i.a/\(oW e s l).i.E 6=(oW e s l).h.xQ.a/\((oW e s l).i.G 6).E 6=e.c.xQ.a:=by
 obtain⟨hk,i,h1,h2,h3,h4⟩:=Oy hw;have F:=xM hk;have hlen:14<=(oW e s l).i.a:=by
  cases ht:(e.vs.b i mJ).Ak with
  | true=>exact(Y8 h hw h1 ht).2
  | false=>rw[(Qs h hw h1 ht).2];have:=F.h;have:=F.ru;have:=F.rE;split at * <;> split at * <;> omega
 have ho:∃x,(oW e s l).i=sZ x (oW e s l).h.xQ e.c.xQ:=by
  rw[h4];unfold DU at h3 ⊢
  repeat' split
  all_goals(first|exact⟨_,rfl⟩|(simp_all;done))
 obtain⟨x,hx⟩:=ho;refine⟨hlen,?_,?_⟩
 ·rw[hx]at hlen ⊢
  rw[Du]at hlen;unfold sZ;rw[qw,lU (by omega),bM,yQ (by simp)]
 ·rw[hx]at hlen ⊢
  rw[Du]at hlen;unfold sZ;rw[oQ,qw,lU (by omega),bM,yS (by simp),yQ (by simp)]
theorem abG{l:List UInt8}(h:(lW l).kind=0)(a b:Vector UInt8 6):(a.a++b.a++(l.E (lW l).rE.e).G 12).a=(lW l).rE.e:=by
 have F:=xM h;have:=F.h;have:=F.ru;have:=F.rE;have:=F.len;simp;split at * <;> split at * <;> omega
def anA(c:Cn)(h:Hl)(n:List UInt8):Bool:=(h.F==n)&&(decide (0<=h.O)&&decide (h.O<if h.down then c.kI else c.fall))
def JO(c:Cn)(s:qE)(k:Nat):Bool:=anA c (s.J.b k lY) (s.h.b k jq).F
def Y9(l:List Fw)(k:Nat):Bool:=(l.E k).any (uQ (l.b k lu).key)
def SK(s:qE)(k:Nat):Bool:=EA (s.tQ.b k lu)&&(decide ((s.tQ.b k lu).seen<=s.ig)&&(decide (1<=(s.tQ.b k lu).no)&&(decide ((s.tQ.b k lu).no<=s.no)&&(!Y9 s.tQ k&&(decide (k=0)||mo (s.tQ.b (k-1) lu) (s.tQ.b k lu))))))
def ad8(s:qE):Bool:=Yf s.ig 1099511627776&&(Yf s.no 1152921504606846976&&s.mV.a.all (Yf · 1152921504606846976))
def Wu(c:Cn)(vs:List Vp)(s:qE):Bool:=zA c vs&&(zf s.nP s.h&&(decide (s.J.a=s.h.a)&&decide ((s.tQ.a:Int)<=c.dV)))
def Ap(c:Cn)(vs:List Vp)(s:qE):Bool:=Wu c vs s&&(ad8 s&&((eu s.J.a).all (JO c s)&&(eu s.tQ.a).all (SK s)))
theorem aj7{α:Type}{lt:α->α->Bool}(hs:Jp lt){l:List α}(h:∀(i:Nat)(hi:i+1<l.a),lt (l[i]'(by omega)) l[i+1]=true):Asc lt l:=by
 unfold Asc;rw[gF];intro i j hi hj hij;obtain⟨d,rfl⟩:∃d,j=i+1+d:=⟨j-i-1,by omega⟩
 induction d with
 | zero=>exact h i hj
 | succ d ih=>exact hs.tr _ _ _ (ih (by omega) (by omega)) (h (i+1+d) hj)
theorem vH{α:Type}{l:List α}{d:α}{k:Nat}(hk:k<l.a):l.b k d=l[k]:=by
 rw[au,aC hk,jJ]
theorem aj8{dV:Int}{s:qE}(hl:(s.tQ.a:Int)<=dV)(h:∀k,k<s.tQ.a->SK s k=true):xI dV s.tQ/\∀f∈s.tQ,f.seen<=s.ig/\1<=f.no/\f.no<=s.no:=by
 have H:∀(k:Nat)(hk:k<s.tQ.a),EA s.tQ[k]=true/\(s.tQ[k].seen<=s.ig/\1<=s.tQ[k].no/\s.tQ[k].no<=s.no)/\Y9 s.tQ k=false/\(k=0\/mo (s.tQ.b (k-1) lu) s.tQ[k]=true):=fun k hk=>by
  have:=h k hk;unfold SK at this;rw[vH hk]at this;simp only[bf,decide_eq_true_eq,oO,kR]at this;exact⟨this.1,⟨this.2.1,this.2.2.1,this.2.2.2.1⟩,this.2.2.2.2.1,this.2.2.2.2.2⟩
 refine⟨⟨aj7 uK (fun i hi=>?_),?_,?_,hl⟩,fun f hf=>?_⟩
 ·rcases(H (i+1) hi).2.2.2 with e|e
  ·omega
  ·rw[Nat.add_sub_cancel,vH (by omega)]at e;exact e
 ·rw[gF]
  intro i j hi hj hij e;have h1:=(H j hj).2.2.1;unfold Y9 at h1;rw[vH hj,qL]at h1;refine h1 s.tQ[i] ?_ (by simp[uQ,e]);rw[sK];exact⟨i,by omega,rfl⟩
 ·intro x hx
  obtain⟨k,hk,rfl⟩:=lC.1 hx;exact(H k hk).1
 ·obtain⟨k,hk,rfl⟩:=lC.1 hf
  exact(H k hk).2.1
theorem agt{c:Cn}{vs:List Vp}{s:qE}(key:Vector UInt8 16)(h:Ap c vs s=true)(hf:∀x∈s.h,x.sD):og 1152921504606846976 ⟨key,c,vs⟩ s:=by
 unfold Ap Wu ad8 Yf at h;simp only[bf,decide_eq_true_eq,gq,fq]at h;obtain⟨⟨h1,h2,h3,h4⟩,⟨h5,h6,h7⟩,h8,h9⟩:=h;obtain⟨f1,f2⟩:=aj8 h4 h9;have H:∀(k:Nat)(hk:k<s.J.a),s.J[k].F=(s.h[k]'(by omega)).F/\0<=s.J[k].O/\s.J[k].O<(if s.J[k].down then c.kI else c.fall):=fun k hk=>by
  have:=h8 k hk;unfold JO anA at this;rw[vH hk,vH (by omega)]at this;simpa using this
 refine⟨h1,h2,hf,?_,?_,f1,f2,by omega,by omega,h7⟩
 ·apply List.ext_getElem (by simpa using h3)
  intro i hi1 hi2;simp only[List.getElem_map];exact(H i (by simpa using hi1)).1
 ·intro x hx
  obtain⟨k,hk,rfl⟩:=lC.1 hx;exact(H k hk).2
theorem og.right{M:Int}{e:En}{s:qE}(h:og M e s)(hM:M<=1152921504606846976):Ap e.c e.vs s=true:=by
 have hlen:s.J.a=s.h.a:=by have:=congrArg List.length h.nm;simpa using this
 unfold Ap Wu ad8 Yf;simp only[bf,decide_eq_true_eq,gq,fq];refine⟨⟨h.cn,h.pl,hlen,h.fl.len⟩,⟨h.ti,by have:=h.no;omega,fun n hn=>by have:=h.ct n hn;omega⟩,fun k hk=>?_,fun k hk=>?_⟩
 ·unfold JO anA
  rw[vH hk,vH (show k<s.h.a by omega)];have e1:s.J[k].F=(s.h[k]'(by omega)).F:=by
   have:=List.getElem_of_eq h.nm (i:=k) (by simpa using hk);simpa using this
  have:=h.hl _ (eZ hk);simp only[bf,decide_eq_true_eq,beq_iff_eq];exact⟨e1,this⟩
 ·unfold SK
  rw[vH hk];have h1:=h.fw _ (eZ hk);simp only[bf,decide_eq_true_eq,oO,kR];refine⟨h.fl.ok _ (eZ hk),h1.1,h1.2.1,h1.2.2,?_,?_⟩
  ·unfold Y9
   rw[vH hk,qL];intro x hx;rw[sK]at hx;obtain⟨i,hi,rfl⟩:=hx;have:=gF.1 h.fl.one i k (by omega) hk (by omega);simpa[uQ]using this
  ·rcases eB k with e|e
   ·exact .b e
   ·right
    rw[vH (by omega)];exact gF.1 h.fl.asc (k-1) k (by omega) hk (by omega)
theorem anB{dV:Int}{l:List Fw}{k:Nat}(h:xI dV l)(hk:k<l.a):ED dV (l.E k) (l.b k lu)=l.E (k+1):=by
 rw[vH hk];have hn:qp (l.E k) l[k].key=none:=by
  unfold qp;rw[List.find?_eq_none];intro x hx;rw[sK]at hx;obtain⟨i,hi,rfl⟩:=hx;have:=gF.1 h.one i k (by omega) hk (by omega);simpa[uQ]using this
 have hlen:=h.len;unfold ED;rw[if_pos (h.ok _ (eZ hk)),hn,if_neg (by simp),if_neg (by rw[bE];omega),ac2 (fun x hx=>uK.asy ?_),dU hk];rw[sK]at hx;obtain⟨i,hi,rfl⟩:=hx;exact gF.1 h.asc i k (by omega) hk (by omega)
theorem Qt{c:Cn}{vs:List Vp}(key:Vector UInt8 16)(h:zA c vs=true):og 0 ⟨key,c,vs⟩ wT:=by
 have hr:=(uj h).2.1;refine⟨h,vT.2 ⟨?_,?_,?_,?_,?_⟩,(fun x hx=>by cases hx),rfl,(fun x hx=>by cases hx),.nil ?_,(fun x hx=>by cases hx),?_,?_,fun n hn=>?_⟩
 ·simp[wT]
 ·simp[wT]
 ·simp[wT]
 ·intro x hx;cases hx
 ·exact List.Pairwise.nil
 ·show 0<=c.dV;omega
 ·simp[wT]
 ·simp[wT]
 ·simp[wT]at hn;omega
def Bw(z:Int):Bool:=decide (z<0)||decide (1152921504606846976<z)
theorem aj9(z:Int):Bw z = !Yf z 1152921504606846976:=by
 unfold Bw Yf;rw[Bool.eq_iff_iff];simp only[kR,decide_eq_true_eq,oO,Bool.and_eq_false_iff,decide_eq_false_iff_not];omega
theorem abH(z:Int)(w:ak):aR ah 47 #[.b .a z] w fun e w'=>e=.a (.e (Bw z))/\w=w':=by
 have HB:=ab (show Bw z=(decide (z<0)||decide (1152921504606846976<z))from rfl);go_enter Tryz.func47,Tryz.ntmps47;go_wp2
 all_goals(go_ret;refine⟨?_,rfl⟩;rw[HB.i];simp_all)
theorem ad9(args:Array aB)(w:ak):(callFunc 47 args).O ah w=.ok (.enter 47 args) w:=by kernel_rfl
theorem RdI.dW{w:ak}{B n:Nat}{A:Option aV}{l:List Int}(h:RdI w B A n l){k:Nat}(hk:k<n):∃b o,A=some ⟨b,o,none⟩/\w.b ⟨b,o+k,none⟩=some (.b .a (l.b k 0)):=by
 obtain⟨b,o,hA,hb,hc⟩:=iT.cell (f:=GU) (s:=1) (fun _=>rfl) 0 h hk;refine⟨b,o,hA,?_⟩;have:=hc 0 (by omega);rw[gP,kQ]at this;exact this
theorem avm(A:Option aV)(n c B:Nat)(w:ak)(l:List Int)(hc:n<=1000000000)(hr:RdI w B A n l):
 aR ah 114 #[.a A n c,.func (.func 47) #[] #[]] w fun e w'=>∃r:Int,e=.a (.b .a r)/\(decide (0<=r)=l.any Bw)/\w=w':=by
 have hen:=ad9;have GG:=ab abH;have HR:=ab hr;have hl:=ab hr.len;clear hr;go_enter Tryz.func114,Tryz.ntmps114;go_wp2;go_loop [8] (fun s8=>∃i:Nat,i<=n/\s8=.b .a i/\∀j,j<i->Bw (l.b j 0)=false) (fun s8=>n-(intOf s8).e)
 case atStart=>exact⟨0,by omega,rfl,fun j h1=>by omega⟩
 case round=>
  obtain⟨i,hi,rfl,hall⟩:=hrel;have HA:=ab hall;clear hall;by_cases hlt:i<n
  ·have hin:(i:Int)<n:=by omega
   obtain⟨b,o,rfl,hcell⟩:=HR.i.dW hlt;have HG:=ab (vH (l:=l) (d:=0) (k:=i) (by rw[hl.i];exact hlt));obtain⟨m,hm⟩:=cB (l.b i 0);rw[<-hm]at hcell;have HM:=ab hm;clear hm;obtain⟨k,hk⟩:=uP (Bw m);have HK:=ab hk;have G1:=ab (fun w=>GG.i m w);rw[hk]at G1;clear hk;cases k
   ·go_wp2_with (refine(G1.i _).g ?_;rintro e w' ⟨rfl,rfl⟩)
    go_round
    case rel=>exact⟨i+1,by omega,by go_num,fun j h1=>by
     by_cases hji:j=i
     ·rw[hji,<-HM.i];exact HK.i
     ·exact HA.i j (by omega)⟩
    case measure=>simp[intOf]<;>omega
   ·have Ez:=ab (show l.any Bw=true from List.any_eq_true.2 ⟨m,by rw[HM.i,HG.i];exact eZ _,HK.i⟩)
    go_wp2_with (refine(G1.i _).g ?_;rintro e w' ⟨rfl,rfl⟩);go_ret;exact⟨_,rfl,by rw[Ez.i];simp,rfl⟩
  ·obtain rfl:i=n:=by omega
   have HS:=ab (show l.any Bw=false from qL.2 (fun x hx=>by
    obtain⟨j,hj,rfl⟩:=lC.1 hx;have:=HA.i j (by rw[hl.i]at hj;exact hj);rw[vH hj]at this;simp[this]))
   go_wp2;go_ret;exact⟨_,rfl,by rw[HS.i];simp,rfl⟩
theorem avn(A:Option aV)(n c B:Nat)(w:ak)(l:List Int)(hc:n<=1000000000)(hr:RdI w B A n l):
 aR ah 46 #[.a A n c,.func (.func 47) #[] #[]] w fun e w'=>e=.a (.e (l.any Bw))/\w=w':=by
 have I:=ab (avm A n c B w l hc hr);clear hr;go_enter Tryz.func46,Tryz.ntmps46;go_wp2_with (go_at_call 114;refine I.i.g ?_;rintro e w' ⟨r,rfl,hr,rfl⟩);go_ret;exact⟨by simp,rfl⟩
theorem aqT(v:Vector Int 11):(v.a.any Bw) = !v.a.all (Yf · 1152921504606846976):=by
 rw[List.not_all_eq_any_not];congr 1;funext z;exact aj9 z
structure Sl where
 acZ:Bool
 rP:Fw
def Sl.ay(x:Sl):Array aB:=#[.e x.acZ]++x.rP.ay
theorem Sl.J(x:Sl):x.ay.j=42:=by simp[Sl.ay,Fw.J]
theorem Sl.dx(x:Sl):x.ay.all (·.h)=true:=iy ((by simp[dA])) (Fw.dx _)
@[go_sem]theorem Sl.eU(x:Sl):eU x.ay=42:=Sl.J x
@[go_sem]theorem Sl.all(x:Sl):x.ay.m 0 42=x.ay:=by have:=Sl.J x;rw[<-this];simp
@[go_sem]theorem Sl.OB(x:Sl):x.ay[0]? = some (.e x.acZ):=by simp[Sl.ay,aD,Fw.J]
@[go_sem]theorem Sl.Ug(x:Sl):x.ay.m 1 42=x.rP.ay:=by simp[Sl.ay,bZ,Fw.J,qA,uR]
def Hu:Sl:=⟨false,lu⟩
@[go_sem]theorem azt:cO #[bP false,bP false,aA,aA,aA,aA,aA,aA,aA,aA,aA,aA,aA,aA,aA,aA,aA,aA,bP false,aA,aA,aA,aA,aA,aA,aA,aA,aA,aA,aA,aA,aA,aA,aA,aA,bg,bg,bg,iK {data:=#[]},bg,bg,bg]=cO Hu.ay:=rfl
@[go_sem]theorem avo:eX #[bP false,bP false,aA,aA,aA,aA,aA,aA,aA,aA,aA,aA,aA,aA,aA,aA,aA,aA,bP false,aA,aA,aA,aA,aA,aA,aA,aA,aA,aA,aA,aA,aA,aA,aA,aA,bg,bg,bg,iK {data:=#[]},bg,bg,bg] 213=eX Hu.ay 213:=rfl
theorem kSl:pQ 213 42 Hu.ay:=⟨⟨_,uW,rfl⟩,by kernel_rfl,by kernel_rfl,Sl.J _⟩
@[go_sem ↓]theorem aKC(v:aB):dw 213 v=yU 213 v:=rfl
@[go_sem ↓]theorem aKD(v x:aB):eY 213 v x=zX 213 v x:=rfl
@[go_sem]theorem aHt(W:ak)(b o:Nat)(h:yE W b o 42):(yU 213 (.c (some ⟨b,o,none⟩))).O ah W=.ok (.d (eH W b o 42)) W:=kSl.ld W b o h
@[go_sem]theorem aEq(W:ak)(c:Array aB)(x:Sl)(b:Nat)(hb:b=W.a.j)(hc:eU c=42):(zX 213 (.c (some ⟨b,0,none⟩)) (.d x.ay)).O ah (W.alloc (.D c 213))=.ok () (W.alloc (.D x.ay 213)):=kSl.stN W c x.ay b hb hc (Sl.J x) (Sl.dx x)
@[go_sem]theorem aHu(W:ak)(b o:Nat)(x:Sl)(h:W.S b o 42):(zX 213 (.c (some ⟨b,o,none⟩)) (.d x.ay)).O ah W=.ok () (gV W b o x.ay):=kSl.st W b o x.ay h (Sl.J x) (Sl.dx x)
@[go_sem ↓]theorem aKE(ps:Array (Nat×aB)):fU 213 ps=vK 213 ps:=rfl
theorem azu(w:ak)(fs:Array Field)(h:ah.underlying 213=some (.struct fs)):(iI (fun f=>Prod.mk f.offset <$> sizeOf f.type) fs:Sem (Array (Nat×Nat))).O ah w=.ok #[(0,1),(1,41)] w:=by
 have e:=uW;rw[h]at e;cases e;show _=_
 kernel_rfl
@[go_sem]theorem aEr(W:ak):(vK 213 #[]).O ah W=.ok (.d Hu.ay) W:=kSl.bd0 W _ uW ⟨_,azu W _ uW⟩
@[go_sem]theorem azv(W:ak)(acZ:Bool)(rP:Fw):(vK 213 #[(0,.e acZ),(1,.d (rP.ay))]).O ah W=.ok (.d (Sl.mk acZ rP).ay) W:=kSl.bd W _ _ _ _ uW (azu W _ uW) (by
 refine vV (Sl.J _) ?_ ?_
 ·simp[sF,dz,Fw.J]
 ·simp[rM,dz,Sl.ay]<;>(simp only[<-Array.append_assoc];rfl))
structure Tk where
 key:Vector UInt8 16
 dV:Int
 count:Int
 rG:Option aV
 qB:Nat
 zH:Nat
def Tk.ay(x:Tk):Array aB:=jl x.key ++ #[.b .a x.dV,.b .a x.count,.a x.rG x.qB x.zH]
theorem Tk.J(x:Tk):x.ay.j=19:=by simp[Tk.ay,dO]
@[go_sem]theorem Tk.abI(x:Tk):x.ay.m 0 16=jl x.key:=by simp[Tk.ay,bZ,dO,qA,uR]
@[go_sem]theorem Tk.TV(x:Tk):x.ay[16]? = some (.b .a x.dV):=by simp[Tk.ay,aD,dO]
@[go_sem]theorem Tk.aea(x:Tk):x.ay[17]? = some (.b .a x.count):=by simp[Tk.ay,aD,dO]
@[go_sem]theorem Tk.zI(x:Tk):x.ay[18]? = some (.a x.rG x.qB x.zH):=by simp[Tk.ay,aD,dO]
theorem Tk.Qu(x:Tk)(v:Int):x.ay.c 17 (.b .a v)=({x with count:=v}:Tk).ay:=by simp[Tk.ay,Array.setIfInBounds_append,dO]
def aj':Tk:=⟨(bG 16 0),0,0,none,0,0⟩
@[go_sem]theorem azw:cO #[aA,aA,aA,aA,aA,aA,aA,aA,aA,aA,aA,aA,aA,aA,aA,aA,bg,bg,bB none 0 0]=cO aj'.ay:=rfl
@[go_sem]theorem avp:eX #[aA,aA,aA,aA,aA,aA,aA,aA,aA,aA,aA,aA,aA,aA,aA,aA,bg,bg,bB none 0 0] 207=eX aj'.ay 207:=rfl
theorem kTk:pQ 207 19 aj'.ay:=⟨⟨_,Er,rfl⟩,by kernel_rfl,by kernel_rfl,Tk.J _⟩
@[go_sem ↓]theorem aKG(v:aB):dw 207 v=yU 207 v:=rfl
@[go_sem ↓]theorem aKH(v x:aB):eY 207 v x=zX 207 v x:=rfl
@[go_sem ↓]theorem aKI(ps:Array (Nat×aB)):fU 207 ps=vK 207 ps:=rfl
theorem aEs(w:ak)(fs:Array Field)(h:ah.underlying 207=some (.struct fs)):(iI (fun f=>Prod.mk f.offset <$> sizeOf f.type) fs:Sem (Array (Nat×Nat))).O ah w=.ok #[(0,16),(16,1),(17,1),(18,1)] w:=by
 have e:=Er;rw[h]at e;cases e;show _=_
 kernel_rfl
def xB:Option Fw->Sl
 | none=>Hu
 | some f=>⟨true,f⟩
theorem JQ(o:Option Fw):(xB o).acZ=o.isSome:=by cases o<;>rfl
def slC(o:Option Fw):Array aB:=(xB o).ay
theorem FW(o:Option Fw):(slC o).j=42:=Sl.J _
section
attribute [local go_sem high] iR jI
theorem yL(w:ak):∃(T:Type)(f:T->ak)(n0:T),f n0=w.drew/\(∀n,aM w.a.j w (f n))/\(∀W,aM w.a.j w W->∃n,W=f n):=Jh (aM w.a.j w) w (aG _ _).drew
theorem aeb(n:Nat)(z:Int)(hz:z=n)(hn:n<=4)(p:Nat)(s:S4)(hs:s.ok)(W:ak)(hb:dP W p s.ay):aR ah 183 #[.c (some ⟨p,0,none⟩),.b .a z] W fun e W'=>e=.a (.K #[])/\dP W' p (AO La n s).ay/\W.d W' (some p):=by subst hz;exact afk n hn p s hs W hb
theorem aec(p:Nat)(s:S4)(n:Nat)(hs:s.ok)(hn:n<18446744073709551616)(W:ak)(hb:dP W p s.ay):aR ah 182 #[.c (some ⟨p,0,none⟩),.b .c n] W fun e W'=>e=.a (.K #[])/\dP W' p (UZ s n).ay/\W.d W' (some p):=by
 obtain⟨a,b,c,d⟩:=s;have HS:=ab hs;obtain⟨y1,y2,y3,y4,y5⟩:=hb.num;simp only[S4.ok]at hs y1 y2 y3 y4;have e1:=qo d n hs.2.2.2 hn;have OK1:=ab (ahu HS.i hn);have X1:=ab (hb.p3 (d ^^^ n));have G1:=ab (yX (aht W (some p)) (p:=⟨p,3,none⟩) (.b rfl) (.b .c (d ^^^ n:Nat)));have OK2:=ab (Nn 2 _ OK1.i);have C:=ab (aeb 2 2 rfl (by omega) p (alU ⟨a,b,c,d⟩ n) OK1.i _ X1.i);have HW:=ab (show UZ ⟨a,b,c,d⟩ n=atK (AO La 2 (alU ⟨a,b,c,d⟩ n)) n from rfl);obtain⟨t,ht⟩:=cB (AO La 2 (alU ⟨a,b,c,d⟩ n));rw[<-ht]at OK2 C HW;have HN:=ab hn;obtain⟨ta,tb,tc,td⟩:=t;have e2:=qo ta n OK2.i.1 hn;clear ht hs hb hn;rw[HW.i];go_enter Tryz.func182,Tryz.ntmps182;go_wp2_with (go_at_call 183;go_loud (with_reducible refine C.i.g ?_);rintro e w2 ⟨rfl,hb2,hg2⟩;obtain⟨z1,z2,z3,z4,z5⟩:=hb2.num;have zz:=z5 0;have X2:=ab hb2;have G2:=ab hg2;clear hb2 hg2);go_end0;exact⟨rfl,X2.i.p0 _,yX (M8 G1.i G2.i) (p:=⟨p,0,none⟩) (.b rfl) _⟩
theorem anC{W:ak}{q:Nat}{k:Vector UInt8 16}(h:dP W q (jl k))(o m:Nat)(ho:o+m<=16):gG W W.a.j (some ⟨q,o,none⟩) m ((k.a.G o).E m):=by
 refine⟨by simp;omega,fun _=>⟨_,rfl,h.lt,fun j u hu=>?_⟩⟩;have hj:j<m:=by
  rcases aZ j m with hj|hj
  ·exact hj
  ·rw[aT (by simp;omega)]at hu;cases hu
 rw[iL,h.R.1,<-hu];simp[jl,jc,hj,iY]
theorem kS4:pQ 280 4 (S4.mk 0 0 0 0).ay:=⟨⟨_,Es,rfl⟩,by kernel_rfl,by kernel_rfl,rfl⟩
@[go_sem ↓]theorem aKK(ps:Array (Nat×aB)):fU 280 ps=vK 280 ps:=rfl
theorem aEt(w:ak)(fs:Array Field)(h:ah.underlying 280=some (.struct fs)):(iI (fun f=>Prod.mk f.offset <$> sizeOf f.type) fs:Sem (Array (Nat×Nat))).O ah w=.ok #[(0,1),(1,1),(2,1),(3,1)] w:=by
 have e:=Es;rw[h]at e;cases e;show _=_
 kernel_rfl
@[go_sem]theorem azx(W:ak)(a b c d:Nat):(vK 280 #[(0,.b .c a),(1,.b .c b),(2,.b .c c),(3,.b .c d)]).O ah W=.ok (.d (S4.mk a b c d).ay) W:=kS4.bd W _ _ _ _ Es (aEt W _ Es) (by
 refine vV rfl ?_ ?_
 ·simp[sF,dz,S4.ay]
 ·simp[rM,dz,S4.ay])
theorem aed(x y:Nat)(hx:x<256)(hy:y<72057594037927936):bits .or .c ((x*72057594037927936:Nat):Int) (y:Int)=((y+x*72057594037927936:Nat):Int):=by
 rw[bits_or_u64_nat _ _ (by omega) (by omega)];congr 1;have h:=Nat.two_pow_add_eq_or_of_lt (i:=56) (b:=y) (by simpa using hy) x;rw[show(2:Nat)^56=72057594037927936 by decide,DY]at h;omega
theorem avq{W:ak}{q:Nat}{k:Vector UInt8 16}(h:dP W q (jl k)):aR ah 180 #[.a (some ⟨q,0,none⟩) 8 16,.e false] W (gY W (.b .c (leN (k.a.E 8)))):=by
 have:=Mq _ 8 16 _ W (by omega) (by omega) (anC h 0 8 (by omega));rw[List.drop_zero,qw]at this;exact this
theorem avr{W:ak}{q:Nat}{k:Vector UInt8 16}(h:dP W q (jl k)):aR ah 180 #[.a (some ⟨q,8,none⟩) 8 8,.e false] W (gY W (.b .c (leN (k.a.G 8)))):=by
 have:=Mq _ 8 8 _ W (by omega) (by omega) (anC h 8 8 (by omega));rw[qw]at this;have e:(k.a.G 8).E 8=k.a.G 8:=aK (by simp);rw[show min 8 8=8 from rfl,e]at this;exact this
theorem NM.go{W W':ak}{l:List XC}{bss:List (List UInt8)}(h:NM W W.a.j l bss)(hb:aM W.a.j W W'):NM W' W'.a.j l bss:=⟨h.1,fun i hi=>((h.2 i hi).Y hb).lD hb.j⟩
theorem akb(l:List XC)(bss:List (List UInt8))(A:Option aV)(n c:Nat)(w:ak)(hR:RdS w w.a.j A n l)(hH:NM w w.a.j l bss)(hn:n<=1000)(hs:zw l<=1000000000)(bs:List UInt8)(m:Nat)(hbs:bss.flatten=bs)(hm:bs.a=m):
 aR ah 181 #[.a A n c] w fun e w'=>∃A1 c1,e=.a (.a A1 m c1)/\(m<=c1/\c1<=maxLen)/\gG w' w'.a.j A1 m bs/\(∀a,A1=some a->w.a.j<=a.block)/\aM w.a.j w w':=by
 subst hbs hm;refine(Mr l bss A n c w hR hH hn hs).g ?_;rintro e w' ⟨v,rfl,ho,hb⟩;obtain⟨A1,c1,rfl,h1,h2⟩:=j3 ho;exact⟨A1,c1,rfl,⟨h1,h2⟩,gG.jh ho,fun a ha=>(ho.lt a.block (by rw[ha];rfl)).1,hb⟩
def XI(s:S4)(l:List UInt8)(e:Nat):Nat:=alW ((PX (l.a/8) l e).foldl UZ s)
theorem akc(s:S4)(l:List UInt8)(e:Nat)(h:8<=l.a):XI s l e=XI (UZ s (leN (l.E 8))) (l.G 8) e:=by
 unfold XI;rw[show l.a/8=(l.G 8).a/8+1 by rw[fZ];omega,PX,List.foldl_cons]
theorem akd(s:S4)(l:List UInt8)(e:Nat)(h:l.a<8):XI s l e=alW (UZ s (leN l+e*72057594037927936)):=by
 unfold XI;rw[show l.a/8=0 by omega];rfl
theorem Zd(key:Vector UInt8 16)(l:List XC)(bss:List (List UInt8))(A:Option aV)(n c:Nat)(w:ak)(hR:RdS w w.a.j A n l)(hH:NM w w.a.j l bss)(hn:n<=1000)(hs:zw l<=100000000)(bs:List UInt8)(hbs:bss.flatten=bs)(hl:bs.a<=100000000):
 aR ah 97 #[.d (jl key),.a A n c] w (gY w (.b .c (zi key bs))):=by
 obtain⟨m,hm⟩:=uP bs.a;have HM:=ab hm;have HBS:=ab hbs;have HT:=ab (show zi key bs=XI (apB key) bs (bs.a%256)from rfl);rw[hm]at hl HT;clear hm hbs;have HR:=ab hR;have HH:=ab hH;have Z0:=ab ((Bx.start w).new (jl key) 22);clear hR hH;go_enter Tryz.func97,Tryz.ntmps97;go_upto_region 1 with fail
 generalize w.alloc (.D (jl key) 22)=w1 at Z0 ⊢;obtain⟨k0,hk0⟩:∃k,k=leN (key.a.E 8):=⟨_,rfl⟩
 obtain⟨k1,hk1⟩:∃k,k=leN (key.a.G 8):=⟨_,rfl⟩
 have HS:=ab (show apB key=⟨k0 ^^^ 8317987319222330741,k1 ^^^ 7237128888997146477,k0 ^^^ 7816392313619706465,k1 ^^^ 8387220255154660723⟩by rw[hk0,hk1];rfl);have b0:k0<18446744073709551616:=by rw[hk0];exact Ku _ (by simp)
 have b1:k1<18446744073709551616:=by rw[hk1];exact Ku _ (by simp)
 have Kl:=ab (ahv key);obtain⟨T,f,n0,E0,es,ew⟩:=yL (w1);have hT:Nonempty T:=⟨n0⟩
 have ES:=ab es;have EW:=ab ew;have C0:=ab (fun m=>avq (Z0.i.go (es m)).Z);have C1:=ab (fun m=>avr (Z0.i.go (es m)).Z);rw[<-hk0]at C0;rw[<-hk1]at C1;clear es ew;refine qh f (by kernel_rfl) (by kernel_rfl) n0 E0 ?_
 repeat(go_big_quiet_step ((first|(go_at_call 180;(with_reducible refine(C0.i _).g ?_);rintro e w2 ⟨rfl,hb⟩;exact⟨rfl,EW.i _ ((ES.i _).trans (hb.g (ES.i _).j))⟩)|(go_at_call 180;(with_reducible refine(C1.i _).g ?_);rintro e w2 ⟨rfl,hb⟩;exact⟨rfl,EW.i _ ((ES.i _).trans (hb.g (ES.i _).j))⟩))))
 refine iw ?_;rintro _ ⟨m',rfl⟩;have HB:=ab (ES.i m');generalize f m'=wN at *;clear ES EW E0 hT n0;have Z1:=ab (Z0.i.go HB.i);clear HB C0 C1 hk0 hk1 Z0;have x0:bits .xor .c (k0:Int) 8317987319222330741=((k0 ^^^ 8317987319222330741:Nat):Int):=qo k0 8317987319222330741 b0 (by decide);have x1:bits .xor .c (k1:Int) 7237128888997146477=((k1 ^^^ 7237128888997146477:Nat):Int):=qo k1 7237128888997146477 b1 (by decide);have x2:bits .xor .c (k0:Int) 7816392313619706465=((k0 ^^^ 7816392313619706465:Nat):Int):=qo k0 7816392313619706465 b0 (by decide);have x3:bits .xor .c (k1:Int) 8387220255154660723=((k1 ^^^ 8387220255154660723:Nat):Int):=qo k1 8387220255154660723 b1 (by decide);obtain⟨S,hS⟩:=cB (S4.mk (k0 ^^^ 8317987319222330741) (k1 ^^^ 7237128888997146477) (k0 ^^^ 7816392313619706465) (k1 ^^^ 8387220255154660723));go_upto_region 3 with fail
 rw[<-hS]at HS ⊢;rw[HS.i]at Kl;have Z2:=ab (Z1.i.new S.ay 280);have HPW:=ab Z1.i.X.j;clear hS x0 x1 x2 x3 b0 b1;generalize wN.alloc (.D S.ay 280)=w3 at Z2 ⊢;generalize wN.a.j=p at *;have HP3:=ab Z2.i.Z.lt;have CC:=ab (akb l bss A n c w3 (Z2.i.rdR HR.i) (HH.i.go Z2.i.X) hn (by omega) bs m HBS.i HM.i);go_upto_region 4 with(go_at_call 181;(with_reducible refine CC.i.g ?_);rintro e w4 ⟨A1,c1,rfl,hc1,hrd,hbk,hb⟩;have RD:=ab hrd;have HC1:=ab hc1;have HBK:=ab hbk;have Z4:=ab (Z2.i.go hb);clear hrd hb hc1 hbk)
 clear CC Z2;have v1:jG.wrap (m:Int)=m:=by rw[jZ];omega
 have v2:jG.wrap ((m:Int)*72057594037927936)=((m%256*72057594037927936:Nat):Int):=by rw[jZ];omega
 obtain⟨e8,he8⟩:∃e,e=m%256:=⟨_,rfl⟩
 rw[<-he8]at v2 HT;have he9:e8<256:=by omega
 rw[HS.i]at HT;obtain⟨eN,heN⟩:∃e,e=e8*72057594037927936:=⟨_,rfl⟩
 rw[<-heN]at v2;have HEN:=ab heN;clear he8 heN;go_wp2;go_loopw [8] (fun s8 wr=>∃(A':Option aV)(m' c':Nat)(s:S4)(l':List UInt8),s8=.a A' m' c'/\(m'<=c'/\c'<=maxLen/\m'<=m)/\s.ok/\dP wr p s.ay/\gG wr wr.a.j A' m' l'/\(∀a,A'=some a->a.block≠p)/\XI S bs e8=XI s l' e8/\aM w.a.j w wr) (fun s8 _=>asj s8)
 case atStart=>exact⟨A1,m,c1,S,bs,rfl,⟨HC1.i.1,HC1.i.2,av _⟩,Kl.i,Z4.i.Z,RD.i,fun a ha=>by have:=HBK.i a ha;have:=HP3.i;omega,rfl,Z4.i.X⟩
 case round=>
  obtain⟨A',m',c',s,l',rfl,⟨hmc,hcc,hmm⟩,hok,hbx,hrd,hne,hst,hbl⟩:=hrel;have aqU:=ab hok;have HBX:=ab hbx;have HRD:=ab hrd;have HNE:=ab hne;have HST:=ab hst;have Ho:=ab hbl;have MZ:=ab hrd.len;have C1:=ab (Mq A' m' c' l' wr hmc (by unfold maxLen at hcc;omega) hrd);clear hok hbx hrd hne hst hbl;by_cases h8:8<=m'
  ·have h8i:(8:Int)<=m':=by omega
   obtain⟨x,hx⟩:=cB (leN (l'.E 8));have HXL:=ab (show x<18446744073709551616 by rw[hx];exact Ku _ (by simp;omega));have HX:=ab hx;rw[<-hx]at C1;clear hx;go_wp2_with (first|(go_at_call 180;(with_reducible refine C1.i.g ?_);rintro e w5 ⟨rfl,hb⟩;have C2:=ab (aec p s x aqU.i HXL.i w5 (HBX.i.go hb));have R5:=ab (HRD.i.upon hb);have L5:=ab (Ho.i.trans (hb.g Ho.i.j));clear hb)|(go_at_call 182;go_loud (with_reducible refine C2.i.g ?_);rintro e w6 ⟨rfl,hb6,hg6⟩;have B6:=ab hb6;have R6:=ab ((gG.at1 (w:=w5) R5.i hg6 (fun a ha e=>HNE.i a ha (Option.some.inj e))).lD hg6.j);have L6:=ab (uO L5.i hg6 HPW.i L5.i.j);clear hb6 hg6));go_roundw
   case rel=>exact⟨_,_,_,UZ s x,l'.G 8,rfl,⟨by omega,by omega,by omega⟩,aax aqU.i HXL.i,B6.i,R6.i.yt h8 hmc,fun a ha=>by
    unfold sH at ha;split at ha
    ·exact HNE.i a ha
    ·cases hA:A' with
     | none=>rw[hA]at ha;cases ha
     | some a0=>rw[hA]at ha;injection ha with ha;rw[<-ha];exact HNE.i a0 hA,by rw[HST.i,akc _ _ _ (by rw[MZ.i];exact h8),HX.i],L6.i⟩
   case measure=>simp[asj];omega
  ·have h8i:¬(8:Int)<=m':=by omega
   obtain⟨y,hy⟩:=cB (leN l');have hy2:l'.E 8=l':=aK (by rw[MZ.i];omega);have hy3:y<72057594037927936:=by
    have h1:=afl l';have h2:256^l'.a<=256^7:=Nat.pow_le_pow_right (by omega) (by rw[MZ.i];omega);omega
   rw[hy2,<-hy]at C1;have HF:=ab (show XI S bs e8=alW (UZ s (y+e8*72057594037927936))by rw[HST.i,akd _ _ _ (by rw[MZ.i];omega),<-hy]);have o1:=aed e8 y he9 hy3;rw[<-HEN.i]at o1 HF;obtain⟨z,hz⟩:=cB (y+eN);have HZL:=ab (show z<18446744073709551616 by have:=HEN.i;omega);rw[<-hz]at o1 HF;obtain⟨t,ht⟩:=cB (UZ s z);have HTK:=ab (show t.ok by rw[ht];exact aax aqU.i HZL.i);have HT2:=ab ht;rw[<-ht]at HF;obtain⟨u,hu⟩:=cB (AO La 4 (alV t 255));have HUK:=ab (show u.ok by rw[hu];exact Nn 4 _ (aaw HTK.i (by decide)));have HU:=ab hu;have HFU:=ab (show XI S bs e8=atL u by rw[HF.i,hu];rfl);have x2:bits .xor .c (t.c:Int) 255=((t.c ^^^ 255:Nat):Int):=qo t.c 255 HTK.i.2.2.1 (by decide);clear hy hy2 hz ht hu hy3;go_upto_region 9 with(first|(go_at_call 180;(with_reducible refine C1.i.g ?_);rintro e w5 ⟨rfl,hb⟩;have C2:=ab (HT2.i ▸ aec p s z aqU.i HZL.i w5 (HBX.i.go hb));have L5:=ab (Ho.i.trans (hb.g Ho.i.j));clear hb)|(go_at_call 182;(with_reducible refine C2.i.g ?_);rintro e w6 ⟨rfl,hb6,hg6⟩;have B6:=ab hb6;have L6:=ab (uO L5.i hg6 HPW.i L5.i.j);clear hb6 hg6))
   obtain⟨y1,y2,y3,y4,y5⟩:=B6.i.num;have f2:=y5 2;have X9:=ab (show dP (w6.I ⟨p,2,none⟩ (.b .c (t.c ^^^ 255:Nat))) p (alV t 255).ay from B6.i.p2 (t.c ^^^ 255));have L9:=ab (L6.i.I (p:=⟨p,2,none⟩) HPW.i (.b .c (t.c ^^^ 255:Nat)));go_upto_region 10 with fail
   clear y1 y2 y3 y4 y5 f2 x2 o1 B6 L6;generalize w6.I ⟨p,2,none⟩ (.b .c (t.c ^^^ 255:Nat))=w7 at X9 L9 ⊢;have C4:=ab (HU.i ▸ aeb 4 4 rfl (by omega) p (alV t 255) (aaw HTK.i (by decide)) w7 X9.i);go_upto_region 11 with(go_at_call 183;go_loud (with_reducible refine C4.i.g ?_);rintro e w8 ⟨rfl,Tm,hg8⟩;have B8:=ab Tm;have L8:=ab (uO L9.i hg8 HPW.i L9.i.j);clear Tm hg8)
   obtain⟨u1,u2,u3,u4⟩:=u;obtain⟨y1,y2,y3,y4,y5⟩:=B8.i.num;simp only at y1 y2 y3 y4;have o2:=qo u1 u2 HUK.i.1 HUK.i.2.1;have o3:=qo (u1 ^^^ u2) u3 (zh _ _ HUK.i.1 HUK.i.2.1) HUK.i.2.2.1;have o4:=qo (u1 ^^^ u2 ^^^ u3) u4 (zh _ _ (zh _ _ HUK.i.1 HUK.i.2.1) HUK.i.2.2.1) HUK.i.2.2.2;go_quiet (fail);have L10:=ab (eD L8.i nq);go_wp2;go_ret;refine⟨?_,L10.i⟩;rw[HT.i,HFU.i];rfl
end
section
def Wv(s:List (Option Fw)):Array aB:=(s.d fun o=>(slC o).a).c
theorem Ww(o:Option Fw)(s:List (Option Fw)):Wv (o::s)=slC o++Wv s:=by
 simp[Wv,iW]
theorem wD(s:List (Option Fw)):(Wv s).j=s.a*42:=by
 induction s with
 | nil=>rfl
 | cons o s ih=>rw[Ww,oJ,ih,FW,bl];omega
theorem KT:∀(s:List (Option Fw))(i j:Nat),i<s.a->j<42->(Wv s)[i*42+j]? = (slC (dW s i))[j]?
 | [],i,j,hi,_=>by simp at hi
 | o::s,0,j,_,hj=>by
   rw[Ww,Nat.zero_mul,bC,aD,if_pos (by rw[FW];exact hj)];rfl
 | o::s,i+1,j,hi,hj=>by
   rw[Ww,aD,if_neg (by rw[FW];omega),FW,show(i+1)*42+j-42=i*42+j by omega];exact KT s i j (by simpa using hi) hj
theorem Qv(s:List (Option Fw))(i k m:Nat)(hi:i<s.a)(hm:k+m<=42)(c:Array aB)(hc:(slC (dW s i)).m k (k+m)=c):(Wv s).m (i*42+k) (i*42+k+m)=c:=by
 rw[<-hc];have h1:=wD s;have h2:=FW (dW s i);have h3:(i+1)*42<=s.a*42:=dB 42 hi;apply dZ;intro j;rw[cu,cu];by_cases hj:j<m
 ·rw[if_pos (by omega),if_pos (by omega),kY,KT s i (k+j) hi (by omega)]
 ·rw[if_neg (by omega),if_neg (by omega)]
theorem anD(s:List (Option Fw))(i:Nat)(hi:i<s.a):(Wv s).m (i*42) (i*42+42)=(xB (dW s i)).ay:=Qv s i 0 42 hi (by omega) _ (Sl.all _)
theorem anE(s:List (Option Fw))(i:Nat)(hi:i<s.a):(Wv s).m (i*42+1) (i*42+1+41)=(xB (dW s i)).rP.ay:=Qv s i 1 41 hi (by omega) _ (Sl.Ug _)
theorem aqX(s:List (Option Fw))(i:Nat)(hi:i<s.a):(Wv s).m (i*42+1) (i*42+1+37)=(xB (dW s i)).rP.key.ay:=by
 refine Qv s i 1 37 hi (by omega) _ ?_;show(Sl.ay _).m 1 38=_;simp[Sl.ay,Fw.ay,bZ,Tu.J,qA (Tu.J _),uR]
theorem anF(s:List (Option Fw))(i:Nat)(hi:i<s.a):(Wv s)[i*42]? = some (.e (dW s i).isSome):=by
 have:=KT s i 0 hi (by omega);rw[kQ]at this;rw[this];show(xB (dW s i)).ay[0]? = _;rw[Sl.OB,JQ]
theorem Uh(s:List (Option Fw))(i:Nat)(o:Option Fw)(hi:i<s.a):tC (Wv s) (i*42) (slC o)=Wv (s.set i o):=by
 apply dZ;intro j;rw[EX,wD,FW];have h3:(i+1)*42<=s.a*42:=dB 42 hi;by_cases hj:j<s.a*42
 ·have e:j=j/42*42+j%42:=by omega
  have hq:j/42<s.a:=by omega
  have h4:(Wv (s.set i o))[j]? = (slC (dW (s.set i o) (j/42)))[j%42]?:=by
   conv=>lhs;rw[e]
   exact KT _ _ _ (by simpa using hq) (by omega)
  have h5:(Wv s)[j]? = (slC (dW s (j/42)))[j%42]?:=by
   conv=>lhs;rw[e]
   exact KT _ _ _ hq (by omega)
  rw[h4,h5,GH _ _ _ _ hi];by_cases hc:i*42<=j/\j<i*42+42
  ·rw[if_pos ⟨hc.1,hc.2,hj⟩,if_pos (by omega)]
   congr 1;omega
  ·rw[if_neg (by omega),if_neg (by omega)]
 ·rw[if_neg (by omega),aW (by rw[wD];omega),aW (by rw[wD];simp;omega)]
structure Gp(W:ak)(q g:Nat)(key:Vector UInt8 16)(dV:Int)(s:List (Option Fw)):Prop where
 tb:dP W q (Tk.mk key dV (iD s).a (some ⟨g,0,none⟩) s.a s.a).ay
 sl:dP W g (Wv s)
 ne:q≠g
 sz:0<s.a/\s.a<=100000
variable {W W':ak} {q g:Nat} {key:Vector UInt8 16} {dV:Int} {s:List (Option Fw)}
theorem Gp.go(h:Gp W q g key dV s)(hb:aM W.a.j W W'):Gp W' q g key dV s:=⟨h.tb.go hb,h.sl.go hb,h.ne,h.sz⟩
theorem Gp.alloc(h:Gp W q g key dV s)(ob:Obj):Gp (W.alloc ob) q g key dV s:=h.go ((aG _ _).alloc (av _) _)
theorem Gp.drew(h:Gp W q g key dV s):Gp W.drew q g key dV s:=⟨h.tb.drew,h.sl.drew,h.ne,h.sz⟩
theorem Gp.drewN(h:Gp W q g key dV s)(n:Nat):Gp (W.drewN n) q g key dV s:=⟨h.tb.drewN n,h.sl.drewN n,h.ne,h.sz⟩
theorem Gp.Wx(h:Gp W q g key dV s){i:Nat}(hi:i<s.a):W.b ⟨g,i*42,none⟩=some (.e (dW s i).isSome)/\eH W g (i*42) 42=(xB (dW s i)).ay/\eH W g (i*42+1) 41=(xB (dW s i)).rP.ay/\eH W g (i*42+1) 37=(xB (dW s i)).rP.key.ay/\yE W g (i*42) 42/\yE W g (i*42+1) 41/\yE W g (i*42+1) 37:=by
 obtain⟨h1,h2,h3,h4⟩:=h.sl.R;have hs:=wD s;have hm:(i+1)*42<=s.a*42:=dB 42 hi;have hh:∀o n,o+n<=s.a*42->yE W g o n:=fun o n hn=>by rw[h3 o n (by unfold eU;omega)];trivial
 refine⟨by rw[h1,anF s i hi],?_,?_,?_,hh _ _ (by omega),hh _ _ (by omega),hh _ _ (by omega)⟩
 ·rw[h4 _ _ (by unfold eU;omega),anD s i hi]
 ·rw[h4 _ _ (by unfold eU;omega),anE s i hi]
 ·rw[h4 _ _ (by unfold eU;omega),aqX s i hi]
theorem Gp.R(h:Gp W q g key dV s):W.b ⟨q,18,none⟩=some (.a (some ⟨g,0,none⟩) s.a s.a)/\W.b ⟨q,17,none⟩=some (.b .a (iD s).a)/\W.b ⟨q,16,none⟩=some (.b .a dV)/\(∀j,W.frozen? ⟨q,j,none⟩=false)/\eH W q 0 16=jl key/\yE W q 0 16:=by
 obtain⟨h1,h2,h3,h4⟩:=h.tb.R;refine⟨(h1 18).trans (Tk.zI _),(h1 17).trans (Tk.aea _),(h1 16).trans (Tk.TV _),h2,?_,?_⟩
 ·rw[h4 0 16 (by unfold eU;rw[Tk.J];omega)];exact Tk.abI _
 ·rw[h3 0 16 (by unfold eU;rw[Tk.J];omega)];trivial
def hmK(key:Vector UInt8 16)(N:Nat)(k:Tu):Nat:=zi key (MX k)%N
end
section
open Go.RowKit Go.Shelf
attribute [local go_sem] qQ
theorem pW.Cv(x:pW):x.ay.j=2:=by simp[pW.ay]
theorem pW.aef(x:pW):x.ay.all (·.h)=true:=by simp[pW.ay,dA]
@[go_sem]theorem pW.aEv(x:pW):eU x.ay=2:=pW.Cv x
@[go_sem]theorem pW.aEw(x:pW):x.ay.m 0 2=x.ay:=by have:=pW.Cv x;rw[<-this];simp
@[go_sem]theorem pW.zJ(x:pW):x.ay[0]? = some (.g (bK x.F)):=rfl
@[go_sem]theorem pW.aqY(x:pW):x.ay[1]? = some (.b .a x.q):=rfl
def lT:pW:=⟨[],0⟩
instance:Inhabited pW:=⟨lT⟩
@[go_sem]theorem aqZ:eX #[iK {data:=#[]},aI bT 0] 151=eX lT.ay 151:=rfl
theorem avu:pQ 151 2 lT.ay:=⟨⟨_,Tryz.underlying151,rfl⟩,by kernel_rfl,by kernel_rfl,rfl⟩
@[go_sem ↓]theorem aHz(v:aB):dw 151 v=yU 151 v:=rfl
@[go_sem ↓]theorem aHA(v x:aB):eY 151 v x=zX 151 v x:=rfl
@[go_sem]theorem avv(W:ak)(b o:Nat)(h:yE W b o 2):(yU 151 (.c (some ⟨b,o,none⟩))).O ah W=.ok (.d (eH W b o 2)) W:=avu.ld W b o h
@[go_sem]theorem aBI(W:ak)(c:Array aB)(x:pW)(b:Nat)(hb:b=W.a.j)(hc:eU c=2):(zX 151 (.c (some ⟨b,0,none⟩)) (.d x.ay)).O ah (W.alloc (.D c 151))=.ok () (W.alloc (.D x.ay 151)):=avu.stN W c x.ay b hb hc rfl (pW.aef x)
@[go_sem]theorem avw(w:ak)(x:pW):(aml 1 #[(0,.d x.ay)]).O ah w=.ok (.a (some ⟨w.a.j,0,none⟩) 1 1) (w.alloc (.D x.ay 151)):=ajh w x.F x.q
theorem pW.J(x:pW):x.ay.j=2:=rfl
theorem pW.dx(x:pW):x.ay.all (·.h)=true:=pW.aef x
theorem kU{W:ak}{b:Nat}{x:Fw}(h:dP W b x.ay):(Qe (.c (some ⟨b,0,none⟩))).O ah W=.ok (.d x.ay) W:=by
 have hs:eU x.ay=41:=Fw.J x;rw[ahM W b 0 (of_eq_true (h.R.2.2.1 0 41 (by omega))),h.R.2.2.2 0 41 (by omega),bC,Fw.kG]
theorem Wz{W:ak}{b:Nat}{x:pW}(h:dP W b x.ay):(yU 151 (.c (some ⟨b,0,none⟩))).O ah W=.ok (.d x.ay) W:=by
 have hs:eU x.ay=2:=rfl;rw[avv W b 0 (of_eq_true (h.R.2.2.1 0 2 (by omega))),h.R.2.2.2 0 2 (by omega),bC,pW.aEw]
theorem WA(F:Ll)(n:Nat)(h3:F.fn 266)(hro:F.round=none)(hn:3<=n)(gf:Nat)(lb:Array aB)(hgf:F.fn gf)(eg:∀args w,(callFunc gf args).O ah w=.ok (.enter gf args) w)(S Sp:List Fw->Prop)(N:Nat)(hN:N<=100000)(w:ak)
 (hseq:wZ F (n-1) ah gf lb (fun x:Fw=>#[cO x.ay]) (aM w.a.j) S Sp N w) :
 MS F n ah 266 #[.a none 0 0,.func (.func gf) #[] lb] w fun e W'=>
  ∃ys,S ys/\∃A' c',e=.a (.a A' ys.a c')/\W'.c w.a.j 86 41 (.a A' ys.a c') ys.a (ys.d fun x=>x.ay.a)/\aM w.a.j w W':=by
 have h1:1<=n:=by omega
 obtain⟨i0,hi,hz0,hz1,hzb⟩:=afR;refine rR Tryz.func266 rfl h3 ?_ hro;simp only[Tryz.ntmps266,dN,bl,gU,kZ,lg,gL,gM,iX,gZ,dJ,gQ];gi_wp2;have bO:=Boxed.new w 34 (.a none 0 0);have hB0:aM w.a.j w (w.alloc (.D #[.a none 0 0] 34)):=(aG _ w).alloc (av _) _;have hs0:(w.alloc (.D #[.a none 0 0] 34)).a.j=w.a.j+1:=by simp
 generalize w.alloc (.D #[.a none 0 0] 34)=W0 at bO hB0 hs0 ⊢;refine zO hro h1 (gf:=gf) (lb:=lb) rfl hgf eg hseq (fun h k=>Below.trans h k) (wR (by omega)) hB0 (fun _=>rfl)
  (fun(pre:List Fw) W=>(∃v,Boxed W w.a.j 34 v/\W.c w.a.j 86 41 v pre.a (pre.d fun x=>x.ay.a)/\True)/\aM w.a.j w W)
  (fun _ _ _=>False)
  (OwnFrom.and (Own.from (holdsRow_own w.a.j w.a.j 34 86 41 (fun pre:List Fw=>pre.a) (fun pre:List Fw=>pre.d fun x=>x.ay.a) (fun _ _=>True)) _) (zW (av _) (by omega)))
  (fun _ _ _ _ _ hs _ _=>hs)
  ⟨⟨_,bO,fQ _ _ _ _,trivial⟩,hB0⟩
  (fun x a' W=>∃Bq,w.a.j<Bq/\dP W Bq x.ay/\a'={tmps:=#[.a none 0 0,.func (.func gf) #[] lb,.c (some ⟨w.a.j,0,none⟩),undef,.a none 0 0,.c (some ⟨Bq,0,none⟩),.func (.func gf) #[] lb,.d x.ay,undef,undef,undef,undef,undef],defers:=[]})
  (fun x a' _ X Y row hs hg hr=>by obtain⟨Bq,h1,h2,h3⟩:=hs;exact⟨Bq,h1,Au Bq x.ay () X Y row h2 hg (fun r e=>(hr r e).2),h3⟩)
  ?assign ?body ?done ?stop
 case assign=>
  rintro q pre x W K ⟨⟨v,hv,hrow,_⟩,hB⟩ hK;gi_wp2;refine hK _ _ ((KeepsOthers.alloc _ _).from _) ((aG _ W).alloc hB.j _) ⟨⟨v,hv.alloc _,hrow.alloc _,trivial⟩,hB.alloc hB.j _⟩ ⟨W.a.j,hv.lt,dP.new W _ _,rfl⟩
 case body=>
  rintro q pre x a' W hq ⟨r,hr⟩ ⟨⟨v,hv,hrow,_⟩,hB⟩ ⟨Bq,hBq,bX,rfl⟩ hlt;have hcv:=hv.cell;have hld:=kU bX;have hby:(pre.a+1)*i0.bytes<=140737488355328:=aP (iq (show pre.a+1<=100002 by omega) hzb) (by omega);have HN1:=ab (show x.ay.a.a=1*41 by simp[Fw.J]);have HNC:=ab (fun(W:ak) (j:Nat) (u:aB) (hu:x.ay.a[j]? = some u)=>show(W.alloc (.D x.ay 86)).b ((⟨W.a.j,0,none⟩:aV).add j)=some u by
   rw[iL,bC,nK,<-dH];exact hu)
  have Ez:=ab (show∀u∈x.ay.a,u.h=true from fun u hu=>by have:=Fw.dx x;rw[yR]at this;exact this u (by simpa using hu));gi_wp2_with (gi_at_builtin;refine EU _ rfl _ _ 34 rfl w.a.j 86 i0 (.d lu.ay) 41 i0.bytes Gh hi hz0 hz1 rfl (by simp[dz,Fw.J]) (by decide) _ _ _ rfl (hrow.alloc _) ⟨W.a.j,0,none⟩ 1 1 x.ay.a rfl HN1.i (HNC.i W) Ez.i (by unfold maxLen;omega) hby (by have:=hB.j;simp;omega) ?_;intro v' w1 hown' hgrow _;obtain⟨g',cap',rfl⟩:=ownsRow_succ hown';obtain⟨hv1,hv2,hr2,hk2,hb2⟩:=hv.appended (by decide) hrow hB.j (av _) hown' hgrow;have hc1:=hv1.cell;have hf1:=hv1.frozen);exact⟨hk2.from _,hb2,⟨_,hv2,by rw[aQ,uD];simpa using hr2,trivial⟩,hB.trans hb2⟩
 case done=>
  rintro D ys W hD hS ⟨⟨v,hv,hrow,_⟩,hB⟩ hK;have hcv:=hv.cell;gi_wp2;refine⟨by simp,.b ⟨_,_,rfl,vC hK,?_⟩⟩;obtain⟨A',c',hv',_,_⟩:=j3 hrow;refine⟨_,I4 rfl _ _ _,ys,hS,A',c',by rw[<-hv'];rfl,?_,hB.trans (wR (w:=w) (av _) W D _ _ (by omega) hK rfl rfl)⟩;rw[<-hv'];exact ownsRow_putObj hrow _ hK rfl
 case stop=>
  rintro D c pre W _ _ h _;exact h.elim
theorem XJ(gf:Nat)(lb:Array aB)(eg:∀args w,(callFunc gf args).O ah w=.ok (.enter gf args) w)(S Sp:List Fw->Prop)(N:Nat)(hN:N<=100000)(w:ak)(hseq:wZ nY 5 ah gf lb (fun x:Fw=>#[cO x.ay]) (aM w.a.j) S Sp N w):
 aR ah 201 #[.func (.func gf) #[] lb] w fun e W'=>
  ∃ys,S ys/\∃A' c',e=.a (.a A' ys.a c')/\W'.c w.a.j 86 41 (.a A' ys.a c') ys.a (ys.d fun x=>x.ay.a)/\aM w.a.j w W':=by
 have AP:=ab ((nL (n:=6)).1 (WA nY 6 trivial rfl (by omega) gf lb trivial eg S Sp N hN w hseq));clear hseq;go_enter Tryz.func201,Tryz.ntmps201;go_wp2_with fail;refine AP.i.g ?_;rintro e w1 ⟨ys,hS,A1,c1,rfl,ho,hb⟩;have HS:=ab hS;have HO:=ab ho;have HB:=ab hb;clear ho hb hS;obtain⟨m,hm⟩:=cB ys.a;rw[<-hm]at HO ⊢;go_wp2;go_ret;subst hm;exact⟨ys,HS.i,A1,c1,rfl,HO.i,HB.i⟩
theorem SX(F:Ll)(n:Nat)(h3:F.fn 300)(hro:F.round=none)(hn:3<=n)(gf:Nat)(lb:Array aB)(hgf:F.fn gf)(eg:∀args w,(callFunc gf args).O ah w=.ok (.enter gf args) w)(S Sp:List pW->Prop)(N:Nat)(hN:N<=100000)(w:ak)
 (hseq:wZ F (n-1) ah gf lb (fun x:pW=>#[cO x.ay]) (aM w.a.j) S Sp N w) :
 MS F n ah 300 #[.a none 0 0,.func (.func gf) #[] lb] w fun e W'=>
  ∃ys,S ys/\∃A' c',e=.a (.a A' ys.a c')/\W'.c w.a.j 151 2 (.a A' ys.a c') ys.a (ys.d fun x=>x.ay.a)/\aM w.a.j w W':=by
 have h1:1<=n:=by omega
 obtain⟨i0,hi,hz0,hz1,hzb⟩:=aaI;refine rR Tryz.func300 rfl h3 ?_ hro;simp only[Tryz.ntmps300,dN,bl,gU,kZ,lg,gL,gM,iX,gZ,dJ,gQ];gi_wp2;have bO:=Boxed.new w 75 (.a none 0 0);have hB0:aM w.a.j w (w.alloc (.D #[.a none 0 0] 75)):=(aG _ w).alloc (av _) _;have hs0:(w.alloc (.D #[.a none 0 0] 75)).a.j=w.a.j+1:=by simp
 generalize w.alloc (.D #[.a none 0 0] 75)=W0 at bO hB0 hs0 ⊢;refine zO hro h1 (gf:=gf) (lb:=lb) rfl hgf eg hseq (fun h k=>Below.trans h k) (wR (by omega)) hB0 (fun _=>rfl)
  (fun(pre:List pW) W=>(∃v,Boxed W w.a.j 75 v/\W.c w.a.j 151 2 v pre.a (pre.d fun x=>x.ay.a)/\True)/\aM w.a.j w W)
  (fun _ _ _=>False)
  (OwnFrom.and (Own.from (holdsRow_own w.a.j w.a.j 75 151 2 (fun pre:List pW=>pre.a) (fun pre:List pW=>pre.d fun x=>x.ay.a) (fun _ _=>True)) _) (zW (av _) (by omega)))
  (fun _ _ _ _ _ hs _ _=>hs)
  ⟨⟨_,bO,fQ _ _ _ _,trivial⟩,hB0⟩
  (fun x a' W=>∃Bq,w.a.j<Bq/\dP W Bq x.ay/\a'={tmps:=#[.a none 0 0,.func (.func gf) #[] lb,.c (some ⟨w.a.j,0,none⟩),undef,.a none 0 0,.c (some ⟨Bq,0,none⟩),.func (.func gf) #[] lb,.d x.ay,undef,undef,undef,undef,undef],defers:=[]})
  (fun x a' _ X Y row hs hg hr=>by obtain⟨Bq,h1,h2,h3⟩:=hs;exact⟨Bq,h1,Au Bq x.ay () X Y row h2 hg (fun r e=>(hr r e).2),h3⟩)
  ?assign ?body ?done ?stop
 case assign=>
  rintro q pre x W K ⟨⟨v,hv,hrow,_⟩,hB⟩ hK;gi_wp2;refine hK _ _ ((KeepsOthers.alloc _ _).from _) ((aG _ W).alloc hB.j _) ⟨⟨v,hv.alloc _,hrow.alloc _,trivial⟩,hB.alloc hB.j _⟩ ⟨W.a.j,hv.lt,dP.new W _ _,rfl⟩
 case body=>
  rintro q pre x a' W hq ⟨r,hr⟩ ⟨⟨v,hv,hrow,_⟩,hB⟩ ⟨Bq,hBq,bX,rfl⟩ hlt;have hcv:=hv.cell;have hld:=Wz bX;have hby:(pre.a+1)*i0.bytes<=140737488355328:=aP (iq (show pre.a+1<=100002 by omega) hzb) (by omega);have HN1:=ab (show x.ay.a.a=1*2 by simp[pW.J]);have HNC:=ab (fun(W:ak) (j:Nat) (u:aB) (hu:x.ay.a[j]? = some u)=>show(W.alloc (.D x.ay 151)).b ((⟨W.a.j,0,none⟩:aV).add j)=some u by
   rw[iL,bC,nK,<-dH];exact hu)
  have Ez:=ab (show∀u∈x.ay.a,u.h=true from fun u hu=>by have:=pW.dx x;rw[yR]at this;exact this u (by simpa using hu));gi_wp2_with (gi_at_builtin;refine EU _ rfl _ _ 75 rfl w.a.j 151 i0 (.d #[.g ⟨#[]⟩,.b .a 0]) 2 i0.bytes wH hi hz0 hz1 rfl (by simp[dz]) (by decide) _ _ _ rfl (hrow.alloc _) ⟨W.a.j,0,none⟩ 1 1 x.ay.a rfl HN1.i (HNC.i W) Ez.i (by unfold maxLen;omega) hby (by have:=hB.j;simp;omega) ?_;intro v' w1 hown' hgrow _;obtain⟨g',cap',rfl⟩:=ownsRow_succ hown';obtain⟨hv1,hv2,hr2,hk2,hb2⟩:=hv.appended (by decide) hrow hB.j (av _) hown' hgrow;have hc1:=hv1.cell;have hf1:=hv1.frozen);exact⟨hk2.from _,hb2,⟨_,hv2,by rw[aQ,uD];simpa using hr2,trivial⟩,hB.trans hb2⟩
 case done=>
  rintro D ys W hD hS ⟨⟨v,hv,hrow,_⟩,hB⟩ hK;have hcv:=hv.cell;gi_wp2;refine⟨by simp,.b ⟨_,_,rfl,vC hK,?_⟩⟩;obtain⟨A',c',hv',_,_⟩:=j3 hrow;refine⟨_,I4 rfl _ _ _,ys,hS,A',c',by rw[<-hv'];rfl,?_,hB.trans (wR (w:=w) (av _) W D _ _ (by omega) hK rfl rfl)⟩;rw[<-hv'];exact ownsRow_putObj hrow _ hK rfl
 case stop=>
  rintro D c pre W _ _ h _;exact h.elim
theorem WC(gf:Nat)(lb:Array aB)(eg:∀args w,(callFunc gf args).O ah w=.ok (.enter gf args) w)(S Sp:List pW->Prop)(N:Nat)(hN:N<=100000)(w:ak)(hseq:wZ nY 5 ah gf lb (fun x:pW=>#[cO x.ay]) (aM w.a.j) S Sp N w):
 aR ah 237 #[.func (.func gf) #[] lb] w fun e W'=>
  ∃ys,S ys/\∃A' c',e=.a (.a A' ys.a c')/\W'.c w.a.j 151 2 (.a A' ys.a c') ys.a (ys.d fun x=>x.ay.a)/\aM w.a.j w W':=by
 have AP:=ab ((nL (n:=6)).1 (SX nY 6 trivial rfl (by omega) gf lb trivial eg S Sp N hN w hseq));clear hseq;go_enter Tryz.func237,Tryz.ntmps237;go_wp2_with fail;refine AP.i.g ?_;rintro e w1 ⟨ys,hS,A1,c1,rfl,ho,hb⟩;have HS:=ab hS;have HO:=ab ho;have HB:=ab hb;clear ho hb hS;obtain⟨m,hm⟩:=cB ys.a;rw[<-hm]at HO ⊢;go_wp2;go_ret;subst hm;exact⟨ys,HS.i,A1,c1,rfl,HO.i,HB.i⟩
end
theorem WE:pQ 22 16 (jl (bG 16 0)):=⟨⟨_,qK,rfl⟩,by kernel_rfl,by kernel_rfl,dO _⟩
@[go_sem ↓]theorem aHB(v:aB):dw 22 v=yU 22 v:=rfl
theorem agu(key:Vector UInt8 16)(A:Option aV)(n c:Nat)(bs:List UInt8)(w:ak)(hr:gG w w.a.j A n bs)(hn:n<=1000000):aR ah 97 #[.d (jl key),.a (some ⟨w.a.j,0,none⟩) 1 1] (w.alloc (.D #[.a A n c] 56)) (gY w (.b .c (zi key bs))):=by
 have hl:=hr.len;refine(Zd key [⟨A,n,c⟩] [bs] _ 1 1 _ (RdS.lit w [⟨A,n,c⟩] 56) (.cons ((hr.alloc (av _) _).lD (by simp)) .nil) (by omega) (by simp[zw];omega) bs (by simp) (by omega)).g ?_;rintro e w' ⟨rfl,hb⟩;exact⟨rfl,((aG _ w).alloc (av _) _).trans (hb.g (by simp))⟩
theorem ake{W:ak}{q:Nat}{k:Vector UInt8 16}(h:dP W q (jl k)):W.rangeAt q 0 (k.a.map bv):=by
 intro j v hj;rw[h.R.1,bC];unfold jl;rw[List.getElem?_toArray];exact hj
theorem agv(key:Vector UInt8 16)(A:Option aV)(n c:Nat)(bs:List UInt8)(w:ak)(hr:gG w w.a.j A n bs)(hn:n<=1000000):aR ah 97 #[.d (key.a.map bv).c,.a (some ⟨w.a.j,0,none⟩) 1 1] (w.alloc (.D #[.a A n c] 56)) (gY w (.b .c (zi key bs))):=agu key A n c bs w hr hn
theorem JR(t:Tu)(ht:yj t)(w:ak):aR ah 98 #[.d t.ay] w fun e w'=>∃A c,e=.a (.a A 38 c)/\gG w' w'.a.j A 38 (MX t)/\aM w.a.j w w':=by
 refine(aaW t ht w).g ?_;rintro e w' ⟨A,n,c,rfl,hn,ho,hb⟩;rw[ap']at hn;subst hn;exact⟨A,c,rfl,gG.jh ho,hb⟩
theorem Rl(key:Vector UInt8 16)(t:Tu)(ht:yj t)(w:ak):aR ah 36 #[.d (jl key),.d t.ay] w (gY w (.b .c (zi key (MX t)))):=by
 have Z0:=ab (((Bx.start w).new (jl key) 22).new t.ay 81);have e1:(w.alloc (.D (jl key) 22)).a.j=w.a.j+1:=by simp
 rw[e1]at Z0;have CB:=ab (fun W=>JR t ht W);clear e1;go_enter Tryz.func36,Tryz.ntmps36;go_upto_region 1 with fail
 generalize(w.alloc (.D (jl key) 22)).alloc (.D t.ay 81)=w1 at Z0 ⊢;have KS:=ab (fun(w':ak) (h:Bx [(w.a.j+1,t.ay),(w.a.j,jl key)] w w')=>show w'.rangeAt w.a.j 0 (key.a.map bv)/\(yh (.c (some ⟨w.a.j+1,0,none⟩))).O ah w'=.ok (.d t.ay) w' from⟨ake h.b1,qj h.Z⟩);obtain⟨l1,l2⟩:=KS.i _ Z0.i;obtain⟨bs,hbs⟩:=cB (MX t);have HBS:=ab hbs;rw[<-hbs]at CB;clear hbs;have hU:=qK;have hI:(ah.info? 22).map (·.j)=some (key.a.map bv).a:=by rw[bW,nZ];kernel_rfl
 go_region_held_law (fun w'=>w'.rangeAt w.a.j 0 (key.a.map bv)/\(yh (.c (some ⟨w.a.j+1,0,none⟩))).O ah w'=.ok (.d t.ay) w')
  (first|exact KS.i _ Z0.i.drew|exact KS.i _ Z6.i|exact KS.i _ (Z5.i.alloc _)|exact KS.i _ Z5.i|go_keep)
  (first
  | (go_at_call 98;(with_reducible refine(CB.i _).g ?_);rintro e w5 ⟨A5,c5,rfl,Uf,hb5⟩;have C6:=ab (agv key A5 38 c5 bs w5 Uf (by decide));have Z5:=ab (Z0.i.drew.go hb5);clear Uf hb5)
  | (go_at_call 97;(with_reducible refine C6.i.g ?_);rintro e w6 ⟨rfl,hb6⟩;have Z6:=ab (Z5.i.go hb6);clear hb6))
 go_wp2;go_ret;refine⟨?_,Z6.i.X⟩;rw[HBS.i];rfl
def aeg:Go.Shelf.Ren:=⟨fun|6=>238|15=>219|14=>301|28=>283|29=>284|20=>339|21=>340|22=>341|23=>342|24=>343|25=>344|26=>345|27=>346|46=>363|47=>329|48=>330|49=>364|50=>365|57=>372|n=>n,fun|22=>75|24=>151|25=>257|3=>3|39=>259|0=>0|53=>323|55=>92|4=>4|46=>352|45=>351|50=>158|5=>5|9=>9|66=>388|70=>392|76=>410|77=>152|n=>n,fun|n=>n⟩
theorem aq0:Go.Proofs.SlLaysF0.n6 ah aeg:={
 mixed:=by kernel_rfl,
 f6:=⟨Tryz.f238.F,by decide,Tryz.func238.trans (congrArg some (by kernel_rfl))⟩,
 f14:=⟨Tryz.f301.F,by decide,Tryz.func301.trans (congrArg some (by kernel_rfl))⟩,
 f15:=Tryz.func219.trans (congrArg some (by kernel_rfl)),
 f20:=⟨Tryz.f339.F,by decide,Tryz.func339.trans (congrArg some (by kernel_rfl))⟩,
 f21:=⟨Tryz.f340.F,by decide,Tryz.func340.trans (congrArg some (by kernel_rfl))⟩,
 f22:=⟨Tryz.f341.F,by decide,Tryz.func341.trans (congrArg some (by kernel_rfl))⟩,
 f23:=⟨Tryz.f342.F,by decide,Tryz.func342.trans (congrArg some (by kernel_rfl))⟩,
 f24:=⟨Tryz.f343.F,by decide,Tryz.func343.trans (congrArg some (by kernel_rfl))⟩,
 f25:=⟨Tryz.f344.F,by decide,Tryz.func344.trans (congrArg some (by kernel_rfl))⟩,
 f26:=⟨Tryz.f345.F,by decide,Tryz.func345.trans (congrArg some (by kernel_rfl))⟩,
 f27:=⟨Tryz.f346.F,by decide,Tryz.func346.trans (congrArg some (by kernel_rfl))⟩,
 f28:=Tryz.func283.trans (congrArg some (by kernel_rfl)),
 f29:=Tryz.func284.trans (congrArg some (by kernel_rfl)),
 f46:=⟨Tryz.f363.F,by decide,Tryz.func363.trans (congrArg some (by kernel_rfl))⟩,
 f47:=Tryz.func329.trans (congrArg some (by kernel_rfl)),
 f48:=Tryz.func330.trans (congrArg some (by kernel_rfl)),
 f49:=⟨Tryz.f364.F,by decide,Tryz.func364.trans (congrArg some (by kernel_rfl))⟩,
 f50:=⟨Tryz.f365.F,by decide,Tryz.func365.trans (congrArg some (by kernel_rfl))⟩,
 f57:=⟨Tryz.f372.F,by decide,Tryz.func372.trans (congrArg some (by kernel_rfl))⟩,
 t0:=Iy,
 a0:=Tryz.isAgg0,
 z0:=Tryz.sizeOf0,
 v0:=Kc,
 t3:=fI,
 a3:=Tryz.isAgg3,
 z3:=Tryz.sizeOf3,
 v3:=Ke,
 t4:=om,
 a4:=Tryz.isAgg4,
 z4:=Tryz.sizeOf4,
 v4:=Kh,
 t5:=lX,
 a5:=Tryz.isAgg5,
 z5:=Tryz.sizeOf5,
 v5:=Tryz.zeroValue5,
 t9:=iZ,
 a9:=LW,
 z9:=IZ,
 v9:=Cx,
 t22:=wH,
 a22:=Tryz.isAgg75,
 z22:=Tryz.sizeOf75,
 v22:=Tryz.zeroValue75,
 t25:=Tryz.underlying257,
 a25:=Tryz.isAgg257,
 z25:=Tryz.sizeOf257,
 v25:=Tryz.zeroValue257,
 t39:=Tryz.underlying259,
 a39:=Tryz.isAgg259,
 z39:=Tryz.sizeOf259,
 v39:=Tryz.zeroValue259,
 t45:=Tryz.underlying351,
 a45:=Tryz.isAgg351,
 z45:=Tryz.sizeOf351,
 v45:=Tryz.zeroValue351,
 t46:=Tryz.underlying352,
 a46:=Tryz.isAgg352,
 z46:=Tryz.sizeOf352,
 v46:=Tryz.zeroValue352,
 t50:=Tryz.underlying158,
 a50:=Tryz.isAgg158,
 z50:=Tryz.sizeOf158,
 v50:=Tryz.zeroValue158,
 t53:=Tryz.underlying323,
 a53:=Tryz.isAgg323,
 z53:=Tryz.sizeOf323,
 v53:=Tryz.zeroValue323,
 t55:=Tryz.underlying92,
 a55:=Tryz.isAgg92,
 z55:=Tryz.sizeOf92,
 v55:=Tryz.zeroValue92,
 t66:=Tryz.underlying388,
 a66:=Tryz.isAgg388,
 z66:=Tryz.sizeOf388,
 v66:=Tryz.zeroValue388,
 t70:=Tryz.underlying392,
 a70:=Tryz.isAgg392,
 z70:=Tryz.sizeOf392,
 v70:=Tryz.zeroValue392,
 t76:=Tryz.underlying410,
 a76:=Tryz.isAgg410,
 z76:=Tryz.sizeOf410,
 v76:=Tryz.zeroValue410,
 t77:=Tryz.underlying152,
 a77:=Tryz.isAgg152,
 z77:=Tryz.sizeOf152,
 v77:=Tryz.zeroValue152}
def agw:Go.Shelf.Ren:=⟨fun|6=>151|15=>219|14=>218|28=>283|29=>284|20=>275|21=>276|22=>277|23=>278|24=>279|25=>280|26=>281|27=>282|46=>328|47=>329|48=>330|49=>331|50=>332|57=>359|n=>n,fun|22=>34|24=>86|25=>201|3=>3|39=>259|0=>0|53=>323|55=>92|4=>4|46=>352|45=>351|50=>158|5=>5|9=>9|66=>388|70=>392|76=>410|77=>152|n=>n,fun|n=>n⟩
theorem avx:Go.Proofs.SlLaysF0.n6 ah agw:={
 mixed:=by kernel_rfl,
 f6:=⟨Tryz.f151.F,by decide,Tryz.func151.trans (congrArg some (by kernel_rfl))⟩,
 f14:=⟨Tryz.f218.F,by decide,Tryz.func218.trans (congrArg some (by kernel_rfl))⟩,
 f15:=Tryz.func219.trans (congrArg some (by kernel_rfl)),
 f20:=⟨Tryz.f275.F,by decide,Tryz.func275.trans (congrArg some (by kernel_rfl))⟩,
 f21:=⟨Tryz.f276.F,by decide,Tryz.func276.trans (congrArg some (by kernel_rfl))⟩,
 f22:=⟨Tryz.f277.F,by decide,Tryz.func277.trans (congrArg some (by kernel_rfl))⟩,
 f23:=⟨Tryz.f278.F,by decide,Tryz.func278.trans (congrArg some (by kernel_rfl))⟩,
 f24:=⟨Tryz.f279.F,by decide,Tryz.func279.trans (congrArg some (by kernel_rfl))⟩,
 f25:=⟨Tryz.f280.F,by decide,Tryz.func280.trans (congrArg some (by kernel_rfl))⟩,
 f26:=⟨Tryz.f281.F,by decide,Tryz.func281.trans (congrArg some (by kernel_rfl))⟩,
 f27:=⟨Tryz.f282.F,by decide,Tryz.func282.trans (congrArg some (by kernel_rfl))⟩,
 f28:=Tryz.func283.trans (congrArg some (by kernel_rfl)),
 f29:=Tryz.func284.trans (congrArg some (by kernel_rfl)),
 f46:=⟨Tryz.f328.F,by decide,Tryz.func328.trans (congrArg some (by kernel_rfl))⟩,
 f47:=Tryz.func329.trans (congrArg some (by kernel_rfl)),
 f48:=Tryz.func330.trans (congrArg some (by kernel_rfl)),
 f49:=⟨Tryz.f331.F,by decide,Tryz.func331.trans (congrArg some (by kernel_rfl))⟩,
 f50:=⟨Tryz.f332.F,by decide,Tryz.func332.trans (congrArg some (by kernel_rfl))⟩,
 f57:=⟨Tryz.f359.F,by decide,Tryz.func359.trans (congrArg some (by kernel_rfl))⟩,
 t0:=Iy,
 a0:=Tryz.isAgg0,
 z0:=Tryz.sizeOf0,
 v0:=Kc,
 t3:=fI,
 a3:=Tryz.isAgg3,
 z3:=Tryz.sizeOf3,
 v3:=Ke,
 t4:=om,
 a4:=Tryz.isAgg4,
 z4:=Tryz.sizeOf4,
 v4:=Kh,
 t5:=lX,
 a5:=Tryz.isAgg5,
 z5:=Tryz.sizeOf5,
 v5:=Tryz.zeroValue5,
 t9:=iZ,
 a9:=LW,
 z9:=IZ,
 v9:=Cx,
 t22:=Gh,
 a22:=Tryz.isAgg34,
 z22:=Tryz.sizeOf34,
 v22:=Tryz.zeroValue34,
 t25:=Tryz.underlying201,
 a25:=Tryz.isAgg201,
 z25:=Tryz.sizeOf201,
 v25:=Tryz.zeroValue201,
 t39:=Tryz.underlying259,
 a39:=Tryz.isAgg259,
 z39:=Tryz.sizeOf259,
 v39:=Tryz.zeroValue259,
 t45:=Tryz.underlying351,
 a45:=Tryz.isAgg351,
 z45:=Tryz.sizeOf351,
 v45:=Tryz.zeroValue351,
 t46:=Tryz.underlying352,
 a46:=Tryz.isAgg352,
 z46:=Tryz.sizeOf352,
 v46:=Tryz.zeroValue352,
 t50:=Tryz.underlying158,
 a50:=Tryz.isAgg158,
 z50:=Tryz.sizeOf158,
 v50:=Tryz.zeroValue158,
 t53:=Tryz.underlying323,
 a53:=Tryz.isAgg323,
 z53:=Tryz.sizeOf323,
 v53:=Tryz.zeroValue323,
 t55:=Tryz.underlying92,
 a55:=Tryz.isAgg92,
 z55:=Tryz.sizeOf92,
 v55:=Tryz.zeroValue92,
 t66:=Tryz.underlying388,
 a66:=Tryz.isAgg388,
 z66:=Tryz.sizeOf388,
 v66:=Tryz.zeroValue388,
 t70:=Tryz.underlying392,
 a70:=Tryz.isAgg392,
 z70:=Tryz.sizeOf392,
 v70:=Tryz.zeroValue392,
 t76:=Tryz.underlying410,
 a76:=Tryz.isAgg410,
 z76:=Tryz.sizeOf410,
 v76:=Tryz.zeroValue410,
 t77:=Tryz.underlying152,
 a77:=Tryz.isAgg152,
 z77:=Tryz.sizeOf152,
 v77:=Tryz.zeroValue152}
section
variable {α:Type} [Inhabited α]
theorem WG(f:α->Array aB)(k:Nat)(hk:∀x,(f x).j=k)(l:List α):(Sort.flatK (fun x=>(f x).a) k l.c).a=l.d fun x=>(f x).a:=by
 apply iC;intro t;have hl:=uE f k hk l;by_cases ht:t<l.a*k
 ·have hk0:0<k:=by
   rcases eB k with h|h
   ·subst h;simp at ht
   ·exact h
  have hq:t/k<l.a:=(Nat.div_lt_iff_lt_mul hk0).2 ht;have hm:=fP t hk0;have e:=Nat.div_add_mod t k;have h1:=Sort.get_flatK (fun x=>(f x).a) k l.c t (by simpa using ht);have h2:=vO f k hk l (t/k) (t%k) hq hm;rw[show t/k*k+t%k=t by rw[DY];exact e]at h2;rw[h2,dH];have hs:t<(Sort.flatK (fun x=>(f x).a) k l.c).j:=by rw[yT];simpa using ht
  rw[getElem!_pos _ t hs]at h1;rw[fH hs,h1];have hs2:t%k<(f l[t/k]).j:=by rw[hk];exact hm
  rw[fH hs2,getElem!_pos l.c (t/k) (by simpa using hq)];simp only[List.getElem_toArray];rw[getElem!_pos _ (t%k) (by simpa using hs2)];simp
 ·rw[aT (by simp[yT];omega),aT (by omega)]
theorem Te(f:α->Array aB)(k:Nat)(hk:∀x,(f x).j=k){w:ak}{g:Nat}{cur:Array aB}{e:bL}{l:List α}(hb:w.a[g]? = some (.D cur e (0,0)))(ht:cur.a.E (l.a*k)=l.d fun x=>(f x).a):Sort.HoldsK (fun x=>(f x).a) k w g 0 l.c:=by
 intro j hj;rw[yT]at hj;have hj':j<l.a*k:=by simpa using hj
 refine⟨?_,by simp[tF,hb]⟩;have h1:(cur.a.E (l.a*k))[j]? = (l.d fun x=>(f x).a)[j]?:=by rw[ht]
 rw[iB hj',<-WG f k hk l,dH,dH]at h1;have hs:j<(Sort.flatK (fun x=>(f x).a) k l.c).j:=by rw[yT];exact hj
 simp only[World.cell?,hb,bC,Option.isSome_none,fM,if_false,id];rw[h1,fH hs,getElem!_pos _ j hs]
theorem abJ(f:α->Array aB)(k:Nat){w:ak}{g n:Nat}{os:Array Obj}{cur:Array aB}{e:bL}{fr:Nat×Nat}(d:Array α)(hb:w.a[g]? = some (.D cur e fr)):
 (sortWorldK (fun x=>(f x).a) k w g 0 n d os).a[g]? = some (.D (Sort.putCells id 0 (Sort.flatK (fun x=>(f x).a) k d) cur) e fr):=by
 have hg:g<w.a.j:=(bY.1 hb).1;unfold sortWorldK Sort.putRowK;rw[Sort.heap_grow_old _ _ (by simpa using hg)];simp[Sort.putRow,Sort.mapBlock,Sort.ahead,Az,hb,Sort.onCells]
theorem Tf(f:α->Array aB)(k:Nat){w:ak}{g n:Nat}{os:Array Obj}(d:Array α):w.d (sortWorldK (fun x=>(f x).a) k w g 0 n d os) (some g):=by
 unfold sortWorldK Sort.putRowK;refine⟨rfl,rfl,rfl,by simp,fun j hj hne=>?_⟩;rw[Sort.heap_grow_old _ _ (by simpa using hj)];have:g≠j:=fun e=>hne (by rw[e])
 simp[Sort.putRow,Sort.mapBlock,Sort.ahead,Az,this]
theorem Ti(f:α->Array aB)(k:Nat)(hk:∀x,(f x).j=k){w:ak}{base g cap n:Nat}{e:bL}{os:Array Obj}{cur:Array aB}{l l':List α}(hl:l'.a=l.a)(hbase:base<=g)(hb:w.a[g]? = some (.D cur e (0,0)))
 (h1:l.a<=cap) (h2:cap<=maxLen) (h3:cur.j=cap*k):(sortWorldK (fun x=>(f x).a) k w g 0 n l'.c os).c base e k (.a (some ⟨g,0,none⟩) l.a cap) l.a (l'.d fun x=>(f x).a):=by
 have hle:l.a*k<=cap*k:=dB k h1;refine⟨by rw[uE f k hk,hl],.a ⟨g,cap,_,rfl,hbase,abJ f k _ hb,h1,h2,by simp[Sort.putCells,h3],?_⟩⟩;rw[<-WG f k hk l'];apply iC;intro j;by_cases hj:j<l.a*k
 ·have hs:j<(Sort.flatK (fun x=>(f x).a) k l'.c).j:=by rw[yT];simp[hl];exact hj
  rw[iB hj,dH,dH,fH hs];simp only[Sort.putCells,Array.getElem?_mapIdx];rw[fH (by omega)];simp only[nS,jo,true_and,bC,hs,if_true,Nat.sub_zero,id];rw[getElem!_pos _ j hs]
 ·rw[List.getElem?_take_eq_none (by omega),aT (by simp[yT,hl];omega)]
open Go.Shelf in
theorem Ze {P:Program} {ρ:Ren} (L:SlLaysF0.n6 P ρ) (k:Nat) (aE:∀w,(isAgg (ρ.t 24)).O P w=.ok true w) (zE:∀w,(Go.sizeOf (ρ.t 24)).O P w=.ok k w) (f:α->Array aB) (hk:∀x,(f x).j=k) (h1:∀x,(f x).all (·.h)=true) (cf:α->α->Int) (hO:Sort.SWO (ltOf cf)) (g:Nat)
 (eg:∀args w,(callFunc g args).O P w=.ok (.enter g args) w) (base:Nat) (T:bL) (A:Option aV) (n c:Nat) (l:List α) (w:ak) (hn:l.a=n) (hn2:n<=1000000) (ho:w.c base T k (.a A n c) n (l.d fun x=>(f x).a))
 (hcmp:∀x y W,aR P g #[.d (f x),.d (f y)] W (gY W (.b .a (cf x y)))) :
 aR P (ρ.f 6) #[.a A n c,.func (.func g) #[] #[]] w fun e w'=>e=.a (.K #[])/\∃l':List α,l'.Perm l/\l'.Pairwise (fun x y=>ltOf cf y x=false)/\w'.c base T k (.a A n c) n (l'.d fun x=>(f x).a)/\w.d w' (bB A n c).f:=by
 subst hn;rcases ho.2 with⟨hv,h0⟩|⟨b,cap,cur,hv,h2,h3,h4,h5,h6,h7⟩
 ·injection hv with e1 e2 e3
  subst e1 e3;have hnil:l=[]:=bF h0;subst hnil;refine(AnyF.slices_SortFunc_none L none 0 _ w).g ?_;rintro e w' ⟨rfl,rfl⟩;exact⟨rfl,[],.refl _,.nil,ho,World.grownBy.refl _ _⟩
 ·injection hv with e1 e2 e3
  subst e1 e3;have hg:b<w.a.j:=(bY.1 h3).1;have hH:=Te f k hk (l:=l) h3 h7;have hc:CmpLays P g #[] (fun x=>(f x).a) k cf b 0 l.c.j w:=by
   intro m os dk _ x y;refine(Calls.ax7 (hcmp x y _)).g ?_;rintro e w' ⟨rfl,q,os',hw⟩;exact⟨rfl,q,os',hw⟩
  have:=AnyQ.slices_SortFunc L k aE zE (fun x=>(f x).a) (fun x=>by simp[hk]) (fun x v hv=>by
   have:=h1 x;rw[yR]at this;exact this v (by simpa using hv)) cf hO g #[] b 0 c l.c w eg hc hH hg (by simp;omega)
  rw[show l.c.j=l.a by simp]at this;refine this.g ?_;rintro e w' ⟨rfl,d',nn,os,hp,hs,rfl⟩;obtain⟨p1,p2,p3⟩:=hp;have hsz:d'.j=l.a:=by simpa using p1
  refine⟨rfl,d'.a,?_,?_,?_,Tf f k d'⟩
  ·have e1:d'.m 0 l.a=d':=by rw[<-hsz];simp
   have e2:l.c.m 0 l.a=l.c:=by simp
   rw[e1,e2]at p3;simpa using p3
  ·rw[gF]
   intro i j hi hj hij;have:=hs i j (jo _) hij (by simpa[hsz]using hj);rw[getElem!_pos _ j (by simpa using hj),getElem!_pos _ i (by simpa using hi)]at this;simpa using this
  ·have:=Ti f k hk (l:=l) (l':=d'.a) (n:=nn) (os:=os) (e:=T) (by simp[hsz]) h2 h3 h4 h5 h6
   simpa using this
end
theorem agx(l:List UInt8):Lib.bytesOf (l.map fun b=>((b.e:Nat):Int))=l:=by
 unfold Lib.bytesOf;rw[IX]
 conv=>rhs;rw[<-List.map_id l]
 apply Dz;intro b _;simp
theorem JU{P:Program}{w:ak}{B n:Nat}{A:Option aV}{l:List UInt8}(h:gG w B A n l)(c:Nat):(uX (.a A n c)).O P w=.ok (bK l) w:=by
 have hl:=h.len;rcases eB n with h0|h0
 ·subst h0
  obtain rfl:l=[]:=bF hl;cases A with
  | none=>simp[uX,bK];rfl
  | some a=>simp[uX,Extern.Bytes.loadBytes,bK];rfl
 ·obtain⟨a,rfl,_,hc⟩:=h.2 h0
  have:=Lib.run_loadBytesX (P:=P) w (l.map fun b=>((b.e:Nat):Int)) a .empty (fun j x hj=>by
   rw[jM]at hj;refine hc j _ ?_;rw[jM];cases hj2:l[j]? with
   | none=>rw[hj2]at hj;cases hj
   | some b=>rw[hj2]at hj;simp at hj;subst hj;rfl)
  rw[bW,hl,agx]at this;show J8 P (Extern.Bytes.loadBytes a n .empty) w=_;rw[this];congr 1;exact congrArg ByteArray.mk (by show #[]++l.c=l.c;simp)
theorem XK{w:ak}{B C n m:Nat}{A A':Option aV}{l k:List UInt8}(h:gG w B A n l)(h':gG w C A' m k)(c c':Nat):(callFunc 263 #[.a A n c,.a A' m c']).O ah w=.ok (.value (.b .a (nu l k))) w:=by
 rw[run_callFunc_extern Tryz.func263 (by kernel_rfl) (by kernel_rfl) (by kernel_rfl) (e:=Extern.BytealgCompare.compare) (by kernel_rfl)];have:(Extern.BytealgCompare.compare #[.a A n c,.a A' m c']).O ah w=.ok (.b .a (nu l k)) w:=by
  change J8 ah (do pure (goInt (Extern.BytealgCompare.cmp (<-uX (.a A n c)) (<-uX (.a A' m c'))))) w=_;simp only[jS,JU h,JU h',oU,iM];rw[Lib.cmp_eq];rfl
 rw[this];rfl
theorem Qw{w:ak}{n m:Nat}{A A':Option aV}{l k:List UInt8}(h:gG w w.a.j A n l)(h':gG w w.a.j A' m k)(c c':Nat):aR ah 194 #[.a A n c,.a A' m c'] w fun e w'=>e=.a (.b .a (nu l k))/\w=w':=by
 have hc:=XK h h' c c';go_enter Tryz.func194,Tryz.ntmps194;go_wp2;go_ret;exact⟨rfl,rfl⟩
def abK(a b:Fw):Int:=if a.no=b.no then nu (MX a.key) (MX b.key)else a.no-b.no
theorem abL(a b:Fw):ltOf abK a b=mo a b:=by
 unfold ltOf abK mo;by_cases h:a.no=b.no
 ·rw[if_pos h,if_pos h,ze]
 ·rw[if_neg h,if_neg h]
  exact decide_eq_decide.2 (by omega)
theorem pR{W:ak}{b:Nat}{x:Fw}(h:dP W b x.ay):(yh (.c (some ⟨b,0,none⟩))).O ah W=.ok (.d x.key.ay) W:=by
 have hs:eU x.ay=41:=Fw.J x;have e:x.ay.m 0 37=x.key.ay:=by
  unfold Fw.ay;simp[bZ,Tu.J,qA (Tu.J _)]
 rw[TM W b 0 (of_eq_true (h.R.2.2.1 0 37 (by omega))),h.R.2.2.2 0 37 (by omega),bC,e]
theorem Rm(a b:Fw)(ha:yj a.key)(hb:yj b.key)(na:0<=a.no/\a.no<=1152921504606846976)(nb:0<=b.no/\b.no<=1152921504606846976)(w:ak):
 aR ah 117 #[.d a.ay,.d b.ay] w (gY w (.b .a (abK a b))):=by
 have Z0:=ab (((Bx.start w).new a.ay 86).new b.ay 86);rw[show(w.alloc (.D a.ay 86)).a.j=w.a.j+1 by simp]at Z0;have C1:=ab (fun W=>JR a.key ha W);have C2:=ab (fun W=>JR b.key hb W);obtain⟨l,hl⟩:=cB (MX a.key);obtain⟨k,hk⟩:=cB (MX b.key);rw[<-hl]at C1;rw[<-hk]at C2;have HL:=ab hl;have HK:=ab hk;clear hl hk;go_enter Tryz.func117,Tryz.ntmps117;go_upto_region 1 with fail
 generalize(w.alloc (.D a.ay 86)).alloc (.D b.ay 86)=w1 at Z0 ⊢;have s1:=(Z0.i.b1.R.1 40).trans (Fw.aaQ a);have s2:=(Z0.i.Z.R.1 40).trans (Fw.aaQ b);have l1:=pR Z0.i.b1;have l2:=pR Z0.i.Z;by_cases h:a.no=b.no
 ·have t1:decide (a.no=b.no)=true:=by simp[h]
  have t2:(a.no==b.no)=true:=by simp[h]
  have t3:decide (a.no≠b.no)=false:=by simp[h]
  have t4:(a.no != b.no)=false:=by simp[h]
  have HC:=ab (show abK a b=nu l k by unfold abK;rw[if_pos h,<-HL.i,<-HK.i]);clear h;have KS:=ab (fun(w':ak) (h:Bx [(w.a.j+1,b.ay),(w.a.j,a.ay)] w w')=>show(yh (.c (some ⟨w.a.j,0,none⟩))).O ah w'=.ok (.d a.key.ay) w'/\(yh (.c (some ⟨w.a.j+1,0,none⟩))).O ah w'=.ok (.d b.key.ay) w' from⟨pR h.b1,pR h.Z⟩);go_wp2_with fail;go_region_held_law (fun w'=>(yh (.c (some ⟨w.a.j,0,none⟩))).O ah w'=.ok (.d a.key.ay) w'/\(yh (.c (some ⟨w.a.j+1,0,none⟩))).O ah w'=.ok (.d b.key.ay) w')
   (first|exact KS.i _ Z0.i.drew|exact KS.i _ Z7.i|exact KS.i _ Z6.i|exact KS.i _ Z5.i|go_keep)
   (first
   | (go_at_call 98;(with_reducible refine(C1.i _).g ?_);rintro e w5 ⟨A5,c5,rfl,Uf,hb5⟩;first|(have R5:=ab Uf;have Z5:=ab (Z6.i.go hb5);have R6:=ab (R6.i.go hb5))|(have R5:=ab Uf;have Z5:=ab (Z0.i.drew.go hb5));clear Uf hb5)
   | (go_at_call 98;(with_reducible refine(C2.i _).g ?_);rintro e w6 ⟨A6,c6,rfl,ho6,hb6⟩;first|(have R6:=ab ho6;have Z6:=ab (Z5.i.go hb6);have R5:=ab (R5.i.go hb6))|(have R6:=ab ho6;have Z6:=ab (Z0.i.drew.go hb6));clear ho6 hb6)
   | (go_at_call 194;(with_reducible refine(Qw R5.i R6.i _ _).g ?_);rintro e w7 ⟨rfl,rfl⟩))
  all_goals go_wp2
  all_goals go_ret
  all_goals(refine⟨by rw[HC.i];rfl,?_⟩;first|exact Z6.i.X|exact Z5.i.X)
 ·have t1:decide (a.no=b.no)=false:=by simp[h]
  have t2:(a.no==b.no)=false:=by simp[h]
  have t3:decide (a.no≠b.no)=true:=by simp[h]
  have t4:(a.no != b.no)=true:=by simp[h]
  have HC:=ab (show abK a b=a.no-b.no by unfold abK;rw[if_neg h]);have i1:=jY (a.no-b.no) (by omega);clear h;go_wp2;go_ret;exact⟨by rw[HC.i];rfl,Z0.i.X⟩
theorem Rn(a b:Fw)(ha:yj a.key)(hb:yj b.key)(na:0<=a.no/\a.no<=1152921504606846976)(nb:0<=b.no/\b.no<=1152921504606846976)(w:ak):
 aR ah 49 #[.d a.ay,.d b.ay] w (gY w (.e (mo a b))):=by
 have Z0:=ab (((Bx.start w).new a.ay 86).new b.ay 86);rw[show(w.alloc (.D a.ay 86)).a.j=w.a.j+1 by simp]at Z0;have C1:=ab (fun W=>Rm a b ha hb na nb W);obtain⟨r,hr⟩:=cB (abK a b);obtain⟨o,ho⟩:=cB (mo a b);rw[<-hr]at C1;have t1:decide (r<0)=o:=by rw[ho,<-abL,hr];rfl
 have HO:=ab ho;clear hr ho;go_enter Tryz.func49,Tryz.ntmps49;go_upto_region 1 with fail
 generalize(w.alloc (.D a.ay 86)).alloc (.D b.ay 86)=w1 at Z0 ⊢;have l1:=kU Z0.i.b1;have l2:=kU Z0.i.Z;go_wp2_with (go_at_call 117;(with_reducible refine(C1.i _).g ?_);rintro e w5 ⟨rfl,hb5⟩;have Z5:=ab (Z0.i.go hb5);clear hb5);go_ret;exact⟨by rw[HO.i];rfl,Z5.i.X⟩
section
open Go.RowKit Go.Shelf
attribute [local go_sem] qQ
theorem Hw{β:Type}{B:Nat}{J:β->ak->Prop}(h:AbidesFrom B J){s:β}{W:ak}(hs:J s W)(o:Obj):J s (W.alloc o):=h s W _ none hs (World.grownBy_alloc W o none) (fun r e=>by cases e)
theorem abM(F:Ll)(n:Nat)(hf:F.fn 239)(hro:F.round=none)(hn:1<=n)(l Bs n₀ B0:Nat)(A:Option aV)(len cap:Nat)(zs:List pW)(hlen:len<=100000)(J Jx:List pW->ak->Prop)(hJ:AbidesFrom B0 J)
 (hY:∀pre x W,J pre W->pre.a<len->YieldAt F (n-1) ah l #[.d x.ay] W fun e W'=>
  (e=.a (.e true)/\J (pre++[x]) W'/\aM n₀ W W')\/(e=.a (.e false)/\Jx (pre++[x]) W'))
 (W:ak) (hn₀:n₀<=W.a.j) (Qb:W.b ⟨Bs,0,none⟩=some (.a A len cap)) (hR:iT pW.ay 2 W n₀ A len zs) (h0:J [] W) :
 MS F n ah 239 #[.func (.yield l) #[] #[],.c (some ⟨Bs,0,none⟩)] W fun e W'=>(∃v,e=.a v) /\
  ((∃ys,ys=zs/\J ys W')\/(∃pre,pre <+: zs/\Jx pre W')):=by
 have hzl:=hR.1;refine callsIn_of_wp Tryz.func239 rfl hf ?_ hro;simp only[Tryz.ntmps239,dN,bl,gU,kZ,lg,gL,gM,iX,gZ,dJ,gQ];gi_wp2;gi_loopw [7] (fun i wr=>∃k:Nat,k<=len/\i=.b .a k/\J (zs.E k) wr/\aM n₀ W wr)
  (fun i _=>len-(intOf i).e)
 case atStart=>exact⟨0,jo _,rfl,h0,aG _ _⟩
 case round=>
  obtain⟨k,hk,rfl,hJs,hnx⟩:=hrel;by_cases hlt:k<len
  ·have hki:(k:Int)<len:=by omega
   obtain⟨b,o,rfl,hbb,hh,hc⟩:=iT.dW pW.Cv lT (hR.Y hnx) hlt;obtain⟨x,hx⟩:=cB (zs.b k lT);rw[<-hx]at hc;have Ew:=ab (show zs.E k++[x]=zs.E (k+1)by rw[hx];exact pE lT zs k (by omega));clear hx hbb;have bx:=dP.new wr x.ay 151;have hld:=Wz bx;have hsz:=hnx.j;obtain⟨fn,tmps,assign,body,hy,hRd⟩:=hY _ x (wr.alloc (.D x.ay 151)) (Hw hJ hJs _) (by rw[bE];omega);have Qx:=ab (hnx.alloc (by omega) (.D x.ay 151));clear bx;gi_wp2;refine hRd.g ?_;rintro e W3 (⟨rfl,hJ3,hk3⟩|⟨rfl,hJx3⟩)
   ·gi_wp2
    go_roundw
    case rel=>exact⟨k+1,by omega,by simp,by rw[<-Ew.i];exact hJ3,Qx.i.trans hk3⟩
    case measure=>simp[intOf];omega
   ·gi_wp2
    refine aO (wI rfl _ _ _) rfl ?_;exact⟨⟨_,rfl⟩,.a ⟨_,by rw[Ew.i];exact List.take_prefix _ _,hJx3⟩⟩
  ·obtain rfl:k=len:=by omega
   have hd:decide ((k:Int)<k)=false:=by simp
   gi_wp2;go_end0;exact⟨⟨_,rfl⟩,.b ⟨_,aK (by omega),hJs⟩⟩
theorem abN(A:Option aV)(len cap:Nat)(w:ak):
 aR ah 164 #[.a A len cap] w fun e w'=>e=.a (.func (.func 239) #[] #[.c (some ⟨w.a.j,0,none⟩)])/\w.alloc (.D #[.a A len cap] 75)=w':=by
 go_enter Tryz.func164,Tryz.ntmps164;go_wp2;go_ret;exact⟨rfl,rfl⟩
theorem WH(F:Ll)(n:Nat)(hf:F.fn 239)(hro:F.round=none)(hn:1<=n)(Bs n₀:Nat)(A:Option aV)(len cap:Nat)(zs:List pW)(hlen:len<=100000)(w:ak)(Qb:Bs<w.a.j)(hn₀:n₀<=w.a.j)
 (hc:w.b ⟨Bs,0,none⟩=some (.a A len cap)) (hR:iT pW.ay 2 w n₀ A len zs) :
 wZ F n ah 239 #[.c (some ⟨Bs,0,none⟩)] (fun x:pW=>#[cO x.ay]) (aM n₀) (fun ys=>ys=zs) (fun pre=>pre <+: zs) len w:=fun l J Jx W hW hJ _ hY h0=>by
 have hc':=(hW.cell (p:=⟨Bs,0,none⟩) Qb).trans hc;exact abM F n hf hro hn l Bs n₀ W.a.j A len cap zs hlen J Jx hJ hY W (aP hn₀ hW.j) hc' (hR.to hW hn₀) h0
theorem akf(x y:pW)(w:ak):aR ah 165 #[.d x.ay,.d y.ay] w (gY w (.b .a (nu x.F y.F))):=by
 have Z0:=ab (((Bx.start w).new x.ay 151).new y.ay 151);rw[show(w.alloc (.D x.ay 151)).a.j=w.a.j+1 by simp]at Z0;have CC:=ab (fun W=>QK x.F y.F W);go_enter Tryz.func165,Tryz.ntmps165;go_upto_region 1 with fail
 generalize(w.alloc (.D x.ay 151)).alloc (.D y.ay 151)=w1 at Z0 ⊢;have c1:=(Z0.i.b1.R.1 0).trans (pW.zJ x);have c2:=(Z0.i.Z.R.1 0).trans (pW.zJ y);go_wp2_with (go_at_call 166;(with_reducible refine(CC.i _).g ?_);rintro e w2 ⟨rfl,rfl⟩);go_ret;exact⟨rfl,Z0.i.X⟩
def Zf(x y:pW):Int:=nu x.F y.F
theorem akg:Sort.SWO (ltOf Zf):=by
 have e:∀x y,ltOf Zf x y=bU x.F y.F:=fun x y=>by rw[ze];rfl
 refine⟨fun x=>?_,fun x y z h1 h2=>?_,fun x y z h1 h2=>?_⟩
 ·rw[e];exact tY _
 ·rw[e]at *;exact zu _ _ _ h1 h2
 ·rw[e]at *;exact Jw h2 h1
def WI(l:List pW):Prop:=l.Pairwise fun x y=>bU x.F y.F=true
theorem anG{l l':List pW}(h:WI l)(hp:l'.Perm l)(hs:l'.Pairwise fun x y=>ltOf Zf y x=false):l'=l:=by
 have e:∀x y,ltOf Zf x y=bU x.F y.F:=fun x y=>by rw[ze];rfl
 have hst:Jp (fun x y:pW=>bU x.F y.F):=⟨fun x=>tY _,fun x y z h1 h2=>zu _ _ _ h1 h2⟩
 have hnd:l'.Pairwise fun x y=>x.F≠y.F:=by
  refine(hp.pairwise_iff (fun{a b} (hab:a.F≠b.F)=>Ne.symm hab)).2 (h.imp ?_);intro a b hab heq;rw[heq,tY]at hab;cases hab
 have h':Asc (fun x y:pW=>bU x.F y.F) l':=by
  refine(hs.and hnd).imp ?_;rintro a b ⟨h1,h2⟩;rw[e]at h1;cases h3:bU a.F b.F
  ·exact absurd (AZ _ _ h3 h1) h2
  ·exact h3
 exact Asc.eq hst h' h hp
theorem anH(w:ak):(isAgg 151).O ah w=.ok true w:=by simp[isAgg,dK Tryz.underlying151]
theorem aq2(w:ak):(Go.sizeOf 151).O ah w=.ok 2 w:=by
 obtain⟨i,hi,hi2,_⟩:=avu.af3;rw[run_sizeOf w hi];have hc:ah.cellsOf 151=2:=by simp[Program.cellsOf,hi,hi2]
 rw[hc]
theorem WJ{B base size n:Nat}{e:bL}{v:aB}{xs:List aB}{w w1 w2:ak}(hb:aM B w w1)(ho:w1.c base e size v n xs)(hB:B<=base)(hB2:B<=w.a.j)(hg:w1.d w2 v.f):aM B w w2:=by
 refine⟨hg.os.trans hb.os,hg.tape.trans hb.tape,hg.output.trans hb.output,aP hb.j hg.j,fun k hk=>?_⟩;refine(hg.block k (fE (fE hk hB2) hb.j) (fun e2=>?_)).trans (hb.block k hk)
 ·rcases ho.2 with⟨rfl,_⟩|⟨g,cap,cur,rfl,h2,h3,_⟩
  ·cases e2
  ·injection e2 with e2
   dsimp at e2;omega
theorem agy(l:List pW)(hl:l.a<=1000000)(W:ak)(base:Nat)(A:Option aV)(c:Nat)(h:W.c base 151 2 (.a A l.a c) l.a (l.d fun x=>x.ay.a)):
 aR ah 238 #[.a A l.a c,.func (.func 165) #[] #[]] W fun e w'=>e=.a (.K #[])/\∃l':List pW,l'.Perm l/\l'.Pairwise (fun x y=>ltOf Zf y x=false)/\w'.c base 151 2 (.a A l.a c) l.a (l'.d fun x=>x.ay.a)/\W.d w' (bB A l.a c).f:=
 Ze aq0 2 anH aq2 pW.ay pW.J pW.dx Zf akg 165 (fun args w=>rfl) base 151 A l.a c l W rfl hl h akf
theorem OD(gf:Nat)(lb:Array aB)(eg:∀args w,(callFunc gf args).O ah w=.ok (.enter gf args) w)(l:List pW)(hs:WI l)(hN:l.a<=100000)(w:ak)(hseq:wZ nY 5 ah gf lb (fun x:pW=>#[cO x.ay]) (aM w.a.j) (fun ys=>ys=l) (fun pre=>pre <+: l) l.a w):
 aR ah 163 #[.func (.func gf) #[] lb,.func (.func 165) #[] #[]] w fun e W'=>
  ∃A' c',e=.a (.a A' l.a c')/\W'.c w.a.j 151 2 (.a A' l.a c') l.a (l.d fun x=>x.ay.a)/\aM w.a.j w W':=by
 have CO:=ab (WC gf lb eg (fun ys=>ys=l) (fun pre=>pre <+: l) l.a hN w hseq);have SO:=ab (fun(W:ak) (A:Option aV) (c:Nat) h=>agy l (by omega) W w.a.j A c h);clear hseq;go_enter Tryz.func163,Tryz.ntmps163;go_wp2_with fail;refine CO.i.g ?_;rintro e w1 ⟨ys,rfl,A1,c1,rfl,ho,hb⟩;have SO1:=ab (SO.i w1 A1 c1 ho);have HB:=ab hb;have HO:=ab ho;have HS:=ab hs;clear hb ho hs SO CO;obtain⟨m,hm⟩:=cB ys.a;rw[<-hm]at HO SO1 ⊢;have HM:=ab hm;clear hm;go_wp2_with fail;refine SO1.i.g ?_;rintro e w2 ⟨rfl,l',hp,hpw,ho2,hg⟩;obtain rfl:=anG HS.i hp hpw;have H2:=ab ho2;have HG:=ab hg;clear ho2 hg hp hpw;go_wp2;go_ret;obtain rfl:=HM.i;exact⟨A1,c1,rfl,H2.i,WJ HB.i HO.i (av _) (av _) HG.i⟩
theorem abO(l:List pW)(hs:WI l)(A:Option aV)(n c:Nat)(w:ak)(hR:iT pW.ay 2 w w.a.j A n l)(hn:n<=100000):
 aR ah 80 #[.a A n c] w fun e w'=>∃A' c',e=.a (.a A' n c')/\iT pW.ay 2 w' w'.a.j A' n l/\aM w.a.j w w':=by
 have hl:=hR.1;have w1s:=(dP.new w #[.a A n c] 75)
 have hB1:aM w.a.j w (w.alloc (.D #[.a A n c] 75)):=(aG _ _).alloc (av _) _;have hR1:=hR.up (.D #[.a A n c] 75);have SQ:=ab (WH nY 5 trivial rfl (by omega) w.a.j (w.alloc (.D #[.a A n c] 75)).a.j A n c l (by omega) (w.alloc (.D #[.a A n c] 75)) w1s.lt (av _) (w1s.R.1 0) hR1);have VA:=ab (abN A n c w);generalize hw:w.alloc (.D #[.a A n c] 75)=w1 at *;have SF:=ab (OD 239 #[.c (some ⟨w.a.j,0,none⟩)] (fun args w=>rfl) l hs (by omega) w1 (by rw[hl];exact SQ.i));have HB1:=ab hB1;have HR1:=ab hR1;clear hw w1s hB1 hR1 hR SQ;go_enter Tryz.func80,Tryz.ntmps80;go_wp2_with fail;refine VA.i.g ?_;rintro e w2 ⟨rfl,rfl⟩;go_wp2_with fail;refine SF.i.g ?_;rintro e w2 ⟨A1,c1,rfl,ho,hb⟩;have HO:=ab ho;have HB:=ab hb;clear ho hb;subst hl;go_wp2;go_ret;refine⟨A1,c1,rfl,iT.jh rfl HO.i,?_⟩;have h1:=HB1.i;have h2:=HB.i;exact⟨h2.os.trans h1.os,h2.tape.trans h1.tape,h2.output.trans h1.output,aP h1.j h2.j,fun k hk=>(h2.block k (fE hk h1.j)).trans (h1.block k hk)⟩
end
theorem agz(key:Vector UInt8 16)(A:Option aV)(n c:Nat)(s:List UInt8)(tag:UInt8)(a:Int)(ha:a=(tag.e:Int))(w:ak)(hr:gG w w.a.j A n s)(hn:n<=1000000):aR ah 97 #[.d (jl key),.a (some ⟨w.a.j+1,0,none⟩) 2 2] ((w.alloc (.D #[.b .b a] 5)).alloc (.D (zy [⟨A,n,c⟩,⟨some ⟨w.a.j,0,none⟩,1,1⟩]) 56)) (gY w (.b .c (zi key (s++[tag])))):=by
 have hl:=hr.len;have e1:(w.alloc (.D #[.b .b a] 5)).a.j=w.a.j+1:=by simp
 have h1:=((hr.alloc (av _) (.D #[.b .b a] 5)).lD (show w.a.j<=w.a.j+1 by omega))
 have h2:=FH w tag a ha;have R:=RdS.lit (w.alloc (.D #[.b .b a] 5)) [⟨A,n,c⟩,⟨some ⟨w.a.j,0,none⟩,1,1⟩] 56;rw[e1]at R;have up:∀{A:Option aV} {n:Nat} {l:List UInt8},gG (w.alloc (.D #[.b .b a] 5)) (w.a.j+1) A n l->gG ((w.alloc (.D #[.b .b a] 5)).alloc (.D (zy [⟨A,n,c⟩,⟨some ⟨w.a.j,0,none⟩,1,1⟩]) 56)) ((w.alloc (.D #[.b .b a] 5)).alloc (.D (zy [⟨A,n,c⟩,⟨some ⟨w.a.j,0,none⟩,1,1⟩]) 56)).a.j A n l:=fun h=>(h.alloc (by rw[e1];omega) _).lD (by simp)
 have go:∀{A:Option aV} {n:Nat} {l:List UInt8} (ob:Obj),gG (w.alloc (.D #[.b .b a] 5)) (w.a.j+1) A n l->gG ((w.alloc (.D #[.b .b a] 5)).alloc ob) ((w.alloc (.D #[.b .b a] 5)).alloc ob).a.j A n l:=fun ob h=>(h.alloc (by rw[e1];omega) _).lD (by simp)
 refine(Zd key [⟨A,n,c⟩,⟨some ⟨w.a.j,0,none⟩,1,1⟩] [s,[tag]] _ 2 2 _ R (.cons (go _ h1) (.cons (go _ h2) .nil)) (by omega) (by simp[zw];omega) (s++[tag]) (by simp) (by simp;omega)).g ?_;rintro e w' ⟨rfl,hb⟩;exact⟨rfl,(((aG _ w).alloc (av _) _).alloc (by simp) _).trans (hb.g (by simp;omega))⟩
theorem OE(key:Vector UInt8 16)(s:List UInt8)(tag:UInt8)(a:Int)(ha:a=(tag.e:Int))(b:Nat)(z:Int)(hz:z=b)(hb:1<=b)(hb2:b<=1000000)(hs:s.a<=1000000)(r:Nat)(hr:zi key (s++[tag])%b=r)(kb nb:Nat)(W:ak)(hk:dP W kb (jl key))(hn:dP W nb #[.g (bK s)]):
 aR ah 167 #[.b .b a,.b .a z,.c (some ⟨kb,0,none⟩),.c (some ⟨nb,0,none⟩)] W (gY W (.b .a (r:Nat))):=by
 subst hz;have l1:=WE.nR hk (dO _);have l2:=hn.R.1 0;have l2:W.b ⟨nb,0,none⟩=some (.g (bK s)):=l2;have TW:=ab (ap8 W s);have hcv:=Jb (P:=ah) 9 56 5 iZ dD lX s W;obtain⟨W3,hW3⟩:=cB (tL W 5 s);rw[<-hW3]at hcv TW;obtain⟨cc,hcc⟩:=uP (grownCap W s.a 0 5);rw[hcc]at hcv;obtain⟨h,hh⟩:=cB (zi key (s++[tag]));have CS:=ab (agz key (some ⟨W.a.j,0,none⟩) s.a cc s tag a ha W3 TW.i.1 hs);rw[<-hh]at CS;have HH:=ab hh;have w1:jG.wrap (b:Int)=b:=by rw[jZ];omega
 have w2:((h:Int)%(b:Int))=((h%b:Nat):Int):=by omega
 rw[<-hh]at hr;have hlt:=fP h (show 0<b by omega);have w3:=jY ((h%b:Nat):Int) (by omega);have hb0:¬(b:Int)=0:=by omega
 have hb1:¬b=0:=by omega
 rw[hr]at w2 w3 hlt;clear hcc hW3 hh hk hn ha hr;go_enter Tryz.func167,Tryz.ntmps167;go_wp2_with (go_at_call 97;go_loud (with_reducible refine CS.i.g ?_);rintro e w9 ⟨rfl,hb9⟩;have B9:=ab hb9;clear hb9);go_ret;exact⟨rfl,TW.i.2.trans (B9.i.g TW.i.2.j)⟩
theorem WK(o s n i:Nat)(hn:1<=n)(hn2:n<=100000)(ho:o<=100000)(hs:s<=100000)(hi:i<=1000000000)(W:ak):aR ah 243 #[.b .a o,.b .a s,.b .a n,.b .a i] W fun e W'=>e=.a (.b .a (rY o s n (i%n):Nat))/\W=W':=by
 have h1:((i:Int)%(n:Int))=((i%n:Nat):Int):=by omega
 have h0:¬(n:Int)=0:=by omega
 have h0':¬n=0:=by omega
 obtain⟨j,hj⟩:=cB (i%n);have hjl:j<=100000:=by have:=fP i (show 0<n by omega);omega
 rw[<-hj]at h1 ⊢;have hm:j*s<=10000000000:=aP (iq hjl hs) (by decide);have h2:(j:Int)*(s:Int)=((j*s:Nat):Int):=by simp
 obtain⟨p,hp⟩:=cB (j*s);rw[<-hp]at h2 hm;have h3:=jY (p:Int) (by omega);have h4:(o:Int)+(p:Int)=((o+p:Nat):Int):=by omega
 obtain⟨q,hq⟩:=cB (o+p);rw[<-hq]at h4;have h5:=jY (q:Int) (by omega);have h6:(q:Int)%(n:Int)=((q%n:Nat):Int):=by omega
 have HC:=ab (show rY o s n j=q%n by rw[hq,hp];rfl);clear hj hp hq;rw[HC.i];go_enter Tryz.func243,Tryz.ntmps243;go_wp2;go_ret;exact⟨rfl,rfl⟩
theorem agA(key:Vector UInt8 16)(s:List UInt8)(n:Nat)(hn:2<=n)(hn2:n<=100000)(hs:s.a<=1000000)(w:ak):aR ah 83 #[.d (jl key),.g (bK s),.b .a n] w (gY w (.K #[.b .a (D8 key s n:Nat),.b .a (BR key s n:Nat)])):=by
 have Z0:=ab (((Bx.start w).new (jl key) 22).new #[.g (bK s)] 9);rw[show(w.alloc (.D (jl key) 22)).a.j=w.a.j+1 by simp]at Z0;obtain⟨o,ho⟩:=uP (zi key (s++[0])%n);have HO:=ab (show D8 key s n=o from ho);obtain⟨t,ht⟩:=uP (zi key (s++[1])%(n-1));obtain⟨t1,ht1⟩:=cB (t+1);have HT:=ab (show BR key s n=t1 by rw[ht1,<-ht];rfl);have C0:=ab (fun W (h:Bx [(w.a.j+1,#[.g (bK s)]),(w.a.j,jl key)] w W)=>OE key s 0 0 rfl n n rfl (by omega) (by omega) hs o ho w.a.j (w.a.j+1) W h.b1 h.Z);have C1:=ab (fun W (h:Bx [(w.a.j+1,#[.g (bK s)]),(w.a.j,jl key)] w W)=>OE key s 1 1 rfl (n-1) ((n:Int)-1) (by omega) (by omega) (by omega) hs t ht w.a.j (w.a.j+1) W h.b1 h.Z);have htl:t<n-1:=by rw[<-ht];exact fP _ (by omega)
 have i1:=jY ((n:Int)-1) (by omega);have i2:=jY (t1:Int) (by omega);have i3:(t:Int)+1=(t1:Int):=by omega
 rw[HT.i,HO.i];clear ht ho ht1;go_enter Tryz.func83,Tryz.ntmps83;go_upto_region 1 with fail
 generalize(w.alloc (.D (jl key) 22)).alloc (.D #[.g (bK s)] 9)=w1 at Z0 ⊢;go_wp2_with (first|(go_at_call 167;(with_reducible refine(C0.i _ Z0.i).g ?_);rintro e w5 ⟨rfl,hb⟩;have Z5:=ab (Z0.i.go hb);clear hb)|(go_at_call 167;(with_reducible refine(C1.i _ Z5.i).g ?_);rintro e w6 ⟨rfl,hb⟩;have Z6:=ab (Z5.i.go hb);clear hb));go_ret2;exact⟨rfl,Z6.i.X⟩
def SlA(d:Array aB)(sl:List Int):Prop:=∀j,j<sl.a->d[j]? = some (.b .a (sl.b j 0))
theorem SlA.set{d:Array aB}{sl:List Int}(h:SlA d sl){k:Nat}(v:Int):SlA (d.c k (.b .a v)) (sl.set k v):=by
 intro j hj;rw[aS]at hj;rw[dS,au,fu];by_cases e:k=j
 ·subst e
  have:=h k hj;have hlt:k<d.j:=by
   rcases aZ k d.j with h1|h1
   ·exact h1
   ·rw[aW h1]at this;cases this
  simp[hj,hlt]
 ·rw[if_neg e,if_neg e,h j hj,au]
theorem anJ(o s n i r:Nat)(hr:rY o s n (i%n)=r)(hn:1<=n)(hn2:n<=100000)(ho:o<=100000)(hs:s<=100000)(hi:i<=1000000000)(W:ak):aR ah 243 #[.b .a o,.b .a s,.b .a n,.b .a i] W fun e W'=>e=.a (.b .a (r:Nat))/\W=W':=by subst hr;exact WK o s n i hn hn2 ho hs hi W
theorem agB(tb sb z i n cn o s x f:Nat)(c d:Array aB)(sl:List Int)(W:ak)(hc:dP W tb c)(hd:dP W sb d)(hne:tb≠sb)(h2:c[z+2]? = some (.b .a o))(h3:c[z+3]? = some (.b .a s))(h4:c[z+4]? = some (.b .a x))
 (hsl:SlA d sl) (hl:sl.a=n) (hn:1<=n) (hn2:n<=100000) (hcn:n<=cn) (ho:o<=100000) (hs:s<=100000) (hx:x<=f) (hf:f<n) (hno:∀t,x<=t->t<f->sl.b (rY o s n t) 0≠-1) (hyes:sl.b (rY o s n f) 0 = -1) :
 aR ah 169 #[.c (some ⟨tb,z,none⟩),.a (some ⟨sb,0,none⟩) n cn,.b .a i] W fun e W'=>e=.a (.K #[])/\dP W' tb (c.c (z+4) (.b .a (f+1:Nat)))/\dP W' sb (d.c (rY o s n f) (.b .a i))/\jP [tb,sb] W W':=by
 have HC:=ab hc;have HD:=ab hd;have HNE:=ab hne;have HSL:=ab hsl;have Ez:=ab hno;have HY:=ab hyes;have HL:=ab hl;have H4:=ab h4;clear hc hd hne hsl hno hyes hl h4;have hz4:(c.c (z+4) (.b .a (x:Nat)))=c:=by
  apply dZ;intro j;rw[dS];split
  ·rename_i e;subst e;rw[H4.i];simp;have:=H4.i;exact(bY.1 this).1
  ·rfl
 have HZ4:=ab hz4;have hcs:z+4<c.j:=(bY.1 H4.i).1;clear hz4;go_enter Tryz.func169,Tryz.ntmps169;go_wp2;go_loopw [] (fun wr=>∃y:Nat,x<=y/\y<=f/\dP wr tb (c.c (z+4) (.b .a (y:Nat)))/\dP wr sb d/\jP [tb,sb] W wr)
  (fun wr=>f-(intOf ((wr.b ⟨tb,z+4,none⟩).b undef)).e)
 case atStart=>exact⟨x,av _,hx,by rw[HZ4.i];exact HC.i,HD.i,jP.refl _ _⟩
 case round=>
  obtain⟨y,hy1,hy2,hb1,hb2,hfr⟩:=hrel;obtain⟨c1,c2,c3,c4⟩:=hb1.R;have k2:=(c1 (z+2)).trans ((dS ..).trans ((if_neg (by omega)).trans h2));have k3:=(c1 (z+3)).trans ((dS ..).trans ((if_neg (by omega)).trans h3));have k4:=(c1 (z+4)).trans ((dS ..).trans ((if_pos rfl).trans (if_pos hcs)));have kf:=c2 (z+4);obtain⟨d1,d2,d3,d4⟩:=hb2.R;have HB1:=ab hb1;have HB2:=ab hb2;have HFR:=ab hfr;have hyn:y%n=y:=gy (by omega);obtain⟨dW,hat⟩:∃a,a=rY o s n y:=⟨_,rfl⟩
  have aEy:dW<n:=by rw[hat];exact PG (by omega)
  have CC:=ab (fun w=>anJ o s n y dW (by rw[hyn,hat]) hn hn2 ho hs (by omega) w);obtain⟨v,hv⟩:=cB (sl.b dW 0);have e1:wr.b ⟨sb,dW,none⟩=some (.b .a v):=by rw[d1,HSL.i dW (by rw[HL.i];exact aEy),hv]
  have ef:=d2 dW;obtain⟨y1,hy⟩:=cB (y+1);have i1:(y:Int)+1=(y1:Int):=by omega
  have i2:=jY (y1:Int) (by omega);have adQ:(dW:Int)<n:=by omega
  clear c1 c2 c3 c4 d1 d2 d3 d4 hb1 hb2 hfr hyn h2 h3;have HAT:=ab hat;have HV:=ab hv;have X1:=ab (show dP (wr.I ⟨tb,z+4,none⟩ (.b .a y1)) tb (c.c (z+4) (.b .a (y1:Nat)))by have:=HB1.i.fC (z+4) (.b .a y1);rwa [Array.setIfInBounds_setIfInBounds]at this);have X2:=ab (HB2.i.dQ ⟨tb,z+4,none⟩ (.b .a y1) HNE.i);have F1:=ab (HFR.i.set ⟨tb,z+4,none⟩ (.b .a y1) (.b (by simp)));have HYV:=ab hy;have e2:(wr.I ⟨tb,z+4,none⟩ (.b .a y1)).b ⟨sb,dW,none⟩=some (.b .a v):=(X2.i.R.1 dW).trans ((HB2.i.R.1 dW).symm.trans e1);have e3:=X2.i.R.2.1 dW;clear e1 ef hat hv hy;go_wp2_with fail;go_quiet ((go_at_call 243;(with_reducible refine(CC.i _).g ?_);rintro e w2 ⟨rfl,rfl⟩;exact⟨rfl,_,rfl⟩));have W1:=ab (show(wr.drewN nq).I ⟨tb,z+4,none⟩ (.b .a y1)=(wr.I ⟨tb,z+4,none⟩ (.b .a y1)).drewN nq from rfl)
  replace k4:(wr.drewN nq).b ⟨tb,z+4,none⟩=some (.b .a y):=k4
  replace kf:(wr.drewN nq).frozen? ⟨tb,z+4,none⟩=false:=kf
  replace e2:((wr.drewN nq).I ⟨tb,z+4,none⟩ (.b .a y1)).b ⟨sb,dW,none⟩=some (.b .a v):=e2
  replace e3:((wr.drewN nq).I ⟨tb,z+4,none⟩ (.b .a y1)).frozen? ⟨sb,dW,none⟩=false:=e3
  clear k2 k3;by_cases hfr:v = -1
  ·have hyf:y=f:=by
    rcases aZ y f with h1|h1
    ·exact absurd hfr (by rw[HV.i,HAT.i];exact Ez.i y hy1 h1)
    ·omega
   subst hfr;have HYF:=ab hyf;clear hyf;go_wp2;refine aO (wI rfl _ _ _) rfl ?_;refine⟨rfl,?_,?_,?_⟩
   ·rw[<-HYF.i,<-HYV.i];exact X1.i.dQ ⟨sb,dW,none⟩ (.b .a i) (Ne.symm HNE.i)
   ·rw[<-HYF.i,<-HAT.i];exact X2.i.fC dW (.b .a i)
   ·exact(F1.i.drewN nq).set ⟨sb,dW,none⟩ (.b .a i) (.b (by simp))
  ·have hyf:y<f:=by
    rcases aZ y f with h1|h1
    ·exact h1
    ·exfalso
     have:y=f:=by omega
     exact hfr (by rw[HV.i,HAT.i,this];exact HY.i)
   go_wp2;go_roundw
   case rel=>exact⟨y1,by omega,by omega,X1.i,X2.i,F1.i.drewN nq⟩
   case measure=>
    have q1:((wr.drewN nq).I ⟨tb,z+4,none⟩ (.b .a y1)).b ⟨tb,z+4,none⟩=some (.b .a y1):=(X1.i.R.1 (z+4)).trans ((dS ..).trans ((if_pos rfl).trans (if_pos hcs)));have q2:wr.b ⟨tb,z+4,none⟩=some (.b .a y):=k4;rw[q1,q2];simp only[jJ,intOf,cK];omega
end Go.Proofs.YtkjojjopamaoiaaGreat
