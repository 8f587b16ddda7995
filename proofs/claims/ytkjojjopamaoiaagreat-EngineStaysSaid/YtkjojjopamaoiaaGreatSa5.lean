/- Parts. -/
import Derived.Test.YtkjojjopamaoiaaGreatSa4
import Derived.Shelf.SlSortCmp.NoneTotal
import Derived.Lib.BytesEntry
import Derived.Shelf.Bits.Mul64
set_option linter.unusedSimpArgs false
set_option linter.unusedVariables false
set_option linter.unusedSectionVars false
set_option maxRecDepth 100000
set_option maxHeartbeats 8000000
open Array renaming range->lS,ext'->oP,toList_range->j3,length_toList->aY,getElem?_append->aD,getElem?_toList->dD,getElem?_extract->dx,size_append->nW,ext_getElem?->dU,getElem?_setIfInBounds->dO,extract_append->dA,mapM->iA,setIfInBounds_append->aL,getElem?_eq_none->aU,replicate_succ->fZ,replicate_zero->gq,all_eq_true'->xK,getElem?_eq_getElem->eZ,getElem?_eq_some_iff->bV,getElem?_modify->zA,size->Array.j,toList->Array.a,getD->Array.c,setIfInBounds->Array.b,extract->Array.m
open BitVec renaming ofInt->fT,ofNat->Gw,ofInt_natCast->lQ,toNat_ofNat->nC,toNat->BitVec.e
open Bool renaming and_eq_true->bf,false_eq_true->jF,not_eq_true'->nZ,or_eq_true->ny
open ByteArray renaming size->ByteArray.j,toList->ByteArray.a,extract->ByteArray.m
open Go renaming World->ak,run_underlying->dJ,Calls->aQ,Addr->aT,Value->aB,bodyPost_ret->aN,Ending->kZ,TypeId->bK,info_parts->BM,setRow_other->oJ,Oper->iV,Act->qQ,Exit->zO,Operand->pG,wpList_plain->sV,wpQuiet_nil->gW,Field->nU,Fence->Ke,SeqStopsK->vR,CallsIn->Lr,callsIn_of_wp_marks->qW,wpIn_rangeFunc_ownH->yB,belowK_b->vL,ownFrom_below->yP,wpListIn_append_own->DT,run_takeDeferred->uF,results_tmp->Hf,callsIn_wide->mU,callsIn_of_wp->Cb,results_none->vw,underlying->Go.k
open Go.Addr renaming add_mid->iD,add->qX
open Go.BoundsCode renaming toNat->Go.BoundsCode.e
open Go.Calls renaming mono->Go.Calls.g
open Go.Ending renaming returned->Go.Ending.a
open Go.Extern.Bytes renaming bytesOf->uo
open Go.Fence renaming wide->nH
open Go.Field renaming offset->Go.Field.Z
open Go.FrameMode renaming run->Go.FrameMode.I
open Go.Func renaming name->Go.Func.E
open Go.Instr renaming buildSlice->bI,fill->fu,loadAt->cu,storeAt->eF,build->fI,makeSlice->xI,slice->Go.Instr.a,extract->Go.Instr.m
open Go.IntKind renaming u64->jo,wrap_u64->jR,u8->aW,wrap_u8->Gz,i64->bR,wrap->vK,bits->nQ,signed->lN,i64->Go.IntKind.a,u8->Go.IntKind.b,u64->Go.IntKind.c
open Go.Lib renaming hid->ab
open Go.Obj renaming cells->eB,cells->Go.Obj.D
open Go.Op renaming bytesLess->bP,slice->Go.Op.a,extract->Go.Op.m
open Go.Oper renaming wp->nu,semAt_some->qm,dst->Go.Oper.Y
open Go.Operand renaming tmp->Go.Operand.a
open Go.Program renaming underlying->Go.Program.k
open Go.Proofs.Mul64 renaming wrapN->vM
open Go.Proofs.Tryz renaming prog->ah,underlying56->cB,underlying189->oV,underlying192->oU,underlying70->og,underlying213->um,underlying207->Dp,underlying280->Dq,underlying34->EF,underlying75->vo,underlying22->qg,underlying0->Gy,zeroValue0->Jk,underlying3->gM,zeroValue3->Jl,underlying4->nM,zeroValue4->Jm,underlying5->lq,underlying9->iM,isAgg9->KC,sizeOf9->He,zeroValue9->AV,underlying155->Dr,underlying86->mV
open Go.Region renaming wanted->fB
open Go.Result renaming andThen->iE
open Go.ResultVar renaming tmp->Go.ResultVar.a
open Go.RoundIn renaming mono->Go.RoundIn.g
open Go.RowKit renaming Below->aM
open Go.RowKit.Below renaming refl->aG,size->Go.RowKit.Below.j,mono->Go.RowKit.Below.g,setCell->Go.RowKit.Below.F
open Go.RowKit.Hid renaming out->Go.RowKit.Hid.i
open Go.Sem renaming run_bind->jI,run_pure->oh,run->Ji,run->Go.Sem.I
open Go.Shut renaming out->Go.Shut.i
open Go.Sort renaming size_flatK->xL
open Go.TypeDesc renaming slice->Go.TypeDesc.a,int->Go.TypeDesc.b,bool->Go.TypeDesc.e
open Go.TypeInfo renaming size->Go.TypeInfo.j
open Go.Value renaming cells->bW,ownBlock->jW,slice->bD,int->aI,oneCell'->cO,agg->bY,bool->bL,string->iC,cells->Go.Value.D,slice->Go.Value.a,int->Go.Value.b,pointer->Go.Value.c,agg->Go.Value.d,tuple->Go.Value.J,bool->Go.Value.e,ownBlock->Go.Value.f,oneCell'->Go.Value.h,string->Go.Value.g
open Go.World renaming frozen?->sj,setRow->rU,size_alloc->tq,ownsRow_nil->fE,heap->Go.World.a,cell?->Go.World.b,setCell->Go.World.F,ownsRow->Go.World.c,there->Go.World.O,grownBy->Go.World.d
open Go.World.grownBy renaming size->Go.World.grownBy.j
open Int renaming toNat_of_nonneg->lF,toNat_natCast->dQ,tmod->Lu,tmod_eq_emod_of_nonneg->mg,toNat->Int.e
open List renaming getD_eq_getElem?_getD->au,getElem?_take_of_lt->gZ,map_cons->kI,map_nil->pI,length_append->aR,length_take->bJ,append_assoc->dB,take_of_length_le->aK,nil_append->dF,getElem?_append_left->mO,getElem?_take->jf,getElem?_append_right->qZ,getElem?_drop->je,ext_getElem?->iJ,getElem?_eq_getElem->aC,getElem?_eq_none->aS,drop_of_length_le->iQ,length_drop->jw,length_map->bT,flatMap_cons->iK,cons_append->ig,getElem_mem->dX,take_succ_eq_append_getElem->dP,flatMap_append->wP,length_set->aV,mem_append->ql,mem_singleton->fM,mem_map->gT,take_zero->jY,getElem?_map->jA,map_take->Ae,getElem?_append->kQ,range->dV,append_nil->uK,drop_drop->Ky,mem_cons->bC,mem_of_mem_tail->vS,pairwise_map->yX,map_map->GY,map_congr_left->BJ,findIdx?_eq_some_iff_getElem->gV,getElem?_set->fF,mem_filter->kF,not_mem_nil->fJ,set_cons_succ->bG,set_cons_zero->bM,take_succ_cons->jM,eq_nil_of_length_eq_zero->bE,length_cons->bB,length_nil->gG,mem_cons_of_mem->iX,find?_eq_none->uf,all_eq_true->gF,mem_iff_getElem->kR,any_eq_true->qR,mem_range->eu,pairwise_iff_getElem->fO,any_eq_false->qh,mem_take_iff_getElem->rM,drop_zero->kW,take_take->vP,foldl_cons->jU,size_toArray->dI,push_toArray->iL,append_toArray->gK,replicate->dS,take_length->zQ,getElem?_replicate->tF,length_replicate->oL,length->List.a,toArray->List.b,getD->List.c,take->List.d,drop->List.f,flatMap->List.h,below->List.S,extract->List.m
open Nat renaming mod_eq_of_lt->fK,le_refl->av,le_of_eq->aX,ne_of_gt->uD,lt_succ_self->mG,mul_one->gB,zero_add->bl,min->qj,le_trans->aO,le_succ_of_le->qo,le_of_lt->mH,shiftLeft_eq->mF,add_assoc->ng,add_zero->nE,eq_zero_or_pos->dW,mod_lt->fC,lt_or_ge->aZ,mul_comm->Cu,mul_le_mul_right->cZ,reduceAdd->kL,reduceSub->kM,mul_le_mul->gP,zero_le->gQ,lt_of_lt_of_le->eO,below->Nat.S
open Option renaming map_some->mZ,getD_some->jr,toList->Option.a,getD->Option.c
open Or renaming inl->Or.a,inr->Or.b
open UInt8 renaming ofNat->aJ,toNat->UInt8.e
open Vector renaming length_toList->nI,replicate->bF,toList->Vector.a
namespace Go.Proofs.YtkjojjopamaoiaaGreat
open Go.RowKit
def psB(s d:fq)(p n:Nat):List UInt8:=
 if s.h=true then s.b.a.d 16++d.b.a.d 16++[0,0,aJ (n/256),aJ (n%256),0,0,0,aJ p]
 else s.b.a.d 4++d.b.a.d 4++[0,aJ p,aJ (n/256),aJ (n%256)]
theorem apB(s d:fq)(p n:Nat):(psB s d p n).a<=40:=by unfold psB;split<;>simp
theorem zM(a:fq)(k:Nat)(hk:k<=16):(a.b.a.d k).a=k/\∀i,i<k->a.ay[1+i]? = some (bv ((a.b.a.d k).c i 0)):=by
 refine⟨by simp;omega,fun i hi=>?_⟩;rw[Nat.add_comm 1 i,fq.DZ _ i (by omega)];simp[au,gZ hi]
theorem yT(n:Nat)(h:n<=255):((aJ n).e:Int)=(n:Int):=by rw[UInt8.toNat_ofNat',fK (by omega)]
@[go_sem]theorem atN(w:ak)(a0 a1 a2 a3:Int):(Bt 4 #[(0,.b .b a0),(1,.b .b a1),(2,.b .b a2),(3,.b .b a3)]).I ah w=.ok (.a (some ⟨w.a.j,0,none⟩) 4 4) (w.alloc (.D #[.b .b a0,.b .b a1,.b .b a2,.b .b a3] 5)):=by
 obtain⟨i0,hi0,hz0,hz1,hz2⟩:=zy;have hr:lS 4 = #[0,1,2,3]:=by apply oP;rw[j3];rfl
 simp[Bt,bI,dJ cB,zeroValue,sizeOf,typeInfo,hi0,hz0,hz1,fu,newRow,bW,hr]
@[go_sem]theorem atO(w:ak)(a0 a1 a2 a3 a4 a5 a6 a7:Int):(Bt 8 #[(0,.b .b a0),(1,.b .b a1),(2,.b .b a2),(3,.b .b a3),(4,.b .b a4),(5,.b .b a5),(6,.b .b a6),(7,.b .b a7)]).I ah w=.ok (.a (some ⟨w.a.j,0,none⟩) 8 8) (w.alloc (.D #[.b .b a0,.b .b a1,.b .b a2,.b .b a3,.b .b a4,.b .b a5,.b .b a6,.b .b a7] 5)):=by
 obtain⟨i0,hi0,hz0,hz1,hz2⟩:=zy;have hr:lS 8 = #[0,1,2,3,4,5,6,7]:=by apply oP;rw[j3];rfl
 simp[Bt,bI,dJ cB,zeroValue,sizeOf,typeInfo,hi0,hz0,hz1,fu,newRow,bW,hr]
theorem apC(p n:Nat)(hp:p<=255)(hn:n<=65535)(wr:ak):fP (wr.alloc (.D #[.b .b 0,.b .b 0,.b .b ((n:Int)/256),.b .b ((n:Int)%256),.b .b 0,.b .b 0,.b .b 0,.b .b p] 5)) (wr.a.j+1) (some ⟨wr.a.j,0,none⟩) 8 [0,0,aJ (n/256),aJ (n%256),0,0,0,aJ p]:=
 Vg wr #[.b .b 0,.b .b 0,.b .b ((n:Int)/256),.b .b ((n:Int)%256),.b .b 0,.b .b 0,.b .b 0,.b .b p] [0,0,aJ (n/256),aJ (n%256),0,0,0,aJ p] (by
  simp only[kI,pI,bv];rw[yT _ hp,yT (n/256) (by omega),yT (n%256) (by omega)];rfl)
theorem atP(p n:Nat)(hp:p<=255)(hn:n<=65535)(wr:ak):fP (wr.alloc (.D #[.b .b 0,.b .b p,.b .b ((n:Int)/256),.b .b ((n:Int)%256)] 5)) (wr.a.j+1) (some ⟨wr.a.j,0,none⟩) 4 [0,aJ p,aJ (n/256),aJ (n%256)]:=
 Vg wr #[.b .b 0,.b .b p,.b .b ((n:Int)/256),.b .b ((n:Int)%256)] [0,aJ p,aJ (n/256),aJ (n%256)] (by
  simp only[kI,pI,bv];rw[yT _ hp,yT (n/256) (by omega),yT (n%256) (by omega)];rfl)
theorem WQ(s d:fq)(p n:Nat)(hp:p<=255)(hn:n<=65535)(w:ak):aQ ah 259 #[.d s.ay,.d d.ay,.b .a p,.b .a n] w (J7 w (psB s d p n)):=by
 have aCT:=ab (apC p n hp hn);have PR4:=ab (atP p n hp hn);have h0:=((Ly.nil (w:=w)).new s.ay 27).new d.ay 27;rw[show(w.alloc (.D s.ay 27)).a.j=w.a.j+1 by simp]at h0;have S0:=ab h0;clear h0;obtain⟨q1,q2,q3,q4⟩:=S0.i.b1.K;obtain⟨p1,p2,p3,p4⟩:=S0.i.X.K;have x0:=fq.pX s;obtain⟨b6,hb6⟩:∃b,s.h=b:=⟨_,rfl⟩
 have H6:=ab hb6;rw[hb6]at x0;clear hb6;have n0:(0:Int)<=n:=by omega
 have n1:(n:Int)<=65535:=by omega
 have n2:(0:Int)<=p:=by omega
 have n3:(p:Int)<=255:=by omega
 cases b6
 ·have FQ:=ab (show([]:List UInt8).a=0 from rfl)
  obtain⟨ls,mX⟩:∃l,l=s.b.a.d 4:=⟨_,rfl⟩
  obtain⟨ld,hld⟩:∃l,l=d.b.a.d 4:=⟨_,rfl⟩
  have LS:=ab (show ls.a=4 by rw[mX];exact(zM s 4 (by omega)).1);have LD:=ab (show ld.a=4 by rw[hld];exact(zM d 4 (by omega)).1);have CS:=ab (show∀i,i<4->s.ay[1+i]? = some (bv (ls.c i 0))by rw[mX];exact(zM s 4 (by omega)).2);have CD:=ab (show∀i,i<4->d.ay[1+i]? = some (bv (ld.c i 0))by rw[hld];exact(zM d 4 (by omega)).2);have HT:=ab (show psB s d p n=ls++ld++[0,aJ p,aJ (n/256),aJ (n%256)]by rw[mX,hld];unfold psB;rw[H6.i];rfl);clear mX hld;go_enter Tryz.func259,Tryz.ntmps259;go_wp2;clear q1 q2 q3 q4 p1 p2 p3 p4;go_loopw [9,11] (fun sr si wr=>∃(i:Nat)(A':Option aT)(m' c':Nat),i<=4/\si=.b .a i/\sr=.a A' m' c'/\Ly w.a.j [(w.a.j+1,d.ay),(w.a.j,s.ay)] w wr (.a A' m' c') ([]++ls.d i)) (fun _ si _=>4-(intOf si).e)
  case atStart=>exact⟨0,_,_,_,by omega,rfl,rfl,by simpa using S0.i⟩
  case round=>
   obtain⟨i,A',m',c',hi,rfl,rfl,h⟩:=hrel;have HO:=ab h;clear h;by_cases hlt:i<4
   ·have hlt2:(i:Int)<4:=by omega
    obtain⟨q1,q2,q3,q4⟩:=HO.i.b1.K;have hlq:=HO.i.b1.lt;have hc:=CS.i i hlt;obtain⟨u,hu⟩:=tV (ls.c i 0);rw[hu]at hc;unfold bv at hc;have HS:=ab (xE ls i (by rw[LS.i];exact hlt));rw[hu]at HS;have L1:=ab (HO.i.alloc (.D #[.b .b (u.e:Int)] 5));have R1:=ab (Ej wr u _ rfl);have Lx:=ab (show([]++ls.d i).a+1<=1000000000 by rw[aR,bJ,FQ.i,LS.i];omega);go_wp2_with (at_builtin;refine ko rfl (.a 20) (.a 25) rfl rfl L1.i.o rfl R1.i Lx.i ?_;intro A5 n5 c5 w5 h2 h3;have L2:=ab (L1.i.step h3);clear h2 h3);go_roundw
    case rel=>exact⟨i+1,A5,n5,c5,by omega,by go_num,rfl,by rw[HS.i,<-dB];exact L2.i⟩
    case measure=>simp[intOf]<;>omega
   ·have hge:¬(i:Int)<4:=by omega
    have HF:=ab (show ls.d i=ls from aK (by rw[LS.i];omega));rw[HF.i]at HO;clear HF;rw[dF]at HO;clear FQ S0;obtain⟨bs2,J3⟩:∃b,b=ls:=⟨_,rfl⟩
    have FQ:=ab (show bs2.a=4 by rw[J3,LS.i]);rw[<-J3]at HO HT;clear J3;go_wp2;clear hge hi hlt;go_loopw [9,12] (fun sr si wr=>∃(i:Nat)(A':Option aT)(m' c':Nat),i<=4/\si=.b .a i/\sr=.a A' m' c'/\Ly w.a.j [(w.a.j+1,d.ay),(w.a.j,s.ay)] w wr (.a A' m' c') (bs2++ld.d i)) (fun _ si _=>4-(intOf si).e)
    case atStart=>exact⟨0,_,_,_,by omega,rfl,rfl,by simpa using HO.i⟩
    case round=>
     obtain⟨i,A',m',c',hi,rfl,rfl,h⟩:=hrel;have HO:=ab h;clear h;by_cases hlt:i<4
     ·have hlt2:(i:Int)<4:=by omega
      obtain⟨q1,q2,q3,q4⟩:=HO.i.X.K;have hlq:=HO.i.X.lt;have hc:=CD.i i hlt;obtain⟨u,hu⟩:=tV (ld.c i 0);rw[hu]at hc;unfold bv at hc;have HS:=ab (xE ld i (by rw[LD.i];exact hlt));rw[hu]at HS;have L1:=ab (HO.i.alloc (.D #[.b .b (u.e:Int)] 5));have R1:=ab (Ej wr u _ rfl);have Lx:=ab (show(bs2++ld.d i).a+1<=1000000000 by rw[aR,bJ,FQ.i,LD.i];omega);go_wp2_with (at_builtin;refine ko rfl (.a 32) (.a 37) rfl rfl L1.i.o rfl R1.i Lx.i ?_;intro A5 n5 c5 w5 h2 h3;have L2:=ab (L1.i.step h3);clear h2 h3);go_roundw
      case rel=>exact⟨i+1,A5,n5,c5,by omega,by go_num,rfl,by rw[HS.i,<-dB];exact L2.i⟩
      case measure=>simp[intOf]<;>omega
     ·have hge:¬(i:Int)<4:=by omega
      have HF:=ab (show ld.d i=ld from aK (by rw[LD.i];omega));rw[HF.i]at HO;clear HF;obtain⟨bs3,Lg⟩:∃b,b=bs2++ld:=⟨_,rfl⟩
      have Nc:=ab (show bs3.a=8 by rw[Lg,aR,FQ.i,LD.i]);rw[<-Lg]at HO HT;clear Lg;obtain⟨q1,q2,q3,q4⟩:=HO.i.b1.K;have L4:=ab (HO.i.alloc (.D #[.b .b 0,.b .b p,.b .b ((n:Int)/256),.b .b ((n:Int)%256)] 5));have R4:=ab (PR4.i wr);have HL4:=ab (show bs3.a+4<=1000000000 by rw[Nc.i];omega);go_wp2_with (at_builtin;refine ko rfl (.a 52) (.a 61) rfl rfl L4.i.o rfl R4.i HL4.i ?_;intro A5 n5 c5 w5 h2 h3;have L5:=ab (L4.i.step h3);clear h2 h3);go_ret;rw[<-HT.i]at L5;have ho:=L5.i.o;obtain⟨A9,c9,e9⟩:=ho.Ch;injection e9 with e9 e10 e11
      subst e10;exact⟨A5,_,c5,rfl,rfl,ho.vC,ho.R⟩
 ·have FQ:=ab (show([]:List UInt8).a=0 from rfl)
  obtain⟨ls,mX⟩:∃l,l=s.b.a.d 16:=⟨_,rfl⟩
  obtain⟨ld,hld⟩:∃l,l=d.b.a.d 16:=⟨_,rfl⟩
  have LS:=ab (show ls.a=16 by rw[mX];exact(zM s 16 (by omega)).1);have LD:=ab (show ld.a=16 by rw[hld];exact(zM d 16 (by omega)).1);have CS:=ab (show∀i,i<16->s.ay[1+i]? = some (bv (ls.c i 0))by rw[mX];exact(zM s 16 (by omega)).2);have CD:=ab (show∀i,i<16->d.ay[1+i]? = some (bv (ld.c i 0))by rw[hld];exact(zM d 16 (by omega)).2);have HT:=ab (show psB s d p n=ls++ld++[0,0,aJ (n/256),aJ (n%256),0,0,0,aJ p]by rw[mX,hld];unfold psB;rw[H6.i];rfl);clear mX hld;go_enter Tryz.func259,Tryz.ntmps259;go_wp2;clear q1 q2 q3 q4 p1 p2 p3 p4;go_loopw [9,11] (fun sr si wr=>∃(i:Nat)(A':Option aT)(m' c':Nat),i<=16/\si=.b .a i/\sr=.a A' m' c'/\Ly w.a.j [(w.a.j+1,d.ay),(w.a.j,s.ay)] w wr (.a A' m' c') ([]++ls.d i)) (fun _ si _=>16-(intOf si).e)
  case atStart=>exact⟨0,_,_,_,by omega,rfl,rfl,by simpa using S0.i⟩
  case round=>
   obtain⟨i,A',m',c',hi,rfl,rfl,h⟩:=hrel;have HO:=ab h;clear h;by_cases hlt:i<16
   ·have hlt2:(i:Int)<16:=by omega
    obtain⟨q1,q2,q3,q4⟩:=HO.i.b1.K;have hlq:=HO.i.b1.lt;have hc:=CS.i i hlt;obtain⟨u,hu⟩:=tV (ls.c i 0);rw[hu]at hc;unfold bv at hc;have HS:=ab (xE ls i (by rw[LS.i];exact hlt));rw[hu]at HS;have L1:=ab (HO.i.alloc (.D #[.b .b (u.e:Int)] 5));have R1:=ab (Ej wr u _ rfl);have Lx:=ab (show([]++ls.d i).a+1<=1000000000 by rw[aR,bJ,FQ.i,LS.i];omega);go_wp2_with (at_builtin;refine ko rfl (.a 20) (.a 25) rfl rfl L1.i.o rfl R1.i Lx.i ?_;intro A5 n5 c5 w5 h2 h3;have L2:=ab (L1.i.step h3);clear h2 h3);go_roundw
    case rel=>exact⟨i+1,A5,n5,c5,by omega,by go_num,rfl,by rw[HS.i,<-dB];exact L2.i⟩
    case measure=>simp[intOf]<;>omega
   ·have hge:¬(i:Int)<16:=by omega
    have HF:=ab (show ls.d i=ls from aK (by rw[LS.i];omega));rw[HF.i]at HO;clear HF;rw[dF]at HO;clear FQ S0;obtain⟨bs2,J3⟩:∃b,b=ls:=⟨_,rfl⟩
    have FQ:=ab (show bs2.a=16 by rw[J3,LS.i]);rw[<-J3]at HO HT;clear J3;go_wp2;clear hge hi hlt;go_loopw [9,12] (fun sr si wr=>∃(i:Nat)(A':Option aT)(m' c':Nat),i<=16/\si=.b .a i/\sr=.a A' m' c'/\Ly w.a.j [(w.a.j+1,d.ay),(w.a.j,s.ay)] w wr (.a A' m' c') (bs2++ld.d i)) (fun _ si _=>16-(intOf si).e)
    case atStart=>exact⟨0,_,_,_,by omega,rfl,rfl,by simpa using HO.i⟩
    case round=>
     obtain⟨i,A',m',c',hi,rfl,rfl,h⟩:=hrel;have HO:=ab h;clear h;by_cases hlt:i<16
     ·have hlt2:(i:Int)<16:=by omega
      obtain⟨q1,q2,q3,q4⟩:=HO.i.X.K;have hlq:=HO.i.X.lt;have hc:=CD.i i hlt;obtain⟨u,hu⟩:=tV (ld.c i 0);rw[hu]at hc;unfold bv at hc;have HS:=ab (xE ld i (by rw[LD.i];exact hlt));rw[hu]at HS;have L1:=ab (HO.i.alloc (.D #[.b .b (u.e:Int)] 5));have R1:=ab (Ej wr u _ rfl);have Lx:=ab (show(bs2++ld.d i).a+1<=1000000000 by rw[aR,bJ,FQ.i,LD.i];omega);go_wp2_with (at_builtin;refine ko rfl (.a 32) (.a 37) rfl rfl L1.i.o rfl R1.i Lx.i ?_;intro A5 n5 c5 w5 h2 h3;have L2:=ab (L1.i.step h3);clear h2 h3);go_roundw
      case rel=>exact⟨i+1,A5,n5,c5,by omega,by go_num,rfl,by rw[HS.i,<-dB];exact L2.i⟩
      case measure=>simp[intOf]<;>omega
     ·have hge:¬(i:Int)<16:=by omega
      have HF:=ab (show ld.d i=ld from aK (by rw[LD.i];omega));rw[HF.i]at HO;clear HF;obtain⟨bs3,Lg⟩:∃b,b=bs2++ld:=⟨_,rfl⟩
      have Nc:=ab (show bs3.a=32 by rw[Lg,aR,FQ.i,LD.i]);rw[<-Lg]at HO HT;clear Lg;obtain⟨q1,q2,q3,q4⟩:=HO.i.b1.K;have L4:=ab (HO.i.alloc (.D #[.b .b 0,.b .b 0,.b .b ((n:Int)/256),.b .b ((n:Int)%256),.b .b 0,.b .b 0,.b .b 0,.b .b p] 5));have R4:=ab (aCT.i wr);have HL4:=ab (show bs3.a+8<=1000000000 by rw[Nc.i];omega);go_wp2_with (at_builtin;refine ko rfl (.a 41) (.a 50) rfl rfl L4.i.o rfl R4.i HL4.i ?_;intro A5 n5 c5 w5 h2 h3;have L5:=ab (L4.i.step h3);clear h2 h3);go_ret;rw[<-HT.i]at L5;have ho:=L5.i.o;obtain⟨A9,c9,e9⟩:=ho.Ch;injection e9 with e9 e10 e11
      subst e10;exact⟨A5,_,c5,rfl,rfl,ho.vC,ho.R⟩
def r9(l:List UInt8)(k:Nat)(b:List UInt8):List UInt8:=l.d k++b++l.f (k+b.a)
def Nf(n:Nat):List UInt8:=[aJ (n/256),aJ (n%256)]
theorem Vh(n:Nat):(Nf n).a=2:=rfl
theorem Es{l:List UInt8}{k:Nat}{b:List UInt8}(h:k+b.a<=l.a):(r9 l k b).a=l.a:=by
 unfold r9;simp;omega
theorem al8{l:List UInt8}{k:Nat}{b:List UInt8}(h:k+b.a<=l.a)(j:Nat):(r9 l k b).c j 0=if k<=j/\j<k+b.a then b.c (j-k) 0 else l.c j 0:=by
 unfold r9;rw[au,au,au,dB];by_cases h1:j<k
 ·rw[mO (by simp;omega),jf,if_pos h1,if_neg (by omega)]
 ·rw[qZ (by simp;omega)]
  have e:(l.d k).a=k:=by simp;omega
  rw[e];by_cases h2:j<k+b.a
  ·rw[mO (by omega),if_pos (by omega)]
  ·rw[qZ (by omega),if_neg (by omega),je]
   congr 2;omega
theorem al9{l:List UInt8}{k:Nat}{b:List UInt8}(h:k+b.a<=l.a){z n:Nat}(hj:z+n<=k\/k+b.a<=z):((r9 l k b).f z).d n=(l.f z).d n:=by
 apply iJ;intro i;rw[jf,jf];by_cases hi:i<n
 ·rw[if_pos hi,if_pos hi,je,je]
  have hg:=al8 h (z+i);rw[if_neg (by omega),au,au]at hg;have hl:=Es h;by_cases hlt:z+i<l.a
  ·rw[aC hlt,aC (by omega)]at hg ⊢
   simpa using hg
  ·rw[aS (by omega),aS (by omega)]
 ·rw[if_neg hi,if_neg hi]
theorem aiV{l:List UInt8}{k:Nat}{b:List UInt8}(h:k+b.a<=l.a):((r9 l k b).f k).d b.a=b:=by
 unfold r9;rw[dB,List.drop_append_of_le_length (by simp;omega),iQ (by simp;omega)];simp
def Df(p:Int):Nat:=if p=6 then 16 else if p=17 then 6 else 0
def Qd(l:List UInt8)(a:fq)(n:Int):Bool:=(qF l).kind==0&&(a.h==(qF l).J.h.h&&((qF l).J.h.h||a.mK))&&(decide (0<=n)&&decide (n<=65535))
def acY(p:Pk)(dst:Bool):Nat:=p.Cj.e+(if p.J.h.h then 8 else 12)+(if dst then(if p.J.h.h then 16 else 4)else 0)
def wm(p:Pk):Nat:=if p.J.h.h then 16 else 4
def FT(p:Pk)(dst:Bool):Nat:=p.tu.e+(if dst then 2 else 0)
def rw1(l:List UInt8)(p:Pk)(a:fq)(n:Nat)(dst:Bool):List UInt8:=r9 (r9 (l.d p.FJ.e) (acY p dst) (a.b.a.d (wm p))) (FT p dst) (Nf n)
def Yd(l:List UInt8)(p:Pk)(dst:Bool):List UInt8:=(l.f (acY p dst)).d (wm p)
def rw2(l:List UInt8)(p:Pk)(a:fq)(n:Nat)(dst:Bool):List UInt8:=
 if p.J.h.h then rw1 l p a n dst else r9 (rw1 l p a n dst) (p.Cj.e+10) (Nf (om (eU l (p.Cj.e+10)) (Yd l p dst) (a.b.a.d (wm p))))
def ag3(l:List UInt8)(p:Pk)(a:fq)(n:Nat)(dst:Bool):Nat:=
 om (om (eU l (p.tu.e+Df p.J.aP)) (Yd l p dst) (a.b.a.d (wm p))) ((l.f (FT p dst)).d 2) (Nf n)
def rw3(l:List UInt8)(p:Pk)(a:fq)(n:Nat)(dst:Bool):List UInt8:=
 if p.J.aP=17/\eU l (p.tu.e+Df p.J.aP)=0 then rw2 l p a n dst
 else r9 (rw2 l p a n dst) (p.tu.e+Df p.J.aP) (Nf (if p.J.aP=17/\ag3 l p a n dst=0 then 65535 else ag3 l p a n dst))
def aaC(l:List UInt8)(a:fq)(n:Int)(dst:Bool):List UInt8:=if Qd l a n then rw3 l (qF l) a n.e dst else []
structure ama(l:List UInt8)(p:Pk):Prop where
 fam:p.J.h.h=p.J.Y.h
 Cj:14<=p.Cj
 tu:p.Cj+(if p.J.h.h then 40 else 20)<=p.tu
 pro:p.J.aP=6\/p.J.aP=17
 FJ:p.tu+(if p.J.aP=6 then 20 else 8)<=p.FJ
 len:p.FJ<=l.a
theorem Vi(f:Nat):∀(x:Sx)(r:List UInt8),(yJ f x r).2=0->(yJ f x r).1.h=x.h/\(yJ f x r).1.Y=x.Y:=by
 induction f with
 | zero=>
   intro x r h;unfold yJ at h ⊢;split
   ·exact⟨rfl,rfl⟩
   ·rename_i h1;rw[if_neg h1]at h;cases h
 | succ f ih=>
   intro x r h;unfold yJ at h ⊢;split
   ·exact⟨rfl,rfl⟩
   ·rename_i h1
    rw[if_neg h1]at h;split
    ·rename_i h2;rw[if_pos h2]at h;cases h
    ·rename_i h2;rw[if_neg h2]at h;exact ih _ _ h
theorem ag4{l:List UInt8}(h:(Av l).2=0):(Av l).1.h.h=true/\(Av l).1.Y.h=true:=by
 unfold Av at h ⊢;split
 ·rename_i h1;rw[if_pos h1]at h;cases h
 ·rename_i h1
  rw[if_neg h1]at h;split
  ·rename_i h2;rw[if_pos h2]at h;cases h
  ·rename_i h2
   rw[if_neg h2]at h;split
   ·rename_i h3;rw[if_pos h3]at h;cases h
   ·rename_i h3
    rw[if_neg h3]at h;obtain⟨a,b⟩:=Vi _ _ _ h;rw[a,b];exact⟨rfl,rfl⟩
theorem ag5{l:List UInt8}(h:(zS l).2=0):(zS l).1.h.h=false/\(zS l).1.Y.h=false:=by
 unfold zS at h ⊢;split
 ·exact⟨rfl,rfl⟩
 ·rename_i h1;rw[if_neg h1]at h;exact absurd h h1
theorem apD{p:Int}{l:List UInt8}(hp:p=6\/p=17)(h:(IU p l).2=0):(if p=6 then 20 else 8)<=l.a:=by
 rcases hp with rfl|rfl
 ·rw[arv]at h
  rw[if_pos rfl];by_cases h1:l.a<20
  ·rw[if_pos h1]at h;cases h
  ·omega
 ·rw[al6]at h
  rw[if_neg (by decide)];by_cases h1:l.a<8
  ·rw[if_pos h1]at h;cases h
  ·omega
theorem Ng{l:List UInt8}(h:(qF l).kind=0):ama l (qF l):=by
 unfold qF at h ⊢;by_cases h1:(mh l).2≠0
 ·rw[if_pos h1]at h;cases h
 rw[if_neg h1]at h ⊢;by_cases h2:(mh l).1.oq≠2048/\(mh l).1.oq≠34525
 ·rw[if_pos h2]at h;cases h
 rw[if_neg h2]at h ⊢;by_cases h3:(mP l).2≠0
 ·rw[if_pos h3]at h;cases h
 rw[if_neg h3]at h ⊢;by_cases h4:(mP l).1.oG=true
 ·rw[if_pos h4]at h;cases h
 rw[if_neg h4]at h ⊢;by_cases h5:(mP l).1.aP≠6/\(mP l).1.aP≠17
 ·rw[if_pos h5]at h;cases h
 rw[if_neg h5]at h ⊢;by_cases h6:(Ld l).2≠0
 ·rw[if_pos h6]at h;cases h
 rw[if_neg h6];have hat:=afn (l:=l) (by omega);have h3':(Yb (mh l).1.oq (l.f (mh l).1.fD)).2=0:=by simpa[mP]using h3
 have hip:=al3 h3';rw[jw]at hip;have hp:(mP l).1.aP=6\/(mP l).1.aP=17:=by omega
 have hpt:=apD hp (l:=(l.d ((mh l).1.fD+(mP l).1.dz.e)).f ((mh l).1.fD+(mP l).1.head.e)) (by simpa[Ld]using h6);rw[jw,bJ]at hpt;have hh:(mP l).1.head=(Yb (mh l).1.oq (l.f (mh l).1.fD)).1.head:=rfl;have ht:(mP l).1.dz=(Yb (mh l).1.oq (l.f (mh l).1.fD)).1.dz:=rfl;have axV:(mP l).1.h.h=(mP l).1.Y.h/\((mP l).1.h.h=true->40<=(mP l).1.head):=by
  unfold mP Yb;unfold Yb at h3';by_cases h7:(mh l).1.oq=2048
  ·rw[if_pos h7]at h3' ⊢
   have:=ag5 h3';exact⟨by simp only[this.1,this.2],fun e=>by simp only[this.1]at e;cases e⟩
  ·rw[if_neg h7]at h3' ⊢
   have:=ag4 h3';exact⟨by simp only[this.1,this.2],fun _=>(al2 h3').1⟩
 refine⟨axV.1,?_,?_,hp,?_,?_⟩
 ·show(14:Int)<=((mh l).1.fD:Nat)
  omega
 ·show((mh l).1.fD:Int)+(if(mP l).1.h.h then 40 else 20)<=((mh l).1.fD:Int)+(mP l).1.head
  split
  ·have:=axV.2 ‹_›;omega
  ·omega
 ·show((mh l).1.fD:Int)+(mP l).1.head+(if(mP l).1.aP=6 then 20 else 8)<=((mh l).1.fD:Int)+(mP l).1.dz
  rcases hp with e|e
  ·rw[if_pos e]at hpt⊢;omega
  ·rw[if_neg (by rw[e];decide)]at hpt⊢;omega
 ·show((mh l).1.fD:Int)+(mP l).1.dz<=l.a
  omega
theorem Ly.amb(w w1:ak)(hb:aM w.a.j w w1)(c:Array aB)(l:List UInt8)(k:Nat)(hk:l.a=k)(hk2:k<=1000000)(h:c.a=l.map bv):Ly w.a.j [] w (w1.alloc (.D c 5)) (.a (some ⟨w1.a.j,0,none⟩) k k) l:=by
 have hc:c.j=k:=by rw[<-aY,h,bT,hk]
 have h1:(w1.alloc (.D c 5)).c w1.a.j 5 1 (.a (some ⟨w1.a.j,0,none⟩) k k) k c.a:=World.ownsRow_lit w1 c k (av _) (by unfold maxLen;omega) (by omega);rw[h]at h1;have h2:=hb.alloc hb.j (.D c 5);subst hk;exact⟨⟨iH h1 hb.j,⟨h2.os,h2.tape,h2.output,h2.j,fun i hi _=>h2.block i hi⟩,.b ⟨_,rfl,hb.j⟩,av _,fun k h=>by cases h⟩,fun p hp=>by cases hp⟩
def wL(x:Sx):List UInt8:=[96,0,0,0,aJ ((x.dz-40).e/256),aJ ((x.dz-40).e%256),aJ x.aP.e,aJ x.Ei.e]++x.h.b.a++x.Y.b.a
def qc(n:Int):List UInt8:=[aJ (n.e/256),aJ (n.e%256)]
def zT(t:Tg):List UInt8:=qc t.oq++qc t.tci
def qw(d s:Vector UInt8 6)(fG:List Tg)(ty:Int):List UInt8:=d.a++s.a++fG.h zT++qc ty
def aaD(t:Tg):Prop:=(0<=t.oq/\t.oq<=65535)/\0<=t.tci/\t.tci<=65535
theorem Et(l:List Tg):(l.h zT).a=4*l.a:=by
 induction l with
 | nil=>rfl
 | cons a l ih=>rw[iK,aR,ih];simp[zT,qc];omega
theorem arx(d:Vector UInt8 6)(i:Nat)(hi:i<6):(Ar d)[i]? = some (bv (d.a.c i 0)):=by
 simp[Ar,au,hi]
theorem Lc.atQ(x:Lc)(i:Nat)(hi:i<6):x.ay[i]? = some (bv (x.Y.a.c i 0)):=by
 rw[<-arx _ i hi];simp[Lc.ay,aD,gD,hi]
theorem Lc.atS(x:Lc)(i:Nat)(hi:i<6):x.ay[6+i]? = some (bv (x.h.a.c i 0)):=by
 rw[<-arx _ i hi];simp[Lc.ay,aD,gD,hi,show¬6+i<6 by omega]
theorem Vj(n:Int)(h0:0<=n)(h1:n<=65535):((aJ (n.e/256)).e:Int)=n/256/\((aJ (n.e%256)).e:Int)=n%256:=by
 rw[yT _ (by omega),yT _ (by omega)];omega
theorem atT(n:Int)(h0:0<=n)(h1:n<=65535)(wr:ak):fP (wr.alloc (.D #[.b .b (n/256),.b .b (n%256)] 5)) (wr.a.j+1) (some ⟨wr.a.j,0,none⟩) 2 (qc n):=
 Vg wr #[.b .b (n/256),.b .b (n%256)] (qc n) (by
  obtain⟨e1,e2⟩:=Vj n h0 h1;simp only[qc,kI,pI,bv];rw[e1,e2])
theorem atU(t:Tg)(h:aaD t)(wr:ak):fP (wr.alloc (.D #[.b .b (t.oq/256),.b .b (t.oq%256),.b .b (t.tci/256),.b .b (t.tci%256)] 5)) (wr.a.j+1) (some ⟨wr.a.j,0,none⟩) 4 (zT t):=
 Vg wr #[.b .b (t.oq/256),.b .b (t.oq%256),.b .b (t.tci/256),.b .b (t.tci%256)] (zT t) (by
  obtain⟨e1,e2⟩:=Vj t.oq h.1.1 h.1.2;obtain⟨e3,e4⟩:=Vj t.tci h.2.1 h.2.2;simp only[zT,qc,kI,pI,bv,ig,dF];rw[e1,e2,e3,e4])
theorem Vk(x:Lc)(fG:List Tg)(hf:∀t∈fG,aaD t)(hn:fG.a<=1000)(t0:0<=x.oq)(t1:x.oq<=65535)(w:ak)(hT:iR Tg.ay 2 w w.a.j x.UN x.El fG):aQ ah 103 #[.d x.ay] w (J7 w (qw x.Y x.h fG x.oq)):=by
 have HT:=ab (show qw x.Y x.h fG x.oq=x.Y.a++x.h.a++fG.h zT++qc x.oq from rfl);have l0:=((Ly.nil (w:=w)).new x.ay 108)
 have S0:=ab l0;clear l0;have hl:=ab hT.len;have hnt:x.El<=1000:=by rw[<-hl.i];exact hn
 have HR:=ab hT;have HF:=ab hf;clear hT hf;have FQ:=ab (show([]:List UInt8).a=0 from rfl);have CS:=ab (x.atS);have CD:=ab (x.atQ);obtain⟨ls,mX⟩:∃l,l=x.h.a:=⟨_,rfl⟩
 obtain⟨ld,hld⟩:∃l,l=x.Y.a:=⟨_,rfl⟩
 have LS:=ab (show ls.a=6 by rw[mX];simp);have LD:=ab (show ld.a=6 by rw[hld];simp);rw[<-mX]at HT CS;rw[<-hld]at HT CD;clear mX hld;go_enter Tryz.func103,Tryz.ntmps103;go_wp2;go_loopw [3,4] (fun sr si wr=>∃(i:Nat)(A':Option aT)(m' c':Nat),i<=6/\si=.b .a i/\sr=.a A' m' c'/\Ly w.a.j [(w.a.j,x.ay)] w wr (.a A' m' c') ([]++ld.d i)) (fun _ si _=>6-(intOf si).e)
 case atStart=>exact⟨0,_,_,_,by omega,rfl,rfl,by simpa using S0.i⟩
 case round=>
  obtain⟨i,A',m',c',hi,rfl,rfl,h⟩:=hrel;have HO:=ab h;clear h;by_cases hlt:i<6
  ·have hlt2:(i:Int)<6:=by omega
   obtain⟨q1,q2,q3,q4⟩:=HO.i.X.K;have hlq:=HO.i.X.lt;have hc:=CD.i i hlt;obtain⟨u,hu⟩:=tV (ld.c i 0);rw[hu]at hc;unfold bv at hc;have HS:=ab (xE ld i (by rw[LD.i];exact hlt));rw[hu]at HS;have L1:=ab (HO.i.alloc (.D #[.b .b (u.e:Int)] 5));have R1:=ab (Ej wr u _ rfl);have Lx:=ab (show([]++ld.d i).a+1<=1000000000 by rw[aR,bJ,FQ.i,LD.i];omega);go_wp2_with (at_builtin;refine ko rfl (.a 12) (.a 17) rfl rfl L1.i.o rfl R1.i Lx.i ?_;intro A5 n5 c5 w5 h2 h3;have L2:=ab (L1.i.step h3);clear h2 h3);go_roundw
   case rel=>exact⟨i+1,A5,n5,c5,by omega,by go_num,rfl,by rw[HS.i,<-dB];exact L2.i⟩
   case measure=>simp[intOf]<;>omega
  ·have hge:¬(i:Int)<6:=by omega
   have HF:=ab (show ld.d i=ld from aK (by rw[LD.i];omega));rw[HF.i]at HO;clear HF;rw[dF]at HO;clear FQ S0;obtain⟨bs2,J3⟩:∃b,b=ld:=⟨_,rfl⟩
   have FQ:=ab (show bs2.a=6 by rw[J3,LD.i]);rw[<-J3]at HO HT;clear J3;go_wp2;clear hge hi hlt;go_loopw [3,5] (fun sr si wr=>∃(i:Nat)(A':Option aT)(m' c':Nat),i<=6/\si=.b .a i/\sr=.a A' m' c'/\Ly w.a.j [(w.a.j,x.ay)] w wr (.a A' m' c') (bs2++ls.d i)) (fun _ si _=>6-(intOf si).e)
   case atStart=>exact⟨0,_,_,_,by omega,rfl,rfl,by simpa using HO.i⟩
   case round=>
    obtain⟨i,A',m',c',hi,rfl,rfl,h⟩:=hrel;have HO:=ab h;clear h;by_cases hlt:i<6
    ·have hlt2:(i:Int)<6:=by omega
     obtain⟨q1,q2,q3,q4⟩:=HO.i.X.K;have hlq:=HO.i.X.lt;have hc:=CS.i i hlt;obtain⟨u,hu⟩:=tV (ls.c i 0);rw[hu]at hc;unfold bv at hc;have HS:=ab (xE ls i (by rw[LS.i];exact hlt));rw[hu]at HS;have L1:=ab (HO.i.alloc (.D #[.b .b (u.e:Int)] 5));have R1:=ab (Ej wr u _ rfl);have Lx:=ab (show(bs2++ls.d i).a+1<=1000000000 by rw[aR,bJ,FQ.i,LS.i];omega);go_wp2_with (at_builtin;refine ko rfl (.a 23) (.a 28) rfl rfl L1.i.o rfl R1.i Lx.i ?_;intro A5 n5 c5 w5 h2 h3;have L2:=ab (L1.i.step h3);clear h2 h3);go_roundw
     case rel=>exact⟨i+1,A5,n5,c5,by omega,by go_num,rfl,by rw[HS.i,<-dB];exact L2.i⟩
     case measure=>simp[intOf]<;>omega
    ·have hge:¬(i:Int)<6:=by omega
     have HF:=ab (show ls.d i=ls from aK (by rw[LS.i];omega));rw[HF.i]at HO;clear HF;obtain⟨bs3,Lg⟩:∃b,b=bs2++ls:=⟨_,rfl⟩
     have Nc:=ab (show bs3.a=12 by rw[Lg,aR,FQ.i,LS.i]);rw[<-Lg]at HO HT;clear Lg FQ;have S3:=HO;clear HO;go_wp2;clear hge hi hlt;go_loopw [3,6] (fun sr si wr=>∃(i:Nat)(A':Option aT)(m' c':Nat),i<=x.El/\si=.b .a i/\sr=.a A' m' c'/\Ly w.a.j [(w.a.j,x.ay)] w wr (.a A' m' c') (bs3++(fG.d i).h zT)) (fun _ si _=>x.El-(intOf si).e)
     case atStart=>exact⟨0,_,_,_,by omega,rfl,rfl,by simpa using S3.i⟩
     case round=>
      obtain⟨i,A',m',c',hi,rfl,rfl,h⟩:=hrel;have HO:=ab h;clear h S3;obtain⟨q1,q2,q3,q4⟩:=HO.i.X.K;by_cases hlt:i<x.El
      ·have hlt2:(i:Int)<x.El:=by omega
       obtain⟨ba,oa,ea,_,t3,t4⟩:=(HR.i.go HO.i.o.R).fD Tg.G QW hlt;obtain⟨t,ht⟩:=dw (fG.c i QW);rw[<-ht]at t4;have HK:=ab (show aaD t by rw[ht,au,aC (by rw[hl.i];exact hlt)];exact HF.i _ (dX _));have HS:=ab (show(fG.d (i+1)).h zT=(fG.d i).h zT++zT t by rw[ht,dP (by rw[hl.i];exact hlt),wP,au,aC (by rw[hl.i];exact hlt)];simp);obtain⟨⟨k1,k2⟩,k3,k4⟩:=HK.i;have Lx:=ab (show(bs3++(fG.d i).h zT).a+4<=1000000000 by rw[aR,Et,bJ,Nc.i];omega);clear ht;have L1:=ab ((HO.i.alloc (.D t.ay 268)).alloc (.D #[.b .b (t.oq/256),.b .b (t.oq%256),.b .b (t.tci/256),.b .b (t.tci%256)] 5));have R1:=ab (atU t HK.i (wr.alloc (.D t.ay 268)));have TB:=ab (dL.new wr t.ay 268);go_upto_region 14 with fail
       obtain⟨y1,y2,y3,y4⟩:=TB.i.K;generalize wr.alloc (.D t.ay 268)=wt at *;go_wp2_with (at_builtin;refine ko rfl (.a 42) (.a 59) rfl rfl L1.i.o rfl R1.i Lx.i ?_;intro A5 n5 c5 w5 h2 h3;have L2:=ab (L1.i.step h3);clear h2 h3);go_roundw
       case rel=>exact⟨i+1,A5,n5,c5,by omega,by go_num,rfl,by rw[HS.i,<-dB];exact L2.i⟩
       case measure=>simp[intOf]<;>omega
      ·have hge:¬(i:Int)<x.El:=by omega
       have HE:=ab (show fG.d i=fG from aK (by rw[hl.i];omega));rw[HE.i]at HO;have L4:=ab (HO.i.alloc (.D #[.b .b (x.oq/256),.b .b (x.oq%256)] 5));have R4:=ab (atT x.oq t0 t1 wr);have HL4:=ab (show(bs3++fG.h zT).a+2<=1000000000 by rw[aR,Et,Nc.i];omega);clear HE;go_wp2_with (at_builtin;refine ko rfl (.a 61) (.a 70) rfl rfl L4.i.o rfl R4.i HL4.i ?_;intro A5 n5 c5 w5 h2 h3;have L5:=ab (L4.i.step h3);clear h2 h3);go_ret;rw[<-HT.i]at L5;have ho:=L5.i.o;obtain⟨A9,c9,e9⟩:=ho.Ch;injection e9 with e9 e10 e11
       subst e10;exact⟨A5,_,c5,rfl,rfl,ho.vC,ho.R⟩
theorem Ly.at0{B:Nat}{L:List (Nat×Array aB)}{w0 W:ak}{A:Option aT}{n c:Nat}{bs:List UInt8}(h:Ly B L w0 W (.a A n c) bs)(hn:0<bs.a):
 n=bs.a/\n<=c/\∃g,A=some ⟨g,0,none⟩/\(∀j,j<bs.a->W.b ⟨g,j,none⟩=some (bv (bs.c j 0)))/\(∀j,W.frozen? ⟨g,j,none⟩=false):=by
 obtain⟨h1,h2⟩:=h.o.vC;rcases h2 with⟨e,e2⟩|⟨g,cap,cur,e,hg,hh,hle,hm,hs,ht⟩
 ·omega
 ·injection e with e1 e2 e3
  subst e1 e2 e3;refine⟨rfl,hle,g,rfl,fun j hj=>?_,fun j=>by simp[sj,hh]⟩;rw[cell_of_row W g j cur _ (0,0) hh];have:(bs.map bv)[j]? = some (bv (bs.c j 0)):=by simp[au,hj]
  rw[<-this,<-ht,gZ (by omega),dD]
theorem Ly.afr{B:Nat}{L:List (Nat×Array aB)}{w0 W:ak}{g n c:Nat}{bs:List UInt8}(h:Ly B L w0 W (.a (some ⟨g,0,none⟩) n c) bs)(j:Nat)(b:UInt8):Ly B L w0 (W.F ⟨g,j,none⟩ (bv b)) (.a (some ⟨g,0,none⟩) n c) (bs.set j b):=by
 obtain⟨A9,c9,e9⟩:=h.o.Ch;injection e9 with e9 e10 e11
 subst e10;obtain⟨g1,g2⟩:=h.o.vC.stored j (bv b);refine⟨⟨by rw[aV,List.map_set];exact g1,as7 h.o.gr (.b ?_) _,h.o.vY,h.o.hB,h.o.gb⟩,fun p hp=>⟨(h.G p hp).1.dM _ _ (fun e=>(h.G p hp).2 (by rw[<-e];rfl)),(h.G p hp).2⟩⟩;rcases h.o.vY with e|⟨k,e,e2⟩
 ·cases e
 ·injection e with e
  subst e;exact e2
def Dg(x:Fo):List UInt8:=[69,aJ x.NK.e,aJ (x.dz.e/256),aJ (x.dz.e%256),aJ (x.id.e/256),aJ (x.id.e%256),(if x.keep then 64 else 0),0,aJ x.KZ.e,aJ x.aP.e,0,0]++x.h.b.a.d 4++x.Y.b.a.d 4
def acZ(l:List UInt8):List UInt8:=(l.set 10 (aJ (wU l/256))).set 11 (aJ (wU l%256))
def tN(x:Fo):List UInt8:=acZ (Dg x)
theorem Fo.Mt(x:Fo)(i:Nat)(hi:i<16):x.ay[9+i]? = some (bv (x.h.b.a.c i 0)):=by
 rw[<-fq.DZ _ i hi];have:i+1<17:=by omega
 simp[Fo.ay,aD,fq.G,show 9+i-8=i+1 by omega,show¬9+i<8 by omega,this]
theorem Fo.Kq(x:Fo)(i:Nat)(hi:i<16):x.ay[26+i]? = some (bv (x.Y.b.a.c i 0)):=by
 rw[<-fq.DZ _ i hi];simp[Fo.ay,aD,fq.G,show¬26+i<8 by omega,show¬26+i-8<17 by omega,show 26+i-8-17=i+1 by omega]
theorem arA(l:List UInt8)(i:Nat)(hi:i<4):(l.d 4).c i 0=l.c i 0:=by
 simp[au,gZ hi]
@[go_sem]theorem arB(w:ak)(a0 a1 a2 a3 a4 a5 a6 a7 a8 a9 a10 a11:Int):(Bt 12 #[(0,.b .b a0),(1,.b .b a1),(2,.b .b a2),(3,.b .b a3),(4,.b .b a4),(5,.b .b a5),(6,.b .b a6),(7,.b .b a7),(8,.b .b a8),(9,.b .b a9),(10,.b .b a10),(11,.b .b a11)]).I ah w=.ok (.a (some ⟨w.a.j,0,none⟩) 12 12) (w.alloc (.D #[.b .b a0,.b .b a1,.b .b a2,.b .b a3,.b .b a4,.b .b a5,.b .b a6,.b .b a7,.b .b a8,.b .b a9,.b .b a10,.b .b a11] 5)):=by
 obtain⟨i0,hi0,hz0,hz1,hz2⟩:=zy;have hr:lS 12 = #[0,1,2,3,4,5,6,7,8,9,10,11]:=by apply oP;rw[j3];rfl
 simp[Bt,bI,dJ cB,zeroValue,sizeOf,typeInfo,hi0,hz0,hz1,fu,newRow,bW,hr]
theorem Vl(x:Fo)(s0:0<=x.NK)(s1:x.NK<=255)(t0:0<=x.dz)(t1:x.dz<=65535)(i0:0<=x.id)(i1:x.id<=65535)(l0:0<=x.KZ)(l1:x.KZ<=255)(p0:0<=x.aP)(p1:x.aP<=255)(w:ak):aQ ah 106 #[.d x.ay] w (J7 w (tN x)):=by
 have T:=ab (dL.new w x.ay 192);have HB:=ab ((aG w.a.j w).alloc (av _) (.D x.ay 192));have r0:=(Ly.amb w _ HB.i #[.b .b 69,.b .b x.NK,.b .b (x.dz/256),.b .b (x.dz%256),.b .b (x.id/256),.b .b (x.id%256),.b .b 0,.b .b 0,.b .b x.KZ,.b .b x.aP,.b .b 0,.b .b 0] [69,aJ x.NK.e,aJ (x.dz.e/256),aJ (x.dz.e%256),aJ (x.id.e/256),aJ (x.id.e%256),0,0,aJ x.KZ.e,aJ x.aP.e,0,0] 12 rfl (by omega) (by
  obtain⟨e1,e2⟩:=Vj x.dz t0 t1;obtain⟨e3,e4⟩:=Vj x.id i0 i1;simp only[kI,pI,bv];rw[e1,e2,e3,e4,yT x.NK.e (by omega),yT x.KZ.e (by omega),yT x.aP.e (by omega),lF s0,lF l0,lF p0];rfl)).add (q:=w.a.j) (c:=x.ay) (T.i.alloc _) (by rw[show(w.alloc (.D x.ay 192)).a.j=w.a.j+1 by simp];simp[jW])
 rw[show(w.alloc (.D x.ay 192)).a.j=w.a.j+1 by simp]at r0;have S:=ab r0;have HP:=ab (show tN x=acZ (Dg x)from rfl);have CS:=ab (show∀i,i<4->x.ay[9+i]? = some (bv ((x.h.b.a.d 4).c i 0))from fun i hi=>by rw[arA _ i hi];exact x.Mt i (by omega));have CD:=ab (show∀i,i<4->x.ay[26+i]? = some (bv ((x.Y.b.a.d 4).c i 0))from fun i hi=>by rw[arA _ i hi];exact x.Kq i (by omega));have HT:=ab (show Dg x=[69,aJ x.NK.e,aJ (x.dz.e/256),aJ (x.dz.e%256),aJ (x.id.e/256),aJ (x.id.e%256),(if x.keep then 64 else 0),0,aJ x.KZ.e,aJ x.aP.e,0,0]++x.h.b.a.d 4++x.Y.b.a.d 4 from rfl);obtain⟨ls,mX⟩:∃l,l=x.h.b.a.d 4:=⟨_,rfl⟩
 obtain⟨ld,hld⟩:∃l,l=x.Y.b.a.d 4:=⟨_,rfl⟩
 have LS:=ab (show ls.a=4 by rw[mX];simp);have LD:=ab (show ld.a=4 by rw[hld];simp);rw[<-mX]at HT CS;rw[<-hld]at HT CD;clear mX hld r0;obtain⟨q1,q2,q3,q4⟩:=T.i.K;have x5:=x.aal;obtain⟨kp,hkp⟩:∃k,x.keep=k:=⟨_,rfl⟩
 rw[hkp]at x5 HT;clear hkp;go_enter Tryz.func106,Tryz.ntmps106;go_upto_region 2 with fail
 obtain⟨y1,y2,y3,y4⟩:=S.i.X.K;obtain⟨_,_,g,eg,c1,c2⟩:=S.i.at0 (by simp);injection eg with eg
 injection eg with eg
 subst eg;clear q1 q2 q3 q4;have c6:=c1 6 (by simp);clear c1;generalize(w.alloc (.D x.ay 192)).alloc (.D #[.b .b 69,.b .b x.NK,.b .b (x.dz/256),.b .b (x.dz%256),.b .b (x.id/256),.b .b (x.id%256),.b .b 0,.b .b 0,.b .b x.KZ,.b .b x.aP,.b .b 0,.b .b 0] 5)=w2 at *;cases kp
 case' false=>
  go_wp2;have S0:=S;obtain⟨bs,hbs⟩:∃bs:List UInt8,bs=[69,aJ x.NK.e,aJ (x.dz.e/256),aJ (x.dz.e%256),aJ (x.id.e/256),aJ (x.id.e%256),0,0,aJ x.KZ.e,aJ x.aP.e,0,0]:=⟨_,rfl⟩
  have FQ:=ab (show bs.a=12 by rw[hbs];rfl);have HQ:=ab (show Dg x=bs++ls++ld by rw[HT.i,hbs];rfl);rw[<-hbs]at S0
 case' true=>
  go_wp2;have S0:=ab (S.i.afr 6 64);rw[show bv 64=.b .b 64 from rfl]at S0;obtain⟨bs,hbs⟩:∃bs:List UInt8,bs=[69,aJ x.NK.e,aJ (x.dz.e/256),aJ (x.dz.e%256),aJ (x.id.e/256),aJ (x.id.e%256),64,0,aJ x.KZ.e,aJ x.aP.e,0,0]:=⟨_,rfl⟩
  have FQ:=ab (show bs.a=12 by rw[hbs];rfl);have HQ:=ab (show Dg x=bs++ls++ld by rw[HT.i,hbs];rfl);rw[show([69,aJ x.NK.e,aJ (x.dz.e/256),aJ (x.dz.e%256),aJ (x.id.e/256),aJ (x.id.e%256),0,0,aJ x.KZ.e,aJ x.aP.e,0,0]:List UInt8).set 6 64=bs by rw[hbs];rfl]at S0
 all_goals
  clear HT hbs y1 y2 y3 y4 c2 c6 S;go_loopw [3,4] (fun sr si wr=>∃(i:Nat)(A':Option aT)(m' c':Nat),i<=4/\si=.b .a i/\sr=.a A' m' c'/\Ly w.a.j [(w.a.j,x.ay)] w wr (.a A' m' c') (bs++ls.d i)) (fun _ si _=>4-(intOf si).e)
  case atStart=>exact⟨0,_,_,_,by omega,rfl,rfl,by simpa using S0.i⟩
  case round=>
   obtain⟨i,A',m',c',hi,rfl,rfl,h⟩:=hrel;have HO:=ab h;clear h;by_cases hlt:i<4
   ·have hlt2:(i:Int)<4:=by omega
    obtain⟨q1,q2,q3,q4⟩:=HO.i.X.K;have hlq:=HO.i.X.lt;have hc:=CS.i i hlt;obtain⟨u,hu⟩:=tV (ls.c i 0);rw[hu]at hc;unfold bv at hc;have HS:=ab (xE ls i (by rw[LS.i];exact hlt));rw[hu]at HS;have L1:=ab (HO.i.alloc (.D #[.b .b (u.e:Int)] 5));have R1:=ab (Ej wr u _ rfl);have Lx:=ab (show(bs++ls.d i).a+1<=1000000000 by rw[aR,bJ,FQ.i,LS.i];omega);go_wp2_with (at_builtin;refine ko rfl (.a 41) (.a 47) rfl rfl L1.i.o rfl R1.i Lx.i ?_;intro A5 n5 c5 w5 h2 h3;have L2:=ab (L1.i.step h3);clear h2 h3);go_roundw
    case rel=>exact⟨i+1,A5,n5,c5,by omega,by go_num,rfl,by rw[HS.i,<-dB];exact L2.i⟩
    case measure=>simp[intOf]<;>omega
   ·have hge:¬(i:Int)<4:=by omega
    have HF:=ab (show ls.d i=ls from aK (by rw[LS.i];omega));rw[HF.i]at HO;clear HF;obtain⟨bs2,J3⟩:∃b,b=bs++ls:=⟨_,rfl⟩
    have axX:=ab (show bs2.a=16 by rw[J3,aR,FQ.i,LS.i]);rw[<-J3]at HO HQ;clear J3 S0 FQ;have FQ:=axX;clear axX;go_wp2;clear hge hi hlt;go_loopw [3,5] (fun sr si wr=>∃(i:Nat)(A':Option aT)(m' c':Nat),i<=4/\si=.b .a i/\sr=.a A' m' c'/\Ly w.a.j [(w.a.j,x.ay)] w wr (.a A' m' c') (bs2++ld.d i)) (fun _ si _=>4-(intOf si).e)
    case atStart=>exact⟨0,_,_,_,by omega,rfl,rfl,by simpa using HO.i⟩
    case round=>
     obtain⟨i,A',m',c',hi,rfl,rfl,h⟩:=hrel;have HO:=ab h;clear h;by_cases hlt:i<4
     ·have hlt2:(i:Int)<4:=by omega
      obtain⟨q1,q2,q3,q4⟩:=HO.i.X.K;have hlq:=HO.i.X.lt;have hc:=CD.i i hlt;obtain⟨u,hu⟩:=tV (ld.c i 0);rw[hu]at hc;unfold bv at hc;have HS:=ab (xE ld i (by rw[LD.i];exact hlt));rw[hu]at HS;have L1:=ab (HO.i.alloc (.D #[.b .b (u.e:Int)] 5));have R1:=ab (Ej wr u _ rfl);have Lx:=ab (show(bs2++ld.d i).a+1<=1000000000 by rw[aR,bJ,FQ.i,LD.i];omega);go_wp2_with (at_builtin;refine ko rfl (.a 53) (.a 59) rfl rfl L1.i.o rfl R1.i Lx.i ?_;intro A5 n5 c5 w5 h2 h3;have L2:=ab (L1.i.step h3);clear h2 h3);go_roundw
      case rel=>exact⟨i+1,A5,n5,c5,by omega,by go_num,rfl,by rw[HS.i,<-dB];exact L2.i⟩
      case measure=>simp[intOf]<;>omega
     ·have hge:¬(i:Int)<4:=by omega
      have HF:=ab (show ld.d i=ld from aK (by rw[LD.i];omega));rw[HF.i]at HO;clear HF;obtain⟨bs3,Lg⟩:∃b,b=bs2++ld:=⟨_,rfl⟩
      have Nc:=ab (show bs3.a=20 by rw[Lg,aR,FQ.i,LD.i]);rw[<-Lg]at HO HQ;clear Lg FQ;have CQ:=ab (Ve wr A' m' c' bs3 (by have:=HO.i.o.Ch;obtain⟨A9,c9,e9⟩:=this;injection e9 with e9 e10 e11;rw[e10,Nc.i];omega) (Da HO.i.o (aG _ _)));have HSL:=ab (show wU bs3<=65535 by unfold wU;omega);have HP2:=ab (show tN x=(bs3.set 10 (aJ (wU bs3/256))).set 11 (aJ (wU bs3%256))by rw[HP.i,HQ.i];rfl);clear HP HQ;generalize wU bs3=z at *;have z0:(0:Int)<=z:=by omega
      have z1:(z:Int)<=65535:=by have:=HSL.i;omega
      go_upto_region 13 with(go_at_call 186;(with_reducible refine CQ.i.g ?_);rintro e w6 ⟨rfl,hb⟩;have M1:=ab (HO.i.go hb);clear hb)
      clear hlt hge hi;obtain⟨hm1,hm2,g,rfl,k1,k2⟩:=M1.i.at0 (by rw[Nc.i];omega);have m1:(10:Int)<m':=by rw[Nc.i]at hm1;omega
      have m2:(11:Int)<m':=by rw[Nc.i]at hm1;omega
      have k10:=k1 10 (by rw[Nc.i];omega);have M2:=ab (M1.i.afr 10 (aJ (z/256)));have e1:((aJ (z/256)).e:Int)=(z:Int)/256:=by rw[yT _ (by have:=HSL.i;omega)];omega
      unfold bv at M2;rw[e1]at M2;clear k1 e1;go_upto_region 14 with fail
      generalize w6.F ⟨g,10,none⟩ (.b .b ((z:Int)/256))=w7 at *;obtain⟨_,_,g',eg,k3,k4⟩:=M2.i.at0 (by rw[aV,Nc.i];omega);injection eg with eg
      injection eg with eg
      subst eg;have k11:=k3 11 (by rw[aV,Nc.i];omega);have M3:=ab (M2.i.afr 11 (aJ (z%256)));have e2:((aJ (z%256)).e:Int)=(z:Int)%256:=by rw[yT _ (by omega)];omega
      unfold bv at M3;rw[e2]at M3;clear k3 e2 k2 k10;go_wp2;go_ret;rw[<-HP2.i]at M3;have ho:=M3.i.o;obtain⟨A9,c9,e9⟩:=ho.Ch;injection e9 with e9 e10 e11
      subst e10;have HLE:bs3.a=(tN x).a:=by rw[HP2.i,aV,aV]
      rw[HLE];exact⟨_,_,_,rfl,rfl,ho.vC,ho.R⟩
def amd(a b:fq):Bool:=a.h==b.h&&(a.h||a.mK&&b.mK)
def zU(k:Int)(l:List UInt8):Tn:=
 if k=2048 then⟨(zS l).1.head,(zS l).1.dz,(zS l).1.aP,(zS l).1.oG,(zS l).2==0⟩
 else if k=34525 then⟨(Av l).1.head,(Av l).1.dz,(Av l).1.aP,(Av l).1.oG,(Av l).2==0⟩
 else sU
def afs(x:Lc)(t:Tu):Lc:={x with oq:=if t.h.h then 34525 else 2048}
theorem aaE(x:Lc)(t:Tu)(w:ak):aQ ah 104 #[.d x.ay,.d t.ay] w (gU w (.d (afs x t).ay)):=by
 have h0:=(((Bx.start w).new x.ay 108).new t.ay 81).new qK.ay 108;rw[show((w.alloc (.D x.ay 108)).alloc (.D t.ay 81)).a.j=w.a.j+2 by simp,show(w.alloc (.D x.ay 108)).a.j=w.a.j+1 by simp]at h0;have Z:=ab (h0.sub (L':=[(w.a.j,x.ay),(w.a.j+1,t.ay),(w.a.j+2,qK.ay)]) (by simp));clear h0;have hne:=ab (fun p (hp:p∈[(w.a.j+1,t.ay),(w.a.j+2,qK.ay)])=>show p.1≠w.a.j by
  simp at hp;rcases hp with rfl|rfl<;>simp)
 go_enter Tryz.func104,Tryz.ntmps104;go_upto_region 1 with fail
 generalize((w.alloc (.D x.ay 108)).alloc (.D t.ay 81)).alloc (.D qK.ay 108)=w2 at Z ⊢;obtain⟨y1,y2,y3,y4⟩:=Z.i.X.K;have Z1:=ab (Z.i.set hne.i 13 (.b .a 2048));rw[Lc.RX]at Z1;go_upto_region 2 with fail
 clear y1 y2 y3 y4;generalize w2.F ⟨w.a.j,13,none⟩ (.b .a 2048)=w3 at Z1 ⊢;obtain⟨x1,x2,x3,x4⟩:=Z1.i.b1.K;have x0:=Tu.pX t;cases h6:t.h.h
 ·have H6:=ab h6
  rw[h6]at x0;clear h6;obtain⟨u1,u2,u3,u4⟩:=Z1.i.X.K;have th:=Z1.i.b2.O 0 15 (aX (Lc.G qK).symm);have ZP:=ab ((Z1.i.sub (L':=[(w.a.j+2,qK.ay)]) (by simp)).put (fun p hp=>by cases hp) ({x with oq:=2048}:Lc).ay (by rw[Lc.G,Lc.G]));go_wp2;refine aN (kLc.zh rfl _ rfl ZP.i.X (Lc.G _)) rfl ?_;rw[show afs x t={x with oq:=2048}by unfold afs;rw[H6.i];rfl];exact⟨rfl,ZP.i.R⟩
 ·have H6:=ab h6
  rw[h6]at x0;clear h6;obtain⟨y1,y2,y3,y4⟩:=Z1.i.X.K;have Z2:=ab (Z1.i.set hne.i 13 (.b .a 34525));rw[Lc.RX]at Z2;go_upto_region 4 with fail
  clear y1 y2 y3 y4 x1 x2 x3 x4;generalize w3.F ⟨w.a.j,13,none⟩ (.b .a 34525)=w4 at Z2 ⊢;obtain⟨u1,u2,u3,u4⟩:=Z2.i.X.K;have th:=Z2.i.b2.O 0 15 (aX (Lc.G qK).symm);have ZP:=ab ((Z2.i.sub (L':=[(w.a.j+2,qK.ay)]) (by simp)).put (fun p hp=>by cases hp) ({x with oq:=34525}:Lc).ay (by rw[Lc.G,Lc.G]));go_wp2;refine aN (kLc.zh rfl _ rfl ZP.i.X (Lc.G _)) rfl ?_;rw[show afs x t={x with oq:=34525}by unfold afs;rw[H6.i];rfl];exact⟨rfl,ZP.i.R⟩
section
attribute [local go_sem high] iU jE
def Gs(l:List UInt8)(s d:fq):List UInt8×Int:=
 if(mh l).2≠0 then([],3)
 else if(zU (mh l).1.oq (l.f (mh l).1.fD)).ok=false then([],3)
 else if amd s d=false then([],1)
 else if s.h=true then
  if(zU (mh l).1.oq (l.f (mh l).1.fD)).dz>65535 then([],4)
  else(qw (mh l).1.Y (mh l).1.h (mh l).1.fG 34525++wL ⟨40,40+(zU (mh l).1.oq (l.f (mh l).1.fD)).dz,64,false,0,if(mh l).1.oq=34525 then 41 else 4,s,d⟩++(l.f (mh l).1.fD).d (zU (mh l).1.oq (l.f (mh l).1.fD)).dz.e,0)
 else if 20+(zU (mh l).1.oq (l.f (mh l).1.fD)).dz>65535 then([],4)
  else(qw (mh l).1.Y (mh l).1.h (mh l).1.fG 2048++tN ⟨20,20+(zU (mh l).1.oq (l.f (mh l).1.fD)).dz,0,0,false,true,64,if(mh l).1.oq=34525 then 41 else 4,s,d⟩++(l.f (mh l).1.fD).d (zU (mh l).1.oq (l.f (mh l).1.fD)).dz.e,0)
def aiW(W:ak)(r:List UInt8×Int)(e:kZ)(W':ak):Prop:=∃A n c,e=.a (.J #[.a A n c,.b .a r.2])/\fP W' W'.a.j A n r.1/\aM W.a.j W W'
theorem Nh(l:List UInt8)(k:Nat):eU l k<=65535:=by
 have h1:=(l.c k 0).toNat_lt;have h2:=(l.c (k+1) 0).toNat_lt;unfold eU;omega
theorem Ye{l:List UInt8}:∀(m k:Nat)(fG:List Tg),(∀t∈fG,aaD t)->fG.a+m<=2->(∀t∈(Ck l m k fG).1.fG,aaD t)/\(Ck l m k fG).1.fG.a<=2
 | 0,k,fG,h,hl=>by
   cases ht:tY (eU l (k-2):Nat)with
   | false=>rw[zI ht];exact⟨h,hl⟩
   | true=>rw[JK ht];exact⟨fun t ht=>by simp[Em]at ht,by simp[Em]⟩
 | m+1,k,fG,h,hl=>by
   cases ht:tY (eU l (k-2):Nat)with
   | false=>rw[zI ht];exact⟨h,by simp only;omega⟩
   | true=>
     by_cases h4:l.a<k+4
     ·rw[By ht h4];exact⟨fun t ht=>by simp[Em]at ht,by simp[Em]⟩
     ·rw[Eo ht h4]
      refine Ye m (k+4) _ (fun t ht=>?_) (by simp;omega);rcases ql.1 ht with ht|ht
      ·exact h t ht
      ·rw[fM.1 ht]
       have h1:=Nh l (k-2);have h2:=Nh l k;exact⟨⟨by simp only;omega,by simp only;omega⟩,by simp only;omega,by simp only;omega⟩
theorem Vm(l:List UInt8):(∀t∈(mh l).1.fG,aaD t)/\(mh l).1.fG.a<=2:=by
 unfold mh;split
 ·exact⟨fun t ht=>by simp[Em]at ht,by simp[Em]⟩
 ·exact Ye 2 14 [] (fun t ht=>by cases ht) (by simp)
end
section
attribute [local go_sem high] iU jE
theorem aft(W:ak)(k:Int)(A:Option aT)(n c:Nat)(l:List UInt8)(hnc:n<=c)(hc:c<=9223372036854775807/\n<=1000000)(hr:fP W W.a.j A n l):aQ ah 101 #[.b .a k,.a A n c] W (gU W (.d (zU k l).ay)):=by
 have b0:=ab ((Bx.start W).new sU.ay 179);have R0:=b0.i.MX hr;have C4:=ab (MS _ A n c l hnc (by omega) R0);have C6:=ab (Qc _ A n c l hnc (by omega) R0);clear R0 hr;go_enter Tryz.func101,Tryz.ntmps101;by_cases hk:k=2048
 ·have q:(k==2048)=true:=by simp[hk]
  obtain⟨x,hx⟩:=dw ((zS l));obtain⟨x,er⟩:=x;have H:=ab (show zU k l=⟨x.head,x.dz,x.aP,x.oG,er==0⟩by unfold zU;rw[if_pos hk,<-hx]);unfold FoP at C4;rw[<-hx]at C4;clear hx hk;go_wp2_with (go_at_call 175;with_reducible refine C4.i.g ?_;rintro e w1 ⟨rfl,hb1⟩;have Z1:=ab (b0.i.go hb1);have Z2:=ab (Z1.i.new x.ay 192);obtain⟨y1,y2,y3,y4⟩:=Z2.i.X.K;have yI:=Z2.i.b1.O 0 5 (aX (Tn.G sU).symm);clear hb1);have Z3:=ab (Z2.i.swap.put (fun p hp=>by rw[fM.1 hp];exact uD Z1.i.X.lt) (Tn.mk x.head x.dz x.aP x.oG (er==0)).ay (by rw[Tn.G,Tn.G]));refine aN (kTn.zh rfl _ rfl Z3.i.X (Tn.G _)) rfl ?_;rw[H.i];exact⟨rfl,Z3.i.R⟩
 by_cases hk6:k=34525
 ·have q:(k==2048)=false:=by simp[hk]
  have q2:(k==34525)=true:=by simp[hk6]
  obtain⟨x,hx⟩:=dw ((Av l));obtain⟨x,er⟩:=x;have H:=ab (show zU k l=⟨x.head,x.dz,x.aP,x.oG,er==0⟩by unfold zU;rw[if_neg hk,if_pos hk6,<-hx]);unfold SxP at C6;rw[<-hx]at C6;clear hx hk hk6;go_wp2_with (go_at_call 176;with_reducible refine C6.i.g ?_;rintro e w1 ⟨rfl,hb1⟩;have Z1:=ab (b0.i.go hb1);have Z2:=ab (Z1.i.new x.ay 189);obtain⟨y1,y2,y3,y4⟩:=Z2.i.X.K;have yI:=Z2.i.b1.O 0 5 (aX (Tn.G sU).symm);clear hb1);have Z3:=ab (Z2.i.swap.put (fun p hp=>by rw[fM.1 hp];exact uD Z1.i.X.lt) (Tn.mk x.head x.dz x.aP x.oG (er==0)).ay (by rw[Tn.G,Tn.G]));refine aN (kTn.zh rfl _ rfl Z3.i.X (Tn.G _)) rfl ?_;rw[H.i];exact⟨rfl,Z3.i.R⟩
 ·have q:(k==2048)=false:=by simp[hk]
  have q2:(k==34525)=false:=by simp[hk6]
  have H:=ab (show zU k l=sU by unfold zU;rw[if_neg hk,if_neg hk6]);have yI:=b0.i.X.O 0 5 (aX (Tn.G sU).symm);clear hk hk6;go_wp2;have Z3:=ab (b0.i.put (fun p hp=>by cases hp) sU.ay rfl);refine aN (kTn.zh rfl _ rfl (b:=W.a.j) (c:=sU.ay) (by first|exact Z3.i.X|exact b0.i.X) (Tn.G _)) rfl ?_;rw[H.i];exact⟨rfl,by first|exact Z3.i.R|exact b0.i.R⟩
theorem aCV:aiI 314:=⟨fun c w=>by
 go_enter Tryz.func314,Tryz.ntmps314;go_wp2;go_ret;exact⟨rfl,rfl⟩,fun args w=>by kernel_rfl⟩
theorem ac0(a:fq)(w:ak):aQ ah 269 #[.d a.ay] w (gU w (.e a.mK)):=by
 have HB:=ab ((aG w.a.j w).alloc (av _) (.D a.ay 27));have x0:=dL.new w a.ay 27;have C:=ab (agZ _ aCV _ 12 12 _ _ _ (by omega) (fP.tail (B:=w.a.j+1) (mG _) x0));have HS:=ab (JL a);obtain⟨z,hz⟩:=dw (nzB (a.b.a.f 4));rw[<-hz]at C HS;clear hz;go_enter Tryz.func269,Tryz.ntmps269;go_wp2_with fail;refine C.i.g ?_;rintro e w' ⟨rfl,rfl⟩;cases z
 all_goals
  go_wp2;go_ret;exact⟨by have:=HS.i;simp at this;simp[<-this],HB.i⟩
theorem afu(k:Int)(w:ak):aQ ah 256 #[.b .a k] w fun e w'=>e=.a (.e (decide (0<=k)&&decide (k<=65535)))/\w=w':=by
 go_enter Tryz.func256,Tryz.ntmps256;by_cases h1:0<=k<;>by_cases h2:k<=65535
 all_goals
  go_wp2;go_ret;exact⟨by simp[h1,h2],rfl⟩
theorem aiX(k:Int)(w:ak):aQ ah 315 #[.b .a k] w fun e w'=>e=.a (.e (decide (0<=k)&&decide (k<=255)))/\w=w':=by
 go_enter Tryz.func315,Tryz.ntmps315;by_cases h1:0<=k<;>by_cases h2:k<=255
 all_goals
  go_wp2;go_ret;exact⟨by simp[h1,h2],rfl⟩
end
theorem afv(l:List UInt8):∀v∈l.map bv,v.h=true:=by
 intro v hv;obtain⟨b,_,rfl⟩:=gT.1 hv;rfl
theorem ame(l:List UInt8)(k:Nat):r9 l k []=l:=by unfold r9;simp
theorem OU{g z n c:Nat}(h:z<c):vH (some ⟨g,0,none⟩) z c 1=some ⟨g,z,none⟩:=by
 unfold vH;rw[if_neg (by omega)];simp only[mZ,gB];rw[iD,bl]
theorem Ly.copy{B:Nat}{L:List (Nat×Array aB)}{w0 W:ak}{A:Option aT}{n c:Nat}{bs:List UInt8}(h:Ly B L w0 W (.a A n c) bs)(z:Nat){C:Nat}{sp:Option aT}{sLen:Nat}{ys:List UInt8}(hr:fP W C sp sLen ys)(m:Nat)(dp:Option aT)(dLen dCap sCap:Nat)
 (hm:m=qj sLen dLen) (hd:0<m->∃g,A=some ⟨g,0,none⟩/\dp=some ⟨g,z,none⟩) (hz:z+m<=bs.a) (ty:bK) (dT sT:bK) (hu:ah.k dT=some (.a 5)) :
 ∃W',(Builtin.copy_ #[dT,sT] ty #[.a dp dLen dCap,.a sp sLen sCap]).I ah W=.ok (goInt m) W'/\Ly B L w0 W' (.a A n c) (r9 bs z (ys.d m))/\W.d W' (jW (.a A n c)):=by
 have hsz:(ah.info? 5).map (·.j)=some 1:=by
  obtain⟨i0,hi0,hz0,hz1,_⟩:=BM KE;rw[hi0];simp[hz1]
 by_cases h0:m=0
 ·subst h0
  exact⟨W,run_copy_none (P:=ah) W dT sT ty 5 dp sp dLen dCap sLen sCap hu hsz hm.symm,by rw[jY,ame];exact h,World.grownBy.refl _ _⟩
 ·obtain⟨g,rfl,rfl⟩:=hd (by omega)
  have hln:=hr.len;have hms:m<=sLen:=by rw[hm];exact Nat.min_le_left _ _
  obtain⟨a,rfl,_,hsrc⟩:=hr.2 (by omega);have hl1:((ys.d m).map bv).a=m:=by simp;omega
  rcases h.o.vC.2 with⟨e,_⟩|⟨g',cap,cur,e,hB,hh,hn,hcap,hcs,htk⟩
  ·cases e
  ·injection e with e1 e2 e3
   injection e1 with e1
   injection e1 with e1
   subst e1 e3;have hnb:n=bs.a:=e2;have hg2:w0.a.j<=g:=by
    rcases h.o.vY with e|⟨k',e,e2⟩
    ·cases e
    ·injection e with e;subst e;exact e2
   have hrun:=run_copy_row (P:=ah) W dT sT ty 5 g z dLen dCap a sLen sCap cur 5 ((ys.d m).map bv) hu hsz hh (by rw[hl1,hm]) (fun j v hv=>hsrc j v (by
    simp only[jA,jf]at hv ⊢;split at hv
    ·exact hv
    ·cases hv)) (by rw[hl1,hcs];omega) (afv _)
   rw[hl1]at hrun;refine⟨_,hrun,?_,?_⟩
   ·have Uk:(r9 bs z (ys.d m)).a=bs.a:=Es (by simp;omega)
    have aCW:(cur.a.d bs.a)=bs.map bv:=by rw[<-htk,gB]
    refine⟨⟨⟨by simp[Uk],.b ⟨g,c,_,by rw[Uk,hnb],hB,setRow_heap W g cur _ _ _ hh,by rw[Uk];omega,hcap,by simp;simp at hcs;omega,?_⟩⟩,?_,h.o.vY,h.o.hB,h.o.gb⟩,fun p hp=>⟨?_,(h.G p hp).2⟩⟩
    ·rw[Uk,gB]
     unfold r9;simp only[List.toList_toArray,List.map_append,Ae,List.map_drop,<-aCW];simp only[Array.toList_ofFn,bJ];apply iJ;intro i;have hcz:cur.a.a=c:=by rw[aY,hcs,gB]
     rw[jf];by_cases hi:i<bs.a
     ·rw[if_pos hi]
      simp only[dB,kQ,bJ,bT,jf,je,hcz]
      repeat' split
      all_goals first|omega|rfl|(simp at *;omega)|(congr 1;omega)|(simp;omega)|skip
     ·rw[if_neg hi]
      symm;apply aS;simp[hcz];omega
    ·exact⟨h.o.gr.os,h.o.gr.tape,h.o.gr.output,by simpa[rU]using h.o.gr.j,fun k hk hne=>(oJ W g k _ (by omega)).trans (h.o.gr.block k hk hne)⟩
    ·obtain⟨t,ht⟩:=(h.G p hp).1
     exact⟨t,(oJ W g p.1 _ (fun e=>(h.G p hp).2 (by rw[e];rfl))).trans ht⟩
   ·exact⟨rfl,rfl,rfl,by simp[rU],fun k hk hne=>oJ W g k _ (fun e=>hne (by rw[e];rfl))⟩
section
attribute [local go_sem high] iU jE
theorem apE:lS 3 = #[0,1,2]:=by apply oP;rw[j3];rfl
@[go_sem]theorem arD(w:ak)(A0 A1 A2:Option aT)(n0 n1 n2 c0 c1 c2:Nat):(FD 3 #[(0,.a A0 n0 c0),(1,.a A1 n1 c1),(2,.a A2 n2 c2)]).I ah w=.ok (.a (some ⟨w.a.j,0,none⟩) 3 3) (w.alloc (.D (yQ [⟨A0,n0,c0⟩,⟨A1,n1,c1⟩,⟨A2,n2,c2⟩]) 56)):=by
 obtain⟨i0,hi0,hz0,hz1⟩:=Ru;simp[FD,bI,dJ Tryz.underlying276,zeroValue,sizeOf,typeInfo,hi0,hz0,hz1,fu,newRow,yQ,bW,apE]
def ac1(w:ak)(bs:List UInt8)(e:kZ)(w':ak):Prop:=∃A n c,e=.a (.J #[.a A n c,.b .a 0])/\n=bs.a/\w'.c w.a.j 5 1 (.a A n c) n (bs.map bv)/\aM w.a.j w w'
theorem Ly.amf{B:Nat}{L:List (Nat×Array aB)}{w0 W:ak}{A:Option aT}{n c:Nat}{bs:List UInt8}(ho:W.c B 5 1 (.a A n c) n (bs.map bv))(hB0:w0.a.j<=B)(hb:aM w0.a.j w0 W)(hx:∀p∈L,dL W p.1 p.2/\p.1<B):Ly w0.a.j L w0 W (.a A n c) bs:=by
 have hn:n=bs.a:=by have:=ho.1;rw[bT]at this;omega
 subst hn;have hk:∀k,(bD A bs.a c).f=some k->B<=k:=fun k hk=>(ho.lt k hk).1
 refine⟨⟨iH ho hB0,⟨hb.os,hb.tape,hb.output,hb.j,fun i hi _=>hb.block i hi⟩,?_,av _,fun k h=>by cases h⟩,fun p hp=>⟨(hx p hp).1,fun e=>by have:=hk _ e;have:=(hx p hp).2;omega⟩⟩;cases A with
 | none=>exact .a rfl
 | some a=>exact .b ⟨_,rfl,aO hB0 (hk _ rfl)⟩
theorem Ly.toE{L:List (Nat×Array aB)}{w0 W:ak}{A:Option aT}{n c:Nat}{bs:List UInt8}(h:Ly w0.a.j L w0 W (.a A n c) bs):ac1 w0 bs (.a (.J #[.a A n c,.b .a 0])) W:=by
 obtain⟨A9,c9,e9⟩:=h.o.Ch;injection e9 with e1 e2 e3
 subst e2;exact⟨A,_,c,rfl,rfl,h.o.vC,h.o.R⟩
theorem uY(n:Nat)(h:n<=65535):iN n 2 true=qc n:=by
 simp only[iN,vU,qc,if_true,dQ];rw[show dV 2=[0,1]from rfl];simp[Ht];apply UInt8.toNat_inj.1;simp
theorem ac2{α β:Type}(f:α->List β)(d:α)(l:List α)(i:Nat)(hi:i<l.a):(l.d (i+1)).h f=(l.d i).h f++f (l.c i d):=by
 rw[<-oD d l i hi];simp
theorem ag6{W:ak}{q o:Nat}{c:Array aB}(h:dL W q c)(v:Vector UInt8 6)(hc:c.m o (o+6)=Ar v):fP W W.a.j (some ⟨q,o,none⟩) 6 v.a:=by
 have:=fP.MV (w:=W) (B:=W.a.j) (b:=q) (o:=o) (l:=v.a) h.lt (fun j hj=>by
  rw[h.K.1];have h2:(c.m o (o+6))[j]? = (Ar v)[j]?:=by rw[hc]
  have hj6:j<6:=by simpa using hj
  have hs:(Ar v)[j]? = some (bv (v.a.c j 0)):=by simp[Ar,au,hj6]
  rw[hs,dx]at h2;split at h2
  ·exact h2
  ·cases h2)
 simpa using this
theorem ac3(xd xr:Vector UInt8 6)(TA:Option aT)(tn ac4:Nat)(xty xat:Int)(fG:List Tg)(hf:∀t∈fG,aaD t)(hi:∀t∈fG,tY t.oq=true)(hn:fG.a<=2)(t0:0<=xty)(t1:xty<=65535)(ht:tY xty=false)(w:ak)(hT:iR Tg.ay 2 w w.a.j TA tn fG):aQ ah 185 #[.d (Lc.mk xd xr TA tn ac4 xty xat).ay] w (ac1 w (qw xd xr fG xty)):=by
 have Z:=ab ((Bx.start w).new (Lc.mk xd xr TA tn ac4 xty xat).ay 108);have HT:=ab hT;have HN:=ab hT.1;have hn2:tn<=2:=by have:=hT.1;omega
 have q2:decide ((2:Int)<tn)=false:=by simp;omega
 have CI:=ab (fun k W (h:0<=k/\k<=65535)=>show aQ ah 256 #[.b .a k] W (fun e W'=>e=.a (.e true)/\W=W')by
  have:=afu k W;rwa [decide_eq_true h.1,decide_eq_true h.2]at this)
 have CX:=ab (fun W=>CI.i xty W ⟨t0,t1⟩);have CT:=ab (fun W=>by have:=aaq (W:=W) xty;rwa [ht]at this:∀W,aQ ah 174 #[.b .a xty] W fun e W'=>e=.a (.e false)/\W=W');have HF:=ab hf;have HI:=ab hi;have HTY:=ab ht;clear hT hf hi ht;go_enter Tryz.func185,Tryz.ntmps185;go_upto_region 1 with fail
 generalize w.alloc (.D (Lc.mk xd xr TA tn ac4 xty xat).ay 108)=w1 at *;obtain⟨y1,y2,y3,y4⟩:=Z.i.X.K;go_upto_region 3 with(first|(go_at_call 256;(with_reducible refine(CX.i _).g ?_);rintro e w4 ⟨rfl,rfl⟩)|(go_at_call 174;(with_reducible refine(CT.i _).g ?_);rintro e w4 ⟨rfl,rfl⟩))
 have CC:=ab (Br [⟨some ⟨w.a.j,0,none⟩,6,6⟩,⟨some ⟨w.a.j,6,none⟩,6,6⟩] [xd.a,xr.a] 56 2 w1.drew rfl (.cons (ag6 Z.i.drew.X xd (Lc.IG _)) (.cons (ag6 Z.i.drew.X xr (Lc.IE _)) .nil)) (by omega) (by simp[yF]));simp only[show w1.drew.a.j=w1.a.j from rfl,show∀(w:ak) ob,w.drew.alloc ob=(w.alloc ob).drew from fun _ _=>rfl]at CC;obtain⟨bs,hbs⟩:=dw (xd.a++xr.a);have HBS:=ab (show qw xd xr fG xty=bs++fG.h zT++qc xty by rw[hbs];rfl);have FQ:=ab (show bs.a=12 by rw[hbs];simp);rw[show [xd.a,xr.a].flatten=bs by rw[hbs];simp]at CC;clear hbs y1 y2 y3 y4 q2;go_region_held_law (fun _=>True) (trivial) (first|(go_at_call 181;(with_reducible refine CC.i.g ?_);rintro e w2 ⟨A2,m2,c2,rfl,hm2,_,ho2,hb2⟩;have O2:=ab ho2;have B2:=ab (MB hb2);clear hm2 ho2 hb2));have S0:=ab (Ly.amf (L:=[(w.a.j,(Lc.mk xd xr TA tn ac4 xty xat).ay)]) (w0:=w) O2.i (qo Z.i.R.j) (Z.i.R.trans (B2.i.g Z.i.R.j)) (fun p hp=>by rw[fM.1 hp];exact⟨Z.i.X.go B2.i,Nat.lt_succ_of_lt Z.i.X.lt⟩));have fg:=fun(w':ak) (h:dL w' w.a.j (Lc.mk xd xr TA tn ac4 xty xat).ay)=>show w'.b ⟨w.a.j,12,none⟩=some (.a TA tn ac4)from(h.K.1 12).trans (Lc.aan _)
 have FG:=ab fg;have fy:=fun(w':ak) (h:dL w' w.a.j (Lc.mk xd xr TA tn ac4 xty xat).ay)=>show w'.b ⟨w.a.j,13,none⟩=some (.b .a xty)from(h.K.1 13).trans (Lc.Dz _)
 have FY:=ab fy;clear fg fy;have f12:=FG.i _ S0.i.X;have HTL:=ab (Et fG);go_wp2;clear f12;go_loopw [4,31] (fun s4 s31 wr=>∃(i:Nat)(A:Option aT)(m c:Nat),i<=tn/\s31=.b .a i/\s4=.a A m c/\Ly w.a.j [(w.a.j,(Lc.mk xd xr TA tn ac4 xty xat).ay)] w wr (.a A m c) (bs++(fG.d i).h zT)) (fun _ s31 _=>tn-(intOf s31).e)
 case atStart=>exact⟨0,_,_,_,by omega,rfl,rfl,by simpa using S0.i⟩
 case round=>
  obtain⟨i,A,m,c,hin,rfl,rfl,h⟩:=hrel;have HO:=ab h;clear h;have HL1:=ab (show((fG.d i).h zT).a<=8 by rw[Et,bJ];have:=HN.i;omega);by_cases hlt:i<tn
  ·have hi:(i:Int)<tn:=by omega
   obtain⟨b,o,hA,hbb,hh,hcl⟩:=iR.fD Tg.G QW ((HT.i.S HO.i.o.R).lu HO.i.o.R.j) hlt;have hm:=AX QW fG i (by rw[HN.i];exact hlt);have Dv:=ab (ac2 zT QW fG i (by rw[HN.i];exact hlt));have ok1:=HF.i _ hm;have ok2:=HI.i _ hm;obtain⟨t,htt⟩:=dw (fG.c i QW);rw[<-htt]at hcl ok1 ok2 Dv;clear htt hm;obtain⟨⟨k0,k1⟩,k2,k3⟩:=ok1;obtain⟨ty,hty⟩:∃n:Nat,t.oq=(n:Int):=⟨t.oq.e,by omega⟩
   obtain⟨tc,htc⟩:∃n:Nat,t.tci=(n:Int):=⟨t.tci.e,by omega⟩
   have CTT:=ab (show∀W,aQ ah 174 #[.b .a t.oq] W fun e W'=>e=.a (.e true)/\W=W' from fun W=>by have:=aaq (W:=W) t.oq;rwa [ok2]at this);have CII:=ab (fun W=>CI.i t.tci W ⟨k2,k3⟩);have HTB:=ab (show zT t=qc ty++qc tc by unfold zT;rw[hty,htc]);have cs:jo.wrap t.oq=(ty:Int):=by rw[jR];omega
   have cd:jo.wrap t.tci=(tc:Int):=by rw[jR];omega
   have PS:=ab (fun W=>wE ty (by omega) W);have PD:=ab (fun W=>wE tc (by omega) W);rw[uY ty (by omega)]at PS;rw[uY tc (by omega)]at PD;have HZ:=ab hty;have HZ2:=ab htc;subst hA;clear hty htc ok2 k0 k1 k2 k3;have L1:=ab (HO.i.new t.ay 268);go_upto_region 7 with fail
   clear hh hcl;generalize wr.alloc (.D t.ay 268)=w5 at L1 ⊢;generalize wr.a.j=y6 at L1 ⊢;have e1:=(L1.i.X.K.1 0).trans (Tg.Dz t);have e2:=(L1.i.X.K.1 1).trans (Tg.alT t);go_upto_region 9 with(first|(go_at_call 174;(with_reducible refine(CTT.i _).g ?_);rintro e w6 ⟨rfl,rfl⟩)|(go_at_call 256;(with_reducible refine(CII.i _).g ?_);rintro e w6 ⟨rfl,rfl⟩))
   go_upto_region 10 with(first|(go_at_call 184;(with_reducible refine(PS.i _).g ?_);rintro e w6 ⟨A6,rfl,ho,hb⟩;have R6:=ab (Da ho (aG _ _));have L2:=ab (L1.i.go hb);have HLN:=ab (show(bs++(fG.d i).h zT).a+2<=1000000000 by rw[aR];have:=HL1.i;have:=FQ.i;omega);clear ho hb)|(at_builtin;refine ko rfl (.a 45) (.a 49) rfl rfl L2.i.o rfl R6.i HLN.i ?_;intro A7 n7 c7 w7 h2 h3;have L3:=ab (L2.i.step h3);clear h2 h3))
   have e3:=(L3.i.X.K.1 1).trans (Tg.alT t);have atX:=ab (show(bs++(fG.d i).h zT++qc ty).a+2<=1000000000 by rw[aR,aR];have:=HL1.i;have:=FQ.i;have:(qc ty).a=2:=rfl;omega);go_wp2_with (first|(go_at_call 184;(with_reducible refine(PD.i _).g ?_);rintro e w8 ⟨A8,rfl,ho,hb⟩;have R8:=ab (Da ho (aG _ _));have L4:=ab (L3.i.go hb);clear ho hb)|(at_builtin;refine ko rfl (.a 51) (.a 55) rfl rfl L4.i.o rfl R8.i atX.i ?_;intro A9 n9 c9 w9 h2 h3;have L5:=ab (L4.i.step h3);clear h2 h3));go_roundw
   case rel=>exact⟨i+1,A9,n9,c9,by omega,by go_num,rfl,by have:=L5.i.NH;rw[Dv.i,HTB.i,<-dB,<-dB];exact this⟩
   case measure=>simp[intOf]<;>omega
  ·have hge:¬(i:Int)<tn:=by omega
   have HFU:=ab (show(fG.d i).h zT=fG.h zT by rw[aK (by rw[HN.i];omega)]);obtain⟨ty,hty⟩:∃n:Nat,xty=(n:Int):=⟨xty.e,by omega⟩
   subst hty;have cs:jo.wrap (ty:Int)=(ty:Int):=by rw[jR];omega
   have PS:=ab (fun W=>wE ty (by omega) W);rw[uY ty (by omega)]at PS;have e3:=FY.i _ HO.i.X;have atX:=ab (show(bs++(fG.d i).h zT).a+2<=1000000000 by rw[aR];have:=HL1.i;have:=FQ.i;omega);go_wp2_with (first|(go_at_call 184;(with_reducible refine(PS.i _).g ?_);rintro e w8 ⟨A8,rfl,ho,hb⟩;have R8:=ab (Da ho (aG _ _));have L4:=ab (HO.i.go hb);clear ho hb)|(at_builtin;refine ko rfl (.a 58) (.a 62) rfl rfl L4.i.o rfl R8.i atX.i ?_;intro A9 n9 c9 w9 h2 h3;have L5:=ab (L4.i.step h3);clear h2 h3));go_ret2;rw[HBS.i,<-HFU.i];exact L5.i.toE
theorem ac6(x:Lc)(fG:List Tg)(hf:∀t∈fG,aaD t)(hi:∀t∈fG,tY t.oq=true)(hn:fG.a<=2)(t0:0<=x.oq)(t1:x.oq<=65535)(ht:tY x.oq=false)(w:ak)(hT:iR Tg.ay 2 w w.a.j x.UN x.El fG):aQ ah 185 #[.d x.ay] w (ac1 w (qw x.Y x.h fG x.oq)):=
 ac3 x.Y x.h x.UN x.El x.agY x.oq x.fD fG hf hi hn t0 t1 ht w hT
end
section
attribute [local go_sem high] iU jE
theorem ax0(w:ak)(c:Array aB)(t:bK)(l:List UInt8)(h:c.a=l.map bv):fP (w.alloc (.D c t)) (w.a.j+1) (some ⟨w.a.j,0,none⟩) l.a l:=by
 have:=fP.MV (w:=w.alloc (.D c t)) (B:=w.a.j+1) (b:=w.a.j) (o:=0) (l:=l) (mG _) (fun j hj=>by
  rw[bl,mR w c t j,<-dD,h];simp[au,hj])
 exact this
theorem Lh{W:ak}{q o:Nat}{c:Array aB}(h:dL W q c)(a:fq)(hc:c.m o (o+17)=a.ay):fP W W.a.j (some ⟨q,o+1,none⟩) 16 a.b.a:=by
 have:=fP.MV (w:=W) (B:=W.a.j) (b:=q) (o:=o+1) (l:=a.b.a) h.lt (fun j hj=>by
  have hj6:j<16:=by simpa using hj
  rw[h.K.1,show o+1+j=o+(j+1)by omega];have h2:(c.m o (o+17))[j+1]? = a.ay[j+1]?:=by rw[hc]
  rw[fq.DZ a j hj6,dx]at h2;split at h2
  ·exact h2
  ·cases h2)
 simpa using this
theorem ac1.of{w W:ak}{A:Option aT}{n c:Nat}{bs:List UInt8}{B:Nat}(hn:n=bs.a)(ho:W.c B 5 1 (.a A n c) n (bs.map bv))(hB:w.a.j<=B)(hb:aM w.a.j w W):ac1 w bs (.a (.J #[.a A n c,.b .a 0])) W:=⟨A,n,c,rfl,hn,iH ho hB,hb⟩
theorem Vn(x:Sx)(n:Nat)(hn:n<=65535)(hh:x.head=40)(ht:x.dz=40+n)(p0:0<=x.aP)(p1:x.aP<=255)(pe:zJ x.aP=false)(h0:0<=x.Ei)(h1:x.Ei<=255)(hf:x.oG=false)(he:x.GL=0)(hs:x.h.h=true)(hd:x.Y.h=true)(w:ak):aQ ah 270 #[.d x.ay] w (ac1 w (wL x)):=by
 have Z:=ab ((Bx.start w).new x.ay 189);have FA:=ab (fun(w':ak) (h:dL w' w.a.j x.ay)=>show w'.b ⟨w.a.j,0,none⟩=some (.b .a 40)/\w'.b ⟨w.a.j,1,none⟩=some (.b .a (40+n))/\w'.b ⟨w.a.j,2,none⟩=some (.b .a x.Ei)/\w'.b ⟨w.a.j,3,none⟩=some (.e false)/\w'.b ⟨w.a.j,4,none⟩=some (.b .a 0)/\w'.b ⟨w.a.j,5,none⟩=some (.b .a x.aP)/\w'.b ⟨w.a.j,6,none⟩=some (.e true)/\w'.b ⟨w.a.j,23,none⟩=some (.e true)by
  have f:=h.K.1;refine⟨(f 0).trans ((Sx.JJ x).trans (by rw[hh])),(f 1).trans ((Sx.yc x).trans (by rw[ht])),(f 2).trans (Sx.atm x),(f 3).trans ((Sx.RL x).trans (by rw[hf])),(f 4).trans ((Sx.aph x).trans (by rw[he])),(f 5).trans (Sx.Bv x),(f 6).trans ?_,(f 23).trans ?_⟩
  ·have:=Sx.IE x
   have h2:(x.ay.m 6 23)[0]? = x.h.ay[0]?:=by rw[this]
   rw[fq.pX,hs,dx,if_pos (by rw[Sx.G];omega)]at h2;exact h2
  ·have:=Sx.IG x
   have h2:(x.ay.m 23 40)[0]? = x.Y.ay[0]?:=by rw[this]
   rw[fq.pX,hd,dx,if_pos (by rw[Sx.G];omega)]at h2;exact h2)
 have HT:=ab (show wL x=[96,0,0,0]++qc n++[aJ x.aP.e,aJ x.Ei.e]++x.h.b.a++x.Y.b.a by
  unfold wL qc;rw[ht,show((40:Int)+n-40).e=n by omega];rfl)
 have CI:=ab (fun k W (h:0<=k/\k<=255)=>show aQ ah 315 #[.b .a k] W (fun e W'=>e=.a (.e true)/\W=W')by
  have:=aiX k W;rwa [decide_eq_true h.1,decide_eq_true h.2]at this)
 have C1:=ab (fun W=>CI.i x.Ei W ⟨h0,h1⟩);have C2:=ab (fun W=>CI.i x.aP W ⟨p0,p1⟩);have CE:=ab (fun W=>by have:=UU x.aP W;rwa [pe]at this:∀W,aQ ah 250 #[.b .a x.aP] W fun e W'=>e=.a (.e false)/\aM W.a.j W W');have q1:decide ((40:Int)+n<40)=false:=by simp;omega
 have q2:decide ((65575:Int)<40+(n:Int))=false:=by simp;omega
 have q3:=jT (40+(n:Int)-40) (by omega);have q4:(40:Int)+n-40=n:=by omega
 rw[q4]at q3;have q5:jo.wrap (n:Int)=n:=by rw[jR];omega
 have q6:aW.wrap x.aP=x.aP:=by rw[Gz];omega
 have q7:aW.wrap x.Ei=x.Ei:=by rw[Gz];omega
 have PS:=ab (fun W=>wE n hn W);rw[uY n hn]at PS;have HP:=ab (show #[aI .b x.aP,.b .b x.Ei].a=[aJ x.aP.e,aJ x.Ei.e].map bv by
  simp only[kI,pI,bv];rw[yT x.aP.e (by omega),yT x.Ei.e (by omega),lF p0,lF h0])
 have E1:=ab (Sx.IE x);have E2:=ab (Sx.IG x);clear hh ht pe hf he hs hd p0 p1 h0 h1;go_enter Tryz.func270,Tryz.ntmps270;go_upto_region 1 with fail
 generalize w.alloc (.D x.ay 189)=w1 at *;obtain⟨f0,f1,f2,f3,f4,f5,f6,f7⟩:=FA.i _ Z.i.X;go_upto_region 3 with(first|(go_at_call 315;(with_reducible refine(C1.i _).g ?_);rintro e w4 ⟨rfl,rfl⟩)|(go_at_call 315;(with_reducible refine(C2.i _).g ?_);rintro e w4 ⟨rfl,rfl⟩)|(go_at_call 250;(with_reducible refine(CE.i _).g ?_);rintro e w5 ⟨rfl,hb⟩;have Z5:=ab (Z.i.go hb);clear f0 f1 f2 f3 f4 f5 f6 f7;obtain⟨f0,f1,f2,f3,f4,f5,f6,f7⟩:=FA.i _ Z5.i.X;clear hb))
 clear f0 f3 f4 f6 f7 f1 f2 f5 q1 q2;have L0:=ab ((Ly.amb w w5 Z5.i.R #[.b .b 96,.b .b 0,.b .b 0,.b .b 0] [96,0,0,0] 4 rfl (by omega) rfl).add (q:=w.a.j) (c:=x.ay) (Z5.i.X.alloc _) (by simp[jW];exact uD Z5.i.X.lt));go_upto_region 4 with fail
 generalize w5.alloc (.D #[.b .b 96,.b .b 0,.b .b 0,.b .b 0] 5)=w6 at L0 ⊢;generalize bD (some ⟨w5.a.j,0,none⟩) 4 4=v6 at L0 ⊢;have f1:=(FA.i _ L0.i.X).2.1;go_upto_region 5 with(first|(go_at_call 184;(with_reducible refine(PS.i _).g ?_);rintro e w7 ⟨A7,rfl,ho,hb⟩;have R7:=ab (Da ho (aG _ _));have L1:=ab (L0.i.go hb);clear ho hb)|(at_builtin;refine ko rfl (.a 57) (.a 62) rfl rfl L1.i.o rfl R7.i (show 4+2<=1000000000 by decide) ?_;intro A8 n8 c8 w8 h2 h3;have L2:=ab (L1.i.step h3);clear h2 h3))
 clear f1 q3 q5 q4;obtain⟨_,_,f2,_,_,f5,_,_⟩:=FA.i _ L2.i.X;have L3:=ab (L2.i.alloc (.D #[.b .b x.aP,.b .b x.Ei] 5));have R8:=ab (ax0 w8 #[.b .b x.aP,.b .b x.Ei] 5 _ HP.i);go_upto_region 6 with(first|(at_builtin;refine ko rfl (.a 64) (.a 71) rfl rfl L3.i.o rfl R8.i (show 4+2+2<=1000000000 by decide) ?_;intro A9 n9 c9 w9 h2 h3;have L4:=ab (L3.i.step h3);clear h2 h3))
 clear f2 f5 q6 q7;obtain⟨bs,hbs⟩:=dw ([96,0,0,0]++qc n++[aJ x.aP.e,aJ x.Ei.e]);have FQ:=ab (show bs.a=8 by rw[hbs];rfl);rw[<-hbs]at L4 HT;clear hbs;obtain⟨A10,c10,e10⟩:=L4.i.o.Ch;injection e10 with e11 e12 e13
 subst e11 e12 e13;have BX:=ab L4.i.X.drew;have RB:=ab (fP.iY L4.i.o.vC);have CC:=ab (Br [⟨A9,bs.a,c9⟩,⟨some ⟨w.a.j,7,none⟩,16,16⟩,⟨some ⟨w.a.j,24,none⟩,16,16⟩] [bs,x.h.b.a,x.Y.b.a] 56 3 w9.drew rfl (.cons RB.i (.cons (Lh (o:=6) BX.i x.h E1.i) (.cons (Lh (o:=23) BX.i x.Y E2.i) .nil))) (by omega) (by simp[yF,FQ.i]));simp only[show w9.drew.a.j=w9.a.j from rfl,show∀(w:ak) ob,w.drew.alloc ob=(w.alloc ob).drew from fun _ _=>rfl]at CC;rw[show [bs,x.h.b.a,x.Y.b.a].flatten=wL x by rw[HT.i];simp]at CC;go_region_held_law (fun _=>True) (trivial) (first|(go_at_call 181;(with_reducible refine CC.i.g ?_);rintro e w2 ⟨A2,m2,c2,rfl,hm2,_,ho2,hb2⟩;have O2:=ab ho2;have N2:=ab hm2;have B2:=ab (MB hb2);clear hm2 ho2 hb2));go_wp2;go_ret2;exact ac1.of N2.i O2.i (qo L4.i.o.R.j) (L4.i.o.R.trans (B2.i.g L4.i.o.R.j))
end
theorem Li{w:ak}{ops:Array iV}{rest:List iV}{o:iV}{a:qQ}{Q:zO->qQ->ak->Prop}(hgd:o.guard=none)(d s:pG)
 (ho:o.op=.call {callee:=.builtin .copy,args:=#[d,s],argTypes:=#[56,56]}) {B:Nat} {L:List (Nat×Array aB)} {w0:ak} {A:Option aT} {n c:Nat} {bs:List UInt8} (H:Ly B L w0 w (.a A n c) bs) (z m:Nat)
 {dp:Option aT} {dLen dCap:Nat} (hd:a.eval d=.a dp dLen dCap) {sp:Option aT} {sLen sCap:Nat} (hs:a.eval s=.a sp sLen sCap) {C:Nat} {ys:List UInt8} (hr:fP w C sp sLen ys) (hm:m=qj sLen dLen)
 (hp:0<m->∃g,A=some ⟨g,0,none⟩/\dp=some ⟨g,z,none⟩) (hz:z+m<=bs.a)
 (h:∀w',Ly B L w0 w' (.a A n c) (r9 bs z (ys.d m))->w.d w' (jW (.a A n c))->wpList ah ops Q rest (a.put o.Y (goInt m)) w'):wpList ah ops Q (o::rest) a w:=by
 obtain⟨W',hrun,hL,hG⟩:=H.copy z hr m dp dLen dCap sCap hm hp hz o.type 56 56 cB;refine sV hgd fun K hK=>?_
 unfold nu;simp[execOp,ho,resolve,invoke,builtin,hd,hs,hrun,iE];exact hK _ _ (h W' hL hG)
theorem Ni{w:ak}{ops:Array iV}{o:iV}{a:qQ}{K:qQ->ak->Prop}{Q:zO->qQ->ak->Prop}{E:Prop}(hgd:o.guard=none)(d s:pG)
 (ho:o.op=.call {callee:=.builtin .copy,args:=#[d,s],argTypes:=#[56,56]}) {B:Nat} {L:List (Nat×Array aB)} {w0:ak} (A:Option aT) (n c:Nat) {bs:List UInt8} (H:Ly B L w0 w (.a A n c) bs) (z m:Nat)
 (dp:Option aT) (dLen dCap:Nat) (hd:a.eval d=.a dp dLen dCap) (sp:Option aT) (sLen sCap:Nat) (hs:a.eval s=.a sp sLen sCap) {C:Nat} {ys:List UInt8} (hr:fP w C sp sLen ys) (hm:m=qj sLen dLen)
 (hp:0<m->∃g,A=some ⟨g,0,none⟩/\dp=some ⟨g,z,none⟩) (hz:z+m<=bs.a)
 (h:∀w',Ly B L w0 w' (.a A n c) (r9 bs z (ys.d m))->w.d w' (jW (.a A n c))->K (a.put o.Y (goInt m)) w'):if fB o (yielded ops a.tmps)=true then nu ah o a w K Q else E:=by
 have hw:fB o (yielded ops a.tmps)=true:=by simp[fB,hgd]
 rw[if_pos hw];obtain⟨W',hrun,hL,hG⟩:=H.copy z hr m dp dLen dCap sCap hm hp hz o.type 56 56 cB;unfold nu;simp[execOp,ho,resolve,invoke,builtin,hd,hs,hrun,iE];exact h W' hL hG
theorem Ly.h{B:Nat}{L:List (Nat×Array aB)}{w0 w:ak}{A:Option aT}{n c:Nat}{bs:List UInt8}(H:Ly B L w0 w (.a A n c) bs)(h:0<bs.a):∃g,A=some ⟨g,0,none⟩/\n=bs.a/\n<=c/\w0.a.j<=g/\∀p∈L,p.1≠g:=by
 rcases H.o.vC.2 with⟨e,h0⟩|⟨g,cap,cur,e,hB,_,hn,_⟩
 ·omega
 ·injection e with e1 e2 e3
  subst e1 e2 e3;refine⟨g,rfl,rfl,hn,?_,fun p hp e=>(H.G p hp).2 (by rw[e];rfl)⟩;rcases H.o.vY with e|⟨k',e,e2⟩
  ·cases e
  ·injection e with e;subst e;exact e2
section
attribute [local go_sem high] iU jE
def Eu(l:List UInt8)(d s:Vector UInt8 6):List UInt8:=(d.a++s.a++l.f 12).d l.a
theorem ax1(l:List UInt8)(d s:Vector UInt8 6)(h:l.a<=6):r9 l 0 (d.a.d l.a)=Eu l d s:=by
 have e:(d.a.d l.a).a=l.a:=by simp;omega
 unfold r9 Eu;rw[jY,dF,bl,e,List.drop_length,uK,dB,List.take_append_of_le_length (by simp;omega)]
theorem ax2(l:List UInt8)(d s:Vector UInt8 6)(h:6<l.a):r9 (r9 l 0 (d.a.d 6)) 6 (s.a.d (min 6 (l.a-6)))=Eu l d s:=by
 have hd:d.a.d 6=d.a:=aK (by simp);have hdl:d.a.a=6:=by simp
 have hsl:s.a.a=6:=by simp
 rw[hd];unfold r9 Eu;simp only[jY,dF,bl,hdl];rw[List.take_left' hdl,<-Ky];have e2:(d.a++l.f 6).f 6=l.f 6:=List.drop_left' hdl;have e3:(s.a.d (min 6 (l.a-6))).a=min 6 (l.a-6):=by simp
 rw[e2,e3,Ky,dB d.a s.a,List.take_append,hdl];rw[aK (by omega:d.a.a<=l.a),dB];congr 1;rw[List.take_append,hsl];by_cases h2:l.a<=12
 ·rw[show min 6 (l.a-6)=l.a-6 by omega,iQ (by omega),iQ (by omega:l.a<=12)]
  simp
 ·rw[show min 6 (l.a-6)=6 by omega,aK (by omega:s.a.a<=6),aK (by omega:s.a.a<=l.a-6)]
  congr 1;rw[aK (by simp;omega)]
theorem Ly.toN{L:List (Nat×Array aB)}{w0 W:ak}{A:Option aT}{n c:Nat}{bs:List UInt8}(h:Ly w0.a.j L w0 W (.a A n c) bs):J7 w0 bs (.a (.a A n c)) W:=by
 obtain⟨A9,c9,e9⟩:=h.o.Ch;injection e9 with e1 e2 e3
 subst e2;exact⟨A,_,c,rfl,rfl,h.o.vC,h.o.R⟩
theorem aaF(w:ak)(A:Option aT)(n c:Nat)(l:List UInt8)(d s:Vector UInt8 6)(hn:n<=1000000)(hr:fP w w.a.j A n l):aQ ah 206 #[.a A n c,.d (Ar d),.d (Ar s)] w (J7 w (Eu l d s)):=by
 have h0:=((Bx.start w).new (Ar d) 25).new (Ar s) 25;simp only[tq]at h0;have Z:=ab h0;have CC:=ab (aik l A n c _ (h0.MX hr) (by omega));have hl:=ab hr.len;clear h0 hr;go_enter Tryz.func206,Tryz.ntmps206;go_upto_region 1 with fail
 generalize(w.alloc (.D (Ar d) 25)).alloc (.D (Ar s) 25)=w1 at Z CC ⊢;go_upto_region 2 with(go_at_call 268;(with_reducible refine CC.i.g ?_);rintro e w2 ⟨A2,c2,rfl,ho,hb⟩;have L1:=ab (Ly.amf (w0:=w) (L:=[(w.a.j+1,Ar s),(w.a.j,Ar d)]) ho Z.i.R.j (Z.i.R.trans (hb.g Z.i.R.j)) (fun p hp=>⟨((Z.i.go hb).2 p hp).2,(Z.i.2 p hp).2.lt⟩));clear ho hb)
 have RD:=ab (ag6 (o:=0) L1.i.b1 d (by rw[<-gD d];simp));by_cases h6:n<=6
 ·have hm:n=qj 6 n:=by show n=min 6 n;omega
  have HM:=ab hm;have q:decide ((6:Int)<n)=false:=by simp;omega
  have HP:=ab (show 0<n->∃g,A2=some ⟨g,0,none⟩/\A2=some ⟨g,0,none⟩from fun h=>by
   obtain⟨g,hg,_⟩:=L1.i.h (by rw[hl.i];exact h);exact⟨g,hg,hg⟩)
  have HZ:=ab (show 0+n<=l.a by rw[hl.i];omega);clear hm;go_wp2_with (first|(at_builtin;fail)|(refine Li rfl (.a 10) (.a 11) rfl L1.i 0 n rfl rfl RD.i HM.i HP.i HZ.i ?_;intro w3 h3 h4;have L2:=ab h3;clear h3 h4));go_ret;have:=L2.i.toN;have e:r9 l 0 (d.a.d n)=Eu l d s:=by rw[<-ax1 l d s (by rw[hl.i];exact h6),hl.i]
  rw[e]at this;exact this
 ·have q:decide ((6:Int)<n)=true:=by simp;omega
  obtain⟨g,hg1,hg2,hg3,hg4,hg5⟩:=L1.i.h (by rw[hl.i];omega);subst hg1;clear hg2;have HP:=ab (show 0<6->∃g',(some ⟨g,0,none⟩:Option aT)=some ⟨g',0,none⟩/\(some ⟨g,0,none⟩:Option aT)=some ⟨g',0,none⟩from fun h=>⟨g,rfl,rfl⟩);have HM:=ab (show 6=qj 6 n by show 6=min 6 n;omega);have HZ:=ab (show 0+6<=l.a by rw[hl.i];omega);have hn6:(6:Int)<=n:=by omega
  go_upto_region 4 with(first|(refine Li rfl (.a 10) (.a 11) rfl L1.i 0 6 rfl rfl RD.i HM.i HP.i HZ.i ?_;intro w3 h3 h4;have L2:=ab h3;clear h3 h4))
  have aIV:(6:Int)<=c2:=by omega
  have L3:=ab L2.i.drew;have RS:=ab (ag6 (o:=0) L3.i.X s (by rw[<-gD s];simp));have HPL:=ab (show(r9 l 0 (d.a.d 6)).a=n by rw[Es (by simp;rw[hl.i];omega),hl.i]);obtain⟨m2,hm2⟩:∃m,m=qj 6 (n-6):=⟨_,rfl⟩
  have HM2:=ab hm2;have hm3:m2=min 6 (n-6):=hm2;have HP2:=ab (show 0<m2->∃g',(some ⟨g,0,none⟩:Option aT)=some ⟨g',0,none⟩/\vH (some ⟨g,0,none⟩) 6 c2 1=some ⟨g',6,none⟩from fun h=>⟨g,rfl,OU (n:=0) (by omega)⟩);have HZ2:=ab (show 6+m2<=(r9 l 0 (d.a.d 6)).a by rw[HPL.i];omega);have HT:=ab (show r9 (r9 l 0 (d.a.d 6)) 6 (s.a.d m2)=Eu l d s by rw[hm3,<-hl.i];exact ax2 l d s (by rw[hl.i];omega));clear hm2 hm3 h6;go_region_held_law (fun _=>True) (trivial)
   (first|(refine Ni (o:=⟨some 19,_,_,_,_,_⟩) rfl (.a 17) (.a 18) rfl (some ⟨g,0,none⟩) n c2 L3.i 6 m2 (vH (some ⟨g,0,none⟩) 6 c2 1) (n-6) (c2-6) rfl (some ⟨w.a.j+1,0,none⟩) 6 6 rfl RS.i HM2.i HP2.i HZ2.i ?_;intro w4 h3 h4;have L4:=ab h3;clear h3 h4))
  go_wp2;go_ret;have:=L4.i.toN;rw[HT.i]at this;exact this
end
structure Ac where
 kind:Int
 frame:List UInt8
 op:nK
 E:List UInt8
 h:Bool
structure Ou where
 err:Int
 gJ:Int
 xS:Bool
 mQ:Int
 E:List UInt8
 i:List UInt8
deriving DecidableEq
def FU:Ou:=⟨0,0,false,0,[],[]⟩
structure En where
 key:Vector UInt8 16
 c:Cn
 vs:List Vp
def zN(e:En)(s:oM):Tl:=uw e.key e.c.j.e (kU (mq s.h) s.rZ)
def ag7(e:En)(t:Tu):Nat:=xU e.key (Lv t)
def Nj(s:oM)(t:Tu):Option (List UInt8):=match nL s.G t with
 | some f=>if rP s.rZ f.E && !sJ (mq s.h) f.E then some f.E else none
 | none=>none
def Al(e:En)(s:oM)(t:Tu):Option (Bk×Bool):=match Nj s t with
 | some n=>some (pO s.rZ n,true)
 | none=>(Gn (zN e s) (ag7 e t)).map fun n=>(pO s.rZ n,false)
def Cm(e:En)(v:Vp)(b:Bk)(t:Tu)(l:List UInt8):Int×List UInt8:=
 if v.UL then
  if(Gs l (if b.h.h then e.c.h else e.c.Ci) b.h).2=0 then(0,Eu (Gs l (if b.h.h then e.c.h else e.c.Ci) b.h).1 b.Cg e.c.Cg)else(10,[])
 else if b.h.h=t.Y.h then(0,Eu (aaC l b.h b.Y true) b.Cg e.c.Cg)else(9,[])
structure Wy where
 gJ:Int
 i:List UInt8
 h:Bk
 xS:Bool
def nS(e:En)(s:oM)(l:List UInt8):Wy:=
 if(qF l).kind=0 then
  match vZ e.vs (qF l).J.Y (qF l).J.aP (qF l).J.jP with
  | some i=>match Al e s (qF l).J with
    | some (b,xS)=>
      if(Cm e (e.vs.c i nD) b (qF l).J l).1=0 then⟨0,(Cm e (e.vs.c i nD) b (qF l).J l).2,b,xS⟩
      else⟨(Cm e (e.vs.c i nD) b (qF l).J l).1,[],jk,false⟩
    | none=>⟨8,[],jk,false⟩
  | none=>⟨7,[],jk,false⟩
 else⟨(qF l).kind,[],jk,false⟩
def upC(v:Vector Int 11)(r:Int):Vector Int 11:=Vector.ofFn fun i=>if(i:Int)=r then v[i]+1 else v[i]
def Vo(s:oM)(p:Pk):Int:=match nL s.G p.J with
 | some f=>abO f.vN p.uV.e
 | none=>Tt p.J.aP p.uV.e
def Qe(s:oM)(p:Pk)(n:List UInt8):Fw:=⟨p.J,n,Vo s p,s.gL,s.no+1⟩
def lZ(e:En)(s:oM)(l:List UInt8):oM×Ou:=
 if(nS e s l).gJ=0 then
  ({s with Y:=upC s.Y 0,no:=s.no+1,G:=Bu e.c.Y s.G (Qe s (qF l) (nS e s l).h.E)},⟨0,0,(nS e s l).xS,s.mQ,(nS e s l).h.E,(nS e s l).i⟩)
 else({s with Y:=upC s.Y (nS e s l).gJ},{FU with gJ:=(nS e s l).gJ})
def opE(s:oM)(o:nK):oM×Ou:=
 if qp s.mQ s.rZ o=0 then({s with mQ:=doV s.mQ s.rZ o,rZ:=Wm s.mQ s.rZ o,h:=Bn s.h ((Wm s.mQ s.rZ o).map (·.E))},{FU with mQ:=doV s.mQ s.rZ o})
 else(s,{FU with err:=qp s.mQ s.rZ o})
def Qf(e:En)(s:oM)(n:List UInt8)(well:Bool):oM×Ou:=
 if(J6 s.h n well e.c.kg e.c.fall).2.2=0 then({s with h:=(J6 s.h n well e.c.kg e.c.fall).1},FU)
 else(s,{FU with err:=(J6 s.h n well e.c.kg e.c.fall).2.2})
def Qg(e:En)(s:oM):oM×Ou:=
 if 1099511627776<=s.gL then(s,{FU with err:=7})else({s with gL:=s.gL+1,G:=KY (s.gL+1) e.c.kr s.G},FU)
def xG(e:En)(s:oM)(a:Ac):oM×Ou:=
 if a.kind=1 then lZ e s a.frame else if a.kind=2 then opE s a.op else if a.kind=3 then Qf e s a.E a.h else if a.kind=4 then Qg e s else(s,{FU with err:=1})
structure mE(M:Int)(e:En)(s:oM):Prop where
 cn:xZ e.c e.vs=true
 pl:xQ s.mQ s.rZ=true
 fi:∀x∈s.rZ,x.rE
 nm:s.h.map (·.E)=s.rZ.map (·.E)
 hl:∀x∈s.h,0<=x.I/\x.I<(if x.down then e.c.kg else e.c.fall)
 fl:wF e.c.Y s.G
 fw:∀f∈s.G,f.seen<=s.gL/\1<=f.no/\f.no<=s.no
 ti:0<=s.gL/\s.gL<=1099511627776
 no:0<=s.no/\s.no<=M
 ct:∀n∈s.Y.a,0<=n/\n<=M
theorem mE.le{M K:Int}{e:En}{s:oM}(h:mE M e s)(hk:M<=K):mE K e s:=
 ⟨h.cn,h.pl,h.fi,h.nm,h.hl,h.fl,h.fw,h.ti,by have:=h.no;omega,fun n hn=>by have:=h.ct n hn;omega⟩
theorem sP{x:Cn}{l:List Vp}(h:xZ x l=true):(2<=x.j/\x.j<=65537/\lG x.j.e=true)/\(1<=x.Y/\x.Y<=4096)/\(1<=x.kg/\x.kg<=100)/\(1<=x.fall/\x.fall<=100):=by
 unfold xZ at h;simp only[bf,decide_eq_true_eq]at h;obtain⟨⟨⟨⟨⟨⟨⟨⟨⟨⟨_,_⟩,⟨⟨h1,h2⟩,h3⟩⟩,h4⟩,h5⟩,h6⟩,_⟩,_⟩,_⟩,_⟩,_⟩:=h;exact⟨⟨h1,h2,h3⟩,h4,h5,h6⟩
theorem ag8{v:Vector Int 11}{r:Int}{M:Int}(h:∀n∈v.a,0<=n/\n<=M):∀n∈(upC v r).a,0<=n/\n<=M+1:=by
 intro n hn;have hv:∀(i:Nat)(hi:i<11),0<=v[i]/\v[i]<=M:=fun i hi=>h _ (by rw[Vector.mem_toList_iff];exact Vector.getElem_mem hi)
 rw[Vector.mem_toList_iff,Vector.mem_iff_getElem]at hn;obtain⟨i,hi,rfl⟩:=hn;unfold upC;rw[Vector.getElem_ofFn];have:=hv i hi;simp only[Fin.getElem_fin];split<;>omega
theorem aaG{f x:Fw}{l:List Fw}:x∈ins kP f l↔x=f\/x∈l:=by
 rw[(Bh (lt:=kP) f l).mem_iff,bC]
theorem apF{room:Int}{l:List Fw}{f x:Fw}(h:x∈Bu room l f):x=f\/x∈l:=by
 unfold Bu at h;split at h
 ·split at h
  ·rcases aaG.1 h with h|h
   ·exact .a h
   ·exact .b ((MH l f.key).subset h)
  ·split at h
   ·rcases aaG.1 h with h|h
    ·exact .a h
    ·exact .b (vS h)
   ·exact aaG.1 h
 ·exact .b h
theorem aiZ{M:Int}{e:En}{s:oM}(h:mE M e s)(l:List UInt8):mE (M+1) e (lZ e s l).1:=by
 obtain⟨_,⟨r1,_⟩,_⟩:=sP h.cn;have hno:=h.no;unfold lZ;split
 ·refine⟨h.cn,h.pl,h.fi,h.nm,h.hl,h.fl.put r1 _,?_,h.ti,?_,ag8 h.ct⟩
  ·intro f hf
   simp only at hf ⊢;rcases apF hf with rfl|hf
   ·simp only[Qe];omega
   ·have:=h.fw f hf;omega
  ·simp only;omega
 ·exact⟨h.cn,h.pl,h.fi,h.nm,h.hl,h.fl,h.fw,h.ti,by simp only;omega,ag8 h.ct⟩
theorem IY:∀{l:List (List UInt8)},l.Pairwise (fun x y=>bP x y=true)->GJ l=l
 | [],_=>rfl
 | x::l,h=>by
   obtain⟨h1,h2⟩:=List.pairwise_cons.1 h;have ih:=IY h2;unfold GJ at ih ⊢;rw[List.foldr_cons,ih];cases l with
   | nil=>rfl
   | cons y l=>
     have:=h1 y (by simp);simp[Ur,this]
theorem Yf{a b:List UInt8}(h:mo a b<0):bP a b=true:=by
 rw[xP];simpa using h
theorem ai0{l:List Bk}(h:DN l):(l.map (·.E)).Pairwise (fun x y=>bP x y=true):=by
 unfold DN at h;rw[yX];exact h.imp (fun hab=>Yf hab)
theorem afw{l:List Hl}{names:List (List UInt8)}(h:names.Pairwise (fun x y=>bP x y=true)):(Bn l names).map (·.E)=names:=by
 unfold Bn;rw[IY h,GY]
 conv=>rhs;rw[<-List.map_id names]
 apply BJ;intro s _;exact aeR l s
theorem Yg(l:List Hl)(s:List UInt8):Aj l s∈l\/Aj l s=⟨s,false,0⟩:=by
 unfold Aj;split
 ·exact .b rfl
 ·rename_i h
  left;unfold zC at h ⊢;cases hf:l.findIdx? (fun x=>x.E==s)with
  | none=>rw[hf]at h;simp at h
  | some i=>
    obtain⟨hi,_,_⟩:=gV.1 hf;simp only[dQ];rw[au,aC hi];exact dX hi
theorem amg{M:Int}{e:En}{s:oM}(h:mE M e s)(o:nK)(hof:o.h.rE)(how:o.w<18446744073709551616):mE M e (opE s o).1:=by
 obtain⟨_,_,⟨r1,_⟩,f1,_⟩:=sP h.cn;unfold opE;split
 ·rename_i hw
  have hd:=aeN h.pl h.fi hof how hw;have hs:=(uS.1 hd.1).2.2.2.2;refine⟨h.cn,?_,hd.2,?_,?_,h.fl,h.fw,h.ti,h.no,h.ct⟩
  ·simp only[doV,hw,if_true];exact hd.1
  ·simp only
   exact afw (ai0 hs)
  ·intro x hx
   simp only at hx;unfold Bn at hx;obtain⟨n,_,rfl⟩:=gT.1 hx;rcases Yg s.h n with hm|hm
   ·exact h.hl _ hm
   ·rw[hm]
    simp only[jF,if_false];omega
 ·exact h
theorem amh{x:Hl}{well:Bool}{kg fall:Int}(hr:1<=kg/\kg<=100)(hf:1<=fall/\fall<=100)(h:0<=x.I/\x.I<(if x.down then kg else fall)):0<=(uR x well kg fall).1.I/\(uR x well kg fall).1.I<(if(uR x well kg fall).1.down then kg else fall):=by
 have hb:∀n:Int,1<=n/\n<=100->uQ n=n:=fun n hn=>by unfold uQ;rw[if_neg (by omega),if_neg (by omega)]
 unfold uR;cases hd:x.down
 ·rw[hd]at h
  simp only[jF,if_false]at h ⊢;rw[hb _ hf];split
  ·simp only[hd,jF,if_false];omega
  ·split
   ·simp only[Bool.not_false,if_true];omega
   ·simp only[jF,if_false];omega
 ·rw[hd]at h
  simp only[if_true]at h ⊢;rw[hb _ hr];split
  ·simp only[hd,if_true];omega
  ·split
   ·simp only[Bool.not_true,jF,if_false];omega
   ·simp only[if_true];omega
theorem ai1(x:Hl)(well:Bool)(kg fall:Int):(uR x well kg fall).1.E=x.E:=by
 unfold uR
 repeat' split
 all_goals rfl
theorem ac7{M:Int}{e:En}{s:oM}(h:mE M e s)(n:List UInt8)(well:Bool):mE M e (Qf e s n well).1:=by
 obtain⟨_,_,hr,hf⟩:=sP h.cn;unfold Qf;split
 ·rename_i h0
  unfold J6 at h0 ⊢;split
  ·rename_i h1;rw[if_pos h1]at h0;cases h0
  ·rename_i h1
   have hin:(zC s.h n).e<s.h.a:=by
    unfold zC at h1 ⊢;cases hf:s.h.findIdx? (fun x=>x.E==n)with
    | none=>rw[hf]at h1;simp at h1
    | some i=>
      obtain⟨hi,_,_⟩:=gV.1 hf;simpa using hi
   have hm:s.h.c (zC s.h n).e lC∈s.h:=by
    rw[au,aC hin];exact dX hin
   refine⟨h.cn,h.pl,h.fi,?_,?_,h.fl,h.fw,h.ti,h.no,h.ct⟩
   ·simp only
    rw[<-h.nm,List.map_set];apply iJ;intro i;rw[fF];split
    ·rename_i hi
     subst hi;rw[bT,if_pos hin,ai1,jA,aC hin,au,aC hin];rfl
    ·rfl
   ·intro x hx
    simp only at hx;rcases List.mem_or_eq_of_mem_set hx with hx|rfl
    ·exact h.hl x hx
    ·exact amh hr hf (h.hl _ hm)
 ·exact h
theorem ami{M:Int}{e:En}{s:oM}(h:mE M e s):mE M e (Qg e s).1:=by
 unfold Qg;split
 ·exact h
 ·have ht:=h.ti
  refine⟨h.cn,h.pl,h.fi,h.nm,h.hl,h.fl.axe _ _,?_,by simp only;omega,h.no,h.ct⟩;intro f hf;have:=h.fw f (kF.1 hf).1;simp only;omega
theorem sQ{M:Int}{e:En}{s:oM}(h:mE M e s)(a:Ac)(hof:a.op.h.rE)(how:a.op.w<18446744073709551616):mE (M+1) e (xG e s a).1:=by
 unfold xG;split
 ·exact aiZ h _
 ·split
  ·exact(amg h a.op hof how).le (by omega)
  ·split
   ·exact(ac7 h _ _).le (by omega)
   ·split
    ·exact(ami h).le (by omega)
    ·exact h.le (by omega)
theorem oH{place:Nat->Option (Nat×Nat)}(i off:Nat)(v:aB)(ps:List (Nat×aB))(p r:Array aB)(h:place i=some (off,1))(hv:v.D = #[v])(ho:off<p.j):fu place (p++r) ((i,v)::ps)=fu place (p.b off v++r) ps:=by
 rw[DV place _ i off 1 v ps h (by rw[hv];rfl) (by rw[nW];omega),hv];congr 1;apply dU;intro j;rw[DU];simp only[nW,aD,Array.size_setIfInBounds,dO];by_cases hj:j=off
 ·subst hj
  simp[ho];omega
 ·by_cases h1:off<=j/\j<off+1
  ·omega
  ·have:¬off=j:=fun e=>hj e.symm
   simp[this];intro a b;omega
@[go_sem]theorem ax3(W:ak)(head dz Ei aP:Int)(src dst:fq):(uL 189 #[(0,.b .a head),(1,.b .a dz),(2,.b .a Ei),(5,.b .a aP),(6,.d src.ay),(7,.d dst.ay)]).I ah W=.ok (.d (Sx.mk head dz Ei false 0 aP src dst).ay) W:=
 kSx.bd W _ _ _ _ oV (ato W _ oV) (by
  show fu _ (#[aI .a 0,.b .a 0,.b .a 0,.e false,.b .a 0,.b .a 0]++(mY.ay++mY.ay)) [(0,.b .a head),(1,.b .a dz),(2,.b .a Ei),(5,.b .a aP),(6,.d src.ay),(7,.d dst.ay)]=_;rw[oH 0 0 _ _ _ _ rfl rfl (by simp),oH 1 1 _ _ _ _ rfl rfl (by simp),oH 2 2 _ _ _ _ rfl rfl (by simp),oH 5 5 _ _ _ _ rfl rfl (by simp)];rw[Rv]
  ·simp[qO,bW,Sx.ay]
  ·simp[rF,bW,fq.G])
@[go_sem]theorem ax4(W:ak)(head dz KZ aP:Int)(keep:Bool)(src dst:fq):(uL 192 #[(0,.b .a head),(1,.b .a dz),(5,.e keep),(6,.b .a KZ),(7,.b .a aP),(8,.d src.ay),(9,.d dst.ay)]).I ah W=.ok (.d (Fo.mk head dz 0 0 false keep KZ aP src dst).ay) W:=
 kFo.bd W _ _ _ _ oU (atl W _ oU) (by
  show fu _ (#[aI .a 0,.b .a 0,.b .a 0,.b .a 0,.e false,.e false,.b .a 0,.b .a 0]++(mY.ay++mY.ay)) [(0,.b .a head),(1,.b .a dz),(5,.e keep),(6,.b .a KZ),(7,.b .a aP),(8,.d src.ay),(9,.d dst.ay)]=_;rw[oH 0 0 _ _ _ _ rfl rfl (by simp),oH 1 1 _ _ _ _ rfl rfl (by simp),oH 5 5 _ _ _ _ rfl rfl (by simp),oH 6 6 _ _ _ _ rfl rfl (by simp),oH 7 7 _ _ _ _ rfl rfl (by simp)];rw[Rv]
  ·simp[qO,bW,Fo.ay]
  ·simp[rF,bW,fq.G])
section
attribute [local go_sem high] iU jE
theorem oN.lU{T:bK}{n:Nat}{z:Array aB}(K:oN T n z){W:ak}{b:Nat}{c:Array aB}(h:dL W b c)(hc:c.j=n):(yH T (.c (some ⟨b,0,none⟩))).I ah W=.ok (.d c) W:=by
 have hs:eD c=n:=hc;rw[K.ld W b 0 (of_eq_true (h.K.2.2.1 0 n (by omega))),h.K.2.2.2 0 n (by omega)];simp[<-hc]
theorem dL.ag9{W:ak}{b:Nat}{a:fq}(h:dL W b a.ay):(rD (.c (some ⟨b,0,none⟩))).I ah W=.ok (.d a.ay) W:=by
 have hs:eD a.ay=17:=fq.G a;rw[LJ W b 0 (of_eq_true (h.K.2.2.1 0 17 (by omega))),h.K.2.2.2 0 17 (by omega)];simp[<-fq.G a]
theorem ai2{d s:Vector UInt8 6}{fG:List Tg}{ty:Int}(h:fG.a<=2):(qw d s fG ty).a<=1000:=by
 have h2:=Et fG;unfold qw;simp only[aR,h2,nI];simp[qc];omega
theorem ac8(x:Sx):(wL x).a=40:=by simp[wL]
theorem Bx.ow{L:List (Nat×Array aB)}{w W W':ak}{B:Nat}{g:Option Nat}{v:aB}{bs:List UInt8}(h:Bx L w W)(k:Ow B g W v bs W')(hB:∀p∈L,p.1<B)(hw:w.a.j<=B):Bx L w W':=
 ⟨h.1.trans (k.S.g hw),fun p hp=>⟨(h.2 p hp).1,by obtain⟨t,ht⟩:=(h.2 p hp).2;exact⟨t,(k.S.block p.1 (hB p hp)).trans ht⟩⟩⟩
theorem Vq(x:Fo):(tN x).a=20:=by simp[tN,acZ,Dg]
theorem GN(W:ak):fP W W.a.j none 0 []:=Da (Ly.nil (w:=W)).o (aG _ _)
end
section
attribute [local go_sem high] iU jE
theorem amj(f:Nat):∀(x:Sx)(r:List UInt8),(yJ f x r).1.dz=x.dz\/(yJ f x r).1=qE:=by
 induction f with
 | zero=>intro x r;unfold yJ;split;exact .a rfl;exact .b rfl
 | succ f ih=>
   intro x r;unfold yJ;split
   ·exact .a rfl
   ·split
    ·exact .b rfl
    ·exact ih _ _
theorem ac9(k:Int)(l:List UInt8):0<=(zU k l).dz/\(zU k l).dz<=l.a:=by
 unfold zU;split
 ·unfold zS
  split
  ·rename_i h1 h2
   have:=al1 (l:=l) (by unfold zS;rw[if_pos h2]);unfold zS at this;rw[if_pos h2]at this;simp only at this ⊢;omega
  ·simp[wY]
 ·split
  ·unfold Av
   split
   ·simp[qE]
   ·split
    ·simp[qE]
    ·split
     ·simp[qE]
     ·rcases amj 8 (sx0 l) ((l.d (40+eU l 4)).f 40)with h|h
      ·rw[h];show 0<=(40:Int)+eU l 4/\(40:Int)+eU l 4<=l.a;omega
      ·simp[h,qE]
  ·simp[sU]
def QY(l:List UInt8):Tn:=if(mh l).2≠0 then sU else zU (mh l).1.oq (l.f (mh l).1.fD)
def IZ(l:List UInt8):List UInt8:=if(mh l).2≠0 then []else(l.f (mh l).1.fD).d (QY l).dz.e
def ax5(W:ak)(l:List UInt8)(e:kZ)(W':ak):Prop:=∃A c PA pn pc,e=.a (.J #[.d ((mh l).1.cell A c).ay,.d (QY l).ay,.a PA pn pc])/\iR Tg.ay 2 W' W'.a.j A (mh l).1.fG.a (mh l).1.fG/\fP W' W'.a.j PA pn (IZ l)/\pn<=pc/\(pc<=9223372036854775807/\pn<=1000000)/\aM W.a.j W W'
theorem atZ{l:List UInt8}(h:(mh l).2≠0):(mh l).1=Em:=by
 have go:∀(m k:Nat)(fG:List Tg),(Ck l m k fG).2≠0->(Ck l m k fG).1=Em:=by
  intro m
  induction m with
  | zero=>intro k fG h;unfold Ck at h⊢;split at h<;>first|(exact absurd rfl h)|(rename_i h1;simp_all)|rfl
  | succ m ih=>
    intro k fG;cases ht:tY (eU l (k-2):Nat)with
    | false=>rw[zI ht];intro h;exact absurd rfl h
    | true=>
      by_cases h4:l.a<k+4
      ·rw[By ht h4];intro _;rfl
      ·rw[Eo ht h4];exact ih _ _
 unfold mh at h ⊢;split
 ·rfl
 ·rename_i h1;rw[if_neg h1]at h;exact go _ _ _ h
section
variable {fn:Func} {p q u:Tmp} {T U:bK} {b1 b2 n m:Nat} {z y c d:Array aB} {W:ak}
theorem ag'(K:oN T n z)(K2:oN U m y)(h:fn.results = #[.cell p T,.cell q U,.a u])(tmps:Array aB)(hp:tmps.c p undef=.c (some ⟨b1,0,none⟩))(hq:tmps.c q undef=.c (some ⟨b2,0,none⟩))(hb:dL W b1 c)(hc:c.j=n)(hd:dL W b2 d)(hdc:d.j=m):(results fn tmps).I ah W=.ok (.J #[.d c,.d d,tmps.c u undef]) W:=by
 have l1:=K.lU hb hc;have l2:=K2.lU hd hdc;unfold yH at l1 l2;simp only[cu,Instr.sureAddr,jI,oh,Result.andThen_ok]at l1 l2;rw[Array.getD_eq_getD_getElem?]at hp hq;simp[results,h,hp,hq,asAddr,iE,l1,l2]
end
theorem iR.ax6{α:Type}{f:α->Array aB}{s:Nat}{w w':ak}{B B':Nat}{A:Option aT}(h:iR f s w B A 0 []):iR f s w' B' A 0 []:=
 ⟨rfl,⟨by simp,fun h=>absurd h (by omega)⟩,fun a _ h=>absurd h (by omega)⟩
theorem Vr{l:List UInt8}:∀(m k:Nat)(fG:List Tg),(∀t∈fG,tY t.oq=true)->(∀t∈(Ck l m k fG).1.fG,tY t.oq=true)
 | 0,k,fG,h=>by
   cases ht:tY (eU l (k-2):Nat)with
   | false=>rw[zI ht];exact h
   | true=>rw[JK ht];exact fun t ht=>by simp[Em]at ht
 | m+1,k,fG,h=>by
   cases ht:tY (eU l (k-2):Nat)with
   | false=>rw[zI ht];exact h
   | true=>
     by_cases h4:l.a<k+4
     ·rw[By ht h4];exact fun t ht=>by simp[Em]at ht
     ·rw[Eo ht h4]
      refine Vr m (k+4) _ (fun t h2=>?_);rcases ql.1 h2 with h2|h2
      ·exact h t h2
      ·rw[fM.1 h2];exact ht
theorem OV(l:List UInt8):∀t∈(mh l).1.fG,tY t.oq=true:=by
 unfold mh;split
 ·exact fun t ht=>by simp[Em]at ht
 ·exact Vr 2 14 [] (fun t ht=>by cases ht)
def amk(c:Array aB):Bool:=c.all fun v=>match v with | .b .a z=>decide (z=0)|_=>true
theorem ai3{c:Array aB}(h:amk c=true){j:Nat}{t:Int}(ht:t≠0):c[j]?≠some (.b .a t):=fun e=>by
 have:=Array.all_eq_true_iff_forall_mem.1 h _ (Array.mem_of_getElem? e);simp at this;exact ht this
theorem iR.apart{w:ak}{B b n:Nat}{A:Option aT}{l:List Tg}{c:Array aB}(h:iR Tg.ay 2 w B A n l)(hi:∀t∈l,tY t.oq=true)(hb:dL w b c)(hc:amk c=true)(hn:0<n):∀a,A=some a->b≠a.block:=by
 intro a ha e;obtain⟨b',o,hA,_,hcell⟩:=h.cell Tg.G QW hn;rw[hA]at ha;injection ha with ha
 subst ha;simp only at e;subst e;have h1:=hcell 0 (by omega);rw[hb.K.1,Tg.Dz]at h1;have ht:=hi _ (AX QW l 0 (by rw[h.1];exact hn));refine ai3 hc ?_ h1;intro e0;rw[e0]at ht;cases ht
theorem iR.arE{α:Type}{f:α->Array aB}{s:Nat}{B b n:Nat}{A:Option aT}{l:List α}(hp:∀a,A=some a->b≠a.block)(x:Array aB):∀(o:Nat) {w:ak},iR f s w B A n l->iR f s (gN w b o x) B A n l:=by
 have:∀(vs:List aB)(o:Nat)(w:ak),iR f s w B A n l->iR f s (w.setCells b o vs) B A n l:=by
  intro vs
  induction vs with
  | nil=>exact fun _ _ h=>h
  | cons v vs ih=>intro o w h;exact ih (o+1) _ (h.aBl v (fun a ha=>hp a ha))
 exact fun o w h=>this _ _ _ h
theorem ai4(w:ak)(A:Option aT)(n c:Nat)(l:List UInt8)(hnc:n<=c)(hc:c<=9223372036854775807/\n<=1000000)(hr:fP w w.a.j A n l):aQ ah 99 #[.a A n c] w (ax5 w l):=by
 have HR:=ab hr;have hl:=ab hr.len;have h0:=((Bx.start w).new qK.ay 108).new sU.ay 179;simp only[tq]at h0;have Z0:=ab h0;have CL:=ab (M8 _ A n c l hnc (by omega) (h0.MX hr));clear h0 hr;go_enter Tryz.func99,Tryz.ntmps99;obtain⟨r,hrr⟩:=dw (mh l);have HRR:=ab hrr;obtain⟨k,er⟩:=r;unfold LkP at CL;rw[<-hrr]at CL;clear hrr;go_upto_region 1 with fail
 generalize(w.alloc (.D qK.ay 108)).alloc (.D sU.ay 179)=w0 at Z0 CL ⊢;go_upto_region 2 with(go_at_call 91;(with_reducible refine CL.i.g ?_);rintro e w1 ⟨TA,tc,rfl,hT,hb1⟩;have Z1:=ab ((Z0.i.go hb1).new (k.cell TA tc).ay 108);have HW:=ab (Z0.i.go hb1).X.lt;have RT:=ab (hT.alloc (av _) (.D (k.cell TA tc).ay 108));clear hb1 hT)
 have HW2:=ab (show w1.a.j<=(w1.alloc (.D (k.cell TA tc).ay 108)).a.j by simp);generalize w1.alloc (.D (k.cell TA tc).ay 108)=w2 at Z1 RT HW2 ⊢;generalize w1.a.j=y5 at Z1 RT HW HW2 ⊢;have YL:=HW2;have Lx:=ab (show∀r∈[(w.a.j+1,sU.ay),(w.a.j,qK.ay)],r.1≠y5 from fun r hr=>by
  have:=HW.i;simp only[bC,fJ,or_false]at hr;rcases hr with rfl|rfl<;>simp only[]<;>omega)
 by_cases h1:er≠0
 ·have q:(er != 0)=true:=by simp[h1]
  have HTN:=ab (show QY l=sU by unfold QY;rw[<-HRR.i,if_pos h1]);have HPK:=ab (show IZ l=[]by unfold IZ;rw[<-HRR.i,if_pos h1]);have l5:=kLc.lU Z1.i.X (Lc.G _);have Z2:=ab (Z1.i.sub (L':=[(w.a.j,qK.ay),(y5,(k.cell TA tc).ay),(w.a.j+1,sU.ay)]) (by simp));have Z3:=ab (Z2.i.put (fun r hr=>by
   have:=HW.i;simp only[bC,fJ,or_false]at hr;rcases hr with rfl|rfl<;>simp only[]<;>omega) (k.cell TA tc).ay (by rw[Lc.G,Lc.G]))
  have at1:=Z2.i.X.O 0 15 (aX (Lc.G qK).symm);have at5:=Z3.i.b2.O 0 5 (aX (Tn.G sU).symm);have Z4:=ab ((Z3.i.sub (L':=[(w.a.j+1,sU.ay),(w.a.j,(k.cell TA tc).ay)]) (by simp)).put (fun r hr=>by
   simp only[bC,fJ,or_false]at hr;rcases hr with rfl<;>simp only[]<;>omega) sU.ay rfl)
  go_wp2;refine aN (ag' kLc kTn rfl _ rfl rfl Z4.i.b1 (Lc.G _) Z4.i.X (Tn.G _)) rfl ?_;have RT2:=RT.i;refine⟨TA,tc,none,0,0,by rw[HTN.i,<-HRR.i];rfl,?_,by rw[HPK.i];exact GN _,av _,by omega,Z4.i.R⟩;have hk0:k=Em:=by have:=atZ (l:=l) (by rw[<-HRR.i];exact h1);rw[<-HRR.i]at this;exact this
  rw[<-HRR.i];subst hk0;exact iR.ax6 RT2
 obtain rfl:er=0:=by simpa using h1
 have q00:((0:Int) != 0)=false:=rfl;obtain⟨xJ,acX⟩:=afn (l:=l) (by rw[<-HRR.i]);rw[<-HRR.i]at xJ acX;rw[hl.i]at acX;simp only at xJ acX;have i1:(k.fD:Int)<=n:=by omega
 have F8:=ab (fun(w':ak) (h:Bx [(y5,(k.cell TA tc).ay),(w.a.j+1,sU.ay),(w.a.j,qK.ay)] w w')=>show w'.b ⟨y5,13,none⟩=some (.b .a k.oq)/\w'.b ⟨y5,14,none⟩=some (.b .a (k.fD:Nat))from⟨(h.X.K.1 13).trans (Lc.Dz _),(h.X.K.1 14).trans (Lc.K6 _)⟩);have CN:=ab (fun(w':ak) (h:Bx [(y5,(k.cell TA tc).ay),(w.a.j+1,sU.ay),(w.a.j,qK.ay)] w w')=>aft w' k.oq (vH A k.fD c 1) (n-k.fD) (c-k.fD) (l.f k.fD) (by omega) (by omega) ((h.MX HR.i).yG (by omega) hnc));have HTN:=ab (show QY l=zU k.oq (l.f k.fD)by unfold QY;rw[<-HRR.i,if_neg (by simp)]);have HPK:=ab (show IZ l=(l.f k.fD).d (QY l).dz.e by unfold IZ;rw[<-HRR.i,if_neg (by simp)]);have HTO:=ab (ac9 k.oq (l.f k.fD));obtain⟨g,hg⟩:=dw (zU k.oq (l.f k.fD));have HG:=ab hg;rw[<-hg]at CN HTN HTO;clear hg;rw[HTN.i]at HPK;go_upto_region 4 with fail
 refine OO (U0 (Bx.aaw ([(y5,(k.cell TA tc).ay),(w.a.j+1,sU.ay),(w.a.j,qK.ay)]) w) w2) 7 8 7 179 sU.ay (by kernel_rfl) rfl (by kernel_rfl) (by decide) (by decide) (by kernel_rfl) (by kernel_rfl) (by kernel_rfl) rfl rfl rfl (fun a w=>by simp[go_sem]) ⟨Z1.i.drew,(aG w2.a.j w2).drew⟩ ?_;apply Exists.intro;refine⟨fun T f hT es ew=>?_,?_⟩
 ·have EW:=ab ew
  have ES:=ab es;have k1:=fun m=>(F8.i _ (ES.i m).1).1
  have k2:=fun m=>(F8.i _ (ES.i m).1).2
  have CF:=ab (fun m=>CN.i _ (ES.i m).1);clear es ew;simp only[kV,bG,bM,jM,jY]
  repeat(go_big_quiet_step ((first|(go_at_call 101;(with_reducible refine(CF.i _).g ?_);rintro e w2 ⟨rfl,hb⟩;exact⟨rfl,EW.i _ _ hb⟩))))
  exact gW rfl
 ·intro w9 w8 zL _ hb
  have BN:=(zL.2.alloc zL.2.j (.D sU.ay 179)).trans (hb.g (by simp;exact qo zL.2.j));have aC0:=zL.2.j
  replace zL:=zL.1
  have ZN:=(zL.new sU.ay 179).go hb;have hy:=zL.R.j;have HYW:=BN.j;have BN:=ab BN;have ZN:=ab ZN;have yI:=ZN.i.X.O 0 5 (aX (Tn.G sU).symm);have hyy:y5<w9.a.j:=zL.X.lt;generalize w9.a.j=y7 at *;have Z8:=ab (ZN.i.put (fun r hr=>by
   have:=HW.i;simp only[bC,fJ,or_false]at hr;rcases hr with rfl|rfl|rfl<;>simp only[]<;>omega) g.ay (by rw[Tn.G,Tn.G]))
  have B8:=ab (kX BN.i y7 0 g.ay aC0);go_upto_region 5 with fail
  clear yI ZN;generalize gN w8 y7 0 g.ay=w10 at Z8 B8 ⊢;obtain⟨T0,hT0⟩:∃T:Nat,g.dz=T:=⟨g.dz.e,by have:=HTO.i;omega⟩
  have hT1:T0+k.fD<=n:=by have:=HTO.i.2;rw[jw,hl.i]at this;omega
  have HTT:=ab hT0;obtain⟨m0,hm0⟩:∃m:Nat,m=k.fD+T0:=⟨_,rfl⟩
  have q1:=jT ((k.fD:Int)+T0) (by omega);have q2:(k.fD:Int)+T0=m0:=by omega
  rw[q2]at q1;have q3:(k.fD:Int)<=m0:=by omega
  have q4:(m0:Int)<=c:=by omega
  have HM:=ab hm0;have HMN:=ab (show m0<=n by omega);have F9:=ab (fun(w':ak) (h:Bx [(y7,g.ay),(y5,(k.cell TA tc).ay)] w w')=>show(yH 108 (.c (some ⟨y5,0,none⟩))).I ah w'=.ok (.d (k.cell TA tc).ay) w'/\(yH 179 (.c (some ⟨y7,0,none⟩))).I ah w'=.ok (.d g.ay) w'/\w'.b ⟨y5,14,none⟩=some (.b .a (k.fD:Nat))/\w'.b ⟨y7,1,none⟩=some (.b .a (T0:Nat))from⟨kLc.lU h.b1 (Lc.G _),kTn.lU h.X (Tn.G _),(h.b1.K.1 14).trans (Lc.K6 _),(h.X.K.1 1).trans ((Tn.yc g).trans (by rw[HTT.i]))⟩);clear hT0 hm0 hT1;have ZA:=ab Z8.i.drew;have WB:=ab B8.i.drew;have Z2:=ab (ZA.i.sub (L':=[(w.a.j,qK.ay),(w.a.j+1,sU.ay),(y7,g.ay),(y5,(k.cell TA tc).ay)]) (by simp));have aIY:w.a.j+1<y5:=HW.i;have Z3:=ab (Z2.i.put (fun r hr=>by
   simp only[bC,fJ,or_false]at hr;rcases hr with rfl|rfl|rfl<;>simp only[]<;>omega) (k.cell TA tc).ay (by rw[Lc.G,Lc.G]))
  have at1:=Z2.i.X.O 0 15 (aX (Lc.G qK).symm);have at5:=Z3.i.b1.O 0 5 (aX (Tn.G sU).symm);have Z4:=ab ((Z3.i.sub (L':=[(w.a.j+1,sU.ay),(w.a.j,(k.cell TA tc).ay),(y7,g.ay),(y5,(k.cell TA tc).ay)]) (by simp)).put (fun r hr=>by
   simp only[bC,fJ,or_false]at hr;rcases hr with rfl|rfl|rfl<;>simp only[]<;>omega) g.ay (by rw[Tn.G,Tn.G]))
  obtain⟨k1,k2,k3,k4⟩:=F9.i _ (ZA.i.sub (by simp));obtain⟨k5,k6,k7,k8⟩:=F9.i _ (Z3.i.sub (by simp));obtain⟨k9,k10,k11,k12⟩:=F9.i _ (Z4.i.sub (by simp));go_region;go_wp2;refine aN (ag' kLc kTn rfl _ rfl rfl Z4.i.b1 (Lc.G _) Z4.i.X (Tn.G _)) rfl ?_;have hHN:=HMN.i;have RF:=ab (show fP (gN (gN w10.drew w.a.j 0 (k.cell TA tc).ay) (w.a.j+1) 0 g.ay) (gN (gN w10.drew w.a.j 0 (k.cell TA tc).ay) (w.a.j+1) 0 g.ay).a.j (vH A k.fD c 1) (m0-k.fD) (IZ l)by
   have:=(Z4.i.MX HR.i).acO (z:=k.fD) (b:=m0) (c:=c) (by omega) hHN hnc;have e2:(l.d m0).f k.fD=IZ l:=by rw[HPK.i,HTT.i,dQ,List.drop_take,HM.i,Nat.add_sub_cancel_left]
   rwa [e2]at this)
  have TF:=ab (show iR Tg.ay 2 (gN (gN w10.drew w.a.j 0 (k.cell TA tc).ay) (w.a.j+1) 0 g.ay) (gN (gN w10.drew w.a.j 0 (k.cell TA tc).ay) (w.a.j+1) 0 g.ay).a.j TA k.fG.a k.fG by
   have h1:iR Tg.ay 2 w10.drew y5 TA k.fG.a k.fG:=RT.i.S (WB.i.g YL.i);have hI:=OV l;rw[<-HRR.i]at hI;by_cases h0:k.fG.a=0
   ·have e0:k.fG=[]:=bE h0
    rw[e0]at h1 ⊢;exact iR.ax6 h1
   ·have p1:=h1.apart hI ZA.i.b3 (by kernel_rfl) (by omega)
    have p2:=h1.apart hI ZA.i.b2 (by kernel_rfl) (by omega);exact(iR.arE p2 _ 0 (iR.arE p1 _ 0 h1)).lu (aO (mH hyy) (mH (Z4.i.b2).lt)))
  refine⟨TA,tc,vH A k.fD c 1,m0-k.fD,c-k.fD,by rw[HTN.i,<-HRR.i];rfl,?_,RF.i,by omega,by omega,Z4.i.R⟩;rw[<-HRR.i];exact TF.i
end
section
attribute [local go_sem high] iU jE
theorem ax8(a c:Nat)(ha:a<256)(hc:c<256):bits .or .a ((a:Int)*256) (c:Int)=((a*256+c:Nat):Int):=by
 have h1:fT 64 ((a:Int)*256)=Gw 64 (a*256):=by rw[show((a:Int)*256)=((a*256:Nat):Int)by omega];exact lQ _ _
 have h2:fT 64 (c:Int)=Gw 64 c:=lQ _ _;show bR.wrap ((fT 64 ((a:Int)*256) ||| fT 64 (c:Int)).e:Int)=_;rw[h1,h2,BitVec.toNat_or,nC,nC,fK (by omega),fK (by omega),show a*256=a <<< 8 by rw[mF],<-Nat.shiftLeft_add_eq_or_of_lt (by omega)];rw[mF];simp[vK,nQ,lN];omega
theorem apH:lS 5 = #[0,1,2,3,4]:=by apply oP;rw[j3];rfl
@[go_sem]theorem arF(w:ak)(a b c d e:Int):(KX 5 #[(0,.b .a a),(1,.b .a b),(2,.b .a c),(3,.b .a d),(4,.b .a e)]).I ah w=.ok (.a (some ⟨w.a.j,0,none⟩) 5 5) (w.alloc (.D (sN [a,b,c,d,e]) 3)):=by
 obtain⟨i0,hi0,hz0,hz1⟩:=Rt;simp[KX,bI,dJ og,zeroValue,sizeOf,typeInfo,hi0,hz0,hz1,fu,newRow,sN,bW,apH]
def aha(x:Fo):List Nat:=[x.dz.e,x.id.e,if x.keep then 16384 else 0,x.KZ.e*256+x.aP.e,0]
def Gt(l:List Nat):List Int:=l.map (fun n:Nat=>(n:Int))
theorem ai6(l:List Nat)(j:Nat)(hj:j<l.a):(sN (Gt l))[j]? = some (.b .a ((l.c j 0:Nat):Int)):=by
 have:=XO (Gt l) j (by simpa[Gt]using hj);rw[bl]at this;rw[this];simp[Gt,au,hj]
theorem fP.upN{w:ak}{B n k:Nat}{A:Option aT}{l:List UInt8}(h:fP w B A n l)(hk:k<=n):fP w B A k (l.d k):=by
 have:=Rd.upto h hk
 rwa [gB,<-Ae]at this
theorem aaH{l:List UInt8}{k:Nat}{a b:UInt8}(h:k+2<=l.a):r9 l k [a,b]=(l.set k a).set (k+1) b:=by
 apply iJ;intro i;unfold r9;simp only[dB,kQ,bJ,jf,je,fF,aV,bB,gG];by_cases h1:i<k
 ·simp[h1,show¬k+1=i by omega,show¬k=i by omega,show i<min k l.a by omega]
 ·by_cases h2:i=k
  ·subst h2
   simp[show i<l.a by omega,show min i l.a=i by omega]
  ·by_cases h3:i=k+1
   ·subst h3
    simp[show k+1<l.a by omega,show min k l.a=k by omega,show¬k+1<k by omega]
   ·have e1:min k l.a=k:=by omega
    have e2:k+2+(i-k-2)=i:=by omega
    simp[show¬k+1=i by omega,show¬k=i by omega,e1,h1,show¬i-k<2 by omega,e2]
theorem aml(x:Fo)(h1:x.KZ.e<256)(h2:x.aP.e<256):Dg x=[69,aJ x.NK.e]++(aha x).h (fun n:Nat=>qc (n:Int))++x.h.b.a.d 4++x.Y.b.a.d 4:=by
 unfold Dg aha;have e1:(x.KZ.e*256+x.aP.e)/256=x.KZ.e:=by omega
 have e2:(x.KZ.e*256+x.aP.e)%256=x.aP.e:=by omega
 cases x.keep<;>simp[qc,e1,e2]
theorem Qh(x:Fo)(hh:x.head=20)(s0:0<=x.NK)(s1:x.NK<=255)(t0:20<=x.dz)(t1:x.dz<=65535)(i0:0<=x.id)(i1:x.id<=65535)(l0:0<=x.KZ)(l1:x.KZ<=255)(p0:0<=x.aP)(p1:x.aP<=255)(hf:x.oG=false)(hs:(!x.h.h&&x.h.mK)=true)(hd:(!x.Y.h&&x.Y.mK)=true)(w:ak):aQ ah 271 #[.d x.ay] w (ac1 w (tN x)):=by
 have Z:=ab ((Bx.start w).new x.ay 192);have FA:=ab (fun(w':ak) (h:dL w' w.a.j x.ay)=>show w'.b ⟨w.a.j,0,none⟩=some (.b .a 20)/\w'.b ⟨w.a.j,1,none⟩=some (.b .a x.dz)/\w'.b ⟨w.a.j,2,none⟩=some (.b .a x.NK)/\w'.b ⟨w.a.j,3,none⟩=some (.b .a x.id)/\w'.b ⟨w.a.j,4,none⟩=some (.e false)/\w'.b ⟨w.a.j,5,none⟩=some (.e x.keep)/\w'.b ⟨w.a.j,6,none⟩=some (.b .a x.KZ)/\w'.b ⟨w.a.j,7,none⟩=some (.b .a x.aP)/\(rD (.c (some ⟨w.a.j,8,none⟩))).I ah w'=.ok (.d x.h.ay) w'/\(rD (.c (some ⟨w.a.j,25,none⟩))).I ah w'=.ok (.d x.Y.ay) w' by
  have f:=h.K.1;have hz:x.ay.j=42:=Fo.G x;refine⟨(f 0).trans ((Fo.JJ x).trans (by rw[hh])),(f 1).trans (Fo.yc x),(f 2).trans (Fo.ath x),(f 3).trans (Fo.axk x),(f 4).trans ((Fo.RL x).trans (by rw[hf])),(f 5).trans (Fo.aal x),(f 6).trans (Fo.ati x),(f 7).trans (Fo.Bv x),?_,?_⟩
  ·rw[LJ w' w.a.j 8 (of_eq_true (h.K.2.2.1 8 17 (by unfold eD;omega))),h.K.2.2.2 8 17 (by unfold eD;omega),Fo.IE]
  ·rw[LJ w' w.a.j 25 (of_eq_true (h.K.2.2.1 25 17 (by unfold eD;omega))),h.K.2.2.2 25 17 (by unfold eD;omega),Fo.IG])
 have CI:=ab (fun k m W (h:0<=k/\k<=m)=>show aQ ah 316 #[.b .a k,.b .a m] W (fun e W'=>e=.a (.e true)/\aM W.a.j W W')by
  have:=afj k m W;rwa [decide_eq_true h.1,decide_eq_true h.2]at this)
 have C1:=ab (fun W=>CI.i x.dz 65535 W ⟨by omega,t1⟩);have C2:=ab (fun W=>CI.i x.NK 255 W ⟨s0,s1⟩);have C3:=ab (fun W=>CI.i x.KZ 255 W ⟨l0,l1⟩);have C4:=ab (fun W=>CI.i x.aP 255 W ⟨p0,p1⟩);have C5:=ab (fun W=>CI.i x.id 65535 W ⟨i0,i1⟩);have C6:=ab (fun W=>by have:=UO x.h W;rwa [hs]at this:∀W,aQ ah 317 #[.d x.h.ay] W fun e W'=>e=.a (.e true)/\aM W.a.j W W');have C7:=ab (fun W=>by have:=UO x.Y W;rwa [hd]at this:∀W,aQ ah 317 #[.d x.Y.ay] W fun e W'=>e=.a (.e true)/\aM W.a.j W W');have q1:decide (x.dz<20)=false:=by simp;omega
 have HF:=ab (aml x (by omega) (by omega));clear hh hf hs hd;go_enter Tryz.func271,Tryz.ntmps271;go_upto_region 1 with fail
 generalize w.alloc (.D x.ay 192)=w1 at *;obtain⟨f0,f1,f2,f3,f4,f5,f6,f7,f8,f9⟩:=FA.i _ Z.i.X;go_upto_region 3 with(first|(go_at_call 316;(first|(with_reducible refine(C1.i _).g ?_)|(with_reducible refine(C2.i _).g ?_)|(with_reducible refine(C3.i _).g ?_)|(with_reducible refine(C4.i _).g ?_)|(with_reducible refine(C5.i _).g ?_));rintro e w5 ⟨rfl,hb⟩;have ZN:=ab (Z.i.go hb);clear f0 f1 f2 f3 f4 f5 f6 f7 f8 f9;obtain⟨f0,f1,f2,f3,f4,f5,f6,f7,f8,f9⟩:=FA.i _ ZN.i.X;clear hb Z;have Z:=ZN;clear ZN)|(go_at_call 317;(first|(with_reducible refine(C6.i _).g ?_)|(with_reducible refine(C7.i _).g ?_));rintro e w5 ⟨rfl,hb⟩;have ZN:=ab (Z.i.go hb);clear f0 f1 f2 f3 f4 f5 f6 f7 f8 f9;obtain⟨f0,f1,f2,f3,f4,f5,f6,f7,f8,f9⟩:=FA.i _ ZN.i.X;clear hb Z;have Z:=ZN;clear ZN))
 clear f0 f1 f2 f3 f4 f5 f6 f7 f8 f9 C1 C2 C3 C4 C5 C6 C7 CI q1;obtain⟨tt,htt⟩:∃n:Nat,x.dz=(n:Int):=⟨x.dz.e,by omega⟩
 obtain⟨ti,hti⟩:∃n:Nat,x.id=(n:Int):=⟨x.id.e,by omega⟩
 obtain⟨tl,htl⟩:∃n:Nat,x.KZ=(n:Int):=⟨x.KZ.e,by omega⟩
 obtain⟨tp,htp⟩:∃n:Nat,x.aP=(n:Int):=⟨x.aP.e,by omega⟩
 obtain⟨kb,hkb⟩:∃n:Nat,n=if x.keep then 16384 else 0:=⟨_,rfl⟩
 have hkb2:kb<=16384:=by rw[hkb];split<;>omega
 have HNS:=ab (show aha x=[tt,ti,kb,tl*256+tp,0]by unfold aha;rw[htt,hti,htl,htp,<-hkb];rfl);rw[HNS.i]at HF;have f:=FA.i _ Z.i.X;rw[htt,hti,htl,htp]at f;obtain⟨f0,f1,f2,f3,f4,f5,f6,f7,f8,f9⟩:=f;have q2:=ax8 tl tp (by omega) (by omega);have q3:aW.wrap x.NK=x.NK:=by rw[Gz];omega
 have HX1:=ab htt;have HX2:=ab hti;have HX3:=ab htl;have HX4:=ab htp;have B1:tt<=65535:=by omega
 have B2:ti<=65535:=by omega
 have B3:tl*256+tp<=65535:=by omega
 have B4:tl<=255:=by omega
 have B5:tp<=255:=by omega
 have HFA:=FA;have HKB:=ab hkb;clear htt hti htl htp i0 i1 l0 l1 p0 p1 t0 t1 HNS FA;cases hk:x.keep
 all_goals
  rw[hk]at f5;have HK:=ab hk;go_upto_region 6 with fail
  clear hk hkb;have L0:=ab ((Ly.amb w w5 Z.i.R #[.b .b 69,.b .b x.NK] [69,aJ x.NK.e] 2 rfl (by omega) (by
   simp only[kI,pI,bv];rw[yT x.NK.e (by omega),lF s0];rfl)).add (q:=w.a.j) (c:=x.ay) (Z.i.X.alloc _) (by simp[jW];exact uD Z.i.X.lt))
  go_upto_region 7 with fail
  clear f0 f1 f2 f3 f4 f5 f6 f7 f8 f9;generalize w5.alloc (.D #[.b .b 69,.b .b x.NK] 5)=w6 at L0 ⊢;generalize bD (some ⟨w5.a.j,0,none⟩) 2 2=v6 at L0 ⊢;have f:=HFA.i _ L0.i.X;obtain⟨kv,hkv⟩:∃kv:Nat,kb=kv:=⟨_,rfl⟩
  have hkk:kb=(if x.keep then 16384 else 0):=HKB.i;rw[HK.i]at hkk;simp only[if_true,if_false,jF]at hkk;subst hkk;obtain⟨_,f1,_,f3,_,_,f6,f7,_,_⟩:=f;rw[HX1.i]at f1;rw[HX2.i]at f3;rw[HX3.i]at f6;rw[HX4.i]at f7;clear hkv kv;go_upto_region 8 with fail
  clear f1 f3 f6 f7 q2
  first
  | (have L1:=ab (L0.i.new (sN (Gt [tt,ti,16384,tl*256+tp,0])) 3)
     have HIN:=ab (show Gt [tt,ti,16384,tl*256+tp,0]=[(tt:Int),ti,16384,(tl:Int)*256+tp,0]by simp[Gt]);rw[<-HIN.i];clear HIN;generalize hns:([tt,ti,16384,tl*256+tp,0]:List Nat)=ns at L1 HF⊢)
  | (have L1:=ab (L0.i.new (sN (Gt [tt,ti,0,tl*256+tp,0])) 3)
     have HIN:=ab (show Gt [tt,ti,0,tl*256+tp,0]=[(tt:Int),ti,0,(tl:Int)*256+tp,0]by simp[Gt]);rw[<-HIN.i];clear HIN;generalize hns:([tt,ti,0,tl*256+tp,0]:List Nat)=ns at L1 HF⊢)
  have HNL:=ab (show ns.a=5 by rw[<-hns];rfl);have HNB:=ab (show∀z∈ns,z<=65535 by
   rw[<-hns];intro z hz;simp only[bC,fJ,or_false]at hz;omega)
  clear hns hkb2 B1 B2 B3 B4 B5;obtain⟨A0,c0,hv⟩:=L1.i.o.Ch;have hv2:v6=.a A0 2 c0:=hv;clear hv;subst hv2;have hy7:=L0.i.X.lt;generalize w6.alloc (.D (sN (Gt ns)) 3)=w7 at L1 ⊢;generalize w6.a.j=y7 at L1 hy7 ⊢;have atJ:∀i:Nat,((ns.d i).h (fun n:Nat=>qc (n:Int))).a<=10:=by
   have h1:∀l:List Nat,(l.h (fun n:Nat=>qc (n:Int))).a=2*l.a:=by
    intro l
    induction l with
    | nil=>rfl
    | cons a l ih=>rw[iK,aR,ih];simp[qc];omega
   intro i;rw[h1,bJ];have:=HNL.i;omega
  have HLT:=ab atJ;clear atJ;obtain⟨b0,hb0⟩:∃l:List UInt8,l=[69,aJ x.NK.e]:=⟨_,rfl⟩
  have HB0:=ab (show b0.a=2 by rw[hb0];rfl);rw[<-hb0]at L1 HF;clear hb0;go_loopw [5,81] (fun s5 s81 wr=>∃(i:Nat)(A:Option aT)(m c:Nat),i<=5/\s81=.b .a i/\s5=.a A m c/\Ly w.a.j [(y7,sN (Gt ns)),(w.a.j,x.ay)] w wr (.a A m c) (b0++(ns.d i).h (fun n:Nat=>qc (n:Int)))) (fun _ s81 _=>5-(intOf s81).e)
  case atStart=>exact⟨0,_,_,_,by omega,rfl,rfl,by rw[jY,List.flatMap_nil,uK];exact L1.i⟩
  case round=>
   obtain⟨i,A,m,c,hin,rfl,rfl,h⟩:=hrel;have HO:=ab h;clear h;have HL1:=ab (show(b0++(ns.d i).h (fun n:Nat=>qc (n:Int))).a<=12 by rw[aR];have:=HLT.i i;have:=HB0.i;omega);by_cases hlt:i<5
   ·have hi:(i:Int)<5:=by omega
    have hi0:(0:Int)<=i:=by omega
    have e1:=(HO.i.X.K.1 i).trans (ai6 ns i (by rw[HNL.i];exact hlt));have Dv:=ab (ac2 (fun n:Nat=>qc (n:Int)) 0 ns i (by rw[HNL.i];exact hlt));have hz:=HNB.i _ (AX 0 ns i (by rw[HNL.i];exact hlt));obtain⟨z,hzz⟩:=dw (ns.c i 0);rw[<-hzz]at e1 Dv hz;clear hzz;have cs:jo.wrap (z:Int)=(z:Int):=by rw[jR];omega
    have PS:=ab (fun W=>wE z hz W);rw[uY z hz]at PS;have HLN:=ab (show(b0++(ns.d i).h (fun n:Nat=>qc (n:Int))).a+2<=1000000000 by have:=HL1.i;omega);go_wp2_with (first|(go_at_call 184;(with_reducible refine(PS.i _).g ?_);rintro e w8 ⟨A8,rfl,ho,hb⟩;have R8:=ab (Da ho (aG _ _));have L4:=ab (HO.i.go hb);clear ho hb)|(at_builtin;refine ko rfl (.a 85) (.a 88) rfl rfl L4.i.o rfl R8.i HLN.i ?_;intro A9 n9 c9 w9 h2 h3;have L5:=ab (L4.i.step h3);clear h2 h3));go_roundw
    case rel=>exact⟨i+1,A9,n9,c9,by omega,by go_num,rfl,by rw[Dv.i,<-dB];exact L5.i⟩
    case measure=>simp[intOf]<;>omega
   ·obtain rfl:i=5:=by omega
    have HFU:=ab (show ns.d 5=ns from aK (by rw[HNL.i];omega));rw[HFU.i]at HO HL1;obtain⟨b1,hb1⟩:∃l:List UInt8,l=b0++ns.h (fun n:Nat=>qc (n:Int)):=⟨_,rfl⟩
    have HB1:=ab (show b1.a=12 by
     rw[hb1,aR,HB0.i];have h1:∀l:List Nat,(l.h (fun n:Nat=>qc (n:Int))).a=2*l.a:=by
      intro l
      induction l with
      | nil=>rfl
      | cons a l ih=>rw[iK,aR,ih];simp[qc];omega
     rw[h1,HNL.i])
    rw[<-hb1]at HO HF;clear hb1 HFU HL1 hin hlt;have LY:=ab (show Ly w.a.j [(w.a.j,x.ay)] w wr (.a A m c) b1 from HO.i.NH);have RS:=ab (fun(w':ak) (h:dL w' w.a.j x.ay)=>show fP w' w'.a.j (some ⟨w.a.j,9,none⟩) 4 (x.h.b.a.d 4)from(Lh (o:=8) h x.h (Fo.IE x)).upN (by omega));have RD:=ab (fun(w':ak) (h:dL w' w.a.j x.ay)=>show fP w' w'.a.j (some ⟨w.a.j,26,none⟩) 4 (x.Y.b.a.d 4)from(Lh (o:=25) h x.Y (Fo.IG x)).upN (by omega));have LD:=ab LY.i.drew;have RSd:=ab (RS.i _ LD.i.X);obtain⟨A',c',hv⟩:=LD.i.o.Ch;have hm:m=b1.a:=by injection hv
    rw[HB1.i]at hm;subst hm;clear hv A' c';have LN1:=ab (show b1.a+4<=1000000000 by rw[HB1.i];decide);have LN2:=ab (show(b1++x.h.b.a.d 4).a+4<=1000000000 by rw[aR,bJ,HB1.i];omega);go_wp2_with fail;go_region_held_law (fun _=>True) (trivial)
     (first
     | (refine Mx (o:=⟨some 95,_,_,_,_,_⟩) rfl (.a 91) (.a 94) rfl (.a A 12 c) (some ⟨w.a.j,9,none⟩) 4 16 rfl LD.i.o rfl RSd.i LN1.i ?_;intro A6 n6 c6 w6 h8 h9;have L6:=ab (LD.i.step h9);have RDd:=ab (RD.i _ L6.i.X);clear h8 h9)
     | (refine Mx (o:=⟨some 99,_,_,_,_,_⟩) rfl (.a 95) (.a 98) rfl (.a A6 n6 c6) (some ⟨w.a.j,26,none⟩) 4 16 rfl L6.i.o rfl RDd.i LN2.i ?_;intro A7 n7 c7 w7 h8 h9;have L7:=ab (L6.i.step h9);clear h8 h9))
    go_wp2_with fail;rw[<-HF.i]at L7;have HFL:=ab (show(Dg x).a=20 by simp[Dg]);have HPF:=ab (show tN x=r9 (Dg x) 10 (qc (wU (Dg x):Nat))by
     unfold tN acZ qc;rw[dQ,aaH (by rw[HFL.i];omega)])
    obtain⟨fh,hfh⟩:∃l,l=Dg x:=⟨_,rfl⟩
    rw[<-hfh]at L7 HFL HPF;clear hfh HF;obtain⟨g,hg1,hg2,hg3,hg4,hg5⟩:=L7.i.h (by rw[HFL.i];decide);rw[HFL.i]at hg2;subst hg1 hg2;have h10:(10:Int)<=c7:=by omega
    have L8:=L7.i.drew.new (#[bD (some ⟨g,0,none⟩) 20 c7]) 56;simp only[show w7.drew.a.j=w7.a.j from rfl,show∀(w:ak) ob,w.drew.alloc ob=(w.alloc ob).drew from fun _ _=>rfl]at L8;have L8:=ab L8;have hfr:fP w7 w7.a.j (some ⟨g,0,none⟩) 20 fh:=by have ho:=L7.i.o.vC;rw[HFL.i]at ho;exact fP.iY ho
    have CS:=ab (agI ((w7.alloc (.D (#[bD (some ⟨g,0,none⟩) 20 c7]) 56)).drew) w7.a.j (some ⟨g,0,none⟩) 20 c7 w7.a.j fh (by decide) ((L8.i.X.K.1 0).trans rfl) (hfr.alloc (av _) _));have hsz:wU fh<=65535:=by unfold wU;omega
    obtain⟨z,hz⟩:=dw (wU fh);rw[<-hz]at CS HPF hsz;clear hz hfr;have q7:jo.wrap (z:Int)=(z:Int):=by rw[jR];omega
    have PZ:=ab (fun W=>wE z hsz W);rw[uY z hsz]at PZ;have HP:=ab (show 0<2->∃g',(some ⟨g,0,none⟩:Option aT)=some ⟨g',0,none⟩/\vH (some ⟨g,0,none⟩) 10 c7 1=some ⟨g',10,none⟩from fun _=>⟨g,rfl,OU (n:=0) (by omega)⟩);have HZ:=ab (show 10+2<=fh.a by rw[HFL.i];decide);go_region_held_law (fun _=>True) (trivial)
     (first
     | (go_at_call 305;(with_reducible refine CS.i.g ?_);rintro e w8 ⟨rfl,rfl⟩)
     | (go_at_call 184;(with_reducible refine(PZ.i _).g ?_);rintro e w9 ⟨A9,rfl,ho,hb⟩;have R9:=ab (Da ho (aG _ _));have L9:=ab (L8.i.go hb);clear ho hb)
     | (refine Ni (o:=⟨some 107,_,_,_,_,_⟩) rfl (.a 101) (.a 106) rfl (some ⟨g,0,none⟩) 20 c7 L9.i 10 2 (vH (some ⟨g,0,none⟩) 10 c7 1) 10 (c7-10) rfl A9 2 2 rfl R9.i rfl HP.i HZ.i ?_;intro w10 h10 h11;have L10:=ab h10;clear h10 h11))
    go_wp2;go_ret2;rw[HPF.i];exact L10.i.toE
end
section
attribute [local go_sem high] iU jE
theorem Vs(x:Lc)(kind:Int)(fG:List Tg)(hf:∀t∈fG,aaD t)(hi:∀t∈fG,tY t.oq=true)(hn:fG.a<=2)(t0:0<=kind)(t1:kind<=65535)(ht:tY kind=false)(w:ak)(hT:iR Tg.ay 2 w w.a.j x.UN x.El fG)
 (P:Option aT) (m mc:Nat) (sl:List WL) (bss:List (List UInt8)) (hS:RdS w w.a.j P m sl) (hH:Mw w w.a.j sl bss) (hm:m<=1000) (hs:yF sl<=900000000) :
 aQ ah 102 #[.d x.ay,.b .a kind,.a P m mc] w (J7 w (qw x.Y x.h fG kind++bss.flatten)):=by
 have Z1:=ab ((Bx.start w).new x.ay 108);have fz:=Z1.i.X.K.2.1 13;have HT:=ab hT;have HS:=ab hS;have HH:=ab hH;have Z2:=ab (Z1.i.set (fun p hp=>by cases hp) 13 (.b .a kind));rw[Lc.RX]at Z2;clear hT hS hH;go_enter Tryz.func102,Tryz.ntmps102;go_upto_region 1 with fail
 have c13:(w.alloc (.D x.ay 108)).b ⟨w.a.j,13,none⟩=some (.b .a x.oq):=(Z1.i.X.K.1 13).trans (Lc.Dz x);generalize w.alloc (.D x.ay 108)=w1 at *;go_upto_region 2 with fail
 generalize w1.F ⟨w.a.j,13,none⟩ (.b .a kind)=w2 at *;clear c13 fz;have l3:=kLc.lU Z2.i.X (Lc.G _);have CL:=ab (ac6 ({x with oq:=kind}:Lc) fG hf hi hn t0 t1 ht w2 ((HT.i.S Z2.i.R).lu Z2.i.R.j));have HLB:=ab (show(qw x.Y x.h fG kind).a<=1000 from ai2 hn);go_upto_region 3 with(go_at_call 185;(with_reducible refine CL.i.g ?_);rintro e w3 ⟨A3,n3,c3,rfl,hn3,ho3,hb3⟩;have N3:=ab hn3;have O3:=ab ho3;have B3:=ab (Z2.i.R.trans (hb3.g Z2.i.R.j));clear hn3 ho3 hb3)
 have C1:=ab (KW sl bss P m mc w3 ((HS.i.S B3.i).lu B3.i.j) ⟨HH.i.1,fun i hi=>((HH.i.2 i hi).S B3.i).lu B3.i.j⟩ hm (by omega));obtain⟨hb0,hhb⟩:∃l,l=qw x.Y x.h fG kind:=⟨_,rfl⟩
 rw[<-hhb]at N3 O3 HLB;have HHB:=ab hhb;clear hhb l3;have HFL:=ab (show bss.flatten.a<=900000000 by
  have:=UE HH.i sl.a (av _);rw[aK (av _),HH.i.1,aK (av _)]at this;omega)
 obtain⟨fl,hfl⟩:∃l,l=bss.flatten:=⟨_,rfl⟩
 unfold as6 at C1;rw[<-hfl]at HFL C1;have HFB:=ab hfl;clear hfl;go_wp2_with (first
 | (go_at_call 181;(with_reducible refine C1.i.g ?_);rintro e w4 ⟨v4,rfl,ho4,hb4⟩;obtain⟨A4,c4,hv4,_,_⟩:=jS ho4;subst hv4;have O4:=ab ho4;have B4:=ab (B3.i.trans (hb4.g B3.i.j));have R3:=ab (fP.iY (jq O3.i hb4));have R4:=ab (fP.iY ho4);have C2:=ab (Br [⟨A3,n3,c3⟩,⟨A4,fl.a,c4⟩] [hb0,fl] 56 2 w4 rfl (.cons R3.i (.cons R4.i .nil)) (by omega) (by have:=N3.i;have:=HLB.i;have:=HFL.i;simp[yF];omega));clear ho4 hb4)
 | (go_at_call 181;(with_reducible refine C2.i.g ?_);rintro e w5 ⟨A5,m5,c5,rfl,hm5,_,RZ,hb5⟩;have O5:=ab RZ;have N5:=ab hm5;have B5:=ab hb5;clear hm5 RZ hb5))
 go_ret;have e2:[hb0,fl].flatten=hb0++fl:=by simp
 have ho:=O5.i;have hnn:=N5.i;rw[e2,HHB.i,HFB.i]at ho hnn;exact⟨A5,m5,c5,rfl,hnn,iH ho (qo B4.i.j),B4.i.trans (B5.i.g B4.i.j)⟩
end
section
attribute [local go_sem high] iU jE
theorem apI{w:ak}{y:Nat}{a b c:Array aB}(h:w.a.j+1<y):∀p∈[(y+1,a),(w.a.j+1,b),(w.a.j,c)],p.1≠y:=fun r hr=>by
 simp only[bC,fJ,or_false]at hr;rcases hr with rfl|rfl|rfl<;>simp only[]<;>omega
theorem amn{w:ak}{y:Nat}{a b c:Array aB}(h:w.a.j+1<y):∀p∈[(y,a),(w.a.j+1,b),(w.a.j,c)],p.1≠y+1:=fun r hr=>by
 simp only[bC,fJ,or_false]at hr;rcases hr with rfl|rfl|rfl<;>simp only[]<;>omega
theorem amo(l:List UInt8):((IZ l).a:Int)=(QY l).dz:=by
 unfold IZ QY;split
 ·simp[sU]
 ·have:=ac9 (mh l).1.oq (l.f (mh l).1.fD)
  rw[bJ];omega
theorem amq(l:List UInt8)(s d:fq):Gs l s d =
 (if(QY l).ok=false then([],3)else if amd s d=false then([],1)else if s.h=true then if((IZ l).a:Int)>65535 then([],4)
 else(qw (mh l).1.Y (mh l).1.h (mh l).1.fG 34525++wL ⟨40,40+((IZ l).a:Int),64,false,0,if(mh l).1.oq=34525 then 41 else 4,s,d⟩++IZ l,0)
 else if 20+((IZ l).a:Int)>65535 then([],4)
  else(qw (mh l).1.Y (mh l).1.h (mh l).1.fG 2048++tN ⟨20,20+((IZ l).a:Int),0,0,false,true,64,if(mh l).1.oq=34525 then 41 else 4,s,d⟩++IZ l,0)):=by
 rw[amo];unfold Gs IZ QY;by_cases h:(mh l).2≠0
 ·rw[if_pos h,if_pos h,if_pos (by rfl)]
 ·rw[if_neg h,if_neg h,if_neg h]
theorem afy(w:ak)(A:Option aT)(n c:Nat)(l:List UInt8)(s d:fq)(hnc:n<=c)(hc:c<=9223372036854775807/\n<=1000000)(hr:fP w w.a.j A n l):aQ ah 207 #[.a A n c,.d s.ay,.d d.ay] w (aiW w (Gs l s d)):=by
 have h0:=((Bx.start w).new s.ay 27).new d.ay 27;rw[show(w.alloc (.D s.ay 27)).a.j=w.a.j+1 by simp]at h0;have Z0:=ab h0;have CC:=ab (ai4 _ A n c l hnc hc (h0.MX hr));have HW:=ab (amq l s d);clear h0 hr;go_enter Tryz.func207,Tryz.ntmps207;go_upto_region 1 with fail
 generalize(w.alloc (.D s.ay 27)).alloc (.D d.ay 27)=w0 at Z0 CC ⊢;obtain⟨k,hk⟩:=dw ((mh l).1);obtain⟨g,hg⟩:=dw (QY l);obtain⟨pk,hpk⟩:∃q,q=IZ l:=⟨_,rfl⟩
 have HK:=ab hk;unfold ax5 at CC;rw[<-hk,<-hg,<-hpk]at CC HW;clear hk hg hpk;go_upto_region 2 with(go_at_call 99;(with_reducible refine CC.i.g ?_);rintro e w1 ⟨TA,tc,PA,pn,pc,rfl,hT,hP,hpc,ax',hb1⟩;have zn:=((Z0.i.go hb1).new qK.ay 108).new sU.ay 179;rw[tq]at zn;have hsz:=(Z0.i.go hb1).X.lt;have ZN:=ab zn;have at1:=ZN.i.b1.O 0 15 (aX (Lc.G qK).symm);have Z2:=ab ((ZN.i.sub (L':=[(w1.a.j,qK.ay),(w1.a.j+1,sU.ay),(w.a.j+1,d.ay),(w.a.j,s.ay)]) (by simp)).put (apI hsz) (k.cell TA tc).ay (by rw[Lc.G,Lc.G]));have at5:=Z2.i.b1.O 0 5 (aX (Tn.G sU).symm);have Z1:=ab ((Z2.i.sub (L':=[(w1.a.j+1,sU.ay),(w1.a.j,(k.cell TA tc).ay),(w.a.j+1,d.ay),(w.a.j,s.ay)]) (by simp)).put (amn hsz) g.ay (by rw[Tn.G,Tn.G]));have PG:=ab (kX (kX ((((aG w1.a.j w1).alloc (av _) (.D qK.ay 108)).alloc (by simp) (.D sU.ay 179))) w1.a.j 0 (k.cell TA tc).ay (av _)) (w1.a.j+1) 0 g.ay (Nat.le_succ _));have RT:=ab (hT.S PG.i);have RP:=ab (hP.S PG.i);have HPC:=ab (And.intro hpc ax');clear zn hpc ax';clear hb1 hT hP)
 have YL:=ab (show w1.a.j<=(gN (gN ((w1.alloc (.D qK.ay 108)).alloc (.D sU.ay 179)) w1.a.j 0 (k.cell TA tc).ay) (w1.a.j+1) 0 g.ay).a.j from PG.i.j);have HY:=ab hsz;clear at1 at5 ZN Z2 PG hsz;generalize gN (gN ((w1.alloc (.D qK.ay 108)).alloc (.D sU.ay 179)) w1.a.j 0 (k.cell TA tc).ay) (w1.a.j+1) 0 g.ay=w2 at Z1 RT RP YL ⊢;generalize w1.a.j=y8 at *;have hpn:=ab RP.i.len;have KS:=ab (fun(w':ak) (h:Bx [(y8+1,g.ay),(y8,(k.cell TA tc).ay),(w.a.j+1,d.ay),(w.a.j,s.ay)] w w')=>show w'.b ⟨y8+1,4,none⟩=some (.e g.ok)/\w'.b ⟨w.a.j,0,none⟩=some (.e s.h)/\w'.b ⟨w.a.j+1,0,none⟩=some (.e d.h)/\(rD (.c (some ⟨w.a.j,0,none⟩))).I ah w'=.ok (.d s.ay) w'/\(rD (.c (some ⟨w.a.j+1,0,none⟩))).I ah w'=.ok (.d d.ay) w'/\w'.b ⟨y8,13,none⟩=some (.b .a k.oq)/\(yH 108 (.c (some ⟨y8,0,none⟩))).I ah w'=.ok (.d (k.cell TA tc).ay) w' from⟨(h.X.K.1 4).trans (Tn.axy g),(h.b3.K.1 0).trans (fq.pX s),(h.b2.K.1 0).trans (fq.pX d),h.b3.ag9,h.b2.ag9,(h.b1.K.1 13).trans (Lc.Dz _),kLc.lU h.b1 (Lc.G _)⟩);obtain⟨f1,f2,f3,f4,f5,f6,f7⟩:=KS.i _ Z1.i;have CP:=ab ac0;cases hok:g.ok
 ·rw[hok]at f1
  go_wp2;go_ret2;rw[HW.i,if_pos hok];exact⟨none,0,0,rfl,GN _,Z1.i.R⟩
 rw[hok]at f1;have HWO:=ab (HW.i.trans (if_neg (by rw[hok];simp)));clear HW;have HFM:=ab (show amd s d=(s.h==d.h&&(s.h||s.mK&&d.mK))from rfl);have NOF:=ab (show amd s d=false->Gs l s d=([],1)from fun h=>HWO.i.trans (if_pos h));cases h6:s.h<;>cases g6:d.h
 case false.true=>
  rw[h6]at f2 HFM;rw[g6]at f3 HFM;go_wp2;go_ret2;rw[NOF.i HFM.i];exact⟨none,0,0,rfl,GN _,Z1.i.R⟩
 case true.false=>
  rw[h6]at f2 HFM;rw[g6]at f3 HFM;go_wp2;go_ret2;rw[NOF.i HFM.i];exact⟨none,0,0,rfl,GN _,Z1.i.R⟩
 case true.true=>
  have HH6:=ab h6;have HG6:=ab g6;rw[h6]at f2 HFM;rw[g6]at f3 HFM;clear g6;have HWX:=ab (HWO.i.trans ((if_neg (by rw[HFM.i];simp)).trans (if_pos h6)));clear h6;have hty:(k.oq==34525)=true/\(if k.oq=34525 then(41:Int)else 4)=41\/(k.oq==34525)=false/\(if k.oq=34525 then(41:Int)else 4)=4:=by
   by_cases h:k.oq=34525
   ·exact .a ⟨by simpa using h,if_pos h⟩
   ·exact .b ⟨by simpa using h,if_neg h⟩
  by_cases hT:65535<pn
  ·have qt:decide ((65535:Int)<pn)=true:=by simp;omega
   go_wp2
   all_goals
    go_ret2;rw[HWX.i,if_pos (by have:=hpn.i;omega)];exact⟨none,0,0,rfl,GN _,Z1.i.R⟩
  have qt:decide ((65535:Int)<pn)=false:=by simp;omega
  have Mk:=ab (HWX.i.trans (if_neg (by have:=hpn.i;omega)));have q5:=jT (40+(pn:Int)) (by omega);rcases hty with⟨qty,hpp⟩|⟨qty,hpp⟩
  case' inl=>
   rw[hpp,hpn.i]at Mk;clear hpp;have CS:=ab (fun W'=>Vn (Sx.mk 40 (40+pn) 64 false 0 41 s d) pn (by omega) rfl rfl (show(0:Int)<=41 by decide) (show(41:Int)<=255 by decide) (by rfl) (show(0:Int)<=64 by decide) (show(64:Int)<=255 by decide) rfl rfl HH6.i HG6.i W');go_upto_region 14 with(go_at_call 270;(with_reducible refine(CS.i _).g ?_);rintro e w5 ⟨A5,n5,c5,rfl,hn5,RZ,hb5⟩;have Z5:=ab (Z1.i.go hb5);have N5:=ab hn5;have R5:=ab (fP.iY RZ);have B5:=ab hb5;clear hn5 RZ hb5)
   clear f1 f2 f3 f4 f5 f6 f7 q5 qt qty;obtain⟨_,_,_,_,_,_,f7⟩:=KS.i _ Z5.i;obtain⟨sb,hsb⟩:∃l,l=wL (Sx.mk 40 (40+pn) 64 false 0 41 s d):=⟨_,rfl⟩
  case' inr=>
   rw[hpp,hpn.i]at Mk;clear hpp;have CS:=ab (fun W'=>Vn (Sx.mk 40 (40+pn) 64 false 0 4 s d) pn (by omega) rfl rfl (show(0:Int)<=4 by decide) (show(4:Int)<=255 by decide) (by rfl) (show(0:Int)<=64 by decide) (show(64:Int)<=255 by decide) rfl rfl HH6.i HG6.i W');go_upto_region 14 with(go_at_call 270;(with_reducible refine(CS.i _).g ?_);rintro e w5 ⟨A5,n5,c5,rfl,hn5,RZ,hb5⟩;have Z5:=ab (Z1.i.go hb5);have N5:=ab hn5;have R5:=ab (fP.iY RZ);have B5:=ab hb5;clear hn5 RZ hb5)
   clear f1 f2 f3 f4 f5 f6 f7 q5 qt qty;obtain⟨_,_,_,_,_,_,f7⟩:=KS.i _ Z5.i;obtain⟨sb,hsb⟩:∃l,l=wL (Sx.mk 40 (40+pn) 64 false 0 4 s d):=⟨_,rfl⟩
  all_goals
   have HSL:=ab (show sb.a=40 by rw[hsb,ac8]);rw[<-hsb]at Mk N5 R5;clear hsb;have BA:=ab (Below.alloc (aG w5.a.j w5) (av _) (.D (yQ [⟨A5,n5,c5⟩,⟨PA,pn,pc⟩]) 56));have TG:=Vm l;have TI:=OV l;rw[<-HK.i]at TG TI;have RT5:=((RT.i.S (B5.i.g YL.i)).S (BA.i.g (aO YL.i B5.i.j))).lu (aO YL.i (aO B5.i.j BA.i.j));have RP5:=((RP.i.S (B5.i.g YL.i)).S (BA.i.g (aO YL.i B5.i.j))).lu (aO YL.i (aO B5.i.j BA.i.j));have CJ:=ab (Vs (k.cell TA tc) 34525 k.fG TG.1 TI TG.2 (by decide) (by decide) (by decide) _ RT5 (some ⟨w5.a.j,0,none⟩) 2 2 [⟨A5,n5,c5⟩,⟨PA,pn,pc⟩] [sb,pk] (RdS.lit w5 [⟨A5,n5,c5⟩,⟨PA,pn,pc⟩] 56) (.cons ((R5.i.S BA.i).lu BA.i.j) (.cons RP5 .nil)) (by omega) (by have:=N5.i;have:=HSL.i;have:=HPC.i;simp[yF];omega));clear TG TI RT5 RP5;go_wp2_with (go_at_call 102;(with_reducible refine CJ.i.g ?_);rintro e w8 ⟨A8,n8,c8,rfl,hn8,ho8,Xb⟩;have N8:=ab hn8;have R8:=ab (fP.iY ho8);have B8:=ab Xb;clear hn8 ho8 Xb);go_ret2;have e2:qw k.Y k.h k.fG 34525++[sb,pk].flatten=qw k.Y k.h k.fG 34525++sb++pk:=by simp
   rw[Mk.i];refine⟨A8,n8,c8,rfl,?_,Z5.i.R.trans ((BA.i.trans (B8.i.g BA.i.j)).g Z5.i.R.j)⟩;have:=R8.i
   rwa [show(k.cell TA tc).Y=k.Y from rfl,show(k.cell TA tc).h=k.h from rfl,e2]at this
 case false.false=>
  have HH6:=ab h6;have HG6:=ab g6;rw[h6]at f2 HFM;rw[g6]at f3 HFM;simp only[h6,g6]at KS;clear g6;have CP1:=ab (fun W=>CP.i s W);have CP2:=ab (fun W=>CP.i d W);cases hs:s.mK
  ·rw[hs]at CP1 HFM
   clear hs;go_wp2_with (go_at_call 269;(with_reducible refine(CP1.i _).g ?_);rintro e w4 ⟨rfl,hb⟩;have Z4:=ab (Z1.i.go hb);clear f1 f2 f3 f4 f5 f6 f7;obtain⟨f1,f2,f3,f4,f5,f6,f7⟩:=KS.i _ Z4.i;clear hb);go_ret2;rw[NOF.i HFM.i];exact⟨none,0,0,rfl,GN _,Z4.i.R⟩
  cases hd:d.mK
  ·rw[hs]at CP1 HFM
   rw[hd]at CP2 HFM;clear hs hd;go_wp2_with (go_at_call 269;(first|((with_reducible refine(CP1.i _).g ?_);rintro e w4 ⟨rfl,hb⟩;have Z4:=ab (Z1.i.go hb);clear f1 f2 f3 f4 f5 f6 f7;obtain⟨f1,f2,f3,f4,f5,f6,f7⟩:=KS.i _ Z4.i;clear hb)|((with_reducible refine(CP2.i _).g ?_);rintro e w5 ⟨rfl,hb⟩;have Z5:=ab (Z4.i.go hb);clear f1 f2 f3 f4 f5 f6 f7;obtain⟨f1,f2,f3,f4,f5,f6,f7⟩:=KS.i _ Z5.i;clear hb)));go_ret2;rw[NOF.i HFM.i];exact⟨none,0,0,rfl,GN _,Z5.i.R⟩
  have HS4:=ab (show(!s.h&&s.mK)=true by rw[HH6.i,hs];rfl);have HD4:=ab (show(!d.h&&d.mK)=true by rw[HG6.i,hd];rfl);rw[hs]at CP1 HFM;rw[hd]at CP2 HFM;clear hs hd;have HWX:=ab (HWO.i.trans ((if_neg (by rw[HFM.i];simp)).trans (if_neg (by rw[h6];simp))));clear h6;have hty:(k.oq==34525)=true/\(if k.oq=34525 then(41:Int)else 4)=41\/(k.oq==34525)=false/\(if k.oq=34525 then(41:Int)else 4)=4:=by
   by_cases h:k.oq=34525
   ·exact .a ⟨by simpa using h,if_pos h⟩
   ·exact .b ⟨by simpa using h,if_neg h⟩
  have q5:=jT (20+(pn:Int)) (by have:=HPC.i;omega);go_upto_region 7 with(go_at_call 269;(first|((with_reducible refine(CP1.i _).g ?_);rintro e w4 ⟨rfl,hb⟩;have Z4:=ab (Z1.i.go hb);have B4:=ab hb;clear f1 f2 f3 f4 f5 f6 f7;obtain⟨f1,f2,f3,f4,f5,f6,f7⟩:=KS.i _ Z4.i;clear hb)|((with_reducible refine(CP2.i _).g ?_);rintro e w5 ⟨rfl,hb⟩;have Z5:=ab (Z4.i.go hb);have B5:=ab (B4.i.trans (hb.g B4.i.j));clear f1 f2 f3 f4 f5 f6 f7;obtain⟨f1,f2,f3,f4,f5,f6,f7⟩:=KS.i _ Z5.i;clear hb)))
  by_cases hT:65535<20+pn
  ·have qt:decide ((65535:Int)<20+(pn:Int))=true:=by simp;omega
   go_wp2
   all_goals
    go_ret2;rw[HWX.i,if_pos (by have:=hpn.i;omega)];exact⟨none,0,0,rfl,GN _,Z5.i.R⟩
  have qt:decide ((65535:Int)<20+(pn:Int))=false:=by simp;omega
  have Mk:=ab (HWX.i.trans (if_neg (by have:=hpn.i;omega)));rcases hty with⟨qty,hpp⟩|⟨qty,hpp⟩
  case' inl=>
   rw[hpp,hpn.i]at Mk;clear hpp;have CS:=ab (fun W'=>Qh (Fo.mk 20 (20+pn) 0 0 false true 64 41 s d) rfl (show(0:Int)<=0 by decide) (show(0:Int)<=255 by decide) (show 20<=20+(pn:Int)by omega) (show 20+(pn:Int)<=65535 by omega) (show(0:Int)<=0 by decide) (show(0:Int)<=65535 by decide) (show(0:Int)<=64 by decide) (show(64:Int)<=255 by decide) (show(0:Int)<=41 by decide) (show(41:Int)<=255 by decide) rfl HS4.i HD4.i W');go_upto_region 18 with(go_at_call 271;(with_reducible refine(CS.i _).g ?_);rintro e w7 ⟨A5,n5,c5,rfl,hn5,RZ,hb5⟩;have Z7:=ab (Z5.i.go hb5);have N5:=ab hn5;have R5:=ab (fP.iY RZ);have B7:=ab (B5.i.trans (hb5.g B5.i.j));clear hn5 RZ hb5)
   clear f1 f2 f3 f4 f5 f6 f7 q5 qt qty;obtain⟨_,_,_,_,_,_,f7⟩:=KS.i _ Z7.i;obtain⟨sb,hsb⟩:∃l,l=tN (Fo.mk 20 (20+pn) 0 0 false true 64 41 s d):=⟨_,rfl⟩
  case' inr=>
   rw[hpp,hpn.i]at Mk;clear hpp;have CS:=ab (fun W'=>Qh (Fo.mk 20 (20+pn) 0 0 false true 64 4 s d) rfl (show(0:Int)<=0 by decide) (show(0:Int)<=255 by decide) (show 20<=20+(pn:Int)by omega) (show 20+(pn:Int)<=65535 by omega) (show(0:Int)<=0 by decide) (show(0:Int)<=65535 by decide) (show(0:Int)<=64 by decide) (show(64:Int)<=255 by decide) (show(0:Int)<=4 by decide) (show(4:Int)<=255 by decide) rfl HS4.i HD4.i W');go_upto_region 18 with(go_at_call 271;(with_reducible refine(CS.i _).g ?_);rintro e w7 ⟨A5,n5,c5,rfl,hn5,RZ,hb5⟩;have Z7:=ab (Z5.i.go hb5);have N5:=ab hn5;have R5:=ab (fP.iY RZ);have B7:=ab (B5.i.trans (hb5.g B5.i.j));clear hn5 RZ hb5)
   clear f1 f2 f3 f4 f5 f6 f7 q5 qt qty;obtain⟨_,_,_,_,_,_,f7⟩:=KS.i _ Z7.i;obtain⟨sb,hsb⟩:∃l,l=tN (Fo.mk 20 (20+pn) 0 0 false true 64 4 s d):=⟨_,rfl⟩
  all_goals
   have HSL:=ab (show sb.a=20 by rw[hsb,Vq]);rw[<-hsb]at Mk N5 R5;clear hsb;have BA:=ab (Below.alloc (aG w7.a.j w7) (av _) (.D (yQ [⟨A5,n5,c5⟩,⟨PA,pn,pc⟩]) 56));have TG:=Vm l;have TI:=OV l;rw[<-HK.i]at TG TI;have RT5:=((RT.i.S (B7.i.g YL.i)).S (BA.i.g (aO YL.i B7.i.j))).lu (aO YL.i (aO B7.i.j BA.i.j));have RP5:=((RP.i.S (B7.i.g YL.i)).S (BA.i.g (aO YL.i B7.i.j))).lu (aO YL.i (aO B7.i.j BA.i.j));have CJ:=ab (Vs (k.cell TA tc) 2048 k.fG TG.1 TI TG.2 (by decide) (by decide) (by decide) _ RT5 (some ⟨w7.a.j,0,none⟩) 2 2 [⟨A5,n5,c5⟩,⟨PA,pn,pc⟩] [sb,pk] (RdS.lit w7 [⟨A5,n5,c5⟩,⟨PA,pn,pc⟩] 56) (.cons ((R5.i.S BA.i).lu BA.i.j) (.cons RP5 .nil)) (by omega) (by have:=N5.i;have:=HSL.i;have:=HPC.i;simp[yF];omega));clear TG TI RT5 RP5;go_wp2_with (go_at_call 102;(with_reducible refine CJ.i.g ?_);rintro e w8 ⟨A8,n8,c8,rfl,hn8,ho8,Xb⟩;have N8:=ab hn8;have R8:=ab (fP.iY ho8);have B8:=ab Xb;clear hn8 ho8 Xb);go_ret2;have e2:qw k.Y k.h k.fG 2048++[sb,pk].flatten=qw k.Y k.h k.fG 2048++sb++pk:=by simp
   rw[Mk.i];refine⟨A8,n8,c8,rfl,?_,Z7.i.R.trans ((BA.i.trans (B8.i.g BA.i.j)).g Z7.i.R.j)⟩;have:=R8.i
   rwa [show(k.cell TA tc).Y=k.Y from rfl,show(k.cell TA tc).h=k.h from rfl,e2]at this
end
section
attribute [local go_sem high] iU jE
end
def Agr(l m:List UInt8)(a b:Nat):Prop:=∀j,a<=j->j<b->m.c j 0=l.c j 0
section
variable {l m:List UInt8} {a b:Nat}
theorem Agr.two(h:Agr l m a b){k:Nat}(h1:a<=k)(h2:k+2<=b):eU m k=eU l k:=by
 unfold eU;rw[h k (by omega) (by omega),h (k+1) (by omega) (by omega)]
theorem Yh(l:List UInt8)(z j:Nat):(l.f z).c j 0=l.c (z+j) 0:=by simp[au]
theorem Yi(l:List UInt8)(z j:Nat):(l.d z).c j 0=if j<z then l.c j 0 else 0:=by
 simp only[au,jf];split<;>rfl
end
theorem afz{l:List UInt8}(h:(qF l).kind=0):(mh l).2=0/\((mh l).1.oq=2048\/(mh l).1.oq=34525)/\(mP l).2=0/\(mP l).1.oG=false/\((mP l).1.aP=6\/(mP l).1.aP=17)/\(Ld l).2=0 /\
 qF l=⟨0,⟨(mP l).1.h,(mP l).1.Y,(mP l).1.aP,(Ld l).1.kT,(Ld l).1.jP⟩,(Ld l).1.uV,(mh l).1.fD,(mh l).1.fD+(mP l).1.head,(mh l).1.fD+(mP l).1.dz⟩:=by
 unfold qF at h ⊢;by_cases h1:(mh l).2≠0
 ·rw[if_pos h1]at h;cases h
 rw[if_neg h1]at h ⊢;by_cases h2:(mh l).1.oq≠2048/\(mh l).1.oq≠34525
 ·rw[if_pos h2]at h;cases h
 rw[if_neg h2]at h ⊢;by_cases h3:(mP l).2≠0
 ·rw[if_pos h3]at h;cases h
 rw[if_neg h3]at h ⊢;by_cases h4:(mP l).1.oG=true
 ·rw[if_pos h4]at h;cases h
 rw[if_neg h4]at h ⊢;by_cases h5:(mP l).1.aP≠6/\(mP l).1.aP≠17
 ·rw[if_pos h5]at h;cases h
 rw[if_neg h5]at h ⊢;by_cases h6:(Ld l).2≠0
 ·rw[if_pos h6]at h;cases h
 rw[if_neg h6]at h ⊢;exact⟨by omega,by omega,by omega,by simpa using h4,by omega,by omega,rfl⟩
theorem Yj(l:List UInt8)(z k:Nat):eU (l.f z) k=eU l (z+k):=by unfold eU;rw[Yh,Yh,ng]
theorem ai7{l:List UInt8}(h:(qF l).kind=0):(qF l).J.h=(if(qF l).J.h.h then aiN (l.f ((qF l).Cj.e+8))else IL (l.f ((qF l).Cj.e+12)))/\(qF l).J.Y=(if(qF l).J.h.h then aiN (l.f ((qF l).Cj.e+24))else IL (l.f ((qF l).Cj.e+16)))/\(qF l).J.kT=eU l (qF l).tu.e/\(qF l).J.jP=eU l ((qF l).tu.e+2):=by
 have F:=Ng h;obtain⟨k1,k2,k3,k4,k5,k6,kp⟩:=afz h;have f5:=F.FJ;have f3:=F.tu;have f2:=F.Cj;have f6:=F.len;have hp:(qF l).J.kT=eU l (qF l).tu.e/\(qF l).J.jP=eU l ((qF l).tu.e+2):=by
  rw[kp]at f5 f3 f2 f6 ⊢;simp only at f5 f3 f2 f6 ⊢;have e0:uX (mP l).1.aP ((l.d ((mh l).1.fD+(mP l).1.dz.e)).f ((mh l).1.fD+(mP l).1.head.e))=0:=by
   unfold Ld IU at k6;split at k6
   ·assumption
   ·rename_i hx;exact absurd k6 hx
  have e1:Ld l=(qv (mP l).1.aP ((l.d ((mh l).1.fD+(mP l).1.dz.e)).f ((mh l).1.fD+(mP l).1.head.e)),0):=UQ e0;have hd:0<=(mP l).1.head/\0<=(mP l).1.dz/\(mP l).1.head+8<=(mP l).1.dz:=by
   split at f3<;>split at f5<;>omega
  have e2:((mh l).1.fD+(mP l).1.head:Int).e=(mh l).1.fD+(mP l).1.head.e:=by omega
  rw[e1,e2];have ag:Agr l (l.d ((mh l).1.fD+(mP l).1.dz.e)) 0 ((mh l).1.fD+(mP l).1.dz.e):=fun j _ hj=>by rw[Yi,if_pos hj]
  have a1:=ag.two (k:=(mh l).1.fD+(mP l).1.head.e) (by omega) (by omega);have a2:=ag.two (k:=(mh l).1.fD+(mP l).1.head.e+2) (by omega) (by omega);constructor
  ·rw[<-a1];unfold qv;split<;>simp only[Yj,nE]
  ·rw[<-a2];unfold qv;split<;>simp only[Yj]
 refine⟨?_,?_,hp⟩
 all_goals
  rw[kp];simp only[dQ];unfold mP Yb at k3 ⊢;by_cases ht:(mh l).1.oq=2048
  ·rw[if_pos ht]at k3 ⊢
   have es:=ag5 (l:=l.f (mh l).1.fD) k3;have e0:Dc (l.f (mh l).1.fD)=0:=by
    simp only at k3;unfold zS at k3;split at k3
    ·assumption
    ·rename_i hx;exact absurd k3 hx
   simp only[es.1];unfold zS;rw[if_pos e0];simp[OL]
  ·rw[if_neg ht]at k3 ⊢
   have es:=ag4 (l:=l.f (mh l).1.fD) k3;simp only[es.1,if_true];simp only at k3;unfold Av at k3 ⊢;by_cases h1:(l.f (mh l).1.fD).a<40
   ·rw[if_pos h1]at k3;cases k3
   rw[if_neg h1]at k3 ⊢;by_cases h2:nP (l.f (mh l).1.fD) 0/16≠6
   ·rw[if_pos h2]at k3;cases k3
   rw[if_neg h2]at k3 ⊢;by_cases h3:(l.f (mh l).1.fD).a<40+eU (l.f (mh l).1.fD) 4
   ·rw[if_pos h3]at k3;cases k3
   rw[if_neg h3]at k3 ⊢
   first|rw[(Vi 8 _ _ k3).1]|rw[(Vi 8 _ _ k3).2]
   simp[sx0]
theorem ahb(l:List UInt8):0<=(qF l).kind/\(qF l).kind<=6:=by
 unfold qF xD
 repeat' split
 all_goals simp
theorem apJ(e:En)(v:Vp)(b:Bk)(t:Tu)(l:List UInt8):(Cm e v b t l).1=0\/(Cm e v b t l).1=9\/(Cm e v b t l).1=10:=by
 unfold Cm
 repeat' split
 all_goals simp
theorem afA(e:En)(s:oM)(l:List UInt8):0<=(nS e s l).gJ/\(nS e s l).gJ<=10:=by
 have h1:=ahb l;unfold nS;split
 ·split
  ·split
   ·rename_i i _ _ b xS _
    have:=apJ e (e.vs.c i nD) b (qF l).J l;split<;>simp only<;>omega
   ·simp
  ·simp
 ·simp only;omega
theorem Vt{e:En}{s:oM}{l:List UInt8}(h:(nS e s l).gJ=0):(qF l).kind=0/\∃i,vZ e.vs (qF l).J.Y (qF l).J.aP (qF l).J.jP=some i/\Al e s (qF l).J=some ((nS e s l).h,(nS e s l).xS)/\(Cm e (e.vs.c i nD) (nS e s l).h (qF l).J l).1=0/\(nS e s l).i=(Cm e (e.vs.c i nD) (nS e s l).h (qF l).J l).2:=by
 unfold nS at h ⊢;by_cases h1:(qF l).kind=0
 ·rw[if_pos h1]at h ⊢
  cases hv:vZ e.vs (qF l).J.Y (qF l).J.aP (qF l).J.jP with
  | none=>rw[hv]at h;simp at h
  | some i=>
    rw[hv]at h;simp only at h ⊢;cases hb:Al e s (qF l).J with
    | none=>rw[hb]at h;simp at h
    | some bh=>
      obtain⟨b,xS⟩:=bh;rw[hb]at h;simp only at h ⊢;by_cases ho:(Cm e (e.vs.c i nD) b (qF l).J l).1=0
      ·rw[if_pos ho];exact⟨h1,i,rfl,rfl,ho,rfl⟩
      ·rw[if_neg ho]at h;exact absurd h ho
 ·rw[if_neg h1]at h;exact absurd h h1
theorem aub{e:En}{s:oM}{l:List UInt8}{i:Nat}{b:Bk}{xS:Bool}(h1:(qF l).kind=0)(h2:vZ e.vs (qF l).J.Y (qF l).J.aP (qF l).J.jP=some i)(h3:Al e s (qF l).J=some (b,xS))(h4:(Cm e (e.vs.c i nD) b (qF l).J l).1=0):
 nS e s l=⟨0,(Cm e (e.vs.c i nD) b (qF l).J l).2,b,xS⟩:=by
 unfold nS;rw[if_pos h1,h2];simp only;rw[h3];simp only;rw[if_pos h4]
theorem amr{s:oM}{t:Tu}{n:List UInt8}(h:Nj s t=some n):∃f,nL s.G t=some f/\f.E=n/\rP s.rZ n=true/\sJ (mq s.h) n=false:=by
 unfold Nj at h;split at h
 ·rename_i f hf
  split at h
  ·rename_i hc
   injection h with h
   subst h;simp only[bf,nZ]at hc;exact⟨f,hf,rfl,hc.1,hc.2⟩
  ·cases h
 ·cases h
theorem ams{s:oM}{t:Tu}{f:Fw}(hf:nL s.G t=some f)(h1:rP s.rZ f.E=true)(h2:sJ (mq s.h) f.E=false):Nj s t=some f.E:=by
 unfold Nj;rw[hf];simp only;rw[h1,h2];rfl
theorem Nk{f:Fw}:∀{l:List Fw},(∀x∈l,x.no<f.no)->ins kP f l=l++[f]
 | [],_=>by simp[ins]
 | x::l,h=>by
   have h1:=aiB (h x (by simp));have ih:=Nk (l:=l) (fun y hy=>h y (iX _ hy));unfold ins;rw[if_neg (by rw[h1.1];simp),ih];rfl
theorem amt{room:Int}{l:List Fw}{f:Fw}(hok:zR f=true)(h:∀x∈l,x.no<f.no):∃m,Bu room l f=m++[f]/\∀x∈m,x∈l/\x.key≠f.key:=by
 unfold Bu;rw[if_pos hok];split
 ·rw[Nk (fun x hx=>h x ((MH l f.key).subset hx))]
  exact⟨_,rfl,fun x hx=>⟨(MH l f.key).subset hx,alM x hx⟩⟩
 ·rename_i hn
  have hno:=zf (show nL l f.key=none by simpa using hn);split
  ·rw[Nk (fun x hx=>h x (vS hx))]
   exact⟨_,rfl,fun x hx=>⟨vS hx,hno x (vS hx)⟩⟩
  ·rw[Nk h]
   exact⟨_,rfl,fun x hx=>⟨hx,hno x hx⟩⟩
theorem ai8{m:List Fw}{f:Fw}(h:∀x∈m,x.key≠f.key):nL (m++[f]) f.key=some f:=by
 unfold nL;rw[List.find?_append];have:m.find? (rV f.key)=none:=by
  rw[uf];intro x hx;simp[rV,h x hx]
 rw[this];simp[rV]
theorem apK{ls:List (List UInt8)}{rZ:List Bk}{key:Vector UInt8 16}{n h:Nat}{m:List UInt8}(hp:lG n=true)(hpk:Gn (uw key n (kU ls rZ)) h=some m):∃x∈rZ,x.E=m/\x.drain=false/\sJ ls m=false:=by
 have h0:∀x∈kU ls rZ,0<=x.q:=fun x hx=>by
  unfold kU at hx;obtain⟨y,_,rfl⟩:=gT.1 hx;unfold Fy;simp only;split
  ·exact Int.le_refl _
  ·exact Int.natCast_nonneg _
 unfold Gn at hpk;rcases XC (key:=key) hp h0 with⟨h1,_⟩|⟨h1,h2⟩
 ·rw[h1]at hpk;simp at hpk
 ·have hn:0<n:=by
   rcases dW n with e|e
   ·subst e;rw[h1]at hpk;simp at hpk
   ·exact e
  rw[if_neg (by omega),h1]at hpk;injection hpk with hpk
  obtain⟨i,hi,hs⟩:=h2 (h%n) (fC _ hn);rw[hs,dQ,au,aC hi,jr]at hpk;have hm:m∈(uw key n (kU ls rZ)).h:=by rw[<-hpk];exact dX hi
  unfold uw at hm;simp only at hm;split at hm
  ·simp at hm
  ·obtain⟨x,hx,rfl⟩:=gT.1 hm
   obtain⟨hx1,hx2⟩:=kF.1 hx;unfold kU at hx1;obtain⟨y,hy,rfl⟩:=gT.1 hx1;refine⟨y,hy,rfl,?_⟩;unfold Fy at hx2 ⊢;simp only at hx2 ⊢;cases hd:y.drain<;>cases ho:sJ ls y.E<;>rw[hd,ho]at hx2<;>simp at hx2;exact⟨rfl,rfl⟩
theorem mE.srt{M:Int}{e:En}{s:oM}(h:mE M e s):DN s.rZ:=(uS.1 h.pl).2.2.2.2
theorem aaK{M:Int}{e:En}{s:oM}(h:mE M e s){t:Tu}{b:Bk}{xS:Bool}(hb:Al e s t=some (b,xS)):b∈s.rZ/\sJ (mq s.h) b.E=false/\(xS=true->Nj s t=some b.E)/\(xS=false->Nj s t=none/\Gn (zN e s) (ag7 e t)=some b.E):=by
 unfold Al at hb;cases hh:Nj s t with
 | some n=>
   rw[hh]at hb;simp only[Option.some.injEq,Prod.mk.injEq]at hb;obtain⟨rfl,rfl⟩:=hb;obtain⟨f,_,_,h1,h2⟩:=amr hh;obtain⟨g1,g2⟩:=JE h1;rw[g2];exact⟨g1,h2,fun _=>rfl,fun e=>by cases e⟩
 | none=>
   rw[hh]at hb;simp only at hb;cases hp:Gn (zN e s) (ag7 e t)with
   | none=>rw[hp]at hb;cases hb
   | some n=>
     rw[hp]at hb;simp only[mZ,Option.some.injEq,Prod.mk.injEq]at hb;obtain⟨rfl,rfl⟩:=hb;obtain⟨x,hx,hn,_,ho⟩:=apK (sP h.cn).1.2.2 hp;subst hn;rw[Um h.srt hx];exact⟨hx,ho,fun e=>(by cases e),fun _=>⟨rfl,rfl⟩⟩
theorem ahc(l:List UInt8):qG (IL l)=true:=by
 unfold qG IL;simp only[Bool.false_or,gF,beq_iff_eq];intro x hx;obtain⟨j,hj,rfl⟩:=kR.1 hx;simp only[pY,List.getElem_drop,Vector.getElem_toList,Vector.getElem_ofFn];rw[Yi,if_neg (by omega)]
theorem ahd(l:List UInt8):qG (aiN l)=true:=rfl
theorem arH{l:List UInt8}(h:(qF l).kind=0):Fe (qF l).J=true/\((qF l).J.aP=6\/(qF l).J.aP=17):=by
 have F:=Ng h;obtain⟨t1,t2,t3,t4⟩:=ai7 h;have hs:qG (qF l).J.h=true:=by rw[t1];split;exact ahd _;exact ahc _
 have hd:qG (qF l).J.Y=true:=by rw[t2];split;exact ahd _;exact ahc _
 have b1:=Nh l (qF l).tu.e;have b2:=Nh l ((qF l).tu.e+2);have hp:=F.pro;refine⟨?_,hp⟩;unfold Fe Wx;rw[hs,hd];simp only[bf,decide_eq_true_eq];have:=F.fam;refine⟨⟨⟨⟨⟨this,trivial⟩,trivial⟩,?_⟩,?_⟩,?_⟩<;>omega
theorem apL{M:Int}{e:En}{s:oM}(h:mE M e s){p:Pk}(hp:p.J.aP=6\/p.J.aP=17):1<=Vo s p/\Vo s p<=5:=by
 unfold Vo;cases hf:nL s.G p.J with
 | none=>
   simp only;unfold Tt
   repeat' split
   all_goals(first|omega|(rcases hp with hp|hp<;>simp_all))
 | some f=>
   simp only;have hk:=h.fl.ok f (vF hf).1;unfold zR at hk;simp only[bf,decide_eq_true_eq]at hk;have h1:1<=f.vN/\f.vN<=5:=by omega
   unfold abO
   repeat' split
   all_goals omega
theorem apM{M:Int}{e:En}{s:oM}(h:mE M e s)(hM:M<1152921504606846976){l:List UInt8}(hw:(nS e s l).gJ=0):zR (Qe s (qF l) (nS e s l).h.E)=true:=by
 obtain⟨hk,i,h1,h2,h3,h4⟩:=Vt hw;obtain⟨p1,p2⟩:=arH hk;have hb:=(aaK h h2).1;have hn:=apL h p2;have hnm:uO (nS e s l).h.E=true:=by
  have:=(uS.1 h.pl).2.2.2.1 _ hb;unfold Bk.AY at this;simp only[bf]at this;exact this.1.1.1.1.2
 have ht:=h.ti;have hno:=h.no;unfold zR Qe Wx;rw[p1,hnm];simp only[bf,decide_eq_true_eq];refine⟨⟨⟨⟨⟨trivial,trivial⟩,?_⟩,?_⟩,?_⟩,?_⟩<;>omega
theorem ai9{M:Int}{e:En}{s:oM}(h:mE M e s)(hM:M<1152921504606846976){l:List UInt8}(hw:(nS e s l).gJ=0):∃m,(lZ e s l).1.G=m++[Qe s (qF l) (nS e s l).h.E]/\nL (lZ e s l).1.G (qF l).J=some (Qe s (qF l) (nS e s l).h.E):=by
 obtain⟨m,h1,h2⟩:=amt (room:=e.c.Y) (l:=s.G) (apM h hM hw) (fun x hx=>by have:=(h.fw x hx).2.2;simp only[Qe];omega);unfold lZ;rw[if_pos hw];refine⟨m,h1,?_⟩;simp only;rw[h1];exact ai8 (fun x hx=>(h2 x hx).2)
theorem ai'{v:Int}{l:List Bk}(hs:DN l)(o:nK){x:Bk}(hx:x∈l)(hk:o.kind=2->o.E≠x.E):∃y∈Wm v l o,y.E=x.E/\y.h=x.h/\y.Y=x.Y/\y.Cg=x.Cg:=by
 by_cases hn:x.E=o.Xv
 ·unfold Wm
  split
  ·rename_i h
   obtain⟨_,_,_,h1,_,h6⟩:=Ot h;have hnew:o.kind≠1:=fun e=>by
    have e2:o.Xv=o.h.E:=if_pos e;have:=(h1 e).2.1;rw[e2]at hn;rw[(ab' hs).2 ⟨x,hx,hn⟩]at this;cases this
   have e2:o.Xv=o.E:=if_neg hnew;rw[e2]at hn;have hh:=h6 hnew;have hg:pO l o.E=x:=by rw[<-hn];exact Um hs hx
   unfold Iw;rw[if_neg hnew];by_cases h2:o.kind=2
   ·exact absurd hn.symm (hk h2)
   rw[if_neg h2,hg];have hl:=sw hh;have hnl:=Fv hh;by_cases h3:o.kind=3
   ·rw[if_pos h3]
    exact⟨_,(JF hs hl (z:=x.LV (j6 o.w)) (by rw[hnl];exact hn)).2 (.a rfl),rfl,rfl,rfl,rfl⟩
   ·rw[if_neg h3]
    exact⟨_,(JF hs hl (z:=x.toD (o.kind==4)) (by rw[hnl];exact hn)).2 (.a rfl),rfl,rfl,rfl,rfl⟩
  ·exact⟨x,hx,rfl,rfl,rfl,rfl⟩
 ·exact⟨x,aeM hs o hx hn,rfl,rfl,rfl,rfl⟩
theorem Yk{ls:List (List UInt8)}{s:List UInt8}:sJ ls s=true↔s∈ls:=by
 unfold sJ;rw[qR];constructor
 ·rintro⟨i,hi,h⟩
  have hi:=eu.1 hi;rw[au,aC hi]at h;simp at h;rw[<-h];exact dX hi
 ·intro h
  obtain⟨i,hi,rfl⟩:=kR.1 h;exact⟨i,eu.2 hi,by rw[au,aC hi];simp⟩
theorem apN{M:Int}{e:En}{s:oM}(h:mE M e s)(o:nK){n:List UInt8}(hn:sJ (mq s.h) n=false):sJ (mq (opE s o).1.h) n=false:=by
 unfold opE;split
 ·simp only
  cases hc:sJ (mq (Bn s.h ((Wm s.mQ s.rZ o).map (·.E)))) n with
  | false=>rfl
  | true=>
    exfalso;rw[Yk]at hc;unfold mq at hc;obtain⟨x,hx,rfl⟩:=gT.1 hc;obtain⟨hx1,hx2⟩:=kF.1 hx;unfold Bn at hx1;obtain⟨m,_,rfl⟩:=gT.1 hx1;rcases Yg s.h m with hm|hm
    ·have:sJ (mq s.h) (Aj s.h m).E=true:=by
      rw[Yk];unfold mq;exact gT.2 ⟨_,kF.2 ⟨hm,hx2⟩,rfl⟩
     rw[this]at hn;cases hn
    ·rw[hm]at hx2;simp at hx2
 ·exact hn
structure aaL(e:En)(s:oM)(t:Tu)(b:Bk):Prop where
 fl:∃f,nL s.G t=some f/\f.E=b.E
 h:∃y∈s.rZ,y.E=b.E/\y.h=b.h/\y.Y=b.Y/\y.Cg=b.Cg
 dn:sJ (mq s.h) b.E=false
theorem aaL.op{M:Int}{e:En}{s:oM}{t:Tu}{b:Bk}(k:aaL e s t b)(h:mE M e s)(o:nK)(hk:o.kind=2->o.E≠b.E):aaL e (opE s o).1 t b:=by
 obtain⟨f,hf,hfn⟩:=k.fl;obtain⟨y,hy,e1,e2,e3,e4⟩:=k.h;obtain⟨z,hz,g1,g2,g3,g4⟩:=ai' (v:=s.mQ) h.srt o hy (by rw[e1];exact hk);refine⟨⟨f,?_,hfn⟩,?_,apN h o k.dn⟩
 ·unfold opE;split<;>exact hf
 ·unfold opE
  split
  ·exact⟨z,hz,g1.trans e1,g2.trans e2,g3.trans e3,g4.trans e4⟩
  ·exact⟨y,hy,e1,e2,e3,e4⟩
theorem aaL.aC5{M:Int}{e:En}{s:oM}(h:mE M e s)(hM:M<1152921504606846976){l:List UInt8}(hw:(nS e s l).gJ=0):aaL e (lZ e s l).1 (qF l).J (nS e s l).h:=by
 obtain⟨m,h1,h2⟩:=ai9 h hM hw;obtain⟨_,i,_,hb,_⟩:=Vt hw;obtain⟨b1,b2,_⟩:=aaK h hb;refine⟨⟨_,h2,rfl⟩,⟨(nS e s l).h,?_,rfl,rfl,rfl,rfl⟩,?_⟩
 ·unfold lZ;rw[if_pos hw];exact b1
 ·unfold lZ;rw[if_pos hw];exact b2
theorem amu{e:En}{v:Vp}{b c:Bk}{t:Tu}{l:List UInt8}(h1:c.h=b.h)(h2:c.Y=b.Y)(h3:c.Cg=b.Cg):Cm e v c t l=Cm e v b t l:=by unfold Cm;rw[h1,h2,h3]
theorem aaL.again{M:Int}{e:En}{s s0:oM}{l:List UInt8}(k:aaL e s (qF l).J (nS e s0 l).h)(h:mE M e s)(hw:(nS e s0 l).gJ=0):(nS e s l).gJ=0/\(nS e s l).xS=true/\(nS e s l).h.E=(nS e s0 l).h.E/\(nS e s l).i=(nS e s0 l).i:=by
 obtain⟨hk,i,h1,h2,h3,h4⟩:=Vt hw;obtain⟨f,hf,hfn⟩:=k.fl;obtain⟨y,hy,e1,e2,e3,e4⟩:=k.h;have hn:rP s.rZ f.E=true:=(ab' h.srt).2 ⟨y,hy,by rw[e1,hfn]⟩;have hh:=ams hf hn (by rw[hfn];exact k.dn);have hb:Al e s (qF l).J=some (y,true):=by
  unfold Al;rw[hh];simp only;rw[hfn,<-e1,Um h.srt hy]
 have ho:=amu (e:=e) (v:=e.vs.c i nD) (t:=(qF l).J) (l:=l) e2 e3 e4;rw[aub hk h1 hb (by rw[ho];exact h3)];exact⟨rfl,rfl,e1,by simp only;rw[ho,h4]⟩
def amv(c:Cn)(h:Hl)(n:List UInt8):Bool:=(h.E==n)&&(decide (0<=h.I)&&decide (h.I<if h.down then c.kg else c.fall))
def I4(c:Cn)(s:oM)(k:Nat):Bool:=amv c (s.h.c k lC) (s.rZ.c k jk).E
def Yl(l:List Fw)(k:Nat):Bool:=(l.d k).any (rV (l.c k kN).key)
def QZ(s:oM)(k:Nat):Bool:=zR (s.G.c k kN)&&(decide ((s.G.c k kN).seen<=s.gL)&&(decide (1<=(s.G.c k kN).no)&&(decide ((s.G.c k kN).no<=s.no)&&(!Yl s.G k&&(decide (k=0)||kP (s.G.c (k-1) kN) (s.G.c k kN))))))
def ac'(s:oM):Bool:=Wx s.gL 1099511627776&&(Wx s.no 1152921504606846976&&s.Y.a.all (Wx · 1152921504606846976))
def Vu(c:Cn)(vs:List Vp)(s:oM):Bool:=xZ c vs&&(xQ s.mQ s.rZ&&(decide (s.h.a=s.rZ.a)&&decide ((s.G.a:Int)<=c.Y)))
def zm(c:Cn)(vs:List Vp)(s:oM):Bool:=Vu c vs s&&(ac' s&&((dV s.h.a).all (I4 c s)&&(dV s.G.a).all (QZ s)))
theorem aja{α:Type}{lt:α->α->Bool}(hs:Il lt){l:List α}(h:∀(i:Nat)(hi:i+1<l.a),lt (l[i]'(by omega)) l[i+1]=true):Zj lt l:=by
 unfold Zj;rw[fO];intro i j hi hj hij;obtain⟨d,rfl⟩:∃d,j=i+1+d:=⟨j-i-1,by omega⟩
 induction d with
 | zero=>exact h i hj
 | succ d ih=>exact hs.tr _ _ _ (ih (by omega) (by omega)) (h (i+1+d) hj)
theorem uJ{α:Type}{l:List α}{d:α}{k:Nat}(hk:k<l.a):l.c k d=l[k]:=by
 rw[au,aC hk,jr]
theorem ajb{room:Int}{s:oM}(hl:(s.G.a:Int)<=room)(h:∀k,k<s.G.a->QZ s k=true):wF room s.G/\∀f∈s.G,f.seen<=s.gL/\1<=f.no/\f.no<=s.no:=by
 have H:∀(k:Nat)(hk:k<s.G.a),zR s.G[k]=true/\(s.G[k].seen<=s.gL/\1<=s.G[k].no/\s.G[k].no<=s.no)/\Yl s.G k=false/\(k=0\/kP (s.G.c (k-1) kN) s.G[k]=true):=fun k hk=>by
  have:=h k hk;unfold QZ at this;rw[uJ hk]at this;simp only[bf,decide_eq_true_eq,nZ,ny]at this;exact⟨this.1,⟨this.2.1,this.2.2.1,this.2.2.2.1⟩,this.2.2.2.2.1,this.2.2.2.2.2⟩
 refine⟨⟨aja tK (fun i hi=>?_),?_,?_,hl⟩,fun f hf=>?_⟩
 ·rcases(H (i+1) hi).2.2.2 with e|e
  ·omega
  ·rw[Nat.add_sub_cancel,uJ (by omega)]at e;exact e
 ·rw[fO]
  intro i j hi hj hij e;have h1:=(H j hj).2.2.1;unfold Yl at h1;rw[uJ hj,qh]at h1;refine h1 s.G[i] ?_ (by simp[rV,e]);rw[rM];exact⟨i,by omega,rfl⟩
 ·intro x hx
  obtain⟨k,hk,rfl⟩:=kR.1 hx;exact(H k hk).1
 ·obtain⟨k,hk,rfl⟩:=kR.1 hf
  exact(H k hk).2.1
theorem afB{c:Cn}{vs:List Vp}{s:oM}(key:Vector UInt8 16)(h:zm c vs s=true)(hf:∀x∈s.rZ,x.rE):mE 1152921504606846976 ⟨key,c,vs⟩ s:=by
 unfold zm Vu ac' Wx at h;simp only[bf,decide_eq_true_eq,gF,eu]at h;obtain⟨⟨h1,h2,h3,h4⟩,⟨h5,h6,h7⟩,h8,h9⟩:=h;obtain⟨f1,f2⟩:=ajb h4 h9;have H:∀(k:Nat)(hk:k<s.h.a),s.h[k].E=(s.rZ[k]'(by omega)).E/\0<=s.h[k].I/\s.h[k].I<(if s.h[k].down then c.kg else c.fall):=fun k hk=>by
  have:=h8 k hk;unfold I4 amv at this;rw[uJ hk,uJ (by omega)]at this;simpa using this
 refine⟨h1,h2,hf,?_,?_,f1,f2,by omega,by omega,h7⟩
 ·apply List.ext_getElem (by simpa using h3)
  intro i hi1 hi2;simp only[List.getElem_map];exact(H i (by simpa using hi1)).1
 ·intro x hx
  obtain⟨k,hk,rfl⟩:=kR.1 hx;exact(H k hk).2
theorem mE.right{M:Int}{e:En}{s:oM}(h:mE M e s)(hM:M<=1152921504606846976):zm e.c e.vs s=true:=by
 have hlen:s.h.a=s.rZ.a:=by have:=congrArg List.length h.nm;simpa using this
 unfold zm Vu ac' Wx;simp only[bf,decide_eq_true_eq,gF,eu];refine⟨⟨h.cn,h.pl,hlen,h.fl.len⟩,⟨h.ti,by have:=h.no;omega,fun n hn=>by have:=h.ct n hn;omega⟩,fun k hk=>?_,fun k hk=>?_⟩
 ·unfold I4 amv
  rw[uJ hk,uJ (show k<s.rZ.a by omega)];have e1:s.h[k].E=(s.rZ[k]'(by omega)).E:=by
   have:=List.getElem_of_eq h.nm (i:=k) (by simpa using hk);simpa using this
  have:=h.hl _ (dX hk);simp only[bf,decide_eq_true_eq,beq_iff_eq];exact⟨e1,this⟩
 ·unfold QZ
  rw[uJ hk];have h1:=h.fw _ (dX hk);simp only[bf,decide_eq_true_eq,nZ,ny];refine⟨h.fl.ok _ (dX hk),h1.1,h1.2.1,h1.2.2,?_,?_⟩
  ·unfold Yl
   rw[uJ hk,qh];intro x hx;rw[rM]at hx;obtain⟨i,hi,rfl⟩:=hx;have:=fO.1 h.fl.one i k (by omega) hk (by omega);simpa[rV]using this
  ·rcases dW k with e|e
   ·exact .a e
   ·right
    rw[uJ (by omega)];exact fO.1 h.fl.asc (k-1) k (by omega) hk (by omega)
theorem amw{room:Int}{l:List Fw}{k:Nat}(h:wF room l)(hk:k<l.a):Bu room (l.d k) (l.c k kN)=l.d (k+1):=by
 rw[uJ hk];have hn:nL (l.d k) l[k].key=none:=by
  unfold nL;rw[uf];intro x hx;rw[rM]at hx;obtain⟨i,hi,rfl⟩:=hx;have:=fO.1 h.one i k (by omega) hk (by omega);simpa[rV]using this
 have hlen:=h.len;unfold Bu;rw[if_pos (h.ok _ (dX hk)),hn,if_neg (by simp),if_neg (by rw[bJ];omega),abZ (fun x hx=>tK.asy ?_),dP hk];rw[rM]at hx;obtain⟨i,hi,rfl⟩:=hx;exact fO.1 h.asc i k (by omega) hk (by omega)
theorem JN{c:Cn}{vs:List Vp}(key:Vector UInt8 16)(h:xZ c vs=true):mE 0 ⟨key,c,vs⟩ xB:=by
 have hr:=(sP h).2.1;refine⟨h,uS.2 ⟨?_,?_,?_,?_,?_⟩,(fun x hx=>by cases hx),rfl,(fun x hx=>by cases hx),.nil ?_,(fun x hx=>by cases hx),?_,?_,fun n hn=>?_⟩
 ·simp[xB]
 ·simp[xB]
 ·simp[xB]
 ·intro x hx;cases hx
 ·exact List.Pairwise.nil
 ·show 0<=c.Y;omega
 ·simp[xB]
 ·simp[xB]
 ·simp[xB]at hn;omega
def zV(z:Int):Bool:=decide (z<0)||decide (1152921504606846976<z)
theorem ajc(z:Int):zV z = !Wx z 1152921504606846976:=by
 unfold zV Wx;rw[Bool.eq_iff_iff];simp only[ny,decide_eq_true_eq,nZ,Bool.and_eq_false_iff,decide_eq_false_iff_not];omega
theorem aaM(z:Int)(w:ak):aQ ah 47 #[.b .a z] w fun e w'=>e=.a (.e (zV z))/\w=w':=by
 have HB:=ab (show zV z=(decide (z<0)||decide (1152921504606846976<z))from rfl);go_enter Tryz.func47,Tryz.ntmps47;go_wp2
 all_goals(go_ret;refine⟨?_,rfl⟩;rw[HB.i];simp_all)
theorem ada(args:Array aB)(w:ak):(callFunc 47 args).I ah w=.ok (.enter 47 args) w:=by kernel_rfl
theorem RdI.fD{w:ak}{B n:Nat}{A:Option aT}{l:List Int}(h:RdI w B A n l){k:Nat}(hk:k<n):∃b o,A=some ⟨b,o,none⟩/\w.b ⟨b,o+k,none⟩=some (.b .a (l.c k 0)):=by
 obtain⟨b,o,hA,hb,hc⟩:=iR.cell (f:=FC) (s:=1) (fun _=>rfl) 0 h hk;refine⟨b,o,hA,?_⟩;have:=hc 0 (by omega);rw[gB,nE]at this;exact this
theorem aud(A:Option aT)(n c B:Nat)(w:ak)(l:List Int)(hc:n<=1000000000)(hr:RdI w B A n l):
 aQ ah 114 #[.a A n c,.func (.func 47) #[] #[]] w fun e w'=>∃r:Int,e=.a (.b .a r)/\(decide (0<=r)=l.any zV)/\w=w':=by
 have hen:=ada;have GG:=ab aaM;have HR:=ab hr;have hl:=ab hr.len;clear hr;go_enter Tryz.func114,Tryz.ntmps114;go_wp2;go_loop [8] (fun s8=>∃i:Nat,i<=n/\s8=.b .a i/\∀j,j<i->zV (l.c j 0)=false) (fun s8=>n-(intOf s8).e)
 case atStart=>exact⟨0,by omega,rfl,fun j h1=>by omega⟩
 case round=>
  obtain⟨i,hi,rfl,hall⟩:=hrel;have HA:=ab hall;clear hall;by_cases hlt:i<n
  ·have hin:(i:Int)<n:=by omega
   obtain⟨b,o,rfl,hcell⟩:=HR.i.fD hlt;have HG:=ab (uJ (l:=l) (d:=0) (k:=i) (by rw[hl.i];exact hlt));obtain⟨m,hm⟩:=dw (l.c i 0);rw[<-hm]at hcell;have HM:=ab hm;clear hm;obtain⟨k,hk⟩:=tV (zV m);have HK:=ab hk;have G1:=ab (fun w=>GG.i m w);rw[hk]at G1;clear hk;cases k
   ·go_wp2_with (refine(G1.i _).g ?_;rintro e w' ⟨rfl,rfl⟩)
    go_round
    case rel=>exact⟨i+1,by omega,by go_num,fun j h1=>by
     by_cases hji:j=i
     ·rw[hji,<-HM.i];exact HK.i
     ·exact HA.i j (by omega)⟩
    case measure=>simp[intOf]<;>omega
   ·have EZ:=ab (show l.any zV=true from qR.2 ⟨m,by rw[HM.i,HG.i];exact dX _,HK.i⟩)
    go_wp2_with (refine(G1.i _).g ?_;rintro e w' ⟨rfl,rfl⟩);go_ret;exact⟨_,rfl,by rw[EZ.i];simp,rfl⟩
  ·obtain rfl:i=n:=by omega
   have HS:=ab (show l.any zV=false from qh.2 (fun x hx=>by
    obtain⟨j,hj,rfl⟩:=kR.1 hx;have:=HA.i j (by rw[hl.i]at hj;exact hj);rw[uJ hj]at this;simp[this]))
   go_wp2;go_ret;exact⟨_,rfl,by rw[HS.i];simp,rfl⟩
theorem aue(A:Option aT)(n c B:Nat)(w:ak)(l:List Int)(hc:n<=1000000000)(hr:RdI w B A n l):
 aQ ah 46 #[.a A n c,.func (.func 47) #[] #[]] w fun e w'=>e=.a (.e (l.any zV))/\w=w':=by
 have I:=ab (aud A n c B w l hc hr);clear hr;go_enter Tryz.func46,Tryz.ntmps46;go_wp2_with (go_at_call 114;refine I.i.g ?_;rintro e w' ⟨r,rfl,hr,rfl⟩);go_ret;exact⟨by simp,rfl⟩
theorem apO(v:Vector Int 11):(v.a.any zV) = !v.a.all (Wx · 1152921504606846976):=by
 rw[List.not_all_eq_any_not];congr 1;funext z;exact ajc z
structure Sl where
 abW:Bool
 qU:Fw
def Sl.ay(x:Sl):Array aB:=#[.e x.abW]++x.qU.ay
theorem Sl.G(x:Sl):x.ay.j=42:=by simp[Sl.ay,Fw.G]
theorem Sl.cK(x:Sl):x.ay.all (·.h)=true:=gX ((by simp[cO])) (Fw.cK _)
@[go_sem]theorem Sl.eD(x:Sl):eD x.ay=42:=Sl.G x
@[go_sem]theorem Sl.all(x:Sl):x.ay.m 0 42=x.ay:=by have:=Sl.G x;rw[<-this];simp
@[go_sem]theorem Sl.Nl(x:Sl):x.ay[0]? = some (.e x.abW):=by simp[Sl.ay,aD,Fw.G]
@[go_sem]theorem Sl.Sb(x:Sl):x.ay.m 1 42=x.qU.ay:=by simp[Sl.ay,dA,Fw.G,pR,tX]
def FV:Sl:=⟨false,kN⟩
@[go_sem]theorem ayd:bY #[bL false,bL false,aA,aA,aA,aA,aA,aA,aA,aA,aA,aA,aA,aA,aA,aA,aA,aA,bL false,aA,aA,aA,aA,aA,aA,aA,aA,aA,aA,aA,aA,aA,aA,aA,aA,bg,bg,bg,iC {data:=#[]},bg,bg,bg]=bY FV.ay:=rfl
@[go_sem]theorem auf:eB #[bL false,bL false,aA,aA,aA,aA,aA,aA,aA,aA,aA,aA,aA,aA,aA,aA,aA,aA,bL false,aA,aA,aA,aA,aA,aA,aA,aA,aA,aA,aA,aA,aA,aA,aA,aA,bg,bg,bg,iC {data:=#[]},bg,bg,bg] 213=eB FV.ay 213:=rfl
theorem kSl:oN 213 42 FV.ay:=⟨⟨_,um,rfl⟩,by kernel_rfl,by kernel_rfl,Sl.G _⟩
@[go_sem ↓]theorem aI8(v:aB):cu 213 v=yH 213 v:=rfl
@[go_sem ↓]theorem aI9(v x:aB):eF 213 v x=yR 213 v x:=rfl
@[go_sem]theorem aF7(W:ak)(b o:Nat)(h:xA W b o 42):(yH 213 (.c (some ⟨b,o,none⟩))).I ah W=.ok (.d (dY W b o 42)) W:=kSl.ld W b o h
@[go_sem]theorem aC6(W:ak)(c:Array aB)(x:Sl)(b:Nat)(hb:b=W.a.j)(hc:eD c=42):(yR 213 (.c (some ⟨b,0,none⟩)) (.d x.ay)).I ah (W.alloc (.D c 213))=.ok () (W.alloc (.D x.ay 213)):=kSl.stN W c x.ay b hb hc (Sl.G x) (Sl.cK x)
@[go_sem]theorem aF8(W:ak)(b o:Nat)(x:Sl)(h:W.O b o 42):(yR 213 (.c (some ⟨b,o,none⟩)) (.d x.ay)).I ah W=.ok () (gN W b o x.ay):=kSl.st W b o x.ay h (Sl.G x) (Sl.cK x)
@[go_sem ↓]theorem aI'(ps:Array (Nat×aB)):fI 213 ps=uL 213 ps:=rfl
theorem aye(w:ak)(fs:Array nU)(h:ah.k 213=some (.struct fs)):(iA (fun f=>Prod.mk f.Z <$> sizeOf f.type) fs:Sem (Array (Nat×Nat))).I ah w=.ok #[(0,1),(1,41)] w:=by
 have e:=um;rw[h]at e;cases e;show _=_
 kernel_rfl
@[go_sem]theorem aC7(W:ak):(uL 213 #[]).I ah W=.ok (.d FV.ay) W:=kSl.bd0 W _ um ⟨_,aye W _ um⟩
@[go_sem]theorem ayf(W:ak)(abW:Bool)(qU:Fw):(uL 213 #[(0,.e abW),(1,.d (qU.ay))]).I ah W=.ok (.d (Sl.mk abW qU).ay) W:=kSl.bd W _ _ _ _ um (aye W _ um) (by
 refine uU (Sl.G _) ?_ ?_
 ·simp[rF,bW,Fw.G]
 ·simp[qO,bW,Sl.ay]<;>(simp only[<-Array.append_assoc];rfl))
structure Tk where
 key:Vector UInt8 16
 Y:Int
 count:Int
 qM:Option aT
 pU:Nat
 yh:Nat
def Tk.ay(x:Tk):Array aB:=iZ x.key ++ #[.b .a x.Y,.b .a x.count,.a x.qM x.pU x.yh]
theorem Tk.G(x:Tk):x.ay.j=19:=by simp[Tk.ay,dK]
@[go_sem]theorem Tk.aaN(x:Tk):x.ay.m 0 16=iZ x.key:=by simp[Tk.ay,dA,dK,pR,tX]
@[go_sem]theorem Tk.Rw(x:Tk):x.ay[16]? = some (.b .a x.Y):=by simp[Tk.ay,aD,dK]
@[go_sem]theorem Tk.adb(x:Tk):x.ay[17]? = some (.b .a x.count):=by simp[Tk.ay,aD,dK]
@[go_sem]theorem Tk.yj(x:Tk):x.ay[18]? = some (.a x.qM x.pU x.yh):=by simp[Tk.ay,aD,dK]
theorem Tk.OX(x:Tk)(v:Int):x.ay.b 17 (.b .a v)=({x with count:=v}:Tk).ay:=by simp[Tk.ay,aL,dK]
def ajd:Tk:=⟨(bF 16 0),0,0,none,0,0⟩
@[go_sem]theorem ayg:bY #[aA,aA,aA,aA,aA,aA,aA,aA,aA,aA,aA,aA,aA,aA,aA,aA,bg,bg,bD none 0 0]=bY ajd.ay:=rfl
@[go_sem]theorem aug:eB #[aA,aA,aA,aA,aA,aA,aA,aA,aA,aA,aA,aA,aA,aA,aA,aA,bg,bg,bD none 0 0] 207=eB ajd.ay 207:=rfl
theorem kTk:oN 207 19 ajd.ay:=⟨⟨_,Dp,rfl⟩,by kernel_rfl,by kernel_rfl,Tk.G _⟩
@[go_sem ↓]theorem aJb(v:aB):cu 207 v=yH 207 v:=rfl
@[go_sem ↓]theorem aJc(v x:aB):eF 207 v x=yR 207 v x:=rfl
@[go_sem ↓]theorem aJd(ps:Array (Nat×aB)):fI 207 ps=uL 207 ps:=rfl
theorem aC8(w:ak)(fs:Array nU)(h:ah.k 207=some (.struct fs)):(iA (fun f=>Prod.mk f.Z <$> sizeOf f.type) fs:Sem (Array (Nat×Nat))).I ah w=.ok #[(0,16),(16,1),(17,1),(18,1)] w:=by
 have e:=Dp;rw[h]at e;cases e;show _=_
 kernel_rfl
def wo:Option Fw->Sl
 | none=>FV
 | some f=>⟨true,f⟩
theorem I5(o:Option Fw):(wo o).abW=o.isSome:=by cases o<;>rfl
def slC(o:Option Fw):Array aB:=(wo o).ay
theorem Ev(o:Option Fw):(slC o).j=42:=Sl.G _
section
attribute [local go_sem high] iU jE
theorem xH(w:ak):∃(T:Type)(f:T->ak)(n0:T),f n0=w.drew/\(∀n,aM w.a.j w (f n))/\(∀W,aM w.a.j w W->∃n,W=f n):=Ic (aM w.a.j w) w (aG _ _).drew
theorem ade(n:Nat)(z:Int)(hz:z=n)(hn:n<=4)(p:Nat)(s:S4)(hs:s.ok)(W:ak)(hb:dL W p s.ay):aQ ah 183 #[.c (some ⟨p,0,none⟩),.b .a z] W fun e W'=>e=.a (.J #[])/\dL W' p (zD J5 n s).ay/\W.d W' (some p):=by subst hz;exact aew n hn p s hs W hb
theorem adf(p:Nat)(s:S4)(n:Nat)(hs:s.ok)(hn:n<18446744073709551616)(W:ak)(hb:dL W p s.ay):aQ ah 182 #[.c (some ⟨p,0,none⟩),.b .c n] W fun e W'=>e=.a (.J #[])/\dL W' p (TL s n).ay/\W.d W' (some p):=by
 obtain⟨a,b,c,d⟩:=s;have HS:=ab hs;obtain⟨y1,y2,y3,y4,y5⟩:=hb.num;simp only[S4.ok]at hs y1 y2 y3 y4;have e1:=pJ d n hs.2.2.2 hn;have OK1:=ab (agE HS.i hn);have X1:=ab (hb.p3 (d ^^^ n));have G1:=ab (xM (agD W (some p)) (p:=⟨p,3,none⟩) (.a rfl) (.b .c (d ^^^ n:Nat)));have OK2:=ab (LZ 2 _ OK1.i);have C:=ab (ade 2 2 rfl (by omega) p (akS ⟨a,b,c,d⟩ n) OK1.i _ X1.i);have HW:=ab (show TL ⟨a,b,c,d⟩ n=asC (zD J5 2 (akS ⟨a,b,c,d⟩ n)) n from rfl);obtain⟨t,ht⟩:=dw (zD J5 2 (akS ⟨a,b,c,d⟩ n));rw[<-ht]at OK2 C HW;have HN:=ab hn;obtain⟨ta,tb,tc,td⟩:=t;have e2:=pJ ta n OK2.i.1 hn;clear ht hs hb hn;rw[HW.i];go_enter Tryz.func182,Tryz.ntmps182;go_wp2_with (go_at_call 183;go_loud (with_reducible refine C.i.g ?_);rintro e w2 ⟨rfl,hb2,hg2⟩;obtain⟨z1,z2,z3,z4,z5⟩:=hb2.num;have zz:=z5 0;have X2:=ab hb2;have G2:=ab hg2;clear hb2 hg2);go_end0;exact⟨rfl,X2.i.p0 _,xM (LC G1.i G2.i) (p:=⟨p,0,none⟩) (.a rfl) _⟩
theorem amx{W:ak}{q:Nat}{k:Vector UInt8 16}(h:dL W q (iZ k))(o m:Nat)(ho:o+m<=16):fP W W.a.j (some ⟨q,o,none⟩) m ((k.a.f o).d m):=by
 refine⟨by simp;omega,fun _=>⟨_,rfl,h.lt,fun j u hu=>?_⟩⟩;have hj:j<m:=by
  rcases aZ j m with hj|hj
  ·exact hj
  ·rw[aS (by simp;omega)]at hu;cases hu
 rw[iD,h.K.1,<-hu];simp[iZ,jf,hj,je]
theorem kS4:oN 280 4 (S4.mk 0 0 0 0).ay:=⟨⟨_,Dq,rfl⟩,by kernel_rfl,by kernel_rfl,rfl⟩
@[go_sem ↓]theorem aJf(ps:Array (Nat×aB)):fI 280 ps=uL 280 ps:=rfl
theorem aC9(w:ak)(fs:Array nU)(h:ah.k 280=some (.struct fs)):(iA (fun f=>Prod.mk f.Z <$> sizeOf f.type) fs:Sem (Array (Nat×Nat))).I ah w=.ok #[(0,1),(1,1),(2,1),(3,1)] w:=by
 have e:=Dq;rw[h]at e;cases e;show _=_
 kernel_rfl
@[go_sem]theorem ayh(W:ak)(a b c d:Nat):(uL 280 #[(0,.b .c a),(1,.b .c b),(2,.b .c c),(3,.b .c d)]).I ah W=.ok (.d (S4.mk a b c d).ay) W:=kS4.bd W _ _ _ _ Dq (aC9 W _ Dq) (by
 refine uU rfl ?_ ?_
 ·simp[rF,bW,S4.ay]
 ·simp[qO,bW,S4.ay])
theorem adg(x y:Nat)(hx:x<256)(hy:y<72057594037927936):bits .or .c ((x*72057594037927936:Nat):Int) (y:Int)=((y+x*72057594037927936:Nat):Int):=by
 rw[bits_or_u64_nat _ _ (by omega) (by omega)];congr 1;have h:=Nat.two_pow_add_eq_or_of_lt (i:=56) (b:=y) (by simpa using hy) x;rw[show(2:Nat)^56=72057594037927936 by decide,Cu]at h;omega
theorem auh{W:ak}{q:Nat}{k:Vector UInt8 16}(h:dL W q (iZ k)):aQ ah 180 #[.a (some ⟨q,0,none⟩) 8 16,.e false] W (gU W (.b .c (leN (k.a.d 8)))):=by
 have:=KV _ 8 16 _ W (by omega) (by omega) (amx h 0 8 (by omega));rw[kW,vP]at this;exact this
theorem aui{W:ak}{q:Nat}{k:Vector UInt8 16}(h:dL W q (iZ k)):aQ ah 180 #[.a (some ⟨q,8,none⟩) 8 8,.e false] W (gU W (.b .c (leN (k.a.f 8)))):=by
 have:=KV _ 8 8 _ W (by omega) (by omega) (amx h 8 8 (by omega));rw[vP]at this;have e:(k.a.f 8).d 8=k.a.f 8:=aK (by simp);rw[show min 8 8=8 from rfl,e]at this;exact this
theorem Mw.go{W W':ak}{l:List WL}{bss:List (List UInt8)}(h:Mw W W.a.j l bss)(hb:aM W.a.j W W'):Mw W' W'.a.j l bss:=⟨h.1,fun i hi=>((h.2 i hi).S hb).lu hb.j⟩
theorem aje(l:List WL)(bss:List (List UInt8))(A:Option aT)(n c:Nat)(w:ak)(hR:RdS w w.a.j A n l)(hH:Mw w w.a.j l bss)(hn:n<=1000)(hs:yF l<=1000000000)(bs:List UInt8)(m:Nat)(hbs:bss.flatten=bs)(hm:bs.a=m):
 aQ ah 181 #[.a A n c] w fun e w'=>∃A1 c1,e=.a (.a A1 m c1)/\(m<=c1/\c1<=maxLen)/\fP w' w'.a.j A1 m bs/\(∀a,A1=some a->w.a.j<=a.block)/\aM w.a.j w w':=by
 subst hbs hm;refine(KW l bss A n c w hR hH hn hs).g ?_;rintro e w' ⟨v,rfl,ho,hb⟩;obtain⟨A1,c1,rfl,h1,h2⟩:=jS ho;exact⟨A1,c1,rfl,⟨h1,h2⟩,fP.iY ho,fun a ha=>(ho.lt a.block (by rw[ha];rfl)).1,hb⟩
def WR(s:S4)(l:List UInt8)(e:Nat):Nat:=akU ((Ol (l.a/8) l e).foldl TL s)
theorem ajf(s:S4)(l:List UInt8)(e:Nat)(h:8<=l.a):WR s l e=WR (TL s (leN (l.d 8))) (l.f 8) e:=by
 unfold WR;rw[show l.a/8=(l.f 8).a/8+1 by rw[jw];omega,Ol,jU]
theorem ajg(s:S4)(l:List UInt8)(e:Nat)(h:l.a<8):WR s l e=akU (TL s (leN l+e*72057594037927936)):=by
 unfold WR;rw[show l.a/8=0 by omega];rfl
theorem Ym(key:Vector UInt8 16)(l:List WL)(bss:List (List UInt8))(A:Option aT)(n c:Nat)(w:ak)(hR:RdS w w.a.j A n l)(hH:Mw w w.a.j l bss)(hn:n<=1000)(hs:yF l<=100000000)(bs:List UInt8)(hbs:bss.flatten=bs)(hl:bs.a<=100000000):
 aQ ah 97 #[.d (iZ key),.a A n c] w (gU w (.b .c (xU key bs))):=by
 obtain⟨m,hm⟩:=tV bs.a;have HM:=ab hm;have HBS:=ab hbs;have HT:=ab (show xU key bs=WR (aox key) bs (bs.a%256)from rfl);rw[hm]at hl HT;clear hm hbs;have HR:=ab hR;have HH:=ab hH;have Z0:=ab ((Bx.start w).new (iZ key) 22);clear hR hH;go_enter Tryz.func97,Tryz.ntmps97;go_upto_region 1 with fail
 generalize w.alloc (.D (iZ key) 22)=w1 at Z0 ⊢;obtain⟨k0,hk0⟩:∃k,k=leN (key.a.d 8):=⟨_,rfl⟩
 obtain⟨k1,hk1⟩:∃k,k=leN (key.a.f 8):=⟨_,rfl⟩
 have HS:=ab (show aox key=⟨k0 ^^^ 8317987319222330741,k1 ^^^ 7237128888997146477,k0 ^^^ 7816392313619706465,k1 ^^^ 8387220255154660723⟩by rw[hk0,hk1];rfl);have b0:k0<18446744073709551616:=by rw[hk0];exact JB _ (by simp)
 have b1:k1<18446744073709551616:=by rw[hk1];exact JB _ (by simp)
 have Jt:=ab (agF key);obtain⟨T,f,n0,E0,es,ew⟩:=xH (w1);have hT:Nonempty T:=⟨n0⟩
 have ES:=ab es;have EW:=ab ew;have C0:=ab (fun m=>auh (Z0.i.go (es m)).X);have C1:=ab (fun m=>aui (Z0.i.go (es m)).X);rw[<-hk0]at C0;rw[<-hk1]at C1;clear es ew;refine pE f (by kernel_rfl) (by kernel_rfl) n0 E0 ?_
 repeat(go_big_quiet_step ((first|(go_at_call 180;(with_reducible refine(C0.i _).g ?_);rintro e w2 ⟨rfl,hb⟩;exact⟨rfl,EW.i _ ((ES.i _).trans (hb.g (ES.i _).j))⟩)|(go_at_call 180;(with_reducible refine(C1.i _).g ?_);rintro e w2 ⟨rfl,hb⟩;exact⟨rfl,EW.i _ ((ES.i _).trans (hb.g (ES.i _).j))⟩))))
 refine gW ?_;rintro _ ⟨m',rfl⟩;have HB:=ab (ES.i m');generalize f m'=wN at *;clear ES EW E0 hT n0;have Z1:=ab (Z0.i.go HB.i);clear HB C0 C1 hk0 hk1 Z0;have x0:bits .xor .c (k0:Int) 8317987319222330741=((k0 ^^^ 8317987319222330741:Nat):Int):=pJ k0 8317987319222330741 b0 (by decide);have x1:bits .xor .c (k1:Int) 7237128888997146477=((k1 ^^^ 7237128888997146477:Nat):Int):=pJ k1 7237128888997146477 b1 (by decide);have x2:bits .xor .c (k0:Int) 7816392313619706465=((k0 ^^^ 7816392313619706465:Nat):Int):=pJ k0 7816392313619706465 b0 (by decide);have x3:bits .xor .c (k1:Int) 8387220255154660723=((k1 ^^^ 8387220255154660723:Nat):Int):=pJ k1 8387220255154660723 b1 (by decide);obtain⟨S,hS⟩:=dw (S4.mk (k0 ^^^ 8317987319222330741) (k1 ^^^ 7237128888997146477) (k0 ^^^ 7816392313619706465) (k1 ^^^ 8387220255154660723));go_upto_region 3 with fail
 rw[<-hS]at HS ⊢;rw[HS.i]at Jt;have Z2:=ab (Z1.i.new S.ay 280);have HPW:=ab Z1.i.R.j;clear hS x0 x1 x2 x3 b0 b1;generalize wN.alloc (.D S.ay 280)=w3 at Z2 ⊢;generalize wN.a.j=p at *;have HP3:=ab Z2.i.X.lt;have CC:=ab (aje l bss A n c w3 (Z2.i.rdR HR.i) (HH.i.go Z2.i.R) hn (by omega) bs m HBS.i HM.i);go_upto_region 4 with(go_at_call 181;(with_reducible refine CC.i.g ?_);rintro e w4 ⟨A1,c1,rfl,hc1,hrd,hbk,hb⟩;have RD:=ab hrd;have HC1:=ab hc1;have HBK:=ab hbk;have Z4:=ab (Z2.i.go hb);clear hrd hb hc1 hbk)
 clear CC Z2;have v1:jo.wrap (m:Int)=m:=by rw[jR];omega
 have v2:jo.wrap ((m:Int)*72057594037927936)=((m%256*72057594037927936:Nat):Int):=by rw[jR];omega
 obtain⟨e8,he8⟩:∃e,e=m%256:=⟨_,rfl⟩
 rw[<-he8]at v2 HT;have he9:e8<256:=by omega
 rw[HS.i]at HT;obtain⟨eN,heN⟩:∃e,e=e8*72057594037927936:=⟨_,rfl⟩
 rw[<-heN]at v2;have HEN:=ab heN;clear he8 heN;go_wp2;go_loopw [8] (fun s8 wr=>∃(A':Option aT)(m' c':Nat)(s:S4)(l':List UInt8),s8=.a A' m' c'/\(m'<=c'/\c'<=maxLen/\m'<=m)/\s.ok/\dL wr p s.ay/\fP wr wr.a.j A' m' l'/\(∀a,A'=some a->a.block≠p)/\WR S bs e8=WR s l' e8/\aM w.a.j w wr) (fun s8 _=>aq6 s8)
 case atStart=>exact⟨A1,m,c1,S,bs,rfl,⟨HC1.i.1,HC1.i.2,av _⟩,Jt.i,Z4.i.X,RD.i,fun a ha=>by have:=HBK.i a ha;have:=HP3.i;omega,rfl,Z4.i.R⟩
 case round=>
  obtain⟨A',m',c',s,l',rfl,⟨hmc,hcc,hmm⟩,hok,hbx,hrd,hne,hst,hbl⟩:=hrel;have apP:=ab hok;have HBX:=ab hbx;have HRD:=ab hrd;have HNE:=ab hne;have HST:=ab hst;have FQ:=ab hbl;have Lx:=ab hrd.len;have C1:=ab (KV A' m' c' l' wr hmc (by unfold maxLen at hcc;omega) hrd);clear hok hbx hrd hne hst hbl;by_cases h8:8<=m'
  ·have h8i:(8:Int)<=m':=by omega
   obtain⟨x,hx⟩:=dw (leN (l'.d 8));have HXL:=ab (show x<18446744073709551616 by rw[hx];exact JB _ (by simp;omega));have HX:=ab hx;rw[<-hx]at C1;clear hx;go_wp2_with (first|(go_at_call 180;(with_reducible refine C1.i.g ?_);rintro e w5 ⟨rfl,hb⟩;have C2:=ab (adf p s x apP.i HXL.i w5 (HBX.i.go hb));have R5:=ab (HRD.i.upon hb);have L5:=ab (FQ.i.trans (hb.g FQ.i.j));clear hb)|(go_at_call 182;go_loud (with_reducible refine C2.i.g ?_);rintro e w6 ⟨rfl,hb6,hg6⟩;have B6:=ab hb6;have R6:=ab ((fP.asT (w:=w5) R5.i hg6 (fun a ha e=>HNE.i a ha (Option.some.inj e))).lu hg6.j);have L6:=ab (tT L5.i hg6 HPW.i L5.i.j);clear hb6 hg6));go_roundw
   case rel=>exact⟨_,_,_,TL s x,l'.f 8,rfl,⟨by omega,by omega,by omega⟩,Zl apP.i HXL.i,B6.i,R6.i.yG h8 hmc,fun a ha=>by
    unfold vH at ha;split at ha
    ·exact HNE.i a ha
    ·cases hA:A' with
     | none=>rw[hA]at ha;cases ha
     | some a0=>rw[hA]at ha;injection ha with ha;rw[<-ha];exact HNE.i a0 hA,by rw[HST.i,ajf _ _ _ (by rw[Lx.i];exact h8),HX.i],L6.i⟩
   case measure=>simp[aq6];omega
  ·have h8i:¬(8:Int)<=m':=by omega
   obtain⟨y,hy⟩:=dw (leN l');have hy2:l'.d 8=l':=aK (by rw[Lx.i];omega);have hy3:y<72057594037927936:=by
    have h1:=aex l';have h2:256^l'.a<=256^7:=Nat.pow_le_pow_right (by omega) (by rw[Lx.i];omega);omega
   rw[hy2,<-hy]at C1;have HF:=ab (show WR S bs e8=akU (TL s (y+e8*72057594037927936))by rw[HST.i,ajg _ _ _ (by rw[Lx.i];omega),<-hy]);have o1:=adg e8 y he9 hy3;rw[<-HEN.i]at o1 HF;obtain⟨z,hz⟩:=dw (y+eN);have HZL:=ab (show z<18446744073709551616 by have:=HEN.i;omega);rw[<-hz]at o1 HF;obtain⟨t,ht⟩:=dw (TL s z);have HTK:=ab (show t.ok by rw[ht];exact Zl apP.i HZL.i);have HT2:=ab ht;rw[<-ht]at HF;obtain⟨u,hu⟩:=dw (zD J5 4 (akT t 255));have HUK:=ab (show u.ok by rw[hu];exact LZ 4 _ (Zk HTK.i (by decide)));have HU:=ab hu;have HFU:=ab (show WR S bs e8=asD u by rw[HF.i,hu];rfl);have x2:bits .xor .c (t.c:Int) 255=((t.c ^^^ 255:Nat):Int):=pJ t.c 255 HTK.i.2.2.1 (by decide);clear hy hy2 hz ht hu hy3;go_upto_region 9 with(first|(go_at_call 180;(with_reducible refine C1.i.g ?_);rintro e w5 ⟨rfl,hb⟩;have C2:=ab (HT2.i ▸ adf p s z apP.i HZL.i w5 (HBX.i.go hb));have L5:=ab (FQ.i.trans (hb.g FQ.i.j));clear hb)|(go_at_call 182;(with_reducible refine C2.i.g ?_);rintro e w6 ⟨rfl,hb6,hg6⟩;have B6:=ab hb6;have L6:=ab (tT L5.i hg6 HPW.i L5.i.j);clear hb6 hg6))
   obtain⟨y1,y2,y3,y4,y5⟩:=B6.i.num;have f2:=y5 2;have X9:=ab (show dL (w6.F ⟨p,2,none⟩ (.b .c (t.c ^^^ 255:Nat))) p (akT t 255).ay from B6.i.p2 (t.c ^^^ 255));have L9:=ab (L6.i.F (p:=⟨p,2,none⟩) HPW.i (.b .c (t.c ^^^ 255:Nat)));go_upto_region 10 with fail
   clear y1 y2 y3 y4 y5 f2 x2 o1 B6 L6;generalize w6.F ⟨p,2,none⟩ (.b .c (t.c ^^^ 255:Nat))=w7 at X9 L9 ⊢;have C4:=ab (HU.i ▸ ade 4 4 rfl (by omega) p (akT t 255) (Zk HTK.i (by decide)) w7 X9.i);go_upto_region 11 with(go_at_call 183;go_loud (with_reducible refine C4.i.g ?_);rintro e w8 ⟨rfl,Xb,hg8⟩;have B8:=ab Xb;have L8:=ab (tT L9.i hg8 HPW.i L9.i.j);clear Xb hg8)
   obtain⟨u1,u2,u3,u4⟩:=u;obtain⟨y1,y2,y3,y4,y5⟩:=B8.i.num;simp only at y1 y2 y3 y4;have o2:=pJ u1 u2 HUK.i.1 HUK.i.2.1;have o3:=pJ (u1 ^^^ u2) u3 (xR _ _ HUK.i.1 HUK.i.2.1) HUK.i.2.2.1;have o4:=pJ (u1 ^^^ u2 ^^^ u3) u4 (xR _ _ (xR _ _ HUK.i.1 HUK.i.2.1) HUK.i.2.2.1) HUK.i.2.2.2;go_quiet (fail);have L10:=ab (fH L8.i nq);go_wp2;go_ret;refine⟨?_,L10.i⟩;rw[HT.i,HFU.i];rfl
end
section
def Vv(s:List (Option Fw)):Array aB:=(s.h fun o=>(slC o).a).b
theorem Vw(o:Option Fw)(s:List (Option Fw)):Vv (o::s)=slC o++Vv s:=by
 simp[Vv,iK]
theorem uZ(s:List (Option Fw)):(Vv s).j=s.a*42:=by
 induction s with
 | nil=>rfl
 | cons o s ih=>rw[Vw,nW,ih,Ev,bB];omega
theorem JO:∀(s:List (Option Fw))(i j:Nat),i<s.a->j<42->(Vv s)[i*42+j]? = (slC (fD s i))[j]?
 | [],i,j,hi,_=>by simp at hi
 | o::s,0,j,_,hj=>by
   rw[Vw,Nat.zero_mul,bl,aD,if_pos (by rw[Ev];exact hj)];rfl
 | o::s,i+1,j,hi,hj=>by
   rw[Vw,aD,if_neg (by rw[Ev];omega),Ev,show(i+1)*42+j-42=i*42+j by omega];exact JO s i j (by simpa using hi) hj
theorem OY(s:List (Option Fw))(i k m:Nat)(hi:i<s.a)(hm:k+m<=42)(c:Array aB)(hc:(slC (fD s i)).m k (k+m)=c):(Vv s).m (i*42+k) (i*42+k+m)=c:=by
 rw[<-hc];have h1:=uZ s;have h2:=Ev (fD s i);have h3:(i+1)*42<=s.a*42:=cZ 42 hi;apply dU;intro j;rw[dx,dx];by_cases hj:j<m
 ·rw[if_pos (by omega),if_pos (by omega),ng,JO s i (k+j) hi (by omega)]
 ·rw[if_neg (by omega),if_neg (by omega)]
theorem amy(s:List (Option Fw))(i:Nat)(hi:i<s.a):(Vv s).m (i*42) (i*42+42)=(wo (fD s i)).ay:=OY s i 0 42 hi (by omega) _ (Sl.all _)
theorem amA(s:List (Option Fw))(i:Nat)(hi:i<s.a):(Vv s).m (i*42+1) (i*42+1+41)=(wo (fD s i)).qU.ay:=OY s i 1 41 hi (by omega) _ (Sl.Sb _)
theorem apS(s:List (Option Fw))(i:Nat)(hi:i<s.a):(Vv s).m (i*42+1) (i*42+1+37)=(wo (fD s i)).qU.key.ay:=by
 refine OY s i 1 37 hi (by omega) _ ?_;show(Sl.ay _).m 1 38=_;simp[Sl.ay,Fw.ay,dA,Tu.G,pR (Tu.G _),tX]
theorem amB(s:List (Option Fw))(i:Nat)(hi:i<s.a):(Vv s)[i*42]? = some (.e (fD s i).isSome):=by
 have:=JO s i 0 hi (by omega);rw[nE]at this;rw[this];show(wo (fD s i)).ay[0]? = _;rw[Sl.Nl,I5]
theorem Sc(s:List (Option Fw))(i:Nat)(o:Option Fw)(hi:i<s.a):sF (Vv s) (i*42) (slC o)=Vv (s.set i o):=by
 apply dU;intro j;rw[DU,uZ,Ev];have h3:(i+1)*42<=s.a*42:=cZ 42 hi;by_cases hj:j<s.a*42
 ·have e:j=j/42*42+j%42:=by omega
  have hq:j/42<s.a:=by omega
  have h4:(Vv (s.set i o))[j]? = (slC (fD (s.set i o) (j/42)))[j%42]?:=by
   conv=>lhs;rw[e]
   exact JO _ _ _ (by simpa using hq) (by omega)
  have h5:(Vv s)[j]? = (slC (fD s (j/42)))[j%42]?:=by
   conv=>lhs;rw[e]
   exact JO _ _ _ hq (by omega)
  rw[h4,h5,Fh _ _ _ _ hi];by_cases hc:i*42<=j/\j<i*42+42
  ·rw[if_pos ⟨hc.1,hc.2,hj⟩,if_pos (by omega)]
   congr 1;omega
  ·rw[if_neg (by omega),if_neg (by omega)]
 ·rw[if_neg (by omega),aU (by rw[uZ];omega),aU (by rw[uZ];simp;omega)]
structure EL(W:ak)(q g:Nat)(key:Vector UInt8 16)(room:Int)(s:List (Option Fw)):Prop where
 tb:dL W q (Tk.mk key room (iq s).a (some ⟨g,0,none⟩) s.a s.a).ay
 sl:dL W g (Vv s)
 ne:q≠g
 sz:0<s.a/\s.a<=100000
variable {W W':ak} {q g:Nat} {key:Vector UInt8 16} {room:Int} {s:List (Option Fw)}
theorem EL.go(h:EL W q g key room s)(hb:aM W.a.j W W'):EL W' q g key room s:=⟨h.tb.go hb,h.sl.go hb,h.ne,h.sz⟩
theorem EL.alloc(h:EL W q g key room s)(ob:Obj):EL (W.alloc ob) q g key room s:=h.go ((aG _ _).alloc (av _) _)
theorem EL.drew(h:EL W q g key room s):EL W.drew q g key room s:=⟨h.tb.drew,h.sl.drew,h.ne,h.sz⟩
theorem EL.drewN(h:EL W q g key room s)(n:Nat):EL (W.drewN n) q g key room s:=⟨h.tb.drewN n,h.sl.drewN n,h.ne,h.sz⟩
theorem EL.Vx(h:EL W q g key room s){i:Nat}(hi:i<s.a):W.b ⟨g,i*42,none⟩=some (.e (fD s i).isSome)/\dY W g (i*42) 42=(wo (fD s i)).ay/\dY W g (i*42+1) 41=(wo (fD s i)).qU.ay/\dY W g (i*42+1) 37=(wo (fD s i)).qU.key.ay/\xA W g (i*42) 42/\xA W g (i*42+1) 41/\xA W g (i*42+1) 37:=by
 obtain⟨h1,h2,h3,h4⟩:=h.sl.K;have hs:=uZ s;have hm:(i+1)*42<=s.a*42:=cZ 42 hi;have hh:∀o n,o+n<=s.a*42->xA W g o n:=fun o n hn=>by rw[h3 o n (by unfold eD;omega)];trivial
 refine⟨by rw[h1,amB s i hi],?_,?_,?_,hh _ _ (by omega),hh _ _ (by omega),hh _ _ (by omega)⟩
 ·rw[h4 _ _ (by unfold eD;omega),amy s i hi]
 ·rw[h4 _ _ (by unfold eD;omega),amA s i hi]
 ·rw[h4 _ _ (by unfold eD;omega),apS s i hi]
theorem EL.K(h:EL W q g key room s):W.b ⟨q,18,none⟩=some (.a (some ⟨g,0,none⟩) s.a s.a)/\W.b ⟨q,17,none⟩=some (.b .a (iq s).a)/\W.b ⟨q,16,none⟩=some (.b .a room)/\(∀j,W.frozen? ⟨q,j,none⟩=false)/\dY W q 0 16=iZ key/\xA W q 0 16:=by
 obtain⟨h1,h2,h3,h4⟩:=h.tb.K;refine⟨(h1 18).trans (Tk.yj _),(h1 17).trans (Tk.adb _),(h1 16).trans (Tk.Rw _),h2,?_,?_⟩
 ·rw[h4 0 16 (by unfold eD;rw[Tk.G];omega)];exact Tk.aaN _
 ·rw[h3 0 16 (by unfold eD;rw[Tk.G];omega)];trivial
def hmK(key:Vector UInt8 16)(N:Nat)(k:Tu):Nat:=xU key (Lv k)%N
end
section
open Go.RowKit Go.Shelf
attribute [local go_sem] qm
theorem oQ.AQ(x:oQ):x.ay.j=2:=by simp[oQ.ay]
theorem oQ.adi(x:oQ):x.ay.all (·.h)=true:=by simp[oQ.ay,cO]
@[go_sem]theorem oQ.aDa(x:oQ):eD x.ay=2:=oQ.AQ x
@[go_sem]theorem oQ.aDb(x:oQ):x.ay.m 0 2=x.ay:=by have:=oQ.AQ x;rw[<-this];simp
@[go_sem]theorem oQ.yt(x:oQ):x.ay[0]? = some (.g (bU x.E)):=rfl
@[go_sem]theorem oQ.apT(x:oQ):x.ay[1]? = some (.b .a x.q):=rfl
def kY:oQ:=⟨[],0⟩
instance:Inhabited oQ:=⟨kY⟩
@[go_sem]theorem apU:eB #[iC {data:=#[]},aI bR 0] 151=eB kY.ay 151:=rfl
theorem aul:oN 151 2 kY.ay:=⟨⟨_,Tryz.underlying151,rfl⟩,by kernel_rfl,by kernel_rfl,rfl⟩
@[go_sem ↓]theorem aGc(v:aB):cu 151 v=yH 151 v:=rfl
@[go_sem ↓]theorem aGd(v x:aB):eF 151 v x=yR 151 v x:=rfl
@[go_sem]theorem aum(W:ak)(b o:Nat)(h:xA W b o 2):(yH 151 (.c (some ⟨b,o,none⟩))).I ah W=.ok (.d (dY W b o 2)) W:=aul.ld W b o h
@[go_sem]theorem aAp(W:ak)(c:Array aB)(x:oQ)(b:Nat)(hb:b=W.a.j)(hc:eD c=2):(yR 151 (.c (some ⟨b,0,none⟩)) (.d x.ay)).I ah (W.alloc (.D c 151))=.ok () (W.alloc (.D x.ay 151)):=aul.stN W c x.ay b hb hc rfl (oQ.adi x)
@[go_sem]theorem aun(w:ak)(x:oQ):(alg 1 #[(0,.d x.ay)]).I ah w=.ok (.a (some ⟨w.a.j,0,none⟩) 1 1) (w.alloc (.D x.ay 151)):=aii w x.E x.q
theorem oQ.G(x:oQ):x.ay.j=2:=rfl
theorem oQ.cK(x:oQ):x.ay.all (·.h)=true:=oQ.adi x
theorem kH{W:ak}{b:Nat}{x:Fw}(h:dL W b x.ay):(Oy (.c (some ⟨b,0,none⟩))).I ah W=.ok (.d x.ay) W:=by
 have hs:eD x.ay=41:=Fw.G x;rw[agU W b 0 (of_eq_true (h.K.2.2.1 0 41 (by omega))),h.K.2.2.2 0 41 (by omega),bl,Fw.jC]
theorem Vy{W:ak}{b:Nat}{x:oQ}(h:dL W b x.ay):(yH 151 (.c (some ⟨b,0,none⟩))).I ah W=.ok (.d x.ay) W:=by
 have hs:eD x.ay=2:=rfl;rw[aum W b 0 (of_eq_true (h.K.2.2.1 0 2 (by omega))),h.K.2.2.2 0 2 (by omega),bl,oQ.aDb]
theorem Vz(F:Ke)(n:Nat)(h3:F.fn 266)(hro:F.round=none)(hn:3<=n)(gf:Nat)(lb:Array aB)(hgf:F.fn gf)(eg:∀args w,(callFunc gf args).I ah w=.ok (.enter gf args) w)(S Sp:List Fw->Prop)(N:Nat)(hN:N<=100000)(w:ak)
 (hseq:vR F (n-1) ah gf lb (fun x:Fw=>#[bY x.ay]) (aM w.a.j) S Sp N w) :
 Lr F n ah 266 #[.a none 0 0,.func (.func gf) #[] lb] w fun e W'=>
  ∃ys,S ys/\∃A' c',e=.a (.a A' ys.a c')/\W'.c w.a.j 86 41 (.a A' ys.a c') ys.a (ys.h fun x=>x.ay.a)/\aM w.a.j w W':=by
 have h1:1<=n:=by omega
 obtain⟨i0,hi,hz0,hz1,hzb⟩:=ae3;refine qW Tryz.func266 rfl h3 ?_ hro;simp only[Tryz.ntmps266,dI,bB,gG,kL,kM,fZ,gq,iL,gK,dF,ig];gi_wp2;have bO:=Boxed.new w 34 (.a none 0 0);have hB0:aM w.a.j w (w.alloc (.D #[.a none 0 0] 34)):=(aG _ w).alloc (av _) _;have hs0:(w.alloc (.D #[.a none 0 0] 34)).a.j=w.a.j+1:=by simp
 generalize w.alloc (.D #[.a none 0 0] 34)=W0 at bO hB0 hs0 ⊢;refine yB hro h1 (gf:=gf) (lb:=lb) rfl hgf eg hseq (fun h k=>Below.trans h k) (vL (by omega)) hB0 (fun _=>rfl)
  (fun(pre:List Fw) W=>(∃v,Boxed W w.a.j 34 v/\W.c w.a.j 86 41 v pre.a (pre.h fun x=>x.ay.a)/\True)/\aM w.a.j w W)
  (fun _ _ _=>False)
  (OwnFrom.and (Own.from (holdsRow_own w.a.j w.a.j 34 86 41 (fun pre:List Fw=>pre.a) (fun pre:List Fw=>pre.h fun x=>x.ay.a) (fun _ _=>True)) _) (yP (av _) (by omega)))
  (fun _ _ _ _ _ hs _ _=>hs)
  ⟨⟨_,bO,fE _ _ _ _,trivial⟩,hB0⟩
  (fun x a' W=>∃Bq,w.a.j<Bq/\dL W Bq x.ay/\a'={tmps:=#[.a none 0 0,.func (.func gf) #[] lb,.c (some ⟨w.a.j,0,none⟩),undef,.a none 0 0,.c (some ⟨Bq,0,none⟩),.func (.func gf) #[] lb,.d x.ay,undef,undef,undef,undef,undef],defers:=[]})
  (fun x a' _ X Y row hs hg hr=>by obtain⟨Bq,h1,h2,h3⟩:=hs;exact⟨Bq,h1,zw Bq x.ay () X Y row h2 hg (fun r e=>(hr r e).2),h3⟩)
  ?assign ?body ?done ?stop
 case assign=>
  rintro q pre x W K ⟨⟨v,hv,hrow,_⟩,hB⟩ hK;gi_wp2;refine hK _ _ ((KeepsOthers.alloc _ _).from _) ((aG _ W).alloc hB.j _) ⟨⟨v,hv.alloc _,hrow.alloc _,trivial⟩,hB.alloc hB.j _⟩ ⟨W.a.j,hv.lt,dL.new W _ _,rfl⟩
 case body=>
  rintro q pre x a' W hq ⟨r,hr⟩ ⟨⟨v,hv,hrow,_⟩,hB⟩ ⟨Bq,hBq,bX,rfl⟩ hlt;have hcv:=hv.cell;have hld:=kH bX;have hby:(pre.a+1)*i0.bytes<=140737488355328:=aO (gP (show pre.a+1<=100002 by omega) hzb) (by omega);have HN1:=ab (show x.ay.a.a=1*41 by simp[Fw.G]);have HNC:=ab (fun(W:ak) (j:Nat) (u:aB) (hu:x.ay.a[j]? = some u)=>show(W.alloc (.D x.ay 86)).b ((⟨W.a.j,0,none⟩:aT).add j)=some u by
   rw[iD,bl,mR,<-dD];exact hu)
  have EZ:=ab (show∀u∈x.ay.a,u.h=true from fun u hu=>by have:=Fw.cK x;rw[xK]at this;exact this u (by simpa using hu));gi_wp2_with (gi_at_builtin;refine DT _ rfl _ _ 34 rfl w.a.j 86 i0 (.d kN.ay) 41 i0.bytes EF hi hz0 hz1 rfl (by simp[bW,Fw.G]) (by decide) _ _ _ rfl (hrow.alloc _) ⟨W.a.j,0,none⟩ 1 1 x.ay.a rfl HN1.i (HNC.i W) EZ.i (by unfold maxLen;omega) hby (by have:=hB.j;simp;omega) ?_;intro v' w1 hown' hgrow _;obtain⟨g',cap',rfl⟩:=ownsRow_succ hown';obtain⟨hv1,hv2,hr2,hk2,hb2⟩:=hv.appended (by decide) hrow hB.j (av _) hown' hgrow;have hc1:=hv1.cell;have hf1:=hv1.frozen);exact⟨hk2.from _,hb2,⟨_,hv2,by rw[aR,wP];simpa using hr2,trivial⟩,hB.trans hb2⟩
 case done=>
  rintro D ys W hD hS ⟨⟨v,hv,hrow,_⟩,hB⟩ hK;have hcv:=hv.cell;gi_wp2;refine⟨by simp,.a ⟨_,_,rfl,uF hK,?_⟩⟩;obtain⟨A',c',hv',_,_⟩:=jS hrow;refine⟨_,Hf rfl _ _ _,ys,hS,A',c',by rw[<-hv'];rfl,?_,hB.trans (vL (w:=w) (av _) W D _ _ (by omega) hK rfl rfl)⟩;rw[<-hv'];exact ownsRow_putObj hrow _ hK rfl
 case stop=>
  rintro D c pre W _ _ h _;exact h.elim
theorem WS(gf:Nat)(lb:Array aB)(eg:∀args w,(callFunc gf args).I ah w=.ok (.enter gf args) w)(S Sp:List Fw->Prop)(N:Nat)(hN:N<=100000)(w:ak)(hseq:vR nH 5 ah gf lb (fun x:Fw=>#[bY x.ay]) (aM w.a.j) S Sp N w):
 aQ ah 201 #[.func (.func gf) #[] lb] w fun e W'=>
  ∃ys,S ys/\∃A' c',e=.a (.a A' ys.a c')/\W'.c w.a.j 86 41 (.a A' ys.a c') ys.a (ys.h fun x=>x.ay.a)/\aM w.a.j w W':=by
 have AP:=ab ((mU (n:=6)).1 (Vz nH 6 trivial rfl (by omega) gf lb trivial eg S Sp N hN w hseq));clear hseq;go_enter Tryz.func201,Tryz.ntmps201;go_wp2_with fail;refine AP.i.g ?_;rintro e w1 ⟨ys,hS,A1,c1,rfl,ho,hb⟩;have HS:=ab hS;have HO:=ab ho;have HB:=ab hb;clear ho hb hS;obtain⟨m,hm⟩:=dw ys.a;rw[<-hm]at HO ⊢;go_wp2;go_ret;subst hm;exact⟨ys,HS.i,A1,c1,rfl,HO.i,HB.i⟩
theorem Q8(F:Ke)(n:Nat)(h3:F.fn 300)(hro:F.round=none)(hn:3<=n)(gf:Nat)(lb:Array aB)(hgf:F.fn gf)(eg:∀args w,(callFunc gf args).I ah w=.ok (.enter gf args) w)(S Sp:List oQ->Prop)(N:Nat)(hN:N<=100000)(w:ak)
 (hseq:vR F (n-1) ah gf lb (fun x:oQ=>#[bY x.ay]) (aM w.a.j) S Sp N w) :
 Lr F n ah 300 #[.a none 0 0,.func (.func gf) #[] lb] w fun e W'=>
  ∃ys,S ys/\∃A' c',e=.a (.a A' ys.a c')/\W'.c w.a.j 151 2 (.a A' ys.a c') ys.a (ys.h fun x=>x.ay.a)/\aM w.a.j w W':=by
 have h1:1<=n:=by omega
 obtain⟨i0,hi,hz0,hz1,hzb⟩:=Zz;refine qW Tryz.func300 rfl h3 ?_ hro;simp only[Tryz.ntmps300,dI,bB,gG,kL,kM,fZ,gq,iL,gK,dF,ig];gi_wp2;have bO:=Boxed.new w 75 (.a none 0 0);have hB0:aM w.a.j w (w.alloc (.D #[.a none 0 0] 75)):=(aG _ w).alloc (av _) _;have hs0:(w.alloc (.D #[.a none 0 0] 75)).a.j=w.a.j+1:=by simp
 generalize w.alloc (.D #[.a none 0 0] 75)=W0 at bO hB0 hs0 ⊢;refine yB hro h1 (gf:=gf) (lb:=lb) rfl hgf eg hseq (fun h k=>Below.trans h k) (vL (by omega)) hB0 (fun _=>rfl)
  (fun(pre:List oQ) W=>(∃v,Boxed W w.a.j 75 v/\W.c w.a.j 151 2 v pre.a (pre.h fun x=>x.ay.a)/\True)/\aM w.a.j w W)
  (fun _ _ _=>False)
  (OwnFrom.and (Own.from (holdsRow_own w.a.j w.a.j 75 151 2 (fun pre:List oQ=>pre.a) (fun pre:List oQ=>pre.h fun x=>x.ay.a) (fun _ _=>True)) _) (yP (av _) (by omega)))
  (fun _ _ _ _ _ hs _ _=>hs)
  ⟨⟨_,bO,fE _ _ _ _,trivial⟩,hB0⟩
  (fun x a' W=>∃Bq,w.a.j<Bq/\dL W Bq x.ay/\a'={tmps:=#[.a none 0 0,.func (.func gf) #[] lb,.c (some ⟨w.a.j,0,none⟩),undef,.a none 0 0,.c (some ⟨Bq,0,none⟩),.func (.func gf) #[] lb,.d x.ay,undef,undef,undef,undef,undef],defers:=[]})
  (fun x a' _ X Y row hs hg hr=>by obtain⟨Bq,h1,h2,h3⟩:=hs;exact⟨Bq,h1,zw Bq x.ay () X Y row h2 hg (fun r e=>(hr r e).2),h3⟩)
  ?assign ?body ?done ?stop
 case assign=>
  rintro q pre x W K ⟨⟨v,hv,hrow,_⟩,hB⟩ hK;gi_wp2;refine hK _ _ ((KeepsOthers.alloc _ _).from _) ((aG _ W).alloc hB.j _) ⟨⟨v,hv.alloc _,hrow.alloc _,trivial⟩,hB.alloc hB.j _⟩ ⟨W.a.j,hv.lt,dL.new W _ _,rfl⟩
 case body=>
  rintro q pre x a' W hq ⟨r,hr⟩ ⟨⟨v,hv,hrow,_⟩,hB⟩ ⟨Bq,hBq,bX,rfl⟩ hlt;have hcv:=hv.cell;have hld:=Vy bX;have hby:(pre.a+1)*i0.bytes<=140737488355328:=aO (gP (show pre.a+1<=100002 by omega) hzb) (by omega);have HN1:=ab (show x.ay.a.a=1*2 by simp[oQ.G]);have HNC:=ab (fun(W:ak) (j:Nat) (u:aB) (hu:x.ay.a[j]? = some u)=>show(W.alloc (.D x.ay 151)).b ((⟨W.a.j,0,none⟩:aT).add j)=some u by
   rw[iD,bl,mR,<-dD];exact hu)
  have EZ:=ab (show∀u∈x.ay.a,u.h=true from fun u hu=>by have:=oQ.cK x;rw[xK]at this;exact this u (by simpa using hu));gi_wp2_with (gi_at_builtin;refine DT _ rfl _ _ 75 rfl w.a.j 151 i0 (.d #[.g ⟨#[]⟩,.b .a 0]) 2 i0.bytes vo hi hz0 hz1 rfl (by simp[bW]) (by decide) _ _ _ rfl (hrow.alloc _) ⟨W.a.j,0,none⟩ 1 1 x.ay.a rfl HN1.i (HNC.i W) EZ.i (by unfold maxLen;omega) hby (by have:=hB.j;simp;omega) ?_;intro v' w1 hown' hgrow _;obtain⟨g',cap',rfl⟩:=ownsRow_succ hown';obtain⟨hv1,hv2,hr2,hk2,hb2⟩:=hv.appended (by decide) hrow hB.j (av _) hown' hgrow;have hc1:=hv1.cell;have hf1:=hv1.frozen);exact⟨hk2.from _,hb2,⟨_,hv2,by rw[aR,wP];simpa using hr2,trivial⟩,hB.trans hb2⟩
 case done=>
  rintro D ys W hD hS ⟨⟨v,hv,hrow,_⟩,hB⟩ hK;have hcv:=hv.cell;gi_wp2;refine⟨by simp,.a ⟨_,_,rfl,uF hK,?_⟩⟩;obtain⟨A',c',hv',_,_⟩:=jS hrow;refine⟨_,Hf rfl _ _ _,ys,hS,A',c',by rw[<-hv'];rfl,?_,hB.trans (vL (w:=w) (av _) W D _ _ (by omega) hK rfl rfl)⟩;rw[<-hv'];exact ownsRow_putObj hrow _ hK rfl
 case stop=>
  rintro D c pre W _ _ h _;exact h.elim
theorem VD(gf:Nat)(lb:Array aB)(eg:∀args w,(callFunc gf args).I ah w=.ok (.enter gf args) w)(S Sp:List oQ->Prop)(N:Nat)(hN:N<=100000)(w:ak)(hseq:vR nH 5 ah gf lb (fun x:oQ=>#[bY x.ay]) (aM w.a.j) S Sp N w):
 aQ ah 237 #[.func (.func gf) #[] lb] w fun e W'=>
  ∃ys,S ys/\∃A' c',e=.a (.a A' ys.a c')/\W'.c w.a.j 151 2 (.a A' ys.a c') ys.a (ys.h fun x=>x.ay.a)/\aM w.a.j w W':=by
 have AP:=ab ((mU (n:=6)).1 (Q8 nH 6 trivial rfl (by omega) gf lb trivial eg S Sp N hN w hseq));clear hseq;go_enter Tryz.func237,Tryz.ntmps237;go_wp2_with fail;refine AP.i.g ?_;rintro e w1 ⟨ys,hS,A1,c1,rfl,ho,hb⟩;have HS:=ab hS;have HO:=ab ho;have HB:=ab hb;clear ho hb hS;obtain⟨m,hm⟩:=dw ys.a;rw[<-hm]at HO ⊢;go_wp2;go_ret;subst hm;exact⟨ys,HS.i,A1,c1,rfl,HO.i,HB.i⟩
end
theorem VE:oN 22 16 (iZ (bF 16 0)):=⟨⟨_,qg,rfl⟩,by kernel_rfl,by kernel_rfl,dK _⟩
@[go_sem ↓]theorem aGe(v:aB):cu 22 v=yH 22 v:=rfl
theorem afC(key:Vector UInt8 16)(A:Option aT)(n c:Nat)(bs:List UInt8)(w:ak)(hr:fP w w.a.j A n bs)(hn:n<=1000000):aQ ah 97 #[.d (iZ key),.a (some ⟨w.a.j,0,none⟩) 1 1] (w.alloc (.D #[.a A n c] 56)) (gU w (.b .c (xU key bs))):=by
 have hl:=hr.len;refine(Ym key [⟨A,n,c⟩] [bs] _ 1 1 _ (RdS.lit w [⟨A,n,c⟩] 56) (.cons ((hr.alloc (av _) _).lu (by simp)) .nil) (by omega) (by simp[yF];omega) bs (by simp) (by omega)).g ?_;rintro e w' ⟨rfl,hb⟩;exact⟨rfl,((aG _ w).alloc (av _) _).trans (hb.g (by simp))⟩
theorem ajh{W:ak}{q:Nat}{k:Vector UInt8 16}(h:dL W q (iZ k)):W.rangeAt q 0 (k.a.map bv):=by
 intro j v hj;rw[h.K.1,bl];unfold iZ;rw[List.getElem?_toArray];exact hj
theorem afD(key:Vector UInt8 16)(A:Option aT)(n c:Nat)(bs:List UInt8)(w:ak)(hr:fP w w.a.j A n bs)(hn:n<=1000000):aQ ah 97 #[.d (key.a.map bv).b,.a (some ⟨w.a.j,0,none⟩) 1 1] (w.alloc (.D #[.a A n c] 56)) (gU w (.b .c (xU key bs))):=afC key A n c bs w hr hn
theorem I6(t:Tu)(ht:wX t)(w:ak):aQ ah 98 #[.d t.ay] w fun e w'=>∃A c,e=.a (.a A 38 c)/\fP w' w'.a.j A 38 (Lv t)/\aM w.a.j w w':=by
 refine(aag t ht w).g ?_;rintro e w' ⟨A,n,c,rfl,hn,ho,hb⟩;rw[ao6]at hn;subst hn;exact⟨A,c,rfl,fP.iY ho,hb⟩
theorem Qi(key:Vector UInt8 16)(t:Tu)(ht:wX t)(w:ak):aQ ah 36 #[.d (iZ key),.d t.ay] w (gU w (.b .c (xU key (Lv t)))):=by
 have Z0:=ab (((Bx.start w).new (iZ key) 22).new t.ay 81);have e1:(w.alloc (.D (iZ key) 22)).a.j=w.a.j+1:=by simp
 rw[e1]at Z0;have CB:=ab (fun W=>I6 t ht W);clear e1;go_enter Tryz.func36,Tryz.ntmps36;go_upto_region 1 with fail
 generalize(w.alloc (.D (iZ key) 22)).alloc (.D t.ay 81)=w1 at Z0 ⊢;have KS:=ab (fun(w':ak) (h:Bx [(w.a.j+1,t.ay),(w.a.j,iZ key)] w w')=>show w'.rangeAt w.a.j 0 (key.a.map bv)/\(wW (.c (some ⟨w.a.j+1,0,none⟩))).I ah w'=.ok (.d t.ay) w' from⟨ajh h.b1,pF h.X⟩);obtain⟨l1,l2⟩:=KS.i _ Z0.i;obtain⟨bs,hbs⟩:=dw (Lv t);have HBS:=ab hbs;rw[<-hbs]at CB;clear hbs;have hU:=qg;have hI:(ah.info? 22).map (·.j)=some (key.a.map bv).a:=by rw[bT,nI];kernel_rfl
 go_region_held_law (fun w'=>w'.rangeAt w.a.j 0 (key.a.map bv)/\(wW (.c (some ⟨w.a.j+1,0,none⟩))).I ah w'=.ok (.d t.ay) w')
  (first|exact KS.i _ Z0.i.drew|exact KS.i _ Z6.i|exact KS.i _ (Z5.i.alloc _)|exact KS.i _ Z5.i|go_keep)
  (first
  | (go_at_call 98;(with_reducible refine(CB.i _).g ?_);rintro e w5 ⟨A5,c5,rfl,RZ,hb5⟩;have C6:=ab (afD key A5 38 c5 bs w5 RZ (by decide));have Z5:=ab (Z0.i.drew.go hb5);clear RZ hb5)
  | (go_at_call 97;(with_reducible refine C6.i.g ?_);rintro e w6 ⟨rfl,hb6⟩;have Z6:=ab (Z5.i.go hb6);clear hb6))
 go_wp2;go_ret;refine⟨?_,Z6.i.R⟩;rw[HBS.i];rfl
def adj:Go.Shelf.Ren:=⟨fun|6=>238|15=>219|14=>301|28=>283|29=>284|20=>339|21=>340|22=>341|23=>342|24=>343|25=>344|26=>345|27=>346|46=>363|47=>329|48=>330|49=>364|50=>365|57=>372|n=>n,fun|22=>75|24=>151|25=>257|3=>3|39=>259|0=>0|53=>323|55=>92|4=>4|46=>352|45=>351|50=>158|5=>5|9=>9|66=>388|70=>392|76=>410|77=>152|n=>n,fun|n=>n⟩
theorem apV:Go.Proofs.SlLaysF0.n6 ah adj:={
 mixed:=by kernel_rfl,
 f6:=⟨Tryz.f238.E,by decide,Tryz.func238.trans (congrArg some (by kernel_rfl))⟩,
 f14:=⟨Tryz.f301.E,by decide,Tryz.func301.trans (congrArg some (by kernel_rfl))⟩,
 f15:=Tryz.func219.trans (congrArg some (by kernel_rfl)),
 f20:=⟨Tryz.f339.E,by decide,Tryz.func339.trans (congrArg some (by kernel_rfl))⟩,
 f21:=⟨Tryz.f340.E,by decide,Tryz.func340.trans (congrArg some (by kernel_rfl))⟩,
 f22:=⟨Tryz.f341.E,by decide,Tryz.func341.trans (congrArg some (by kernel_rfl))⟩,
 f23:=⟨Tryz.f342.E,by decide,Tryz.func342.trans (congrArg some (by kernel_rfl))⟩,
 f24:=⟨Tryz.f343.E,by decide,Tryz.func343.trans (congrArg some (by kernel_rfl))⟩,
 f25:=⟨Tryz.f344.E,by decide,Tryz.func344.trans (congrArg some (by kernel_rfl))⟩,
 f26:=⟨Tryz.f345.E,by decide,Tryz.func345.trans (congrArg some (by kernel_rfl))⟩,
 f27:=⟨Tryz.f346.E,by decide,Tryz.func346.trans (congrArg some (by kernel_rfl))⟩,
 f28:=Tryz.func283.trans (congrArg some (by kernel_rfl)),
 f29:=Tryz.func284.trans (congrArg some (by kernel_rfl)),
 f46:=⟨Tryz.f363.E,by decide,Tryz.func363.trans (congrArg some (by kernel_rfl))⟩,
 f47:=Tryz.func329.trans (congrArg some (by kernel_rfl)),
 f48:=Tryz.func330.trans (congrArg some (by kernel_rfl)),
 f49:=⟨Tryz.f364.E,by decide,Tryz.func364.trans (congrArg some (by kernel_rfl))⟩,
 f50:=⟨Tryz.f365.E,by decide,Tryz.func365.trans (congrArg some (by kernel_rfl))⟩,
 f57:=⟨Tryz.f372.E,by decide,Tryz.func372.trans (congrArg some (by kernel_rfl))⟩,
 t0:=Gy,
 a0:=Tryz.isAgg0,
 z0:=Tryz.sizeOf0,
 v0:=Jk,
 t3:=gM,
 a3:=Tryz.isAgg3,
 z3:=Tryz.sizeOf3,
 v3:=Jl,
 t4:=nM,
 a4:=Tryz.isAgg4,
 z4:=Tryz.sizeOf4,
 v4:=Jm,
 t5:=lq,
 a5:=Tryz.isAgg5,
 z5:=Tryz.sizeOf5,
 v5:=Tryz.zeroValue5,
 t9:=iM,
 a9:=KC,
 z9:=He,
 v9:=AV,
 t22:=vo,
 a22:=Tryz.isAgg75,
 z22:=Tryz.sizeOf75,
 v22:=Tryz.zeroValue75,
 t25:=Tryz.underlying257,
 a25:=Tryz.isAgg257,
 z25:=Tryz.sizeOf257,
 v25:=Tryz.zeroValue257,
 t39:=Tryz.underlying259,
 a39:=Tryz.isAgg259,
 z39:=Tryz.sizeOf259,
 v39:=Tryz.zeroValue259,
 t45:=Tryz.underlying351,
 a45:=Tryz.isAgg351,
 z45:=Tryz.sizeOf351,
 v45:=Tryz.zeroValue351,
 t46:=Tryz.underlying352,
 a46:=Tryz.isAgg352,
 z46:=Tryz.sizeOf352,
 v46:=Tryz.zeroValue352,
 t50:=Tryz.underlying158,
 a50:=Tryz.isAgg158,
 z50:=Tryz.sizeOf158,
 v50:=Tryz.zeroValue158,
 t53:=Tryz.underlying323,
 a53:=Tryz.isAgg323,
 z53:=Tryz.sizeOf323,
 v53:=Tryz.zeroValue323,
 t55:=Tryz.underlying92,
 a55:=Tryz.isAgg92,
 z55:=Tryz.sizeOf92,
 v55:=Tryz.zeroValue92,
 t66:=Tryz.underlying388,
 a66:=Tryz.isAgg388,
 z66:=Tryz.sizeOf388,
 v66:=Tryz.zeroValue388,
 t70:=Tryz.underlying392,
 a70:=Tryz.isAgg392,
 z70:=Tryz.sizeOf392,
 v70:=Tryz.zeroValue392,
 t76:=Tryz.underlying410,
 a76:=Tryz.isAgg410,
 z76:=Tryz.sizeOf410,
 v76:=Tryz.zeroValue410,
 t77:=Tryz.underlying152,
 a77:=Tryz.isAgg152,
 z77:=Tryz.sizeOf152,
 v77:=Tryz.zeroValue152}
def afE:Go.Shelf.Ren:=⟨fun|6=>151|15=>219|14=>218|28=>283|29=>284|20=>275|21=>276|22=>277|23=>278|24=>279|25=>280|26=>281|27=>282|46=>328|47=>329|48=>330|49=>331|50=>332|57=>359|n=>n,fun|22=>34|24=>86|25=>201|3=>3|39=>259|0=>0|53=>323|55=>92|4=>4|46=>352|45=>351|50=>158|5=>5|9=>9|66=>388|70=>392|76=>410|77=>152|n=>n,fun|n=>n⟩
theorem auo:Go.Proofs.SlLaysF0.n6 ah afE:={
 mixed:=by kernel_rfl,
 f6:=⟨Tryz.f151.E,by decide,Tryz.func151.trans (congrArg some (by kernel_rfl))⟩,
 f14:=⟨Tryz.f218.E,by decide,Tryz.func218.trans (congrArg some (by kernel_rfl))⟩,
 f15:=Tryz.func219.trans (congrArg some (by kernel_rfl)),
 f20:=⟨Tryz.f275.E,by decide,Tryz.func275.trans (congrArg some (by kernel_rfl))⟩,
 f21:=⟨Tryz.f276.E,by decide,Tryz.func276.trans (congrArg some (by kernel_rfl))⟩,
 f22:=⟨Tryz.f277.E,by decide,Tryz.func277.trans (congrArg some (by kernel_rfl))⟩,
 f23:=⟨Tryz.f278.E,by decide,Tryz.func278.trans (congrArg some (by kernel_rfl))⟩,
 f24:=⟨Tryz.f279.E,by decide,Tryz.func279.trans (congrArg some (by kernel_rfl))⟩,
 f25:=⟨Tryz.f280.E,by decide,Tryz.func280.trans (congrArg some (by kernel_rfl))⟩,
 f26:=⟨Tryz.f281.E,by decide,Tryz.func281.trans (congrArg some (by kernel_rfl))⟩,
 f27:=⟨Tryz.f282.E,by decide,Tryz.func282.trans (congrArg some (by kernel_rfl))⟩,
 f28:=Tryz.func283.trans (congrArg some (by kernel_rfl)),
 f29:=Tryz.func284.trans (congrArg some (by kernel_rfl)),
 f46:=⟨Tryz.f328.E,by decide,Tryz.func328.trans (congrArg some (by kernel_rfl))⟩,
 f47:=Tryz.func329.trans (congrArg some (by kernel_rfl)),
 f48:=Tryz.func330.trans (congrArg some (by kernel_rfl)),
 f49:=⟨Tryz.f331.E,by decide,Tryz.func331.trans (congrArg some (by kernel_rfl))⟩,
 f50:=⟨Tryz.f332.E,by decide,Tryz.func332.trans (congrArg some (by kernel_rfl))⟩,
 f57:=⟨Tryz.f359.E,by decide,Tryz.func359.trans (congrArg some (by kernel_rfl))⟩,
 t0:=Gy,
 a0:=Tryz.isAgg0,
 z0:=Tryz.sizeOf0,
 v0:=Jk,
 t3:=gM,
 a3:=Tryz.isAgg3,
 z3:=Tryz.sizeOf3,
 v3:=Jl,
 t4:=nM,
 a4:=Tryz.isAgg4,
 z4:=Tryz.sizeOf4,
 v4:=Jm,
 t5:=lq,
 a5:=Tryz.isAgg5,
 z5:=Tryz.sizeOf5,
 v5:=Tryz.zeroValue5,
 t9:=iM,
 a9:=KC,
 z9:=He,
 v9:=AV,
 t22:=EF,
 a22:=Tryz.isAgg34,
 z22:=Tryz.sizeOf34,
 v22:=Tryz.zeroValue34,
 t25:=Tryz.underlying201,
 a25:=Tryz.isAgg201,
 z25:=Tryz.sizeOf201,
 v25:=Tryz.zeroValue201,
 t39:=Tryz.underlying259,
 a39:=Tryz.isAgg259,
 z39:=Tryz.sizeOf259,
 v39:=Tryz.zeroValue259,
 t45:=Tryz.underlying351,
 a45:=Tryz.isAgg351,
 z45:=Tryz.sizeOf351,
 v45:=Tryz.zeroValue351,
 t46:=Tryz.underlying352,
 a46:=Tryz.isAgg352,
 z46:=Tryz.sizeOf352,
 v46:=Tryz.zeroValue352,
 t50:=Tryz.underlying158,
 a50:=Tryz.isAgg158,
 z50:=Tryz.sizeOf158,
 v50:=Tryz.zeroValue158,
 t53:=Tryz.underlying323,
 a53:=Tryz.isAgg323,
 z53:=Tryz.sizeOf323,
 v53:=Tryz.zeroValue323,
 t55:=Tryz.underlying92,
 a55:=Tryz.isAgg92,
 z55:=Tryz.sizeOf92,
 v55:=Tryz.zeroValue92,
 t66:=Tryz.underlying388,
 a66:=Tryz.isAgg388,
 z66:=Tryz.sizeOf388,
 v66:=Tryz.zeroValue388,
 t70:=Tryz.underlying392,
 a70:=Tryz.isAgg392,
 z70:=Tryz.sizeOf392,
 v70:=Tryz.zeroValue392,
 t76:=Tryz.underlying410,
 a76:=Tryz.isAgg410,
 z76:=Tryz.sizeOf410,
 v76:=Tryz.zeroValue410,
 t77:=Tryz.underlying152,
 a77:=Tryz.isAgg152,
 z77:=Tryz.sizeOf152,
 v77:=Tryz.zeroValue152}
section
variable {α:Type} [Inhabited α]
theorem VF(f:α->Array aB)(k:Nat)(hk:∀x,(f x).j=k)(l:List α):(Sort.flatK (fun x=>(f x).a) k l.b).a=l.h fun x=>(f x).a:=by
 apply iJ;intro t;have hl:=tC f k hk l;by_cases ht:t<l.a*k
 ·have hk0:0<k:=by
   rcases dW k with h|h
   ·subst h;simp at ht
   ·exact h
  have hq:t/k<l.a:=(Nat.div_lt_iff_lt_mul hk0).2 ht;have hm:=fC t hk0;have e:=Nat.div_add_mod t k;have h1:=Sort.get_flatK (fun x=>(f x).a) k l.b t (by simpa using ht);have h2:=uN f k hk l (t/k) (t%k) hq hm;rw[show t/k*k+t%k=t by rw[Cu];exact e]at h2;rw[h2,dD];have hs:t<(Sort.flatK (fun x=>(f x).a) k l.b).j:=by rw[xL];simpa using ht
  rw[getElem!_pos _ t hs]at h1;rw[eZ hs,h1];have hs2:t%k<(f l[t/k]).j:=by rw[hk];exact hm
  rw[eZ hs2,getElem!_pos l.b (t/k) (by simpa using hq)];simp only[List.getElem_toArray];rw[getElem!_pos _ (t%k) (by simpa using hs2)];simp
 ·rw[aS (by simp[xL];omega),aS (by omega)]
theorem Q9(f:α->Array aB)(k:Nat)(hk:∀x,(f x).j=k){w:ak}{g:Nat}{cur:Array aB}{e:bK}{l:List α}(hb:w.a[g]? = some (.D cur e (0,0)))(ht:cur.a.d (l.a*k)=l.h fun x=>(f x).a):Sort.HoldsK (fun x=>(f x).a) k w g 0 l.b:=by
 intro j hj;rw[xL]at hj;have hj':j<l.a*k:=by simpa using hj
 refine⟨?_,by simp[sj,hb]⟩;have h1:(cur.a.d (l.a*k))[j]? = (l.h fun x=>(f x).a)[j]?:=by rw[ht]
 rw[gZ hj',<-VF f k hk l,dD,dD]at h1;have hs:j<(Sort.flatK (fun x=>(f x).a) k l.b).j:=by rw[xL];exact hj
 simp only[World.cell?,hb,bl,Option.isSome_none,jF,if_false,id];rw[h1,eZ hs,getElem!_pos _ j hs]
theorem aaO(f:α->Array aB)(k:Nat){w:ak}{g n:Nat}{os:Array Obj}{cur:Array aB}{e:bK}{fr:Nat×Nat}(d:Array α)(hb:w.a[g]? = some (.D cur e fr)):
 (sortWorldK (fun x=>(f x).a) k w g 0 n d os).a[g]? = some (.D (Sort.putCells id 0 (Sort.flatK (fun x=>(f x).a) k d) cur) e fr):=by
 have hg:g<w.a.j:=(bV.1 hb).1;unfold sortWorldK Sort.putRowK;rw[Sort.heap_grow_old _ _ (by simpa using hg)];simp[Sort.putRow,Sort.mapBlock,Sort.ahead,zA,hb,Sort.onCells]
theorem Ra(f:α->Array aB)(k:Nat){w:ak}{g n:Nat}{os:Array Obj}(d:Array α):w.d (sortWorldK (fun x=>(f x).a) k w g 0 n d os) (some g):=by
 unfold sortWorldK Sort.putRowK;refine⟨rfl,rfl,rfl,by simp,fun j hj hne=>?_⟩;rw[Sort.heap_grow_old _ _ (by simpa using hj)];have:g≠j:=fun e=>hne (by rw[e])
 simp[Sort.putRow,Sort.mapBlock,Sort.ahead,zA,this]
theorem Rb(f:α->Array aB)(k:Nat)(hk:∀x,(f x).j=k){w:ak}{base g cap n:Nat}{e:bK}{os:Array Obj}{cur:Array aB}{l l':List α}(hl:l'.a=l.a)(hbase:base<=g)(hb:w.a[g]? = some (.D cur e (0,0)))
 (h1:l.a<=cap) (h2:cap<=maxLen) (h3:cur.j=cap*k):(sortWorldK (fun x=>(f x).a) k w g 0 n l'.b os).c base e k (.a (some ⟨g,0,none⟩) l.a cap) l.a (l'.h fun x=>(f x).a):=by
 have hle:l.a*k<=cap*k:=cZ k h1;refine⟨by rw[tC f k hk,hl],.b ⟨g,cap,_,rfl,hbase,aaO f k _ hb,h1,h2,by simp[Sort.putCells,h3],?_⟩⟩;rw[<-VF f k hk l'];apply iJ;intro j;by_cases hj:j<l.a*k
 ·have hs:j<(Sort.flatK (fun x=>(f x).a) k l'.b).j:=by rw[xL];simp[hl];exact hj
  rw[gZ hj,dD,dD,eZ hs];simp only[Sort.putCells,Array.getElem?_mapIdx];rw[eZ (by omega)];simp only[mZ,gQ,true_and,bl,hs,if_true,Nat.sub_zero,id];rw[getElem!_pos _ j hs]
 ·rw[List.getElem?_take_eq_none (by omega),aS (by simp[xL,hl];omega)]
open Go.Shelf in
theorem Yn {P:Program} {ρ:Ren} (L:SlLaysF0.n6 P ρ) (k:Nat) (aE:∀w,(isAgg (ρ.t 24)).I P w=.ok true w) (zE:∀w,(Go.sizeOf (ρ.t 24)).I P w=.ok k w) (f:α->Array aB) (hk:∀x,(f x).j=k) (h1:∀x,(f x).all (·.h)=true) (cf:α->α->Int) (hO:Sort.SWO (ltOf cf)) (g:Nat)
 (eg:∀args w,(callFunc g args).I P w=.ok (.enter g args) w) (base:Nat) (T:bK) (A:Option aT) (n c:Nat) (l:List α) (w:ak) (hn:l.a=n) (hn2:n<=1000000) (ho:w.c base T k (.a A n c) n (l.h fun x=>(f x).a))
 (hcmp:∀x y W,aQ P g #[.d (f x),.d (f y)] W (gU W (.b .a (cf x y)))) :
 aQ P (ρ.f 6) #[.a A n c,.func (.func g) #[] #[]] w fun e w'=>e=.a (.J #[])/\∃l':List α,l'.Perm l/\l'.Pairwise (fun x y=>ltOf cf y x=false)/\w'.c base T k (.a A n c) n (l'.h fun x=>(f x).a)/\w.d w' (bD A n c).f:=by
 subst hn;rcases ho.2 with⟨hv,h0⟩|⟨b,cap,cur,hv,h2,h3,h4,h5,h6,h7⟩
 ·injection hv with e1 e2 e3
  subst e1 e3;have hnil:l=[]:=bE h0;subst hnil;refine(AnyF.slices_SortFunc_none L none 0 _ w).g ?_;rintro e w' ⟨rfl,rfl⟩;exact⟨rfl,[],.refl _,.nil,ho,World.grownBy.refl _ _⟩
 ·injection hv with e1 e2 e3
  subst e1 e3;have hg:b<w.a.j:=(bV.1 h3).1;have hH:=Q9 f k hk (l:=l) h3 h7;have hc:CmpLays P g #[] (fun x=>(f x).a) k cf b 0 l.b.j w:=by
   intro m os dk _ x y;refine(Calls.awD (hcmp x y _)).g ?_;rintro e w' ⟨rfl,q,os',hw⟩;exact⟨rfl,q,os',hw⟩
  have:=AnyQ.slices_SortFunc L k aE zE (fun x=>(f x).a) (fun x=>by simp[hk]) (fun x v hv=>by
   have:=h1 x;rw[xK]at this;exact this v (by simpa using hv)) cf hO g #[] b 0 c l.b w eg hc hH hg (by simp;omega)
  rw[show l.b.j=l.a by simp]at this;refine this.g ?_;rintro e w' ⟨rfl,d',nn,os,hp,hs,rfl⟩;obtain⟨p1,p2,p3⟩:=hp;have hsz:d'.j=l.a:=by simpa using p1
  refine⟨rfl,d'.a,?_,?_,?_,Ra f k d'⟩
  ·have e1:d'.m 0 l.a=d':=by rw[<-hsz];simp
   have e2:l.b.m 0 l.a=l.b:=by simp
   rw[e1,e2]at p3;simpa using p3
  ·rw[fO]
   intro i j hi hj hij;have:=hs i j (gQ _) hij (by simpa[hsz]using hj);rw[getElem!_pos _ j (by simpa using hj),getElem!_pos _ i (by simpa using hi)]at this;simpa using this
  ·have:=Rb f k hk (l:=l) (l':=d'.a) (n:=nn) (os:=os) (e:=T) (by simp[hsz]) h2 h3 h4 h5 h6
   simpa using this
end
theorem afF(l:List UInt8):Lib.bytesOf (l.map fun b=>((b.e:Nat):Int))=l:=by
 unfold Lib.bytesOf;rw[GY]
 conv=>rhs;rw[<-List.map_id l]
 apply BJ;intro b _;simp
theorem I7{P:Program}{w:ak}{B n:Nat}{A:Option aT}{l:List UInt8}(h:fP w B A n l)(c:Nat):(uo (.a A n c)).I P w=.ok (bU l) w:=by
 have hl:=h.len;rcases dW n with h0|h0
 ·subst h0
  obtain rfl:l=[]:=bE hl;cases A with
  | none=>simp[uo,bU];rfl
  | some a=>simp[uo,Extern.Bytes.loadBytes,bU];rfl
 ·obtain⟨a,rfl,_,hc⟩:=h.2 h0
  have:=Lib.run_loadBytesX (P:=P) w (l.map fun b=>((b.e:Nat):Int)) a .empty (fun j x hj=>by
   rw[jA]at hj;refine hc j _ ?_;rw[jA];cases hj2:l[j]? with
   | none=>rw[hj2]at hj;cases hj
   | some b=>rw[hj2]at hj;simp at hj;subst hj;rfl)
  rw[bT,hl,afF]at this;show Ji P (Extern.Bytes.loadBytes a n .empty) w=_;rw[this];congr 1;exact congrArg ByteArray.mk (by show #[]++l.b=l.b;simp)
theorem WT{w:ak}{B C n m:Nat}{A A':Option aT}{l k:List UInt8}(h:fP w B A n l)(h':fP w C A' m k)(c c':Nat):(callFunc 263 #[.a A n c,.a A' m c']).I ah w=.ok (.value (.b .a (mo l k))) w:=by
 rw[run_callFunc_extern Tryz.func263 (by kernel_rfl) (by kernel_rfl) (by kernel_rfl) (e:=Extern.BytealgCompare.compare) (by kernel_rfl)];have:(Extern.BytealgCompare.compare #[.a A n c,.a A' m c']).I ah w=.ok (.b .a (mo l k)) w:=by
  change Ji ah (do pure (goInt (Extern.BytealgCompare.cmp (<-uo (.a A n c)) (<-uo (.a A' m c'))))) w=_;simp only[jI,I7 h,I7 h',oh,iE];rw[Lib.cmp_eq];rfl
 rw[this];rfl
theorem OZ{w:ak}{n m:Nat}{A A':Option aT}{l k:List UInt8}(h:fP w w.a.j A n l)(h':fP w w.a.j A' m k)(c c':Nat):aQ ah 194 #[.a A n c,.a A' m c'] w fun e w'=>e=.a (.b .a (mo l k))/\w=w':=by
 have hc:=WT h h' c c';go_enter Tryz.func194,Tryz.ntmps194;go_wp2;go_ret;exact⟨rfl,rfl⟩
def aaP(a b:Fw):Int:=if a.no=b.no then mo (Lv a.key) (Lv b.key)else a.no-b.no
theorem aaQ(a b:Fw):ltOf aaP a b=kP a b:=by
 unfold ltOf aaP kP;by_cases h:a.no=b.no
 ·rw[if_pos h,if_pos h,xP]
 ·rw[if_neg h,if_neg h]
  exact decide_eq_decide.2 (by omega)
theorem oO{W:ak}{b:Nat}{x:Fw}(h:dL W b x.ay):(wW (.c (some ⟨b,0,none⟩))).I ah W=.ok (.d x.key.ay) W:=by
 have hs:eD x.ay=41:=Fw.G x;have e:x.ay.m 0 37=x.key.ay:=by
  unfold Fw.ay;simp[dA,Tu.G,pR (Tu.G _)]
 rw[Rq W b 0 (of_eq_true (h.K.2.2.1 0 37 (by omega))),h.K.2.2.2 0 37 (by omega),bl,e]
theorem Qj(a b:Fw)(ha:wX a.key)(hb:wX b.key)(na:0<=a.no/\a.no<=1152921504606846976)(nb:0<=b.no/\b.no<=1152921504606846976)(w:ak):
 aQ ah 117 #[.d a.ay,.d b.ay] w (gU w (.b .a (aaP a b))):=by
 have Z0:=ab (((Bx.start w).new a.ay 86).new b.ay 86);rw[show(w.alloc (.D a.ay 86)).a.j=w.a.j+1 by simp]at Z0;have C1:=ab (fun W=>I6 a.key ha W);have C2:=ab (fun W=>I6 b.key hb W);obtain⟨l,hl⟩:=dw (Lv a.key);obtain⟨k,hk⟩:=dw (Lv b.key);rw[<-hl]at C1;rw[<-hk]at C2;have HL:=ab hl;have HK:=ab hk;clear hl hk;go_enter Tryz.func117,Tryz.ntmps117;go_upto_region 1 with fail
 generalize(w.alloc (.D a.ay 86)).alloc (.D b.ay 86)=w1 at Z0 ⊢;have s1:=(Z0.i.b1.K.1 40).trans (Fw.ZV a);have s2:=(Z0.i.X.K.1 40).trans (Fw.ZV b);have l1:=oO Z0.i.b1;have l2:=oO Z0.i.X;by_cases h:a.no=b.no
 ·have t1:decide (a.no=b.no)=true:=by simp[h]
  have t2:(a.no==b.no)=true:=by simp[h]
  have t3:decide (a.no≠b.no)=false:=by simp[h]
  have t4:(a.no != b.no)=false:=by simp[h]
  have HC:=ab (show aaP a b=mo l k by unfold aaP;rw[if_pos h,<-HL.i,<-HK.i]);clear h;have KS:=ab (fun(w':ak) (h:Bx [(w.a.j+1,b.ay),(w.a.j,a.ay)] w w')=>show(wW (.c (some ⟨w.a.j,0,none⟩))).I ah w'=.ok (.d a.key.ay) w'/\(wW (.c (some ⟨w.a.j+1,0,none⟩))).I ah w'=.ok (.d b.key.ay) w' from⟨oO h.b1,oO h.X⟩);go_wp2_with fail;go_region_held_law (fun w'=>(wW (.c (some ⟨w.a.j,0,none⟩))).I ah w'=.ok (.d a.key.ay) w'/\(wW (.c (some ⟨w.a.j+1,0,none⟩))).I ah w'=.ok (.d b.key.ay) w')
   (first|exact KS.i _ Z0.i.drew|exact KS.i _ Z7.i|exact KS.i _ Z6.i|exact KS.i _ Z5.i|go_keep)
   (first
   | (go_at_call 98;(with_reducible refine(C1.i _).g ?_);rintro e w5 ⟨A5,c5,rfl,RZ,hb5⟩;first|(have R5:=ab RZ;have Z5:=ab (Z6.i.go hb5);have R6:=ab (R6.i.go hb5))|(have R5:=ab RZ;have Z5:=ab (Z0.i.drew.go hb5));clear RZ hb5)
   | (go_at_call 98;(with_reducible refine(C2.i _).g ?_);rintro e w6 ⟨A6,c6,rfl,ho6,hb6⟩;first|(have R6:=ab ho6;have Z6:=ab (Z5.i.go hb6);have R5:=ab (R5.i.go hb6))|(have R6:=ab ho6;have Z6:=ab (Z0.i.drew.go hb6));clear ho6 hb6)
   | (go_at_call 194;(with_reducible refine(OZ R5.i R6.i _ _).g ?_);rintro e w7 ⟨rfl,rfl⟩))
  all_goals go_wp2
  all_goals go_ret
  all_goals(refine⟨by rw[HC.i];rfl,?_⟩;first|exact Z6.i.R|exact Z5.i.R)
 ·have t1:decide (a.no=b.no)=false:=by simp[h]
  have t2:(a.no==b.no)=false:=by simp[h]
  have t3:decide (a.no≠b.no)=true:=by simp[h]
  have t4:(a.no != b.no)=true:=by simp[h]
  have HC:=ab (show aaP a b=a.no-b.no by unfold aaP;rw[if_neg h]);have i1:=jT (a.no-b.no) (by omega);clear h;go_wp2;go_ret;exact⟨by rw[HC.i];rfl,Z0.i.R⟩
theorem Qk(a b:Fw)(ha:wX a.key)(hb:wX b.key)(na:0<=a.no/\a.no<=1152921504606846976)(nb:0<=b.no/\b.no<=1152921504606846976)(w:ak):
 aQ ah 49 #[.d a.ay,.d b.ay] w (gU w (.e (kP a b))):=by
 have Z0:=ab (((Bx.start w).new a.ay 86).new b.ay 86);rw[show(w.alloc (.D a.ay 86)).a.j=w.a.j+1 by simp]at Z0;have C1:=ab (fun W=>Qj a b ha hb na nb W);obtain⟨r,hr⟩:=dw (aaP a b);obtain⟨o,ho⟩:=dw (kP a b);rw[<-hr]at C1;have t1:decide (r<0)=o:=by rw[ho,<-aaQ,hr];rfl
 have HO:=ab ho;clear hr ho;go_enter Tryz.func49,Tryz.ntmps49;go_upto_region 1 with fail
 generalize(w.alloc (.D a.ay 86)).alloc (.D b.ay 86)=w1 at Z0 ⊢;have l1:=kH Z0.i.b1;have l2:=kH Z0.i.X;go_wp2_with (go_at_call 117;(with_reducible refine(C1.i _).g ?_);rintro e w5 ⟨rfl,hb5⟩;have Z5:=ab (Z0.i.go hb5);clear hb5);go_ret;exact⟨by rw[HO.i];rfl,Z5.i.R⟩
section
open Go.RowKit Go.Shelf
attribute [local go_sem] qm
theorem FW{β:Type}{B:Nat}{J:β->ak->Prop}(h:AbidesFrom B J){s:β}{W:ak}(hs:J s W)(o:Obj):J s (W.alloc o):=h s W _ none hs (World.grownBy_alloc W o none) (fun r e=>by cases e)
theorem aaR(F:Ke)(n:Nat)(hf:F.fn 239)(hro:F.round=none)(hn:1<=n)(l Bs n₀ B0:Nat)(A:Option aT)(len cap:Nat)(zs:List oQ)(hlen:len<=100000)(J Jx:List oQ->ak->Prop)(hJ:AbidesFrom B0 J)
 (hY:∀pre x W,J pre W->pre.a<len->YieldAt F (n-1) ah l #[.d x.ay] W fun e W'=>
  (e=.a (.e true)/\J (pre++[x]) W'/\aM n₀ W W')\/(e=.a (.e false)/\Jx (pre++[x]) W'))
 (W:ak) (hn₀:n₀<=W.a.j) (Ox:W.b ⟨Bs,0,none⟩=some (.a A len cap)) (hR:iR oQ.ay 2 W n₀ A len zs) (h0:J [] W) :
 Lr F n ah 239 #[.func (.yield l) #[] #[],.c (some ⟨Bs,0,none⟩)] W fun e W'=>(∃v,e=.a v) /\
  ((∃ys,ys=zs/\J ys W')\/(∃pre,pre <+: zs/\Jx pre W')):=by
 have hzl:=hR.1;refine Cb Tryz.func239 rfl hf ?_ hro;simp only[Tryz.ntmps239,dI,bB,gG,kL,kM,fZ,gq,iL,gK,dF,ig];gi_wp2;gi_loopw [7] (fun i wr=>∃k:Nat,k<=len/\i=.b .a k/\J (zs.d k) wr/\aM n₀ W wr)
  (fun i _=>len-(intOf i).e)
 case atStart=>exact⟨0,gQ _,rfl,h0,aG _ _⟩
 case round=>
  obtain⟨k,hk,rfl,hJs,hnx⟩:=hrel;by_cases hlt:k<len
  ·have hki:(k:Int)<len:=by omega
   obtain⟨b,o,rfl,hbb,hh,hc⟩:=iR.fD oQ.AQ kY (hR.S hnx) hlt;obtain⟨x,hx⟩:=dw (zs.c k kY);rw[<-hx]at hc;have Dv:=ab (show zs.d k++[x]=zs.d (k+1)by rw[hx];exact oD kY zs k (by omega));clear hx hbb;have bx:=dL.new wr x.ay 151;have hld:=Vy bx;have hsz:=hnx.j;obtain⟨fn,tmps,assign,body,hy,hRd⟩:=hY _ x (wr.alloc (.D x.ay 151)) (FW hJ hJs _) (by rw[bJ];omega);have Pb:=ab (hnx.alloc (by omega) (.D x.ay 151));clear bx;gi_wp2;refine hRd.g ?_;rintro e W3 (⟨rfl,hJ3,hk3⟩|⟨rfl,hJx3⟩)
   ·gi_wp2
    go_roundw
    case rel=>exact⟨k+1,by omega,by simp,by rw[<-Dv.i];exact hJ3,Pb.i.trans hk3⟩
    case measure=>simp[intOf];omega
   ·gi_wp2
    refine aN (vw rfl _ _ _) rfl ?_;exact⟨⟨_,rfl⟩,.b ⟨_,by rw[Dv.i];exact List.take_prefix _ _,hJx3⟩⟩
  ·obtain rfl:k=len:=by omega
   have hd:decide ((k:Int)<k)=false:=by simp
   gi_wp2;go_end0;exact⟨⟨_,rfl⟩,.a ⟨_,aK (by omega),hJs⟩⟩
theorem aaS(A:Option aT)(len cap:Nat)(w:ak):
 aQ ah 164 #[.a A len cap] w fun e w'=>e=.a (.func (.func 239) #[] #[.c (some ⟨w.a.j,0,none⟩)])/\w.alloc (.D #[.a A len cap] 75)=w':=by
 go_enter Tryz.func164,Tryz.ntmps164;go_wp2;go_ret;exact⟨rfl,rfl⟩
theorem VG(F:Ke)(n:Nat)(hf:F.fn 239)(hro:F.round=none)(hn:1<=n)(Bs n₀:Nat)(A:Option aT)(len cap:Nat)(zs:List oQ)(hlen:len<=100000)(w:ak)(Ox:Bs<w.a.j)(hn₀:n₀<=w.a.j)
 (hc:w.b ⟨Bs,0,none⟩=some (.a A len cap)) (hR:iR oQ.ay 2 w n₀ A len zs) :
 vR F n ah 239 #[.c (some ⟨Bs,0,none⟩)] (fun x:oQ=>#[bY x.ay]) (aM n₀) (fun ys=>ys=zs) (fun pre=>pre <+: zs) len w:=fun l J Jx W hW hJ _ hY h0=>by
 have hc':=(hW.cell (p:=⟨Bs,0,none⟩) Ox).trans hc;exact aaR F n hf hro hn l Bs n₀ W.a.j A len cap zs hlen J Jx hJ hY W (aO hn₀ hW.j) hc' (hR.to hW hn₀) h0
theorem aji(x y:oQ)(w:ak):aQ ah 165 #[.d x.ay,.d y.ay] w (gU w (.b .a (mo x.E y.E))):=by
 have Z0:=ab (((Bx.start w).new x.ay 151).new y.ay 151);rw[show(w.alloc (.D x.ay 151)).a.j=w.a.j+1 by simp]at Z0;have CC:=ab (fun W=>Py x.E y.E W);go_enter Tryz.func165,Tryz.ntmps165;go_upto_region 1 with fail
 generalize(w.alloc (.D x.ay 151)).alloc (.D y.ay 151)=w1 at Z0 ⊢;have c1:=(Z0.i.b1.K.1 0).trans (oQ.yt x);have c2:=(Z0.i.X.K.1 0).trans (oQ.yt y);go_wp2_with (go_at_call 166;(with_reducible refine(CC.i _).g ?_);rintro e w2 ⟨rfl,rfl⟩);go_ret;exact⟨rfl,Z0.i.R⟩
def Yo(x y:oQ):Int:=mo x.E y.E
theorem ajj:Sort.SWO (ltOf Yo):=by
 have e:∀x y,ltOf Yo x y=bP x.E y.E:=fun x y=>by rw[xP];rfl
 refine⟨fun x=>?_,fun x y z h1 h2=>?_,fun x y z h1 h2=>?_⟩
 ·rw[e];exact sM _
 ·rw[e]at *;exact xX _ _ _ h1 h2
 ·rw[e]at *;exact Iy h2 h1
def VH(l:List oQ):Prop:=l.Pairwise fun x y=>bP x.E y.E=true
theorem amC{l l':List oQ}(h:VH l)(hp:l'.Perm l)(hs:l'.Pairwise fun x y=>ltOf Yo y x=false):l'=l:=by
 have e:∀x y,ltOf Yo x y=bP x.E y.E:=fun x y=>by rw[xP];rfl
 have hst:Il (fun x y:oQ=>bP x.E y.E):=⟨fun x=>sM _,fun x y z h1 h2=>xX _ _ _ h1 h2⟩
 have hnd:l'.Pairwise fun x y=>x.E≠y.E:=by
  refine(hp.pairwise_iff (fun{a b} (hab:a.E≠b.E)=>Ne.symm hab)).2 (h.imp ?_);intro a b hab heq;rw[heq,sM]at hab;cases hab
 have h':Zj (fun x y:oQ=>bP x.E y.E) l':=by
  refine(hs.and hnd).imp ?_;rintro a b ⟨h1,h2⟩;rw[e]at h1;cases h3:bP a.E b.E
  ·exact absurd (zH _ _ h3 h1) h2
  ·exact h3
 exact Zj.eq hst h' h hp
theorem amD(w:ak):(isAgg 151).I ah w=.ok true w:=by simp[isAgg,dJ Tryz.underlying151]
theorem apX(w:ak):(Go.sizeOf 151).I ah w=.ok 2 w:=by
 obtain⟨i,hi,hi2,_⟩:=aul.afd;rw[run_sizeOf w hi];have hc:ah.cellsOf 151=2:=by simp[Program.cellsOf,hi,hi2]
 rw[hc]
theorem VI{B base size n:Nat}{e:bK}{v:aB}{xs:List aB}{w w1 w2:ak}(hb:aM B w w1)(ho:w1.c base e size v n xs)(hB:B<=base)(hB2:B<=w.a.j)(hg:w1.d w2 v.f):aM B w w2:=by
 refine⟨hg.os.trans hb.os,hg.tape.trans hb.tape,hg.output.trans hb.output,aO hb.j hg.j,fun k hk=>?_⟩;refine(hg.block k (eO (eO hk hB2) hb.j) (fun e2=>?_)).trans (hb.block k hk)
 ·rcases ho.2 with⟨rfl,_⟩|⟨g,cap,cur,rfl,h2,h3,_⟩
  ·cases e2
  ·injection e2 with e2
   dsimp at e2;omega
theorem afG(l:List oQ)(hl:l.a<=1000000)(W:ak)(base:Nat)(A:Option aT)(c:Nat)(h:W.c base 151 2 (.a A l.a c) l.a (l.h fun x=>x.ay.a)):
 aQ ah 238 #[.a A l.a c,.func (.func 165) #[] #[]] W fun e w'=>e=.a (.J #[])/\∃l':List oQ,l'.Perm l/\l'.Pairwise (fun x y=>ltOf Yo y x=false)/\w'.c base 151 2 (.a A l.a c) l.a (l'.h fun x=>x.ay.a)/\W.d w' (bD A l.a c).f:=
 Yn apV 2 amD apX oQ.ay oQ.G oQ.cK Yo ajj 165 (fun args w=>rfl) base 151 A l.a c l W rfl hl h aji
theorem Nn(gf:Nat)(lb:Array aB)(eg:∀args w,(callFunc gf args).I ah w=.ok (.enter gf args) w)(l:List oQ)(hs:VH l)(hN:l.a<=100000)(w:ak)(hseq:vR nH 5 ah gf lb (fun x:oQ=>#[bY x.ay]) (aM w.a.j) (fun ys=>ys=l) (fun pre=>pre <+: l) l.a w):
 aQ ah 163 #[.func (.func gf) #[] lb,.func (.func 165) #[] #[]] w fun e W'=>
  ∃A' c',e=.a (.a A' l.a c')/\W'.c w.a.j 151 2 (.a A' l.a c') l.a (l.h fun x=>x.ay.a)/\aM w.a.j w W':=by
 have CO:=ab (VD gf lb eg (fun ys=>ys=l) (fun pre=>pre <+: l) l.a hN w hseq);have SO:=ab (fun(W:ak) (A:Option aT) (c:Nat) h=>afG l (by omega) W w.a.j A c h);clear hseq;go_enter Tryz.func163,Tryz.ntmps163;go_wp2_with fail;refine CO.i.g ?_;rintro e w1 ⟨ys,rfl,A1,c1,rfl,ho,hb⟩;have SO1:=ab (SO.i w1 A1 c1 ho);have HB:=ab hb;have HO:=ab ho;have HS:=ab hs;clear hb ho hs SO CO;obtain⟨m,hm⟩:=dw ys.a;rw[<-hm]at HO SO1 ⊢;have HM:=ab hm;clear hm;go_wp2_with fail;refine SO1.i.g ?_;rintro e w2 ⟨rfl,l',hp,hpw,ho2,hg⟩;obtain rfl:=amC HS.i hp hpw;have H2:=ab ho2;have HG:=ab hg;clear ho2 hg hp hpw;go_wp2;go_ret;obtain rfl:=HM.i;exact⟨A1,c1,rfl,H2.i,VI HB.i HO.i (av _) (av _) HG.i⟩
theorem aaT(l:List oQ)(hs:VH l)(A:Option aT)(n c:Nat)(w:ak)(hR:iR oQ.ay 2 w w.a.j A n l)(hn:n<=100000):
 aQ ah 80 #[.a A n c] w fun e w'=>∃A' c',e=.a (.a A' n c')/\iR oQ.ay 2 w' w'.a.j A' n l/\aM w.a.j w w':=by
 have hl:=hR.1;have w1s:=(dL.new w #[.a A n c] 75)
 have hB1:aM w.a.j w (w.alloc (.D #[.a A n c] 75)):=(aG _ _).alloc (av _) _;have hR1:=hR.up (.D #[.a A n c] 75);have SQ:=ab (VG nH 5 trivial rfl (by omega) w.a.j (w.alloc (.D #[.a A n c] 75)).a.j A n c l (by omega) (w.alloc (.D #[.a A n c] 75)) w1s.lt (av _) (w1s.K.1 0) hR1);have VA:=ab (aaS A n c w);generalize hw:w.alloc (.D #[.a A n c] 75)=w1 at *;have SF:=ab (Nn 239 #[.c (some ⟨w.a.j,0,none⟩)] (fun args w=>rfl) l hs (by omega) w1 (by rw[hl];exact SQ.i));have HB1:=ab hB1;have HR1:=ab hR1;clear hw w1s hB1 hR1 hR SQ;go_enter Tryz.func80,Tryz.ntmps80;go_wp2_with fail;refine VA.i.g ?_;rintro e w2 ⟨rfl,rfl⟩;go_wp2_with fail;refine SF.i.g ?_;rintro e w2 ⟨A1,c1,rfl,ho,hb⟩;have HO:=ab ho;have HB:=ab hb;clear ho hb;subst hl;go_wp2;go_ret;refine⟨A1,c1,rfl,iR.iY rfl HO.i,?_⟩;have h1:=HB1.i;have h2:=HB.i;exact⟨h2.os.trans h1.os,h2.tape.trans h1.tape,h2.output.trans h1.output,aO h1.j h2.j,fun k hk=>(h2.block k (eO hk h1.j)).trans (h1.block k hk)⟩
end
theorem afH(key:Vector UInt8 16)(A:Option aT)(n c:Nat)(s:List UInt8)(tag:UInt8)(a:Int)(ha:a=(tag.e:Int))(w:ak)(hr:fP w w.a.j A n s)(hn:n<=1000000):aQ ah 97 #[.d (iZ key),.a (some ⟨w.a.j+1,0,none⟩) 2 2] ((w.alloc (.D #[.b .b a] 5)).alloc (.D (yQ [⟨A,n,c⟩,⟨some ⟨w.a.j,0,none⟩,1,1⟩]) 56)) (gU w (.b .c (xU key (s++[tag])))):=by
 have hl:=hr.len;have e1:(w.alloc (.D #[.b .b a] 5)).a.j=w.a.j+1:=by simp
 have h1:=((hr.alloc (av _) (.D #[.b .b a] 5)).lu (show w.a.j<=w.a.j+1 by omega))
 have h2:=Ej w tag a ha;have R:=RdS.lit (w.alloc (.D #[.b .b a] 5)) [⟨A,n,c⟩,⟨some ⟨w.a.j,0,none⟩,1,1⟩] 56;rw[e1]at R;have up:∀{A:Option aT} {n:Nat} {l:List UInt8},fP (w.alloc (.D #[.b .b a] 5)) (w.a.j+1) A n l->fP ((w.alloc (.D #[.b .b a] 5)).alloc (.D (yQ [⟨A,n,c⟩,⟨some ⟨w.a.j,0,none⟩,1,1⟩]) 56)) ((w.alloc (.D #[.b .b a] 5)).alloc (.D (yQ [⟨A,n,c⟩,⟨some ⟨w.a.j,0,none⟩,1,1⟩]) 56)).a.j A n l:=fun h=>(h.alloc (by rw[e1];omega) _).lu (by simp)
 have go:∀{A:Option aT} {n:Nat} {l:List UInt8} (ob:Obj),fP (w.alloc (.D #[.b .b a] 5)) (w.a.j+1) A n l->fP ((w.alloc (.D #[.b .b a] 5)).alloc ob) ((w.alloc (.D #[.b .b a] 5)).alloc ob).a.j A n l:=fun ob h=>(h.alloc (by rw[e1];omega) _).lu (by simp)
 refine(Ym key [⟨A,n,c⟩,⟨some ⟨w.a.j,0,none⟩,1,1⟩] [s,[tag]] _ 2 2 _ R (.cons (go _ h1) (.cons (go _ h2) .nil)) (by omega) (by simp[yF];omega) (s++[tag]) (by simp) (by simp;omega)).g ?_;rintro e w' ⟨rfl,hb⟩;exact⟨rfl,(((aG _ w).alloc (av _) _).alloc (by simp) _).trans (hb.g (by simp;omega))⟩
theorem Np(key:Vector UInt8 16)(s:List UInt8)(tag:UInt8)(a:Int)(ha:a=(tag.e:Int))(b:Nat)(z:Int)(hz:z=b)(hb:1<=b)(hb2:b<=1000000)(hs:s.a<=1000000)(r:Nat)(hr:xU key (s++[tag])%b=r)(kb nb:Nat)(W:ak)(hk:dL W kb (iZ key))(hn:dL W nb #[.g (bU s)]):
 aQ ah 167 #[.b .b a,.b .a z,.c (some ⟨kb,0,none⟩),.c (some ⟨nb,0,none⟩)] W (gU W (.b .a (r:Nat))):=by
 subst hz;have l1:=VE.lU hk (dK _);have l2:=hn.K.1 0;have l2:W.b ⟨nb,0,none⟩=some (.g (bU s)):=l2;have TW:=ab (ao4 W s);have hcv:=Hw (P:=ah) 9 56 5 iM cB lq s W;obtain⟨W3,hW3⟩:=dw (sD W 5 s);rw[<-hW3]at hcv TW;obtain⟨cc,hcc⟩:=tV (grownCap W s.a 0 5);rw[hcc]at hcv;obtain⟨h,hh⟩:=dw (xU key (s++[tag]));have CS:=ab (afH key (some ⟨W.a.j,0,none⟩) s.a cc s tag a ha W3 TW.i.1 hs);rw[<-hh]at CS;have HH:=ab hh;have w1:jo.wrap (b:Int)=b:=by rw[jR];omega
 have w2:((h:Int)%(b:Int))=((h%b:Nat):Int):=by omega
 rw[<-hh]at hr;have hlt:=fC h (show 0<b by omega);have w3:=jT ((h%b:Nat):Int) (by omega);have hb0:¬(b:Int)=0:=by omega
 have hb1:¬b=0:=by omega
 rw[hr]at w2 w3 hlt;clear hcc hW3 hh hk hn ha hr;go_enter Tryz.func167,Tryz.ntmps167;go_wp2_with (go_at_call 97;go_loud (with_reducible refine CS.i.g ?_);rintro e w9 ⟨rfl,hb9⟩;have B9:=ab hb9;clear hb9);go_ret;exact⟨rfl,TW.i.2.trans (B9.i.g TW.i.2.j)⟩
theorem VJ(o s n i:Nat)(hn:1<=n)(hn2:n<=100000)(ho:o<=100000)(hs:s<=100000)(hi:i<=1000000000)(W:ak):aQ ah 243 #[.b .a o,.b .a s,.b .a n,.b .a i] W fun e W'=>e=.a (.b .a (re o s n (i%n):Nat))/\W=W':=by
 have h1:((i:Int)%(n:Int))=((i%n:Nat):Int):=by omega
 have h0:¬(n:Int)=0:=by omega
 have h0':¬n=0:=by omega
 obtain⟨j,hj⟩:=dw (i%n);have hjl:j<=100000:=by have:=fC i (show 0<n by omega);omega
 rw[<-hj]at h1 ⊢;have hm:j*s<=10000000000:=aO (gP hjl hs) (by decide);have h2:(j:Int)*(s:Int)=((j*s:Nat):Int):=by simp
 obtain⟨p,hp⟩:=dw (j*s);rw[<-hp]at h2 hm;have h3:=jT (p:Int) (by omega);have h4:(o:Int)+(p:Int)=((o+p:Nat):Int):=by omega
 obtain⟨q,hq⟩:=dw (o+p);rw[<-hq]at h4;have h5:=jT (q:Int) (by omega);have h6:(q:Int)%(n:Int)=((q%n:Nat):Int):=by omega
 have HC:=ab (show re o s n j=q%n by rw[hq,hp];rfl);clear hj hp hq;rw[HC.i];go_enter Tryz.func243,Tryz.ntmps243;go_wp2;go_ret;exact⟨rfl,rfl⟩
theorem afI(key:Vector UInt8 16)(s:List UInt8)(n:Nat)(hn:2<=n)(hn2:n<=100000)(hs:s.a<=1000000)(w:ak):aQ ah 83 #[.d (iZ key),.g (bU s),.b .a n] w (gU w (.J #[.b .a (Cz key s n:Nat),.b .a (Ai key s n:Nat)])):=by
 have Z0:=ab (((Bx.start w).new (iZ key) 22).new #[.g (bU s)] 9);rw[show(w.alloc (.D (iZ key) 22)).a.j=w.a.j+1 by simp]at Z0;obtain⟨o,ho⟩:=tV (xU key (s++[0])%n);have HO:=ab (show Cz key s n=o from ho);obtain⟨t,ht⟩:=tV (xU key (s++[1])%(n-1));obtain⟨t1,ht1⟩:=dw (t+1);have HT:=ab (show Ai key s n=t1 by rw[ht1,<-ht];rfl);have C0:=ab (fun W (h:Bx [(w.a.j+1,#[.g (bU s)]),(w.a.j,iZ key)] w W)=>Np key s 0 0 rfl n n rfl (by omega) (by omega) hs o ho w.a.j (w.a.j+1) W h.b1 h.X);have C1:=ab (fun W (h:Bx [(w.a.j+1,#[.g (bU s)]),(w.a.j,iZ key)] w W)=>Np key s 1 1 rfl (n-1) ((n:Int)-1) (by omega) (by omega) (by omega) hs t ht w.a.j (w.a.j+1) W h.b1 h.X);have htl:t<n-1:=by rw[<-ht];exact fC _ (by omega)
 have i1:=jT ((n:Int)-1) (by omega);have i2:=jT (t1:Int) (by omega);have i3:(t:Int)+1=(t1:Int):=by omega
 rw[HT.i,HO.i];clear ht ho ht1;go_enter Tryz.func83,Tryz.ntmps83;go_upto_region 1 with fail
 generalize(w.alloc (.D (iZ key) 22)).alloc (.D #[.g (bU s)] 9)=w1 at Z0 ⊢;go_wp2_with (first|(go_at_call 167;(with_reducible refine(C0.i _ Z0.i).g ?_);rintro e w5 ⟨rfl,hb⟩;have Z5:=ab (Z0.i.go hb);clear hb)|(go_at_call 167;(with_reducible refine(C1.i _ Z5.i).g ?_);rintro e w6 ⟨rfl,hb⟩;have Z6:=ab (Z5.i.go hb);clear hb));go_ret2;exact⟨rfl,Z6.i.R⟩
def SlA(d:Array aB)(sl:List Int):Prop:=∀j,j<sl.a->d[j]? = some (.b .a (sl.c j 0))
theorem SlA.set{d:Array aB}{sl:List Int}(h:SlA d sl){k:Nat}(v:Int):SlA (d.b k (.b .a v)) (sl.set k v):=by
 intro j hj;rw[aV]at hj;rw[dO,au,fF];by_cases e:k=j
 ·subst e
  have:=h k hj;have hlt:k<d.j:=by
   rcases aZ k d.j with h1|h1
   ·exact h1
   ·rw[aU h1]at this;cases this
  simp[hj,hlt]
 ·rw[if_neg e,if_neg e,h j hj,au]
theorem amF(o s n i r:Nat)(hr:re o s n (i%n)=r)(hn:1<=n)(hn2:n<=100000)(ho:o<=100000)(hs:s<=100000)(hi:i<=1000000000)(W:ak):aQ ah 243 #[.b .a o,.b .a s,.b .a n,.b .a i] W fun e W'=>e=.a (.b .a (r:Nat))/\W=W':=by subst hr;exact VJ o s n i hn hn2 ho hs hi W
theorem afJ(tb sb z i n cn o s x f:Nat)(c d:Array aB)(sl:List Int)(W:ak)(hc:dL W tb c)(hd:dL W sb d)(hne:tb≠sb)(h2:c[z+2]? = some (.b .a o))(h3:c[z+3]? = some (.b .a s))(h4:c[z+4]? = some (.b .a x))
 (hsl:SlA d sl) (hl:sl.a=n) (hn:1<=n) (hn2:n<=100000) (hcn:n<=cn) (ho:o<=100000) (hs:s<=100000) (hx:x<=f) (hf:f<n) (hno:∀t,x<=t->t<f->sl.c (re o s n t) 0≠-1) (hyes:sl.c (re o s n f) 0 = -1) :
 aQ ah 169 #[.c (some ⟨tb,z,none⟩),.a (some ⟨sb,0,none⟩) n cn,.b .a i] W fun e W'=>e=.a (.J #[])/\dL W' tb (c.b (z+4) (.b .a (f+1:Nat)))/\dL W' sb (d.b (re o s n f) (.b .a i))/\jD [tb,sb] W W':=by
 have HC:=ab hc;have HD:=ab hd;have HNE:=ab hne;have HSL:=ab hsl;have EZ:=ab hno;have HY:=ab hyes;have HL:=ab hl;have H4:=ab h4;clear hc hd hne hsl hno hyes hl h4;have hz4:(c.b (z+4) (.b .a (x:Nat)))=c:=by
  apply dU;intro j;rw[dO];split
  ·rename_i e;subst e;rw[H4.i];simp;have:=H4.i;exact(bV.1 this).1
  ·rfl
 have HZ4:=ab hz4;have hcs:z+4<c.j:=(bV.1 H4.i).1;clear hz4;go_enter Tryz.func169,Tryz.ntmps169;go_wp2;go_loopw [] (fun wr=>∃y:Nat,x<=y/\y<=f/\dL wr tb (c.b (z+4) (.b .a (y:Nat)))/\dL wr sb d/\jD [tb,sb] W wr)
  (fun wr=>f-(intOf ((wr.b ⟨tb,z+4,none⟩).c undef)).e)
 case atStart=>exact⟨x,av _,hx,by rw[HZ4.i];exact HC.i,HD.i,jD.refl _ _⟩
 case round=>
  obtain⟨y,hy1,hy2,hb1,hb2,hfr⟩:=hrel;obtain⟨c1,c2,c3,c4⟩:=hb1.K;have k2:=(c1 (z+2)).trans ((dO ..).trans ((if_neg (by omega)).trans h2));have k3:=(c1 (z+3)).trans ((dO ..).trans ((if_neg (by omega)).trans h3));have k4:=(c1 (z+4)).trans ((dO ..).trans ((if_pos rfl).trans (if_pos hcs)));have kf:=c2 (z+4);obtain⟨d1,d2,d3,d4⟩:=hb2.K;have HB1:=ab hb1;have HB2:=ab hb2;have HFR:=ab hfr;have hyn:y%n=y:=fK (by omega);obtain⟨fD,hat⟩:∃a,a=re o s n y:=⟨_,rfl⟩
  have aDd:fD<n:=by rw[hat];exact Oe (by omega)
  have CC:=ab (fun w=>amF o s n y fD (by rw[hyn,hat]) hn hn2 ho hs (by omega) w);obtain⟨v,hv⟩:=dw (sl.c fD 0);have e1:wr.b ⟨sb,fD,none⟩=some (.b .a v):=by rw[d1,HSL.i fD (by rw[HL.i];exact aDd),hv]
  have ef:=d2 fD;obtain⟨y1,hy⟩:=dw (y+1);have i1:(y:Int)+1=(y1:Int):=by omega
  have i2:=jT (y1:Int) (by omega);have acX:(fD:Int)<n:=by omega
  clear c1 c2 c3 c4 d1 d2 d3 d4 hb1 hb2 hfr hyn h2 h3;have HAT:=ab hat;have HV:=ab hv;have X1:=ab (show dL (wr.F ⟨tb,z+4,none⟩ (.b .a y1)) tb (c.b (z+4) (.b .a (y1:Nat)))by have:=HB1.i.eH (z+4) (.b .a y1);rwa [Array.setIfInBounds_setIfInBounds]at this);have X2:=ab (HB2.i.dM ⟨tb,z+4,none⟩ (.b .a y1) HNE.i);have F1:=ab (HFR.i.set ⟨tb,z+4,none⟩ (.b .a y1) (.a (by simp)));have HYV:=ab hy;have e2:(wr.F ⟨tb,z+4,none⟩ (.b .a y1)).b ⟨sb,fD,none⟩=some (.b .a v):=(X2.i.K.1 fD).trans ((HB2.i.K.1 fD).symm.trans e1);have e3:=X2.i.K.2.1 fD;clear e1 ef hat hv hy;go_wp2_with fail;go_quiet ((go_at_call 243;(with_reducible refine(CC.i _).g ?_);rintro e w2 ⟨rfl,rfl⟩;exact⟨rfl,_,rfl⟩));have W1:=ab (show(wr.drewN nq).F ⟨tb,z+4,none⟩ (.b .a y1)=(wr.F ⟨tb,z+4,none⟩ (.b .a y1)).drewN nq from rfl)
  replace k4:(wr.drewN nq).b ⟨tb,z+4,none⟩=some (.b .a y):=k4
  replace kf:(wr.drewN nq).frozen? ⟨tb,z+4,none⟩=false:=kf
  replace e2:((wr.drewN nq).F ⟨tb,z+4,none⟩ (.b .a y1)).b ⟨sb,fD,none⟩=some (.b .a v):=e2
  replace e3:((wr.drewN nq).F ⟨tb,z+4,none⟩ (.b .a y1)).frozen? ⟨sb,fD,none⟩=false:=e3
  clear k2 k3;by_cases hfr:v = -1
  ·have hyf:y=f:=by
    rcases aZ y f with h1|h1
    ·exact absurd hfr (by rw[HV.i,HAT.i];exact EZ.i y hy1 h1)
    ·omega
   subst hfr;have HYF:=ab hyf;clear hyf;go_wp2;refine aN (vw rfl _ _ _) rfl ?_;refine⟨rfl,?_,?_,?_⟩
   ·rw[<-HYF.i,<-HYV.i];exact X1.i.dM ⟨sb,fD,none⟩ (.b .a i) (Ne.symm HNE.i)
   ·rw[<-HYF.i,<-HAT.i];exact X2.i.eH fD (.b .a i)
   ·exact(F1.i.drewN nq).set ⟨sb,fD,none⟩ (.b .a i) (.a (by simp))
  ·have hyf:y<f:=by
    rcases aZ y f with h1|h1
    ·exact h1
    ·exfalso
     have:y=f:=by omega
     exact hfr (by rw[HV.i,HAT.i,this];exact HY.i)
   go_wp2;go_roundw
   case rel=>exact⟨y1,by omega,by omega,X1.i,X2.i,F1.i.drewN nq⟩
   case measure=>
    have q1:((wr.drewN nq).F ⟨tb,z+4,none⟩ (.b .a y1)).b ⟨tb,z+4,none⟩=some (.b .a y1):=(X1.i.K.1 (z+4)).trans ((dO ..).trans ((if_pos rfl).trans (if_pos hcs)));have q2:wr.b ⟨tb,z+4,none⟩=some (.b .a y):=k4;rw[q1,q2];simp only[jr,intOf,dQ];omega
section
structure Tr where
 uP:Int
 uy:Int
 Z:Int
 skip:Int
 next:Int
def Tr.ay(x:Tr):Array aB:=#[.b .a x.uP,.b .a x.uy,.b .a x.Z,.b .a x.skip,.b .a x.next]
theorem Tr.G(x:Tr):x.ay.j=5:=by simp[Tr.ay]
theorem Tr.cK(x:Tr):x.ay.all (·.h)=true:=by simp[Tr.ay,cO]
@[go_sem]theorem Tr.Yp(x:Tr):x.ay[0]? = some (.b .a x.uP):=by simp[Tr.ay,aD]
@[go_sem]theorem Tr.ajk(x:Tr):x.ay[1]? = some (.b .a x.uy):=by simp[Tr.ay,aD]
@[go_sem]theorem Tr.ajl(x:Tr):x.ay[2]? = some (.b .a x.Z):=by simp[Tr.ay,aD]
@[go_sem]theorem Tr.apY(x:Tr):x.ay[3]? = some (.b .a x.skip):=by simp[Tr.ay,aD]
@[go_sem]theorem Tr.apZ(x:Tr):x.ay[4]? = some (.b .a x.next):=by simp[Tr.ay,aD]
theorem Tr.VK(x:Tr)(v:Int):x.ay.b 1 (.b .a v)=({x with uy:=v}:Tr).ay:=by simp[Tr.ay,aL]
theorem Tr.amG(x:Tr)(v:Int):x.ay.b 4 (.b .a v)=({x with next:=v}:Tr).ay:=by simp[Tr.ay,aL]
def zo:Tr:=⟨0,0,0,0,0⟩
@[go_sem]theorem ayk:bY #[bg,bg,bg,bg,bg]=bY zo.ay:=rfl
@[go_sem]theorem auq:eB #[bg,bg,bg,bg,bg] 155=eB zo.ay 155:=rfl
theorem kTr:oN 155 5 zo.ay:=⟨⟨_,Dr,rfl⟩,by kernel_rfl,by kernel_rfl,Tr.G _⟩
@[go_sem ↓]theorem aJl(v:aB):cu 155 v=yH 155 v:=rfl
@[go_sem ↓]theorem aJm(v x:aB):eF 155 v x=yR 155 v x:=rfl
@[go_sem]theorem aGg(W:ak)(b o:Nat)(h:xA W b o 5):(yH 155 (.c (some ⟨b,o,none⟩))).I ah W=.ok (.d (dY W b o 5)) W:=kTr.ld W b o h
@[go_sem]theorem aDg(W:ak)(c:Array aB)(x:Tr)(b:Nat)(hb:b=W.a.j)(hc:eD c=5):(yR 155 (.c (some ⟨b,0,none⟩)) (.d x.ay)).I ah (W.alloc (.D c 155))=.ok () (W.alloc (.D x.ay 155)):=kTr.stN W c x.ay b hb hc (Tr.G x) (Tr.cK x)
@[go_sem ↓]theorem aJn(ps:Array (Nat×aB)):fI 155 ps=uL 155 ps:=rfl
theorem aDh(w:ak)(fs:Array nU)(h:ah.k 155=some (.struct fs)):(iA (fun f=>Prod.mk f.Z <$> sizeOf f.type) fs:Sem (Array (Nat×Nat))).I ah w=.ok #[(0,1),(1,1),(2,1),(3,1),(4,1)] w:=by
 have e:=Dr;rw[h]at e;cases e;show _=_
 kernel_rfl
theorem Tr.D(x:Tr)(j:Nat)(hj:j<5):∃v,x.ay[j]? = some v:=⟨x.ay[j]'(by rw[Tr.G];exact hj),by simp[Tr.G,hj]⟩
def TrA(c:Array aB)(l:List Tr):Prop:=∀i,i<l.a->∀j,j<5->c[i*5+j]? = (l.c i zo).ay[j]?
theorem TrA.put{c:Array aB}{l:List Tr}(h:TrA c l){i j:Nat}(hi:i<l.a)(hj:j<5)(v:aB)(y:Tr)(hy:(l.c i zo).ay.b j v=y.ay):TrA (c.b (i*5+j) v) (l.set i y):=by
 intro i2 hi2 j2 hj2;rw[aV]at hi2;have h0:=h i2 hi2 j2 hj2;rw[dO,au,fF];by_cases e:i=i2
 ·subst e
  rw[if_pos rfl,if_pos hi,jr,<-hy,dO];by_cases e2:j=j2
  ·subst e2
   have hlt:i*5+j<c.j:=by
    rcases aZ (i*5+j) c.j with h1|h1
    ·exact h1
    ·obtain⟨u,hu⟩:=Tr.D (l.c i zo) j hj
     rw[aU h1,hu]at h0;cases h0
   rw[if_pos rfl,if_pos rfl,if_pos hlt,if_pos (by rw[Tr.G];exact hj)]
  ·rw[if_neg (by omega),if_neg e2,h0]
 ·rw[if_neg (by omega),if_neg e,<-au,h0]
theorem TrA.fD{W:ak}{b:Nat}{c:Array aB}{l:List Tr}(h:TrA c l)(hb:dL W b c){i:Nat}(hi:i<l.a):xA W b (i*5) 5/\dY W b (i*5) 5=(l.c i zo).ay/\W.b ⟨b,i*5,none⟩=some (.b .a (l.c i zo).uP)/\W.b ⟨b,i*5+1,none⟩=some (.b .a (l.c i zo).uy)/\W.frozen? ⟨b,i*5+1,none⟩=false:=by
 obtain⟨h1,h2,h3,h4⟩:=hb.K;have hs:i*5+5<=c.j:=by
  obtain⟨u,hu⟩:=Tr.D (l.c i zo) 4 (by omega);have:=h i hi 4 (by omega);rw[hu]at this;have:=(bV.1 this).1;omega
 refine⟨by rw[h3 _ _ (by unfold eD;omega)];trivial,?_,?_,?_,h2 _⟩
 ·rw[h4 _ _ (by unfold eD;omega)]
  apply dU;intro j;rw[dx];by_cases hj:j<5
  ·rw[if_pos (by omega),h i hi j hj]
  ·rw[if_neg (by omega),aU (by rw[Tr.G];omega)]
 ·rw[h1];have:=h i hi 0 (by omega);rw[nE]at this;rw[this];exact Tr.Yp _
 ·rw[h1,h i hi 1 (by omega)];exact Tr.ajk _
theorem WU(q:List Nat)(i:Nat)(hi:i<q.a):lK (q.d (i+1))=max (lK (q.d i)) (q.c i 0):=by
 unfold lK;rw[dP hi,List.foldl_append,au,aC hi];rfl
structure FiL(g n:Nat)(q o s:List Nat)(m:Mg)(l:List Tr):Prop where
 len:l.a=q.a
 crl:m.cr.a=q.a
 all:∀i,i<q.a->(l.c i zo).uP=q.c i 0/\(l.c i zo).Z=o.c i 0/\(l.c i zo).skip=s.c i 0/\(l.c i zo).uy=m.cr.c i 0/\m.cr.c i 0<g/\∃x:Nat,(l.c i zo).next=x/\x<=n/\∀t,t<x->rQ m.sl (re (o.c i 0) (s.c i 0) n t)=false
theorem BD{α:Type}(l:List α)(i j:Nat)(v d:α)(hi:i<l.a):(l.set i v).c j d=if i=j then v else l.c j d:=by
 rw[au,fF];by_cases h:i=j
 ·subst h;simp[hi]
 ·simp[h,au]
theorem adk{sl:List Int}{k j:Nat}{v:Int}(hv:v≠-1)(h:rQ sl j=false):rQ (sl.set k v) j=false:=by
 unfold rQ at h ⊢;rw[au,fF];split
 ·split
  ·simpa using hv
  ·simp
 ·rwa [<-au]
def GQ(o s:List Nat)(n i t:Nat):Nat:=re (o.c i 0) (s.c i 0) n t
variable {g n:Nat} {q o s:List Nat} {m:Mg} {l:List Tr}
theorem FiL.low(h:FiL g n q o s m l){i:Nat}(hi:i<q.a)(hlt:m.cr.c i 0+q.c i 0<g):FiL g n q o s (sI g n q (GQ o s n) m i) (l.set i {l.c i zo with uy:=(m.cr.c i 0+q.c i 0:Nat)}):=by
 have hl:=h.len;have hcl:=h.crl;unfold sI;rw[if_pos hlt];refine⟨by simpa using hl,by simpa using hcl,fun j hj=>?_⟩;rw[BD _ _ _ _ _ (by omega),BD _ _ _ _ _ (by omega)];by_cases e:i=j
 ·subst e
  simp only[if_true];obtain⟨a1,a2,a3,a4,a5,a6⟩:=h.all i hi;exact⟨a1,a2,a3,trivial,hlt,a6⟩
 ·rw[if_neg e,if_neg e]
  exact h.all j hj
theorem FiL.high(h:FiL g n q o s m l){i:Nat}(hi:i<q.a)(hge:¬m.cr.c i 0+q.c i 0<g)(hq:q.c i 0<=g){f:Nat}(hf:f=ff m.sl (GQ o s n i) n)(hfn:f<n)(hno:∀t,t<f->rQ m.sl (GQ o s n i t)=false):
 FiL g n q o s (sI g n q (GQ o s n) m i) ((l.set i {l.c i zo with uy:=(m.cr.c i 0+q.c i 0-g:Nat)}).set i {l.c i zo with uy:=(m.cr.c i 0+q.c i 0-g:Nat),next:=(f+1:Nat)}):=by
 have hl:=h.len;have hcl:=h.crl;unfold sI;rw[if_neg hge,<-hf,List.set_set];refine⟨by simpa using hl,by simpa using hcl,fun j hj=>?_⟩;rw[BD _ _ _ _ _ (by omega),BD _ _ _ _ _ (by omega)];by_cases e:i=j
 ·subst e
  simp only[if_true];obtain⟨a1,a2,a3,a4,a5,a6⟩:=h.all i hi;refine⟨a1,a2,a3,trivial,by omega,f+1,rfl,by omega,fun t ht=>?_⟩;rcases aZ t f with h1|h1
  ·exact adk (by omega) (hno t h1)
  ·have:t=f:=by omega
   subst this;unfold rQ;rw[au,fF];have e2:GQ o s n i t=re (o.c i 0) (s.c i 0) n t:=rfl;rw[e2,if_pos rfl];split
   ·simp
   ·simp
 ·rw[if_neg e,if_neg e]
  obtain⟨a1,a2,a3,a4,a5,x,a6,a7,a8⟩:=h.all j hj;exact⟨a1,a2,a3,a4,a5,x,a6,a7,fun t ht=>adk (by omega) (a8 t ht)⟩
theorem FiL.first(h:FiL g n q o s m l){i:Nat}(hi:i<q.a){f x:Nat}(hx:(l.c i zo).next=x)(hfree:rQ m.sl (GQ o s n i f)=true):x<=f:=by
 obtain⟨_,_,_,_,_,y,b1,b2,b3⟩:=h.all i hi;have:y=x:=by omega
 subst this;rcases aZ f y with h1|h1
 ·have:=b3 f h1
  have e2:GQ o s n i f=re (o.c i 0) (s.c i 0) n f:=rfl;rw[e2,this]at hfree;cases hfree
 ·exact h1
theorem adl(q:List Nat){i:Nat}(hi:i<q.a):q.c i 0<=lK q:=by
 have h1:∀(t:List Nat)(b:Nat),b<=t.foldl max b:=by
  intro t
  induction t with
  | nil=>intro b;exact av _
  | cons y t ih=>intro b;rw[jU];exact aO (Nat.le_max_left _ _) (ih _)
 have h2:∀(t:List Nat)(b i:Nat),i<t.a->t.c i 0<=t.foldl max b:=by
  intro t
  induction t with
  | nil=>intro b i hi;simp at hi
  | cons y t ih=>
    intro b i hi;rw[jU];cases i with
    | zero=>exact aO (Nat.le_max_right b y) (h1 t _)
    | succ i=>exact ih _ i (by simpa using hi)
 exact h2 q 0 i hi
variable (g n:Nat) (q o s:List Nat)
def FiS(g n:Nat)(q o s:List Nat)(tb sb:Nat)(W:ak)(J:Nat)(wr:ak):Prop:=∃(l:List Tr)(c d:Array aB),FiL g n q o s (jL g n q (GQ o s n) J) l/\TrA c l/\SlA d (jL g n q (GQ o s n) J).sl/\dL wr tb c/\dL wr sb d/\jD [tb,sb] W wr
theorem afK(tb sb k ck n cn g:Nat)(q o s:List Nat)(c d:Array aB)(l0:List Tr)(W:ak)(hg:lK q=g)(hc:dL W tb c)(hd:dL W sb d)(hne:tb≠sb)(hk:q.a=k)(hT:TrA c l0)(hS:SlA d (dS n (-1)))(hL:FiL g n q o s ⟨q.map fun _=>0,dS n (-1),n⟩ l0)
 (hk1:1<=k) (hk2:k<=100000) (hck:k<=ck) (hn:1<=n) (hn2:n<=100000) (hcn:n<=cn) (hq0:∀x∈q,0<x) (hg2:g<=100000000) (ho:∀i,i<k->o.c i 0<=100000) (hs:∀i,i<k->s.c i 0<=100000) (hf:abR n k (GQ o s n)) :
 aQ ah 85 #[.a (some ⟨tb,0,none⟩) k ck,.a (some ⟨sb,0,none⟩) n cn] W fun e W'=>e=.a (.J #[])/\(∃d',dL W' sb d'/\SlA d' (Ef n q (GQ o s n)))/\jD [tb,sb] W W':=by
 have hqn:q≠[]:=by intro e;rw[e]at hk;simp at hk;omega
 obtain⟨K,_,hK1,hK2,hK3⟩:=XB (n:=n) (ch:=GQ o s n) hqn hq0;rw[hg]at hK1 hK2 hK3;have OK:=ab (fun J (hJ:J<=K)=>akP (g:=g) (n:=n) (q:=q) (ch:=GQ o s n) (by omega) (by rw[hk];exact hf) J (fun t ht=>hK2 t (by omega)));have HK1:=ab hK1;have HK2:=ab hK2;have HK3:=ab hK3;have HG:=ab hg;have HF:=ab (show abR n q.a (GQ o s n)by rw[hk];exact hf);have HKQ:=ab hk;have ST0:=ab (show FiS g n q o s tb sb W 0 W from⟨l0,c,d,hL,hT,hS,hc,hd,jD.refl _ _⟩);have HT:=ab hT;have Lx:=ab (hL.len.trans hk);have HQ0:=ab (fun i (hi:i<k)=>(hL.all i (by omega)).1);have HO:=ab ho;have HS':=ab hs;have HNE:=ab hne;have HC:=ab hc;have Yq:=ab (fun i (hi:i<k)=>(by have:=adl q (i:=i) (by omega);omega:q.c i 0<=g));have HQP:=ab hq0;clear hK1 hK2 hK3 hg hf hk hL hT hS hc hd ho hs hne hqn hq0;go_enter Tryz.func85,Tryz.ntmps85;go_wp2;go_step3;go_wp2;go_loopw [4,12] (fun s4 s12 wr=>∃i:Nat,i<=k/\s12=.b .a i/\s4=.b .a (lK (q.d i):Nat)/\dL wr tb c/\FiS g n q o s tb sb W 0 wr) (fun _ s12 _=>k-(intOf s12).e)
 case atStart=>exact⟨0,gQ _,rfl,rfl,HC.i,ST0.i⟩
 case round=>
  obtain⟨i,hi,rfl,rfl,hbc,hst⟩:=hrel;have HB:=ab hbc;have HST:=ab hst;clear hst;by_cases hlt:i<k
  ·have hli:(i:Int)<k:=by omega
   obtain⟨a1,a2,_,_,_⟩:=HT.i.fD hbc (i:=i) (by rw[Lx.i];exact hlt);obtain⟨x,hx⟩:=dw (l0.c i zo);have hxq:x.uP=(q.c i 0:Nat):=by rw[hx];exact HQ0.i i hlt
   rw[<-hx]at a2;have hg1:=WU q i (by rw[HKQ.i];exact hlt);obtain⟨u,hu⟩:=dw (lK (q.d i));obtain⟨v,hv⟩:=dw (q.c i 0);obtain⟨z,hz⟩:=dw (lK (q.d (i+1)));rw[<-hu,<-hv,<-hz]at hg1;rw[<-hv]at hxq;have m1:max (u:Int) (v:Int)=z:=by omega
   have m2:(if(u:Int)<(v:Int)then(v:Int)else(u:Int))=z:=by split<;>omega
   have X1:=ab (dL.new wr x.ay 155);have b0:=X1.i.K.1 0;rw[Tr.Yp]at b0;have HZ:=ab hz;rw[<-hu];clear hx hu hv hg1 hz hbc;go_wp2;go_roundw
   case rel=>exact⟨i+1,by omega,by go_num,by rw[<-HZ.i],HB.i.alloc _,by obtain⟨l,c1,d1,y1,y2,y3,y4,y5,y6⟩:=HST.i;exact⟨l,c1,d1,y1,y2,y3,y4.alloc _,y5.alloc _,y6.alloc _⟩⟩
   case measure=>simp[intOf]<;>omega
  ·have hik:i=k:=by omega
   have hd:decide ((i:Int)<k)=false:=by simp;omega
   have HGI:=ab (show lK (q.d i)=g by rw[hik,<-HKQ.i,zQ,HG.i]);rw[HGI.i];clear hik;go_wp2;go_step3;go_wp2;have HKP:=ab (show 0<K by
    rcases dW K with h0|h0
    ·have:=HK1.i;rw[h0]at this;simp[jL]at this;omega
    ·exact h0)
   go_loopw [7] (fun s7 wr=>∃(J r:Nat),J=r*k/\J<K/\s7=.b .a ((jL g n q (GQ o s n) J).left:Nat)/\FiS g n q o s tb sb W J wr) (fun s7 _=>(intOf s7).e)
   case atStart=>exact⟨0,0,by omega,HKP.i,rfl,HST.i⟩
   case round=>
    obtain⟨J,r,hJ,hJK,rfl,ayn⟩:=hrel;have HJ:=ab hJ;have aDi:=ab ayn;obtain⟨lf,hlf⟩:=dw ((jL g n q (GQ o s n) J).left);have HLF:=ab hlf;rw[<-hlf];clear hJ ayn hlf hd;go_wp2;go_loopw [7,25] (fun s7 s25 wr=>∃(i J2:Nat),i<=k/\s25=.b .a i/\J2=J+i/\J2<K/\s7=.b .a ((jL g n q (GQ o s n) J2).left:Nat)/\FiS g n q o s tb sb W J2 wr) (fun _ s25 _=>k-(intOf s25).e)
    case atStart=>exact⟨0,J,gQ _,rfl,rfl,hJK,by rw[HLF.i],aDi.i⟩
    case round=>
     obtain⟨i2,J2,hi2,rfl,hJ2,ayo,rfl,l,c1,d1,hL,hT,hS,hb1,hb2,hfr⟩:=hrel;have HJ2:=ab hJ2;obtain⟨m,hm⟩:=dw (jL g n q (GQ o s n) J2);have HM:=ab hm;rw[<-hm]at hL hS;rw[<-hm];clear hJ2 hm;by_cases hlt:i2<k
     ·have hli:(i2:Int)<k:=by omega
      have hiq:i2<q.a:=by rw[HKQ.i];exact hlt
      have MOK:=ab (show aev n q m by rw[HM.i];exact OK.i J2 (by omega));have hl0:m.left≠0:=by rw[HM.i];exact HK2.i J2 ayo
      have HNX:=ab (show jL g n q (GQ o s n) (J2+1)=sI g n q (GQ o s n) m i2 by
       rw[HM.i];show sI g n q (GQ o s n) _ (J2%q.a)=_;rw[HKQ.i,HJ2.i,HJ.i,Cu,Nat.mul_add_mod,fK hlt])
      obtain⟨e1,e2,e3,e4,e5,x,e6,e7,e8⟩:=hL.all i2 hiq;have hll:i2<l.a:=by rw[hL.len];exact hiq
      obtain⟨_,_,k1,k2,k3⟩:=hT.fD hb1 hll;obtain⟨y,hy⟩:=dw (l.c i2 zo);rw[<-hy]at e1 e2 e3 e4 e6 k1 k2;obtain⟨ci,hci⟩:=dw (m.cr.c i2 0);obtain⟨qi,hqi⟩:=dw (q.c i2 0);rw[<-hci]at e4 e5;rw[<-hqi]at e1;rw[e1]at k1;rw[e4]at k2;have hqg:qi<=g:=by rw[hqi];exact Yq.i i2 hlt
      obtain⟨cs,hcs⟩:=dw (ci+qi);have s1:(ci:Int)+(qi:Int)=cs:=by omega
      have hcs2:cs<=200000000:=by omega
      have s2:=jT (cs:Int) (by omega);have X1:=ab (show dL ((wr.F ⟨tb,i2*5+1,none⟩ (.b .a cs)).drew) tb (c1.b (i2*5+1) (.b .a (cs:Nat)))from hb1.eH (i2*5+1) (.b .a cs));have X2:=ab (show dL ((wr.F ⟨tb,i2*5+1,none⟩ (.b .a cs)).drew) sb d1 from hb2.dM ⟨tb,i2*5+1,none⟩ (.b .a cs) HNE.i);have F1:=ab (show jD [tb,sb] W ((wr.F ⟨tb,i2*5+1,none⟩ (.b .a cs)).drew)from(hfr.set ⟨tb,i2*5+1,none⟩ (.b .a cs) (.a (by simp))).drewN 1);have T1:=ab (hT.put (j:=1) hll (by omega) (.b .a (cs:Nat)) {y with uy:=(cs:Nat)} (by rw[<-hy];exact Tr.VK y cs));have HL:=ab hL;have HS:=ab hS;have HCI:=ab hci;have HQI:=ab hqi;have HCS:=ab hcs;have HYL:=ab hy;have E2:=ab e2;have E3:=ab e3;have E6:=ab e6;clear hL hT hS hb1 hb2 hfr e1 e2 e3 e4 e6 e7 e8 hy hci hqi hcs;go_upto_region 11 with fail
      go_region;clear k1 k2 k3 s1 s2;generalize(wr.F ⟨tb,i2*5+1,none⟩ (.b .a cs)).drew=w1 at X1 X2 F1 ⊢;obtain⟨_,_,_,k2,k3⟩:=T1.i.fD X1.i (i:=i2) (by rw[aV];exact hll);rw[BD _ _ _ _ _ hll,if_pos rfl]at k2;simp only at k2;by_cases hlow:cs<g
      ·have hlo:(cs:Int)<g:=by omega
       have HL2:=ab (show FiL g n q o s (jL g n q (GQ o s n) (J2+1)) (l.set i2 {y with uy:=(cs:Nat)})by
        have:=HL.i.low hiq (by rw[<-HCI.i,<-HQI.i,<-HCS.i];exact hlow);rw[<-HCI.i,<-HQI.i,<-HCS.i,<-HYL.i]at this;rw[HNX.i];exact this)
       have HM2:=ab (show(jL g n q (GQ o s n) (J2+1)).sl=m.sl/\(jL g n q (GQ o s n) (J2+1)).left=m.left by
        rw[HNX.i];unfold sI;rw[if_pos (by rw[<-HCI.i,<-HQI.i,<-HCS.i];exact hlow)];exact⟨rfl,rfl⟩)
       have aDm:=ab (show J2+1<K by
        rcases aZ (J2+1) K with h1|h1
        ·exact h1
        ·exfalso
         have:J2+1=K:=by omega
         have h2:=HM2.i.2;rw[this,HK1.i]at h2;omega)
       clear hlow;go_wp2;go_roundw
       case rel=>exact⟨i2+1,J2+1,by omega,by go_num,by rw[HJ2.i];omega,aDm.i,by rw[HM2.i.2],_,_,_,HL2.i,T1.i,by rw[HM2.i.1];exact HS.i,X1.i,X2.i,F1.i⟩
       case measure=>simp[intOf]<;>omega
      ·have hge:¬(cs:Int)<g:=by omega
       obtain⟨dh,hdh⟩:=dw (cs-g);have s3:(cs:Int)-(g:Int)=dh:=by omega
       have s4:=jT (dh:Int) (by omega);have HDH:=ab hdh;have X3:=ab (show dL (w1.F ⟨tb,i2*5+1,none⟩ (.b .a dh)) tb ((c1.b (i2*5+1) (.b .a (cs:Nat))).b (i2*5+1) (.b .a (dh:Nat)))from X1.i.eH (i2*5+1) (.b .a dh));have X4:=ab (show dL (w1.F ⟨tb,i2*5+1,none⟩ (.b .a dh)) sb d1 from X2.i.dM ⟨tb,i2*5+1,none⟩ (.b .a dh) HNE.i);have F3:=ab (show jD [tb,sb] W (w1.F ⟨tb,i2*5+1,none⟩ (.b .a dh))from F1.i.set ⟨tb,i2*5+1,none⟩ (.b .a dh) (.a (by simp)));have T3:=ab (show TrA ((c1.b (i2*5+1) (.b .a (cs:Nat))).b (i2*5+1) (.b .a (dh:Nat))) (l.set i2 {y with uy:=(dh:Nat)})by
        have:=T1.i.put (j:=1) (i:=i2) (by rw[aV];exact hll) (by omega) (.b .a (dh:Nat)) {y with uy:=(dh:Nat)} (by rw[BD _ _ _ _ _ hll,if_pos rfl,Tr.VK])
        rwa [List.set_set]at this)
       clear X1 X2 T1 hdh;generalize(c1.b (i2*5+1) (.b .a (cs:Nat))).b (i2*5+1) (.b .a (dh:Nat))=c3 at X3 T3;obtain⟨f,hf⟩:=dw (ff m.sl (GQ o s n i2) n);obtain⟨ff1,ff2,ff3⟩:=aq0 (MOK.i.free HF.i hl0 hiq);rw[<-hf]at ff1 ff2 ff3;have hlen3:i2<(l.set i2 {y with uy:=(dh:Nat)}).a:=by rw[aV];exact hll
       have hget:(l.set i2 {y with uy:=(dh:Nat)}).c i2 zo={y with uy:=(dh:Nat)}:=by rw[BD _ _ _ _ _ hll,if_pos rfl]
       have q2:=T3.i i2 hlen3 2 (by omega);have q3:=T3.i i2 hlen3 3 (by omega);have q4:=T3.i i2 hlen3 4 (by omega);rw[hget]at q2 q3 q4;rw[Tr.ajl]at q2;rw[Tr.apY]at q3;rw[Tr.apZ]at q4;simp only[E2.i,E3.i,E6.i]at q2 q3 q4;have CT:=ab (fun(w2:ak) (hb1:dL w2 tb c3) (hb2:dL w2 sb d1)=>afJ tb sb (i2*5) i2 n cn (o.c i2 0) (s.c i2 0) x f c3 d1 m.sl w2 hb1 hb2 HNE.i q2 q3 q4 HS.i MOK.i.sll hn hn2 hcn (HO.i i2 hlt) (HS'.i i2 hlt) (HL.i.first hiq (by rw[<-HYL.i];exact E6.i) ff2) ff1
        (fun t _ ht=>of_decide_eq_false (ff3 t ht)) (of_decide_eq_true ff2))
       have HL3:=ab (show FiL g n q o s (jL g n q (GQ o s n) (J2+1)) ((l.set i2 {y with uy:=(dh:Nat)}).set i2 {y with uy:=(dh:Nat),next:=(f+1:Nat)})by
        have:=HL.i.high hiq (by rw[<-HCI.i,<-HQI.i,<-HCS.i];exact hlow) (by rw[<-HQI.i];exact hqg) hf ff1 ff3;rw[<-HCI.i,<-HQI.i,<-HCS.i,<-HYL.i,<-HDH.i]at this;rw[HNX.i];exact this)
       have HM3:=ab (show(jL g n q (GQ o s n) (J2+1)).sl=m.sl.set (re (o.c i2 0) (s.c i2 0) n f) i2/\(jL g n q (GQ o s n) (J2+1)).left=m.left-1 by
        rw[HNX.i];unfold sI;rw[if_neg (by rw[<-HCI.i,<-HQI.i,<-HCS.i];exact hlow),<-hf];exact⟨rfl,rfl⟩)
       have T4:=ab (T3.i.put (j:=4) hlen3 (by omega) (.b .a (f+1:Nat)) {y with uy:=(dh:Nat),next:=(f+1:Nat)} (by rw[hget];exact Tr.amG _ _));obtain⟨lf2,ayp⟩:=dw (m.left-1);have hmn:m.left<=n:=by
        have:=MOK.i.fr;have h1:=MOK.i.sll;have h2:=List.countP_le_length (p:=fun x:Int=>decide (x = -1)) (l:=m.sl);unfold Ik at this;omega
       have s5:(m.left:Int)-1=lf2:=by omega
       have s6:=jT (lf2:Int) (by omega);rw[<-ayp]at HM3;clear hlow ff1 ff2 ff3 hf hget q2 q3 q4 hlen3 ayp hmn;by_cases hz:lf2=0
       ·have aDn:=ab (show Ef n q (GQ o s n)=m.sl.set (re (o.c i2 0) (s.c i2 0) n f) i2 by
         have hK:K=J2+1:=by
          rcases aZ (J2+1) K with h1|h1
          ·have:=HK2.i _ h1
           rw[HM3.i.2]at this;exact absurd hz this
          ·omega
         rw[HK3.i,hK,HM3.i.1])
        subst hz;go_wp2_with (go_at_call 169;(with_reducible refine(CT.i _ X3.i X4.i).g ?_);rintro e w3 ⟨rfl,ht1,ht2,ht3⟩;have X5:=ab ht2;have F5:=ab (F3.i.pQ ht3);clear ht1 ht2 ht3)
        try rw[Exit.noGoto_normal]
        go_end0;exact⟨rfl,⟨_,X5.i,by rw[aDn.i];exact HS.i.set _⟩,F5.i⟩
       ·have hz2:¬(lf2:Int)=0:=by omega
        have aDo:=ab (show J2+1<K by
         rcases aZ (J2+1) K with h1|h1
         ·exact h1
         ·exfalso
          have:J2+1=K:=by omega
          have h2:=HM3.i.2;rw[this,HK1.i]at h2;omega)
        go_wp2_with (go_at_call 169;(with_reducible refine(CT.i _ X3.i X4.i).g ?_);rintro e w3 ⟨rfl,ht1,ht2,ht3⟩;have X5:=ab ht1;have X6:=ab ht2;have F5:=ab (F3.i.pQ ht3);clear ht1 ht2 ht3);go_roundw
        case rel=>exact⟨i2+1,J2+1,by omega,by go_num,by rw[HJ2.i];omega,aDo.i,by rw[HM3.i.2],_,_,_,HL3.i,T4.i,by rw[HM3.i.1];exact HS.i.set _,X5.i,X6.i,F5.i⟩
        case measure=>simp[intOf]<;>omega
     ·have ayq:i2=k:=by omega
      have hd2:decide ((i2:Int)<k)=false:=by simp;omega
      have HJR:=ab (show J2=(r+1)*k by rw[HJ2.i,HJ.i,ayq,Nat.add_mul];omega);have HLS:=ab (show m.left<lf by
       obtain⟨i0,hi0,hgi⟩:=C8 (q:=q) (by intro e;have:=HKQ.i;rw[e]at this;simp at this;omega) HQP.i;rw[HG.i]at hgi;have hp:=Zf (g:=g) (n:=n) (q:=q) (ch:=GQ o s n) hi0 hgi r;rw[HKQ.i,<-HJR.i,<-HJ.i,<-HLF.i,<-HM.i]at hp;have h1:=HK2.i J hJK;rw[<-HLF.i]at h1;omega)
      have aDp:=ab (show FiS g n q o s tb sb W J2 wr from⟨l,c1,d1,by rw[<-HM.i];exact hL,hT,by rw[<-HM.i];exact hS,hb1,hb2,hfr⟩);clear hL hT hS hb1 hb2 hfr ayq;go_wp2;go_roundw
      case rel=>exact⟨J2,r+1,HJR.i,ayo,by rw[HM.i],aDp.i⟩
      case measure=>have:=HLS.i;simp[intOf]<;>omega
end
def ap1(l:List oQ):Prop:=VH l/\(∀x∈l,0<=x.q/\x.q<=1024000)/\l.a<=1024
theorem VH.ne{l:List oQ}(h:VH l){j:Nat}(hj:j+1<l.a):(l.c j kY).E≠(l.c (j+1) kY).E:=by
 have:=fO.1 h j (j+1) (by omega) hj (by omega);rw[au,au,aC (by omega),aC hj,jr,jr];intro e;rw[e,sM]at this;cases this
theorem Yr{B:Nat}{w W:ak}(h:aM B w W)(q:Nat):aM B w (W.drewN q):=⟨h.os,h.tape,h.output,h.j,h.block⟩
theorem ajo(l:List oQ)(hk:ap1 l)(A:Option aT)(n c:Nat)(w:ak)(hR:iR oQ.ay 2 w w.a.j A n l):
 aQ ah 82 #[.a A n c] w (gU w (.e true)):=by
 have hl:=hR.1;have hn:n<=1024:=by have:=hk.2.2;omega
 have HK:=ab hk;have HR:=ab hR;have HL:=ab hl;clear hk hl;go_enter Tryz.func82,Tryz.ntmps82;go_wp2;go_loopw [7] (fun i wr=>∃k:Nat,k<=n/\i=.b .a k/\aM w.a.j w wr)
  (fun i _=>n-(intOf i).e)
 case atStart=>exact⟨0,gQ _,rfl,aG _ _⟩
 case round=>
  obtain⟨k,hkn,rfl,hnx⟩:=hrel;have HN:=ab hnx;by_cases hlt:k<n
  ·have hki:(k:Int)<n:=by omega
   have R1:=ab (HR.i.S HN.i);obtain⟨b,o,hA,hbb,hh,hc⟩:=iR.fD oQ.AQ kY R1.i hlt;subst hA;obtain⟨x,hx⟩:=dw (l.c k kY);rw[<-hx]at hc;have hxm:x∈l:=by rw[hx,au,aC (by rw[HL.i];omega),jr];exact dX _
   obtain⟨q1,q2⟩:=HK.i.2.1 x hxm;have t1:decide (x.q<0)=false:=by simp;omega
   have t2:decide (x.q>1024000)=false:=by simp;omega
   have t3:decide (1024000<x.q)=false:=by simp;omega
   have HX:=ab hx;have hsz:=hnx.j;have HB1:=ab (hnx.alloc (by omega) (.D x.ay 151));have bx:=ab (dL.new wr x.ay 151);have f0:∀i,(wr.alloc (.D x.ay 151)).b ⟨wr.a.j,i,none⟩=x.ay[i]?:=bx.i.K.1;have s0:=(f0 0).trans (oQ.yt x);have s1:=(f0 1).trans (oQ.apT x);have i3:=jT ((k:Int)+1) (by omega);clear hx hbb hnx hxm f0 q1 q2 hsz;by_cases h0:0<k
   ·obtain⟨j,hj⟩:∃j,k=j+1:=⟨k-1,by omega⟩
    obtain⟨b2,o2,hA2,abM,hcj⟩:=iR.cell oQ.AQ kY ((HR.i.S HN.i).alloc (by have:=HN.i.j;omega) (.D x.ay 151)) (show j<n by omega);obtain⟨y,hy⟩:=dw (l.c j kY);have hne:y.E≠x.E:=by
     rw[hy,HX.i,hj];exact HK.i.1.ne (by rw[HL.i];omega)
    rw[<-hy]at hcj;cases hA2;have c0:=(hcj 0 (by omega)).trans (oQ.yt y);rw[nE]at c0;have t4:decide ((k:Int)>0)=true:=by simp;omega
    have t5:decide (0<k)=true:=by simp;omega
    have t6:(y.E==x.E)=false:=by simpa using hne
    have i1:(k:Int)-1=(j:Int):=by omega
    have i2:=jT (j:Int) (by omega);have i4:(j:Int)<n:=by omega
    clear hcj hy hne hj h0 abM;go_wp2_with fail;go_quiet (fail);go_wp2;go_roundw
    case rel=>exact⟨k+1,by omega,by simp,Yr HB1.i _⟩
    case measure=>simp[intOf];omega
   ·have t4:decide ((k:Int)>0)=false:=by simp;omega
    have t5:decide (0<k)=false:=by simp;omega
    clear h0;go_wp2_with fail;go_quiet (fail);go_wp2;go_roundw
    case rel=>exact⟨k+1,by omega,by simp,Yr HB1.i _⟩
    case measure=>simp[intOf];omega
  ·obtain rfl:k=n:=by omega
   have hd:decide ((k:Int)<k)=false:=by simp
   have t1:decide ((k:Int)<=1024)=true:=by simp;omega
   go_wp2;go_ret;exact⟨rfl,HN.i⟩
theorem ajp(x y:Nat)(hx:x<18446744073709551616)(hy:y<18446744073709551616)(w:ak):
 aQ ah 242 #[.b .c x,.b .c y] w fun e w'=>e=.a (.J #[.b .c ((x*y/18446744073709551616:Nat):Int),.b .c ((x*y%18446744073709551616:Nat):Int)])/\w=w':=by
 obtain⟨bd,bt,bw,hhi⟩:=Lib.mul64_hi x y hx hy;have ba:=Lib.half_mul_le (a:=x/4294967296) (b:=y/4294967296) (by omega) (by omega);have bb:=Lib.half_mul_le (a:=x/4294967296) (b:=y%4294967296) (by omega) (by omega);have bc:=Lib.half_mul_le (a:=x%4294967296) (b:=y/4294967296) (by omega) (by omega);have ba':x/4294967296*(y/4294967296)<18446744073709551616:=by omega
 have bb':x/4294967296*(y%4294967296)<18446744073709551616:=by omega
 have bc':x%4294967296*(y/4294967296)<18446744073709551616:=by omega
 have bh1:x/4294967296*(y/4294967296)+(x/4294967296*(y%4294967296)+x%4294967296*(y%4294967296)/4294967296)/4294967296<18446744073709551616:=by omega
 have bh:x/4294967296*(y/4294967296)+(x/4294967296*(y%4294967296)+x%4294967296*(y%4294967296)/4294967296)/4294967296+((x/4294967296*(y%4294967296)+x%4294967296*(y%4294967296)/4294967296)%4294967296+x%4294967296*(y/4294967296))/4294967296<18446744073709551616:=by
  rw[hhi];have:=gP (show x<=18446744073709551615 by omega) (show y<=18446744073709551615 by omega);omega
 go_enter Tryz.func242,Tryz.ntmps242;go_wp2;simp only[Mul64.maskN x hx,Mul64.maskN y hy,Mul64.divN,Mul64.mulN,Mul64.addN,vM _ bd,vM _ bb',vM _ bt,Mul64.maskN _ bt,vM _ bc',vM _ bw,vM _ ba',vM _ bh1,vM _ bh,Mul64.wrapM];rw[hhi];go_ret2;exact⟨rfl,rfl⟩
theorem ap2(x y:Nat)(hx:x<18446744073709551616)(hy:y<18446744073709551616)(w:ak):
 aQ ah 168 #[.b .c x,.b .c y] w fun e w'=>e=.a (.J #[.b .c ((x*y/18446744073709551616:Nat):Int),.b .c ((x*y%18446744073709551616:Nat):Int)])/\w=w':=by
 have C:=ab (ajp x y hx hy w);go_enter Tryz.func168,Tryz.ntmps168;go_wp2_with (go_at_call 242;(with_reducible refine C.i.g ?_);rintro e w1 ⟨rfl,rfl⟩);go_ret2;exact⟨rfl,rfl⟩
theorem mul_one(n:Nat)(hn:n<=1000000)(w:ak):
 aQ ah 168 #[.b .c 1,.b .c n] w fun e w'=>e=.a (.J #[.b .c 0,.b .c n])/\w=w':=by
 refine(ap2 1 n (by decide) (by omega) w).g ?_;rintro e w1 ⟨rfl,rfl⟩;have e1:1*n/18446744073709551616=0:=by omega
 have e2:1*n%18446744073709551616=n:=by omega
 rw[e1,e2];exact⟨rfl,rfl⟩
theorem ahg(w:ak)(n:Nat)(hn:n<=1000000):(xI 70 (.b .a n) (.b .a n)).I ah w=.ok (.a (some ⟨w.a.j,0,none⟩) n n) (w.alloc (.D (madeCells #[.b .a 0] n) 3)):=by
 obtain⟨i,h1,h2,h3,h4⟩:=BM (P:=ah) (e:=3) (z:=.b .a 0) (size:=1) (bytes:=8) (by kernel_rfl);have:=run_make w 70 3 i _ og h1 h2 .a .a (n:Int) (n:Int) (by omega) (by omega) (by rw[h4];omega) (by omega);rw[dQ,h3,gB]at this;exact this
theorem afL{w:ak}{ops:Array iV}{rest:List iV}{o:iV}{a:qQ}{Q:zO->qQ->ak->Prop}(hg:o.guard=none)(l c:pG)(Ei:o.op=Op.makeSlice 70 l c)
 (n:Nat) (hl:a.eval l=.b .a n) (hc:a.eval c=.b .a n) (hn:n<=1000000)
 (hK:wpList ah ops Q rest (a.put o.Y (.a (some ⟨w.a.j,0,none⟩) n n)) (w.alloc (.D (madeCells #[.b .a 0] n) 3))):wpList ah ops Q (o::rest) a w:=by
 refine sV hg fun K hK'=>?_
 unfold nu;simp[execOp,Ei,hl,hc,ahg w n hn,iE];exact hK' _ _ hK
theorem ahh(W:ak){y z m dl dc sl sc:Nat}{a:aT}{vs:List aB}(hm:vs.a=m)(hm2:m=qj sl dl)(hsrc:∀j v,vs[j]? = some v->W.b (a.add j)=some v)(hth:W.O y z m)(h1:∀v∈vs,v.h=true)(ty:bK):
 (Builtin.copy_ #[70,70] ty #[.a (some ⟨y,z,none⟩) dl dc,.a (some a) sl sc]).I ah W=.ok (goInt m) (W.setCells y z vs):=by
 have:=run_copy_cells (P:=ah) W 70 70 ty 3 y z dl dc a sl sc vs og (by kernel_rfl) (by rw[hm,hm2]) hsrc (fun j hj=>(hth j (by rw[<-hm];exact hj)).1) (fun j hj=>(hth j (by rw[<-hm];exact hj)).2) h1;rw[hm]at this;exact this
theorem afM{w:ak}{ops:Array iV}{rest:List iV}{o:iV}{a:qQ}{Q:zO->qQ->ak->Prop}(hgd:o.guard=none)(d s:pG)
 (ho:o.op=.call {callee:=.builtin .copy,args:=#[d,s],argTypes:=#[70,70]}) {y z m dl dc sl sc:Nat} {dp:Option aT} {b:aT} {vs:List aB} (hdp:dp=some ⟨y,z,none⟩) (hd:a.eval d=.a dp dl dc) (hs:a.eval s=.a (some b) sl sc)
 (hm:vs.a=m) (hm2:m=qj sl dl) (hsrc:∀j v,vs[j]? = some v->w.b (b.add j)=some v) (hth:w.O y z m) (h1:∀v∈vs,v.h=true)
 (h:wpList ah ops Q rest (a.put o.Y (goInt m)) (w.setCells y z vs)):wpList ah ops Q (o::rest) a w:=by
 subst hdp;refine sV hgd fun K hK=>?_
 unfold nu;simp[execOp,ho,resolve,invoke,builtin,hd,hs,ahh w hm hm2 hsrc hth h1,iE];exact hK _ _ h
theorem amH{w:ak}{ops:Array iV}{o:iV}{a:qQ}{K:qQ->ak->Prop}{Q:zO->qQ->ak->Prop}{E:Prop}(hgd:o.guard=none)(d s:pG)
 (ho:o.op=.call {callee:=.builtin .copy,args:=#[d,s],argTypes:=#[70,70]}) {y z m dl dc sl sc:Nat} (dp:Option aT) {b:aT} {vs:List aB} (hdp:dp=some ⟨y,z,none⟩) (hd:a.eval d=.a dp dl dc) (hs:a.eval s=.a (some b) sl sc)
 (hm:vs.a=m) (hm2:m=qj sl dl) (hsrc:∀j v,vs[j]? = some v->w.b (b.add j)=some v) (hth:w.O y z m) (h1:∀v∈vs,v.h=true)
 (h:K (a.put o.Y (goInt m)) (w.setCells y z vs)):if fB o (yielded ops a.tmps)=true then nu ah o a w K Q else E:=by
 subst hdp;have hw:fB o (yielded ops a.tmps)=true:=by simp[fB,hgd]
 rw[if_pos hw];unfold nu;simp[execOp,ho,resolve,invoke,builtin,hd,hs,ahh w hm hm2 hsrc hth h1,iE];exact h
section
attribute [local go_sem high] iU jE
theorem amI(n:Nat)(h:n<18446744073709551616):jo.wrap (n:Int)=(n:Int):=vM n h
theorem afN(n:Nat)(hn:1<=n)(hn2:n<=100000)(b cx:Nat)(v:Int)(w:ak)(hx:dL w b #[.b .a v]):
 aQ ah 84 #[.a (some ⟨b,0,none⟩) 1 cx,.b .a n] w fun e w'=>∃g d,w.a.j<=g/\e=.a (.a (some ⟨g,0,none⟩) n n)/\dL w' g d/\d.j=n/\SlA d (dS n v)/\aM w.a.j w w':=by
 have MU:=ab (fun w=>mul_one n (by omega) w);have hnI:(1:Int)<=n:=by omega
 have t1:decide ((n:Int)<0)=false:=by simp
 have t2:decide ((n:Int)>9223372036854775807)=false:=by simp;omega
 have t3:decide ((9223372036854775807:Int)<n)=false:=by simp;omega
 have t4:decide (9223372036854775807<n)=false:=by simp;omega
 have u1:=amI n (by omega);have i1:=jT (n:Int) (by omega);obtain⟨d0,hd0⟩:=dw (madeCells #[.b .a 0] n);have D0:=ab (show d0.j=n by rw[hd0];exact size_madeCells _ _);have HD0:=ab hd0;obtain⟨g,hg⟩:=dw w.a.j;have BG:=ab (show dL (w.alloc (.D d0 3)) g d0 by rw[hg];exact dL.new w d0 3);have BX:=ab (hx.alloc (.D d0 3));have HG:=ab hg;have HLT:=ab (show b≠g by rw[hg];exact Nat.ne_of_lt hx.lt);have BL:=ab ((aG w.a.j w).alloc (av _) (.D d0 3));have SRC:=ab (show∀j u,[(.b .a v:aB)][j]? = some u->(w.alloc (.D d0 3)).b ((⟨b,0,none⟩:aT).add j)=some u by
  intro j u hu;have:=BX.i.K.1 j;cases j with
  | zero=>simpa[qX]using this.trans hu
  | succ j=>simp at hu)
 have TH:=ab (BG.i.O 0 1 (by rw[D0.i];omega));have MK:=ab (ahg w n (by omega));clear hd0 hg;go_enter Tryz.func84,Tryz.ntmps84;go_wp2_with (first|(go_at_call 168;(with_reducible refine(MU.i _).g ?_);rintro e w1 ⟨rfl,rfl⟩)|(refine afL rfl (.a 29) (.a 29) rfl n rfl rfl (by omega) ?_;rw[<-HD0.i,<-HG.i];generalize hww:w.alloc (.D d0 3)=w1 at BG BX BL SRC TH⊢;clear hww)|(refine afM rfl (.a 31) (.a 32) rfl (y:=g) (z:=0) (m:=1) (vs:=[.b .a v]) rfl rfl rfl rfl (by show 1=min 1 n;omega) SRC.i TH.i (by simp[cO]) ?_));have B1:=ab (BG.i.setCells 0 [.b .a v]);have L1:=ab (xO (B:=w.a.j) (aX HG.i.symm) [.b .a v] 0 _ BL.i);clear SRC TH MU;go_loopw [8] (fun i wr=>∃(k:Nat)(d:Array aB),1<=k/\k<=n/\i=.b .a k/\dL wr g d/\d.j=n/\(∀j,j<k->d[j]? = some (.b .a v))/\aM w.a.j w wr)
  (fun i _=>n-(intOf i).e)
 case atStart=>
  refine⟨1,_,av _,hn,rfl,B1.i,by rw[Xc,D0.i],fun j hj=>?_,L1.i⟩;obtain rfl:j=0:=by omega
  rw[DU,if_pos ⟨by omega,by simp,by rw[D0.i];omega⟩];rfl
 case round=>
  obtain⟨k,d,hk1,hkn,rfl,hb,hds,hall,hbel⟩:=hrel;by_cases hlt:k<n
  ·have hki:(k:Int)<n:=by omega
   have aJx:(k:Int)<=n:=by omega
   obtain⟨m,hm⟩:=dw (qj k (n-k));have hm2:m<=k/\0<m/\k+m<=n:=by have e:qj k (n-k)=min k (n-k):=rfl;rw[e]at hm;omega
   obtain⟨k2,hk2⟩:=dw (k+m);have i2:(k:Int)+(m:Int)=(k2:Int):=by omega
   have i3:=jT (k2:Int) (by omega);have SRC:=ab (show∀j u,(dS m (.b .a v:aB))[j]? = some u->wr.b ((⟨g,0,none⟩:aT).add j)=some u by
    intro j u hu;have h1:=hb.K.1 j;rw[tF]at hu;split at hu
    ·rename_i hj
     rw[hall j (by omega)]at h1;injection hu with hu
     subst hu;by_cases h0:j=0
     ·subst h0;simpa[qX]using h1
     ·simpa[qX,h0]using h1
    ·cases hu)
   have TH:=ab (hb.O k m (by rw[hds];omega));have HM:=ab (show m=qj k (n-k)from hm);have HC:=ab (show vH (some ⟨g,0,none⟩) k n 1=some ⟨g,k,none⟩from OU (n:=0) hlt);have HR:=ab (show(dS m (.b .a v:aB)).a=m by simp);have HO:=ab (show∀u∈dS m (.b .a v:aB),u.h=true from fun u hu=>by rw[List.eq_of_mem_replicate hu];rfl);have HB:=ab hb;have HDS:=ab hds;have aDq:=ab hall;have aDr:=ab hbel;have HK2:=ab hk2;have HM2:=ab hm2;clear hm hb hds hall hbel hk2 hm2;go_wp2_with fail;go_region_held_law (fun _=>True) (trivial)
    (first|(refine amH (o:=⟨some 45,_,_,_,_,_⟩) rfl (.a 41) (.a 44) rfl (y:=g) (z:=k) (m:=m) (vs:=dS m (.b .a v)) (vH (some ⟨g,0,none⟩) k n 1) HC.i rfl rfl HR.i HM.i SRC.i TH.i HO.i ?_))
   go_wp2;go_roundw
   case rel=>
    refine⟨k2,_,by have:=HM2.i;have:=HK2.i;omega,by have:=HM2.i;have:=HK2.i;omega,rfl,HB.i.drew.setCells k _,by rw[Xc,HDS.i],fun j hj=>?_,xO (aX HG.i.symm) _ _ _ aDr.i.drew⟩;have h1:=HK2.i;have h2:=HM2.i;rw[DU];split
    ·rename_i h3
     simp at h3;have:j-k<m:=by omega
     simp[this]
    ·rename_i h3
     simp at h3;refine aDq.i j ?_;rcases aZ j k with h4|h4
     ·exact h4
     ·have h6:=h3 h4 (by omega)
      have h7:=HDS.i;omega
   case measure=>
    have h1:=HK2.i;have h2:=HM2.i;simp only[intOf,dQ];omega
  ·obtain rfl:k=n:=by omega
   have hd:decide ((k:Int)<k)=false:=by simp
   have HB:=ab hb;go_wp2;go_ret;exact⟨g,d,aX HG.i.symm,rfl,HB.i,hds,fun j hj=>by
    rw[oL]at hj;rw[hall j hj,au,tF,if_pos hj];rfl,hbel⟩
end
section
variable {W W':ak} {q g:Nat} {key:Vector UInt8 16} {room:Int} {s:List (Option Fw)}
theorem EL.ays(h:EL W q g key room s):(yH 22 (.c (some ⟨q,0,none⟩))).I ah W=.ok (.d (iZ key)) W:=by
 obtain⟨_,_,_,_,h5,h6⟩:=h.K;rw[VE.ld W q 0 h6,h5]
theorem EL.lt(h:EL W q g key room s):q<W.a.j/\g<W.a.j:=⟨h.tb.lt,h.sl.lt⟩
theorem VL(T:EL W q g key room s)(k:Tu)(hk:wX k):
 aQ ah 200 #[.c (some ⟨q,0,none⟩),.d k.ay] W (gU W (.b .a (hmK key s.a k:Nat))):=by
 have T0:=ab (T.alloc (.D k.ay 81));have X0:=ab (dL.new W k.ay 81);have B0:=ab ((aG W.a.j W).alloc (av _) (.D k.ay 81));obtain⟨N,hN⟩:=dw s.a;obtain⟨h,hh⟩:=dw (xU key (Lv k));have HM:=ab (show hmK key s.a k=h%N by unfold hmK;rw[hN,hh]);have hsz:=T.sz;rw[<-hN]at hsz;have C0:=ab (fun W=>Qi key k hk W);rw[<-hh]at C0;have HN:=ab hN;clear hN hh T;obtain⟨r,hr⟩:=dw (h%N);have hrl:r<N:=by rw[hr];exact fC _ (by omega)
 have e1:(h:Int)%(N:Int)=(r:Int):=by rw[hr];omega
 have e2:Lu (h:Int) (N:Int)=(r:Int):=by rw[mg (by omega)];exact e1
 have u1:=amI N (by omega);have u2:=amI r (by omega);have i1:=jT (N:Int) (by omega);have i2:=jT (r:Int) (by omega);have z1:¬(N:Int)=0:=by omega
 have z2:¬N=0:=by omega
 rw[<-hr]at HM;clear hr;rw[HM.i];go_enter Tryz.func200,Tryz.ntmps200;go_upto_region 1 with fail
 generalize W.alloc (.D k.ay 81)=w1 at T0 X0 B0 ⊢;obtain⟨T,f,n0,E0,es,ew⟩:=xH (w1);have hT:Nonempty T:=⟨n0⟩
 have ES:=ab es;have EW:=ab ew;have l1:=fun m=>(T0.i.go (es m)).ays
 have l2:=fun m=>pF (X0.i.go (es m))
 have l3:∀m,(f m).b ⟨q,18,none⟩=some (.a (some ⟨g,0,none⟩) N N):=fun m=>by rw[HN.i];exact(T0.i.go (es m)).K.1
 clear es ew;refine pE f (by kernel_rfl) (by kernel_rfl) n0 E0 ?_
 repeat(go_big_quiet_step ((first|(go_at_call 36;(with_reducible refine(C0.i _).g ?_);rintro e w2 ⟨rfl,hb⟩;exact⟨rfl,EW.i _ ((ES.i _).trans (hb.g (ES.i _).j))⟩))))
 refine gW ?_;rintro _ ⟨m',rfl⟩;have HB:=ab (ES.i m');generalize f m'=wN at *;clear ES EW E0 hT n0;clear l1 l2 l3;go_wp2;go_ret;exact⟨rfl,jh B0.i HB.i⟩
theorem BF(T:EL W q g key room s)(k:Tu)(hk:wX k)(d:Nat)(hd:Found (hmK key s.a) Fw.key s k d):
 aQ ah 129 #[.c (some ⟨q,0,none⟩),.d k.ay] W (gU W (.b .a ((hmK key s.a k+d)%s.a:Nat))):=by
 have T0:=ab (T.alloc (.D k.ay 81));have X0:=ab (dL.new W k.ay 81);have B0:=ab ((aG W.a.j W).alloc (av _) (.D k.ay 81));have hsz:=T.sz;have HD:=ab hd;obtain⟨h,hh⟩:=dw (hmK key s.a k);have hhl:h<s.a:=by rw[hh];exact fC _ (by omega)
 have C0:=ab (fun(W:ak) (T:EL W q g key room s)=>VL T k hk);rw[<-hh]at C0;have HH:=ab hh;obtain⟨N,hN⟩:=dw s.a;rw[<-hN]at hsz hhl;have HN:=ab hN;clear T hd hh hN;go_enter Tryz.func129,Tryz.ntmps129;go_upto_region 1 with fail
 generalize W.alloc (.D k.ay 81)=w1 at T0 X0 B0 ⊢;have l0:=pF X0.i;go_wp2_with (go_at_call 200;(with_reducible refine(C0.i _ T0.i).g ?_);rintro e w2 ⟨rfl,hb⟩;have T2:=ab (T0.i.go hb);have X2:=ab (X0.i.go hb);have B2:=ab (jh B0.i hb);clear hb l0);go_loopw [5] (fun v wr=>∃j:Nat,j<=d/\v=.b .a ((h+j)%N:Nat)/\aM w2.a.j w2 wr)
  (fun v wr=>((h+d)%N+N-(intOf v).e)%N)
 case atStart=>exact⟨0,gQ _,by rw[nE,fK hhl],aG _ _⟩
 case round=>
  obtain⟨j,hj,rfl,hbw⟩:=hrel;have HB:=ab hbw;have hdN:d<N:=by rw[HN.i];exact HD.i.1
  obtain⟨i,hi⟩:=dw ((h+j)%N);have hil:i<N:=by rw[hi];exact fC _ (by omega)
  have TR:=ab (T2.i.go hbw);have b1:xA wr W.a.j 0 37:=of_eq_true ((X2.i.go hbw).K.2.2.1 0 37 (by rw[Tu.eD];omega));have b2:dY wr W.a.j 0 37=k.ay:=by rw[(X2.i.go hbw).K.2.2.2 0 37 (by rw[Tu.eD];omega)];exact Tu.jC k
  have l2:wr.b ⟨q,18,none⟩=some (.a (some ⟨g,0,none⟩) N N):=by rw[HN.i];exact TR.i.K.1
  obtain⟨a1,a2,a3,a4,a5,a6,a7⟩:=TR.i.Vx (show i<s.a by rw[<-HN.i];exact hil);rw[<-hi];have hii:(i:Int)<N:=by omega
  obtain⟨i1,hi1⟩:=dw (i+1);have e0:(i:Int)+1=(i1:Int):=by omega
  have w0:=jT (i1:Int) (by omega);obtain⟨i2,hi2⟩:=dw (i1%N);have aJy:i2<N:=by rw[hi2];exact fC _ (by omega)
  have e1:(i1:Int)%(N:Int)=(i2:Int):=by rw[hi2];omega
  have e2:Lu (i1:Int) (N:Int)=(i2:Int):=by rw[mg (by omega)];exact e1
  have w2':=jT (i2:Int) (by omega);have z1:¬(N:Int)=0:=by omega
  have z2:¬N=0:=by omega
  have HI:=ab hi;have HI2:=ab (show i2=(h+(j+1))%N by rw[hi2,hi1,hi,Nat.mod_add_mod,ng]);clear a2 a3 a5 a6 hi hi1 hi2 hbw;have HST:=ab (show stops (kf:=Fw.key) s k i=true->j=d from fun h1=>by
   rcases aZ j d with h2|h2
   ·have h3:=HD.i.2.2 j h2
    rw[<-HH.i,<-HN.i,<-HI.i,h1]at h3;cases h3
   ·omega)
  have Dv:=ab (show stops (kf:=Fw.key) s k i=false->j<d from fun h1=>by
   rcases aZ j d with h2|h2
   ·exact h2
   ·have h3:=HD.i.2.1
    obtain rfl:j=d:=by omega
    rw[<-HH.i,<-HN.i,<-HI.i,h1]at h3;cases h3)
  cases hat:fD s i with
  | none=>
    rw[hat]at a1 a4;have HE:=ab (HST.i (by unfold stops;rw[hat]));clear a4 a7 hat
    replace a1:wr.b ⟨g,i*42,none⟩=some (.e false):=a1
    go_wp2_with fail;go_quiet (fail);go_wp2;go_ret;refine⟨?_,?_⟩
    ·rw[<-HH.i,<-HN.i,<-HE.i,<-HI.i];rfl
    ·exact fH (jh B2.i HB.i) _
  | some x=>
    rw[hat]at a1 a4
    replace a1:wr.b ⟨g,i*42,none⟩=some (.e true):=a1
    replace a4:dY wr g (i*42+1) 37=x.key.ay:=a4
    by_cases hxk:x.key=k
    ·have HE:=ab (HST.i (by unfold stops;rw[hat];simp[hxk]))
     have t1:decide (x.key=k)=true:=by simp[hxk]
     clear hxk hat;go_wp2_with fail;go_quiet (fail);go_wp2;go_ret;refine⟨?_,?_⟩
     ·rw[<-HH.i,<-HN.i,<-HE.i,<-HI.i];rfl
     ·exact fH (jh B2.i HB.i) _
    ·have HE:=ab (Dv.i (by unfold stops;rw[hat];simp[hxk]))
     have t1:decide (x.key=k)=false:=by simp[hxk]
     clear hxk hat;go_wp2_with fail;go_quiet (fail);go_wp2;go_roundw
     case rel=>exact⟨j+1,HE.i,by rw[HI2.i],fH HB.i _⟩
     case measure=>
      have h1:=HE.i;have e3:=wI (N:=N) (a:=h+d) (by omega);have e4:=HI.i;rw[wI (N:=N) (a:=h+j) (by omega)]at e4;have e5:=HI2.i;rw[wI (N:=N) (a:=h+(j+1)) (by omega)]at e5;simp only[intOf,dQ];rw[e3];generalize hM:(if h+d<N then h+d else h+d-N)=M;have hM2:M<N:=by rw[<-hM];split<;>omega
      rw[wI (N:=N) (a:=M+N-i2) (by omega),wI (N:=N) (a:=M+N-i) (by omega)];rw[e4,e5,<-hM]
      repeat' split
      all_goals omega
end
section
variable {W W':ak} {q g:Nat} {key:Vector UInt8 16} {room:Int} {s:List (Option Fw)} {l:List Fw}
theorem kFw:oN 86 41 kN.ay:=⟨⟨_,mV,rfl⟩,by kernel_rfl,by kernel_rfl,Fw.G _⟩
theorem ayt(w:ak)(fs:Array nU)(h:ah.k 86=some (.struct fs)):(iA (fun f=>Prod.mk f.Z <$> sizeOf f.type) fs:Sem (Array (Nat×Nat))).I ah w=.ok #[(0,37),(37,1),(38,1),(39,1),(40,1)] w:=by
 have e:=mV;rw[h]at e;cases e;show _=_
 kernel_rfl
@[go_sem]theorem avT(W:ak):(asY #[]).I ah W=.ok (.d kN.ay) W:=kFw.bd0 W _ mV ⟨_,ayt W _ mV⟩
structure J8(W:ak)(q g:Nat)(key:Vector UInt8 16)(room:Int)(s:List (Option Fw))(l:List Fw):Prop where
 w:EL W q g key room s
 r:TbR (hmK key s.a) s l
 ok:wF room l
theorem J8.go(h:J8 W q g key room s l)(hb:aM W.a.j W W'):J8 W' q g key room s l:=⟨h.w.go hb,h.r,h.ok⟩
theorem AU{t:Tu}(h:Fe t=true):wX t:=by
 unfold Fe Wx at h;simp only[bf,decide_eq_true_eq]at h;unfold wX;omega
theorem J8.UH(h:J8 W q g key room s l)(k:Tu):∃d,Found (hmK key s.a) Fw.key s k d/\fD s ((hmK key s.a k+d)%s.a)=nL l k:=by
 obtain⟨d,hd⟩:=h.r.tab.found k;exact⟨d,hd,h.r.stop h.ok hd⟩
theorem wF.none{room:Int}(h:wF room l){k:Tu}(hk:Fe k=false):nL l k=none:=by
 cases hf:nL l k with
 | none=>rfl
 | some x=>
   obtain⟨h1,h2⟩:=vF hf;have:=wK (h.ok x h1);rw[h2,hk]at this;cases this
def amJ(o:Option Fw):aB:=.J #[.d (wo o).qU.ay,.e o.isSome]
theorem JQ(T:J8 W q g key room s l)(k:Tu):
 aQ ah 126 #[.c (some ⟨q,0,none⟩),.d k.ay] W (gU W (amJ (nL l k))):=by
 have Z0:=ab (((Bx.start W).new k.ay 81).new kN.ay 86);rw[show(W.alloc (.D k.ay 81)).a.j=W.a.j+1 by simp]at Z0;have CK:=ab (fun w=>JG k w);obtain⟨ok,hok⟩:=dw (Fe k);rw[<-hok]at CK;have HT:=ab T;have Jt:=ab hok;have HLT:=ab T.w.lt;obtain⟨o,ho⟩:=dw (nL l k);rw[<-ho];have HO:=ab ho.symm;clear T hok ho;go_enter Tryz.func126,Tryz.ntmps126;go_upto_region 1 with fail
 generalize(W.alloc (.D k.ay 81)).alloc (.D kN.ay 86)=w1 at Z0 ⊢;have l1:=pF Z0.i.b1;have HE:=ab (fun(w':ak) (x:Fw) (h:Bx [(W.a.j+1,kN.ay),(W.a.j,k.ay)] W w')=>show dL (Ak w' (W.a.j+1) 0 x) (W.a.j+1) x.ay/\aM W.a.j W (Ak w' (W.a.j+1) 0 x)from
  have k2:=h.put (fun p hp=>by rw[fM.1 hp];simp) x.ay (by rw[Fw.G,Fw.G])
  ⟨k2.X,k2.R⟩)
 cases ok
 ·have HN:=ab (HT.i.ok.none Jt.i.symm)
  rw[HO.i]at HN;go_wp2_with (go_at_call 115;(with_reducible refine(CK.i _).g ?_);rintro e w2 ⟨rfl,hb⟩;have Z2:=ab (Z0.i.go hb);clear hb l1;have yI:=Z2.i.X.O 0 41 (aX (Fw.G _).symm));refine aN (kFw.qD rfl _ rfl (HE.i _ kN Z2.i).1 (Fw.G _)) rfl ?_;exact⟨by rw[HN.i];rfl,(HE.i _ kN Z2.i).2⟩
 ·go_wp2_with (go_at_call 115;(with_reducible refine(CK.i _).g ?_);rintro e w2 ⟨rfl,hb⟩;have Z2:=ab (Z0.i.go hb);clear hb l1)
  obtain⟨d,hd,hat⟩:=HT.i.UH k;have hsz:=HT.i.w.sz;obtain⟨i,hi⟩:=dw ((hmK key s.a k+d)%s.a);have hil:i<s.a:=by rw[hi];exact fC _ (by omega)
  have CF:=ab (fun(w:ak) (h:Bx [(W.a.j+1,kN.ay),(W.a.j,k.ay)] W w)=>BF (HT.i.w.go h.R) k (AU Jt.i.symm) d hd);rw[<-hi]at CF hat;have HAT:=ab hat;have HIL:=ab hil;obtain⟨N,hN⟩:=dw s.a;have HN:=ab hN;have hii:(i:Int)<N:=by omega
  rw[HO.i]at HAT;clear hd hat hi hil hN hsz;refine OO (Bx.aaw ([(W.a.j+1,kN.ay),(W.a.j,k.ay)]) W) 9 10 6 213 FV.ay (by kernel_rfl) rfl (by kernel_rfl) (by decide) (by decide) (by kernel_rfl) (by kernel_rfl) (by kernel_rfl) rfl rfl rfl (fun a w=>by simp[go_sem]) Z2.i.drew ?_;apply Exists.intro;refine⟨fun T f hT es ew=>?_,?_⟩
  ·have EW:=ab ew
   have ES:=ab es;have l1:=fun m=>pF (ES.i m).b1
   have l2:∀m,(f m).b ⟨q,18,none⟩=some (.a (some ⟨g,0,none⟩) N N):=fun m=>by rw[HN.i];exact(HT.i.w.go (ES.i m).R).K.1
   have l3:∀m,xA (f m) g (i*42) 42:=fun m=>((HT.i.w.go (ES.i m).R).Vx HIL.i).2.2.2.2.1
   have l4:∀m,dY (f m) g (i*42) 42=(wo o).ay:=fun m=>by rw[((HT.i.w.go (ES.i m).R).Vx HIL.i).2.1,HAT.i]
   have CG:=ab (fun m=>CF.i (f m) (ES.i m));clear es ew;simp only[kV,bG,bM,jM,jY]
   repeat(go_big_quiet_step ((first|(go_at_call 129;(with_reducible refine(CG.i _).g ?_);rintro e w2 ⟨rfl,hb⟩;exact⟨rfl,EW.i _ _ hb⟩))))
   exact gW rfl
  ·intro w9 w8 zL _ hb
   have ZN:=(zL.new FV.ay 213).go hb;have hy:=zL.R.j;have hyW:W.a.j+1<w9.a.j:=zL.X.lt;have ZN:=ab ZN;generalize w9.a.j=y at *;clear zL hb;simp only[Act.put,List.setIfInBounds_toArray,bG,bM,List.drop_succ_cons,kW];have hne:=ab (show∀p∈[(W.a.j+1,kN.ay),(W.a.j,k.ay)],p.1≠y from fun p hp=>by simp at hp;rcases hp with rfl|rfl<;>simp<;>omega);have HYW:=ab hyW;clear hyW hy;have yI:=ZN.i.X.O 0 42 (aX (Sl.G FV).symm);have Z5:=ab (ZN.i.put hne.i (wo o).ay (by rw[Sl.G,Sl.G]));go_step;go_simp;go_step;go_step;clear yI ZN;generalize gN w8 y 0 (wo o).ay=w6 at Z5 ⊢;have b0:=Z5.i.X;have f1:w6.b ⟨y,0,none⟩=some (.e o.isSome):=by rw[b0.K.1 0,Sl.Nl,I5]
   have f2:xA w6 y 1 41:=of_eq_true (b0.K.2.2.1 1 41 (by rw[Sl.eD];omega));have f3:dY w6 y 1 41=(wo o).qU.ay:=by rw[b0.K.2.2.2 1 41 (by rw[Sl.eD];omega)];exact Sl.Sb _
   have yI:=Z5.i.b1.O 0 41 (aX (Fw.G _).symm);have Z7:=ab (show Bx [(W.a.j+1,(wo o).qU.ay),(y,(wo o).ay),(W.a.j,k.ay)] W (Ak w6.drew (W.a.j+1) 0 (wo o).qU)from Z5.i.drew.swap.put (fun p hp=>by have:=HYW.i;simp at hp;rcases hp with rfl|rfl<;>simp<;>omega) (wo o).qU.ay (by rw[Fw.G,Fw.G]));have f4:(Ak w6.drew (W.a.j+1) 0 (wo o).qU).b ⟨y,0,none⟩=some (.e o.isSome):=by rw[Z7.i.b1.K.1 0,Sl.Nl,I5]
   clear b0;go_wp2_with fail;go_region;go_wp2;refine aN (kFw.qD rfl _ rfl Z7.i.X (Fw.G _)) rfl ?_;exact⟨rfl,Z7.i.R⟩
end
theorem amK(N:Nat):madeCells FV.ay (N*42)=Vv (dS N none):=by
 apply dU;intro j;by_cases hj:j<N*42
 ·have e:j=j/42*42+j%42:=by omega
  have h1:(Vv (dS N none))[j]? = (slC (fD (dS N none) (j/42)))[j%42]?:=by
   conv=>lhs;rw[e]
   exact JO _ _ _ (by rw[oL];omega) (by omega)
  have h2:fD (dS N (none:Option Fw)) (j/42)=none:=by unfold fD;rw[au,tF];split<;>rfl
  rw[h1,h2];have h3:FV.ay.j=42:=Sl.G _;have h4:j%42<FV.ay.j:=by omega
  simp only[madeCells,Array.getElem?_map,Array.getElem?_range,h3,hj,if_true,mZ];show some FV.ay[j%42]! = (wo none).ay[j%42]?;show some FV.ay[j%42]! = FV.ay[j%42]?;rw[eZ h4];congr 1;exact getElem!_pos FV.ay (j%42) h4
 ·rw[aU (by rw[size_madeCells];omega),aU (by rw[uZ,oL];omega)]
theorem amL(w:ak)(N:Nat)(hN:N<=100000):(xI 205 (.b .a N) (.b .a N)).I ah w=.ok (.a (some ⟨w.a.j,0,none⟩) N N) (w.alloc (.D (Vv (dS N none)) 213)):=by
 obtain⟨i,h1,h2,h3⟩:=kSl.afd;have hb:i.bytes<=1000:=by
  have:(ah.info? 213).map (fun i=>decide (i.bytes<=1000))=some true:=by kernel_rfl
  rw[h1]at this;simpa using this
 have:=run_make w 205 213 i _ Tryz.underlying205 h1 h3 .a .a (N:Int) (N:Int) (by omega) (by omega) (by have h5:=gP hb hN;rw[<-Int.natCast_mul];omega) (by omega);rw[dQ,h2]at this;rw[this];show _=Result.ok _ (w.alloc (.D _ _));rw[<-amK];rfl
theorem ap3(key:Vector UInt8 16):sF ajd.ay 0 (iZ key)=iZ key ++ #[aI .a 0,.b .a 0,.a none 0 0]:=by
 show sF (iZ (bF 16 0) ++ #[aI .a 0,.b .a 0,.a none 0 0]) 0 (iZ key)=_;exact FK (by rw[dK,dK])
@[go_sem]theorem ayu(W:ak)(key:Vector UInt8 16)(room:Int)(A:Option aT)(n c:Nat):(uL 207 #[(0,.d (iZ key)),(1,.b .a room),(3,.a A n c)]).I ah W=.ok (.d (Tk.mk key room 0 A n c).ay) W:=
 kTk.bd W _ _ _ _ Dp (aC8 W _ Dp) (by
  show fu _ ajd.ay [(0,.d (iZ key)),(1,.b .a room),(3,.a A n c)]=_;rw[DV _ _ 0 0 16 _ _ rfl (by show(iZ key).j=16;rw[dK]) (by rw[Tk.G];omega)];show fu _ (sF ajd.ay 0 (iZ key)) _=_;rw[ap3,<-Array.append_empty (xs:=iZ key ++ #[aI .a 0,.b .a 0,.a none 0 0])];rw[oH 1 16 _ _ _ _ rfl rfl (by simp[dK]),oH 3 18 _ _ _ _ rfl rfl (by simp[dK])];simp[fu,Tk.ay,aL,dK])
def ayv(l c:aB):Sem aB:=xI 205 l c
@[go_sem ↓]theorem aAv(l c:aB):xI 205 l c=ayv l c:=rfl
def arK(w:ak)(key:Vector UInt8 16)(room:Int)(e:kZ)(w':ak):Prop:=
 ∃q g s,e=.a (.J #[.c (some ⟨q,0,none⟩),.b .a 0])/\J8 w' q g key room s []/\room*2<=s.a/\w.a.j<=q/\w.a.j<=g/\aM w.a.j w w'
theorem ajq(key:Vector UInt8 16)(r:Nat)(h1:1<=r)(h2:r<=4096)(w:ak):
 aQ ah 62 #[.d (iZ key),.b .a r] w (arK w key r):=by
 have Z0:=ab ((Bx.start w).new (iZ key) 22);have t1:decide ((r:Int)<1)=false:=by simp;omega
 have t2:decide ((r:Int)>4096)=false:=by simp;omega
 have t3:decide ((4096:Int)<r)=false:=by simp;omega
 have t4:decide (4096<r)=false:=by simp;omega
 have t5:decide (r<1)=false:=by simp;omega
 have t6:decide (r=0)=false:=by simp;omega
 obtain⟨r2,hr2⟩:=dw (2*r);have e1:(2:Int)*(r:Int)=(r2:Int):=by omega
 have i1:=jT (r2:Int) (by omega);have HR2:=ab hr2;clear hr2;go_enter Tryz.func62,Tryz.ntmps62;go_upto_region 1 with fail
 generalize w.alloc (.D (iZ key) 22)=w1 at Z0 ⊢;go_wp2;go_loopw [6] (fun v wr=>∃N:Nat,1<=N/\N<=2*r2/\v=.b .a N/\wr=w1) (fun v _=>2*r2-(intOf v).e)
 case atStart=>exact⟨1,av _,by have:=HR2.i;omega,rfl,by first|rfl|trivial⟩
 case round=>
  obtain⟨N,hN1,hN2,rfl,rfl⟩:=hrel;have hr:=HR2.i;by_cases hlt:N<r2
  ·have hki:(N:Int)<r2:=by omega
   obtain⟨N2,ayw⟩:=dw (N*2);have e2:(N:Int)*2=(N2:Int):=by omega
   have i2:=jT (N2:Int) (by omega);have Pb:=ab ayw;clear ayw hr;go_wp2;go_roundw
   case rel=>exact⟨N2,by have:=Pb.i;omega,by have:=Pb.i;omega,rfl,by first|rfl|trivial⟩
   case measure=>have:=Pb.i;simp only[intOf,dQ];omega
  ·have hki:¬(N:Int)<r2:=by omega
   have hd:decide ((N:Int)<r2)=false:=by simpa using hki
   have hd2:decide (N<r2)=false:=by simpa using hlt
   have mk:=fun w=>amL w N (by omega)
   have Z1:=ab Z0.i.drew;have l1:=VE.lU Z1.i.X (dK _);have l2:=VE.lU ((Z0.i.alloc (.D (Vv (dS N none)) 213)).drew).X (dK _);have l3:=VE.lU (Z1.i.alloc (.D (Vv (dS N none)) 213)).X (dK _);clear hr hlt;go_wp2_with fail
   replace mk:∀w,(ayv (.b .a N) (.b .a N)).I ah w=.ok (.a (some ⟨w.a.j,0,none⟩) N N) (w.alloc (.D (Vv (dS N none)) 213)):=mk
   go_region;go_wp2;go_ret2;have hr:=HR2.i;have hsz:=Z0.i.R.j;have hlt:¬N<r2:=by omega
   refine⟨wr.a.j+1,wr.a.j,dS N none,rfl,⟨⟨?_,?_,by omega,by rw[oL];omega⟩,?_,wF.nil (by omega)⟩,by rw[oL];omega,by omega,by omega,?_⟩
   ·rw[TJ,oL]
    exact(dL.Sq wr _ _ _).drew
   ·exact((dL.new wr _ _).alloc _).drew
   ·exact TbR.new (by omega) (fun k=>by rw[oL];exact fC _ (by omega))
   ·exact(((Z0.i.R.alloc hsz _).alloc (by simp;omega) _)).drew
section
open Go.RowKit Go.Shelf
attribute [local go_sem] qm
theorem Yt{α:Type}(a b:List (Option α)):iq (a++b)=iq a++iq b:=by simp[iq]
theorem VO{α:Type}(s:List (Option α))(k:Nat)(hk:k<s.a):iq (s.d (k+1))=iq (s.d k)++(fD s k).a:=by
 rw[dP hk,Yt];congr 1;unfold fD;rw[au,aC hk,jr];cases s[k]<;>rfl
theorem Yu{α:Type}(s:List (Option α))(k:Nat):iq (s.d k) <+: iq s:=by
 have:iq s=iq (s.d k)++iq (s.f k):=by rw[<-Yt,List.take_append_drop]
 rw[this];exact List.prefix_append _ _
theorem Ew{α:Type}(s:List (Option α)):(iq s).a<=s.a:=List.length_filterMap_le _ _
theorem EL.amM{W W':ak}{q g n₀:Nat}{key:Vector UInt8 16}{room:Int}{s:List (Option Fw)}(h:EL W q g key room s)(hb:aM n₀ W W')(hq:q<n₀/\g<n₀):EL W' q g key room s:=⟨h.tb.S hb hq.1,h.sl.S hb hq.2,h.ne,h.sz⟩
theorem ajr(F:Ke)(n:Nat)(hf:F.fn 202)(hro:F.round=none)(hn:1<=n)(l Bs n₀ B0:Nat)(q g:Nat)(key:Vector UInt8 16)(room:Int)(s:List (Option Fw))(J Jx:List Fw->ak->Prop)(hJ:AbidesFrom B0 J)
 (hY:∀pre x W,J pre W->pre.a<s.a->YieldAt F (n-1) ah l #[.d x.ay] W fun e W'=>
  (e=.a (.e true)/\J (pre++[x]) W'/\aM n₀ W W')\/(e=.a (.e false)/\Jx (pre++[x]) W'))
 (W:ak) (hn₀:n₀<=W.a.j) (hB0:B0<=W.a.j) (Ox:W.b ⟨Bs,0,none⟩=some (.c (some ⟨q,0,none⟩))) (T:EL W q g key room s) (hqg:q<n₀/\g<n₀) (h0:J [] W) :
 Lr F n ah 202 #[.func (.yield l) #[] #[],.c (some ⟨Bs,0,none⟩)] W fun e W'=>(∃v,e=.a v) /\
  ((∃ys,ys=iq s/\J ys W')\/(∃pre,pre <+: iq s/\Jx pre W')):=by
 have hsz:=T.sz;obtain⟨N,hN⟩:=dw s.a;have l2:W.b ⟨q,18,none⟩=some (.a (some ⟨g,0,none⟩) N N):=by rw[hN];exact T.K.1
 have HT:=ab T;have HN:=ab hN;rw[<-hN]at hsz;clear hN T;refine Cb Tryz.func202 rfl hf ?_ hro;simp only[Tryz.ntmps202,dI,bB,gG,kL,kM,fZ,gq,iL,gK,dF,ig];gi_wp2;gi_loopw [10] (fun i wr=>∃k:Nat,k<=N/\i=.b .a k/\J (iq (s.d k)) wr/\aM n₀ W wr)
  (fun i _=>N-(intOf i).e)
 case atStart=>exact⟨0,gQ _,rfl,h0,aG _ _⟩
 case round=>
  obtain⟨k,hk,rfl,hJs,hnx⟩:=hrel;by_cases hlt:k<N
  ·have hki:(k:Int)<N:=by omega
   have TR:=ab (HT.i.amM hnx hqg);have hks:k<s.a:=by rw[<-HN.i];exact hlt
   obtain⟨_,a2,_,_,a5,_,_⟩:=TR.i.Vx hks;have hET:=VO s k hks;have bx:=dL.new wr (wo (fD s k)).ay 213;have f1:=(bx.K.1 0).trans (Sl.Nl _);rw[I5]at f1;have f2:xA (wr.alloc (.D (wo (fD s k)).ay 213)) wr.a.j 1 41:=of_eq_true (bx.K.2.2.1 1 41 (by rw[Sl.eD];omega));have f3:dY (wr.alloc (.D (wo (fD s k)).ay 213)) wr.a.j 1 41=(wo (fD s k)).qU.ay:=by rw[bx.K.2.2.2 1 41 (by rw[Sl.eD];omega)];exact Sl.Sb _
   have hsz2:=hnx.j;have Pb:=ab (hnx.alloc (by omega) (.D (wo (fD s k)).ay 213));have HJA:=ab (FW hJ hJs (.D (wo (fD s k)).ay 213));clear bx hsz2;cases hat:fD s k with
   | none=>
     rw[hat]at a2 f1 f2 f3 Pb HJA hET
     replace f1:(wr.alloc (.D (wo none).ay 213)).b ⟨wr.a.j,0,none⟩=some (.e false):=f1
     have Dv:=ab (show iq (s.d (k+1))=iq (s.d k)by rw[hET];simp);clear hET hat f2 f3;gi_wp2;refine⟨fun f h=>(by cases h),?_⟩;gi_wp2;go_roundw
     case rel=>exact⟨k+1,by omega,by simp,by rw[Dv.i];exact HJA.i,Pb.i⟩
     case measure=>simp[intOf];omega
   | some x=>
     rw[hat]at a2 f1 f2 f3 Pb HJA hET
     replace f1:(wr.alloc (.D (wo (some x)).ay 213)).b ⟨wr.a.j,0,none⟩=some (.e true):=f1
     replace f3:dY (wr.alloc (.D (wo (some x)).ay 213)) wr.a.j 1 41=x.ay:=f3
     have Dv:=ab (show iq (s.d k)++[x]=iq (s.d (k+1))by rw[hET];simp);clear hET hat;obtain⟨fn,tmps,assign,body,hy,hRd⟩:=hY _ x _ HJA.i (by have:=Ew (s.d k);rw[bJ]at this;omega);gi_wp2;refine hRd.g ?_;rintro e W3 (⟨rfl,hJ3,hk3⟩|⟨rfl,hJx3⟩)
     ·gi_wp2
      go_roundw
      case rel=>exact⟨k+1,by omega,by simp,by rw[<-Dv.i];exact hJ3,Pb.i.trans hk3⟩
      case measure=>simp[intOf];omega
     ·gi_wp2
      refine aN (vw rfl _ _ _) rfl ?_;exact⟨⟨_,rfl⟩,.b ⟨_,by rw[Dv.i];exact Yu _ _,hJx3⟩⟩
  ·obtain rfl:k=N:=by omega
   have hd:decide ((k:Int)<k)=false:=by simp
   gi_wp2;go_end0;exact⟨⟨_,rfl⟩,.a ⟨_,by rw[HN.i,zQ],hJs⟩⟩
end
section
open Go.RowKit Go.Shelf
abbrev OkF:={x:Fw // zR x=true}
instance:Inhabited OkF:=⟨⟨⟨ael,[97],1,0,0⟩,by kernel_rfl⟩⟩
theorem amN:∀(ys:List Fw),(∀x∈ys,zR x=true)->∃zs:List OkF,zs.map (·.1)=ys
 | [],_=>⟨[],rfl⟩
 | y::ys,h=>by
   obtain⟨zs,hz⟩:=amN ys (fun x hx=>h x (iX _ hx));exact⟨⟨y,h y (List.mem_cons_self ..)⟩::zs,by simp[hz]⟩
theorem Yv(zs:List OkF):(zs.h fun x=>x.1.ay.a)=(zs.map (·.1)).h fun x=>x.ay.a:=by
 induction zs with
 | nil=>rfl
 | cons z zs ih=>simp[iK]
theorem ajt{a b c:List UInt8}(h1:bP a b=false)(h2:bP b c=false):bP a c=false:=by
 cases h3:bP a c with
 | false=>rfl
 | true=>
   exfalso;cases h4:bP b a with
   | true=>rw[xX _ _ _ h4 h3]at h2;cases h2
   | false=>
     have:=zH _ _ h1 h4;subst this;rw[h3]at h2;cases h2
theorem aaU{a b c:Fw}(h1:kP a b=false)(h2:kP b c=false):kP a c=false:=by
 unfold kP at *;by_cases e1:a.no=b.no
 ·rw[if_pos e1]at h1
  by_cases e2:b.no=c.no
  ·rw[if_pos e2]at h2
   rw[if_pos (e1.trans e2)];exact ajt h1 h2
  ·rw[if_neg e2]at h2
   rw[if_neg (by omega)];simp at h2 ⊢;omega
 ·rw[if_neg e1]at h1
  simp at h1;by_cases e2:b.no=c.no
  ·rw[if_neg (by omega)]
   simp;omega
  ·rw[if_neg e2]at h2
   simp at h2;rw[if_neg (by omega)];simp;omega
def ap5(x y:OkF):Int:=aaP x.1 y.1
theorem amO:Sort.SWO (ltOf ap5):=by
 have e:∀x y,ltOf ap5 x y=kP x.1 y.1:=fun x y=>aaQ x.1 y.1
 refine⟨fun x=>?_,fun x y z h1 h2=>?_,fun x y z h1 h2=>?_⟩
 ·rw[e];exact tK.irr _
 ·rw[e]at *;exact tK.tr _ _ _ h1 h2
 ·rw[e]at *;exact aaU h1 h2
theorem JR{x:Fw}(h:zR x=true):wX x.key/\0<=x.no/\x.no<=1152921504606846976:=by
 refine⟨AU (wK h),?_⟩;unfold zR Wx at h;simp only[bf,decide_eq_true_eq]at h;omega
theorem ap6(w:ak):(isAgg 86).I ah w=.ok true w:=by simp[isAgg,dJ mV]
theorem aut(w:ak):(Go.sizeOf 86).I ah w=.ok 41 w:=by
 obtain⟨i,hi,hi2,_⟩:=kFw.afd;rw[run_sizeOf w hi];have hc:ah.cellsOf 86=41:=by simp[Program.cellsOf,hi,hi2]
 rw[hc]
theorem aju(x y:OkF)(w:ak):aQ ah 117 #[.d x.1.ay,.d y.1.ay] w (gU w (.b .a (ap5 x y))):=by
 obtain⟨h1,h2⟩:=JR x.2;obtain⟨h3,h4⟩:=JR y.2;exact Qj x.1 y.1 h1 h3 h2 h4 w
theorem Ku(l ys:List Fw)(room:Int)(hl:wF room l)(hp:ys.Perm l)(hn:ys.a<=1000000)(W:ak)(base:Nat)(A:Option aT)(c:Nat)(h:W.c base 86 41 (.a A ys.a c) ys.a (ys.h fun x=>x.ay.a)):
 aQ ah 151 #[.a A ys.a c,.func (.func 117) #[] #[]] W fun e w'=>e=.a (.J #[])/\w'.c base 86 41 (.a A ys.a c) ys.a (l.h fun x=>x.ay.a)/\W.d w' (bD A ys.a c).f:=by
 obtain⟨zs,hz⟩:=amN ys (fun x hx=>hl.ok x (hp.mem_iff.1 hx));have hlen:zs.a=ys.a:=by rw[<-hz,bT]
 have hc:=Yv zs;rw[hz]at hc;rw[<-hc]at h;refine(Yn auo 41 ap6 aut (fun x:OkF=>x.1.ay) (fun x=>Fw.G x.1) (fun x=>Fw.cK x.1) ap5 amO 117 (fun args w=>rfl) base 86 A ys.a c zs W hlen hn h aju).g ?_;rintro e w' ⟨rfl,l',h1,h2,h3,h4⟩;refine⟨rfl,?_,h4⟩;rw[Yv]at h3;have hp2:(l'.map (·.1)).Perm l:=((h1.map _).trans (by rw[hz])).trans hp;have hone:(l'.map (·.1)).Pairwise fun x y=>x.key≠y.key:=(hp2.pairwise_iff (fun{a b} (hab:a.key≠b.key)=>Ne.symm hab)).2 hl.one
 have hasc:Zj kP (l'.map (·.1)):=by
  have h5:(l'.map (·.1)).Pairwise fun x y=>kP y x=false:=by
   rw[yX];exact h2.imp (fun{a b} hab=>by rw[<-hab];exact(aaQ b.1 a.1).symm)
  refine List.Pairwise.imp_of_mem ?_ (h5.and hone);rintro a b ha hb ⟨h6,h7⟩;rcases P7 (MF (wK (hl.ok a (hp2.mem_iff.1 ha)))) (MF (wK (hl.ok b (hp2.mem_iff.1 hb)))) h7 with h8|h8
  ·exact h8
  ·rw[h6]at h8;cases h8
 rw[<-Zj.eq tK hasc hl.asc hp2];exact h3
end
section
open Go.RowKit Go.Shelf
variable {W W':ak} {q g:Nat} {key:Vector UInt8 16} {room:Int} {s:List (Option Fw)} {l:List Fw}
theorem Pf(q:Nat)(w:ak):
 aQ ah 132 #[.c (some ⟨q,0,none⟩)] w fun e w'=>e=.a (.func (.func 202) #[] #[.c (some ⟨w.a.j,0,none⟩)])/\w.alloc (.D #[.c (some ⟨q,0,none⟩)] 121)=w':=by
 go_enter Tryz.func132,Tryz.ntmps132;go_wp2;go_ret;exact⟨rfl,rfl⟩
theorem adn(F:Ke)(n:Nat)(hf:F.fn 202)(hro:F.round=none)(hn:1<=n)(Bs n₀:Nat)(w:ak)(Ox:Bs<w.a.j)(hn₀:n₀<=w.a.j)
 (hc:w.b ⟨Bs,0,none⟩=some (.c (some ⟨q,0,none⟩))) (T:EL w q g key room s) (hqg:q<n₀/\g<n₀) :
 vR F n ah 202 #[.c (some ⟨Bs,0,none⟩)] (fun x:Fw=>#[bY x.ay]) (aM n₀) (fun ys=>ys=iq s) (fun pre=>pre <+: iq s) s.a w:=fun l J Jx W hW hJ _ hY h0=>by
 have hc':=(hW.cell (p:=⟨Bs,0,none⟩) Ox).trans hc;exact ajr F n hf hro hn l Bs n₀ W.a.j q g key room s J Jx hJ hY W (aO hn₀ hW.j) (av _) hc' (T.go hW) hqg h0
theorem aaV(gf:Nat)(lb:Array aB)(eg:∀args w,(callFunc gf args).I ah w=.ok (.enter gf args) w)(l ys:List Fw)(room:Int)(hl:wF room l)(hp:ys.Perm l)(N:Nat)(hN:N<=100000)(hyN:ys.a<=100000)(w:ak)(hseq:vR nH 5 ah gf lb (fun x:Fw=>#[bY x.ay]) (aM w.a.j) (fun zs=>zs=ys) (fun pre=>pre <+: ys) N w):
 aQ ah 131 #[.func (.func gf) #[] lb,.func (.func 117) #[] #[]] w fun e W'=>
  ∃A' c',e=.a (.a A' l.a c')/\W'.c w.a.j 86 41 (.a A' l.a c') l.a (l.h fun x=>x.ay.a)/\aM w.a.j w W':=by
 have CO:=ab (WS gf lb eg (fun zs=>zs=ys) (fun pre=>pre <+: ys) N hN w hseq);have SO:=ab (fun(W:ak) (A:Option aT) (c:Nat) h=>Ku l ys room hl hp (by omega) W w.a.j A c h);have HP:=ab hp.length_eq;clear hseq hl hp;go_enter Tryz.func131,Tryz.ntmps131;go_wp2_with fail;refine CO.i.g ?_;rintro e w1 ⟨zs,hzs,A1,c1,rfl,ho,hb⟩;rw[hzs]at ho ⊢;have SO1:=ab (SO.i w1 A1 c1 ho);have HB:=ab hb;have HO:=ab ho;clear hb ho SO CO hzs;obtain⟨m,hm⟩:=dw ys.a;rw[<-hm]at HO SO1 HP ⊢;clear hm;go_wp2_with fail;refine SO1.i.g ?_;rintro e w2 ⟨rfl,ho2,hg⟩;have H2:=ab ho2;have HG:=ab hg;clear ho2 hg;go_wp2;go_ret;have h1:=H2.i;have h2:=HP.i;exact⟨A1,c1,by rw[<-h2];rfl,by rw[<-h2];exact h1,VI HB.i HO.i (av _) (av _) HG.i⟩
theorem afP(T:J8 W q g key room s l):
 aQ ah 65 #[.c (some ⟨q,0,none⟩)] W fun e w'=>∃A' c',e=.a (.a A' l.a c')/\w'.c W.a.j 86 41 (.a A' l.a c') l.a (l.h fun x=>x.ay.a)/\aM W.a.j W w':=by
 have w1s:=(dL.new W #[.c (some ⟨q,0,none⟩)] 121)
 have hB1:aM W.a.j W (W.alloc (.D #[.c (some ⟨q,0,none⟩)] 121)):=(aG _ _).alloc (av _) _;have T1:=T.w.go hB1;have hs:=T.w.sz;have hlt:=T.w.lt;have hsz:(W.alloc (.D #[.c (some ⟨q,0,none⟩)] 121)).a.j=W.a.j+1:=by simp
 have SQ:=ab (adn nH 5 trivial rfl (by omega) W.a.j (W.alloc (.D #[.c (some ⟨q,0,none⟩)] 121)).a.j (W.alloc (.D #[.c (some ⟨q,0,none⟩)] 121)) w1s.lt (av _) (w1s.K.1 0) T1 (by rw[hsz];omega));have VA:=ab (Pf q W);generalize hw:W.alloc (.D #[.c (some ⟨q,0,none⟩)] 121)=w1 at *;have SF:=ab (aaV 202 #[.c (some ⟨W.a.j,0,none⟩)] (fun args w=>rfl) l (iq s) room T.ok T.r.Oj s.a hs.2 (by have:=Ew s;omega) w1 SQ.i);have HB1:=ab hB1;clear hw w1s hB1 SQ T T1 hs hlt hsz;go_enter Tryz.func65,Tryz.ntmps65;go_wp2_with fail;refine VA.i.g ?_;rintro e w2 ⟨rfl,rfl⟩;go_wp2_with fail;refine SF.i.g ?_;rintro e w2 ⟨A1,c1,rfl,ho,hb⟩;have HO:=ab ho;have HB:=ab hb;clear ho hb;obtain⟨m,hm⟩:=dw l.a;rw[<-hm]at HO ⊢;have HM:=ab hm;clear hm;go_wp2;go_ret;obtain rfl:=HM.i;have h1:=HB1.i;have h2:=HB.i;exact⟨A1,c1,rfl,iH HO.i h1.j,⟨h2.os.trans h1.os,h2.tape.trans h1.tape,h2.output.trans h1.output,aO h1.j h2.j,fun k hk=>(h2.block k (eO hk h1.j)).trans (h1.block k hk)⟩⟩
end
end Go.Proofs.YtkjojjopamaoiaaGreat
