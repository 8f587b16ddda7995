/- Parts. -/
import Derived.Test.YtkjojjopamaoiaaGreatPk4
import Derived.Shelf.SlSortCmp.NoneTotal
import Derived.Lib.BytesEntry
import Derived.Shelf.Bits.Mul64
set_option linter.all false
set_option maxRecDepth 100000
set_option maxHeartbeats 8000000
open Array renaming range->lU,ext'->oQ,toList_range->j3,length_toList->aY,getElem?_append->aD,getElem?_toList->dD,getElem?_extract->cu,size_append->nU,ext_getElem?->dW,getElem?_setIfInBounds->dO,extract_append->bW,mapM->iB,setIfInBounds_append->aM,getElem?_eq_none->aU,replicate_succ->fV,replicate_zero->fZ,all_eq_true'->xQ,getElem?_eq_getElem->fq,getElem?_eq_some_iff->bV,getElem?_modify->zC,size->Array.j,toList->Array.a,getD->Array.b,setIfInBounds->Array.c,extract->Array.m
open BitVec renaming ofInt->fQ,ofNat->He,ofInt_natCast->lS,toNat_ofNat->ny,toNat->BitVec.e
open Bool renaming and_eq_true->bf,false_eq_true->jc,not_false->tF,not_eq_true'->nY,or_eq_true->nu
open ByteArray renaming size->ByteArray.j,toList->ByteArray.a,extract->ByteArray.m
open Go renaming World->ak,run_underlying->dL,Calls->aQ,Addr->aS,Value->aB,bodyPost_ret->aN,Ending->lq,TypeId->bM,info_parts->Ci,setRow_other->oJ,Oper->iU,Act->qQ,Exit->zR,Operand->pI,wpList_plain->sS,wpQuiet_nil->gK,Field->nS,Fence->KI,SeqStopsK->vX,CallsIn->Mh,callsIn_of_wp_marks->qY,wpIn_rangeFunc_ownH->yE,belowK_b->vQ,ownFrom_below->yQ,wpListIn_append_own->Ef,run_takeDeferred->uH,results_tmp->Ih,callsIn_wide->mU,callsIn_of_wp->Cq,results_none->vE,underlying->Go.k
open Go.Addr renaming add_mid->iC,add->rb
open Go.BoundsCode renaming toNat->Go.BoundsCode.e
open Go.Calls renaming mono->Go.Calls.g
open Go.Ending renaming returned->Go.Ending.a
open Go.Extern.Bytes renaming bytesOf->uq
open Go.Fence renaming wide->nG
open Go.Field renaming offset->Go.Field.Z
open Go.FrameMode renaming run->Go.FrameMode.I
open Go.Func renaming name->Go.Func.E
open Go.Instr renaming buildSlice->bI,fill->fB,loadAt->bZ,storeAt->eF,build->fI,makeSlice->xP,slice->Go.Instr.a,extract->Go.Instr.m
open Go.IntKind renaming u64->jm,wrap_u64->jQ,u8->aX,wrap_u8->Hg,i64->bU,wrap->vP,bits->nQ,signed->lN,i64->Go.IntKind.a,u8->Go.IntKind.b,u64->Go.IntKind.c
open Go.Lib renaming hid->ab
open Go.Obj renaming cells->eD,cells->Go.Obj.D
open Go.Op renaming bytesLess->bR,slice->Go.Op.a,extract->Go.Op.m
open Go.Oper renaming wp->ni,semAt_some->qj,dst->Go.Oper.Y
open Go.Operand renaming tmp->Go.Operand.a
open Go.Program renaming underlying->Go.Program.k
open Go.Proofs.Mul64 renaming wrapN->vR
open Go.Proofs.Tryz renaming prog->ah,underlying56->dx,underlying189->oV,underlying192->oU,underlying70->nZ,underlying213->uo,underlying207->DI,underlying280->DJ,underlying34->Fe,underlying75->vD,underlying22->nX,underlying0->Hf,zeroValue0->JC,underlying3->gQ,zeroValue3->JD,underlying4->nK,zeroValue4->JE,underlying5->lC,underlying9->iM,isAgg9->Lf,sizeOf9->Ig,zeroValue9->Bp,underlying155->DK,underlying86->mV
open Go.Region renaming wanted->fC
open Go.Result renaming andThen->iD
open Go.ResultVar renaming tmp->Go.ResultVar.a
open Go.RoundIn renaming mono->Go.RoundIn.g
open Go.RowKit renaming Below->aL
open Go.RowKit.Below renaming refl->aH,size->Go.RowKit.Below.j,mono->Go.RowKit.Below.g,setCell->Go.RowKit.Below.F
open Go.RowKit.Hid renaming out->Go.RowKit.Hid.i
open Go.Sem renaming run_bind->jI,run_pure->og,run->JA,run->Go.Sem.I
open Go.Shut renaming out->Go.Shut.i
open Go.Sort renaming size_flatK->xR
open Go.TypeDesc renaming slice->Go.TypeDesc.a,int->Go.TypeDesc.b,bool->Go.TypeDesc.e
open Go.TypeInfo renaming size->Go.TypeInfo.j
open Go.Value renaming cells->cO,ownBlock->jV,slice->bC,int->aI,oneCell'->cB,agg->bY,bool->bL,string->ig,cells->Go.Value.D,slice->Go.Value.a,int->Go.Value.b,pointer->Go.Value.c,agg->Go.Value.d,tuple->Go.Value.J,bool->Go.Value.e,ownBlock->Go.Value.f,oneCell'->Go.Value.h,string->Go.Value.g
open Go.World renaming frozen?->sj,setRow->rW,size_alloc->sZ,ownsRow_nil->eY,heap->Go.World.a,cell?->Go.World.b,setCell->Go.World.F,ownsRow->Go.World.c,there->Go.World.O,grownBy->Go.World.d
open Go.World.grownBy renaming size->Go.World.grownBy.j
open Int renaming toNat_of_nonneg->kH,toNat_natCast->dQ,tmod->Mj,tmod_eq_emod_of_nonneg->mo,toNat->Int.e
open List renaming getD_eq_getElem?_getD->au,getElem?_take_of_lt->gZ,map_cons->kL,map_nil->pJ,length_append->aR,length_take->bJ,append_assoc->dB,take_of_length_le->aK,nil_append->dG,getElem?_append_left->mM,getElem?_take->jd,getElem?_append_right->re,getElem?_drop->iZ,ext_getElem?->iJ,getElem?_eq_getElem->aC,getElem?_eq_none->aT,drop_of_length_le->iR,length_drop->jA,length_map->bQ,flatMap_cons->iK,cons_append->iq,getElem_mem->dR,take_succ_eq_append_getElem->dP,flatMap_append->wX,length_set->aV,mem_append->qh,mem_singleton->fD,mem_map->iQ,take_zero->jX,getElem?_map->jC,map_take->Ap,getElem?_append->kT,range->dX,append_nil->uL,drop_drop->La,mem_cons->bB,mem_of_mem_tail->vY,pairwise_map->yX,map_map->Ic,map_congr_left->Ch,findIdx?_eq_some_iff_getElem->gT,getElem?_set->fF,mem_filter->mh,not_mem_nil->fJ,set_cons_succ->bG,set_cons_zero->bP,take_succ_cons->jM,eq_nil_of_length_eq_zero->bE,length_cons->bD,length_nil->gH,mem_cons_of_mem->jy,find?_eq_none->rz,all_eq_true->fM,mem_iff_getElem->jv,any_eq_true->qR,mem_range->dU,pairwise_iff_getElem->fH,any_eq_false->qd,mem_take_iff_getElem->rQ,drop_zero->kX,take_take->vV,foldl_cons->jT,size_toArray->dK,push_toArray->iL,append_toArray->gP,replicate->dV,take_length->zT,getElem?_replicate->tC,length_replicate->oL,length->List.a,getD->List.b,toArray->List.c,take->List.d,drop->List.f,flatMap->List.h,below->List.S,extract->List.m
open Nat renaming mod_eq_of_lt->fK,le_refl->av,le_of_eq->aW,ne_of_gt->uF,lt_succ_self->mG,mul_one->gB,zero_add->bl,min->qg,le_trans->aO,le_succ_of_le->ql,le_of_lt->mH,shiftLeft_eq->mF,add_assoc->mZ,add_zero->nD,eq_zero_or_pos->dY,mod_lt->fE,lt_or_ge->aZ,mul_comm->C9,mul_le_mul_right->cZ,reduceAdd->kP,reduceSub->kQ,mul_le_mul->gG,zero_le->iX,lt_of_lt_of_le->eO,below->Nat.S
open Option renaming map_some->mY,getD_some->jr,toList->Option.a,getD->Option.b
open Or renaming inl->Or.a,inr->Or.b
open UInt8 renaming ofNat->aJ,toNat->UInt8.e
open Vector renaming length_toList->lT,replicate->bF,toList->Vector.a
namespace Go.Proofs.YtkjojjopamaoiaaGreat
open Go.RowKit
def psB(s d:fu)(p n:Nat):List UInt8:=
 if s.h=true then s.b.a.d 16++d.b.a.d 16++[0,0,aJ (n/256),aJ (n%256),0,0,0,aJ p]
 else s.b.a.d 4++d.b.a.d 4++[0,aJ p,aJ (n/256),aJ (n%256)]
theorem aqj(s d:fu)(p n:Nat):(psB s d p n).a<=40:=by unfold psB;split<;>simp
theorem zP(a:fu)(k:Nat)(hk:k<=16):(a.b.a.d k).a=k/\∀i,i<k->a.ay[1+i]? = some (bv ((a.b.a.d k).b i 0)):=by
 refine⟨by simp;omega,fun i hi=>?_⟩;rw[Nat.add_comm 1 i,fu.Eo _ i (by omega)];simp[au,gZ hi]
theorem yU(n:Nat)(h:n<=255):((aJ n).e:Int)=(n:Int):=by rw[UInt8.toNat_ofNat',fK (by omega)]
@[go_sem]theorem auw(w:ak)(a0 a1 a2 a3:Int):(BJ 4 #[(0,.b .b a0),(1,.b .b a1),(2,.b .b a2),(3,.b .b a3)]).I ah w=.ok (.a (some ⟨w.a.j,0,none⟩) 4 4) (w.alloc (.D #[.b .b a0,.b .b a1,.b .b a2,.b .b a3] 5)):=by
 obtain⟨i0,hi0,hz0,hz1,hz2⟩:=zA;have hr:lU 4 = #[0,1,2,3]:=by apply oQ;rw[j3];rfl
 simp[BJ,bI,dL dx,zeroValue,sizeOf,typeInfo,hi0,hz0,hz1,fB,newRow,cO,hr]
@[go_sem]theorem auy(w:ak)(a0 a1 a2 a3 a4 a5 a6 a7:Int):(BJ 8 #[(0,.b .b a0),(1,.b .b a1),(2,.b .b a2),(3,.b .b a3),(4,.b .b a4),(5,.b .b a5),(6,.b .b a6),(7,.b .b a7)]).I ah w=.ok (.a (some ⟨w.a.j,0,none⟩) 8 8) (w.alloc (.D #[.b .b a0,.b .b a1,.b .b a2,.b .b a3,.b .b a4,.b .b a5,.b .b a6,.b .b a7] 5)):=by
 obtain⟨i0,hi0,hz0,hz1,hz2⟩:=zA;have hr:lU 8 = #[0,1,2,3,4,5,6,7]:=by apply oQ;rw[j3];rfl
 simp[BJ,bI,dL dx,zeroValue,sizeOf,typeInfo,hi0,hz0,hz1,fB,newRow,cO,hr]
theorem aqk(p n:Nat)(hp:p<=255)(hn:n<=65535)(wr:ak):gq (wr.alloc (.D #[.b .b 0,.b .b 0,.b .b ((n:Int)/256),.b .b ((n:Int)%256),.b .b 0,.b .b 0,.b .b 0,.b .b p] 5)) (wr.a.j+1) (some ⟨wr.a.j,0,none⟩) 8 [0,0,aJ (n/256),aJ (n%256),0,0,0,aJ p]:=
 Wi wr #[.b .b 0,.b .b 0,.b .b ((n:Int)/256),.b .b ((n:Int)%256),.b .b 0,.b .b 0,.b .b 0,.b .b p] [0,0,aJ (n/256),aJ (n%256),0,0,0,aJ p] (by
  simp only[kL,pJ,bv];rw[yU _ hp,yU (n/256) (by omega),yU (n%256) (by omega)];rfl)
theorem auz(p n:Nat)(hp:p<=255)(hn:n<=65535)(wr:ak):gq (wr.alloc (.D #[.b .b 0,.b .b p,.b .b ((n:Int)/256),.b .b ((n:Int)%256)] 5)) (wr.a.j+1) (some ⟨wr.a.j,0,none⟩) 4 [0,aJ p,aJ (n/256),aJ (n%256)]:=
 Wi wr #[.b .b 0,.b .b p,.b .b ((n:Int)/256),.b .b ((n:Int)%256)] [0,aJ p,aJ (n/256),aJ (n%256)] (by
  simp only[kL,pJ,bv];rw[yU _ hp,yU (n/256) (by omega),yU (n%256) (by omega)];rfl)
theorem Yf(s d:fu)(p n:Nat)(hp:p<=255)(hn:n<=65535)(w:ak):aQ ah 259 #[.d s.ay,.d d.ay,.b .a p,.b .a n] w (Kv w (psB s d p n)):=by
 have aDC:=ab (aqk p n hp hn);have PR4:=ab (auz p n hp hn);have h0:=((Ly.nil (w:=w)).new s.ay 27).new d.ay 27;rw[show(w.alloc (.D s.ay 27)).a.j=w.a.j+1 by simp]at h0;have S0:=ab h0;clear h0;obtain⟨q1,q2,q3,q4⟩:=S0.i.b1.K;obtain⟨p1,p2,p3,p4⟩:=S0.i.X.K;have x0:=fu.pW s;obtain⟨b6,hb6⟩:∃b,s.h=b:=⟨_,rfl⟩
 have H6:=ab hb6;rw[hb6]at x0;clear hb6;have n0:(0:Int)<=n:=by omega
 have n1:(n:Int)<=65535:=by omega
 have n2:(0:Int)<=p:=by omega
 have n3:(p:Int)<=255:=by omega
 cases b6
 ·have Gn:=ab (show([]:List UInt8).a=0 from rfl)
  obtain⟨ls,mg⟩:∃l,l=s.b.a.d 4:=⟨_,rfl⟩
  obtain⟨ld,hld⟩:∃l,l=d.b.a.d 4:=⟨_,rfl⟩
  have LS:=ab (show ls.a=4 by rw[mg];exact(zP s 4 (by omega)).1);have LD:=ab (show ld.a=4 by rw[hld];exact(zP d 4 (by omega)).1);have CS:=ab (show∀i,i<4->s.ay[1+i]? = some (bv (ls.b i 0))by rw[mg];exact(zP s 4 (by omega)).2);have CD:=ab (show∀i,i<4->d.ay[1+i]? = some (bv (ld.b i 0))by rw[hld];exact(zP d 4 (by omega)).2);have HT:=ab (show psB s d p n=ls++ld++[0,aJ p,aJ (n/256),aJ (n%256)]by rw[mg,hld];unfold psB;rw[H6.i];rfl);clear mg hld;go_enter Tryz.func259,Tryz.ntmps259;go_wp2;clear q1 q2 q3 q4 p1 p2 p3 p4;go_loopw [9,11] (fun sr si wr=>∃(i:Nat)(A':Option aS)(m' c':Nat),i<=4/\si=.b .a i/\sr=.a A' m' c'/\Ly w.a.j [(w.a.j+1,d.ay),(w.a.j,s.ay)] w wr (.a A' m' c') ([]++ls.d i)) (fun _ si _=>4-(intOf si).e)
  case atStart=>exact⟨0,_,_,_,by omega,rfl,rfl,by simpa using S0.i⟩
  case round=>
   obtain⟨i,A',m',c',hi,rfl,rfl,h⟩:=hrel;have HO:=ab h;clear h;by_cases hlt:i<4
   ·have hlt2:(i:Int)<4:=by omega
    obtain⟨q1,q2,q3,q4⟩:=HO.i.b1.K;have hlq:=HO.i.b1.lt;have hc:=CS.i i hlt;obtain⟨u,hu⟩:=sH (ls.b i 0);rw[hu]at hc;unfold bv at hc;have HS:=ab (xO ls i (by rw[LS.i];exact hlt));rw[hu]at HS;have L1:=ab (HO.i.alloc (.D #[.b .b (u.e:Int)] 5));have R1:=ab (EF wr u _ rfl);have Mk:=ab (show([]++ls.d i).a+1<=1000000000 by rw[aR,bJ,Gn.i,LS.i];omega);go_wp2_with (at_builtin;refine kC rfl (.a 20) (.a 25) rfl rfl L1.i.o rfl R1.i Mk.i ?_;intro A5 n5 c5 w5 h2 h3;have L2:=ab (L1.i.step h3);clear h2 h3);go_roundw
    case rel=>exact⟨i+1,A5,n5,c5,by omega,by go_num,rfl,by rw[HS.i,<-dB];exact L2.i⟩
    case measure=>simp[intOf]<;>omega
   ·have hge:¬(i:Int)<4:=by omega
    have HF:=ab (show ls.d i=ls from aK (by rw[LS.i];omega));rw[HF.i]at HO;clear HF;rw[dG]at HO;clear Gn S0;obtain⟨bs2,Kq⟩:∃b,b=ls:=⟨_,rfl⟩
    have Gn:=ab (show bs2.a=4 by rw[Kq,LS.i]);rw[<-Kq]at HO HT;clear Kq;go_wp2;clear hge hi hlt;go_loopw [9,12] (fun sr si wr=>∃(i:Nat)(A':Option aS)(m' c':Nat),i<=4/\si=.b .a i/\sr=.a A' m' c'/\Ly w.a.j [(w.a.j+1,d.ay),(w.a.j,s.ay)] w wr (.a A' m' c') (bs2++ld.d i)) (fun _ si _=>4-(intOf si).e)
    case atStart=>exact⟨0,_,_,_,by omega,rfl,rfl,by simpa using HO.i⟩
    case round=>
     obtain⟨i,A',m',c',hi,rfl,rfl,h⟩:=hrel;have HO:=ab h;clear h;by_cases hlt:i<4
     ·have hlt2:(i:Int)<4:=by omega
      obtain⟨q1,q2,q3,q4⟩:=HO.i.X.K;have hlq:=HO.i.X.lt;have hc:=CD.i i hlt;obtain⟨u,hu⟩:=sH (ld.b i 0);rw[hu]at hc;unfold bv at hc;have HS:=ab (xO ld i (by rw[LD.i];exact hlt));rw[hu]at HS;have L1:=ab (HO.i.alloc (.D #[.b .b (u.e:Int)] 5));have R1:=ab (EF wr u _ rfl);have Mk:=ab (show(bs2++ld.d i).a+1<=1000000000 by rw[aR,bJ,Gn.i,LD.i];omega);go_wp2_with (at_builtin;refine kC rfl (.a 32) (.a 37) rfl rfl L1.i.o rfl R1.i Mk.i ?_;intro A5 n5 c5 w5 h2 h3;have L2:=ab (L1.i.step h3);clear h2 h3);go_roundw
      case rel=>exact⟨i+1,A5,n5,c5,by omega,by go_num,rfl,by rw[HS.i,<-dB];exact L2.i⟩
      case measure=>simp[intOf]<;>omega
     ·have hge:¬(i:Int)<4:=by omega
      have HF:=ab (show ld.d i=ld from aK (by rw[LD.i];omega));rw[HF.i]at HO;clear HF;obtain⟨bs3,LZ⟩:∃b,b=bs2++ld:=⟨_,rfl⟩
      have NJ:=ab (show bs3.a=8 by rw[LZ,aR,Gn.i,LD.i]);rw[<-LZ]at HO HT;clear LZ;obtain⟨q1,q2,q3,q4⟩:=HO.i.b1.K;have L4:=ab (HO.i.alloc (.D #[.b .b 0,.b .b p,.b .b ((n:Int)/256),.b .b ((n:Int)%256)] 5));have R4:=ab (PR4.i wr);have HL4:=ab (show bs3.a+4<=1000000000 by rw[NJ.i];omega);go_wp2_with (at_builtin;refine kC rfl (.a 52) (.a 61) rfl rfl L4.i.o rfl R4.i HL4.i ?_;intro A5 n5 c5 w5 h2 h3;have L5:=ab (L4.i.step h3);clear h2 h3);go_ret;rw[<-HT.i]at L5;have ho:=L5.i.o;obtain⟨A9,c9,e9⟩:=ho.Cu;injection e9 with e9 e10 e11
      subst e10;exact⟨A5,_,c5,rfl,rfl,ho.vS,ho.R⟩
 ·have Gn:=ab (show([]:List UInt8).a=0 from rfl)
  obtain⟨ls,mg⟩:∃l,l=s.b.a.d 16:=⟨_,rfl⟩
  obtain⟨ld,hld⟩:∃l,l=d.b.a.d 16:=⟨_,rfl⟩
  have LS:=ab (show ls.a=16 by rw[mg];exact(zP s 16 (by omega)).1);have LD:=ab (show ld.a=16 by rw[hld];exact(zP d 16 (by omega)).1);have CS:=ab (show∀i,i<16->s.ay[1+i]? = some (bv (ls.b i 0))by rw[mg];exact(zP s 16 (by omega)).2);have CD:=ab (show∀i,i<16->d.ay[1+i]? = some (bv (ld.b i 0))by rw[hld];exact(zP d 16 (by omega)).2);have HT:=ab (show psB s d p n=ls++ld++[0,0,aJ (n/256),aJ (n%256),0,0,0,aJ p]by rw[mg,hld];unfold psB;rw[H6.i];rfl);clear mg hld;go_enter Tryz.func259,Tryz.ntmps259;go_wp2;clear q1 q2 q3 q4 p1 p2 p3 p4;go_loopw [9,11] (fun sr si wr=>∃(i:Nat)(A':Option aS)(m' c':Nat),i<=16/\si=.b .a i/\sr=.a A' m' c'/\Ly w.a.j [(w.a.j+1,d.ay),(w.a.j,s.ay)] w wr (.a A' m' c') ([]++ls.d i)) (fun _ si _=>16-(intOf si).e)
  case atStart=>exact⟨0,_,_,_,by omega,rfl,rfl,by simpa using S0.i⟩
  case round=>
   obtain⟨i,A',m',c',hi,rfl,rfl,h⟩:=hrel;have HO:=ab h;clear h;by_cases hlt:i<16
   ·have hlt2:(i:Int)<16:=by omega
    obtain⟨q1,q2,q3,q4⟩:=HO.i.b1.K;have hlq:=HO.i.b1.lt;have hc:=CS.i i hlt;obtain⟨u,hu⟩:=sH (ls.b i 0);rw[hu]at hc;unfold bv at hc;have HS:=ab (xO ls i (by rw[LS.i];exact hlt));rw[hu]at HS;have L1:=ab (HO.i.alloc (.D #[.b .b (u.e:Int)] 5));have R1:=ab (EF wr u _ rfl);have Mk:=ab (show([]++ls.d i).a+1<=1000000000 by rw[aR,bJ,Gn.i,LS.i];omega);go_wp2_with (at_builtin;refine kC rfl (.a 20) (.a 25) rfl rfl L1.i.o rfl R1.i Mk.i ?_;intro A5 n5 c5 w5 h2 h3;have L2:=ab (L1.i.step h3);clear h2 h3);go_roundw
    case rel=>exact⟨i+1,A5,n5,c5,by omega,by go_num,rfl,by rw[HS.i,<-dB];exact L2.i⟩
    case measure=>simp[intOf]<;>omega
   ·have hge:¬(i:Int)<16:=by omega
    have HF:=ab (show ls.d i=ls from aK (by rw[LS.i];omega));rw[HF.i]at HO;clear HF;rw[dG]at HO;clear Gn S0;obtain⟨bs2,Kq⟩:∃b,b=ls:=⟨_,rfl⟩
    have Gn:=ab (show bs2.a=16 by rw[Kq,LS.i]);rw[<-Kq]at HO HT;clear Kq;go_wp2;clear hge hi hlt;go_loopw [9,12] (fun sr si wr=>∃(i:Nat)(A':Option aS)(m' c':Nat),i<=16/\si=.b .a i/\sr=.a A' m' c'/\Ly w.a.j [(w.a.j+1,d.ay),(w.a.j,s.ay)] w wr (.a A' m' c') (bs2++ld.d i)) (fun _ si _=>16-(intOf si).e)
    case atStart=>exact⟨0,_,_,_,by omega,rfl,rfl,by simpa using HO.i⟩
    case round=>
     obtain⟨i,A',m',c',hi,rfl,rfl,h⟩:=hrel;have HO:=ab h;clear h;by_cases hlt:i<16
     ·have hlt2:(i:Int)<16:=by omega
      obtain⟨q1,q2,q3,q4⟩:=HO.i.X.K;have hlq:=HO.i.X.lt;have hc:=CD.i i hlt;obtain⟨u,hu⟩:=sH (ld.b i 0);rw[hu]at hc;unfold bv at hc;have HS:=ab (xO ld i (by rw[LD.i];exact hlt));rw[hu]at HS;have L1:=ab (HO.i.alloc (.D #[.b .b (u.e:Int)] 5));have R1:=ab (EF wr u _ rfl);have Mk:=ab (show(bs2++ld.d i).a+1<=1000000000 by rw[aR,bJ,Gn.i,LD.i];omega);go_wp2_with (at_builtin;refine kC rfl (.a 32) (.a 37) rfl rfl L1.i.o rfl R1.i Mk.i ?_;intro A5 n5 c5 w5 h2 h3;have L2:=ab (L1.i.step h3);clear h2 h3);go_roundw
      case rel=>exact⟨i+1,A5,n5,c5,by omega,by go_num,rfl,by rw[HS.i,<-dB];exact L2.i⟩
      case measure=>simp[intOf]<;>omega
     ·have hge:¬(i:Int)<16:=by omega
      have HF:=ab (show ld.d i=ld from aK (by rw[LD.i];omega));rw[HF.i]at HO;clear HF;obtain⟨bs3,LZ⟩:∃b,b=bs2++ld:=⟨_,rfl⟩
      have NJ:=ab (show bs3.a=32 by rw[LZ,aR,Gn.i,LD.i]);rw[<-LZ]at HO HT;clear LZ;obtain⟨q1,q2,q3,q4⟩:=HO.i.b1.K;have L4:=ab (HO.i.alloc (.D #[.b .b 0,.b .b 0,.b .b ((n:Int)/256),.b .b ((n:Int)%256),.b .b 0,.b .b 0,.b .b 0,.b .b p] 5));have R4:=ab (aDC.i wr);have HL4:=ab (show bs3.a+8<=1000000000 by rw[NJ.i];omega);go_wp2_with (at_builtin;refine kC rfl (.a 41) (.a 50) rfl rfl L4.i.o rfl R4.i HL4.i ?_;intro A5 n5 c5 w5 h2 h3;have L5:=ab (L4.i.step h3);clear h2 h3);go_ret;rw[<-HT.i]at L5;have ho:=L5.i.o;obtain⟨A9,c9,e9⟩:=ho.Cu;injection e9 with e9 e10 e11
      subst e10;exact⟨A5,_,c5,rfl,rfl,ho.vS,ho.R⟩
def r9(l:List UInt8)(k:Nat)(b:List UInt8):List UInt8:=l.d k++b++l.f (k+b.a)
def NK(n:Nat):List UInt8:=[aJ (n/256),aJ (n%256)]
theorem Wj(n:Nat):(NK n).a=2:=rfl
theorem EM{l:List UInt8}{k:Nat}{b:List UInt8}(h:k+b.a<=l.a):(r9 l k b).a=l.a:=by
 unfold r9;simp;omega
theorem amV{l:List UInt8}{k:Nat}{b:List UInt8}(h:k+b.a<=l.a)(j:Nat):(r9 l k b).b j 0=if k<=j/\j<k+b.a then b.b (j-k) 0 else l.b j 0:=by
 unfold r9;rw[au,au,au,dB];by_cases h1:j<k
 ·rw[mM (by simp;omega),jd,if_pos h1,if_neg (by omega)]
 ·rw[re (by simp;omega)]
  have e:(l.d k).a=k:=by simp;omega
  rw[e];by_cases h2:j<k+b.a
  ·rw[mM (by omega),if_pos (by omega)]
  ·rw[re (by omega),if_neg (by omega),iZ]
   congr 2;omega
theorem amW{l:List UInt8}{k:Nat}{b:List UInt8}(h:k+b.a<=l.a){z n:Nat}(hj:z+n<=k\/k+b.a<=z):((r9 l k b).f z).d n=(l.f z).d n:=by
 apply iJ;intro i;rw[jd,jd];by_cases hi:i<n
 ·rw[if_pos hi,if_pos hi,iZ,iZ]
  have hg:=amV h (z+i);rw[if_neg (by omega),au,au]at hg;have hl:=EM h;by_cases hlt:z+i<l.a
  ·rw[aC hlt,aC (by omega)]at hg ⊢
   simpa using hg
  ·rw[aT (by omega),aT (by omega)]
 ·rw[if_neg hi,if_neg hi]
theorem ajI{l:List UInt8}{k:Nat}{b:List UInt8}(h:k+b.a<=l.a):((r9 l k b).f k).d b.a=b:=by
 unfold r9;rw[dB,List.drop_append_of_le_length (by simp;omega),iR (by simp;omega)];simp
def Dt(p:Int):Nat:=if p=6 then 16 else if p=17 then 6 else 0
def QN(l:List UInt8)(a:fu)(n:Int):Bool:=(qV l).kind==0&&(a.h==(qV l).J.h.h&&((qV l).J.h.h||a.mJ))&&(decide (0<=n)&&decide (n<=65535))
def adU(p:Pk)(dst:Bool):Nat:=p.Cw.e+(if p.J.h.h then 8 else 12)+(if dst then(if p.J.h.h then 16 else 4)else 0)
def wC(p:Pk):Nat:=if p.J.h.h then 16 else 4
def Gp(p:Pk)(dst:Bool):Nat:=p.tq.e+(if dst then 2 else 0)
def rw1(l:List UInt8)(p:Pk)(a:fu)(n:Nat)(dst:Bool):List UInt8:=r9 (r9 (l.d p.Gh.e) (adU p dst) (a.b.a.d (wC p))) (Gp p dst) (NK n)
def Zm(l:List UInt8)(p:Pk)(dst:Bool):List UInt8:=(l.f (adU p dst)).d (wC p)
def rw2(l:List UInt8)(p:Pk)(a:fu)(n:Nat)(dst:Bool):List UInt8:=
 if p.J.h.h then rw1 l p a n dst else r9 (rw1 l p a n dst) (p.Cw.e+10) (NK (om (eU l (p.Cw.e+10)) (Zm l p dst) (a.b.a.d (wC p))))
def ahS(l:List UInt8)(p:Pk)(a:fu)(n:Nat)(dst:Bool):Nat:=
 om (om (eU l (p.tq.e+Dt p.J.aP)) (Zm l p dst) (a.b.a.d (wC p))) ((l.f (Gp p dst)).d 2) (NK n)
def rw3(l:List UInt8)(p:Pk)(a:fu)(n:Nat)(dst:Bool):List UInt8:=
 if p.J.aP=17/\eU l (p.tq.e+Dt p.J.aP)=0 then rw2 l p a n dst
 else r9 (rw2 l p a n dst) (p.tq.e+Dt p.J.aP) (NK (if p.J.aP=17/\ahS l p a n dst=0 then 65535 else ahS l p a n dst))
def abz(l:List UInt8)(a:fu)(n:Int)(dst:Bool):List UInt8:=if QN l a n then rw3 l (qV l) a n.e dst else []
structure amX(l:List UInt8)(p:Pk):Prop where
 fam:p.J.h.h=p.J.Y.h
 Cw:14<=p.Cw
 tq:p.Cw+(if p.J.h.h then 40 else 20)<=p.tq
 pro:p.J.aP=6\/p.J.aP=17
 Gh:p.tq+(if p.J.aP=6 then 20 else 8)<=p.Gh
 len:p.Gh<=l.a
theorem Wm(f:Nat):∀(x:Sx)(r:List UInt8),(yL f x r).2=0->(yL f x r).1.h=x.h/\(yL f x r).1.Y=x.Y:=by
 induction f with
 | zero=>
   intro x r h;unfold yL at h ⊢;split
   ·exact⟨rfl,rfl⟩
   ·rename_i h1;rw[if_neg h1]at h;cases h
 | succ f ih=>
   intro x r h;unfold yL at h ⊢;split
   ·exact⟨rfl,rfl⟩
   ·rename_i h1
    rw[if_neg h1]at h;split
    ·rename_i h2;rw[if_pos h2]at h;cases h
    ·rename_i h2;rw[if_neg h2]at h;exact ih _ _ h
theorem ahT{l:List UInt8}(h:(AQ l).2=0):(AQ l).1.h.h=true/\(AQ l).1.Y.h=true:=by
 unfold AQ at h ⊢;split
 ·rename_i h1;rw[if_pos h1]at h;cases h
 ·rename_i h1
  rw[if_neg h1]at h;split
  ·rename_i h2;rw[if_pos h2]at h;cases h
  ·rename_i h2
   rw[if_neg h2]at h;split
   ·rename_i h3;rw[if_pos h3]at h;cases h
   ·rename_i h3
    rw[if_neg h3]at h;obtain⟨a,b⟩:=Wm _ _ _ h;rw[a,b];exact⟨rfl,rfl⟩
theorem ahU{l:List UInt8}(h:(zV l).2=0):(zV l).1.h.h=false/\(zV l).1.Y.h=false:=by
 unfold zV at h ⊢;split
 ·exact⟨rfl,rfl⟩
 ·rename_i h1;rw[if_neg h1]at h;exact absurd h h1
theorem aql{p:Int}{l:List UInt8}(hp:p=6\/p=17)(h:(Je p l).2=0):(if p=6 then 20 else 8)<=l.a:=by
 rcases hp with rfl|rfl
 ·rw[asi]at h
  rw[if_pos rfl];by_cases h1:l.a<20
  ·rw[if_pos h1]at h;cases h
  ·omega
 ·rw[amT]at h
  rw[if_neg (by decide)];by_cases h1:l.a<8
  ·rw[if_pos h1]at h;cases h
  ·omega
theorem NM{l:List UInt8}(h:(qV l).kind=0):amX l (qV l):=by
 unfold qV at h ⊢;by_cases h1:(mq l).2≠0
 ·rw[if_pos h1]at h;cases h
 rw[if_neg h1]at h ⊢;by_cases h2:(mq l).1.oq≠2048/\(mq l).1.oq≠34525
 ·rw[if_pos h2]at h;cases h
 rw[if_neg h2]at h ⊢;by_cases h3:(mO l).2≠0
 ·rw[if_pos h3]at h;cases h
 rw[if_neg h3]at h ⊢;by_cases h4:(mO l).1.oG=true
 ·rw[if_pos h4]at h;cases h
 rw[if_neg h4]at h ⊢;by_cases h5:(mO l).1.aP≠6/\(mO l).1.aP≠17
 ·rw[if_pos h5]at h;cases h
 rw[if_neg h5]at h ⊢;by_cases h6:(LV l).2≠0
 ·rw[if_pos h6]at h;cases h
 rw[if_neg h6];have hat:=agf (l:=l) (by omega);have h3':(Zk (mq l).1.oq (l.f (mq l).1.at_)).2=0:=by simpa[mO]using h3
 have hip:=amQ h3';rw[jA]at hip;have hp:(mO l).1.aP=6\/(mO l).1.aP=17:=by omega
 have hpt:=aql hp (l:=(l.d ((mq l).1.at_+(mO l).1.dz.e)).f ((mq l).1.at_+(mO l).1.head.e)) (by simpa[LV]using h6);rw[jA,bJ]at hpt;have hh:(mO l).1.head=(Zk (mq l).1.oq (l.f (mq l).1.at_)).1.head:=rfl;have ht:(mO l).1.dz=(Zk (mq l).1.oq (l.f (mq l).1.at_)).1.dz:=rfl;have ayC:(mO l).1.h.h=(mO l).1.Y.h/\((mO l).1.h.h=true->40<=(mO l).1.head):=by
  unfold mO Zk;unfold Zk at h3';by_cases h7:(mq l).1.oq=2048
  ·rw[if_pos h7]at h3' ⊢
   have:=ahU h3';exact⟨by simp only[this.1,this.2],fun e=>by simp only[this.1]at e;cases e⟩
  ·rw[if_neg h7]at h3' ⊢
   have:=ahT h3';exact⟨by simp only[this.1,this.2],fun _=>(amP h3').1⟩
 refine⟨ayC.1,?_,?_,hp,?_,?_⟩
 ·show(14:Int)<=((mq l).1.at_:Nat)
  omega
 ·show((mq l).1.at_:Int)+(if(mO l).1.h.h then 40 else 20)<=((mq l).1.at_:Int)+(mO l).1.head
  split
  ·have:=ayC.2 ‹_›;omega
  ·omega
 ·show((mq l).1.at_:Int)+(mO l).1.head+(if(mO l).1.aP=6 then 20 else 8)<=((mq l).1.at_:Int)+(mO l).1.dz
  rcases hp with e|e
  ·rw[if_pos e]at hpt⊢;omega
  ·rw[if_neg (by rw[e];decide)]at hpt⊢;omega
 ·show((mq l).1.at_:Int)+(mO l).1.dz<=l.a
  omega
theorem Ly.amY(w w1:ak)(hb:aL w.a.j w w1)(c:Array aB)(l:List UInt8)(k:Nat)(hk:l.a=k)(hk2:k<=1000000)(h:c.a=l.map bv):Ly w.a.j [] w (w1.alloc (.D c 5)) (.a (some ⟨w1.a.j,0,none⟩) k k) l:=by
 have hc:c.j=k:=by rw[<-aY,h,bQ,hk]
 have h1:(w1.alloc (.D c 5)).c w1.a.j 5 1 (.a (some ⟨w1.a.j,0,none⟩) k k) k c.a:=World.ownsRow_lit w1 c k (av _) (by unfold maxLen;omega) (by omega);rw[h]at h1;have h2:=hb.alloc hb.j (.D c 5);subst hk;exact⟨⟨iG h1 hb.j,⟨h2.os,h2.tape,h2.output,h2.j,fun i hi _=>h2.block i hi⟩,.b ⟨_,rfl,hb.j⟩,av _,fun k h=>by cases h⟩,fun p hp=>by cases hp⟩
def wU(x:Sx):List UInt8:=[96,0,0,0,aJ ((x.dz-40).e/256),aJ ((x.dz-40).e%256),aJ x.aP.e,aJ x.Hu.e]++x.h.b.a++x.Y.b.a
def pY(n:Int):List UInt8:=[aJ (n.e/256),aJ (n.e%256)]
def zW(t:Tg):List UInt8:=pY t.oq++pY t.tci
def qv(d s:Vector UInt8 6)(fG:List Tg)(ty:Int):List UInt8:=d.a++s.a++fG.h zW++pY ty
def abA(t:Tg):Prop:=(0<=t.oq/\t.oq<=65535)/\0<=t.tci/\t.tci<=65535
theorem EO(l:List Tg):(l.h zW).a=4*l.a:=by
 induction l with
 | nil=>rfl
 | cons a l ih=>rw[iK,aR,ih];simp[zW,pY];omega
theorem asj(d:Vector UInt8 6)(i:Nat)(hi:i<6):(AO d)[i]? = some (bv (d.a.b i 0)):=by
 simp[AO,au,hi]
theorem Lc.auA(x:Lc)(i:Nat)(hi:i<6):x.ay[i]? = some (bv (x.Y.a.b i 0)):=by
 rw[<-asj _ i hi];simp[Lc.ay,aD,gD,hi]
theorem Lc.auB(x:Lc)(i:Nat)(hi:i<6):x.ay[6+i]? = some (bv (x.h.a.b i 0)):=by
 rw[<-asj _ i hi];simp[Lc.ay,aD,gD,hi,show¬6+i<6 by omega]
theorem Wn(n:Int)(h0:0<=n)(h1:n<=65535):((aJ (n.e/256)).e:Int)=n/256/\((aJ (n.e%256)).e:Int)=n%256:=by
 rw[yU _ (by omega),yU _ (by omega)];omega
theorem auC(n:Int)(h0:0<=n)(h1:n<=65535)(wr:ak):gq (wr.alloc (.D #[.b .b (n/256),.b .b (n%256)] 5)) (wr.a.j+1) (some ⟨wr.a.j,0,none⟩) 2 (pY n):=
 Wi wr #[.b .b (n/256),.b .b (n%256)] (pY n) (by
  obtain⟨e1,e2⟩:=Wn n h0 h1;simp only[pY,kL,pJ,bv];rw[e1,e2])
theorem auD(t:Tg)(h:abA t)(wr:ak):gq (wr.alloc (.D #[.b .b (t.oq/256),.b .b (t.oq%256),.b .b (t.tci/256),.b .b (t.tci%256)] 5)) (wr.a.j+1) (some ⟨wr.a.j,0,none⟩) 4 (zW t):=
 Wi wr #[.b .b (t.oq/256),.b .b (t.oq%256),.b .b (t.tci/256),.b .b (t.tci%256)] (zW t) (by
  obtain⟨e1,e2⟩:=Wn t.oq h.1.1 h.1.2;obtain⟨e3,e4⟩:=Wn t.tci h.2.1 h.2.2;simp only[zW,pY,kL,pJ,bv,iq,dG];rw[e1,e2,e3,e4])
theorem Wo(x:Lc)(fG:List Tg)(hf:∀t∈fG,abA t)(hn:fG.a<=1000)(t0:0<=x.oq)(t1:x.oq<=65535)(w:ak)(hT:gX Tg.ay 2 w w.a.j x.VQ x.EH fG):aQ ah 103 #[.d x.ay] w (Kv w (qv x.Y x.h fG x.oq)):=by
 have HT:=ab (show qv x.Y x.h fG x.oq=x.Y.a++x.h.a++fG.h zW++pY x.oq from rfl);have l0:=((Ly.nil (w:=w)).new x.ay 108)
 have S0:=ab l0;clear l0;have hl:=ab hT.len;have hnt:x.EH<=1000:=by rw[<-hl.i];exact hn
 have HR:=ab hT;have HF:=ab hf;clear hT hf;have Gn:=ab (show([]:List UInt8).a=0 from rfl);have CS:=ab (x.auB);have CD:=ab (x.auA);obtain⟨ls,mg⟩:∃l,l=x.h.a:=⟨_,rfl⟩
 obtain⟨ld,hld⟩:∃l,l=x.Y.a:=⟨_,rfl⟩
 have LS:=ab (show ls.a=6 by rw[mg];simp);have LD:=ab (show ld.a=6 by rw[hld];simp);rw[<-mg]at HT CS;rw[<-hld]at HT CD;clear mg hld;go_enter Tryz.func103,Tryz.ntmps103;go_wp2;go_loopw [3,4] (fun sr si wr=>∃(i:Nat)(A':Option aS)(m' c':Nat),i<=6/\si=.b .a i/\sr=.a A' m' c'/\Ly w.a.j [(w.a.j,x.ay)] w wr (.a A' m' c') ([]++ld.d i)) (fun _ si _=>6-(intOf si).e)
 case atStart=>exact⟨0,_,_,_,by omega,rfl,rfl,by simpa using S0.i⟩
 case round=>
  obtain⟨i,A',m',c',hi,rfl,rfl,h⟩:=hrel;have HO:=ab h;clear h;by_cases hlt:i<6
  ·have hlt2:(i:Int)<6:=by omega
   obtain⟨q1,q2,q3,q4⟩:=HO.i.X.K;have hlq:=HO.i.X.lt;have hc:=CD.i i hlt;obtain⟨u,hu⟩:=sH (ld.b i 0);rw[hu]at hc;unfold bv at hc;have HS:=ab (xO ld i (by rw[LD.i];exact hlt));rw[hu]at HS;have L1:=ab (HO.i.alloc (.D #[.b .b (u.e:Int)] 5));have R1:=ab (EF wr u _ rfl);have Mk:=ab (show([]++ld.d i).a+1<=1000000000 by rw[aR,bJ,Gn.i,LD.i];omega);go_wp2_with (at_builtin;refine kC rfl (.a 12) (.a 17) rfl rfl L1.i.o rfl R1.i Mk.i ?_;intro A5 n5 c5 w5 h2 h3;have L2:=ab (L1.i.step h3);clear h2 h3);go_roundw
   case rel=>exact⟨i+1,A5,n5,c5,by omega,by go_num,rfl,by rw[HS.i,<-dB];exact L2.i⟩
   case measure=>simp[intOf]<;>omega
  ·have hge:¬(i:Int)<6:=by omega
   have HF:=ab (show ld.d i=ld from aK (by rw[LD.i];omega));rw[HF.i]at HO;clear HF;rw[dG]at HO;clear Gn S0;obtain⟨bs2,Kq⟩:∃b,b=ld:=⟨_,rfl⟩
   have Gn:=ab (show bs2.a=6 by rw[Kq,LD.i]);rw[<-Kq]at HO HT;clear Kq;go_wp2;clear hge hi hlt;go_loopw [3,5] (fun sr si wr=>∃(i:Nat)(A':Option aS)(m' c':Nat),i<=6/\si=.b .a i/\sr=.a A' m' c'/\Ly w.a.j [(w.a.j,x.ay)] w wr (.a A' m' c') (bs2++ls.d i)) (fun _ si _=>6-(intOf si).e)
   case atStart=>exact⟨0,_,_,_,by omega,rfl,rfl,by simpa using HO.i⟩
   case round=>
    obtain⟨i,A',m',c',hi,rfl,rfl,h⟩:=hrel;have HO:=ab h;clear h;by_cases hlt:i<6
    ·have hlt2:(i:Int)<6:=by omega
     obtain⟨q1,q2,q3,q4⟩:=HO.i.X.K;have hlq:=HO.i.X.lt;have hc:=CS.i i hlt;obtain⟨u,hu⟩:=sH (ls.b i 0);rw[hu]at hc;unfold bv at hc;have HS:=ab (xO ls i (by rw[LS.i];exact hlt));rw[hu]at HS;have L1:=ab (HO.i.alloc (.D #[.b .b (u.e:Int)] 5));have R1:=ab (EF wr u _ rfl);have Mk:=ab (show(bs2++ls.d i).a+1<=1000000000 by rw[aR,bJ,Gn.i,LS.i];omega);go_wp2_with (at_builtin;refine kC rfl (.a 23) (.a 28) rfl rfl L1.i.o rfl R1.i Mk.i ?_;intro A5 n5 c5 w5 h2 h3;have L2:=ab (L1.i.step h3);clear h2 h3);go_roundw
     case rel=>exact⟨i+1,A5,n5,c5,by omega,by go_num,rfl,by rw[HS.i,<-dB];exact L2.i⟩
     case measure=>simp[intOf]<;>omega
    ·have hge:¬(i:Int)<6:=by omega
     have HF:=ab (show ls.d i=ls from aK (by rw[LS.i];omega));rw[HF.i]at HO;clear HF;obtain⟨bs3,LZ⟩:∃b,b=bs2++ls:=⟨_,rfl⟩
     have NJ:=ab (show bs3.a=12 by rw[LZ,aR,Gn.i,LS.i]);rw[<-LZ]at HO HT;clear LZ Gn;have S3:=HO;clear HO;go_wp2;clear hge hi hlt;go_loopw [3,6] (fun sr si wr=>∃(i:Nat)(A':Option aS)(m' c':Nat),i<=x.EH/\si=.b .a i/\sr=.a A' m' c'/\Ly w.a.j [(w.a.j,x.ay)] w wr (.a A' m' c') (bs3++(fG.d i).h zW)) (fun _ si _=>x.EH-(intOf si).e)
     case atStart=>exact⟨0,_,_,_,by omega,rfl,rfl,by simpa using S3.i⟩
     case round=>
      obtain⟨i,A',m',c',hi,rfl,rfl,h⟩:=hrel;have HO:=ab h;clear h S3;obtain⟨q1,q2,q3,q4⟩:=HO.i.X.K;by_cases hlt:i<x.EH
      ·have hlt2:(i:Int)<x.EH:=by omega
       obtain⟨ba,oa,ea,_,t3,t4⟩:=(HR.i.go HO.i.o.R).at_ Tg.G Sg hlt;obtain⟨t,ht⟩:=dw (fG.b i Sg);rw[<-ht]at t4;have HK:=ab (show abA t by rw[ht,au,aC (by rw[hl.i];exact hlt)];exact HF.i _ (dR _));have HS:=ab (show(fG.d (i+1)).h zW=(fG.d i).h zW++zW t by rw[ht,dP (by rw[hl.i];exact hlt),wX,au,aC (by rw[hl.i];exact hlt)];simp);obtain⟨⟨k1,k2⟩,k3,k4⟩:=HK.i;have Mk:=ab (show(bs3++(fG.d i).h zW).a+4<=1000000000 by rw[aR,EO,bJ,NJ.i];omega);clear ht;have L1:=ab ((HO.i.alloc (.D t.ay 268)).alloc (.D #[.b .b (t.oq/256),.b .b (t.oq%256),.b .b (t.tci/256),.b .b (t.tci%256)] 5));have R1:=ab (auD t HK.i (wr.alloc (.D t.ay 268)));have TB:=ab (dJ.new wr t.ay 268);go_upto_region 14 with fail
       obtain⟨y1,y2,y3,y4⟩:=TB.i.K;generalize wr.alloc (.D t.ay 268)=wt at *;go_wp2_with (at_builtin;refine kC rfl (.a 42) (.a 59) rfl rfl L1.i.o rfl R1.i Mk.i ?_;intro A5 n5 c5 w5 h2 h3;have L2:=ab (L1.i.step h3);clear h2 h3);go_roundw
       case rel=>exact⟨i+1,A5,n5,c5,by omega,by go_num,rfl,by rw[HS.i,<-dB];exact L2.i⟩
       case measure=>simp[intOf]<;>omega
      ·have hge:¬(i:Int)<x.EH:=by omega
       have HE:=ab (show fG.d i=fG from aK (by rw[hl.i];omega));rw[HE.i]at HO;have L4:=ab (HO.i.alloc (.D #[.b .b (x.oq/256),.b .b (x.oq%256)] 5));have R4:=ab (auC x.oq t0 t1 wr);have HL4:=ab (show(bs3++fG.h zW).a+2<=1000000000 by rw[aR,EO,NJ.i];omega);clear HE;go_wp2_with (at_builtin;refine kC rfl (.a 61) (.a 70) rfl rfl L4.i.o rfl R4.i HL4.i ?_;intro A5 n5 c5 w5 h2 h3;have L5:=ab (L4.i.step h3);clear h2 h3);go_ret;rw[<-HT.i]at L5;have ho:=L5.i.o;obtain⟨A9,c9,e9⟩:=ho.Cu;injection e9 with e9 e10 e11
       subst e10;exact⟨A5,_,c5,rfl,rfl,ho.vS,ho.R⟩
theorem Ly.at0{B:Nat}{L:List (Nat×Array aB)}{w0 W:ak}{A:Option aS}{n c:Nat}{bs:List UInt8}(h:Ly B L w0 W (.a A n c) bs)(hn:0<bs.a):
 n=bs.a/\n<=c/\∃g,A=some ⟨g,0,none⟩/\(∀j,j<bs.a->W.b ⟨g,j,none⟩=some (bv (bs.b j 0)))/\(∀j,W.frozen? ⟨g,j,none⟩=false):=by
 obtain⟨h1,h2⟩:=h.o.vS;rcases h2 with⟨e,e2⟩|⟨g,cap,cur,e,hg,hh,hle,hm,hs,ht⟩
 ·omega
 ·injection e with e1 e2 e3
  subst e1 e2 e3;refine⟨rfl,hle,g,rfl,fun j hj=>?_,fun j=>by simp[sj,hh]⟩;rw[cell_of_row W g j cur _ (0,0) hh];have:(bs.map bv)[j]? = some (bv (bs.b j 0)):=by simp[au,hj]
  rw[<-this,<-ht,gZ (by omega),dD]
theorem Ly.agk{B:Nat}{L:List (Nat×Array aB)}{w0 W:ak}{g n c:Nat}{bs:List UInt8}(h:Ly B L w0 W (.a (some ⟨g,0,none⟩) n c) bs)(j:Nat)(b:UInt8):Ly B L w0 (W.F ⟨g,j,none⟩ (bv b)) (.a (some ⟨g,0,none⟩) n c) (bs.set j b):=by
 obtain⟨A9,c9,e9⟩:=h.o.Cu;injection e9 with e9 e10 e11
 subst e10;obtain⟨g1,g2⟩:=h.o.vS.stored j (bv b);refine⟨⟨by rw[aV,List.map_set];exact g1,atM h.o.gr (.b ?_) _,h.o.sP,h.o.hB,h.o.gb⟩,fun p hp=>⟨(h.G p hp).1.dM _ _ (fun e=>(h.G p hp).2 (by rw[<-e];rfl)),(h.G p hp).2⟩⟩;rcases h.o.sP with e|⟨k,e,e2⟩
 ·cases e
 ·injection e with e
  subst e;exact e2
def Du(x:Fo):List UInt8:=[69,aJ x.Ot.e,aJ (x.dz.e/256),aJ (x.dz.e%256),aJ (x.id.e/256),aJ (x.id.e%256),(if x.keep then 64 else 0),0,aJ x.LJ.e,aJ x.aP.e,0,0]++x.h.b.a.d 4++x.Y.b.a.d 4
def adV(l:List UInt8):List UInt8:=(l.set 10 (aJ (xg l/256))).set 11 (aJ (xg l%256))
def tQ(x:Fo):List UInt8:=adV (Du x)
theorem Fo.Nc(x:Fo)(i:Nat)(hi:i<16):x.ay[9+i]? = some (bv (x.h.b.a.b i 0)):=by
 rw[<-fu.Eo _ i hi];have:i+1<17:=by omega
 simp[Fo.ay,aD,fu.G,show 9+i-8=i+1 by omega,show¬9+i<8 by omega,this]
theorem Fo.KX(x:Fo)(i:Nat)(hi:i<16):x.ay[26+i]? = some (bv (x.Y.b.a.b i 0)):=by
 rw[<-fu.Eo _ i hi];simp[Fo.ay,aD,fu.G,show¬26+i<8 by omega,show¬26+i-8<17 by omega,show 26+i-8-17=i+1 by omega]
theorem asn(l:List UInt8)(i:Nat)(hi:i<4):(l.d 4).b i 0=l.b i 0:=by
 simp[au,gZ hi]
@[go_sem]theorem aso(w:ak)(a0 a1 a2 a3 a4 a5 a6 a7 a8 a9 a10 a11:Int):(BJ 12 #[(0,.b .b a0),(1,.b .b a1),(2,.b .b a2),(3,.b .b a3),(4,.b .b a4),(5,.b .b a5),(6,.b .b a6),(7,.b .b a7),(8,.b .b a8),(9,.b .b a9),(10,.b .b a10),(11,.b .b a11)]).I ah w=.ok (.a (some ⟨w.a.j,0,none⟩) 12 12) (w.alloc (.D #[.b .b a0,.b .b a1,.b .b a2,.b .b a3,.b .b a4,.b .b a5,.b .b a6,.b .b a7,.b .b a8,.b .b a9,.b .b a10,.b .b a11] 5)):=by
 obtain⟨i0,hi0,hz0,hz1,hz2⟩:=zA;have hr:lU 12 = #[0,1,2,3,4,5,6,7,8,9,10,11]:=by apply oQ;rw[j3];rfl
 simp[BJ,bI,dL dx,zeroValue,sizeOf,typeInfo,hi0,hz0,hz1,fB,newRow,cO,hr]
theorem Wp(x:Fo)(s0:0<=x.Ot)(s1:x.Ot<=255)(t0:0<=x.dz)(t1:x.dz<=65535)(i0:0<=x.id)(i1:x.id<=65535)(l0:0<=x.LJ)(l1:x.LJ<=255)(p0:0<=x.aP)(p1:x.aP<=255)(w:ak):aQ ah 106 #[.d x.ay] w (Kv w (tQ x)):=by
 have T:=ab (dJ.new w x.ay 192);have HB:=ab ((aH w.a.j w).alloc (av _) (.D x.ay 192));have r0:=(Ly.amY w _ HB.i #[.b .b 69,.b .b x.Ot,.b .b (x.dz/256),.b .b (x.dz%256),.b .b (x.id/256),.b .b (x.id%256),.b .b 0,.b .b 0,.b .b x.LJ,.b .b x.aP,.b .b 0,.b .b 0] [69,aJ x.Ot.e,aJ (x.dz.e/256),aJ (x.dz.e%256),aJ (x.id.e/256),aJ (x.id.e%256),0,0,aJ x.LJ.e,aJ x.aP.e,0,0] 12 rfl (by omega) (by
  obtain⟨e1,e2⟩:=Wn x.dz t0 t1;obtain⟨e3,e4⟩:=Wn x.id i0 i1;simp only[kL,pJ,bv];rw[e1,e2,e3,e4,yU x.Ot.e (by omega),yU x.LJ.e (by omega),yU x.aP.e (by omega),kH s0,kH l0,kH p0];rfl)).add (q:=w.a.j) (c:=x.ay) (T.i.alloc _) (by rw[show(w.alloc (.D x.ay 192)).a.j=w.a.j+1 by simp];simp[jV])
 rw[show(w.alloc (.D x.ay 192)).a.j=w.a.j+1 by simp]at r0;have S:=ab r0;have HP:=ab (show tQ x=adV (Du x)from rfl);have CS:=ab (show∀i,i<4->x.ay[9+i]? = some (bv ((x.h.b.a.d 4).b i 0))from fun i hi=>by rw[asn _ i hi];exact x.Nc i (by omega));have CD:=ab (show∀i,i<4->x.ay[26+i]? = some (bv ((x.Y.b.a.d 4).b i 0))from fun i hi=>by rw[asn _ i hi];exact x.KX i (by omega));have HT:=ab (show Du x=[69,aJ x.Ot.e,aJ (x.dz.e/256),aJ (x.dz.e%256),aJ (x.id.e/256),aJ (x.id.e%256),(if x.keep then 64 else 0),0,aJ x.LJ.e,aJ x.aP.e,0,0]++x.h.b.a.d 4++x.Y.b.a.d 4 from rfl);obtain⟨ls,mg⟩:∃l,l=x.h.b.a.d 4:=⟨_,rfl⟩
 obtain⟨ld,hld⟩:∃l,l=x.Y.b.a.d 4:=⟨_,rfl⟩
 have LS:=ab (show ls.a=4 by rw[mg];simp);have LD:=ab (show ld.a=4 by rw[hld];simp);rw[<-mg]at HT CS;rw[<-hld]at HT CD;clear mg hld r0;obtain⟨q1,q2,q3,q4⟩:=T.i.K;have x5:=x.abg;obtain⟨kp,hkp⟩:∃k,x.keep=k:=⟨_,rfl⟩
 rw[hkp]at x5 HT;clear hkp;go_enter Tryz.func106,Tryz.ntmps106;go_upto_region 2 with fail
 obtain⟨y1,y2,y3,y4⟩:=S.i.X.K;obtain⟨_,_,g,eg,c1,c2⟩:=S.i.at0 (by simp);injection eg with eg
 injection eg with eg
 subst eg;clear q1 q2 q3 q4;have c6:=c1 6 (by simp);clear c1;generalize(w.alloc (.D x.ay 192)).alloc (.D #[.b .b 69,.b .b x.Ot,.b .b (x.dz/256),.b .b (x.dz%256),.b .b (x.id/256),.b .b (x.id%256),.b .b 0,.b .b 0,.b .b x.LJ,.b .b x.aP,.b .b 0,.b .b 0] 5)=w2 at *;cases kp
 case' false=>
  go_wp2;have S0:=S;obtain⟨bs,hbs⟩:∃bs:List UInt8,bs=[69,aJ x.Ot.e,aJ (x.dz.e/256),aJ (x.dz.e%256),aJ (x.id.e/256),aJ (x.id.e%256),0,0,aJ x.LJ.e,aJ x.aP.e,0,0]:=⟨_,rfl⟩
  have Gn:=ab (show bs.a=12 by rw[hbs];rfl);have HQ:=ab (show Du x=bs++ls++ld by rw[HT.i,hbs];rfl);rw[<-hbs]at S0
 case' true=>
  go_wp2;have S0:=ab (S.i.agk 6 64);rw[show bv 64=.b .b 64 from rfl]at S0;obtain⟨bs,hbs⟩:∃bs:List UInt8,bs=[69,aJ x.Ot.e,aJ (x.dz.e/256),aJ (x.dz.e%256),aJ (x.id.e/256),aJ (x.id.e%256),64,0,aJ x.LJ.e,aJ x.aP.e,0,0]:=⟨_,rfl⟩
  have Gn:=ab (show bs.a=12 by rw[hbs];rfl);have HQ:=ab (show Du x=bs++ls++ld by rw[HT.i,hbs];rfl);rw[show([69,aJ x.Ot.e,aJ (x.dz.e/256),aJ (x.dz.e%256),aJ (x.id.e/256),aJ (x.id.e%256),0,0,aJ x.LJ.e,aJ x.aP.e,0,0]:List UInt8).set 6 64=bs by rw[hbs];rfl]at S0
 all_goals
  clear HT hbs y1 y2 y3 y4 c2 c6 S;go_loopw [3,4] (fun sr si wr=>∃(i:Nat)(A':Option aS)(m' c':Nat),i<=4/\si=.b .a i/\sr=.a A' m' c'/\Ly w.a.j [(w.a.j,x.ay)] w wr (.a A' m' c') (bs++ls.d i)) (fun _ si _=>4-(intOf si).e)
  case atStart=>exact⟨0,_,_,_,by omega,rfl,rfl,by simpa using S0.i⟩
  case round=>
   obtain⟨i,A',m',c',hi,rfl,rfl,h⟩:=hrel;have HO:=ab h;clear h;by_cases hlt:i<4
   ·have hlt2:(i:Int)<4:=by omega
    obtain⟨q1,q2,q3,q4⟩:=HO.i.X.K;have hlq:=HO.i.X.lt;have hc:=CS.i i hlt;obtain⟨u,hu⟩:=sH (ls.b i 0);rw[hu]at hc;unfold bv at hc;have HS:=ab (xO ls i (by rw[LS.i];exact hlt));rw[hu]at HS;have L1:=ab (HO.i.alloc (.D #[.b .b (u.e:Int)] 5));have R1:=ab (EF wr u _ rfl);have Mk:=ab (show(bs++ls.d i).a+1<=1000000000 by rw[aR,bJ,Gn.i,LS.i];omega);go_wp2_with (at_builtin;refine kC rfl (.a 41) (.a 47) rfl rfl L1.i.o rfl R1.i Mk.i ?_;intro A5 n5 c5 w5 h2 h3;have L2:=ab (L1.i.step h3);clear h2 h3);go_roundw
    case rel=>exact⟨i+1,A5,n5,c5,by omega,by go_num,rfl,by rw[HS.i,<-dB];exact L2.i⟩
    case measure=>simp[intOf]<;>omega
   ·have hge:¬(i:Int)<4:=by omega
    have HF:=ab (show ls.d i=ls from aK (by rw[LS.i];omega));rw[HF.i]at HO;clear HF;obtain⟨bs2,Kq⟩:∃b,b=bs++ls:=⟨_,rfl⟩
    have ayE:=ab (show bs2.a=16 by rw[Kq,aR,Gn.i,LS.i]);rw[<-Kq]at HO HQ;clear Kq S0 Gn;have Gn:=ayE;clear ayE;go_wp2;clear hge hi hlt;go_loopw [3,5] (fun sr si wr=>∃(i:Nat)(A':Option aS)(m' c':Nat),i<=4/\si=.b .a i/\sr=.a A' m' c'/\Ly w.a.j [(w.a.j,x.ay)] w wr (.a A' m' c') (bs2++ld.d i)) (fun _ si _=>4-(intOf si).e)
    case atStart=>exact⟨0,_,_,_,by omega,rfl,rfl,by simpa using HO.i⟩
    case round=>
     obtain⟨i,A',m',c',hi,rfl,rfl,h⟩:=hrel;have HO:=ab h;clear h;by_cases hlt:i<4
     ·have hlt2:(i:Int)<4:=by omega
      obtain⟨q1,q2,q3,q4⟩:=HO.i.X.K;have hlq:=HO.i.X.lt;have hc:=CD.i i hlt;obtain⟨u,hu⟩:=sH (ld.b i 0);rw[hu]at hc;unfold bv at hc;have HS:=ab (xO ld i (by rw[LD.i];exact hlt));rw[hu]at HS;have L1:=ab (HO.i.alloc (.D #[.b .b (u.e:Int)] 5));have R1:=ab (EF wr u _ rfl);have Mk:=ab (show(bs2++ld.d i).a+1<=1000000000 by rw[aR,bJ,Gn.i,LD.i];omega);go_wp2_with (at_builtin;refine kC rfl (.a 53) (.a 59) rfl rfl L1.i.o rfl R1.i Mk.i ?_;intro A5 n5 c5 w5 h2 h3;have L2:=ab (L1.i.step h3);clear h2 h3);go_roundw
      case rel=>exact⟨i+1,A5,n5,c5,by omega,by go_num,rfl,by rw[HS.i,<-dB];exact L2.i⟩
      case measure=>simp[intOf]<;>omega
     ·have hge:¬(i:Int)<4:=by omega
      have HF:=ab (show ld.d i=ld from aK (by rw[LD.i];omega));rw[HF.i]at HO;clear HF;obtain⟨bs3,LZ⟩:∃b,b=bs2++ld:=⟨_,rfl⟩
      have NJ:=ab (show bs3.a=20 by rw[LZ,aR,Gn.i,LD.i]);rw[<-LZ]at HO HQ;clear LZ Gn;have CQ:=ab (Wd wr A' m' c' bs3 (by have:=HO.i.o.Cu;obtain⟨A9,c9,e9⟩:=this;injection e9 with e9 e10 e11;rw[e10,NJ.i];omega) (Dn HO.i.o (aH _ _)));have HSL:=ab (show xg bs3<=65535 by unfold xg;omega);have HP2:=ab (show tQ x=(bs3.set 10 (aJ (xg bs3/256))).set 11 (aJ (xg bs3%256))by rw[HP.i,HQ.i];rfl);clear HP HQ;generalize xg bs3=z at *;have z0:(0:Int)<=z:=by omega
      have z1:(z:Int)<=65535:=by have:=HSL.i;omega
      go_upto_region 13 with(go_at_call 186;(with_reducible refine CQ.i.g ?_);rintro e w6 ⟨rfl,hb⟩;have M1:=ab (HO.i.go hb);clear hb)
      clear hlt hge hi;obtain⟨hm1,hm2,g,rfl,k1,k2⟩:=M1.i.at0 (by rw[NJ.i];omega);have m1:(10:Int)<m':=by rw[NJ.i]at hm1;omega
      have m2:(11:Int)<m':=by rw[NJ.i]at hm1;omega
      have k10:=k1 10 (by rw[NJ.i];omega);have M2:=ab (M1.i.agk 10 (aJ (z/256)));have e1:((aJ (z/256)).e:Int)=(z:Int)/256:=by rw[yU _ (by have:=HSL.i;omega)];omega
      unfold bv at M2;rw[e1]at M2;clear k1 e1;go_upto_region 14 with fail
      generalize w6.F ⟨g,10,none⟩ (.b .b ((z:Int)/256))=w7 at *;obtain⟨_,_,g',eg,k3,k4⟩:=M2.i.at0 (by rw[aV,NJ.i];omega);injection eg with eg
      injection eg with eg
      subst eg;have k11:=k3 11 (by rw[aV,NJ.i];omega);have M3:=ab (M2.i.agk 11 (aJ (z%256)));have e2:((aJ (z%256)).e:Int)=(z:Int)%256:=by rw[yU _ (by omega)];omega
      unfold bv at M3;rw[e2]at M3;clear k3 e2 k2 k10;go_wp2;go_ret;rw[<-HP2.i]at M3;have ho:=M3.i.o;obtain⟨A9,c9,e9⟩:=ho.Cu;injection e9 with e9 e10 e11
      subst e10;have HLE:bs3.a=(tQ x).a:=by rw[HP2.i,aV,aV]
      rw[HLE];exact⟨_,_,_,rfl,rfl,ho.vS,ho.R⟩
def am0(a b:fu):Bool:=a.h==b.h&&(a.h||a.mJ&&b.mJ)
def zX(k:Int)(l:List UInt8):Tn:=
 if k=2048 then⟨(zV l).1.head,(zV l).1.dz,(zV l).1.aP,(zV l).1.oG,(zV l).2==0⟩
 else if k=34525 then⟨(AQ l).1.head,(AQ l).1.dz,(AQ l).1.aP,(AQ l).1.oG,(AQ l).2==0⟩
 else sQ
def agl(x:Lc)(t:Tu):Lc:={x with oq:=if t.h.h then 34525 else 2048}
theorem abB(x:Lc)(t:Tu)(w:ak):aQ ah 104 #[.d x.ay,.d t.ay] w (gM w (.d (agl x t).ay)):=by
 have h0:=(((Bx.start w).new x.ay 108).new t.ay 81).new qJ.ay 108;rw[show((w.alloc (.D x.ay 108)).alloc (.D t.ay 81)).a.j=w.a.j+2 by simp,show(w.alloc (.D x.ay 108)).a.j=w.a.j+1 by simp]at h0;have Z:=ab (h0.sub (L':=[(w.a.j,x.ay),(w.a.j+1,t.ay),(w.a.j+2,qJ.ay)]) (by simp));clear h0;have hne:=ab (fun p (hp:p∈[(w.a.j+1,t.ay),(w.a.j+2,qJ.ay)])=>show p.1≠w.a.j by
  simp at hp;rcases hp with rfl|rfl<;>simp)
 go_enter Tryz.func104,Tryz.ntmps104;go_upto_region 1 with fail
 generalize((w.alloc (.D x.ay 108)).alloc (.D t.ay 81)).alloc (.D qJ.ay 108)=w2 at Z ⊢;obtain⟨y1,y2,y3,y4⟩:=Z.i.X.K;have Z1:=ab (Z.i.set hne.i 13 (.b .a 2048));rw[Lc.Tx]at Z1;go_upto_region 2 with fail
 clear y1 y2 y3 y4;generalize w2.F ⟨w.a.j,13,none⟩ (.b .a 2048)=w3 at Z1 ⊢;obtain⟨x1,x2,x3,x4⟩:=Z1.i.b1.K;have x0:=Tu.pW t;cases h6:t.h.h
 ·have H6:=ab h6
  rw[h6]at x0;clear h6;obtain⟨u1,u2,u3,u4⟩:=Z1.i.X.K;have th:=Z1.i.b2.O 0 15 (aW (Lc.G qJ).symm);have ZP:=ab ((Z1.i.sub (L':=[(w.a.j+2,qJ.ay)]) (by simp)).put (fun p hp=>by cases hp) ({x with oq:=2048}:Lc).ay (by rw[Lc.G,Lc.G]));go_wp2;refine aN (kLc.zh rfl _ rfl ZP.i.X (Lc.G _)) rfl ?_;rw[show agl x t={x with oq:=2048}by unfold agl;rw[H6.i];rfl];exact⟨rfl,ZP.i.R⟩
 ·have H6:=ab h6
  rw[h6]at x0;clear h6;obtain⟨y1,y2,y3,y4⟩:=Z1.i.X.K;have Z2:=ab (Z1.i.set hne.i 13 (.b .a 34525));rw[Lc.Tx]at Z2;go_upto_region 4 with fail
  clear y1 y2 y3 y4 x1 x2 x3 x4;generalize w3.F ⟨w.a.j,13,none⟩ (.b .a 34525)=w4 at Z2 ⊢;obtain⟨u1,u2,u3,u4⟩:=Z2.i.X.K;have th:=Z2.i.b2.O 0 15 (aW (Lc.G qJ).symm);have ZP:=ab ((Z2.i.sub (L':=[(w.a.j+2,qJ.ay)]) (by simp)).put (fun p hp=>by cases hp) ({x with oq:=34525}:Lc).ay (by rw[Lc.G,Lc.G]));go_wp2;refine aN (kLc.zh rfl _ rfl ZP.i.X (Lc.G _)) rfl ?_;rw[show agl x t={x with oq:=34525}by unfold agl;rw[H6.i];rfl];exact⟨rfl,ZP.i.R⟩
section
attribute [local go_sem high] iT jF
def GV(l:List UInt8)(s d:fu):List UInt8×Int:=
 if(mq l).2≠0 then([],3)
 else if(zX (mq l).1.oq (l.f (mq l).1.at_)).ok=false then([],3)
 else if am0 s d=false then([],1)
 else if s.h=true then
  if(zX (mq l).1.oq (l.f (mq l).1.at_)).dz>65535 then([],4)
  else(qv (mq l).1.Y (mq l).1.h (mq l).1.fG 34525++wU ⟨40,40+(zX (mq l).1.oq (l.f (mq l).1.at_)).dz,64,false,0,if(mq l).1.oq=34525 then 41 else 4,s,d⟩++(l.f (mq l).1.at_).d (zX (mq l).1.oq (l.f (mq l).1.at_)).dz.e,0)
 else if 20+(zX (mq l).1.oq (l.f (mq l).1.at_)).dz>65535 then([],4)
  else(qv (mq l).1.Y (mq l).1.h (mq l).1.fG 2048++tQ ⟨20,20+(zX (mq l).1.oq (l.f (mq l).1.at_)).dz,0,0,false,true,64,if(mq l).1.oq=34525 then 41 else 4,s,d⟩++(l.f (mq l).1.at_).d (zX (mq l).1.oq (l.f (mq l).1.at_)).dz.e,0)
def ajJ(W:ak)(r:List UInt8×Int)(e:lq)(W':ak):Prop:=∃A n c,e=.a (.J #[.a A n c,.b .a r.2])/\gq W' W'.a.j A n r.1/\aL W.a.j W W'
theorem NQ(l:List UInt8)(k:Nat):eU l k<=65535:=by
 have h1:=(l.b k 0).toNat_lt;have h2:=(l.b (k+1) 0).toNat_lt;unfold eU;omega
theorem Zn{l:List UInt8}:∀(m k:Nat)(fG:List Tg),(∀t∈fG,abA t)->fG.a+m<=2->(∀t∈(Cx l m k fG).1.fG,abA t)/\(Cx l m k fG).1.fG.a<=2
 | 0,k,fG,h,hl=>by
   cases ht:tZ (eU l (k-2):Nat)with
   | false=>rw[zL ht];exact⟨h,hl⟩
   | true=>rw[J5 ht];exact⟨fun t ht=>by simp[EI]at ht,by simp[EI]⟩
 | m+1,k,fG,h,hl=>by
   cases ht:tZ (eU l (k-2):Nat)with
   | false=>rw[zL ht];exact⟨h,by simp only;omega⟩
   | true=>
     by_cases h4:l.a<k+4
     ·rw[BZ ht h4];exact⟨fun t ht=>by simp[EI]at ht,by simp[EI]⟩
     ·rw[EJ ht h4]
      refine Zn m (k+4) _ (fun t ht=>?_) (by simp;omega);rcases qh.1 ht with ht|ht
      ·exact h t ht
      ·rw[fD.1 ht]
       have h1:=NQ l (k-2);have h2:=NQ l k;exact⟨⟨by simp only;omega,by simp only;omega⟩,by simp only;omega,by simp only;omega⟩
theorem Wq(l:List UInt8):(∀t∈(mq l).1.fG,abA t)/\(mq l).1.fG.a<=2:=by
 unfold mq;split
 ·exact⟨fun t ht=>by simp[EI]at ht,by simp[EI]⟩
 ·exact Zn 2 14 [] (fun t ht=>by cases ht) (by simp)
end
section
attribute [local go_sem high] iT jF
theorem agm(W:ak)(k:Int)(A:Option aS)(n c:Nat)(l:List UInt8)(hnc:n<=c)(hc:c<=9223372036854775807/\n<=1000000)(hr:gq W W.a.j A n l):aQ ah 101 #[.b .a k,.a A n c] W (gM W (.d (zX k l).ay)):=by
 have b0:=ab ((Bx.start W).new sQ.ay 179);have R0:=b0.i.NA hr;have C4:=ab (Nw _ A n c l hnc (by omega) R0);have C6:=ab (QM _ A n c l hnc (by omega) R0);clear R0 hr;go_enter Tryz.func101,Tryz.ntmps101;by_cases hk:k=2048
 ·have q:(k==2048)=true:=by simp[hk]
  obtain⟨x,hx⟩:=dw ((zV l));obtain⟨x,er⟩:=x;have H:=ab (show zX k l=⟨x.head,x.dz,x.aP,x.oG,er==0⟩by unfold zX;rw[if_pos hk,<-hx]);unfold FoP at C4;rw[<-hx]at C4;clear hx hk;go_wp2_with (go_at_call 175;with_reducible refine C4.i.g ?_;rintro e w1 ⟨rfl,hb1⟩;have Z1:=ab (b0.i.go hb1);have Z2:=ab (Z1.i.new x.ay 192);obtain⟨y1,y2,y3,y4⟩:=Z2.i.X.K;have yK:=Z2.i.b1.O 0 5 (aW (Tn.G sQ).symm);clear hb1);have Z3:=ab (Z2.i.swap.put (fun p hp=>by rw[fD.1 hp];exact uF Z1.i.X.lt) (Tn.mk x.head x.dz x.aP x.oG (er==0)).ay (by rw[Tn.G,Tn.G]));refine aN (kTn.zh rfl _ rfl Z3.i.X (Tn.G _)) rfl ?_;rw[H.i];exact⟨rfl,Z3.i.R⟩
 by_cases hk6:k=34525
 ·have q:(k==2048)=false:=by simp[hk]
  have q2:(k==34525)=true:=by simp[hk6]
  obtain⟨x,hx⟩:=dw ((AQ l));obtain⟨x,er⟩:=x;have H:=ab (show zX k l=⟨x.head,x.dz,x.aP,x.oG,er==0⟩by unfold zX;rw[if_neg hk,if_pos hk6,<-hx]);unfold SxP at C6;rw[<-hx]at C6;clear hx hk hk6;go_wp2_with (go_at_call 176;with_reducible refine C6.i.g ?_;rintro e w1 ⟨rfl,hb1⟩;have Z1:=ab (b0.i.go hb1);have Z2:=ab (Z1.i.new x.ay 189);obtain⟨y1,y2,y3,y4⟩:=Z2.i.X.K;have yK:=Z2.i.b1.O 0 5 (aW (Tn.G sQ).symm);clear hb1);have Z3:=ab (Z2.i.swap.put (fun p hp=>by rw[fD.1 hp];exact uF Z1.i.X.lt) (Tn.mk x.head x.dz x.aP x.oG (er==0)).ay (by rw[Tn.G,Tn.G]));refine aN (kTn.zh rfl _ rfl Z3.i.X (Tn.G _)) rfl ?_;rw[H.i];exact⟨rfl,Z3.i.R⟩
 ·have q:(k==2048)=false:=by simp[hk]
  have q2:(k==34525)=false:=by simp[hk6]
  have H:=ab (show zX k l=sQ by unfold zX;rw[if_neg hk,if_neg hk6]);have yK:=b0.i.X.O 0 5 (aW (Tn.G sQ).symm);clear hk hk6;go_wp2;have Z3:=ab (b0.i.put (fun p hp=>by cases hp) sQ.ay rfl);refine aN (kTn.zh rfl _ rfl (b:=W.a.j) (c:=sQ.ay) (by first|exact Z3.i.X|exact b0.i.X) (Tn.G _)) rfl ?_;rw[H.i];exact⟨rfl,by first|exact Z3.i.R|exact b0.i.R⟩
theorem aDE:aju 314:=⟨fun c w=>by
 go_enter Tryz.func314,Tryz.ntmps314;go_wp2;go_ret;exact⟨rfl,rfl⟩,fun args w=>by kernel_rfl⟩
theorem adW(a:fu)(w:ak):aQ ah 269 #[.d a.ay] w (gM w (.e a.mJ)):=by
 have HB:=ab ((aH w.a.j w).alloc (av _) (.D a.ay 27));have x0:=dJ.new w a.ay 27;have C:=ab (ahO _ aDE _ 12 12 _ _ _ (by omega) (gq.tail (B:=w.a.j+1) (mG _) x0));have HS:=ab (J6 a);obtain⟨z,hz⟩:=dw (nzB (a.b.a.f 4));rw[<-hz]at C HS;clear hz;go_enter Tryz.func269,Tryz.ntmps269;go_wp2_with fail;refine C.i.g ?_;rintro e w' ⟨rfl,rfl⟩;cases z
 all_goals
  go_wp2;go_ret;exact⟨by have:=HS.i;simp at this;simp[<-this],HB.i⟩
theorem agn(k:Int)(w:ak):aQ ah 256 #[.b .a k] w fun e w'=>e=.a (.e (decide (0<=k)&&decide (k<=65535)))/\w=w':=by
 go_enter Tryz.func256,Tryz.ntmps256;by_cases h1:0<=k<;>by_cases h2:k<=65535
 all_goals
  go_wp2;go_ret;exact⟨by simp[h1,h2],rfl⟩
theorem ajK(k:Int)(w:ak):aQ ah 315 #[.b .a k] w fun e w'=>e=.a (.e (decide (0<=k)&&decide (k<=255)))/\w=w':=by
 go_enter Tryz.func315,Tryz.ntmps315;by_cases h1:0<=k<;>by_cases h2:k<=255
 all_goals
  go_wp2;go_ret;exact⟨by simp[h1,h2],rfl⟩
end
theorem agp(l:List UInt8):∀v∈l.map bv,v.h=true:=by
 intro v hv;obtain⟨b,_,rfl⟩:=iQ.1 hv;rfl
theorem am1(l:List UInt8)(k:Nat):r9 l k []=l:=by unfold r9;simp
theorem PY{g z n c:Nat}(h:z<c):vL (some ⟨g,0,none⟩) z c 1=some ⟨g,z,none⟩:=by
 unfold vL;rw[if_neg (by omega)];simp only[mY,gB];rw[iC,bl]
theorem Ly.copy{B:Nat}{L:List (Nat×Array aB)}{w0 W:ak}{A:Option aS}{n c:Nat}{bs:List UInt8}(h:Ly B L w0 W (.a A n c) bs)(z:Nat){C:Nat}{sp:Option aS}{sLen:Nat}{ys:List UInt8}(hr:gq W C sp sLen ys)(m:Nat)(dp:Option aS)(dLen dCap sCap:Nat)
 (hm:m=qg sLen dLen) (hd:0<m->∃g,A=some ⟨g,0,none⟩/\dp=some ⟨g,z,none⟩) (hz:z+m<=bs.a) (ty:bM) (dT sT:bM) (hu:ah.k dT=some (.a 5)) :
 ∃W',(Builtin.copy_ #[dT,sT] ty #[.a dp dLen dCap,.a sp sLen sCap]).I ah W=.ok (goInt m) W'/\Ly B L w0 W' (.a A n c) (r9 bs z (ys.d m))/\W.d W' (jV (.a A n c)):=by
 have hsz:(ah.info? 5).map (·.j)=some 1:=by
  obtain⟨i0,hi0,hz0,hz1,_⟩:=Ci Lh;rw[hi0];simp[hz1]
 by_cases h0:m=0
 ·subst h0
  exact⟨W,run_copy_none (P:=ah) W dT sT ty 5 dp sp dLen dCap sLen sCap hu hsz hm.symm,by rw[jX,am1];exact h,World.grownBy.refl _ _⟩
 ·obtain⟨g,rfl,rfl⟩:=hd (by omega)
  have hln:=hr.len;have hms:m<=sLen:=by rw[hm];exact Nat.min_le_left _ _
  obtain⟨a,rfl,_,hsrc⟩:=hr.2 (by omega);have hl1:((ys.d m).map bv).a=m:=by simp;omega
  rcases h.o.vS.2 with⟨e,_⟩|⟨g',cap,cur,e,hB,hh,hn,hcap,hcs,htk⟩
  ·cases e
  ·injection e with e1 e2 e3
   injection e1 with e1
   injection e1 with e1
   subst e1 e3;have hnb:n=bs.a:=e2;have hg2:w0.a.j<=g:=by
    rcases h.o.sP with e|⟨k',e,e2⟩
    ·cases e
    ·injection e with e;subst e;exact e2
   have hrun:=run_copy_row (P:=ah) W dT sT ty 5 g z dLen dCap a sLen sCap cur 5 ((ys.d m).map bv) hu hsz hh (by rw[hl1,hm]) (fun j v hv=>hsrc j v (by
    simp only[jC,jd]at hv ⊢;split at hv
    ·exact hv
    ·cases hv)) (by rw[hl1,hcs];omega) (agp _)
   rw[hl1]at hrun;refine⟨_,hrun,?_,?_⟩
   ·have Vg:(r9 bs z (ys.d m)).a=bs.a:=EM (by simp;omega)
    have aDF:(cur.a.d bs.a)=bs.map bv:=by rw[<-htk,gB]
    refine⟨⟨⟨by simp[Vg],.b ⟨g,c,_,by rw[Vg,hnb],hB,setRow_heap W g cur _ _ _ hh,by rw[Vg];omega,hcap,by simp;simp at hcs;omega,?_⟩⟩,?_,h.o.sP,h.o.hB,h.o.gb⟩,fun p hp=>⟨?_,(h.G p hp).2⟩⟩
    ·rw[Vg,gB]
     unfold r9;simp only[List.toList_toArray,List.map_append,Ap,List.map_drop,<-aDF];simp only[Array.toList_ofFn,bJ];apply iJ;intro i;have hcz:cur.a.a=c:=by rw[aY,hcs,gB]
     rw[jd];by_cases hi:i<bs.a
     ·rw[if_pos hi]
      simp only[dB,kT,bJ,bQ,jd,iZ,hcz]
      repeat' split
      all_goals first|omega|rfl|(simp at *;omega)|(congr 1;omega)|(simp;omega)|skip
     ·rw[if_neg hi]
      symm;apply aT;simp[hcz];omega
    ·exact⟨h.o.gr.os,h.o.gr.tape,h.o.gr.output,by simpa[rW]using h.o.gr.j,fun k hk hne=>(oJ W g k _ (by omega)).trans (h.o.gr.block k hk hne)⟩
    ·obtain⟨t,ht⟩:=(h.G p hp).1
     exact⟨t,(oJ W g p.1 _ (fun e=>(h.G p hp).2 (by rw[e];rfl))).trans ht⟩
   ·exact⟨rfl,rfl,rfl,by simp[rW],fun k hk hne=>oJ W g k _ (fun e=>hne (by rw[e];rfl))⟩
section
attribute [local go_sem high] iT jF
theorem aqm:lU 3 = #[0,1,2]:=by apply oQ;rw[j3];rfl
@[go_sem]theorem asr(w:ak)(A0 A1 A2:Option aS)(n0 n1 n2 c0 c1 c2:Nat):(Gf 3 #[(0,.a A0 n0 c0),(1,.a A1 n1 c1),(2,.a A2 n2 c2)]).I ah w=.ok (.a (some ⟨w.a.j,0,none⟩) 3 3) (w.alloc (.D (yR [⟨A0,n0,c0⟩,⟨A1,n1,c1⟩,⟨A2,n2,c2⟩]) 56)):=by
 obtain⟨i0,hi0,hz0,hz1⟩:=Te;simp[Gf,bI,dL Tryz.underlying276,zeroValue,sizeOf,typeInfo,hi0,hz0,hz1,fB,newRow,yR,cO,aqm]
def adX(w:ak)(bs:List UInt8)(e:lq)(w':ak):Prop:=∃A n c,e=.a (.J #[.a A n c,.b .a 0])/\n=bs.a/\w'.c w.a.j 5 1 (.a A n c) n (bs.map bv)/\aL w.a.j w w'
theorem Ly.am2{B:Nat}{L:List (Nat×Array aB)}{w0 W:ak}{A:Option aS}{n c:Nat}{bs:List UInt8}(ho:W.c B 5 1 (.a A n c) n (bs.map bv))(hB0:w0.a.j<=B)(hb:aL w0.a.j w0 W)(hx:∀p∈L,dJ W p.1 p.2/\p.1<B):Ly w0.a.j L w0 W (.a A n c) bs:=by
 have hn:n=bs.a:=by have:=ho.1;rw[bQ]at this;omega
 subst hn;have hk:∀k,(bC A bs.a c).f=some k->B<=k:=fun k hk=>(ho.lt k hk).1
 refine⟨⟨iG ho hB0,⟨hb.os,hb.tape,hb.output,hb.j,fun i hi _=>hb.block i hi⟩,?_,av _,fun k h=>by cases h⟩,fun p hp=>⟨(hx p hp).1,fun e=>by have:=hk _ e;have:=(hx p hp).2;omega⟩⟩;cases A with
 | none=>exact .a rfl
 | some a=>exact .b ⟨_,rfl,aO hB0 (hk _ rfl)⟩
theorem Ly.toE{L:List (Nat×Array aB)}{w0 W:ak}{A:Option aS}{n c:Nat}{bs:List UInt8}(h:Ly w0.a.j L w0 W (.a A n c) bs):adX w0 bs (.a (.J #[.a A n c,.b .a 0])) W:=by
 obtain⟨A9,c9,e9⟩:=h.o.Cu;injection e9 with e1 e2 e3
 subst e2;exact⟨A,_,c,rfl,rfl,h.o.vS,h.o.R⟩
theorem vg(n:Nat)(h:n<=65535):iN n 2 true=pY n:=by
 simp only[iN,wm,pY,if_true,dQ];rw[show dX 2=[0,1]from rfl];simp[Im];apply UInt8.toNat_inj.1;simp
theorem adY{α β:Type}(f:α->List β)(d:α)(l:List α)(i:Nat)(hi:i<l.a):(l.d (i+1)).h f=(l.d i).h f++f (l.b i d):=by
 rw[<-oD d l i hi];simp
theorem ahV{W:ak}{q o:Nat}{c:Array aB}(h:dJ W q c)(v:Vector UInt8 6)(hc:c.m o (o+6)=AO v):gq W W.a.j (some ⟨q,o,none⟩) 6 v.a:=by
 have:=gq.Ny (w:=W) (B:=W.a.j) (b:=q) (o:=o) (l:=v.a) h.lt (fun j hj=>by
  rw[h.K.1];have h2:(c.m o (o+6))[j]? = (AO v)[j]?:=by rw[hc]
  have hj6:j<6:=by simpa using hj
  have hs:(AO v)[j]? = some (bv (v.a.b j 0)):=by simp[AO,au,hj6]
  rw[hs,cu]at h2;split at h2
  ·exact h2
  ·cases h2)
 simpa using this
theorem adZ(xd xr:Vector UInt8 6)(TA:Option aS)(tn ad1:Nat)(xty xat:Int)(fG:List Tg)(hf:∀t∈fG,abA t)(hi:∀t∈fG,tZ t.oq=true)(hn:fG.a<=2)(t0:0<=xty)(t1:xty<=65535)(ht:tZ xty=false)(w:ak)(hT:gX Tg.ay 2 w w.a.j TA tn fG):aQ ah 185 #[.d (Lc.mk xd xr TA tn ad1 xty xat).ay] w (adX w (qv xd xr fG xty)):=by
 have Z:=ab ((Bx.start w).new (Lc.mk xd xr TA tn ad1 xty xat).ay 108);have HT:=ab hT;have HN:=ab hT.1;have hn2:tn<=2:=by have:=hT.1;omega
 have q2:decide ((2:Int)<tn)=false:=by simp;omega
 have CI:=ab (fun k W (h:0<=k/\k<=65535)=>show aQ ah 256 #[.b .a k] W (fun e W'=>e=.a (.e true)/\W=W')by
  have:=agn k W;rwa [decide_eq_true h.1,decide_eq_true h.2]at this)
 have CX:=ab (fun W=>CI.i xty W ⟨t0,t1⟩);have CT:=ab (fun W=>by have:=abm (W:=W) xty;rwa [ht]at this:∀W,aQ ah 174 #[.b .a xty] W fun e W'=>e=.a (.e false)/\W=W');have HF:=ab hf;have HI:=ab hi;have HTY:=ab ht;clear hT hf hi ht;go_enter Tryz.func185,Tryz.ntmps185;go_upto_region 1 with fail
 generalize w.alloc (.D (Lc.mk xd xr TA tn ad1 xty xat).ay 108)=w1 at *;obtain⟨y1,y2,y3,y4⟩:=Z.i.X.K;go_upto_region 3 with(first|(go_at_call 256;(with_reducible refine(CX.i _).g ?_);rintro e w4 ⟨rfl,rfl⟩)|(go_at_call 174;(with_reducible refine(CT.i _).g ?_);rintro e w4 ⟨rfl,rfl⟩))
 have CC:=ab (BI [⟨some ⟨w.a.j,0,none⟩,6,6⟩,⟨some ⟨w.a.j,6,none⟩,6,6⟩] [xd.a,xr.a] 56 2 w1.drew rfl (.cons (ahV Z.i.drew.X xd (Lc.I8 _)) (.cons (ahV Z.i.drew.X xr (Lc.I7 _)) .nil)) (by omega) (by simp[yI]));simp only[show w1.drew.a.j=w1.a.j from rfl,show∀(w:ak) ob,w.drew.alloc ob=(w.alloc ob).drew from fun _ _=>rfl]at CC;obtain⟨bs,hbs⟩:=dw (xd.a++xr.a);have HBS:=ab (show qv xd xr fG xty=bs++fG.h zW++pY xty by rw[hbs];rfl);have Gn:=ab (show bs.a=12 by rw[hbs];simp);rw[show [xd.a,xr.a].flatten=bs by rw[hbs];simp]at CC;clear hbs y1 y2 y3 y4 q2;go_region_held_law (fun _=>True) (trivial) (first|(go_at_call 181;(with_reducible refine CC.i.g ?_);rintro e w2 ⟨A2,m2,c2,rfl,hm2,_,ho2,hb2⟩;have O2:=ab ho2;have B2:=ab (Nh hb2);clear hm2 ho2 hb2));have S0:=ab (Ly.am2 (L:=[(w.a.j,(Lc.mk xd xr TA tn ad1 xty xat).ay)]) (w0:=w) O2.i (ql Z.i.R.j) (Z.i.R.trans (B2.i.g Z.i.R.j)) (fun p hp=>by rw[fD.1 hp];exact⟨Z.i.X.go B2.i,Nat.lt_succ_of_lt Z.i.X.lt⟩));have fg:=fun(w':ak) (h:dJ w' w.a.j (Lc.mk xd xr TA tn ad1 xty xat).ay)=>show w'.b ⟨w.a.j,12,none⟩=some (.a TA tn ad1)from(h.K.1 12).trans (Lc.abj _)
 have FG:=ab fg;have fy:=fun(w':ak) (h:dJ w' w.a.j (Lc.mk xd xr TA tn ad1 xty xat).ay)=>show w'.b ⟨w.a.j,13,none⟩=some (.b .a xty)from(h.K.1 13).trans (Lc.DW _)
 have FY:=ab fy;clear fg fy;have f12:=FG.i _ S0.i.X;have HTL:=ab (EO fG);go_wp2;clear f12;go_loopw [4,31] (fun s4 s31 wr=>∃(i:Nat)(A:Option aS)(m c:Nat),i<=tn/\s31=.b .a i/\s4=.a A m c/\Ly w.a.j [(w.a.j,(Lc.mk xd xr TA tn ad1 xty xat).ay)] w wr (.a A m c) (bs++(fG.d i).h zW)) (fun _ s31 _=>tn-(intOf s31).e)
 case atStart=>exact⟨0,_,_,_,by omega,rfl,rfl,by simpa using S0.i⟩
 case round=>
  obtain⟨i,A,m,c,hin,rfl,rfl,h⟩:=hrel;have HO:=ab h;clear h;have HL1:=ab (show((fG.d i).h zW).a<=8 by rw[EO,bJ];have:=HN.i;omega);by_cases hlt:i<tn
  ·have hi:(i:Int)<tn:=by omega
   obtain⟨b,o,hA,hbb,hh,hcl⟩:=gX.at_ Tg.G Sg ((HT.i.S HO.i.o.R).lD HO.i.o.R.j) hlt;have hm:=Em Sg fG i (by rw[HN.i];exact hlt);have DR:=ab (adY zW Sg fG i (by rw[HN.i];exact hlt));have ok1:=HF.i _ hm;have ok2:=HI.i _ hm;obtain⟨t,htt⟩:=dw (fG.b i Sg);rw[<-htt]at hcl ok1 ok2 DR;clear htt hm;obtain⟨⟨k0,k1⟩,k2,k3⟩:=ok1;obtain⟨ty,hty⟩:∃n:Nat,t.oq=(n:Int):=⟨t.oq.e,by omega⟩
   obtain⟨tc,htc⟩:∃n:Nat,t.tci=(n:Int):=⟨t.tci.e,by omega⟩
   have CTT:=ab (show∀W,aQ ah 174 #[.b .a t.oq] W fun e W'=>e=.a (.e true)/\W=W' from fun W=>by have:=abm (W:=W) t.oq;rwa [ok2]at this);have CII:=ab (fun W=>CI.i t.tci W ⟨k2,k3⟩);have HTB:=ab (show zW t=pY ty++pY tc by unfold zW;rw[hty,htc]);have cs:jm.wrap t.oq=(ty:Int):=by rw[jQ];omega
   have cd:jm.wrap t.tci=(tc:Int):=by rw[jQ];omega
   have PS:=ab (fun W=>wK ty (by omega) W);have PD:=ab (fun W=>wK tc (by omega) W);rw[vg ty (by omega)]at PS;rw[vg tc (by omega)]at PD;have HZ:=ab hty;have HZ2:=ab htc;subst hA;clear hty htc ok2 k0 k1 k2 k3;have L1:=ab (HO.i.new t.ay 268);go_upto_region 7 with fail
   clear hh hcl;generalize wr.alloc (.D t.ay 268)=w5 at L1 ⊢;generalize wr.a.j=y6 at L1 ⊢;have e1:=(L1.i.X.K.1 0).trans (Tg.DW t);have e2:=(L1.i.X.K.1 1).trans (Tg.amG t);go_upto_region 9 with(first|(go_at_call 174;(with_reducible refine(CTT.i _).g ?_);rintro e w6 ⟨rfl,rfl⟩)|(go_at_call 256;(with_reducible refine(CII.i _).g ?_);rintro e w6 ⟨rfl,rfl⟩))
   go_upto_region 10 with(first|(go_at_call 184;(with_reducible refine(PS.i _).g ?_);rintro e w6 ⟨A6,rfl,ho,hb⟩;have R6:=ab (Dn ho (aH _ _));have L2:=ab (L1.i.go hb);have HLN:=ab (show(bs++(fG.d i).h zW).a+2<=1000000000 by rw[aR];have:=HL1.i;have:=Gn.i;omega);clear ho hb)|(at_builtin;refine kC rfl (.a 45) (.a 49) rfl rfl L2.i.o rfl R6.i HLN.i ?_;intro A7 n7 c7 w7 h2 h3;have L3:=ab (L2.i.step h3);clear h2 h3))
   have e3:=(L3.i.X.K.1 1).trans (Tg.amG t);have auG:=ab (show(bs++(fG.d i).h zW++pY ty).a+2<=1000000000 by rw[aR,aR];have:=HL1.i;have:=Gn.i;have:(pY ty).a=2:=rfl;omega);go_wp2_with (first|(go_at_call 184;(with_reducible refine(PD.i _).g ?_);rintro e w8 ⟨A8,rfl,ho,hb⟩;have R8:=ab (Dn ho (aH _ _));have L4:=ab (L3.i.go hb);clear ho hb)|(at_builtin;refine kC rfl (.a 51) (.a 55) rfl rfl L4.i.o rfl R8.i auG.i ?_;intro A9 n9 c9 w9 h2 h3;have L5:=ab (L4.i.step h3);clear h2 h3));go_roundw
   case rel=>exact⟨i+1,A9,n9,c9,by omega,by go_num,rfl,by have:=L5.i.VH;rw[DR.i,HTB.i,<-dB,<-dB];exact this⟩
   case measure=>simp[intOf]<;>omega
  ·have hge:¬(i:Int)<tn:=by omega
   have HFU:=ab (show(fG.d i).h zW=fG.h zW by rw[aK (by rw[HN.i];omega)]);obtain⟨ty,hty⟩:∃n:Nat,xty=(n:Int):=⟨xty.e,by omega⟩
   subst hty;have cs:jm.wrap (ty:Int)=(ty:Int):=by rw[jQ];omega
   have PS:=ab (fun W=>wK ty (by omega) W);rw[vg ty (by omega)]at PS;have e3:=FY.i _ HO.i.X;have auG:=ab (show(bs++(fG.d i).h zW).a+2<=1000000000 by rw[aR];have:=HL1.i;have:=Gn.i;omega);go_wp2_with (first|(go_at_call 184;(with_reducible refine(PS.i _).g ?_);rintro e w8 ⟨A8,rfl,ho,hb⟩;have R8:=ab (Dn ho (aH _ _));have L4:=ab (HO.i.go hb);clear ho hb)|(at_builtin;refine kC rfl (.a 58) (.a 62) rfl rfl L4.i.o rfl R8.i auG.i ?_;intro A9 n9 c9 w9 h2 h3;have L5:=ab (L4.i.step h3);clear h2 h3));go_ret2;rw[HBS.i,<-HFU.i];exact L5.i.toE
theorem ad3(x:Lc)(fG:List Tg)(hf:∀t∈fG,abA t)(hi:∀t∈fG,tZ t.oq=true)(hn:fG.a<=2)(t0:0<=x.oq)(t1:x.oq<=65535)(ht:tZ x.oq=false)(w:ak)(hT:gX Tg.ay 2 w w.a.j x.VQ x.EH fG):aQ ah 185 #[.d x.ay] w (adX w (qv x.Y x.h fG x.oq)):=
 adZ x.Y x.h x.VQ x.EH x.ahN x.oq x.at_ fG hf hi hn t0 t1 ht w hT
end
section
attribute [local go_sem high] iT jF
theorem ayH(w:ak)(c:Array aB)(t:bM)(l:List UInt8)(h:c.a=l.map bv):gq (w.alloc (.D c t)) (w.a.j+1) (some ⟨w.a.j,0,none⟩) l.a l:=by
 have:=gq.Ny (w:=w.alloc (.D c t)) (B:=w.a.j+1) (b:=w.a.j) (o:=0) (l:=l) (mG _) (fun j hj=>by
  rw[bl,mQ w c t j,<-dD,h];simp[au,hj])
 exact this
theorem Ma{W:ak}{q o:Nat}{c:Array aB}(h:dJ W q c)(a:fu)(hc:c.m o (o+17)=a.ay):gq W W.a.j (some ⟨q,o+1,none⟩) 16 a.b.a:=by
 have:=gq.Ny (w:=W) (B:=W.a.j) (b:=q) (o:=o+1) (l:=a.b.a) h.lt (fun j hj=>by
  have hj6:j<16:=by simpa using hj
  rw[h.K.1,show o+1+j=o+(j+1)by omega];have h2:(c.m o (o+17))[j+1]? = a.ay[j+1]?:=by rw[hc]
  rw[fu.Eo a j hj6,cu]at h2;split at h2
  ·exact h2
  ·cases h2)
 simpa using this
theorem adX.of{w W:ak}{A:Option aS}{n c:Nat}{bs:List UInt8}{B:Nat}(hn:n=bs.a)(ho:W.c B 5 1 (.a A n c) n (bs.map bv))(hB:w.a.j<=B)(hb:aL w.a.j w W):adX w bs (.a (.J #[.a A n c,.b .a 0])) W:=⟨A,n,c,rfl,hn,iG ho hB,hb⟩
theorem Wr(x:Sx)(n:Nat)(hn:n<=65535)(hh:x.head=40)(ht:x.dz=40+n)(p0:0<=x.aP)(p1:x.aP<=255)(pe:zM x.aP=false)(h0:0<=x.Hu)(h1:x.Hu<=255)(hf:x.oG=false)(he:x.Hw=0)(hs:x.h.h=true)(hd:x.Y.h=true)(w:ak):aQ ah 270 #[.d x.ay] w (adX w (wU x)):=by
 have Z:=ab ((Bx.start w).new x.ay 189);have FA:=ab (fun(w':ak) (h:dJ w' w.a.j x.ay)=>show w'.b ⟨w.a.j,0,none⟩=some (.b .a 40)/\w'.b ⟨w.a.j,1,none⟩=some (.b .a (40+n))/\w'.b ⟨w.a.j,2,none⟩=some (.b .a x.Hu)/\w'.b ⟨w.a.j,3,none⟩=some (.e false)/\w'.b ⟨w.a.j,4,none⟩=some (.b .a 0)/\w'.b ⟨w.a.j,5,none⟩=some (.b .a x.aP)/\w'.b ⟨w.a.j,6,none⟩=some (.e true)/\w'.b ⟨w.a.j,23,none⟩=some (.e true)by
  have f:=h.K.1;refine⟨(f 0).trans ((Sx.J4 x).trans (by rw[hh])),(f 1).trans ((Sx.yj x).trans (by rw[ht])),(f 2).trans (Sx.at1 x),(f 3).trans ((Sx.Tv x).trans (by rw[hf])),(f 4).trans ((Sx.ap1 x).trans (by rw[he])),(f 5).trans (Sx.BR x),(f 6).trans ?_,(f 23).trans ?_⟩
  ·have:=Sx.I7 x
   have h2:(x.ay.m 6 23)[0]? = x.h.ay[0]?:=by rw[this]
   rw[fu.pW,hs,cu,if_pos (by rw[Sx.G];omega)]at h2;exact h2
  ·have:=Sx.I8 x
   have h2:(x.ay.m 23 40)[0]? = x.Y.ay[0]?:=by rw[this]
   rw[fu.pW,hd,cu,if_pos (by rw[Sx.G];omega)]at h2;exact h2)
 have HT:=ab (show wU x=[96,0,0,0]++pY n++[aJ x.aP.e,aJ x.Hu.e]++x.h.b.a++x.Y.b.a by
  unfold wU pY;rw[ht,show((40:Int)+n-40).e=n by omega];rfl)
 have CI:=ab (fun k W (h:0<=k/\k<=255)=>show aQ ah 315 #[.b .a k] W (fun e W'=>e=.a (.e true)/\W=W')by
  have:=ajK k W;rwa [decide_eq_true h.1,decide_eq_true h.2]at this)
 have C1:=ab (fun W=>CI.i x.Hu W ⟨h0,h1⟩);have C2:=ab (fun W=>CI.i x.aP W ⟨p0,p1⟩);have CE:=ab (fun W=>by have:=VU x.aP W;rwa [pe]at this:∀W,aQ ah 250 #[.b .a x.aP] W fun e W'=>e=.a (.e false)/\aL W.a.j W W');have q1:decide ((40:Int)+n<40)=false:=by simp;omega
 have q2:decide ((65575:Int)<40+(n:Int))=false:=by simp;omega
 have q3:=jS (40+(n:Int)-40) (by omega);have q4:(40:Int)+n-40=n:=by omega
 rw[q4]at q3;have q5:jm.wrap (n:Int)=n:=by rw[jQ];omega
 have q6:aX.wrap x.aP=x.aP:=by rw[Hg];omega
 have q7:aX.wrap x.Hu=x.Hu:=by rw[Hg];omega
 have PS:=ab (fun W=>wK n hn W);rw[vg n hn]at PS;have HP:=ab (show #[aI .b x.aP,.b .b x.Hu].a=[aJ x.aP.e,aJ x.Hu.e].map bv by
  simp only[kL,pJ,bv];rw[yU x.aP.e (by omega),yU x.Hu.e (by omega),kH p0,kH h0])
 have E1:=ab (Sx.I7 x);have E2:=ab (Sx.I8 x);clear hh ht pe hf he hs hd p0 p1 h0 h1;go_enter Tryz.func270,Tryz.ntmps270;go_upto_region 1 with fail
 generalize w.alloc (.D x.ay 189)=w1 at *;obtain⟨f0,f1,f2,f3,f4,f5,f6,f7⟩:=FA.i _ Z.i.X;go_upto_region 3 with(first|(go_at_call 315;(with_reducible refine(C1.i _).g ?_);rintro e w4 ⟨rfl,rfl⟩)|(go_at_call 315;(with_reducible refine(C2.i _).g ?_);rintro e w4 ⟨rfl,rfl⟩)|(go_at_call 250;(with_reducible refine(CE.i _).g ?_);rintro e w5 ⟨rfl,hb⟩;have Z5:=ab (Z.i.go hb);clear f0 f1 f2 f3 f4 f5 f6 f7;obtain⟨f0,f1,f2,f3,f4,f5,f6,f7⟩:=FA.i _ Z5.i.X;clear hb))
 clear f0 f3 f4 f6 f7 f1 f2 f5 q1 q2;have L0:=ab ((Ly.amY w w5 Z5.i.R #[.b .b 96,.b .b 0,.b .b 0,.b .b 0] [96,0,0,0] 4 rfl (by omega) rfl).add (q:=w.a.j) (c:=x.ay) (Z5.i.X.alloc _) (by simp[jV];exact uF Z5.i.X.lt));go_upto_region 4 with fail
 generalize w5.alloc (.D #[.b .b 96,.b .b 0,.b .b 0,.b .b 0] 5)=w6 at L0 ⊢;generalize bC (some ⟨w5.a.j,0,none⟩) 4 4=v6 at L0 ⊢;have f1:=(FA.i _ L0.i.X).2.1;go_upto_region 5 with(first|(go_at_call 184;(with_reducible refine(PS.i _).g ?_);rintro e w7 ⟨A7,rfl,ho,hb⟩;have R7:=ab (Dn ho (aH _ _));have L1:=ab (L0.i.go hb);clear ho hb)|(at_builtin;refine kC rfl (.a 57) (.a 62) rfl rfl L1.i.o rfl R7.i (show 4+2<=1000000000 by decide) ?_;intro A8 n8 c8 w8 h2 h3;have L2:=ab (L1.i.step h3);clear h2 h3))
 clear f1 q3 q5 q4;obtain⟨_,_,f2,_,_,f5,_,_⟩:=FA.i _ L2.i.X;have L3:=ab (L2.i.alloc (.D #[.b .b x.aP,.b .b x.Hu] 5));have R8:=ab (ayH w8 #[.b .b x.aP,.b .b x.Hu] 5 _ HP.i);go_upto_region 6 with(first|(at_builtin;refine kC rfl (.a 64) (.a 71) rfl rfl L3.i.o rfl R8.i (show 4+2+2<=1000000000 by decide) ?_;intro A9 n9 c9 w9 h2 h3;have L4:=ab (L3.i.step h3);clear h2 h3))
 clear f2 f5 q6 q7;obtain⟨bs,hbs⟩:=dw ([96,0,0,0]++pY n++[aJ x.aP.e,aJ x.Hu.e]);have Gn:=ab (show bs.a=8 by rw[hbs];rfl);rw[<-hbs]at L4 HT;clear hbs;obtain⟨A10,c10,e10⟩:=L4.i.o.Cu;injection e10 with e11 e12 e13
 subst e11 e12 e13;have BX:=ab L4.i.X.drew;have RB:=ab (gq.gU L4.i.o.vS);have CC:=ab (BI [⟨A9,bs.a,c9⟩,⟨some ⟨w.a.j,7,none⟩,16,16⟩,⟨some ⟨w.a.j,24,none⟩,16,16⟩] [bs,x.h.b.a,x.Y.b.a] 56 3 w9.drew rfl (.cons RB.i (.cons (Ma (o:=6) BX.i x.h E1.i) (.cons (Ma (o:=23) BX.i x.Y E2.i) .nil))) (by omega) (by simp[yI,Gn.i]));simp only[show w9.drew.a.j=w9.a.j from rfl,show∀(w:ak) ob,w.drew.alloc ob=(w.alloc ob).drew from fun _ _=>rfl]at CC;rw[show [bs,x.h.b.a,x.Y.b.a].flatten=wU x by rw[HT.i];simp]at CC;go_region_held_law (fun _=>True) (trivial) (first|(go_at_call 181;(with_reducible refine CC.i.g ?_);rintro e w2 ⟨A2,m2,c2,rfl,hm2,_,ho2,hb2⟩;have O2:=ab ho2;have N2:=ab hm2;have B2:=ab (Nh hb2);clear hm2 ho2 hb2));go_wp2;go_ret2;exact adX.of N2.i O2.i (ql L4.i.o.R.j) (L4.i.o.R.trans (B2.i.g L4.i.o.R.j))
end
theorem Mc{w:ak}{ops:Array iU}{rest:List iU}{o:iU}{a:qQ}{Q:zR->qQ->ak->Prop}(hgd:o.guard=none)(d s:pI)
 (ho:o.op=.call {callee:=.builtin .copy,args:=#[d,s],argTypes:=#[56,56]}) {B:Nat} {L:List (Nat×Array aB)} {w0:ak} {A:Option aS} {n c:Nat} {bs:List UInt8} (H:Ly B L w0 w (.a A n c) bs) (z m:Nat)
 {dp:Option aS} {dLen dCap:Nat} (hd:a.eval d=.a dp dLen dCap) {sp:Option aS} {sLen sCap:Nat} (hs:a.eval s=.a sp sLen sCap) {C:Nat} {ys:List UInt8} (hr:gq w C sp sLen ys) (hm:m=qg sLen dLen)
 (hp:0<m->∃g,A=some ⟨g,0,none⟩/\dp=some ⟨g,z,none⟩) (hz:z+m<=bs.a)
 (h:∀w',Ly B L w0 w' (.a A n c) (r9 bs z (ys.d m))->w.d w' (jV (.a A n c))->wpList ah ops Q rest (a.put o.Y (goInt m)) w'):wpList ah ops Q (o::rest) a w:=by
 obtain⟨W',hrun,hL,hG⟩:=H.copy z hr m dp dLen dCap sCap hm hp hz o.type 56 56 dx;refine sS hgd fun K hK=>?_
 unfold ni;simp[execOp,ho,resolve,invoke,builtin,hd,hs,hrun,iD];exact hK _ _ (h W' hL hG)
theorem NR{w:ak}{ops:Array iU}{o:iU}{a:qQ}{K:qQ->ak->Prop}{Q:zR->qQ->ak->Prop}{E:Prop}(hgd:o.guard=none)(d s:pI)
 (ho:o.op=.call {callee:=.builtin .copy,args:=#[d,s],argTypes:=#[56,56]}) {B:Nat} {L:List (Nat×Array aB)} {w0:ak} (A:Option aS) (n c:Nat) {bs:List UInt8} (H:Ly B L w0 w (.a A n c) bs) (z m:Nat)
 (dp:Option aS) (dLen dCap:Nat) (hd:a.eval d=.a dp dLen dCap) (sp:Option aS) (sLen sCap:Nat) (hs:a.eval s=.a sp sLen sCap) {C:Nat} {ys:List UInt8} (hr:gq w C sp sLen ys) (hm:m=qg sLen dLen)
 (hp:0<m->∃g,A=some ⟨g,0,none⟩/\dp=some ⟨g,z,none⟩) (hz:z+m<=bs.a)
 (h:∀w',Ly B L w0 w' (.a A n c) (r9 bs z (ys.d m))->w.d w' (jV (.a A n c))->K (a.put o.Y (goInt m)) w'):if fC o (yielded ops a.tmps)=true then ni ah o a w K Q else E:=by
 have hw:fC o (yielded ops a.tmps)=true:=by simp[fC,hgd]
 rw[if_pos hw];obtain⟨W',hrun,hL,hG⟩:=H.copy z hr m dp dLen dCap sCap hm hp hz o.type 56 56 dx;unfold ni;simp[execOp,ho,resolve,invoke,builtin,hd,hs,hrun,iD];exact h W' hL hG
theorem Ly.h{B:Nat}{L:List (Nat×Array aB)}{w0 w:ak}{A:Option aS}{n c:Nat}{bs:List UInt8}(H:Ly B L w0 w (.a A n c) bs)(h:0<bs.a):∃g,A=some ⟨g,0,none⟩/\n=bs.a/\n<=c/\w0.a.j<=g/\∀p∈L,p.1≠g:=by
 rcases H.o.vS.2 with⟨e,h0⟩|⟨g,cap,cur,e,hB,_,hn,_⟩
 ·omega
 ·injection e with e1 e2 e3
  subst e1 e2 e3;refine⟨g,rfl,rfl,hn,?_,fun p hp e=>(H.G p hp).2 (by rw[e];rfl)⟩;rcases H.o.sP with e|⟨k',e,e2⟩
  ·cases e
  ·injection e with e;subst e;exact e2
section
attribute [local go_sem high] iT jF
def EP(l:List UInt8)(d s:Vector UInt8 6):List UInt8:=(d.a++s.a++l.f 12).d l.a
theorem ayI(l:List UInt8)(d s:Vector UInt8 6)(h:l.a<=6):r9 l 0 (d.a.d l.a)=EP l d s:=by
 have e:(d.a.d l.a).a=l.a:=by simp;omega
 unfold r9 EP;rw[jX,dG,bl,e,List.drop_length,uL,dB,List.take_append_of_le_length (by simp;omega)]
theorem ayJ(l:List UInt8)(d s:Vector UInt8 6)(h:6<l.a):r9 (r9 l 0 (d.a.d 6)) 6 (s.a.d (min 6 (l.a-6)))=EP l d s:=by
 have hd:d.a.d 6=d.a:=aK (by simp);have hdl:d.a.a=6:=by simp
 have hsl:s.a.a=6:=by simp
 rw[hd];unfold r9 EP;simp only[jX,dG,bl,hdl];rw[List.take_left' hdl,<-La];have e2:(d.a++l.f 6).f 6=l.f 6:=List.drop_left' hdl;have e3:(s.a.d (min 6 (l.a-6))).a=min 6 (l.a-6):=by simp
 rw[e2,e3,La,dB d.a s.a,List.take_append,hdl];rw[aK (by omega:d.a.a<=l.a),dB];congr 1;rw[List.take_append,hsl];by_cases h2:l.a<=12
 ·rw[show min 6 (l.a-6)=l.a-6 by omega,iR (by omega),iR (by omega:l.a<=12)]
  simp
 ·rw[show min 6 (l.a-6)=6 by omega,aK (by omega:s.a.a<=6),aK (by omega:s.a.a<=l.a-6)]
  congr 1;rw[aK (by simp;omega)]
theorem Ly.toN{L:List (Nat×Array aB)}{w0 W:ak}{A:Option aS}{n c:Nat}{bs:List UInt8}(h:Ly w0.a.j L w0 W (.a A n c) bs):Kv w0 bs (.a (.a A n c)) W:=by
 obtain⟨A9,c9,e9⟩:=h.o.Cu;injection e9 with e1 e2 e3
 subst e2;exact⟨A,_,c,rfl,rfl,h.o.vS,h.o.R⟩
theorem abC(w:ak)(A:Option aS)(n c:Nat)(l:List UInt8)(d s:Vector UInt8 6)(hn:n<=1000000)(hr:gq w w.a.j A n l):aQ ah 206 #[.a A n c,.d (AO d),.d (AO s)] w (Kv w (EP l d s)):=by
 have h0:=((Bx.start w).new (AO d) 25).new (AO s) 25;simp only[sZ]at h0;have Z:=ab h0;have CC:=ab (ai9 l A n c _ (h0.NA hr) (by omega));have hl:=ab hr.len;clear h0 hr;go_enter Tryz.func206,Tryz.ntmps206;go_upto_region 1 with fail
 generalize(w.alloc (.D (AO d) 25)).alloc (.D (AO s) 25)=w1 at Z CC ⊢;go_upto_region 2 with(go_at_call 268;(with_reducible refine CC.i.g ?_);rintro e w2 ⟨A2,c2,rfl,ho,hb⟩;have L1:=ab (Ly.am2 (w0:=w) (L:=[(w.a.j+1,AO s),(w.a.j,AO d)]) ho Z.i.R.j (Z.i.R.trans (hb.g Z.i.R.j)) (fun p hp=>⟨((Z.i.go hb).2 p hp).2,(Z.i.2 p hp).2.lt⟩));clear ho hb)
 have RD:=ab (ahV (o:=0) L1.i.b1 d (by rw[<-gD d];simp));by_cases h6:n<=6
 ·have hm:n=qg 6 n:=by show n=min 6 n;omega
  have HM:=ab hm;have q:decide ((6:Int)<n)=false:=by simp;omega
  have HP:=ab (show 0<n->∃g,A2=some ⟨g,0,none⟩/\A2=some ⟨g,0,none⟩from fun h=>by
   obtain⟨g,hg,_⟩:=L1.i.h (by rw[hl.i];exact h);exact⟨g,hg,hg⟩)
  have HZ:=ab (show 0+n<=l.a by rw[hl.i];omega);clear hm;go_wp2_with (first|(at_builtin;fail)|(refine Mc rfl (.a 10) (.a 11) rfl L1.i 0 n rfl rfl RD.i HM.i HP.i HZ.i ?_;intro w3 h3 h4;have L2:=ab h3;clear h3 h4));go_ret;have:=L2.i.toN;have e:r9 l 0 (d.a.d n)=EP l d s:=by rw[<-ayI l d s (by rw[hl.i];exact h6),hl.i]
  rw[e]at this;exact this
 ·have q:decide ((6:Int)<n)=true:=by simp;omega
  obtain⟨g,hg1,hg2,hg3,hg4,hg5⟩:=L1.i.h (by rw[hl.i];omega);subst hg1;clear hg2;have HP:=ab (show 0<6->∃g',(some ⟨g,0,none⟩:Option aS)=some ⟨g',0,none⟩/\(some ⟨g,0,none⟩:Option aS)=some ⟨g',0,none⟩from fun h=>⟨g,rfl,rfl⟩);have HM:=ab (show 6=qg 6 n by show 6=min 6 n;omega);have HZ:=ab (show 0+6<=l.a by rw[hl.i];omega);have hn6:(6:Int)<=n:=by omega
  go_upto_region 4 with(first|(refine Mc rfl (.a 10) (.a 11) rfl L1.i 0 6 rfl rfl RD.i HM.i HP.i HZ.i ?_;intro w3 h3 h4;have L2:=ab h3;clear h3 h4))
  have aJG:(6:Int)<=c2:=by omega
  have L3:=ab L2.i.drew;have RS:=ab (ahV (o:=0) L3.i.X s (by rw[<-gD s];simp));have HPL:=ab (show(r9 l 0 (d.a.d 6)).a=n by rw[EM (by simp;rw[hl.i];omega),hl.i]);obtain⟨m2,hm2⟩:∃m,m=qg 6 (n-6):=⟨_,rfl⟩
  have HM2:=ab hm2;have hm3:m2=min 6 (n-6):=hm2;have HP2:=ab (show 0<m2->∃g',(some ⟨g,0,none⟩:Option aS)=some ⟨g',0,none⟩/\vL (some ⟨g,0,none⟩) 6 c2 1=some ⟨g',6,none⟩from fun h=>⟨g,rfl,PY (n:=0) (by omega)⟩);have HZ2:=ab (show 6+m2<=(r9 l 0 (d.a.d 6)).a by rw[HPL.i];omega);have HT:=ab (show r9 (r9 l 0 (d.a.d 6)) 6 (s.a.d m2)=EP l d s by rw[hm3,<-hl.i];exact ayJ l d s (by rw[hl.i];omega));clear hm2 hm3 h6;go_region_held_law (fun _=>True) (trivial)
   (first|(refine NR (o:=⟨some 19,_,_,_,_,_⟩) rfl (.a 17) (.a 18) rfl (some ⟨g,0,none⟩) n c2 L3.i 6 m2 (vL (some ⟨g,0,none⟩) 6 c2 1) (n-6) (c2-6) rfl (some ⟨w.a.j+1,0,none⟩) 6 6 rfl RS.i HM2.i HP2.i HZ2.i ?_;intro w4 h3 h4;have L4:=ab h3;clear h3 h4))
  go_wp2;go_ret;have:=L4.i.toN;rw[HT.i]at this;exact this
end
structure Ac where
 kind:Int
 frame:List UInt8
 op:qM
 E:List UInt8
 h:Bool
structure Ou where
 err:Int
 iW:Int
 uM:Bool
 Y:Int
 E:List UInt8
 i:List UInt8
deriving DecidableEq
def Gq:Ou:=⟨0,0,false,0,[],[]⟩
structure En where
 key:Vector UInt8 16
 c:Cn
 vs:List Vp
def uf(e:En)(s:pG):Tl:=uz e.key e.c.j.e (kr (j6 s.G) s.qU)
def ad4(e:En)(t:Tu):Nat:=xK e.key (Lj t)
def NT(s:pG)(t:Tu):Option (List UInt8):=match lX s.h t with
 | some f=>if rE s.qU f.E && !qZ (j6 s.G) f.E then some f.E else none
 | none=>none
def Dv(e:En)(s:pG)(t:Tu):Option (Bk×Bool):=match NT s t with
 | some n=>some (oM s.qU n,true)
 | none=>(Dk (uf e s) (ad4 e t)).map fun n=>(oM s.qU n,false)
def Jh(e:En)(v:Vp)(b:Bk)(t:Tu)(l:List UInt8):Int×List UInt8:=
 if v.VL then
  if(GV l (if b.h.h then e.c.h else e.c.Cv) b.h).2=0 then(0,EP (GV l (if b.h.h then e.c.h else e.c.Cv) b.h).1 b.FJ e.c.FJ)else(10,[])
 else if b.h.h=t.Y.h then(0,EP (abz l b.h b.nH true) b.FJ e.c.FJ)else(9,[])
structure Wy where
 iW:Int
 i:List UInt8
 h:Bk
 uM:Bool
def rV(e:En)(s:pG)(l:List UInt8):Wy:=
 if(qV l).kind=0 then
  match xw e.vs (qV l).J.Y (qV l).J.aP (qV l).J.jR with
  | some i=>match Dv e s (qV l).J with
    | some (b,uM)=>
      if(Jh e (e.vs.b i nM) b (qV l).J l).1=0 then⟨0,(Jh e (e.vs.b i nM) b (qV l).J l).2,b,uM⟩
      else⟨(Jh e (e.vs.b i nM) b (qV l).J l).1,[],jk,false⟩
    | none=>⟨8,[],jk,false⟩
  | none=>⟨7,[],jk,false⟩
 else⟨(qV l).kind,[],jk,false⟩
def upC(v:Vector Int 11)(r:Int):Vector Int 11:=Vector.ofFn fun i=>if(i:Int)=r then v[i]+1 else v[i]
def Ws(s:pG)(p:Pk):Int:=match lX s.h p.J with
 | some f=>acW f.vT p.uX.e
 | none=>UC p.J.aP p.uX.e
def QO(s:pG)(p:Pk)(n:List UInt8):Fw:=⟨p.J,n,Ws s p,s.gF,s.no+1⟩
def yw(e:En)(s:pG)(l:List UInt8):pG×Ou:=
 if(rV e s l).iW=0 then
  ({s with lW:=upC s.lW 0,no:=s.no+1,h:=BM e.c.Y s.h (QO s (qV l) (rV e s l).h.E)},⟨0,0,(rV e s l).uM,s.Y,(rV e s l).h.E,(rV e s l).i⟩)
 else({s with lW:=upC s.lW (rV e s l).iW},{Gq with iW:=(rV e s l).iW})
def opE(s:pG)(o:qM):pG×Ou:=
 if qm s.Y s.qU o=0 then({s with Y:=doV s.Y s.qU o,qU:=doL s.Y s.qU o,G:=EC s.G ((doL s.Y s.qU o).map (·.E))},{Gq with Y:=doV s.Y s.qU o})
 else(s,{Gq with err:=qm s.Y s.qU o})
def QS(e:En)(s:pG)(n:List UInt8)(well:Bool):pG×Ou:=
 if(Ku s.G n well e.c.ko e.c.fall).2.2=0 then({s with G:=(Ku s.G n well e.c.ko e.c.fall).1},Gq)
 else(s,{Gq with err:=(Ku s.G n well e.c.ko e.c.fall).2.2})
def QT(e:En)(s:pG):pG×Ou:=
 if 1099511627776<=s.gF then(s,{Gq with err:=7})else({s with gF:=s.gF+1,h:=LH (s.gF+1) e.c.kD s.h},Gq)
def wL(e:En)(s:pG)(a:Ac):pG×Ou:=
 if a.kind=1 then yw e s a.frame else if a.kind=2 then opE s a.op else if a.kind=3 then QS e s a.E a.h else if a.kind=4 then QT e s else(s,{Gq with err:=1})
structure mP(M:Int)(e:En)(s:pG):Prop where
 cn:yh e.c e.vs=true
 pl:xW s.Y s.qU=true
 fi:∀x∈s.qU,x.rF
 nm:s.G.map (·.E)=s.qU.map (·.E)
 hl:∀x∈s.G,0<=x.I/\x.I<(if x.down then e.c.ko else e.c.fall)
 fl:vI e.c.Y s.h
 fw:∀f∈s.h,f.seen<=s.gF/\1<=f.no/\f.no<=s.no
 ti:0<=s.gF/\s.gF<=1099511627776
 no:0<=s.no/\s.no<=M
 ct:∀n∈s.lW.a,0<=n/\n<=M
theorem mP.le{M K:Int}{e:En}{s:pG}(h:mP M e s)(hk:M<=K):mP K e s:=
 ⟨h.cn,h.pl,h.fi,h.nm,h.hl,h.fl,h.fw,h.ti,by have:=h.no;omega,fun n hn=>by have:=h.ct n hn;omega⟩
theorem qD{x:Cn}{l:List Vp}(h:yh x l=true):(2<=x.j/\x.j<=65537/\kZ x.j.e=true)/\(1<=x.Y/\x.Y<=4096)/\(1<=x.ko/\x.ko<=100)/\(1<=x.fall/\x.fall<=100):=by
 unfold yh at h;simp only[bf,decide_eq_true_eq]at h;obtain⟨⟨⟨⟨⟨⟨⟨⟨⟨⟨_,_⟩,⟨⟨h1,h2⟩,h3⟩⟩,h4⟩,h5⟩,h6⟩,_⟩,_⟩,_⟩,_⟩,_⟩:=h;exact⟨⟨h1,h2,h3⟩,h4,h5,h6⟩
theorem ahW{v:Vector Int 11}{r:Int}{M:Int}(h:∀n∈v.a,0<=n/\n<=M):∀n∈(upC v r).a,0<=n/\n<=M+1:=by
 intro n hn;have hv:∀(i:Nat)(hi:i<11),0<=v[i]/\v[i]<=M:=fun i hi=>h _ (by rw[Vector.mem_toList_iff];exact Vector.getElem_mem hi)
 rw[Vector.mem_toList_iff,Vector.mem_iff_getElem]at hn;obtain⟨i,hi,rfl⟩:=hn;unfold upC;rw[Vector.getElem_ofFn];have:=hv i hi;simp only[Fin.getElem_fin];split<;>omega
theorem abD{f x:Fw}{l:List Fw}:x∈ins kS f l↔x=f\/x∈l:=by
 rw[(Bv (lt:=kS) f l).mem_iff,bB]
theorem aqn{room:Int}{l:List Fw}{f x:Fw}(h:x∈BM room l f):x=f\/x∈l:=by
 unfold BM at h;split at h
 ·split at h
  ·rcases abD.1 h with h|h
   ·exact .a h
   ·exact .b ((Nn l f.key).subset h)
  ·split at h
   ·rcases abD.1 h with h|h
    ·exact .a h
    ·exact .b (vY h)
   ·exact abD.1 h
 ·exact .b h
theorem ajL{M:Int}{e:En}{s:pG}(h:mP M e s)(l:List UInt8):mP (M+1) e (yw e s l).1:=by
 obtain⟨_,⟨r1,_⟩,_⟩:=qD h.cn;have hno:=h.no;unfold yw;split
 ·refine⟨h.cn,h.pl,h.fi,h.nm,h.hl,h.fl.put r1 _,?_,h.ti,?_,ahW h.ct⟩
  ·intro f hf
   simp only at hf ⊢;rcases aqn hf with rfl|hf
   ·simp only[QO];omega
   ·have:=h.fw f hf;omega
  ·simp only;omega
 ·exact⟨h.cn,h.pl,h.fi,h.nm,h.hl,h.fl,h.fw,h.ti,by simp only;omega,ahW h.ct⟩
theorem Ji:∀{l:List (List UInt8)},l.Pairwise (fun x y=>bR x y=true)->Hr l=l
 | [],_=>rfl
 | x::l,h=>by
   obtain⟨h1,h2⟩:=List.pairwise_cons.1 h;have ih:=Ji h2;unfold Hr at ih ⊢;rw[List.foldr_cons,ih];cases l with
   | nil=>rfl
   | cons y l=>
     have:=h1 y (by simp);simp[Vm,this]
theorem Zo{a b:List UInt8}(h:mD a b<0):bR a b=true:=by
 rw[xV];simpa using h
theorem ajM{l:List Bk}(h:Es l):(l.map (·.E)).Pairwise (fun x y=>bR x y=true):=by
 unfold Es at h;rw[yX];exact h.imp (fun hab=>Zo hab)
theorem agq{l:List Hl}{names:List (List UInt8)}(h:names.Pairwise (fun x y=>bR x y=true)):(EC l names).map (·.E)=names:=by
 unfold EC;rw[Ji h,Ic]
 conv=>rhs;rw[<-List.map_id names]
 apply Ch;intro s _;exact afI l s
theorem ajN(l:List Hl)(s:List UInt8):Bz l s∈l\/Bz l s=⟨s,false,0⟩:=by
 unfold Bz;split
 ·exact .b rfl
 ·rename_i h
  left;unfold zG at h ⊢;cases hf:l.findIdx? (fun x=>x.E==s)with
  | none=>rw[hf]at h;simp at h
  | some i=>
    obtain⟨hi,_,_⟩:=gT.1 hf;simp only[dQ];rw[au,aC hi];exact dR hi
theorem am3{M:Int}{e:En}{s:pG}(h:mP M e s)(o:qM)(hof:o.h.rF)(how:o.w<18446744073709551616):mP M e (opE s o).1:=by
 obtain⟨_,_,⟨r1,_⟩,f1,_⟩:=qD h.cn;unfold opE;split
 ·rename_i hw
  have hd:=afF h.pl h.fi hof how hw;have hs:=(tK.1 hd.1).2.2.2.2;refine⟨h.cn,?_,hd.2,?_,?_,h.fl,h.fw,h.ti,h.no,h.ct⟩
  ·simp only[doV,hw,if_true];exact hd.1
  ·simp only
   exact agq (ajM hs)
  ·intro x hx
   simp only at hx;unfold EC at hx;obtain⟨n,_,rfl⟩:=iQ.1 hx;rcases ajN s.G n with hm|hm
   ·exact h.hl _ hm
   ·rw[hm]
    simp only[jc,if_false];omega
 ·exact h
theorem am4{x:Hl}{well:Bool}{ko fall:Int}(hr:1<=ko/\ko<=100)(hf:1<=fall/\fall<=100)(h:0<=x.I/\x.I<(if x.down then ko else fall)):0<=(uU x well ko fall).1.I/\(uU x well ko fall).1.I<(if(uU x well ko fall).1.down then ko else fall):=by
 have hb:∀n:Int,1<=n/\n<=100->uT n=n:=fun n hn=>by unfold uT;rw[if_neg (by omega),if_neg (by omega)]
 unfold uU;cases hd:x.down
 ·rw[hd]at h
  simp only[jc,if_false]at h ⊢;rw[hb _ hf];split
  ·simp only[hd,jc,if_false];omega
  ·split
   ·simp only[tF,if_true];omega
   ·simp only[jc,if_false];omega
 ·rw[hd]at h
  simp only[if_true]at h ⊢;rw[hb _ hr];split
  ·simp only[hd,if_true];omega
  ·split
   ·simp only[Bool.not_true,jc,if_false];omega
   ·simp only[if_true];omega
theorem ajO(x:Hl)(well:Bool)(ko fall:Int):(uU x well ko fall).1.E=x.E:=by
 unfold uU
 repeat' split
 all_goals rfl
theorem ad5{M:Int}{e:En}{s:pG}(h:mP M e s)(n:List UInt8)(well:Bool):mP M e (QS e s n well).1:=by
 obtain⟨_,_,hr,hf⟩:=qD h.cn;unfold QS;split
 ·rename_i h0
  unfold Ku at h0 ⊢;split
  ·rename_i h1;rw[if_pos h1]at h0;cases h0
  ·rename_i h1
   have hin:(zG s.G n).e<s.G.a:=by
    unfold zG at h1 ⊢;cases hf:s.G.findIdx? (fun x=>x.E==n)with
    | none=>rw[hf]at h1;simp at h1
    | some i=>
      obtain⟨hi,_,_⟩:=gT.1 hf;simpa using hi
   have hm:s.G.b (zG s.G n).e kY∈s.G:=by
    rw[au,aC hin];exact dR hin
   refine⟨h.cn,h.pl,h.fi,?_,?_,h.fl,h.fw,h.ti,h.no,h.ct⟩
   ·simp only
    rw[<-h.nm,List.map_set];apply iJ;intro i;rw[fF];split
    ·rename_i hi
     subst hi;rw[bQ,if_pos hin,ajO,jC,aC hin,au,aC hin];rfl
    ·rfl
   ·intro x hx
    simp only at hx;rcases List.mem_or_eq_of_mem_set hx with hx|rfl
    ·exact h.hl x hx
    ·exact am4 hr hf (h.hl _ hm)
 ·exact h
theorem am5{M:Int}{e:En}{s:pG}(h:mP M e s):mP M e (QT e s).1:=by
 unfold QT;split
 ·exact h
 ·have ht:=h.ti
  refine⟨h.cn,h.pl,h.fi,h.nm,h.hl,h.fl.ax0 _ _,?_,by simp only;omega,h.no,h.ct⟩;intro f hf;have:=h.fw f (mh.1 hf).1;simp only;omega
theorem vk{M:Int}{e:En}{s:pG}(h:mP M e s)(a:Ac)(hof:a.op.h.rF)(how:a.op.w<18446744073709551616):mP (M+1) e (wL e s a).1:=by
 unfold wL;split
 ·exact ajL h _
 ·split
  ·exact(am3 h a.op hof how).le (by omega)
  ·split
   ·exact(ad5 h _ _).le (by omega)
   ·split
    ·exact(am5 h).le (by omega)
    ·exact h.le (by omega)
theorem oH{place:Nat->Option (Nat×Nat)}(i off:Nat)(v:aB)(ps:List (Nat×aB))(p r:Array aB)(h:place i=some (off,1))(hv:v.D = #[v])(ho:off<p.j):fB place (p++r) ((i,v)::ps)=fB place (p.c off v++r) ps:=by
 rw[Ei place _ i off 1 v ps h (by rw[hv];rfl) (by rw[nU];omega),hv];congr 1;apply dW;intro j;rw[Eh];simp only[nU,aD,Array.size_setIfInBounds,dO];by_cases hj:j=off
 ·subst hj
  simp[ho];omega
 ·by_cases h1:off<=j/\j<off+1
  ·omega
  ·have:¬off=j:=fun e=>hj e.symm
   simp[this];intro a b;omega
@[go_sem]theorem ayK(W:ak)(head dz Hu aP:Int)(src dst:fu):(uN 189 #[(0,.b .a head),(1,.b .a dz),(2,.b .a Hu),(5,.b .a aP),(6,.d src.ay),(7,.d dst.ay)]).I ah W=.ok (.d (Sx.mk head dz Hu false 0 aP src dst).ay) W:=
 kSx.bd W _ _ _ _ oV (at6 W _ oV) (by
  show fB _ (#[aI .a 0,.b .a 0,.b .a 0,.e false,.b .a 0,.b .a 0]++(mX.ay++mX.ay)) [(0,.b .a head),(1,.b .a dz),(2,.b .a Hu),(5,.b .a aP),(6,.d src.ay),(7,.d dst.ay)]=_;rw[oH 0 0 _ _ _ _ rfl rfl (by simp),oH 1 1 _ _ _ _ rfl rfl (by simp),oH 2 2 _ _ _ _ rfl rfl (by simp),oH 5 5 _ _ _ _ rfl rfl (by simp)];rw[Tj]
  ·simp[qN,cO,Sx.ay]
  ·simp[rO,cO,fu.G])
@[go_sem]theorem ayL(W:ak)(head dz LJ aP:Int)(keep:Bool)(src dst:fu):(uN 192 #[(0,.b .a head),(1,.b .a dz),(5,.e keep),(6,.b .a LJ),(7,.b .a aP),(8,.d src.ay),(9,.d dst.ay)]).I ah W=.ok (.d (Fo.mk head dz 0 0 false keep LJ aP src dst).ay) W:=
 kFo.bd W _ _ _ _ oU (atZ W _ oU) (by
  show fB _ (#[aI .a 0,.b .a 0,.b .a 0,.b .a 0,.e false,.e false,.b .a 0,.b .a 0]++(mX.ay++mX.ay)) [(0,.b .a head),(1,.b .a dz),(5,.e keep),(6,.b .a LJ),(7,.b .a aP),(8,.d src.ay),(9,.d dst.ay)]=_;rw[oH 0 0 _ _ _ _ rfl rfl (by simp),oH 1 1 _ _ _ _ rfl rfl (by simp),oH 5 5 _ _ _ _ rfl rfl (by simp),oH 6 6 _ _ _ _ rfl rfl (by simp),oH 7 7 _ _ _ _ rfl rfl (by simp)];rw[Tj]
  ·simp[qN,cO,Fo.ay]
  ·simp[rO,cO,fu.G])
section
attribute [local go_sem high] iT jF
theorem oO.nC{T:bM}{n:Nat}{z:Array aB}(K:oO T n z){W:ak}{b:Nat}{c:Array aB}(h:dJ W b c)(hc:c.j=n):(xu T (.c (some ⟨b,0,none⟩))).I ah W=.ok (.d c) W:=by
 have hs:dZ c=n:=hc;rw[K.ld W b 0 (of_eq_true (h.K.2.2.1 0 n (by omega))),h.K.2.2.2 0 n (by omega)];simp[<-hc]
theorem dJ.ahX{W:ak}{b:Nat}{a:fu}(h:dJ W b a.ay):(rJ (.c (some ⟨b,0,none⟩))).I ah W=.ok (.d a.ay) W:=by
 have hs:dZ a.ay=17:=fu.G a;rw[Mt W b 0 (of_eq_true (h.K.2.2.1 0 17 (by omega))),h.K.2.2.2 0 17 (by omega)];simp[<-fu.G a]
theorem ajP{d s:Vector UInt8 6}{fG:List Tg}{ty:Int}(h:fG.a<=2):(qv d s fG ty).a<=1000:=by
 have h2:=EO fG;unfold qv;simp only[aR,h2,lT];simp[pY];omega
theorem ad6(x:Sx):(wU x).a=40:=by simp[wU]
theorem Bx.ow{L:List (Nat×Array aB)}{w W W':ak}{B:Nat}{g:Option Nat}{v:aB}{bs:List UInt8}(h:Bx L w W)(k:Ow B g W v bs W')(hB:∀p∈L,p.1<B)(hw:w.a.j<=B):Bx L w W':=
 ⟨h.1.trans (k.S.g hw),fun p hp=>⟨(h.2 p hp).1,by obtain⟨t,ht⟩:=(h.2 p hp).2;exact⟨t,(k.S.block p.1 (hB p hp)).trans ht⟩⟩⟩
theorem Wt(x:Fo):(tQ x).a=20:=by simp[tQ,adV,Du]
theorem Kw(W:ak):gq W W.a.j none 0 []:=Dn (Ly.nil (w:=W)).o (aH _ _)
end
section
attribute [local go_sem high] iT jF
theorem am6(f:Nat):∀(x:Sx)(r:List UInt8),(yL f x r).1.dz=x.dz\/(yL f x r).1=qC:=by
 induction f with
 | zero=>intro x r;unfold yL;split;exact .a rfl;exact .b rfl
 | succ f ih=>
   intro x r;unfold yL;split
   ·exact .a rfl
   ·split
    ·exact .b rfl
    ·exact ih _ _
theorem ad7(k:Int)(l:List UInt8):0<=(zX k l).dz/\(zX k l).dz<=l.a:=by
 unfold zX;split
 ·unfold zV
  split
  ·rename_i h1 h2
   have:=amO (l:=l) (by unfold zV;rw[if_pos h2]);unfold zV at this;rw[if_pos h2]at this;simp only at this ⊢;omega
  ·simp[xA]
 ·split
  ·unfold AQ
   split
   ·simp[qC]
   ·split
    ·simp[qC]
    ·split
     ·simp[qC]
     ·rcases am6 8 (sx0 l) ((l.d (40+eU l 4)).f 40)with h|h
      ·rw[h];show 0<=(40:Int)+eU l 4/\(40:Int)+eU l 4<=l.a;omega
      ·simp[h,qC]
  ·simp[sQ]
def Sj(l:List UInt8):Tn:=if(mq l).2≠0 then sQ else zX (mq l).1.oq (l.f (mq l).1.at_)
def Jj(l:List UInt8):List UInt8:=if(mq l).2≠0 then []else(l.f (mq l).1.at_).d (Sj l).dz.e
def ayM(W:ak)(l:List UInt8)(e:lq)(W':ak):Prop:=∃A c PA pn pc,e=.a (.J #[.d ((mq l).1.cell A c).ay,.d (Sj l).ay,.a PA pn pc])/\gX Tg.ay 2 W' W'.a.j A (mq l).1.fG.a (mq l).1.fG/\gq W' W'.a.j PA pn (Jj l)/\pn<=pc/\(pc<=9223372036854775807/\pn<=1000000)/\aL W.a.j W W'
theorem auI{l:List UInt8}(h:(mq l).2≠0):(mq l).1=EI:=by
 have go:∀(m k:Nat)(fG:List Tg),(Cx l m k fG).2≠0->(Cx l m k fG).1=EI:=by
  intro m
  induction m with
  | zero=>intro k fG h;unfold Cx at h⊢;split at h<;>first|(exact absurd rfl h)|(rename_i h1;simp_all)|rfl
  | succ m ih=>
    intro k fG;cases ht:tZ (eU l (k-2):Nat)with
    | false=>rw[zL ht];intro h;exact absurd rfl h
    | true=>
      by_cases h4:l.a<k+4
      ·rw[BZ ht h4];intro _;rfl
      ·rw[EJ ht h4];exact ih _ _
 unfold mq at h ⊢;split
 ·rfl
 ·rename_i h1;rw[if_neg h1]at h;exact go _ _ _ h
section
variable {fn:Func} {p q u:Tmp} {T U:bM} {b1 b2 n m:Nat} {z y c d:Array aB} {W:ak}
theorem ahY(K:oO T n z)(K2:oO U m y)(h:fn.results = #[.cell p T,.cell q U,.a u])(tmps:Array aB)(hp:tmps.b p undef=.c (some ⟨b1,0,none⟩))(hq:tmps.b q undef=.c (some ⟨b2,0,none⟩))(hb:dJ W b1 c)(hc:c.j=n)(hd:dJ W b2 d)(hdc:d.j=m):(results fn tmps).I ah W=.ok (.J #[.d c,.d d,tmps.b u undef]) W:=by
 have l1:=K.nC hb hc;have l2:=K2.nC hd hdc;unfold xu at l1 l2;simp only[bZ,Instr.sureAddr,jI,og,Result.andThen_ok]at l1 l2;rw[Array.getD_eq_getD_getElem?]at hp hq;simp[results,h,hp,hq,asAddr,iD,l1,l2]
end
theorem gX.ayN{α:Type}{f:α->Array aB}{s:Nat}{w w':ak}{B B':Nat}{A:Option aS}(h:gX f s w B A 0 []):gX f s w' B' A 0 []:=
 ⟨rfl,⟨by simp,fun h=>absurd h (by omega)⟩,fun a _ h=>absurd h (by omega)⟩
theorem Wu{l:List UInt8}:∀(m k:Nat)(fG:List Tg),(∀t∈fG,tZ t.oq=true)->(∀t∈(Cx l m k fG).1.fG,tZ t.oq=true)
 | 0,k,fG,h=>by
   cases ht:tZ (eU l (k-2):Nat)with
   | false=>rw[zL ht];exact h
   | true=>rw[J5 ht];exact fun t ht=>by simp[EI]at ht
 | m+1,k,fG,h=>by
   cases ht:tZ (eU l (k-2):Nat)with
   | false=>rw[zL ht];exact h
   | true=>
     by_cases h4:l.a<k+4
     ·rw[BZ ht h4];exact fun t ht=>by simp[EI]at ht
     ·rw[EJ ht h4]
      refine Wu m (k+4) _ (fun t h2=>?_);rcases qh.1 h2 with h2|h2
      ·exact h t h2
      ·rw[fD.1 h2];exact ht
theorem P5(l:List UInt8):∀t∈(mq l).1.fG,tZ t.oq=true:=by
 unfold mq;split
 ·exact fun t ht=>by simp[EI]at ht
 ·exact Wu 2 14 [] (fun t ht=>by cases ht)
def am7(c:Array aB):Bool:=c.all fun v=>match v with | .b .a z=>decide (z=0)|_=>true
theorem ajQ{c:Array aB}(h:am7 c=true){j:Nat}{t:Int}(ht:t≠0):c[j]?≠some (.b .a t):=fun e=>by
 have:=Array.all_eq_true_iff_forall_mem.1 h _ (Array.mem_of_getElem? e);simp at this;exact ht this
theorem gX.apart{w:ak}{B b n:Nat}{A:Option aS}{l:List Tg}{c:Array aB}(h:gX Tg.ay 2 w B A n l)(hi:∀t∈l,tZ t.oq=true)(hb:dJ w b c)(hc:am7 c=true)(hn:0<n):∀a,A=some a->b≠a.block:=by
 intro a ha e;obtain⟨b',o,hA,_,hcell⟩:=h.cell Tg.G Sg hn;rw[hA]at ha;injection ha with ha
 subst ha;simp only at e;subst e;have h1:=hcell 0 (by omega);rw[hb.K.1,Tg.DW]at h1;have ht:=hi _ (Em Sg l 0 (by rw[h.1];exact hn));refine ajQ hc ?_ h1;intro e0;rw[e0]at ht;cases ht
theorem gX.asv{α:Type}{f:α->Array aB}{s:Nat}{B b n:Nat}{A:Option aS}{l:List α}(hp:∀a,A=some a->b≠a.block)(x:Array aB):∀(o:Nat) {w:ak},gX f s w B A n l->gX f s (gI w b o x) B A n l:=by
 have:∀(vs:List aB)(o:Nat)(w:ak),gX f s w B A n l->gX f s (w.setCells b o vs) B A n l:=by
  intro vs
  induction vs with
  | nil=>exact fun _ _ h=>h
  | cons v vs ih=>intro o w h;exact ih (o+1) _ (h.aB3 v (fun a ha=>hp a ha))
 exact fun o w h=>this _ _ _ h
theorem ajR(w:ak)(A:Option aS)(n c:Nat)(l:List UInt8)(hnc:n<=c)(hc:c<=9223372036854775807/\n<=1000000)(hr:gq w w.a.j A n l):aQ ah 99 #[.a A n c] w (ayM w l):=by
 have HR:=ab hr;have hl:=ab hr.len;have h0:=((Bx.start w).new qJ.ay 108).new sQ.ay 179;simp only[sZ]at h0;have Z0:=ab h0;have CL:=ab (NG _ A n c l hnc (by omega) (h0.NA hr));clear h0 hr;go_enter Tryz.func99,Tryz.ntmps99;obtain⟨r,hrr⟩:=dw (mq l);have HRR:=ab hrr;obtain⟨k,er⟩:=r;unfold LkP at CL;rw[<-hrr]at CL;clear hrr;go_upto_region 1 with fail
 generalize(w.alloc (.D qJ.ay 108)).alloc (.D sQ.ay 179)=w0 at Z0 CL ⊢;go_upto_region 2 with(go_at_call 91;(with_reducible refine CL.i.g ?_);rintro e w1 ⟨TA,tc,rfl,hT,hb1⟩;have Z1:=ab ((Z0.i.go hb1).new (k.cell TA tc).ay 108);have HW:=ab (Z0.i.go hb1).X.lt;have RT:=ab (hT.alloc (av _) (.D (k.cell TA tc).ay 108));clear hb1 hT)
 have HW2:=ab (show w1.a.j<=(w1.alloc (.D (k.cell TA tc).ay 108)).a.j by simp);generalize w1.alloc (.D (k.cell TA tc).ay 108)=w2 at Z1 RT HW2 ⊢;generalize w1.a.j=y5 at Z1 RT HW HW2 ⊢;have YL:=HW2;have Mk:=ab (show∀r∈[(w.a.j+1,sQ.ay),(w.a.j,qJ.ay)],r.1≠y5 from fun r hr=>by
  have:=HW.i;simp only[bB,fJ,or_false]at hr;rcases hr with rfl|rfl<;>simp only[]<;>omega)
 by_cases h1:er≠0
 ·have q:(er != 0)=true:=by simp[h1]
  have HTN:=ab (show Sj l=sQ by unfold Sj;rw[<-HRR.i,if_pos h1]);have HPK:=ab (show Jj l=[]by unfold Jj;rw[<-HRR.i,if_pos h1]);have l5:=kLc.nC Z1.i.X (Lc.G _);have Z2:=ab (Z1.i.sub (L':=[(w.a.j,qJ.ay),(y5,(k.cell TA tc).ay),(w.a.j+1,sQ.ay)]) (by simp));have Z3:=ab (Z2.i.put (fun r hr=>by
   have:=HW.i;simp only[bB,fJ,or_false]at hr;rcases hr with rfl|rfl<;>simp only[]<;>omega) (k.cell TA tc).ay (by rw[Lc.G,Lc.G]))
  have auJ:=Z2.i.X.O 0 15 (aW (Lc.G qJ).symm);have auK:=Z3.i.b2.O 0 5 (aW (Tn.G sQ).symm);have Z4:=ab ((Z3.i.sub (L':=[(w.a.j+1,sQ.ay),(w.a.j,(k.cell TA tc).ay)]) (by simp)).put (fun r hr=>by
   simp only[bB,fJ,or_false]at hr;rcases hr with rfl<;>simp only[]<;>omega) sQ.ay rfl)
  go_wp2;refine aN (ahY kLc kTn rfl _ rfl rfl Z4.i.b1 (Lc.G _) Z4.i.X (Tn.G _)) rfl ?_;have RT2:=RT.i;refine⟨TA,tc,none,0,0,by rw[HTN.i,<-HRR.i];rfl,?_,by rw[HPK.i];exact Kw _,av _,by omega,Z4.i.R⟩;have hk0:k=EI:=by have:=auI (l:=l) (by rw[<-HRR.i];exact h1);rw[<-HRR.i]at this;exact this
  rw[<-HRR.i];subst hk0;exact gX.ayN RT2
 obtain rfl:er=0:=by simpa using h1
 have q00:((0:Int) != 0)=false:=rfl;obtain⟨wJ,adT⟩:=agf (l:=l) (by rw[<-HRR.i]);rw[<-HRR.i]at wJ adT;rw[hl.i]at adT;simp only at wJ adT;have i1:(k.at_:Int)<=n:=by omega
 have F8:=ab (fun(w':ak) (h:Bx [(y5,(k.cell TA tc).ay),(w.a.j+1,sQ.ay),(w.a.j,qJ.ay)] w w')=>show w'.b ⟨y5,13,none⟩=some (.b .a k.oq)/\w'.b ⟨y5,14,none⟩=some (.b .a (k.at_:Nat))from⟨(h.X.K.1 13).trans (Lc.DW _),(h.X.K.1 14).trans (Lc.LK _)⟩);have CN:=ab (fun(w':ak) (h:Bx [(y5,(k.cell TA tc).ay),(w.a.j+1,sQ.ay),(w.a.j,qJ.ay)] w w')=>agm w' k.oq (vL A k.at_ c 1) (n-k.at_) (c-k.at_) (l.f k.at_) (by omega) (by omega) ((h.NA HR.i).yJ (by omega) hnc));have HTN:=ab (show Sj l=zX k.oq (l.f k.at_)by unfold Sj;rw[<-HRR.i,if_neg (by simp)]);have HPK:=ab (show Jj l=(l.f k.at_).d (Sj l).dz.e by unfold Jj;rw[<-HRR.i,if_neg (by simp)]);have HTO:=ab (ad7 k.oq (l.f k.at_));obtain⟨g,hg⟩:=dw (zX k.oq (l.f k.at_));have HG:=ab hg;rw[<-hg]at CN HTN HTO;clear hg;rw[HTN.i]at HPK;go_upto_region 4 with fail
 refine PL (VZ (Bx.abt ([(y5,(k.cell TA tc).ay),(w.a.j+1,sQ.ay),(w.a.j,qJ.ay)]) w) w2) 7 8 7 179 sQ.ay (by kernel_rfl) rfl (by kernel_rfl) (by decide) (by decide) (by kernel_rfl) (by kernel_rfl) (by kernel_rfl) rfl rfl rfl (fun a w=>by simp[go_sem]) ⟨Z1.i.drew,(aH w2.a.j w2).drew⟩ ?_;apply Exists.intro;refine⟨fun T f hT es ew=>?_,?_⟩
 ·have EW:=ab ew
  have ES:=ab es;have k1:=fun m=>(F8.i _ (ES.i m).1).1
  have k2:=fun m=>(F8.i _ (ES.i m).1).2
  have CF:=ab (fun m=>CN.i _ (ES.i m).1);clear es ew;simp only[kW,bG,bP,jM,jX]
  repeat(go_big_quiet_step ((first|(go_at_call 101;(with_reducible refine(CF.i _).g ?_);rintro e w2 ⟨rfl,hb⟩;exact⟨rfl,EW.i _ _ hb⟩))))
  exact gK rfl
 ·intro w9 w8 zO _ hb
  have BN:=(zO.2.alloc zO.2.j (.D sQ.ay 179)).trans (hb.g (by simp;exact ql zO.2.j));have aDJ:=zO.2.j
  replace zO:=zO.1
  have ZN:=(zO.new sQ.ay 179).go hb;have hy:=zO.R.j;have HYW:=BN.j;have BN:=ab BN;have ZN:=ab ZN;have yK:=ZN.i.X.O 0 5 (aW (Tn.G sQ).symm);have hyy:y5<w9.a.j:=zO.X.lt;generalize w9.a.j=y7 at *;have Z8:=ab (ZN.i.put (fun r hr=>by
   have:=HW.i;simp only[bB,fJ,or_false]at hr;rcases hr with rfl|rfl|rfl<;>simp only[]<;>omega) g.ay (by rw[Tn.G,Tn.G]))
  have B8:=ab (kR BN.i y7 0 g.ay aDJ);go_upto_region 5 with fail
  clear yK ZN;generalize gI w8 y7 0 g.ay=w10 at Z8 B8 ⊢;obtain⟨T0,hT0⟩:∃T:Nat,g.dz=T:=⟨g.dz.e,by have:=HTO.i;omega⟩
  have hT1:T0+k.at_<=n:=by have:=HTO.i.2;rw[jA,hl.i]at this;omega
  have HTT:=ab hT0;obtain⟨m0,hm0⟩:∃m:Nat,m=k.at_+T0:=⟨_,rfl⟩
  have q1:=jS ((k.at_:Int)+T0) (by omega);have q2:(k.at_:Int)+T0=m0:=by omega
  rw[q2]at q1;have q3:(k.at_:Int)<=m0:=by omega
  have q4:(m0:Int)<=c:=by omega
  have HM:=ab hm0;have HMN:=ab (show m0<=n by omega);have F9:=ab (fun(w':ak) (h:Bx [(y7,g.ay),(y5,(k.cell TA tc).ay)] w w')=>show(xu 108 (.c (some ⟨y5,0,none⟩))).I ah w'=.ok (.d (k.cell TA tc).ay) w'/\(xu 179 (.c (some ⟨y7,0,none⟩))).I ah w'=.ok (.d g.ay) w'/\w'.b ⟨y5,14,none⟩=some (.b .a (k.at_:Nat))/\w'.b ⟨y7,1,none⟩=some (.b .a (T0:Nat))from⟨kLc.nC h.b1 (Lc.G _),kTn.nC h.X (Tn.G _),(h.b1.K.1 14).trans (Lc.LK _),(h.X.K.1 1).trans ((Tn.yj g).trans (by rw[HTT.i]))⟩);clear hT0 hm0 hT1;have ZA:=ab Z8.i.drew;have WB:=ab B8.i.drew;have Z2:=ab (ZA.i.sub (L':=[(w.a.j,qJ.ay),(w.a.j+1,sQ.ay),(y7,g.ay),(y5,(k.cell TA tc).ay)]) (by simp));have aJJ:w.a.j+1<y5:=HW.i;have Z3:=ab (Z2.i.put (fun r hr=>by
   simp only[bB,fJ,or_false]at hr;rcases hr with rfl|rfl|rfl<;>simp only[]<;>omega) (k.cell TA tc).ay (by rw[Lc.G,Lc.G]))
  have auJ:=Z2.i.X.O 0 15 (aW (Lc.G qJ).symm);have auK:=Z3.i.b1.O 0 5 (aW (Tn.G sQ).symm);have Z4:=ab ((Z3.i.sub (L':=[(w.a.j+1,sQ.ay),(w.a.j,(k.cell TA tc).ay),(y7,g.ay),(y5,(k.cell TA tc).ay)]) (by simp)).put (fun r hr=>by
   simp only[bB,fJ,or_false]at hr;rcases hr with rfl|rfl|rfl<;>simp only[]<;>omega) g.ay (by rw[Tn.G,Tn.G]))
  obtain⟨k1,k2,k3,k4⟩:=F9.i _ (ZA.i.sub (by simp));obtain⟨k5,k6,k7,k8⟩:=F9.i _ (Z3.i.sub (by simp));obtain⟨k9,k10,k11,k12⟩:=F9.i _ (Z4.i.sub (by simp));go_region;go_wp2;refine aN (ahY kLc kTn rfl _ rfl rfl Z4.i.b1 (Lc.G _) Z4.i.X (Tn.G _)) rfl ?_;have hHN:=HMN.i;have RF:=ab (show gq (gI (gI w10.drew w.a.j 0 (k.cell TA tc).ay) (w.a.j+1) 0 g.ay) (gI (gI w10.drew w.a.j 0 (k.cell TA tc).ay) (w.a.j+1) 0 g.ay).a.j (vL A k.at_ c 1) (m0-k.at_) (Jj l)by
   have:=(Z4.i.NA HR.i).adK (z:=k.at_) (b:=m0) (c:=c) (by omega) hHN hnc;have e2:(l.d m0).f k.at_=Jj l:=by rw[HPK.i,HTT.i,dQ,List.drop_take,HM.i,Nat.add_sub_cancel_left]
   rwa [e2]at this)
  have TF:=ab (show gX Tg.ay 2 (gI (gI w10.drew w.a.j 0 (k.cell TA tc).ay) (w.a.j+1) 0 g.ay) (gI (gI w10.drew w.a.j 0 (k.cell TA tc).ay) (w.a.j+1) 0 g.ay).a.j TA k.fG.a k.fG by
   have h1:gX Tg.ay 2 w10.drew y5 TA k.fG.a k.fG:=RT.i.S (WB.i.g YL.i);have hI:=P5 l;rw[<-HRR.i]at hI;by_cases h0:k.fG.a=0
   ·have e0:k.fG=[]:=bE h0
    rw[e0]at h1 ⊢;exact gX.ayN h1
   ·have p1:=h1.apart hI ZA.i.b3 (by kernel_rfl) (by omega)
    have p2:=h1.apart hI ZA.i.b2 (by kernel_rfl) (by omega);exact(gX.asv p2 _ 0 (gX.asv p1 _ 0 h1)).lD (aO (mH hyy) (mH (Z4.i.b2).lt)))
  refine⟨TA,tc,vL A k.at_ c 1,m0-k.at_,c-k.at_,by rw[HTN.i,<-HRR.i];rfl,?_,RF.i,by omega,by omega,Z4.i.R⟩;rw[<-HRR.i];exact TF.i
end
section
attribute [local go_sem high] iT jF
theorem ayP(a c:Nat)(ha:a<256)(hc:c<256):bits .or .a ((a:Int)*256) (c:Int)=((a*256+c:Nat):Int):=by
 have h1:fQ 64 ((a:Int)*256)=He 64 (a*256):=by rw[show((a:Int)*256)=((a*256:Nat):Int)by omega];exact lS _ _
 have h2:fQ 64 (c:Int)=He 64 c:=lS _ _;show bU.wrap ((fQ 64 ((a:Int)*256) ||| fQ 64 (c:Int)).e:Int)=_;rw[h1,h2,BitVec.toNat_or,ny,ny,fK (by omega),fK (by omega),show a*256=a <<< 8 by rw[mF],<-Nat.shiftLeft_add_eq_or_of_lt (by omega)];rw[mF];simp[vP,nQ,lN];omega
theorem aqp:lU 5 = #[0,1,2,3,4]:=by apply oQ;rw[j3];rfl
@[go_sem]theorem asw(w:ak)(a b c d e:Int):(LG 5 #[(0,.b .a a),(1,.b .a b),(2,.b .a c),(3,.b .a d),(4,.b .a e)]).I ah w=.ok (.a (some ⟨w.a.j,0,none⟩) 5 5) (w.alloc (.D (sM [a,b,c,d,e]) 3)):=by
 obtain⟨i0,hi0,hz0,hz1⟩:=S9;simp[LG,bI,dL nZ,zeroValue,sizeOf,typeInfo,hi0,hz0,hz1,fB,newRow,sM,cO,aqp]
def ahZ(x:Fo):List Nat:=[x.dz.e,x.id.e,if x.keep then 16384 else 0,x.LJ.e*256+x.aP.e,0]
def GX(l:List Nat):List Int:=l.map (fun n:Nat=>(n:Int))
theorem ajT(l:List Nat)(j:Nat)(hj:j<l.a):(sM (GX l))[j]? = some (.b .a ((l.b j 0:Nat):Int)):=by
 have:=Y8 (GX l) j (by simpa[GX]using hj);rw[bl]at this;rw[this];simp[GX,au,hj]
theorem gq.upN{w:ak}{B n k:Nat}{A:Option aS}{l:List UInt8}(h:gq w B A n l)(hk:k<=n):gq w B A k (l.d k):=by
 have:=Rd.upto h hk
 rwa [gB,<-Ap]at this
theorem abE{l:List UInt8}{k:Nat}{a b:UInt8}(h:k+2<=l.a):r9 l k [a,b]=(l.set k a).set (k+1) b:=by
 apply iJ;intro i;unfold r9;simp only[dB,kT,bJ,jd,iZ,fF,aV,bD,gH];by_cases h1:i<k
 ·simp[h1,show¬k+1=i by omega,show¬k=i by omega,show i<min k l.a by omega]
 ·by_cases h2:i=k
  ·subst h2
   simp[show i<l.a by omega,show min i l.a=i by omega]
  ·by_cases h3:i=k+1
   ·subst h3
    simp[show k+1<l.a by omega,show min k l.a=k by omega,show¬k+1<k by omega]
   ·have e1:min k l.a=k:=by omega
    have e2:k+2+(i-k-2)=i:=by omega
    simp[show¬k+1=i by omega,show¬k=i by omega,e1,h1,show¬i-k<2 by omega,e2]
theorem am8(x:Fo)(h1:x.LJ.e<256)(h2:x.aP.e<256):Du x=[69,aJ x.Ot.e]++(ahZ x).h (fun n:Nat=>pY (n:Int))++x.h.b.a.d 4++x.Y.b.a.d 4:=by
 unfold Du ahZ;have e1:(x.LJ.e*256+x.aP.e)/256=x.LJ.e:=by omega
 have e2:(x.LJ.e*256+x.aP.e)%256=x.aP.e:=by omega
 cases x.keep<;>simp[pY,e1,e2]
theorem QU(x:Fo)(hh:x.head=20)(s0:0<=x.Ot)(s1:x.Ot<=255)(t0:20<=x.dz)(t1:x.dz<=65535)(i0:0<=x.id)(i1:x.id<=65535)(l0:0<=x.LJ)(l1:x.LJ<=255)(p0:0<=x.aP)(p1:x.aP<=255)(hf:x.oG=false)(hs:(!x.h.h&&x.h.mJ)=true)(hd:(!x.Y.h&&x.Y.mJ)=true)(w:ak):aQ ah 271 #[.d x.ay] w (adX w (tQ x)):=by
 have Z:=ab ((Bx.start w).new x.ay 192);have FA:=ab (fun(w':ak) (h:dJ w' w.a.j x.ay)=>show w'.b ⟨w.a.j,0,none⟩=some (.b .a 20)/\w'.b ⟨w.a.j,1,none⟩=some (.b .a x.dz)/\w'.b ⟨w.a.j,2,none⟩=some (.b .a x.Ot)/\w'.b ⟨w.a.j,3,none⟩=some (.b .a x.id)/\w'.b ⟨w.a.j,4,none⟩=some (.e false)/\w'.b ⟨w.a.j,5,none⟩=some (.e x.keep)/\w'.b ⟨w.a.j,6,none⟩=some (.b .a x.LJ)/\w'.b ⟨w.a.j,7,none⟩=some (.b .a x.aP)/\(rJ (.c (some ⟨w.a.j,8,none⟩))).I ah w'=.ok (.d x.h.ay) w'/\(rJ (.c (some ⟨w.a.j,25,none⟩))).I ah w'=.ok (.d x.Y.ay) w' by
  have f:=h.K.1;have hz:x.ay.j=42:=Fo.G x;refine⟨(f 0).trans ((Fo.J4 x).trans (by rw[hh])),(f 1).trans (Fo.yj x),(f 2).trans (Fo.atW x),(f 3).trans (Fo.ax6 x),(f 4).trans ((Fo.Tv x).trans (by rw[hf])),(f 5).trans (Fo.abg x),(f 6).trans (Fo.atX x),(f 7).trans (Fo.BR x),?_,?_⟩
  ·rw[Mt w' w.a.j 8 (of_eq_true (h.K.2.2.1 8 17 (by unfold dZ;omega))),h.K.2.2.2 8 17 (by unfold dZ;omega),Fo.I7]
  ·rw[Mt w' w.a.j 25 (of_eq_true (h.K.2.2.1 25 17 (by unfold dZ;omega))),h.K.2.2.2 25 17 (by unfold dZ;omega),Fo.I8])
 have CI:=ab (fun k m W (h:0<=k/\k<=m)=>show aQ ah 316 #[.b .a k,.b .a m] W (fun e W'=>e=.a (.e true)/\aL W.a.j W W')by
  have:=af' k m W;rwa [decide_eq_true h.1,decide_eq_true h.2]at this)
 have C1:=ab (fun W=>CI.i x.dz 65535 W ⟨by omega,t1⟩);have C2:=ab (fun W=>CI.i x.Ot 255 W ⟨s0,s1⟩);have C3:=ab (fun W=>CI.i x.LJ 255 W ⟨l0,l1⟩);have C4:=ab (fun W=>CI.i x.aP 255 W ⟨p0,p1⟩);have C5:=ab (fun W=>CI.i x.id 65535 W ⟨i0,i1⟩);have C6:=ab (fun W=>by have:=VR x.h W;rwa [hs]at this:∀W,aQ ah 317 #[.d x.h.ay] W fun e W'=>e=.a (.e true)/\aL W.a.j W W');have C7:=ab (fun W=>by have:=VR x.Y W;rwa [hd]at this:∀W,aQ ah 317 #[.d x.Y.ay] W fun e W'=>e=.a (.e true)/\aL W.a.j W W');have q1:decide (x.dz<20)=false:=by simp;omega
 have HF:=ab (am8 x (by omega) (by omega));clear hh hf hs hd;go_enter Tryz.func271,Tryz.ntmps271;go_upto_region 1 with fail
 generalize w.alloc (.D x.ay 192)=w1 at *;obtain⟨f0,f1,f2,f3,f4,f5,f6,f7,f8,f9⟩:=FA.i _ Z.i.X;go_upto_region 3 with(first|(go_at_call 316;(first|(with_reducible refine(C1.i _).g ?_)|(with_reducible refine(C2.i _).g ?_)|(with_reducible refine(C3.i _).g ?_)|(with_reducible refine(C4.i _).g ?_)|(with_reducible refine(C5.i _).g ?_));rintro e w5 ⟨rfl,hb⟩;have ZN:=ab (Z.i.go hb);clear f0 f1 f2 f3 f4 f5 f6 f7 f8 f9;obtain⟨f0,f1,f2,f3,f4,f5,f6,f7,f8,f9⟩:=FA.i _ ZN.i.X;clear hb Z;have Z:=ZN;clear ZN)|(go_at_call 317;(first|(with_reducible refine(C6.i _).g ?_)|(with_reducible refine(C7.i _).g ?_));rintro e w5 ⟨rfl,hb⟩;have ZN:=ab (Z.i.go hb);clear f0 f1 f2 f3 f4 f5 f6 f7 f8 f9;obtain⟨f0,f1,f2,f3,f4,f5,f6,f7,f8,f9⟩:=FA.i _ ZN.i.X;clear hb Z;have Z:=ZN;clear ZN))
 clear f0 f1 f2 f3 f4 f5 f6 f7 f8 f9 C1 C2 C3 C4 C5 C6 C7 CI q1;obtain⟨tt,htt⟩:∃n:Nat,x.dz=(n:Int):=⟨x.dz.e,by omega⟩
 obtain⟨ti,hti⟩:∃n:Nat,x.id=(n:Int):=⟨x.id.e,by omega⟩
 obtain⟨tl,htl⟩:∃n:Nat,x.LJ=(n:Int):=⟨x.LJ.e,by omega⟩
 obtain⟨tp,htp⟩:∃n:Nat,x.aP=(n:Int):=⟨x.aP.e,by omega⟩
 obtain⟨kb,hkb⟩:∃n:Nat,n=if x.keep then 16384 else 0:=⟨_,rfl⟩
 have hkb2:kb<=16384:=by rw[hkb];split<;>omega
 have HNS:=ab (show ahZ x=[tt,ti,kb,tl*256+tp,0]by unfold ahZ;rw[htt,hti,htl,htp,<-hkb];rfl);rw[HNS.i]at HF;have f:=FA.i _ Z.i.X;rw[htt,hti,htl,htp]at f;obtain⟨f0,f1,f2,f3,f4,f5,f6,f7,f8,f9⟩:=f;have q2:=ayP tl tp (by omega) (by omega);have q3:aX.wrap x.Ot=x.Ot:=by rw[Hg];omega
 have HX1:=ab htt;have HX2:=ab hti;have HX3:=ab htl;have HX4:=ab htp;have B1:tt<=65535:=by omega
 have B2:ti<=65535:=by omega
 have B3:tl*256+tp<=65535:=by omega
 have B4:tl<=255:=by omega
 have B5:tp<=255:=by omega
 have HFA:=FA;have HKB:=ab hkb;clear htt hti htl htp i0 i1 l0 l1 p0 p1 t0 t1 HNS FA;cases hk:x.keep
 all_goals
  rw[hk]at f5;have HK:=ab hk;go_upto_region 6 with fail
  clear hk hkb;have L0:=ab ((Ly.amY w w5 Z.i.R #[.b .b 69,.b .b x.Ot] [69,aJ x.Ot.e] 2 rfl (by omega) (by
   simp only[kL,pJ,bv];rw[yU x.Ot.e (by omega),kH s0];rfl)).add (q:=w.a.j) (c:=x.ay) (Z.i.X.alloc _) (by simp[jV];exact uF Z.i.X.lt))
  go_upto_region 7 with fail
  clear f0 f1 f2 f3 f4 f5 f6 f7 f8 f9;generalize w5.alloc (.D #[.b .b 69,.b .b x.Ot] 5)=w6 at L0 ⊢;generalize bC (some ⟨w5.a.j,0,none⟩) 2 2=v6 at L0 ⊢;have f:=HFA.i _ L0.i.X;obtain⟨kv,hkv⟩:∃kv:Nat,kb=kv:=⟨_,rfl⟩
  have hkk:kb=(if x.keep then 16384 else 0):=HKB.i;rw[HK.i]at hkk;simp only[if_true,if_false,jc]at hkk;subst hkk;obtain⟨_,f1,_,f3,_,_,f6,f7,_,_⟩:=f;rw[HX1.i]at f1;rw[HX2.i]at f3;rw[HX3.i]at f6;rw[HX4.i]at f7;clear hkv kv;go_upto_region 8 with fail
  clear f1 f3 f6 f7 q2
  first
  | (have L1:=ab (L0.i.new (sM (GX [tt,ti,16384,tl*256+tp,0])) 3)
     have HIN:=ab (show GX [tt,ti,16384,tl*256+tp,0]=[(tt:Int),ti,16384,(tl:Int)*256+tp,0]by simp[GX]);rw[<-HIN.i];clear HIN;generalize hns:([tt,ti,16384,tl*256+tp,0]:List Nat)=ns at L1 HF⊢)
  | (have L1:=ab (L0.i.new (sM (GX [tt,ti,0,tl*256+tp,0])) 3)
     have HIN:=ab (show GX [tt,ti,0,tl*256+tp,0]=[(tt:Int),ti,0,(tl:Int)*256+tp,0]by simp[GX]);rw[<-HIN.i];clear HIN;generalize hns:([tt,ti,0,tl*256+tp,0]:List Nat)=ns at L1 HF⊢)
  have UO:=ab (show ns.a=5 by rw[<-hns];rfl);have HNB:=ab (show∀z∈ns,z<=65535 by
   rw[<-hns];intro z hz;simp only[bB,fJ,or_false]at hz;omega)
  clear hns hkb2 B1 B2 B3 B4 B5;obtain⟨A0,c0,hv⟩:=L1.i.o.Cu;have hv2:v6=.a A0 2 c0:=hv;clear hv;subst hv2;have hy7:=L0.i.X.lt;generalize w6.alloc (.D (sM (GX ns)) 3)=w7 at L1 ⊢;generalize w6.a.j=y7 at L1 hy7 ⊢;have aus:∀i:Nat,((ns.d i).h (fun n:Nat=>pY (n:Int))).a<=10:=by
   have h1:∀l:List Nat,(l.h (fun n:Nat=>pY (n:Int))).a=2*l.a:=by
    intro l
    induction l with
    | nil=>rfl
    | cons a l ih=>rw[iK,aR,ih];simp[pY];omega
   intro i;rw[h1,bJ];have:=UO.i;omega
  have HLT:=ab aus;clear aus;obtain⟨b0,hb0⟩:∃l:List UInt8,l=[69,aJ x.Ot.e]:=⟨_,rfl⟩
  have HB0:=ab (show b0.a=2 by rw[hb0];rfl);rw[<-hb0]at L1 HF;clear hb0;go_loopw [5,81] (fun s5 s81 wr=>∃(i:Nat)(A:Option aS)(m c:Nat),i<=5/\s81=.b .a i/\s5=.a A m c/\Ly w.a.j [(y7,sM (GX ns)),(w.a.j,x.ay)] w wr (.a A m c) (b0++(ns.d i).h (fun n:Nat=>pY (n:Int)))) (fun _ s81 _=>5-(intOf s81).e)
  case atStart=>exact⟨0,_,_,_,by omega,rfl,rfl,by rw[jX,List.flatMap_nil,uL];exact L1.i⟩
  case round=>
   obtain⟨i,A,m,c,hin,rfl,rfl,h⟩:=hrel;have HO:=ab h;clear h;have HL1:=ab (show(b0++(ns.d i).h (fun n:Nat=>pY (n:Int))).a<=12 by rw[aR];have:=HLT.i i;have:=HB0.i;omega);by_cases hlt:i<5
   ·have hi:(i:Int)<5:=by omega
    have hi0:(0:Int)<=i:=by omega
    have e1:=(HO.i.X.K.1 i).trans (ajT ns i (by rw[UO.i];exact hlt));have DR:=ab (adY (fun n:Nat=>pY (n:Int)) 0 ns i (by rw[UO.i];exact hlt));have hz:=HNB.i _ (Em 0 ns i (by rw[UO.i];exact hlt));obtain⟨z,hzz⟩:=dw (ns.b i 0);rw[<-hzz]at e1 DR hz;clear hzz;have cs:jm.wrap (z:Int)=(z:Int):=by rw[jQ];omega
    have PS:=ab (fun W=>wK z hz W);rw[vg z hz]at PS;have HLN:=ab (show(b0++(ns.d i).h (fun n:Nat=>pY (n:Int))).a+2<=1000000000 by have:=HL1.i;omega);go_wp2_with (first|(go_at_call 184;(with_reducible refine(PS.i _).g ?_);rintro e w8 ⟨A8,rfl,ho,hb⟩;have R8:=ab (Dn ho (aH _ _));have L4:=ab (HO.i.go hb);clear ho hb)|(at_builtin;refine kC rfl (.a 85) (.a 88) rfl rfl L4.i.o rfl R8.i HLN.i ?_;intro A9 n9 c9 w9 h2 h3;have L5:=ab (L4.i.step h3);clear h2 h3));go_roundw
    case rel=>exact⟨i+1,A9,n9,c9,by omega,by go_num,rfl,by rw[DR.i,<-dB];exact L5.i⟩
    case measure=>simp[intOf]<;>omega
   ·obtain rfl:i=5:=by omega
    have HFU:=ab (show ns.d 5=ns from aK (by rw[UO.i];omega));rw[HFU.i]at HO HL1;obtain⟨b1,hb1⟩:∃l:List UInt8,l=b0++ns.h (fun n:Nat=>pY (n:Int)):=⟨_,rfl⟩
    have HB1:=ab (show b1.a=12 by
     rw[hb1,aR,HB0.i];have h1:∀l:List Nat,(l.h (fun n:Nat=>pY (n:Int))).a=2*l.a:=by
      intro l
      induction l with
      | nil=>rfl
      | cons a l ih=>rw[iK,aR,ih];simp[pY];omega
     rw[h1,UO.i])
    rw[<-hb1]at HO HF;clear hb1 HFU HL1 hin hlt;have LY:=ab (show Ly w.a.j [(w.a.j,x.ay)] w wr (.a A m c) b1 from HO.i.VH);have RS:=ab (fun(w':ak) (h:dJ w' w.a.j x.ay)=>show gq w' w'.a.j (some ⟨w.a.j,9,none⟩) 4 (x.h.b.a.d 4)from(Ma (o:=8) h x.h (Fo.I7 x)).upN (by omega));have RD:=ab (fun(w':ak) (h:dJ w' w.a.j x.ay)=>show gq w' w'.a.j (some ⟨w.a.j,26,none⟩) 4 (x.Y.b.a.d 4)from(Ma (o:=25) h x.Y (Fo.I8 x)).upN (by omega));have LD:=ab LY.i.drew;have RSd:=ab (RS.i _ LD.i.X);obtain⟨A',c',hv⟩:=LD.i.o.Cu;have hm:m=b1.a:=by injection hv
    rw[HB1.i]at hm;subst hm;clear hv A' c';have LN1:=ab (show b1.a+4<=1000000000 by rw[HB1.i];decide);have LN2:=ab (show(b1++x.h.b.a.d 4).a+4<=1000000000 by rw[aR,bJ,HB1.i];omega);go_wp2_with fail;go_region_held_law (fun _=>True) (trivial)
     (first
     | (refine Ng (o:=⟨some 95,_,_,_,_,_⟩) rfl (.a 91) (.a 94) rfl (.a A 12 c) (some ⟨w.a.j,9,none⟩) 4 16 rfl LD.i.o rfl RSd.i LN1.i ?_;intro A6 n6 c6 w6 h8 h9;have L6:=ab (LD.i.step h9);have RDd:=ab (RD.i _ L6.i.X);clear h8 h9)
     | (refine Ng (o:=⟨some 99,_,_,_,_,_⟩) rfl (.a 95) (.a 98) rfl (.a A6 n6 c6) (some ⟨w.a.j,26,none⟩) 4 16 rfl L6.i.o rfl RDd.i LN2.i ?_;intro A7 n7 c7 w7 h8 h9;have L7:=ab (L6.i.step h9);clear h8 h9))
    go_wp2_with fail;rw[<-HF.i]at L7;have HFL:=ab (show(Du x).a=20 by simp[Du]);have HPF:=ab (show tQ x=r9 (Du x) 10 (pY (xg (Du x):Nat))by
     unfold tQ adV pY;rw[dQ,abE (by rw[HFL.i];omega)])
    obtain⟨fh,hfh⟩:∃l,l=Du x:=⟨_,rfl⟩
    rw[<-hfh]at L7 HFL HPF;clear hfh HF;obtain⟨g,hg1,hg2,hg3,hg4,hg5⟩:=L7.i.h (by rw[HFL.i];decide);rw[HFL.i]at hg2;subst hg1 hg2;have h10:(10:Int)<=c7:=by omega
    have L8:=L7.i.drew.new (#[bC (some ⟨g,0,none⟩) 20 c7]) 56;simp only[show w7.drew.a.j=w7.a.j from rfl,show∀(w:ak) ob,w.drew.alloc ob=(w.alloc ob).drew from fun _ _=>rfl]at L8;have L8:=ab L8;have hfr:gq w7 w7.a.j (some ⟨g,0,none⟩) 20 fh:=by have ho:=L7.i.o.vS;rw[HFL.i]at ho;exact gq.gU ho
    have CS:=ab (ahs ((w7.alloc (.D (#[bC (some ⟨g,0,none⟩) 20 c7]) 56)).drew) w7.a.j (some ⟨g,0,none⟩) 20 c7 w7.a.j fh (by decide) ((L8.i.X.K.1 0).trans rfl) (hfr.alloc (av _) _));have hsz:xg fh<=65535:=by unfold xg;omega
    obtain⟨z,hz⟩:=dw (xg fh);rw[<-hz]at CS HPF hsz;clear hz hfr;have q7:jm.wrap (z:Int)=(z:Int):=by rw[jQ];omega
    have PZ:=ab (fun W=>wK z hsz W);rw[vg z hsz]at PZ;have HP:=ab (show 0<2->∃g',(some ⟨g,0,none⟩:Option aS)=some ⟨g',0,none⟩/\vL (some ⟨g,0,none⟩) 10 c7 1=some ⟨g',10,none⟩from fun _=>⟨g,rfl,PY (n:=0) (by omega)⟩);have HZ:=ab (show 10+2<=fh.a by rw[HFL.i];decide);go_region_held_law (fun _=>True) (trivial)
     (first
     | (go_at_call 305;(with_reducible refine CS.i.g ?_);rintro e w8 ⟨rfl,rfl⟩)
     | (go_at_call 184;(with_reducible refine(PZ.i _).g ?_);rintro e w9 ⟨A9,rfl,ho,hb⟩;have R9:=ab (Dn ho (aH _ _));have L9:=ab (L8.i.go hb);clear ho hb)
     | (refine NR (o:=⟨some 107,_,_,_,_,_⟩) rfl (.a 101) (.a 106) rfl (some ⟨g,0,none⟩) 20 c7 L9.i 10 2 (vL (some ⟨g,0,none⟩) 10 c7 1) 10 (c7-10) rfl A9 2 2 rfl R9.i rfl HP.i HZ.i ?_;intro w10 h10 h11;have L10:=ab h10;clear h10 h11))
    go_wp2;go_ret2;rw[HPF.i];exact L10.i.toE
end
section
attribute [local go_sem high] iT jF
theorem Wv(x:Lc)(kind:Int)(fG:List Tg)(hf:∀t∈fG,abA t)(hi:∀t∈fG,tZ t.oq=true)(hn:fG.a<=2)(t0:0<=kind)(t1:kind<=65535)(ht:tZ kind=false)(w:ak)(hT:gX Tg.ay 2 w w.a.j x.VQ x.EH fG)
 (P:Option aS) (m mc:Nat) (sl:List Yb) (bss:List (List UInt8)) (hS:RdS w w.a.j P m sl) (hH:Nf w w.a.j sl bss) (hm:m<=1000) (hs:yI sl<=900000000) :
 aQ ah 102 #[.d x.ay,.b .a kind,.a P m mc] w (Kv w (qv x.Y x.h fG kind++bss.flatten)):=by
 have Z1:=ab ((Bx.start w).new x.ay 108);have fz:=Z1.i.X.K.2.1 13;have HT:=ab hT;have HS:=ab hS;have HH:=ab hH;have Z2:=ab (Z1.i.set (fun p hp=>by cases hp) 13 (.b .a kind));rw[Lc.Tx]at Z2;clear hT hS hH;go_enter Tryz.func102,Tryz.ntmps102;go_upto_region 1 with fail
 have c13:(w.alloc (.D x.ay 108)).b ⟨w.a.j,13,none⟩=some (.b .a x.oq):=(Z1.i.X.K.1 13).trans (Lc.DW x);generalize w.alloc (.D x.ay 108)=w1 at *;go_upto_region 2 with fail
 generalize w1.F ⟨w.a.j,13,none⟩ (.b .a kind)=w2 at *;clear c13 fz;have l3:=kLc.nC Z2.i.X (Lc.G _);have CL:=ab (ad3 ({x with oq:=kind}:Lc) fG hf hi hn t0 t1 ht w2 ((HT.i.S Z2.i.R).lD Z2.i.R.j));have HLB:=ab (show(qv x.Y x.h fG kind).a<=1000 from ajP hn);go_upto_region 3 with(go_at_call 185;(with_reducible refine CL.i.g ?_);rintro e w3 ⟨A3,n3,c3,rfl,hn3,ho3,hb3⟩;have N3:=ab hn3;have O3:=ab ho3;have B3:=ab (Z2.i.R.trans (hb3.g Z2.i.R.j));clear hn3 ho3 hb3)
 have C1:=ab (LC sl bss P m mc w3 ((HS.i.S B3.i).lD B3.i.j) ⟨HH.i.1,fun i hi=>((HH.i.2 i hi).S B3.i).lD B3.i.j⟩ hm (by omega));obtain⟨hb0,hhb⟩:∃l,l=qv x.Y x.h fG kind:=⟨_,rfl⟩
 rw[<-hhb]at N3 O3 HLB;have HHB:=ab hhb;clear hhb l3;have HFL:=ab (show bss.flatten.a<=900000000 by
  have:=VE HH.i sl.a (av _);rw[aK (av _),HH.i.1,aK (av _)]at this;omega)
 obtain⟨fl,hfl⟩:∃l,l=bss.flatten:=⟨_,rfl⟩
 unfold atL at C1;rw[<-hfl]at HFL C1;have HFB:=ab hfl;clear hfl;go_wp2_with (first
 | (go_at_call 181;(with_reducible refine C1.i.g ?_);rintro e w4 ⟨v4,rfl,ho4,hb4⟩;obtain⟨A4,c4,hv4,_,_⟩:=jG ho4;subst hv4;have O4:=ab ho4;have B4:=ab (B3.i.trans (hb4.g B3.i.j));have R3:=ab (gq.gU (jo O3.i hb4));have R4:=ab (gq.gU ho4);have C2:=ab (BI [⟨A3,n3,c3⟩,⟨A4,fl.a,c4⟩] [hb0,fl] 56 2 w4 rfl (.cons R3.i (.cons R4.i .nil)) (by omega) (by have:=N3.i;have:=HLB.i;have:=HFL.i;simp[yI];omega));clear ho4 hb4)
 | (go_at_call 181;(with_reducible refine C2.i.g ?_);rintro e w5 ⟨A5,m5,c5,rfl,hm5,_,TJ,hb5⟩;have O5:=ab TJ;have N5:=ab hm5;have B5:=ab hb5;clear hm5 TJ hb5))
 go_ret;have e2:[hb0,fl].flatten=hb0++fl:=by simp
 have ho:=O5.i;have hnn:=N5.i;rw[e2,HHB.i,HFB.i]at ho hnn;exact⟨A5,m5,c5,rfl,hnn,iG ho (ql B4.i.j),B4.i.trans (B5.i.g B4.i.j)⟩
end
section
attribute [local go_sem high] iT jF
theorem aqr{w:ak}{y:Nat}{a b c:Array aB}(h:w.a.j+1<y):∀p∈[(y+1,a),(w.a.j+1,b),(w.a.j,c)],p.1≠y:=fun r hr=>by
 simp only[bB,fJ,or_false]at hr;rcases hr with rfl|rfl|rfl<;>simp only[]<;>omega
theorem am'{w:ak}{y:Nat}{a b c:Array aB}(h:w.a.j+1<y):∀p∈[(y,a),(w.a.j+1,b),(w.a.j,c)],p.1≠y+1:=fun r hr=>by
 simp only[bB,fJ,or_false]at hr;rcases hr with rfl|rfl|rfl<;>simp only[]<;>omega
theorem ana(l:List UInt8):((Jj l).a:Int)=(Sj l).dz:=by
 unfold Jj Sj;split
 ·simp[sQ]
 ·have:=ad7 (mq l).1.oq (l.f (mq l).1.at_)
  rw[bJ];omega
theorem anb(l:List UInt8)(s d:fu):GV l s d =
 (if(Sj l).ok=false then([],3)else if am0 s d=false then([],1)else if s.h=true then if((Jj l).a:Int)>65535 then([],4)
 else(qv (mq l).1.Y (mq l).1.h (mq l).1.fG 34525++wU ⟨40,40+((Jj l).a:Int),64,false,0,if(mq l).1.oq=34525 then 41 else 4,s,d⟩++Jj l,0)
 else if 20+((Jj l).a:Int)>65535 then([],4)
  else(qv (mq l).1.Y (mq l).1.h (mq l).1.fG 2048++tQ ⟨20,20+((Jj l).a:Int),0,0,false,true,64,if(mq l).1.oq=34525 then 41 else 4,s,d⟩++Jj l,0)):=by
 rw[ana];unfold GV Jj Sj;by_cases h:(mq l).2≠0
 ·rw[if_pos h,if_pos h,if_pos (by rfl)]
 ·rw[if_neg h,if_neg h,if_neg h]
theorem ags(w:ak)(A:Option aS)(n c:Nat)(l:List UInt8)(s d:fu)(hnc:n<=c)(hc:c<=9223372036854775807/\n<=1000000)(hr:gq w w.a.j A n l):aQ ah 207 #[.a A n c,.d s.ay,.d d.ay] w (ajJ w (GV l s d)):=by
 have h0:=((Bx.start w).new s.ay 27).new d.ay 27;rw[show(w.alloc (.D s.ay 27)).a.j=w.a.j+1 by simp]at h0;have Z0:=ab h0;have CC:=ab (ajR _ A n c l hnc hc (h0.NA hr));have HW:=ab (anb l s d);clear h0 hr;go_enter Tryz.func207,Tryz.ntmps207;go_upto_region 1 with fail
 generalize(w.alloc (.D s.ay 27)).alloc (.D d.ay 27)=w0 at Z0 CC ⊢;obtain⟨k,hk⟩:=dw ((mq l).1);obtain⟨g,hg⟩:=dw (Sj l);obtain⟨pk,hpk⟩:∃q,q=Jj l:=⟨_,rfl⟩
 have HK:=ab hk;unfold ayM at CC;rw[<-hk,<-hg,<-hpk]at CC HW;clear hk hg hpk;go_upto_region 2 with(go_at_call 99;(with_reducible refine CC.i.g ?_);rintro e w1 ⟨TA,tc,PA,pn,pc,rfl,hT,hP,hpc,ayR,hb1⟩;have zn:=((Z0.i.go hb1).new qJ.ay 108).new sQ.ay 179;rw[sZ]at zn;have hsz:=(Z0.i.go hb1).X.lt;have ZN:=ab zn;have auJ:=ZN.i.b1.O 0 15 (aW (Lc.G qJ).symm);have Z2:=ab ((ZN.i.sub (L':=[(w1.a.j,qJ.ay),(w1.a.j+1,sQ.ay),(w.a.j+1,d.ay),(w.a.j,s.ay)]) (by simp)).put (aqr hsz) (k.cell TA tc).ay (by rw[Lc.G,Lc.G]));have auK:=Z2.i.b1.O 0 5 (aW (Tn.G sQ).symm);have Z1:=ab ((Z2.i.sub (L':=[(w1.a.j+1,sQ.ay),(w1.a.j,(k.cell TA tc).ay),(w.a.j+1,d.ay),(w.a.j,s.ay)]) (by simp)).put (am' hsz) g.ay (by rw[Tn.G,Tn.G]));have Qy:=ab (kR (kR ((((aH w1.a.j w1).alloc (av _) (.D qJ.ay 108)).alloc (by simp) (.D sQ.ay 179))) w1.a.j 0 (k.cell TA tc).ay (av _)) (w1.a.j+1) 0 g.ay (Nat.le_succ _));have RT:=ab (hT.S Qy.i);have RP:=ab (hP.S Qy.i);have HPC:=ab (And.intro hpc ayR);clear zn hpc ayR;clear hb1 hT hP)
 have YL:=ab (show w1.a.j<=(gI (gI ((w1.alloc (.D qJ.ay 108)).alloc (.D sQ.ay 179)) w1.a.j 0 (k.cell TA tc).ay) (w1.a.j+1) 0 g.ay).a.j from Qy.i.j);have HY:=ab hsz;clear auJ auK ZN Z2 Qy hsz;generalize gI (gI ((w1.alloc (.D qJ.ay 108)).alloc (.D sQ.ay 179)) w1.a.j 0 (k.cell TA tc).ay) (w1.a.j+1) 0 g.ay=w2 at Z1 RT RP YL ⊢;generalize w1.a.j=y8 at *;have hpn:=ab RP.i.len;have KS:=ab (fun(w':ak) (h:Bx [(y8+1,g.ay),(y8,(k.cell TA tc).ay),(w.a.j+1,d.ay),(w.a.j,s.ay)] w w')=>show w'.b ⟨y8+1,4,none⟩=some (.e g.ok)/\w'.b ⟨w.a.j,0,none⟩=some (.e s.h)/\w'.b ⟨w.a.j+1,0,none⟩=some (.e d.h)/\(rJ (.c (some ⟨w.a.j,0,none⟩))).I ah w'=.ok (.d s.ay) w'/\(rJ (.c (some ⟨w.a.j+1,0,none⟩))).I ah w'=.ok (.d d.ay) w'/\w'.b ⟨y8,13,none⟩=some (.b .a k.oq)/\(xu 108 (.c (some ⟨y8,0,none⟩))).I ah w'=.ok (.d (k.cell TA tc).ay) w' from⟨(h.X.K.1 4).trans (Tn.ayh g),(h.b3.K.1 0).trans (fu.pW s),(h.b2.K.1 0).trans (fu.pW d),h.b3.ahX,h.b2.ahX,(h.b1.K.1 13).trans (Lc.DW _),kLc.nC h.b1 (Lc.G _)⟩);obtain⟨f1,f2,f3,f4,f5,f6,f7⟩:=KS.i _ Z1.i;have CP:=ab adW;cases hok:g.ok
 ·rw[hok]at f1
  go_wp2;go_ret2;rw[HW.i,if_pos hok];exact⟨none,0,0,rfl,Kw _,Z1.i.R⟩
 rw[hok]at f1;have HWO:=ab (HW.i.trans (if_neg (by rw[hok];simp)));clear HW;have HFM:=ab (show am0 s d=(s.h==d.h&&(s.h||s.mJ&&d.mJ))from rfl);have NOF:=ab (show am0 s d=false->GV l s d=([],1)from fun h=>HWO.i.trans (if_pos h));cases h6:s.h<;>cases g6:d.h
 case false.true=>
  rw[h6]at f2 HFM;rw[g6]at f3 HFM;go_wp2;go_ret2;rw[NOF.i HFM.i];exact⟨none,0,0,rfl,Kw _,Z1.i.R⟩
 case true.false=>
  rw[h6]at f2 HFM;rw[g6]at f3 HFM;go_wp2;go_ret2;rw[NOF.i HFM.i];exact⟨none,0,0,rfl,Kw _,Z1.i.R⟩
 case true.true=>
  have HH6:=ab h6;have HG6:=ab g6;rw[h6]at f2 HFM;rw[g6]at f3 HFM;clear g6;have HWX:=ab (HWO.i.trans ((if_neg (by rw[HFM.i];simp)).trans (if_pos h6)));clear h6;have hty:(k.oq==34525)=true/\(if k.oq=34525 then(41:Int)else 4)=41\/(k.oq==34525)=false/\(if k.oq=34525 then(41:Int)else 4)=4:=by
   by_cases h:k.oq=34525
   ·exact .a ⟨by simpa using h,if_pos h⟩
   ·exact .b ⟨by simpa using h,if_neg h⟩
  by_cases hT:65535<pn
  ·have qt:decide ((65535:Int)<pn)=true:=by simp;omega
   go_wp2
   all_goals
    go_ret2;rw[HWX.i,if_pos (by have:=hpn.i;omega)];exact⟨none,0,0,rfl,Kw _,Z1.i.R⟩
  have qt:decide ((65535:Int)<pn)=false:=by simp;omega
  have MX:=ab (HWX.i.trans (if_neg (by have:=hpn.i;omega)));have q5:=jS (40+(pn:Int)) (by omega);rcases hty with⟨qty,hpp⟩|⟨qty,hpp⟩
  case' inl=>
   rw[hpp,hpn.i]at MX;clear hpp;have CS:=ab (fun W'=>Wr (Sx.mk 40 (40+pn) 64 false 0 41 s d) pn (by omega) rfl rfl (show(0:Int)<=41 by decide) (show(41:Int)<=255 by decide) (by rfl) (show(0:Int)<=64 by decide) (show(64:Int)<=255 by decide) rfl rfl HH6.i HG6.i W');go_upto_region 14 with(go_at_call 270;(with_reducible refine(CS.i _).g ?_);rintro e w5 ⟨A5,n5,c5,rfl,hn5,TJ,hb5⟩;have Z5:=ab (Z1.i.go hb5);have N5:=ab hn5;have R5:=ab (gq.gU TJ);have B5:=ab hb5;clear hn5 TJ hb5)
   clear f1 f2 f3 f4 f5 f6 f7 q5 qt qty;obtain⟨_,_,_,_,_,_,f7⟩:=KS.i _ Z5.i;obtain⟨sb,hsb⟩:∃l,l=wU (Sx.mk 40 (40+pn) 64 false 0 41 s d):=⟨_,rfl⟩
  case' inr=>
   rw[hpp,hpn.i]at MX;clear hpp;have CS:=ab (fun W'=>Wr (Sx.mk 40 (40+pn) 64 false 0 4 s d) pn (by omega) rfl rfl (show(0:Int)<=4 by decide) (show(4:Int)<=255 by decide) (by rfl) (show(0:Int)<=64 by decide) (show(64:Int)<=255 by decide) rfl rfl HH6.i HG6.i W');go_upto_region 14 with(go_at_call 270;(with_reducible refine(CS.i _).g ?_);rintro e w5 ⟨A5,n5,c5,rfl,hn5,TJ,hb5⟩;have Z5:=ab (Z1.i.go hb5);have N5:=ab hn5;have R5:=ab (gq.gU TJ);have B5:=ab hb5;clear hn5 TJ hb5)
   clear f1 f2 f3 f4 f5 f6 f7 q5 qt qty;obtain⟨_,_,_,_,_,_,f7⟩:=KS.i _ Z5.i;obtain⟨sb,hsb⟩:∃l,l=wU (Sx.mk 40 (40+pn) 64 false 0 4 s d):=⟨_,rfl⟩
  all_goals
   have HSL:=ab (show sb.a=40 by rw[hsb,ad6]);rw[<-hsb]at MX N5 R5;clear hsb;have BA:=ab (Below.alloc (aH w5.a.j w5) (av _) (.D (yR [⟨A5,n5,c5⟩,⟨PA,pn,pc⟩]) 56));have TG:=Wq l;have TI:=P5 l;rw[<-HK.i]at TG TI;have RT5:=((RT.i.S (B5.i.g YL.i)).S (BA.i.g (aO YL.i B5.i.j))).lD (aO YL.i (aO B5.i.j BA.i.j));have RP5:=((RP.i.S (B5.i.g YL.i)).S (BA.i.g (aO YL.i B5.i.j))).lD (aO YL.i (aO B5.i.j BA.i.j));have CJ:=ab (Wv (k.cell TA tc) 34525 k.fG TG.1 TI TG.2 (by decide) (by decide) (by decide) _ RT5 (some ⟨w5.a.j,0,none⟩) 2 2 [⟨A5,n5,c5⟩,⟨PA,pn,pc⟩] [sb,pk] (RdS.lit w5 [⟨A5,n5,c5⟩,⟨PA,pn,pc⟩] 56) (.cons ((R5.i.S BA.i).lD BA.i.j) (.cons RP5 .nil)) (by omega) (by have:=N5.i;have:=HSL.i;have:=HPC.i;simp[yI];omega));clear TG TI RT5 RP5;go_wp2_with (go_at_call 102;(with_reducible refine CJ.i.g ?_);rintro e w8 ⟨A8,n8,c8,rfl,hn8,ho8,Yt⟩;have N8:=ab hn8;have R8:=ab (gq.gU ho8);have B8:=ab Yt;clear hn8 ho8 Yt);go_ret2;have e2:qv k.Y k.h k.fG 34525++[sb,pk].flatten=qv k.Y k.h k.fG 34525++sb++pk:=by simp
   rw[MX.i];refine⟨A8,n8,c8,rfl,?_,Z5.i.R.trans ((BA.i.trans (B8.i.g BA.i.j)).g Z5.i.R.j)⟩;have:=R8.i
   rwa [show(k.cell TA tc).Y=k.Y from rfl,show(k.cell TA tc).h=k.h from rfl,e2]at this
 case false.false=>
  have HH6:=ab h6;have HG6:=ab g6;rw[h6]at f2 HFM;rw[g6]at f3 HFM;simp only[h6,g6]at KS;clear g6;have CP1:=ab (fun W=>CP.i s W);have CP2:=ab (fun W=>CP.i d W);cases hs:s.mJ
  ·rw[hs]at CP1 HFM
   clear hs;go_wp2_with (go_at_call 269;(with_reducible refine(CP1.i _).g ?_);rintro e w4 ⟨rfl,hb⟩;have Z4:=ab (Z1.i.go hb);clear f1 f2 f3 f4 f5 f6 f7;obtain⟨f1,f2,f3,f4,f5,f6,f7⟩:=KS.i _ Z4.i;clear hb);go_ret2;rw[NOF.i HFM.i];exact⟨none,0,0,rfl,Kw _,Z4.i.R⟩
  cases hd:d.mJ
  ·rw[hs]at CP1 HFM
   rw[hd]at CP2 HFM;clear hs hd;go_wp2_with (go_at_call 269;(first|((with_reducible refine(CP1.i _).g ?_);rintro e w4 ⟨rfl,hb⟩;have Z4:=ab (Z1.i.go hb);clear f1 f2 f3 f4 f5 f6 f7;obtain⟨f1,f2,f3,f4,f5,f6,f7⟩:=KS.i _ Z4.i;clear hb)|((with_reducible refine(CP2.i _).g ?_);rintro e w5 ⟨rfl,hb⟩;have Z5:=ab (Z4.i.go hb);clear f1 f2 f3 f4 f5 f6 f7;obtain⟨f1,f2,f3,f4,f5,f6,f7⟩:=KS.i _ Z5.i;clear hb)));go_ret2;rw[NOF.i HFM.i];exact⟨none,0,0,rfl,Kw _,Z5.i.R⟩
  have HS4:=ab (show(!s.h&&s.mJ)=true by rw[HH6.i,hs];rfl);have HD4:=ab (show(!d.h&&d.mJ)=true by rw[HG6.i,hd];rfl);rw[hs]at CP1 HFM;rw[hd]at CP2 HFM;clear hs hd;have HWX:=ab (HWO.i.trans ((if_neg (by rw[HFM.i];simp)).trans (if_neg (by rw[h6];simp))));clear h6;have hty:(k.oq==34525)=true/\(if k.oq=34525 then(41:Int)else 4)=41\/(k.oq==34525)=false/\(if k.oq=34525 then(41:Int)else 4)=4:=by
   by_cases h:k.oq=34525
   ·exact .a ⟨by simpa using h,if_pos h⟩
   ·exact .b ⟨by simpa using h,if_neg h⟩
  have q5:=jS (20+(pn:Int)) (by have:=HPC.i;omega);go_upto_region 7 with(go_at_call 269;(first|((with_reducible refine(CP1.i _).g ?_);rintro e w4 ⟨rfl,hb⟩;have Z4:=ab (Z1.i.go hb);have B4:=ab hb;clear f1 f2 f3 f4 f5 f6 f7;obtain⟨f1,f2,f3,f4,f5,f6,f7⟩:=KS.i _ Z4.i;clear hb)|((with_reducible refine(CP2.i _).g ?_);rintro e w5 ⟨rfl,hb⟩;have Z5:=ab (Z4.i.go hb);have B5:=ab (B4.i.trans (hb.g B4.i.j));clear f1 f2 f3 f4 f5 f6 f7;obtain⟨f1,f2,f3,f4,f5,f6,f7⟩:=KS.i _ Z5.i;clear hb)))
  by_cases hT:65535<20+pn
  ·have qt:decide ((65535:Int)<20+(pn:Int))=true:=by simp;omega
   go_wp2
   all_goals
    go_ret2;rw[HWX.i,if_pos (by have:=hpn.i;omega)];exact⟨none,0,0,rfl,Kw _,Z5.i.R⟩
  have qt:decide ((65535:Int)<20+(pn:Int))=false:=by simp;omega
  have MX:=ab (HWX.i.trans (if_neg (by have:=hpn.i;omega)));rcases hty with⟨qty,hpp⟩|⟨qty,hpp⟩
  case' inl=>
   rw[hpp,hpn.i]at MX;clear hpp;have CS:=ab (fun W'=>QU (Fo.mk 20 (20+pn) 0 0 false true 64 41 s d) rfl (show(0:Int)<=0 by decide) (show(0:Int)<=255 by decide) (show 20<=20+(pn:Int)by omega) (show 20+(pn:Int)<=65535 by omega) (show(0:Int)<=0 by decide) (show(0:Int)<=65535 by decide) (show(0:Int)<=64 by decide) (show(64:Int)<=255 by decide) (show(0:Int)<=41 by decide) (show(41:Int)<=255 by decide) rfl HS4.i HD4.i W');go_upto_region 18 with(go_at_call 271;(with_reducible refine(CS.i _).g ?_);rintro e w7 ⟨A5,n5,c5,rfl,hn5,TJ,hb5⟩;have Z7:=ab (Z5.i.go hb5);have N5:=ab hn5;have R5:=ab (gq.gU TJ);have B7:=ab (B5.i.trans (hb5.g B5.i.j));clear hn5 TJ hb5)
   clear f1 f2 f3 f4 f5 f6 f7 q5 qt qty;obtain⟨_,_,_,_,_,_,f7⟩:=KS.i _ Z7.i;obtain⟨sb,hsb⟩:∃l,l=tQ (Fo.mk 20 (20+pn) 0 0 false true 64 41 s d):=⟨_,rfl⟩
  case' inr=>
   rw[hpp,hpn.i]at MX;clear hpp;have CS:=ab (fun W'=>QU (Fo.mk 20 (20+pn) 0 0 false true 64 4 s d) rfl (show(0:Int)<=0 by decide) (show(0:Int)<=255 by decide) (show 20<=20+(pn:Int)by omega) (show 20+(pn:Int)<=65535 by omega) (show(0:Int)<=0 by decide) (show(0:Int)<=65535 by decide) (show(0:Int)<=64 by decide) (show(64:Int)<=255 by decide) (show(0:Int)<=4 by decide) (show(4:Int)<=255 by decide) rfl HS4.i HD4.i W');go_upto_region 18 with(go_at_call 271;(with_reducible refine(CS.i _).g ?_);rintro e w7 ⟨A5,n5,c5,rfl,hn5,TJ,hb5⟩;have Z7:=ab (Z5.i.go hb5);have N5:=ab hn5;have R5:=ab (gq.gU TJ);have B7:=ab (B5.i.trans (hb5.g B5.i.j));clear hn5 TJ hb5)
   clear f1 f2 f3 f4 f5 f6 f7 q5 qt qty;obtain⟨_,_,_,_,_,_,f7⟩:=KS.i _ Z7.i;obtain⟨sb,hsb⟩:∃l,l=tQ (Fo.mk 20 (20+pn) 0 0 false true 64 4 s d):=⟨_,rfl⟩
  all_goals
   have HSL:=ab (show sb.a=20 by rw[hsb,Wt]);rw[<-hsb]at MX N5 R5;clear hsb;have BA:=ab (Below.alloc (aH w7.a.j w7) (av _) (.D (yR [⟨A5,n5,c5⟩,⟨PA,pn,pc⟩]) 56));have TG:=Wq l;have TI:=P5 l;rw[<-HK.i]at TG TI;have RT5:=((RT.i.S (B7.i.g YL.i)).S (BA.i.g (aO YL.i B7.i.j))).lD (aO YL.i (aO B7.i.j BA.i.j));have RP5:=((RP.i.S (B7.i.g YL.i)).S (BA.i.g (aO YL.i B7.i.j))).lD (aO YL.i (aO B7.i.j BA.i.j));have CJ:=ab (Wv (k.cell TA tc) 2048 k.fG TG.1 TI TG.2 (by decide) (by decide) (by decide) _ RT5 (some ⟨w7.a.j,0,none⟩) 2 2 [⟨A5,n5,c5⟩,⟨PA,pn,pc⟩] [sb,pk] (RdS.lit w7 [⟨A5,n5,c5⟩,⟨PA,pn,pc⟩] 56) (.cons ((R5.i.S BA.i).lD BA.i.j) (.cons RP5 .nil)) (by omega) (by have:=N5.i;have:=HSL.i;have:=HPC.i;simp[yI];omega));clear TG TI RT5 RP5;go_wp2_with (go_at_call 102;(with_reducible refine CJ.i.g ?_);rintro e w8 ⟨A8,n8,c8,rfl,hn8,ho8,Yt⟩;have N8:=ab hn8;have R8:=ab (gq.gU ho8);have B8:=ab Yt;clear hn8 ho8 Yt);go_ret2;have e2:qv k.Y k.h k.fG 2048++[sb,pk].flatten=qv k.Y k.h k.fG 2048++sb++pk:=by simp
   rw[MX.i];refine⟨A8,n8,c8,rfl,?_,Z7.i.R.trans ((BA.i.trans (B8.i.g BA.i.j)).g Z7.i.R.j)⟩;have:=R8.i
   rwa [show(k.cell TA tc).Y=k.Y from rfl,show(k.cell TA tc).h=k.h from rfl,e2]at this
end
section
attribute [local go_sem high] iT jF
end
def Agr(l m:List UInt8)(a b:Nat):Prop:=∀j,a<=j->j<b->m.b j 0=l.b j 0
section
variable {l m:List UInt8} {a b:Nat}
theorem Agr.two(h:Agr l m a b){k:Nat}(h1:a<=k)(h2:k+2<=b):eU m k=eU l k:=by
 unfold eU;rw[h k (by omega) (by omega),h (k+1) (by omega) (by omega)]
theorem Zp(l:List UInt8)(z j:Nat):(l.f z).b j 0=l.b (z+j) 0:=by simp[au]
theorem Zq(l:List UInt8)(z j:Nat):(l.d z).b j 0=if j<z then l.b j 0 else 0:=by
 simp only[au,jd];split<;>rfl
end
theorem agt{l:List UInt8}(h:(qV l).kind=0):(mq l).2=0/\((mq l).1.oq=2048\/(mq l).1.oq=34525)/\(mO l).2=0/\(mO l).1.oG=false/\((mO l).1.aP=6\/(mO l).1.aP=17)/\(LV l).2=0 /\
 qV l=⟨0,⟨(mO l).1.h,(mO l).1.Y,(mO l).1.aP,(LV l).1.kV,(LV l).1.jR⟩,(LV l).1.uX,(mq l).1.at_,(mq l).1.at_+(mO l).1.head,(mq l).1.at_+(mO l).1.dz⟩:=by
 unfold qV at h ⊢;by_cases h1:(mq l).2≠0
 ·rw[if_pos h1]at h;cases h
 rw[if_neg h1]at h ⊢;by_cases h2:(mq l).1.oq≠2048/\(mq l).1.oq≠34525
 ·rw[if_pos h2]at h;cases h
 rw[if_neg h2]at h ⊢;by_cases h3:(mO l).2≠0
 ·rw[if_pos h3]at h;cases h
 rw[if_neg h3]at h ⊢;by_cases h4:(mO l).1.oG=true
 ·rw[if_pos h4]at h;cases h
 rw[if_neg h4]at h ⊢;by_cases h5:(mO l).1.aP≠6/\(mO l).1.aP≠17
 ·rw[if_pos h5]at h;cases h
 rw[if_neg h5]at h ⊢;by_cases h6:(LV l).2≠0
 ·rw[if_pos h6]at h;cases h
 rw[if_neg h6]at h ⊢;exact⟨by omega,by omega,by omega,by simpa using h4,by omega,by omega,rfl⟩
theorem Zr(l:List UInt8)(z k:Nat):eU (l.f z) k=eU l (z+k):=by unfold eU;rw[Zp,Zp,mZ]
theorem ajU{l:List UInt8}(h:(qV l).kind=0):(qV l).J.h=(if(qV l).J.h.h then ajz (l.f ((qV l).Cw.e+8))else Jc (l.f ((qV l).Cw.e+12)))/\(qV l).J.Y=(if(qV l).J.h.h then ajz (l.f ((qV l).Cw.e+24))else Jc (l.f ((qV l).Cw.e+16)))/\(qV l).J.kV=eU l (qV l).tq.e/\(qV l).J.jR=eU l ((qV l).tq.e+2):=by
 have F:=NM h;obtain⟨k1,k2,k3,k4,k5,k6,kp⟩:=agt h;have f5:=F.Gh;have f3:=F.tq;have f2:=F.Cw;have f6:=F.len;have hp:(qV l).J.kV=eU l (qV l).tq.e/\(qV l).J.jR=eU l ((qV l).tq.e+2):=by
  rw[kp]at f5 f3 f2 f6 ⊢;simp only at f5 f3 f2 f6 ⊢;have e0:uZ (mO l).1.aP ((l.d ((mq l).1.at_+(mO l).1.dz.e)).f ((mq l).1.at_+(mO l).1.head.e))=0:=by
   unfold LV Je at k6;split at k6
   ·assumption
   ·rename_i hx;exact absurd k6 hx
  have e1:LV l=(qp (mO l).1.aP ((l.d ((mq l).1.at_+(mO l).1.dz.e)).f ((mq l).1.at_+(mO l).1.head.e)),0):=VT e0;have hd:0<=(mO l).1.head/\0<=(mO l).1.dz/\(mO l).1.head+8<=(mO l).1.dz:=by
   split at f3<;>split at f5<;>omega
  have e2:((mq l).1.at_+(mO l).1.head:Int).e=(mq l).1.at_+(mO l).1.head.e:=by omega
  rw[e1,e2];have ag:Agr l (l.d ((mq l).1.at_+(mO l).1.dz.e)) 0 ((mq l).1.at_+(mO l).1.dz.e):=fun j _ hj=>by rw[Zq,if_pos hj]
  have a1:=ag.two (k:=(mq l).1.at_+(mO l).1.head.e) (by omega) (by omega);have a2:=ag.two (k:=(mq l).1.at_+(mO l).1.head.e+2) (by omega) (by omega);constructor
  ·rw[<-a1];unfold qp;split<;>simp only[Zr,nD]
  ·rw[<-a2];unfold qp;split<;>simp only[Zr]
 refine⟨?_,?_,hp⟩
 all_goals
  rw[kp];simp only[dQ];unfold mO Zk at k3 ⊢;by_cases ht:(mq l).1.oq=2048
  ·rw[if_pos ht]at k3 ⊢
   have es:=ahU (l:=l.f (mq l).1.at_) k3;have e0:Dr (l.f (mq l).1.at_)=0:=by
    simp only at k3;unfold zV at k3;split at k3
    ·assumption
    ·rename_i hx;exact absurd k3 hx
   simp only[es.1];unfold zV;rw[if_pos e0];simp[PI]
  ·rw[if_neg ht]at k3 ⊢
   have es:=ahT (l:=l.f (mq l).1.at_) k3;simp only[es.1,if_true];simp only at k3;unfold AQ at k3 ⊢;by_cases h1:(l.f (mq l).1.at_).a<40
   ·rw[if_pos h1]at k3;cases k3
   rw[if_neg h1]at k3 ⊢;by_cases h2:nO (l.f (mq l).1.at_) 0/16≠6
   ·rw[if_pos h2]at k3;cases k3
   rw[if_neg h2]at k3 ⊢;by_cases h3:(l.f (mq l).1.at_).a<40+eU (l.f (mq l).1.at_) 4
   ·rw[if_pos h3]at k3;cases k3
   rw[if_neg h3]at k3 ⊢
   first|rw[(Wm 8 _ _ k3).1]|rw[(Wm 8 _ _ k3).2]
   simp[sx0]
theorem ah0(l:List UInt8):0<=(qV l).kind/\(qV l).kind<=6:=by
 unfold qV xM
 repeat' split
 all_goals simp
theorem aqs(e:En)(v:Vp)(b:Bk)(t:Tu)(l:List UInt8):(Jh e v b t l).1=0\/(Jh e v b t l).1=9\/(Jh e v b t l).1=10:=by
 unfold Jh
 repeat' split
 all_goals simp
theorem agu(e:En)(s:pG)(l:List UInt8):0<=(rV e s l).iW/\(rV e s l).iW<=10:=by
 have h1:=ah0 l;unfold rV;split
 ·split
  ·split
   ·rename_i i _ _ b uM _
    have:=aqs e (e.vs.b i nM) b (qV l).J l;split<;>simp only<;>omega
   ·simp
  ·simp
 ·simp only;omega
theorem Ww{e:En}{s:pG}{l:List UInt8}(h:(rV e s l).iW=0):(qV l).kind=0/\∃i,xw e.vs (qV l).J.Y (qV l).J.aP (qV l).J.jR=some i/\Dv e s (qV l).J=some ((rV e s l).h,(rV e s l).uM)/\(Jh e (e.vs.b i nM) (rV e s l).h (qV l).J l).1=0/\(rV e s l).i=(Jh e (e.vs.b i nM) (rV e s l).h (qV l).J l).2:=by
 unfold rV at h ⊢;by_cases h1:(qV l).kind=0
 ·rw[if_pos h1]at h ⊢
  cases hv:xw e.vs (qV l).J.Y (qV l).J.aP (qV l).J.jR with
  | none=>rw[hv]at h;simp at h
  | some i=>
    rw[hv]at h;simp only at h ⊢;cases hb:Dv e s (qV l).J with
    | none=>rw[hb]at h;simp at h
    | some bh=>
      obtain⟨b,uM⟩:=bh;rw[hb]at h;simp only at h ⊢;by_cases ho:(Jh e (e.vs.b i nM) b (qV l).J l).1=0
      ·rw[if_pos ho];exact⟨h1,i,rfl,rfl,ho,rfl⟩
      ·rw[if_neg ho]at h;exact absurd h ho
 ·rw[if_neg h1]at h;exact absurd h h1
theorem Wx{s:pG}{t:Tu}{n:List UInt8}(h:NT s t=some n):∃f,lX s.h t=some f/\f.E=n/\rE s.qU n=true/\qZ (j6 s.G) n=false:=by
 unfold NT at h;split at h
 ·rename_i f hf
  split at h
  ·rename_i hc
   injection h with h
   subst h;simp only[bf,nY]at hc;exact⟨f,hf,rfl,hc.1,hc.2⟩
  ·cases h
 ·cases h
theorem anc{s:pG}{t:Tu}{f:Fw}(hf:lX s.h t=some f)(h1:rE s.qU f.E=true)(h2:qZ (j6 s.G) f.E=false):NT s t=some f.E:=by
 unfold NT;rw[hf];simp only;rw[h1,h2];rfl
theorem NU{f:Fw}:∀{l:List Fw},(∀x∈l,x.no<f.no)->ins kS f l=l++[f]
 | [],_=>by simp[ins]
 | x::l,h=>by
   have h1:=ajn (h x (by simp));have ih:=NU (l:=l) (fun y hy=>h y (jy _ hy));unfold ins;rw[if_neg (by rw[h1.1];simp),ih];rfl
theorem ane{room:Int}{l:List Fw}{f:Fw}(hok:zU f=true)(h:∀x∈l,x.no<f.no):∃m,BM room l f=m++[f]/\∀x∈m,x∈l/\x.key≠f.key:=by
 unfold BM;rw[if_pos hok];split
 ·rw[NU (fun x hx=>h x ((Nn l f.key).subset hx))]
  exact⟨_,rfl,fun x hx=>⟨(Nn l f.key).subset hx,amy x hx⟩⟩
 ·rename_i hn
  have hno:=zf (show lX l f.key=none by simpa using hn);split
  ·rw[NU (fun x hx=>h x (vY hx))]
   exact⟨_,rfl,fun x hx=>⟨vY hx,hno x (vY hx)⟩⟩
  ·rw[NU h]
   exact⟨_,rfl,fun x hx=>⟨hx,hno x hx⟩⟩
theorem ajV{m:List Fw}{f:Fw}(h:∀x∈m,x.key≠f.key):lX (m++[f]) f.key=some f:=by
 unfold lX;rw[List.find?_append];have:m.find? (qF f.key)=none:=by
  rw[rz];intro x hx;simp[qF,h x hx]
 rw[this];simp[qF]
theorem aqt{ls:List (List UInt8)}{qU:List Bk}{key:Vector UInt8 16}{n h:Nat}{m:List UInt8}(hp:kZ n=true)(hpk:Dk (uz key n (kr ls qU)) h=some m):∃x∈qU,x.E=m/\x.drain=false/\qZ ls m=false:=by
 have h0:∀x∈kr ls qU,0<=x.q:=fun x hx=>by
  unfold kr at hx;obtain⟨y,_,rfl⟩:=iQ.1 hx;unfold Gb;simp only;split
  ·exact Int.le_refl _
  ·exact Int.natCast_nonneg _
 unfold Dk at hpk;rcases YR (key:=key) hp h0 with⟨h1,_⟩|⟨h1,h2⟩
 ·rw[h1]at hpk;simp at hpk
 ·have hn:0<n:=by
   rcases dY n with e|e
   ·subst e;rw[h1]at hpk;simp at hpk
   ·exact e
  rw[if_neg (by omega),h1]at hpk;injection hpk with hpk
  obtain⟨i,hi,hs⟩:=h2 (h%n) (fE _ hn);rw[hs,dQ,au,aC hi,jr]at hpk;have hm:m∈(uz key n (kr ls qU)).h:=by rw[<-hpk];exact dR hi
  unfold uz at hm;simp only at hm;split at hm
  ·simp at hm
  ·obtain⟨x,hx,rfl⟩:=iQ.1 hm
   obtain⟨hx1,hx2⟩:=mh.1 hx;unfold kr at hx1;obtain⟨y,hy,rfl⟩:=iQ.1 hx1;refine⟨y,hy,rfl,?_⟩;unfold Gb at hx2 ⊢;simp only at hx2 ⊢;cases hd:y.drain<;>cases ho:qZ ls y.E<;>rw[hd,ho]at hx2<;>simp at hx2;exact⟨rfl,rfl⟩
theorem mP.srt{M:Int}{e:En}{s:pG}(h:mP M e s):Es s.qU:=(tK.1 h.pl).2.2.2.2
theorem NV{M:Int}{e:En}{s:pG}(h:mP M e s){t:Tu}{b:Bk}{uM:Bool}(hb:Dv e s t=some (b,uM)):b∈s.qU/\qZ (j6 s.G) b.E=false/\(uM=true->NT s t=some b.E)/\(uM=false->NT s t=none/\Dk (uf e s) (ad4 e t)=some b.E):=by
 unfold Dv at hb;cases hh:NT s t with
 | some n=>
   rw[hh]at hb;simp only[Option.some.injEq,Prod.mk.injEq]at hb;obtain⟨rfl,rfl⟩:=hb;obtain⟨f,_,_,h1,h2⟩:=Wx hh;obtain⟨g1,g2⟩:=SK h1;rw[g2];exact⟨g1,h2,fun _=>rfl,fun e=>by cases e⟩
 | none=>
   rw[hh]at hb;simp only at hb;cases hp:Dk (uf e s) (ad4 e t)with
   | none=>rw[hp]at hb;cases hb
   | some n=>
     rw[hp]at hb;simp only[mY,Option.some.injEq,Prod.mk.injEq]at hb;obtain⟨rfl,rfl⟩:=hb;obtain⟨x,hx,hn,_,ho⟩:=aqt (qD h.cn).1.2.2 hp;subst hn;rw[adh h.srt hx];exact⟨hx,ho,fun e=>(by cases e),fun _=>⟨rfl,rfl⟩⟩
theorem Zt{M:Int}{e:En}{s:pG}(h:mP M e s){t:Tu}{b:Bk}{uM:Bool}(hb:Dv e s t=some (b,uM)):rE s.qU b.E=true/\oM s.qU b.E=b:=by
 obtain⟨h1,_⟩:=NV h hb;exact⟨(al4 h.srt).2 ⟨b,h1,rfl⟩,adh h.srt h1⟩
theorem ah1(l:List UInt8):qE (Jc l)=true:=by
 unfold qE Jc;simp only[Bool.false_or,fM,beq_iff_eq];intro x hx;obtain⟨j,hj,rfl⟩:=jv.1 hx;simp only[pX,List.getElem_drop,Vector.getElem_toList,Vector.getElem_ofFn];rw[Zq,if_neg (by omega)]
theorem ah2(l:List UInt8):qE (ajz l)=true:=rfl
theorem anf{l:List UInt8}(h:(qV l).kind=0):FP (qV l).J=true/\((qV l).J.aP=6\/(qV l).J.aP=17):=by
 have F:=NM h;obtain⟨t1,t2,t3,t4⟩:=ajU h;have hs:qE (qV l).J.h=true:=by rw[t1];split;exact ah2 _;exact ah1 _
 have hd:qE (qV l).J.Y=true:=by rw[t2];split;exact ah2 _;exact ah1 _
 have b1:=NQ l (qV l).tq.e;have b2:=NQ l ((qV l).tq.e+2);have hp:=F.pro;refine⟨?_,hp⟩;unfold FP XL;rw[hs,hd];simp only[bf,decide_eq_true_eq];have:=F.fam;refine⟨⟨⟨⟨⟨this,trivial⟩,trivial⟩,?_⟩,?_⟩,?_⟩<;>omega
theorem aqu{M:Int}{e:En}{s:pG}(h:mP M e s){p:Pk}(hp:p.J.aP=6\/p.J.aP=17):1<=Ws s p/\Ws s p<=5:=by
 unfold Ws;cases hf:lX s.h p.J with
 | none=>
   simp only;unfold UC
   repeat' split
   all_goals(first|omega|(rcases hp with hp|hp<;>simp_all))
 | some f=>
   simp only;have hk:=h.fl.ok f (vJ hf).1;unfold zU at hk;simp only[bf,decide_eq_true_eq]at hk;have h1:1<=f.vT/\f.vT<=5:=by omega
   unfold acW
   repeat' split
   all_goals omega
theorem aqv{M:Int}{e:En}{s:pG}(h:mP M e s)(hM:M<1152921504606846976){l:List UInt8}(hw:(rV e s l).iW=0):zU (QO s (qV l) (rV e s l).h.E)=true:=by
 obtain⟨hk,i,h1,h2,h3,h4⟩:=Ww hw;obtain⟨p1,p2⟩:=anf hk;have hb:=(NV h h2).1;have hn:=aqu h p2;have hnm:uR (rV e s l).h.E=true:=by
  have:=(tK.1 h.pl).2.2.2.1 _ hb;unfold Bk.Br at this;simp only[bf]at this;exact this.1.1.1.1.2
 have ht:=h.ti;have hno:=h.no;unfold zU QO XL;rw[p1,hnm];simp only[bf,decide_eq_true_eq];refine⟨⟨⟨⟨⟨trivial,trivial⟩,?_⟩,?_⟩,?_⟩,?_⟩<;>omega
theorem ajW{M:Int}{e:En}{s:pG}(h:mP M e s)(hM:M<1152921504606846976){l:List UInt8}(hw:(rV e s l).iW=0):∃m,(yw e s l).1.h=m++[QO s (qV l) (rV e s l).h.E]/\lX (yw e s l).1.h (qV l).J=some (QO s (qV l) (rV e s l).h.E):=by
 obtain⟨m,h1,h2⟩:=ane (room:=e.c.Y) (l:=s.h) (aqv h hM hw) (fun x hx=>by have:=(h.fw x hx).2.2;simp only[QO];omega);unfold yw;rw[if_pos hw];refine⟨m,h1,?_⟩;simp only;rw[h1];exact ajV (fun x hx=>(h2 x hx).2)
theorem Zu{ls:List (List UInt8)}{s:List UInt8}:qZ ls s=true↔s∈ls:=by
 unfold qZ;rw[qR];constructor
 ·rintro⟨i,hi,h⟩
  have hi:=dU.1 hi;rw[au,aC hi]at h;simp at h;rw[<-h];exact dR hi
 ·intro h
  obtain⟨i,hi,rfl⟩:=jv.1 h;exact⟨i,dU.2 hi,by rw[au,aC hi];simp⟩
theorem ang{M:Int}{e:En}{s:pG}(h:mP M e s){l:List UInt8}(hw:(rV e s l).iW=0):(rV e s l).uM=(match lX s.h (qV l).J with|some f=>f.E==(rV e s l).h.E && !qZ (j6 s.G) (rV e s l).h.E|none=>false):=by
 obtain⟨_,i,_,hb,_⟩:=Ww hw;obtain⟨b1,b2,b3,b4⟩:=NV h hb;cases hf:lX s.h (qV l).J with
 | none=>
   simp only;cases hh:(rV e s l).uM with
   | false=>rfl
   | true=>obtain⟨f,h1,_⟩:=Wx (b3 hh);rw[hf]at h1;cases h1
 | some f=>
   simp only[b2,tF,Bool.and_true];cases hh:(rV e s l).uM with
   | true=>
     obtain⟨f',h1,h2,_⟩:=Wx (b3 hh);rw[hf]at h1;injection h1 with h1;subst h1
     simp[h2]
   | false=>
     cases hn:(f.E==(rV e s l).h.E)with
     | false=>rfl
     | true=>
       exfalso;have hn:f.E=(rV e s l).h.E:=by simpa using hn
       have:=anc hf (by rw[hn];exact(Zt h hb).1) (by rw[hn];exact b2);rw[(b4 hh).1]at this;cases this
def aqw(c:Cn)(h:Hl)(n:List UInt8):Bool:=(h.E==n)&&(decide (0<=h.I)&&decide (h.I<if h.down then c.ko else c.fall))
def Wz(c:Cn)(s:pG)(k:Nat):Bool:=aqw c (s.G.b k kY) (s.qU.b k jk).E
def Zv(l:List Fw)(k:Nat):Bool:=(l.d k).any (qF (l.b k jq).key)
def Sk(s:pG)(k:Nat):Bool:=zU (s.h.b k jq)&&(decide ((s.h.b k jq).seen<=s.gF)&&(decide (1<=(s.h.b k jq).no)&&(decide ((s.h.b k jq).no<=s.no)&&(!Zv s.h k&&(decide (k=0)||kS (s.h.b (k-1) jq) (s.h.b k jq))))))
def ad8(s:pG):Bool:=XL s.gF 1099511627776&&(XL s.no 1152921504606846976&&s.lW.a.all (XL · 1152921504606846976))
def WA(c:Cn)(vs:List Vp)(s:pG):Bool:=yh c vs&&(xW s.Y s.qU&&(decide (s.G.a=s.qU.a)&&decide ((s.h.a:Int)<=c.Y)))
def zm(c:Cn)(vs:List Vp)(s:pG):Bool:=WA c vs s&&(ad8 s&&((dX s.G.a).all (Wz c s)&&(dX s.h.a).all (Sk s)))
theorem ajX{α:Type}{lt:α->α->Bool}(hs:IL lt){l:List α}(h:∀(i:Nat)(hi:i+1<l.a),lt (l[i]'(by omega)) l[i+1]=true):Asc lt l:=by
 unfold Asc;rw[fH];intro i j hi hj hij;obtain⟨d,rfl⟩:∃d,j=i+1+d:=⟨j-i-1,by omega⟩
 induction d with
 | zero=>exact h i hj
 | succ d ih=>exact hs.tr _ _ _ (ih (by omega) (by omega)) (h (i+1+d) hj)
theorem qP{α:Type}{l:List α}{d:α}{k:Nat}(hk:k<l.a):l.b k d=l[k]:=by
 rw[au,aC hk,jr]
theorem ajY{room:Int}{s:pG}(hl:(s.h.a:Int)<=room)(h:∀k,k<s.h.a->Sk s k=true):vI room s.h/\∀f∈s.h,f.seen<=s.gF/\1<=f.no/\f.no<=s.no:=by
 have H:∀(k:Nat)(hk:k<s.h.a),zU s.h[k]=true/\(s.h[k].seen<=s.gF/\1<=s.h[k].no/\s.h[k].no<=s.no)/\Zv s.h k=false/\(k=0\/kS (s.h.b (k-1) jq) s.h[k]=true):=fun k hk=>by
  have:=h k hk;unfold Sk at this;rw[qP hk]at this;simp only[bf,decide_eq_true_eq,nY,nu]at this;exact⟨this.1,⟨this.2.1,this.2.2.1,this.2.2.2.1⟩,this.2.2.2.2.1,this.2.2.2.2.2⟩
 refine⟨⟨ajX tN (fun i hi=>?_),?_,?_,hl⟩,fun f hf=>?_⟩
 ·rcases(H (i+1) hi).2.2.2 with e|e
  ·omega
  ·rw[Nat.add_sub_cancel,qP (by omega)]at e;exact e
 ·rw[fH]
  intro i j hi hj hij e;have h1:=(H j hj).2.2.1;unfold Zv at h1;rw[qP hj,qd]at h1;refine h1 s.h[i] ?_ (by simp[qF,e]);rw[rQ];exact⟨i,by omega,rfl⟩
 ·intro x hx
  obtain⟨k,hk,rfl⟩:=jv.1 hx;exact(H k hk).1
 ·obtain⟨k,hk,rfl⟩:=jv.1 hf
  exact(H k hk).2.1
theorem agv{c:Cn}{vs:List Vp}{s:pG}(key:Vector UInt8 16)(h:zm c vs s=true)(hf:∀x∈s.qU,x.rF):mP 1152921504606846976 ⟨key,c,vs⟩ s:=by
 unfold zm WA ad8 XL at h;simp only[bf,decide_eq_true_eq,fM,dU]at h;obtain⟨⟨h1,h2,h3,h4⟩,⟨h5,h6,h7⟩,h8,h9⟩:=h;obtain⟨f1,f2⟩:=ajY h4 h9;have H:∀(k:Nat)(hk:k<s.G.a),s.G[k].E=(s.qU[k]'(by omega)).E/\0<=s.G[k].I/\s.G[k].I<(if s.G[k].down then c.ko else c.fall):=fun k hk=>by
  have:=h8 k hk;unfold Wz aqw at this;rw[qP hk,qP (by omega)]at this;simpa using this
 refine⟨h1,h2,hf,?_,?_,f1,f2,by omega,by omega,h7⟩
 ·apply List.ext_getElem (by simpa using h3)
  intro i hi1 hi2;simp only[List.getElem_map];exact(H i (by simpa using hi1)).1
 ·intro x hx
  obtain⟨k,hk,rfl⟩:=jv.1 hx;exact(H k hk).2
theorem mP.right{M:Int}{e:En}{s:pG}(h:mP M e s)(hM:M<=1152921504606846976):zm e.c e.vs s=true:=by
 have hlen:s.G.a=s.qU.a:=by have:=congrArg List.length h.nm;simpa using this
 unfold zm WA ad8 XL;simp only[bf,decide_eq_true_eq,fM,dU];refine⟨⟨h.cn,h.pl,hlen,h.fl.len⟩,⟨h.ti,by have:=h.no;omega,fun n hn=>by have:=h.ct n hn;omega⟩,fun k hk=>?_,fun k hk=>?_⟩
 ·unfold Wz aqw
  rw[qP hk,qP (show k<s.qU.a by omega)];have e1:s.G[k].E=(s.qU[k]'(by omega)).E:=by
   have:=List.getElem_of_eq h.nm (i:=k) (by simpa using hk);simpa using this
  have:=h.hl _ (dR hk);simp only[bf,decide_eq_true_eq,beq_iff_eq];exact⟨e1,this⟩
 ·unfold Sk
  rw[qP hk];have h1:=h.fw _ (dR hk);simp only[bf,decide_eq_true_eq,nY,nu];refine⟨h.fl.ok _ (dR hk),h1.1,h1.2.1,h1.2.2,?_,?_⟩
  ·unfold Zv
   rw[qP hk,qd];intro x hx;rw[rQ]at hx;obtain⟨i,hi,rfl⟩:=hx;have:=fH.1 h.fl.one i k (by omega) hk (by omega);simpa[qF]using this
  ·rcases dY k with e|e
   ·exact .a e
   ·right
    rw[qP (by omega)];exact fH.1 h.fl.asc (k-1) k (by omega) hk (by omega)
theorem anh{room:Int}{l:List Fw}{k:Nat}(h:vI room l)(hk:k<l.a):BM room (l.d k) (l.b k jq)=l.d (k+1):=by
 rw[qP hk];have hn:lX (l.d k) l[k].key=none:=by
  unfold lX;rw[rz];intro x hx;rw[rQ]at hx;obtain⟨i,hi,rfl⟩:=hx;have:=fH.1 h.one i k (by omega) hk (by omega);simpa[qF]using this
 have hlen:=h.len;unfold BM;rw[if_pos (h.ok _ (dR hk)),hn,if_neg (by simp),if_neg (by rw[bJ];omega),ac6 (fun x hx=>tN.asy ?_),dP hk];rw[rQ]at hx;obtain⟨i,hi,rfl⟩:=hx;exact fH.1 h.asc i k (by omega) hk (by omega)
theorem P7{c:Cn}{vs:List Vp}(key:Vector UInt8 16)(h:yh c vs=true):mP 0 ⟨key,c,vs⟩ wH:=by
 have hr:=(qD h).2.1;refine⟨h,tK.2 ⟨?_,?_,?_,?_,?_⟩,(fun x hx=>by cases hx),rfl,(fun x hx=>by cases hx),.nil ?_,(fun x hx=>by cases hx),?_,?_,fun n hn=>?_⟩
 ·simp[wH]
 ·simp[wH]
 ·simp[wH]
 ·intro x hx;cases hx
 ·exact List.Pairwise.nil
 ·show 0<=c.Y;omega
 ·simp[wH]
 ·simp[wH]
 ·simp[wH]at hn;omega
def zY(z:Int):Bool:=decide (z<0)||decide (1152921504606846976<z)
theorem ajZ(z:Int):zY z = !XL z 1152921504606846976:=by
 unfold zY XL;rw[Bool.eq_iff_iff];simp only[nu,decide_eq_true_eq,nY,Bool.and_eq_false_iff,decide_eq_false_iff_not];omega
theorem abH(z:Int)(w:ak):aQ ah 47 #[.b .a z] w fun e w'=>e=.a (.e (zY z))/\w=w':=by
 have HB:=ab (show zY z=(decide (z<0)||decide (1152921504606846976<z))from rfl);go_enter Tryz.func47,Tryz.ntmps47;go_wp2
 all_goals(go_ret;refine⟨?_,rfl⟩;rw[HB.i];simp_all)
theorem ad9(args:Array aB)(w:ak):(callFunc 47 args).I ah w=.ok (.enter 47 args) w:=by kernel_rfl
theorem Yc.at_{w:ak}{B n:Nat}{A:Option aS}{l:List Int}(h:Yc w B A n l){k:Nat}(hk:k<n):∃b o,A=some ⟨b,o,none⟩/\w.b ⟨b,o+k,none⟩=some (.b .a (l.b k 0)):=by
 obtain⟨b,o,hA,hb,hc⟩:=gX.cell (f:=Gd) (s:=1) (fun _=>rfl) 0 h hk;refine⟨b,o,hA,?_⟩;have:=hc 0 (by omega);rw[gB,nD]at this;exact this
theorem auP(A:Option aS)(n c B:Nat)(w:ak)(l:List Int)(hc:n<=1000000000)(hr:Yc w B A n l):
 aQ ah 114 #[.a A n c,.func (.func 47) #[] #[]] w fun e w'=>∃r:Int,e=.a (.b .a r)/\(decide (0<=r)=l.any zY)/\w=w':=by
 have hen:=ad9;have GG:=ab abH;have HR:=ab hr;have hl:=ab hr.len;clear hr;go_enter Tryz.func114,Tryz.ntmps114;go_wp2;go_loop [8] (fun s8=>∃i:Nat,i<=n/\s8=.b .a i/\∀j,j<i->zY (l.b j 0)=false) (fun s8=>n-(intOf s8).e)
 case atStart=>exact⟨0,by omega,rfl,fun j h1=>by omega⟩
 case round=>
  obtain⟨i,hi,rfl,hall⟩:=hrel;have HA:=ab hall;clear hall;by_cases hlt:i<n
  ·have hin:(i:Int)<n:=by omega
   obtain⟨b,o,rfl,hcell⟩:=HR.i.at_ hlt;have HG:=ab (qP (l:=l) (d:=0) (k:=i) (by rw[hl.i];exact hlt));obtain⟨m,hm⟩:=dw (l.b i 0);rw[<-hm]at hcell;have HM:=ab hm;clear hm;obtain⟨k,hk⟩:=sH (zY m);have HK:=ab hk;have G1:=ab (fun w=>GG.i m w);rw[hk]at G1;clear hk;cases k
   ·go_wp2_with (refine(G1.i _).g ?_;rintro e w' ⟨rfl,rfl⟩)
    go_round
    case rel=>exact⟨i+1,by omega,by go_num,fun j h1=>by
     by_cases hji:j=i
     ·rw[hji,<-HM.i];exact HK.i
     ·exact HA.i j (by omega)⟩
    case measure=>simp[intOf]<;>omega
   ·have Ea:=ab (show l.any zY=true from qR.2 ⟨m,by rw[HM.i,HG.i];exact dR _,HK.i⟩)
    go_wp2_with (refine(G1.i _).g ?_;rintro e w' ⟨rfl,rfl⟩);go_ret;exact⟨_,rfl,by rw[Ea.i];simp,rfl⟩
  ·obtain rfl:i=n:=by omega
   have HS:=ab (show l.any zY=false from qd.2 (fun x hx=>by
    obtain⟨j,hj,rfl⟩:=jv.1 hx;have:=HA.i j (by rw[hl.i]at hj;exact hj);rw[qP hj]at this;simp[this]))
   go_wp2;go_ret;exact⟨_,rfl,by rw[HS.i];simp,rfl⟩
theorem auQ(A:Option aS)(n c B:Nat)(w:ak)(l:List Int)(hc:n<=1000000000)(hr:Yc w B A n l):
 aQ ah 46 #[.a A n c,.func (.func 47) #[] #[]] w fun e w'=>e=.a (.e (l.any zY))/\w=w':=by
 have I:=ab (auP A n c B w l hc hr);clear hr;go_enter Tryz.func46,Tryz.ntmps46;go_wp2_with (go_at_call 114;refine I.i.g ?_;rintro e w' ⟨r,rfl,hr,rfl⟩);go_ret;exact⟨by simp,rfl⟩
theorem aqx(v:Vector Int 11):(v.a.any zY) = !v.a.all (XL · 1152921504606846976):=by
 rw[List.not_all_eq_any_not];congr 1;funext z;exact ajZ z
structure Sl where
 ac3:Bool
 qW:Fw
def Sl.ay(x:Sl):Array aB:=#[.e x.ac3]++x.qW.ay
theorem Sl.G(x:Sl):x.ay.j=42:=by simp[Sl.ay,Fw.G]
theorem Sl.cK(x:Sl):x.ay.all (·.h)=true:=gW ((by simp[cB])) (Fw.cK _)
@[go_sem]theorem Sl.dZ(x:Sl):dZ x.ay=42:=Sl.G x
@[go_sem]theorem Sl.all(x:Sl):x.ay.m 0 42=x.ay:=by have:=Sl.G x;rw[<-this];simp
@[go_sem]theorem Sl.NW(x:Sl):x.ay[0]? = some (.e x.ac3):=by simp[Sl.ay,aD,Fw.G]
@[go_sem]theorem Sl.TL(x:Sl):x.ay.m 1 42=x.qW.ay:=by simp[Sl.ay,bW,Fw.G,pR,tY]
def Gs:Sl:=⟨false,jq⟩
@[go_sem]theorem ayV:bY #[bL false,bL false,aA,aA,aA,aA,aA,aA,aA,aA,aA,aA,aA,aA,aA,aA,aA,aA,bL false,aA,aA,aA,aA,aA,aA,aA,aA,aA,aA,aA,aA,aA,aA,aA,aA,bg,bg,bg,ig {data:=#[]},bg,bg,bg]=bY Gs.ay:=rfl
@[go_sem]theorem auR:eD #[bL false,bL false,aA,aA,aA,aA,aA,aA,aA,aA,aA,aA,aA,aA,aA,aA,aA,aA,bL false,aA,aA,aA,aA,aA,aA,aA,aA,aA,aA,aA,aA,aA,aA,aA,aA,bg,bg,bg,ig {data:=#[]},bg,bg,bg] 213=eD Gs.ay 213:=rfl
theorem kSl:oO 213 42 Gs.ay:=⟨⟨_,uo,rfl⟩,by kernel_rfl,by kernel_rfl,Sl.G _⟩
@[go_sem ↓]theorem aJT(v:aB):bZ 213 v=xu 213 v:=rfl
@[go_sem ↓]theorem aJU(v x:aB):eF 213 v x=yS 213 v x:=rfl
@[go_sem]theorem aGW(W:ak)(b o:Nat)(h:xJ W b o 42):(xu 213 (.c (some ⟨b,o,none⟩))).I ah W=.ok (.d (eu W b o 42)) W:=kSl.ld W b o h
@[go_sem]theorem aDO(W:ak)(c:Array aB)(x:Sl)(b:Nat)(hb:b=W.a.j)(hc:dZ c=42):(yS 213 (.c (some ⟨b,0,none⟩)) (.d x.ay)).I ah (W.alloc (.D c 213))=.ok () (W.alloc (.D x.ay 213)):=kSl.stN W c x.ay b hb hc (Sl.G x) (Sl.cK x)
@[go_sem]theorem aGX(W:ak)(b o:Nat)(x:Sl)(h:W.O b o 42):(yS 213 (.c (some ⟨b,o,none⟩)) (.d x.ay)).I ah W=.ok () (gI W b o x.ay):=kSl.st W b o x.ay h (Sl.G x) (Sl.cK x)
@[go_sem ↓]theorem aJV(ps:Array (Nat×aB)):fI 213 ps=uN 213 ps:=rfl
theorem ayW(w:ak)(fs:Array nS)(h:ah.k 213=some (.struct fs)):(iB (fun f=>Prod.mk f.Z <$> sizeOf f.type) fs:Sem (Array (Nat×Nat))).I ah w=.ok #[(0,1),(1,41)] w:=by
 have e:=uo;rw[h]at e;cases e;show _=_
 kernel_rfl
@[go_sem]theorem aDP(W:ak):(uN 213 #[]).I ah W=.ok (.d Gs.ay) W:=kSl.bd0 W _ uo ⟨_,ayW W _ uo⟩
@[go_sem]theorem ayX(W:ak)(ac3:Bool)(qW:Fw):(uN 213 #[(0,.e ac3),(1,.d (qW.ay))]).I ah W=.ok (.d (Sl.mk ac3 qW).ay) W:=kSl.bd W _ _ _ _ uo (ayW W _ uo) (by
 refine uW (Sl.G _) ?_ ?_
 ·simp[rO,cO,Fw.G]
 ·simp[qN,cO,Sl.ay]<;>(simp only[<-Array.append_assoc];rfl))
structure Tk where
 key:Vector UInt8 16
 Y:Int
 count:Int
 mE:Option aS
 mR:Nat
 vo:Nat
def Tk.ay(x:Tk):Array aB:=iH x.key ++ #[.b .a x.Y,.b .a x.count,.a x.mE x.mR x.vo]
theorem Tk.G(x:Tk):x.ay.j=19:=by simp[Tk.ay,dH]
@[go_sem]theorem Tk.abI(x:Tk):x.ay.m 0 16=iH x.key:=by simp[Tk.ay,bW,dH,pR,tY]
@[go_sem]theorem Tk.Tm(x:Tk):x.ay[16]? = some (.b .a x.Y):=by simp[Tk.ay,aD,dH]
@[go_sem]theorem Tk.aea(x:Tk):x.ay[17]? = some (.b .a x.count):=by simp[Tk.ay,aD,dH]
@[go_sem]theorem Tk.yx(x:Tk):x.ay[18]? = some (.a x.mE x.mR x.vo):=by simp[Tk.ay,aD,dH]
theorem Tk.P9(x:Tk)(v:Int):x.ay.c 17 (.b .a v)=({x with count:=v}:Tk).ay:=by simp[Tk.ay,aM,dH]
def aj0:Tk:=⟨(bF 16 0),0,0,none,0,0⟩
@[go_sem]theorem ayY:bY #[aA,aA,aA,aA,aA,aA,aA,aA,aA,aA,aA,aA,aA,aA,aA,aA,bg,bg,bC none 0 0]=bY aj0.ay:=rfl
@[go_sem]theorem auS:eD #[aA,aA,aA,aA,aA,aA,aA,aA,aA,aA,aA,aA,aA,aA,aA,aA,bg,bg,bC none 0 0] 207=eD aj0.ay 207:=rfl
theorem kTk:oO 207 19 aj0.ay:=⟨⟨_,DI,rfl⟩,by kernel_rfl,by kernel_rfl,Tk.G _⟩
@[go_sem ↓]theorem aJX(v:aB):bZ 207 v=xu 207 v:=rfl
@[go_sem ↓]theorem aJY(v x:aB):eF 207 v x=yS 207 v x:=rfl
@[go_sem ↓]theorem aJZ(ps:Array (Nat×aB)):fI 207 ps=uN 207 ps:=rfl
theorem aDQ(w:ak)(fs:Array nS)(h:ah.k 207=some (.struct fs)):(iB (fun f=>Prod.mk f.Z <$> sizeOf f.type) fs:Sem (Array (Nat×Nat))).I ah w=.ok #[(0,16),(16,1),(17,1),(18,1)] w:=by
 have e:=DI;rw[h]at e;cases e;show _=_
 kernel_rfl
def wD:Option Fw->Sl
 | none=>Gs
 | some f=>⟨true,f⟩
theorem Jk(o:Option Fw):(wD o).ac3=o.isSome:=by cases o<;>rfl
def slC(o:Option Fw):Array aB:=(wD o).ay
theorem ER(o:Option Fw):(slC o).j=42:=Sl.G _
section
attribute [local go_sem high] iT jF
theorem vM(w:ak):∃(T:Type)(f:T->ak)(n0:T),f n0=w.drew/\(∀n,aL w.a.j w (f n))/\(∀W,aL w.a.j w W->∃n,W=f n):=IB (aL w.a.j w) w (aH _ _).drew
theorem aeb(n:Nat)(z:Int)(hz:z=n)(hn:n<=4)(p:Nat)(s:S4)(hs:s.ok)(W:ak)(hb:dJ W p s.ay):aQ ah 183 #[.c (some ⟨p,0,none⟩),.b .a z] W fun e W'=>e=.a (.J #[])/\dJ W' p (zH Kt n s).ay/\W.d W' (some p):=by subst hz;exact afo n hn p s hs W hb
theorem aec(p:Nat)(s:S4)(n:Nat)(hs:s.ok)(hn:n<18446744073709551616)(W:ak)(hb:dJ W p s.ay):aQ ah 182 #[.c (some ⟨p,0,none⟩),.b .c n] W fun e W'=>e=.a (.J #[])/\dJ W' p (UK s n).ay/\W.d W' (some p):=by
 obtain⟨a,b,c,d⟩:=s;have HS:=ab hs;obtain⟨y1,y2,y3,y4,y5⟩:=hb.num;simp only[S4.ok]at hs y1 y2 y3 y4;have e1:=pK d n hs.2.2.2 hn;have OK1:=ab (aho HS.i hn);have X1:=ab (hb.p3 (d ^^^ n));have G1:=ab (xS (ahn W (some p)) (p:=⟨p,3,none⟩) (.a rfl) (.b .c (d ^^^ n:Nat)));have OK2:=ab (MG 2 _ OK1.i);have C:=ab (aeb 2 2 rfl (by omega) p (alH ⟨a,b,c,d⟩ n) OK1.i _ X1.i);have HW:=ab (show UK ⟨a,b,c,d⟩ n=ath (zH Kt 2 (alH ⟨a,b,c,d⟩ n)) n from rfl);obtain⟨t,ht⟩:=dw (zH Kt 2 (alH ⟨a,b,c,d⟩ n));rw[<-ht]at OK2 C HW;have HN:=ab hn;obtain⟨ta,tb,tc,td⟩:=t;have e2:=pK ta n OK2.i.1 hn;clear ht hs hb hn;rw[HW.i];go_enter Tryz.func182,Tryz.ntmps182;go_wp2_with (go_at_call 183;go_loud (with_reducible refine C.i.g ?_);rintro e w2 ⟨rfl,hb2,hg2⟩;obtain⟨z1,z2,z3,z4,z5⟩:=hb2.num;have zz:=z5 0;have X2:=ab hb2;have G2:=ab hg2;clear hb2 hg2);go_end0;exact⟨rfl,X2.i.p0 _,xS (Mq G1.i G2.i) (p:=⟨p,0,none⟩) (.a rfl) _⟩
theorem ani{W:ak}{q:Nat}{k:Vector UInt8 16}(h:dJ W q (iH k))(o m:Nat)(ho:o+m<=16):gq W W.a.j (some ⟨q,o,none⟩) m ((k.a.f o).d m):=by
 refine⟨by simp;omega,fun _=>⟨_,rfl,h.lt,fun j u hu=>?_⟩⟩;have hj:j<m:=by
  rcases aZ j m with hj|hj
  ·exact hj
  ·rw[aT (by simp;omega)]at hu;cases hu
 rw[iC,h.K.1,<-hu];simp[iH,jd,hj,iZ]
theorem kS4:oO 280 4 (S4.mk 0 0 0 0).ay:=⟨⟨_,DJ,rfl⟩,by kernel_rfl,by kernel_rfl,rfl⟩
@[go_sem ↓]theorem aJ1(ps:Array (Nat×aB)):fI 280 ps=uN 280 ps:=rfl
theorem aDR(w:ak)(fs:Array nS)(h:ah.k 280=some (.struct fs)):(iB (fun f=>Prod.mk f.Z <$> sizeOf f.type) fs:Sem (Array (Nat×Nat))).I ah w=.ok #[(0,1),(1,1),(2,1),(3,1)] w:=by
 have e:=DJ;rw[h]at e;cases e;show _=_
 kernel_rfl
@[go_sem]theorem ayZ(W:ak)(a b c d:Nat):(uN 280 #[(0,.b .c a),(1,.b .c b),(2,.b .c c),(3,.b .c d)]).I ah W=.ok (.d (S4.mk a b c d).ay) W:=kS4.bd W _ _ _ _ DJ (aDR W _ DJ) (by
 refine uW rfl ?_ ?_
 ·simp[rO,cO,S4.ay]
 ·simp[qN,cO,S4.ay])
theorem aed(x y:Nat)(hx:x<256)(hy:y<72057594037927936):bits .or .c ((x*72057594037927936:Nat):Int) (y:Int)=((y+x*72057594037927936:Nat):Int):=by
 rw[bits_or_u64_nat _ _ (by omega) (by omega)];congr 1;have h:=Nat.two_pow_add_eq_or_of_lt (i:=56) (b:=y) (by simpa using hy) x;rw[show(2:Nat)^56=72057594037927936 by decide,C9]at h;omega
theorem auT{W:ak}{q:Nat}{k:Vector UInt8 16}(h:dJ W q (iH k)):aQ ah 180 #[.a (some ⟨q,0,none⟩) 8 16,.e false] W (gM W (.b .c (leN (k.a.d 8)))):=by
 have:=Lx _ 8 16 _ W (by omega) (by omega) (ani h 0 8 (by omega));rw[kX,vV]at this;exact this
theorem auU{W:ak}{q:Nat}{k:Vector UInt8 16}(h:dJ W q (iH k)):aQ ah 180 #[.a (some ⟨q,8,none⟩) 8 8,.e false] W (gM W (.b .c (leN (k.a.f 8)))):=by
 have:=Lx _ 8 8 _ W (by omega) (by omega) (ani h 8 8 (by omega));rw[vV]at this;have e:(k.a.f 8).d 8=k.a.f 8:=aK (by simp);rw[show min 8 8=8 from rfl,e]at this;exact this
theorem Nf.go{W W':ak}{l:List Yb}{bss:List (List UInt8)}(h:Nf W W.a.j l bss)(hb:aL W.a.j W W'):Nf W' W'.a.j l bss:=⟨h.1,fun i hi=>((h.2 i hi).S hb).lD hb.j⟩
theorem aj1(l:List Yb)(bss:List (List UInt8))(A:Option aS)(n c:Nat)(w:ak)(hR:RdS w w.a.j A n l)(hH:Nf w w.a.j l bss)(hn:n<=1000)(hs:yI l<=1000000000)(bs:List UInt8)(m:Nat)(hbs:bss.flatten=bs)(hm:bs.a=m):
 aQ ah 181 #[.a A n c] w fun e w'=>∃A1 c1,e=.a (.a A1 m c1)/\(m<=c1/\c1<=maxLen)/\gq w' w'.a.j A1 m bs/\(∀a,A1=some a->w.a.j<=a.block)/\aL w.a.j w w':=by
 subst hbs hm;refine(LC l bss A n c w hR hH hn hs).g ?_;rintro e w' ⟨v,rfl,ho,hb⟩;obtain⟨A1,c1,rfl,h1,h2⟩:=jG ho;exact⟨A1,c1,rfl,⟨h1,h2⟩,gq.gU ho,fun a ha=>(ho.lt a.block (by rw[ha];rfl)).1,hb⟩
def Yg(s:S4)(l:List UInt8)(e:Nat):Nat:=alJ ((Pf (l.a/8) l e).foldl UK s)
theorem aj2(s:S4)(l:List UInt8)(e:Nat)(h:8<=l.a):Yg s l e=Yg (UK s (leN (l.d 8))) (l.f 8) e:=by
 unfold Yg;rw[show l.a/8=(l.f 8).a/8+1 by rw[jA];omega,Pf,jT]
theorem aj3(s:S4)(l:List UInt8)(e:Nat)(h:l.a<8):Yg s l e=alJ (UK s (leN l+e*72057594037927936)):=by
 unfold Yg;rw[show l.a/8=0 by omega];rfl
theorem Zx(key:Vector UInt8 16)(l:List Yb)(bss:List (List UInt8))(A:Option aS)(n c:Nat)(w:ak)(hR:RdS w w.a.j A n l)(hH:Nf w w.a.j l bss)(hn:n<=1000)(hs:yI l<=100000000)(bs:List UInt8)(hbs:bss.flatten=bs)(hl:bs.a<=100000000):
 aQ ah 97 #[.d (iH key),.a A n c] w (gM w (.b .c (xK key bs))):=by
 obtain⟨m,hm⟩:=sH bs.a;have HM:=ab hm;have HBS:=ab hbs;have HT:=ab (show xK key bs=Yg (ape key) bs (bs.a%256)from rfl);rw[hm]at hl HT;clear hm hbs;have HR:=ab hR;have HH:=ab hH;have Z0:=ab ((Bx.start w).new (iH key) 22);clear hR hH;go_enter Tryz.func97,Tryz.ntmps97;go_upto_region 1 with fail
 generalize w.alloc (.D (iH key) 22)=w1 at Z0 ⊢;obtain⟨k0,hk0⟩:∃k,k=leN (key.a.d 8):=⟨_,rfl⟩
 obtain⟨k1,hk1⟩:∃k,k=leN (key.a.f 8):=⟨_,rfl⟩
 have HS:=ab (show ape key=⟨k0 ^^^ 8317987319222330741,k1 ^^^ 7237128888997146477,k0 ^^^ 7816392313619706465,k1 ^^^ 8387220255154660723⟩by rw[hk0,hk1];rfl);have b0:k0<18446744073709551616:=by rw[hk0];exact JR _ (by simp)
 have b1:k1<18446744073709551616:=by rw[hk1];exact JR _ (by simp)
 have JJ:=ab (ahp key);obtain⟨T,f,n0,E0,es,ew⟩:=vM (w1);have hT:Nonempty T:=⟨n0⟩
 have ES:=ab es;have EW:=ab ew;have C0:=ab (fun m=>auT (Z0.i.go (es m)).X);have C1:=ab (fun m=>auU (Z0.i.go (es m)).X);rw[<-hk0]at C0;rw[<-hk1]at C1;clear es ew;refine oh f (by kernel_rfl) (by kernel_rfl) n0 E0 ?_
 repeat(go_big_quiet_step ((first|(go_at_call 180;(with_reducible refine(C0.i _).g ?_);rintro e w2 ⟨rfl,hb⟩;exact⟨rfl,EW.i _ ((ES.i _).trans (hb.g (ES.i _).j))⟩)|(go_at_call 180;(with_reducible refine(C1.i _).g ?_);rintro e w2 ⟨rfl,hb⟩;exact⟨rfl,EW.i _ ((ES.i _).trans (hb.g (ES.i _).j))⟩))))
 refine gK ?_;rintro _ ⟨m',rfl⟩;have HB:=ab (ES.i m');generalize f m'=wN at *;clear ES EW E0 hT n0;have Z1:=ab (Z0.i.go HB.i);clear HB C0 C1 hk0 hk1 Z0;have x0:bits .xor .c (k0:Int) 8317987319222330741=((k0 ^^^ 8317987319222330741:Nat):Int):=pK k0 8317987319222330741 b0 (by decide);have x1:bits .xor .c (k1:Int) 7237128888997146477=((k1 ^^^ 7237128888997146477:Nat):Int):=pK k1 7237128888997146477 b1 (by decide);have x2:bits .xor .c (k0:Int) 7816392313619706465=((k0 ^^^ 7816392313619706465:Nat):Int):=pK k0 7816392313619706465 b0 (by decide);have x3:bits .xor .c (k1:Int) 8387220255154660723=((k1 ^^^ 8387220255154660723:Nat):Int):=pK k1 8387220255154660723 b1 (by decide);obtain⟨S,hS⟩:=dw (S4.mk (k0 ^^^ 8317987319222330741) (k1 ^^^ 7237128888997146477) (k0 ^^^ 7816392313619706465) (k1 ^^^ 8387220255154660723));go_upto_region 3 with fail
 rw[<-hS]at HS ⊢;rw[HS.i]at JJ;have Z2:=ab (Z1.i.new S.ay 280);have HPW:=ab Z1.i.R.j;clear hS x0 x1 x2 x3 b0 b1;generalize wN.alloc (.D S.ay 280)=w3 at Z2 ⊢;generalize wN.a.j=p at *;have HP3:=ab Z2.i.X.lt;have CC:=ab (aj1 l bss A n c w3 (Z2.i.rdR HR.i) (HH.i.go Z2.i.R) hn (by omega) bs m HBS.i HM.i);go_upto_region 4 with(go_at_call 181;(with_reducible refine CC.i.g ?_);rintro e w4 ⟨A1,c1,rfl,hc1,hrd,hbk,hb⟩;have RD:=ab hrd;have HC1:=ab hc1;have HBK:=ab hbk;have Z4:=ab (Z2.i.go hb);clear hrd hb hc1 hbk)
 clear CC Z2;have v1:jm.wrap (m:Int)=m:=by rw[jQ];omega
 have v2:jm.wrap ((m:Int)*72057594037927936)=((m%256*72057594037927936:Nat):Int):=by rw[jQ];omega
 obtain⟨e8,he8⟩:∃e,e=m%256:=⟨_,rfl⟩
 rw[<-he8]at v2 HT;have he9:e8<256:=by omega
 rw[HS.i]at HT;obtain⟨eN,heN⟩:∃e,e=e8*72057594037927936:=⟨_,rfl⟩
 rw[<-heN]at v2;have HEN:=ab heN;clear he8 heN;go_wp2;go_loopw [8] (fun s8 wr=>∃(A':Option aS)(m' c':Nat)(s:S4)(l':List UInt8),s8=.a A' m' c'/\(m'<=c'/\c'<=maxLen/\m'<=m)/\s.ok/\dJ wr p s.ay/\gq wr wr.a.j A' m' l'/\(∀a,A'=some a->a.block≠p)/\Yg S bs e8=Yg s l' e8/\aL w.a.j w wr) (fun s8 _=>arZ s8)
 case atStart=>exact⟨A1,m,c1,S,bs,rfl,⟨HC1.i.1,HC1.i.2,av _⟩,JJ.i,Z4.i.X,RD.i,fun a ha=>by have:=HBK.i a ha;have:=HP3.i;omega,rfl,Z4.i.R⟩
 case round=>
  obtain⟨A',m',c',s,l',rfl,⟨hmc,hcc,hmm⟩,hok,hbx,hrd,hne,hst,hbl⟩:=hrel;have aqy:=ab hok;have HBX:=ab hbx;have HRD:=ab hrd;have HNE:=ab hne;have HST:=ab hst;have Gn:=ab hbl;have Mk:=ab hrd.len;have C1:=ab (Lx A' m' c' l' wr hmc (by unfold maxLen at hcc;omega) hrd);clear hok hbx hrd hne hst hbl;by_cases h8:8<=m'
  ·have h8i:(8:Int)<=m':=by omega
   obtain⟨x,hx⟩:=dw (leN (l'.d 8));have HXL:=ab (show x<18446744073709551616 by rw[hx];exact JR _ (by simp;omega));have HX:=ab hx;rw[<-hx]at C1;clear hx;go_wp2_with (first|(go_at_call 180;(with_reducible refine C1.i.g ?_);rintro e w5 ⟨rfl,hb⟩;have C2:=ab (aec p s x aqy.i HXL.i w5 (HBX.i.go hb));have R5:=ab (HRD.i.upon hb);have L5:=ab (Gn.i.trans (hb.g Gn.i.j));clear hb)|(go_at_call 182;go_loud (with_reducible refine C2.i.g ?_);rintro e w6 ⟨rfl,hb6,hg6⟩;have B6:=ab hb6;have R6:=ab ((gq.aty (w:=w5) R5.i hg6 (fun a ha e=>HNE.i a ha (Option.some.inj e))).lD hg6.j);have L6:=ab (tX L5.i hg6 HPW.i L5.i.j);clear hb6 hg6));go_roundw
   case rel=>exact⟨_,_,_,UK s x,l'.f 8,rfl,⟨by omega,by omega,by omega⟩,aaJ aqy.i HXL.i,B6.i,R6.i.yJ h8 hmc,fun a ha=>by
    unfold vL at ha;split at ha
    ·exact HNE.i a ha
    ·cases hA:A' with
     | none=>rw[hA]at ha;cases ha
     | some a0=>rw[hA]at ha;injection ha with ha;rw[<-ha];exact HNE.i a0 hA,by rw[HST.i,aj2 _ _ _ (by rw[Mk.i];exact h8),HX.i],L6.i⟩
   case measure=>simp[arZ];omega
  ·have h8i:¬(8:Int)<=m':=by omega
   obtain⟨y,hy⟩:=dw (leN l');have hy2:l'.d 8=l':=aK (by rw[Mk.i];omega);have hy3:y<72057594037927936:=by
    have h1:=afp l';have h2:256^l'.a<=256^7:=Nat.pow_le_pow_right (by omega) (by rw[Mk.i];omega);omega
   rw[hy2,<-hy]at C1;have HF:=ab (show Yg S bs e8=alJ (UK s (y+e8*72057594037927936))by rw[HST.i,aj3 _ _ _ (by rw[Mk.i];omega),<-hy]);have o1:=aed e8 y he9 hy3;rw[<-HEN.i]at o1 HF;obtain⟨z,hz⟩:=dw (y+eN);have HZL:=ab (show z<18446744073709551616 by have:=HEN.i;omega);rw[<-hz]at o1 HF;obtain⟨t,ht⟩:=dw (UK s z);have HTK:=ab (show t.ok by rw[ht];exact aaJ aqy.i HZL.i);have HT2:=ab ht;rw[<-ht]at HF;obtain⟨u,hu⟩:=dw (zH Kt 4 (alI t 255));have HUK:=ab (show u.ok by rw[hu];exact MG 4 _ (aaI HTK.i (by decide)));have HU:=ab hu;have HFU:=ab (show Yg S bs e8=ati u by rw[HF.i,hu];rfl);have x2:bits .xor .c (t.c:Int) 255=((t.c ^^^ 255:Nat):Int):=pK t.c 255 HTK.i.2.2.1 (by decide);clear hy hy2 hz ht hu hy3;go_upto_region 9 with(first|(go_at_call 180;(with_reducible refine C1.i.g ?_);rintro e w5 ⟨rfl,hb⟩;have C2:=ab (HT2.i ▸ aec p s z aqy.i HZL.i w5 (HBX.i.go hb));have L5:=ab (Gn.i.trans (hb.g Gn.i.j));clear hb)|(go_at_call 182;(with_reducible refine C2.i.g ?_);rintro e w6 ⟨rfl,hb6,hg6⟩;have B6:=ab hb6;have L6:=ab (tX L5.i hg6 HPW.i L5.i.j);clear hb6 hg6))
   obtain⟨y1,y2,y3,y4,y5⟩:=B6.i.num;have f2:=y5 2;have X9:=ab (show dJ (w6.F ⟨p,2,none⟩ (.b .c (t.c ^^^ 255:Nat))) p (alI t 255).ay from B6.i.p2 (t.c ^^^ 255));have L9:=ab (L6.i.F (p:=⟨p,2,none⟩) HPW.i (.b .c (t.c ^^^ 255:Nat)));go_upto_region 10 with fail
   clear y1 y2 y3 y4 y5 f2 x2 o1 B6 L6;generalize w6.F ⟨p,2,none⟩ (.b .c (t.c ^^^ 255:Nat))=w7 at X9 L9 ⊢;have C4:=ab (HU.i ▸ aeb 4 4 rfl (by omega) p (alI t 255) (aaI HTK.i (by decide)) w7 X9.i);go_upto_region 11 with(go_at_call 183;go_loud (with_reducible refine C4.i.g ?_);rintro e w8 ⟨rfl,Yt,hg8⟩;have B8:=ab Yt;have L8:=ab (tX L9.i hg8 HPW.i L9.i.j);clear Yt hg8)
   obtain⟨u1,u2,u3,u4⟩:=u;obtain⟨y1,y2,y3,y4,y5⟩:=B8.i.num;simp only at y1 y2 y3 y4;have o2:=pK u1 u2 HUK.i.1 HUK.i.2.1;have o3:=pK (u1 ^^^ u2) u3 (xX _ _ HUK.i.1 HUK.i.2.1) HUK.i.2.2.1;have o4:=pK (u1 ^^^ u2 ^^^ u3) u4 (xX _ _ (xX _ _ HUK.i.1 HUK.i.2.1) HUK.i.2.2.1) HUK.i.2.2.2;go_quiet (fail);have L10:=ab (fO L8.i nq);go_wp2;go_ret;refine⟨?_,L10.i⟩;rw[HT.i,HFU.i];rfl
end
section
def WC(s:List (Option Fw)):Array aB:=(s.h fun o=>(slC o).a).c
theorem WE(o:Option Fw)(s:List (Option Fw)):WC (o::s)=slC o++WC s:=by
 simp[WC,iK]
theorem vw(s:List (Option Fw)):(WC s).j=s.a*42:=by
 induction s with
 | nil=>rfl
 | cons o s ih=>rw[WE,nU,ih,ER,bD];omega
theorem J8:∀(s:List (Option Fw))(i j:Nat),i<s.a->j<42->(WC s)[i*42+j]? = (slC (at_ s i))[j]?
 | [],i,j,hi,_=>by simp at hi
 | o::s,0,j,_,hj=>by
   rw[WE,Nat.zero_mul,bl,aD,if_pos (by rw[ER];exact hj)];rfl
 | o::s,i+1,j,hi,hj=>by
   rw[WE,aD,if_neg (by rw[ER];omega),ER,show(i+1)*42+j-42=i*42+j by omega];exact J8 s i j (by simpa using hi) hj
theorem Qa(s:List (Option Fw))(i k m:Nat)(hi:i<s.a)(hm:k+m<=42)(c:Array aB)(hc:(slC (at_ s i)).m k (k+m)=c):(WC s).m (i*42+k) (i*42+k+m)=c:=by
 rw[<-hc];have h1:=vw s;have h2:=ER (at_ s i);have h3:(i+1)*42<=s.a*42:=cZ 42 hi;apply dW;intro j;rw[cu,cu];by_cases hj:j<m
 ·rw[if_pos (by omega),if_pos (by omega),mZ,J8 s i (k+j) hi (by omega)]
 ·rw[if_neg (by omega),if_neg (by omega)]
theorem anj(s:List (Option Fw))(i:Nat)(hi:i<s.a):(WC s).m (i*42) (i*42+42)=(wD (at_ s i)).ay:=Qa s i 0 42 hi (by omega) _ (Sl.all _)
theorem ank(s:List (Option Fw))(i:Nat)(hi:i<s.a):(WC s).m (i*42+1) (i*42+1+41)=(wD (at_ s i)).qW.ay:=Qa s i 1 41 hi (by omega) _ (Sl.TL _)
theorem aqB(s:List (Option Fw))(i:Nat)(hi:i<s.a):(WC s).m (i*42+1) (i*42+1+37)=(wD (at_ s i)).qW.key.ay:=by
 refine Qa s i 1 37 hi (by omega) _ ?_;show(Sl.ay _).m 1 38=_;simp[Sl.ay,Fw.ay,bW,Tu.G,pR (Tu.G _),tY]
theorem anl(s:List (Option Fw))(i:Nat)(hi:i<s.a):(WC s)[i*42]? = some (.e (at_ s i).isSome):=by
 have:=J8 s i 0 hi (by omega);rw[nD]at this;rw[this];show(wD (at_ s i)).ay[0]? = _;rw[Sl.NW,Jk]
theorem TM(s:List (Option Fw))(i:Nat)(o:Option Fw)(hi:i<s.a):sF (WC s) (i*42) (slC o)=WC (s.set i o):=by
 apply dW;intro j;rw[Eh,vw,ER];have h3:(i+1)*42<=s.a*42:=cZ 42 hi;by_cases hj:j<s.a*42
 ·have e:j=j/42*42+j%42:=by omega
  have hq:j/42<s.a:=by omega
  have h4:(WC (s.set i o))[j]? = (slC (at_ (s.set i o) (j/42)))[j%42]?:=by
   conv=>lhs;rw[e]
   exact J8 _ _ _ (by simpa using hq) (by omega)
  have h5:(WC s)[j]? = (slC (at_ s (j/42)))[j%42]?:=by
   conv=>lhs;rw[e]
   exact J8 _ _ _ hq (by omega)
  rw[h4,h5,FT _ _ _ _ hi];by_cases hc:i*42<=j/\j<i*42+42
  ·rw[if_pos ⟨hc.1,hc.2,hj⟩,if_pos (by omega)]
   congr 1;omega
  ·rw[if_neg (by omega),if_neg (by omega)]
 ·rw[if_neg (by omega),aU (by rw[vw];omega),aU (by rw[vw];simp;omega)]
structure Fv(W:ak)(q g:Nat)(key:Vector UInt8 16)(room:Int)(s:List (Option Fw)):Prop where
 tb:dJ W q (Tk.mk key room (iw s).a (some ⟨g,0,none⟩) s.a s.a).ay
 sl:dJ W g (WC s)
 ne:q≠g
 sz:0<s.a/\s.a<=100000
variable {W W':ak} {q g:Nat} {key:Vector UInt8 16} {room:Int} {s:List (Option Fw)}
theorem Fv.go(h:Fv W q g key room s)(hb:aL W.a.j W W'):Fv W' q g key room s:=⟨h.tb.go hb,h.sl.go hb,h.ne,h.sz⟩
theorem Fv.alloc(h:Fv W q g key room s)(ob:Obj):Fv (W.alloc ob) q g key room s:=h.go ((aH _ _).alloc (av _) _)
theorem Fv.drew(h:Fv W q g key room s):Fv W.drew q g key room s:=⟨h.tb.drew,h.sl.drew,h.ne,h.sz⟩
theorem Fv.drewN(h:Fv W q g key room s)(n:Nat):Fv (W.drewN n) q g key room s:=⟨h.tb.drewN n,h.sl.drewN n,h.ne,h.sz⟩
theorem Fv.WG(h:Fv W q g key room s){i:Nat}(hi:i<s.a):W.b ⟨g,i*42,none⟩=some (.e (at_ s i).isSome)/\eu W g (i*42) 42=(wD (at_ s i)).ay/\eu W g (i*42+1) 41=(wD (at_ s i)).qW.ay/\eu W g (i*42+1) 37=(wD (at_ s i)).qW.key.ay/\xJ W g (i*42) 42/\xJ W g (i*42+1) 41/\xJ W g (i*42+1) 37:=by
 obtain⟨h1,h2,h3,h4⟩:=h.sl.K;have hs:=vw s;have hm:(i+1)*42<=s.a*42:=cZ 42 hi;have hh:∀o n,o+n<=s.a*42->xJ W g o n:=fun o n hn=>by rw[h3 o n (by unfold dZ;omega)];trivial
 refine⟨by rw[h1,anl s i hi],?_,?_,?_,hh _ _ (by omega),hh _ _ (by omega),hh _ _ (by omega)⟩
 ·rw[h4 _ _ (by unfold dZ;omega),anj s i hi]
 ·rw[h4 _ _ (by unfold dZ;omega),ank s i hi]
 ·rw[h4 _ _ (by unfold dZ;omega),aqB s i hi]
theorem Fv.K(h:Fv W q g key room s):W.b ⟨q,18,none⟩=some (.a (some ⟨g,0,none⟩) s.a s.a)/\W.b ⟨q,17,none⟩=some (.b .a (iw s).a)/\W.b ⟨q,16,none⟩=some (.b .a room)/\(∀j,W.frozen? ⟨q,j,none⟩=false)/\eu W q 0 16=iH key/\xJ W q 0 16:=by
 obtain⟨h1,h2,h3,h4⟩:=h.tb.K;refine⟨(h1 18).trans (Tk.yx _),(h1 17).trans (Tk.aea _),(h1 16).trans (Tk.Tm _),h2,?_,?_⟩
 ·rw[h4 0 16 (by unfold dZ;rw[Tk.G];omega)];exact Tk.abI _
 ·rw[h3 0 16 (by unfold dZ;rw[Tk.G];omega)];trivial
def hmK(key:Vector UInt8 16)(N:Nat)(k:Tu):Nat:=xK key (Lj k)%N
end
section
open Go.RowKit Go.Shelf
attribute [local go_sem] qj
theorem oN.Bo(x:oN):x.ay.j=2:=by simp[oN.ay]
theorem oN.aef(x:oN):x.ay.all (·.h)=true:=by simp[oN.ay,cB]
@[go_sem]theorem oN.aDT(x:oN):dZ x.ay=2:=oN.Bo x
@[go_sem]theorem oN.aDU(x:oN):x.ay.m 0 2=x.ay:=by have:=oN.Bo x;rw[<-this];simp
@[go_sem]theorem oN.uK(x:oN):x.ay[0]? = some (.g (bK x.E)):=rfl
@[go_sem]theorem oN.aqC(x:oN):x.ay[1]? = some (.b .a x.q):=rfl
def lg:oN:=⟨[],0⟩
instance:Inhabited oN:=⟨lg⟩
@[go_sem]theorem aqD:eD #[ig {data:=#[]},aI bU 0] 151=eD lg.ay 151:=rfl
theorem auX:oO 151 2 lg.ay:=⟨⟨_,Tryz.underlying151,rfl⟩,by kernel_rfl,by kernel_rfl,rfl⟩
@[go_sem ↓]theorem aG2(v:aB):bZ 151 v=xu 151 v:=rfl
@[go_sem ↓]theorem aG3(v x:aB):eF 151 v x=yS 151 v x:=rfl
@[go_sem]theorem auY(W:ak)(b o:Nat)(h:xJ W b o 2):(xu 151 (.c (some ⟨b,o,none⟩))).I ah W=.ok (.d (eu W b o 2)) W:=auX.ld W b o h
@[go_sem]theorem aA7(W:ak)(c:Array aB)(x:oN)(b:Nat)(hb:b=W.a.j)(hc:dZ c=2):(yS 151 (.c (some ⟨b,0,none⟩)) (.d x.ay)).I ah (W.alloc (.D c 151))=.ok () (W.alloc (.D x.ay 151)):=auX.stN W c x.ay b hb hc rfl (oN.aef x)
@[go_sem]theorem auZ(w:ak)(x:oN):(al6 1 #[(0,.d x.ay)]).I ah w=.ok (.a (some ⟨w.a.j,0,none⟩) 1 1) (w.alloc (.D x.ay 151)):=ai8 w x.E x.q
theorem oN.G(x:oN):x.ay.j=2:=rfl
theorem oN.cK(x:oN):x.ay.all (·.h)=true:=oN.aef x
theorem kK{W:ak}{b:Nat}{x:Fw}(h:dJ W b x.ay):(LA (.c (some ⟨b,0,none⟩))).I ah W=.ok (.d x.ay) W:=by
 have hs:dZ x.ay=41:=Fw.G x;rw[aa5 W b 0 (of_eq_true (h.K.2.2.1 0 41 (by omega))),h.K.2.2.2 0 41 (by omega),bl,Fw.j5]
theorem WH{W:ak}{b:Nat}{x:oN}(h:dJ W b x.ay):(xu 151 (.c (some ⟨b,0,none⟩))).I ah W=.ok (.d x.ay) W:=by
 have hs:dZ x.ay=2:=rfl;rw[auY W b 0 (of_eq_true (h.K.2.2.1 0 2 (by omega))),h.K.2.2.2 0 2 (by omega),bl,oN.aDU]
theorem WI(F:KI)(n:Nat)(h3:F.fn 266)(hro:F.round=none)(hn:3<=n)(gf:Nat)(lb:Array aB)(hgf:F.fn gf)(eg:∀args w,(callFunc gf args).I ah w=.ok (.enter gf args) w)(S Sp:List Fw->Prop)(N:Nat)(hN:N<=100000)(w:ak)
 (hseq:vX F (n-1) ah gf lb (fun x:Fw=>#[bY x.ay]) (aL w.a.j) S Sp N w) :
 Mh F n ah 266 #[.a none 0 0,.func (.func gf) #[] lb] w fun e W'=>
  ∃ys,S ys/\∃A' c',e=.a (.a A' ys.a c')/\W'.c w.a.j 86 41 (.a A' ys.a c') ys.a (ys.h fun x=>x.ay.a)/\aL w.a.j w W':=by
 have h1:1<=n:=by omega
 obtain⟨i0,hi,hz0,hz1,hzb⟩:=afS;refine qY Tryz.func266 rfl h3 ?_ hro;simp only[Tryz.ntmps266,dK,bD,gH,kP,kQ,fV,fZ,iL,gP,dG,iq];gi_wp2;have bO:=Boxed.new w 34 (.a none 0 0);have hB0:aL w.a.j w (w.alloc (.D #[.a none 0 0] 34)):=(aH _ w).alloc (av _) _;have hs0:(w.alloc (.D #[.a none 0 0] 34)).a.j=w.a.j+1:=by simp
 generalize w.alloc (.D #[.a none 0 0] 34)=W0 at bO hB0 hs0 ⊢;refine yE hro h1 (gf:=gf) (lb:=lb) rfl hgf eg hseq (fun h k=>Below.trans h k) (vQ (by omega)) hB0 (fun _=>rfl)
  (fun(pre:List Fw) W=>(∃v,Boxed W w.a.j 34 v/\W.c w.a.j 86 41 v pre.a (pre.h fun x=>x.ay.a)/\True)/\aL w.a.j w W)
  (fun _ _ _=>False)
  (OwnFrom.and (Own.from (holdsRow_own w.a.j w.a.j 34 86 41 (fun pre:List Fw=>pre.a) (fun pre:List Fw=>pre.h fun x=>x.ay.a) (fun _ _=>True)) _) (yQ (av _) (by omega)))
  (fun _ _ _ _ _ hs _ _=>hs)
  ⟨⟨_,bO,eY _ _ _ _,trivial⟩,hB0⟩
  (fun x a' W=>∃Bq,w.a.j<Bq/\dJ W Bq x.ay/\a'={tmps:=#[.a none 0 0,.func (.func gf) #[] lb,.c (some ⟨w.a.j,0,none⟩),undef,.a none 0 0,.c (some ⟨Bq,0,none⟩),.func (.func gf) #[] lb,.d x.ay,undef,undef,undef,undef,undef],defers:=[]})
  (fun x a' _ X Y row hs hg hr=>by obtain⟨Bq,h1,h2,h3⟩:=hs;exact⟨Bq,h1,zy Bq x.ay () X Y row h2 hg (fun r e=>(hr r e).2),h3⟩)
  ?assign ?body ?done ?stop
 case assign=>
  rintro q pre x W K ⟨⟨v,hv,hrow,_⟩,hB⟩ hK;gi_wp2;refine hK _ _ ((KeepsOthers.alloc _ _).from _) ((aH _ W).alloc hB.j _) ⟨⟨v,hv.alloc _,hrow.alloc _,trivial⟩,hB.alloc hB.j _⟩ ⟨W.a.j,hv.lt,dJ.new W _ _,rfl⟩
 case body=>
  rintro q pre x a' W hq ⟨r,hr⟩ ⟨⟨v,hv,hrow,_⟩,hB⟩ ⟨Bq,hBq,bX,rfl⟩ hlt;have hcv:=hv.cell;have hld:=kK bX;have hby:(pre.a+1)*i0.bytes<=140737488355328:=aO (gG (show pre.a+1<=100002 by omega) hzb) (by omega);have HN1:=ab (show x.ay.a.a=1*41 by simp[Fw.G]);have HNC:=ab (fun(W:ak) (j:Nat) (u:aB) (hu:x.ay.a[j]? = some u)=>show(W.alloc (.D x.ay 86)).b ((⟨W.a.j,0,none⟩:aS).add j)=some u by
   rw[iC,bl,mQ,<-dD];exact hu)
  have Ea:=ab (show∀u∈x.ay.a,u.h=true from fun u hu=>by have:=Fw.cK x;rw[xQ]at this;exact this u (by simpa using hu));gi_wp2_with (gi_at_builtin;refine Ef _ rfl _ _ 34 rfl w.a.j 86 i0 (.d jq.ay) 41 i0.bytes Fe hi hz0 hz1 rfl (by simp[cO,Fw.G]) (by decide) _ _ _ rfl (hrow.alloc _) ⟨W.a.j,0,none⟩ 1 1 x.ay.a rfl HN1.i (HNC.i W) Ea.i (by unfold maxLen;omega) hby (by have:=hB.j;simp;omega) ?_;intro v' w1 hown' hgrow _;obtain⟨g',cap',rfl⟩:=ownsRow_succ hown';obtain⟨hv1,hv2,hr2,hk2,hb2⟩:=hv.appended (by decide) hrow hB.j (av _) hown' hgrow;have hc1:=hv1.cell;have hf1:=hv1.frozen);exact⟨hk2.from _,hb2,⟨_,hv2,by rw[aR,wX];simpa using hr2,trivial⟩,hB.trans hb2⟩
 case done=>
  rintro D ys W hD hS ⟨⟨v,hv,hrow,_⟩,hB⟩ hK;have hcv:=hv.cell;gi_wp2;refine⟨by simp,.a ⟨_,_,rfl,uH hK,?_⟩⟩;obtain⟨A',c',hv',_,_⟩:=jG hrow;refine⟨_,Ih rfl _ _ _,ys,hS,A',c',by rw[<-hv'];rfl,?_,hB.trans (vQ (w:=w) (av _) W D _ _ (by omega) hK rfl rfl)⟩;rw[<-hv'];exact ownsRow_putObj hrow _ hK rfl
 case stop=>
  rintro D c pre W _ _ h _;exact h.elim
theorem Yh(gf:Nat)(lb:Array aB)(eg:∀args w,(callFunc gf args).I ah w=.ok (.enter gf args) w)(S Sp:List Fw->Prop)(N:Nat)(hN:N<=100000)(w:ak)(hseq:vX nG 5 ah gf lb (fun x:Fw=>#[bY x.ay]) (aL w.a.j) S Sp N w):
 aQ ah 201 #[.func (.func gf) #[] lb] w fun e W'=>
  ∃ys,S ys/\∃A' c',e=.a (.a A' ys.a c')/\W'.c w.a.j 86 41 (.a A' ys.a c') ys.a (ys.h fun x=>x.ay.a)/\aL w.a.j w W':=by
 have AP:=ab ((mU (n:=6)).1 (WI nG 6 trivial rfl (by omega) gf lb trivial eg S Sp N hN w hseq));clear hseq;go_enter Tryz.func201,Tryz.ntmps201;go_wp2_with fail;refine AP.i.g ?_;rintro e w1 ⟨ys,hS,A1,c1,rfl,ho,hb⟩;have HS:=ab hS;have HO:=ab ho;have HB:=ab hb;clear ho hb hS;obtain⟨m,hm⟩:=dw ys.a;rw[<-hm]at HO ⊢;go_wp2;go_ret;subst hm;exact⟨ys,HS.i,A1,c1,rfl,HO.i,HB.i⟩
theorem Sm(F:KI)(n:Nat)(h3:F.fn 300)(hro:F.round=none)(hn:3<=n)(gf:Nat)(lb:Array aB)(hgf:F.fn gf)(eg:∀args w,(callFunc gf args).I ah w=.ok (.enter gf args) w)(S Sp:List oN->Prop)(N:Nat)(hN:N<=100000)(w:ak)
 (hseq:vX F (n-1) ah gf lb (fun x:oN=>#[bY x.ay]) (aL w.a.j) S Sp N w) :
 Mh F n ah 300 #[.a none 0 0,.func (.func gf) #[] lb] w fun e W'=>
  ∃ys,S ys/\∃A' c',e=.a (.a A' ys.a c')/\W'.c w.a.j 151 2 (.a A' ys.a c') ys.a (ys.h fun x=>x.ay.a)/\aL w.a.j w W':=by
 have h1:1<=n:=by omega
 obtain⟨i0,hi,hz0,hz1,hzb⟩:=aaV;refine qY Tryz.func300 rfl h3 ?_ hro;simp only[Tryz.ntmps300,dK,bD,gH,kP,kQ,fV,fZ,iL,gP,dG,iq];gi_wp2;have bO:=Boxed.new w 75 (.a none 0 0);have hB0:aL w.a.j w (w.alloc (.D #[.a none 0 0] 75)):=(aH _ w).alloc (av _) _;have hs0:(w.alloc (.D #[.a none 0 0] 75)).a.j=w.a.j+1:=by simp
 generalize w.alloc (.D #[.a none 0 0] 75)=W0 at bO hB0 hs0 ⊢;refine yE hro h1 (gf:=gf) (lb:=lb) rfl hgf eg hseq (fun h k=>Below.trans h k) (vQ (by omega)) hB0 (fun _=>rfl)
  (fun(pre:List oN) W=>(∃v,Boxed W w.a.j 75 v/\W.c w.a.j 151 2 v pre.a (pre.h fun x=>x.ay.a)/\True)/\aL w.a.j w W)
  (fun _ _ _=>False)
  (OwnFrom.and (Own.from (holdsRow_own w.a.j w.a.j 75 151 2 (fun pre:List oN=>pre.a) (fun pre:List oN=>pre.h fun x=>x.ay.a) (fun _ _=>True)) _) (yQ (av _) (by omega)))
  (fun _ _ _ _ _ hs _ _=>hs)
  ⟨⟨_,bO,eY _ _ _ _,trivial⟩,hB0⟩
  (fun x a' W=>∃Bq,w.a.j<Bq/\dJ W Bq x.ay/\a'={tmps:=#[.a none 0 0,.func (.func gf) #[] lb,.c (some ⟨w.a.j,0,none⟩),undef,.a none 0 0,.c (some ⟨Bq,0,none⟩),.func (.func gf) #[] lb,.d x.ay,undef,undef,undef,undef,undef],defers:=[]})
  (fun x a' _ X Y row hs hg hr=>by obtain⟨Bq,h1,h2,h3⟩:=hs;exact⟨Bq,h1,zy Bq x.ay () X Y row h2 hg (fun r e=>(hr r e).2),h3⟩)
  ?assign ?body ?done ?stop
 case assign=>
  rintro q pre x W K ⟨⟨v,hv,hrow,_⟩,hB⟩ hK;gi_wp2;refine hK _ _ ((KeepsOthers.alloc _ _).from _) ((aH _ W).alloc hB.j _) ⟨⟨v,hv.alloc _,hrow.alloc _,trivial⟩,hB.alloc hB.j _⟩ ⟨W.a.j,hv.lt,dJ.new W _ _,rfl⟩
 case body=>
  rintro q pre x a' W hq ⟨r,hr⟩ ⟨⟨v,hv,hrow,_⟩,hB⟩ ⟨Bq,hBq,bX,rfl⟩ hlt;have hcv:=hv.cell;have hld:=WH bX;have hby:(pre.a+1)*i0.bytes<=140737488355328:=aO (gG (show pre.a+1<=100002 by omega) hzb) (by omega);have HN1:=ab (show x.ay.a.a=1*2 by simp[oN.G]);have HNC:=ab (fun(W:ak) (j:Nat) (u:aB) (hu:x.ay.a[j]? = some u)=>show(W.alloc (.D x.ay 151)).b ((⟨W.a.j,0,none⟩:aS).add j)=some u by
   rw[iC,bl,mQ,<-dD];exact hu)
  have Ea:=ab (show∀u∈x.ay.a,u.h=true from fun u hu=>by have:=oN.cK x;rw[xQ]at this;exact this u (by simpa using hu));gi_wp2_with (gi_at_builtin;refine Ef _ rfl _ _ 75 rfl w.a.j 151 i0 (.d #[.g ⟨#[]⟩,.b .a 0]) 2 i0.bytes vD hi hz0 hz1 rfl (by simp[cO]) (by decide) _ _ _ rfl (hrow.alloc _) ⟨W.a.j,0,none⟩ 1 1 x.ay.a rfl HN1.i (HNC.i W) Ea.i (by unfold maxLen;omega) hby (by have:=hB.j;simp;omega) ?_;intro v' w1 hown' hgrow _;obtain⟨g',cap',rfl⟩:=ownsRow_succ hown';obtain⟨hv1,hv2,hr2,hk2,hb2⟩:=hv.appended (by decide) hrow hB.j (av _) hown' hgrow;have hc1:=hv1.cell;have hf1:=hv1.frozen);exact⟨hk2.from _,hb2,⟨_,hv2,by rw[aR,wX];simpa using hr2,trivial⟩,hB.trans hb2⟩
 case done=>
  rintro D ys W hD hS ⟨⟨v,hv,hrow,_⟩,hB⟩ hK;have hcv:=hv.cell;gi_wp2;refine⟨by simp,.a ⟨_,_,rfl,uH hK,?_⟩⟩;obtain⟨A',c',hv',_,_⟩:=jG hrow;refine⟨_,Ih rfl _ _ _,ys,hS,A',c',by rw[<-hv'];rfl,?_,hB.trans (vQ (w:=w) (av _) W D _ _ (by omega) hK rfl rfl)⟩;rw[<-hv'];exact ownsRow_putObj hrow _ hK rfl
 case stop=>
  rintro D c pre W _ _ h _;exact h.elim
theorem WJ(gf:Nat)(lb:Array aB)(eg:∀args w,(callFunc gf args).I ah w=.ok (.enter gf args) w)(S Sp:List oN->Prop)(N:Nat)(hN:N<=100000)(w:ak)(hseq:vX nG 5 ah gf lb (fun x:oN=>#[bY x.ay]) (aL w.a.j) S Sp N w):
 aQ ah 237 #[.func (.func gf) #[] lb] w fun e W'=>
  ∃ys,S ys/\∃A' c',e=.a (.a A' ys.a c')/\W'.c w.a.j 151 2 (.a A' ys.a c') ys.a (ys.h fun x=>x.ay.a)/\aL w.a.j w W':=by
 have AP:=ab ((mU (n:=6)).1 (Sm nG 6 trivial rfl (by omega) gf lb trivial eg S Sp N hN w hseq));clear hseq;go_enter Tryz.func237,Tryz.ntmps237;go_wp2_with fail;refine AP.i.g ?_;rintro e w1 ⟨ys,hS,A1,c1,rfl,ho,hb⟩;have HS:=ab hS;have HO:=ab ho;have HB:=ab hb;clear ho hb hS;obtain⟨m,hm⟩:=dw ys.a;rw[<-hm]at HO ⊢;go_wp2;go_ret;subst hm;exact⟨ys,HS.i,A1,c1,rfl,HO.i,HB.i⟩
end
theorem Sn:oO 22 16 (iH (bF 16 0)):=⟨⟨_,nX,rfl⟩,by kernel_rfl,by kernel_rfl,dH _⟩
@[go_sem ↓]theorem aG4(v:aB):bZ 22 v=xu 22 v:=rfl
theorem agw(key:Vector UInt8 16)(A:Option aS)(n c:Nat)(bs:List UInt8)(w:ak)(hr:gq w w.a.j A n bs)(hn:n<=1000000):aQ ah 97 #[.d (iH key),.a (some ⟨w.a.j,0,none⟩) 1 1] (w.alloc (.D #[.a A n c] 56)) (gM w (.b .c (xK key bs))):=by
 have hl:=hr.len;refine(Zx key [⟨A,n,c⟩] [bs] _ 1 1 _ (RdS.lit w [⟨A,n,c⟩] 56) (.cons ((hr.alloc (av _) _).lD (by simp)) .nil) (by omega) (by simp[yI];omega) bs (by simp) (by omega)).g ?_;rintro e w' ⟨rfl,hb⟩;exact⟨rfl,((aH _ w).alloc (av _) _).trans (hb.g (by simp))⟩
theorem Zy{W:ak}{q:Nat}{k:Vector UInt8 16}(h:dJ W q (iH k)):W.rangeAt q 0 (k.a.map bv):=by
 intro j v hj;rw[h.K.1,bl];unfold iH;rw[List.getElem?_toArray];exact hj
theorem agx(key:Vector UInt8 16)(A:Option aS)(n c:Nat)(bs:List UInt8)(w:ak)(hr:gq w w.a.j A n bs)(hn:n<=1000000):aQ ah 97 #[.d (key.a.map bv).c,.a (some ⟨w.a.j,0,none⟩) 1 1] (w.alloc (.D #[.a A n c] 56)) (gM w (.b .c (xK key bs))):=agw key A n c bs w hr hn
theorem Jl(t:Tu)(ht:xq t)(w:ak):aQ ah 98 #[.d t.ay] w fun e w'=>∃A c,e=.a (.a A 38 c)/\gq w' w'.a.j A 38 (Lj t)/\aL w.a.j w w':=by
 refine(aa' t ht w).g ?_;rintro e w' ⟨A,n,c,rfl,hn,ho,hb⟩;rw[apP]at hn;subst hn;exact⟨A,c,rfl,gq.gU ho,hb⟩
theorem Jm(key:Vector UInt8 16)(t:Tu)(ht:xq t)(w:ak):aQ ah 36 #[.d (iH key),.d t.ay] w (gM w (.b .c (xK key (Lj t)))):=by
 have Z0:=ab (((Bx.start w).new (iH key) 22).new t.ay 81);have e1:(w.alloc (.D (iH key) 22)).a.j=w.a.j+1:=by simp
 rw[e1]at Z0;have CB:=ab (fun W=>Jl t ht W);clear e1;go_enter Tryz.func36,Tryz.ntmps36;go_upto_region 1 with fail
 generalize(w.alloc (.D (iH key) 22)).alloc (.D t.ay 81)=w1 at Z0 ⊢;have KS:=ab (fun(w':ak) (h:Bx [(w.a.j+1,t.ay),(w.a.j,iH key)] w w')=>show w'.rangeAt w.a.j 0 (key.a.map bv)/\(tL (.c (some ⟨w.a.j+1,0,none⟩))).I ah w'=.ok (.d t.ay) w' from⟨Zy h.b1,pF h.X⟩);obtain⟨l1,l2⟩:=KS.i _ Z0.i;obtain⟨bs,hbs⟩:=dw (Lj t);have HBS:=ab hbs;rw[<-hbs]at CB;clear hbs;have hU:=nX;have hI:(ah.info? 22).map (·.j)=some (key.a.map bv).a:=by rw[bQ,lT];kernel_rfl
 go_region_held_law (fun w'=>w'.rangeAt w.a.j 0 (key.a.map bv)/\(tL (.c (some ⟨w.a.j+1,0,none⟩))).I ah w'=.ok (.d t.ay) w')
  (first|exact KS.i _ Z0.i.drew|exact KS.i _ Z6.i|exact KS.i _ (Z5.i.alloc _)|exact KS.i _ Z5.i|go_keep)
  (first
  | (go_at_call 98;(with_reducible refine(CB.i _).g ?_);rintro e w5 ⟨A5,c5,rfl,TJ,hb5⟩;have C6:=ab (agx key A5 38 c5 bs w5 TJ (by decide));have Z5:=ab (Z0.i.drew.go hb5);clear TJ hb5)
  | (go_at_call 97;(with_reducible refine C6.i.g ?_);rintro e w6 ⟨rfl,hb6⟩;have Z6:=ab (Z5.i.go hb6);clear hb6))
 go_wp2;go_ret;refine⟨?_,Z6.i.R⟩;rw[HBS.i];rfl
def aeg:Go.Shelf.Ren:=⟨fun|6=>238|15=>219|14=>301|28=>283|29=>284|20=>339|21=>340|22=>341|23=>342|24=>343|25=>344|26=>345|27=>346|46=>363|47=>329|48=>330|49=>364|50=>365|57=>372|n=>n,fun|22=>75|24=>151|25=>257|3=>3|39=>259|0=>0|53=>323|55=>92|4=>4|46=>352|45=>351|50=>158|5=>5|9=>9|66=>388|70=>392|76=>410|77=>152|n=>n,fun|n=>n⟩
theorem aqE:Go.Proofs.SlLaysF0.n6 ah aeg:={
 mixed:=by kernel_rfl,
 f6:=⟨Tryz.f238.E,by decide,Tryz.func238.trans (congrArg some (by kernel_rfl))⟩,
 f14:=⟨Tryz.f301.E,by decide,Tryz.func301.trans (congrArg some (by kernel_rfl))⟩,
 f15:=Tryz.func219.trans (congrArg some (by kernel_rfl)),
 f20:=⟨Tryz.f339.E,by decide,Tryz.func339.trans (congrArg some (by kernel_rfl))⟩,
 f21:=⟨Tryz.f340.E,by decide,Tryz.func340.trans (congrArg some (by kernel_rfl))⟩,
 f22:=⟨Tryz.f341.E,by decide,Tryz.func341.trans (congrArg some (by kernel_rfl))⟩,
 f23:=⟨Tryz.f342.E,by decide,Tryz.func342.trans (congrArg some (by kernel_rfl))⟩,
 f24:=⟨Tryz.f343.E,by decide,Tryz.func343.trans (congrArg some (by kernel_rfl))⟩,
 f25:=⟨Tryz.f344.E,by decide,Tryz.func344.trans (congrArg some (by kernel_rfl))⟩,
 f26:=⟨Tryz.f345.E,by decide,Tryz.func345.trans (congrArg some (by kernel_rfl))⟩,
 f27:=⟨Tryz.f346.E,by decide,Tryz.func346.trans (congrArg some (by kernel_rfl))⟩,
 f28:=Tryz.func283.trans (congrArg some (by kernel_rfl)),
 f29:=Tryz.func284.trans (congrArg some (by kernel_rfl)),
 f46:=⟨Tryz.f363.E,by decide,Tryz.func363.trans (congrArg some (by kernel_rfl))⟩,
 f47:=Tryz.func329.trans (congrArg some (by kernel_rfl)),
 f48:=Tryz.func330.trans (congrArg some (by kernel_rfl)),
 f49:=⟨Tryz.f364.E,by decide,Tryz.func364.trans (congrArg some (by kernel_rfl))⟩,
 f50:=⟨Tryz.f365.E,by decide,Tryz.func365.trans (congrArg some (by kernel_rfl))⟩,
 f57:=⟨Tryz.f372.E,by decide,Tryz.func372.trans (congrArg some (by kernel_rfl))⟩,
 t0:=Hf,
 a0:=Tryz.isAgg0,
 z0:=Tryz.sizeOf0,
 v0:=JC,
 t3:=gQ,
 a3:=Tryz.isAgg3,
 z3:=Tryz.sizeOf3,
 v3:=JD,
 t4:=nK,
 a4:=Tryz.isAgg4,
 z4:=Tryz.sizeOf4,
 v4:=JE,
 t5:=lC,
 a5:=Tryz.isAgg5,
 z5:=Tryz.sizeOf5,
 v5:=Tryz.zeroValue5,
 t9:=iM,
 a9:=Lf,
 z9:=Ig,
 v9:=Bp,
 t22:=vD,
 a22:=Tryz.isAgg75,
 z22:=Tryz.sizeOf75,
 v22:=Tryz.zeroValue75,
 t25:=Tryz.underlying257,
 a25:=Tryz.isAgg257,
 z25:=Tryz.sizeOf257,
 v25:=Tryz.zeroValue257,
 t39:=Tryz.underlying259,
 a39:=Tryz.isAgg259,
 z39:=Tryz.sizeOf259,
 v39:=Tryz.zeroValue259,
 t45:=Tryz.underlying351,
 a45:=Tryz.isAgg351,
 z45:=Tryz.sizeOf351,
 v45:=Tryz.zeroValue351,
 t46:=Tryz.underlying352,
 a46:=Tryz.isAgg352,
 z46:=Tryz.sizeOf352,
 v46:=Tryz.zeroValue352,
 t50:=Tryz.underlying158,
 a50:=Tryz.isAgg158,
 z50:=Tryz.sizeOf158,
 v50:=Tryz.zeroValue158,
 t53:=Tryz.underlying323,
 a53:=Tryz.isAgg323,
 z53:=Tryz.sizeOf323,
 v53:=Tryz.zeroValue323,
 t55:=Tryz.underlying92,
 a55:=Tryz.isAgg92,
 z55:=Tryz.sizeOf92,
 v55:=Tryz.zeroValue92,
 t66:=Tryz.underlying388,
 a66:=Tryz.isAgg388,
 z66:=Tryz.sizeOf388,
 v66:=Tryz.zeroValue388,
 t70:=Tryz.underlying392,
 a70:=Tryz.isAgg392,
 z70:=Tryz.sizeOf392,
 v70:=Tryz.zeroValue392,
 t76:=Tryz.underlying410,
 a76:=Tryz.isAgg410,
 z76:=Tryz.sizeOf410,
 v76:=Tryz.zeroValue410,
 t77:=Tryz.underlying152,
 a77:=Tryz.isAgg152,
 z77:=Tryz.sizeOf152,
 v77:=Tryz.zeroValue152}
def agy:Go.Shelf.Ren:=⟨fun|6=>151|15=>219|14=>218|28=>283|29=>284|20=>275|21=>276|22=>277|23=>278|24=>279|25=>280|26=>281|27=>282|46=>328|47=>329|48=>330|49=>331|50=>332|57=>359|n=>n,fun|22=>34|24=>86|25=>201|3=>3|39=>259|0=>0|53=>323|55=>92|4=>4|46=>352|45=>351|50=>158|5=>5|9=>9|66=>388|70=>392|76=>410|77=>152|n=>n,fun|n=>n⟩
theorem au0:Go.Proofs.SlLaysF0.n6 ah agy:={
 mixed:=by kernel_rfl,
 f6:=⟨Tryz.f151.E,by decide,Tryz.func151.trans (congrArg some (by kernel_rfl))⟩,
 f14:=⟨Tryz.f218.E,by decide,Tryz.func218.trans (congrArg some (by kernel_rfl))⟩,
 f15:=Tryz.func219.trans (congrArg some (by kernel_rfl)),
 f20:=⟨Tryz.f275.E,by decide,Tryz.func275.trans (congrArg some (by kernel_rfl))⟩,
 f21:=⟨Tryz.f276.E,by decide,Tryz.func276.trans (congrArg some (by kernel_rfl))⟩,
 f22:=⟨Tryz.f277.E,by decide,Tryz.func277.trans (congrArg some (by kernel_rfl))⟩,
 f23:=⟨Tryz.f278.E,by decide,Tryz.func278.trans (congrArg some (by kernel_rfl))⟩,
 f24:=⟨Tryz.f279.E,by decide,Tryz.func279.trans (congrArg some (by kernel_rfl))⟩,
 f25:=⟨Tryz.f280.E,by decide,Tryz.func280.trans (congrArg some (by kernel_rfl))⟩,
 f26:=⟨Tryz.f281.E,by decide,Tryz.func281.trans (congrArg some (by kernel_rfl))⟩,
 f27:=⟨Tryz.f282.E,by decide,Tryz.func282.trans (congrArg some (by kernel_rfl))⟩,
 f28:=Tryz.func283.trans (congrArg some (by kernel_rfl)),
 f29:=Tryz.func284.trans (congrArg some (by kernel_rfl)),
 f46:=⟨Tryz.f328.E,by decide,Tryz.func328.trans (congrArg some (by kernel_rfl))⟩,
 f47:=Tryz.func329.trans (congrArg some (by kernel_rfl)),
 f48:=Tryz.func330.trans (congrArg some (by kernel_rfl)),
 f49:=⟨Tryz.f331.E,by decide,Tryz.func331.trans (congrArg some (by kernel_rfl))⟩,
 f50:=⟨Tryz.f332.E,by decide,Tryz.func332.trans (congrArg some (by kernel_rfl))⟩,
 f57:=⟨Tryz.f359.E,by decide,Tryz.func359.trans (congrArg some (by kernel_rfl))⟩,
 t0:=Hf,
 a0:=Tryz.isAgg0,
 z0:=Tryz.sizeOf0,
 v0:=JC,
 t3:=gQ,
 a3:=Tryz.isAgg3,
 z3:=Tryz.sizeOf3,
 v3:=JD,
 t4:=nK,
 a4:=Tryz.isAgg4,
 z4:=Tryz.sizeOf4,
 v4:=JE,
 t5:=lC,
 a5:=Tryz.isAgg5,
 z5:=Tryz.sizeOf5,
 v5:=Tryz.zeroValue5,
 t9:=iM,
 a9:=Lf,
 z9:=Ig,
 v9:=Bp,
 t22:=Fe,
 a22:=Tryz.isAgg34,
 z22:=Tryz.sizeOf34,
 v22:=Tryz.zeroValue34,
 t25:=Tryz.underlying201,
 a25:=Tryz.isAgg201,
 z25:=Tryz.sizeOf201,
 v25:=Tryz.zeroValue201,
 t39:=Tryz.underlying259,
 a39:=Tryz.isAgg259,
 z39:=Tryz.sizeOf259,
 v39:=Tryz.zeroValue259,
 t45:=Tryz.underlying351,
 a45:=Tryz.isAgg351,
 z45:=Tryz.sizeOf351,
 v45:=Tryz.zeroValue351,
 t46:=Tryz.underlying352,
 a46:=Tryz.isAgg352,
 z46:=Tryz.sizeOf352,
 v46:=Tryz.zeroValue352,
 t50:=Tryz.underlying158,
 a50:=Tryz.isAgg158,
 z50:=Tryz.sizeOf158,
 v50:=Tryz.zeroValue158,
 t53:=Tryz.underlying323,
 a53:=Tryz.isAgg323,
 z53:=Tryz.sizeOf323,
 v53:=Tryz.zeroValue323,
 t55:=Tryz.underlying92,
 a55:=Tryz.isAgg92,
 z55:=Tryz.sizeOf92,
 v55:=Tryz.zeroValue92,
 t66:=Tryz.underlying388,
 a66:=Tryz.isAgg388,
 z66:=Tryz.sizeOf388,
 v66:=Tryz.zeroValue388,
 t70:=Tryz.underlying392,
 a70:=Tryz.isAgg392,
 z70:=Tryz.sizeOf392,
 v70:=Tryz.zeroValue392,
 t76:=Tryz.underlying410,
 a76:=Tryz.isAgg410,
 z76:=Tryz.sizeOf410,
 v76:=Tryz.zeroValue410,
 t77:=Tryz.underlying152,
 a77:=Tryz.isAgg152,
 z77:=Tryz.sizeOf152,
 v77:=Tryz.zeroValue152}
section
variable {α:Type} [Inhabited α]
theorem WK(f:α->Array aB)(k:Nat)(hk:∀x,(f x).j=k)(l:List α):(Sort.flatK (fun x=>(f x).a) k l.c).a=l.h fun x=>(f x).a:=by
 apply iJ;intro t;have hl:=tu f k hk l;by_cases ht:t<l.a*k
 ·have hk0:0<k:=by
   rcases dY k with h|h
   ·subst h;simp at ht
   ·exact h
  have hq:t/k<l.a:=(Nat.div_lt_iff_lt_mul hk0).2 ht;have hm:=fE t hk0;have e:=Nat.div_add_mod t k;have h1:=Sort.get_flatK (fun x=>(f x).a) k l.c t (by simpa using ht);have h2:=uQ f k hk l (t/k) (t%k) hq hm;rw[show t/k*k+t%k=t by rw[C9];exact e]at h2;rw[h2,dD];have hs:t<(Sort.flatK (fun x=>(f x).a) k l.c).j:=by rw[xR];simpa using ht
  rw[getElem!_pos _ t hs]at h1;rw[fq hs,h1];have hs2:t%k<(f l[t/k]).j:=by rw[hk];exact hm
  rw[fq hs2,getElem!_pos l.c (t/k) (by simpa using hq)];simp only[List.getElem_toArray];rw[getElem!_pos _ (t%k) (by simpa using hs2)];simp
 ·rw[aT (by simp[xR];omega),aT (by omega)]
theorem Sq(f:α->Array aB)(k:Nat)(hk:∀x,(f x).j=k){w:ak}{g:Nat}{cur:Array aB}{e:bM}{l:List α}(hb:w.a[g]? = some (.D cur e (0,0)))(ht:cur.a.d (l.a*k)=l.h fun x=>(f x).a):Sort.HoldsK (fun x=>(f x).a) k w g 0 l.c:=by
 intro j hj;rw[xR]at hj;have hj':j<l.a*k:=by simpa using hj
 refine⟨?_,by simp[sj,hb]⟩;have h1:(cur.a.d (l.a*k))[j]? = (l.h fun x=>(f x).a)[j]?:=by rw[ht]
 rw[gZ hj',<-WK f k hk l,dD,dD]at h1;have hs:j<(Sort.flatK (fun x=>(f x).a) k l.c).j:=by rw[xR];exact hj
 simp only[World.cell?,hb,bl,Option.isSome_none,jc,if_false,id];rw[h1,fq hs,getElem!_pos _ j hs]
theorem abJ(f:α->Array aB)(k:Nat){w:ak}{g n:Nat}{os:Array Obj}{cur:Array aB}{e:bM}{fr:Nat×Nat}(d:Array α)(hb:w.a[g]? = some (.D cur e fr)):
 (sortWorldK (fun x=>(f x).a) k w g 0 n d os).a[g]? = some (.D (Sort.putCells id 0 (Sort.flatK (fun x=>(f x).a) k d) cur) e fr):=by
 have hg:g<w.a.j:=(bV.1 hb).1;unfold sortWorldK Sort.putRowK;rw[Sort.heap_grow_old _ _ (by simpa using hg)];simp[Sort.putRow,Sort.mapBlock,Sort.ahead,zC,hb,Sort.onCells]
theorem Sr(f:α->Array aB)(k:Nat){w:ak}{g n:Nat}{os:Array Obj}(d:Array α):w.d (sortWorldK (fun x=>(f x).a) k w g 0 n d os) (some g):=by
 unfold sortWorldK Sort.putRowK;refine⟨rfl,rfl,rfl,by simp,fun j hj hne=>?_⟩;rw[Sort.heap_grow_old _ _ (by simpa using hj)];have:g≠j:=fun e=>hne (by rw[e])
 simp[Sort.putRow,Sort.mapBlock,Sort.ahead,zC,this]
theorem Sv(f:α->Array aB)(k:Nat)(hk:∀x,(f x).j=k){w:ak}{base g cap n:Nat}{e:bM}{os:Array Obj}{cur:Array aB}{l l':List α}(hl:l'.a=l.a)(hbase:base<=g)(hb:w.a[g]? = some (.D cur e (0,0)))
 (h1:l.a<=cap) (h2:cap<=maxLen) (h3:cur.j=cap*k):(sortWorldK (fun x=>(f x).a) k w g 0 n l'.c os).c base e k (.a (some ⟨g,0,none⟩) l.a cap) l.a (l'.h fun x=>(f x).a):=by
 have hle:l.a*k<=cap*k:=cZ k h1;refine⟨by rw[tu f k hk,hl],.b ⟨g,cap,_,rfl,hbase,abJ f k _ hb,h1,h2,by simp[Sort.putCells,h3],?_⟩⟩;rw[<-WK f k hk l'];apply iJ;intro j;by_cases hj:j<l.a*k
 ·have hs:j<(Sort.flatK (fun x=>(f x).a) k l'.c).j:=by rw[xR];simp[hl];exact hj
  rw[gZ hj,dD,dD,fq hs];simp only[Sort.putCells,Array.getElem?_mapIdx];rw[fq (by omega)];simp only[mY,iX,true_and,bl,hs,if_true,Nat.sub_zero,id];rw[getElem!_pos _ j hs]
 ·rw[List.getElem?_take_eq_none (by omega),aT (by simp[xR,hl];omega)]
open Go.Shelf in
theorem Zz {P:Program} {ρ:Ren} (L:SlLaysF0.n6 P ρ) (k:Nat) (aE:∀w,(isAgg (ρ.t 24)).I P w=.ok true w) (zE:∀w,(Go.sizeOf (ρ.t 24)).I P w=.ok k w) (f:α->Array aB) (hk:∀x,(f x).j=k) (h1:∀x,(f x).all (·.h)=true) (cf:α->α->Int) (hO:Sort.SWO (ltOf cf)) (g:Nat)
 (eg:∀args w,(callFunc g args).I P w=.ok (.enter g args) w) (base:Nat) (T:bM) (A:Option aS) (n c:Nat) (l:List α) (w:ak) (hn:l.a=n) (hn2:n<=1000000) (ho:w.c base T k (.a A n c) n (l.h fun x=>(f x).a))
 (hcmp:∀x y W,aQ P g #[.d (f x),.d (f y)] W (gM W (.b .a (cf x y)))) :
 aQ P (ρ.f 6) #[.a A n c,.func (.func g) #[] #[]] w fun e w'=>e=.a (.J #[])/\∃l':List α,l'.Perm l/\l'.Pairwise (fun x y=>ltOf cf y x=false)/\w'.c base T k (.a A n c) n (l'.h fun x=>(f x).a)/\w.d w' (bC A n c).f:=by
 subst hn;rcases ho.2 with⟨hv,h0⟩|⟨b,cap,cur,hv,h2,h3,h4,h5,h6,h7⟩
 ·injection hv with e1 e2 e3
  subst e1 e3;have hnil:l=[]:=bE h0;subst hnil;refine(AnyF.slices_SortFunc_none L none 0 _ w).g ?_;rintro e w' ⟨rfl,rfl⟩;exact⟨rfl,[],.refl _,.nil,ho,World.grownBy.refl _ _⟩
 ·injection hv with e1 e2 e3
  subst e1 e3;have hg:b<w.a.j:=(bV.1 h3).1;have hH:=Sq f k hk (l:=l) h3 h7;have hc:CmpLays P g #[] (fun x=>(f x).a) k cf b 0 l.c.j w:=by
   intro m os dk _ x y;refine(Calls.axA (hcmp x y _)).g ?_;rintro e w' ⟨rfl,q,os',hw⟩;exact⟨rfl,q,os',hw⟩
  have:=AnyQ.slices_SortFunc L k aE zE (fun x=>(f x).a) (fun x=>by simp[hk]) (fun x v hv=>by
   have:=h1 x;rw[xQ]at this;exact this v (by simpa using hv)) cf hO g #[] b 0 c l.c w eg hc hH hg (by simp;omega)
  rw[show l.c.j=l.a by simp]at this;refine this.g ?_;rintro e w' ⟨rfl,d',nn,os,hp,hs,rfl⟩;obtain⟨p1,p2,p3⟩:=hp;have hsz:d'.j=l.a:=by simpa using p1
  refine⟨rfl,d'.a,?_,?_,?_,Sr f k d'⟩
  ·have e1:d'.m 0 l.a=d':=by rw[<-hsz];simp
   have e2:l.c.m 0 l.a=l.c:=by simp
   rw[e1,e2]at p3;simpa using p3
  ·rw[fH]
   intro i j hi hj hij;have:=hs i j (iX _) hij (by simpa[hsz]using hj);rw[getElem!_pos _ j (by simpa using hj),getElem!_pos _ i (by simpa using hi)]at this;simpa using this
  ·have:=Sv f k hk (l:=l) (l':=d'.a) (n:=nn) (os:=os) (e:=T) (by simp[hsz]) h2 h3 h4 h5 h6
   simpa using this
end
theorem agz(l:List UInt8):Lib.bytesOf (l.map fun b=>((b.e:Nat):Int))=l:=by
 unfold Lib.bytesOf;rw[Ic]
 conv=>rhs;rw[<-List.map_id l]
 apply Ch;intro b _;simp
theorem Jo{P:Program}{w:ak}{B n:Nat}{A:Option aS}{l:List UInt8}(h:gq w B A n l)(c:Nat):(uq (.a A n c)).I P w=.ok (bK l) w:=by
 have hl:=h.len;rcases dY n with h0|h0
 ·subst h0
  obtain rfl:l=[]:=bE hl;cases A with
  | none=>simp[uq,bK];rfl
  | some a=>simp[uq,Extern.Bytes.loadBytes,bK];rfl
 ·obtain⟨a,rfl,_,hc⟩:=h.2 h0
  have:=Lib.run_loadBytesX (P:=P) w (l.map fun b=>((b.e:Nat):Int)) a .empty (fun j x hj=>by
   rw[jC]at hj;refine hc j _ ?_;rw[jC];cases hj2:l[j]? with
   | none=>rw[hj2]at hj;cases hj
   | some b=>rw[hj2]at hj;simp at hj;subst hj;rfl)
  rw[bQ,hl,agz]at this;show JA P (Extern.Bytes.loadBytes a n .empty) w=_;rw[this];congr 1;exact congrArg ByteArray.mk (by show #[]++l.c=l.c;simp)
theorem Yi{w:ak}{B C n m:Nat}{A A':Option aS}{l k:List UInt8}(h:gq w B A n l)(h':gq w C A' m k)(c c':Nat):(callFunc 263 #[.a A n c,.a A' m c']).I ah w=.ok (.value (.b .a (mD l k))) w:=by
 rw[run_callFunc_extern Tryz.func263 (by kernel_rfl) (by kernel_rfl) (by kernel_rfl) (e:=Extern.BytealgCompare.compare) (by kernel_rfl)];have:(Extern.BytealgCompare.compare #[.a A n c,.a A' m c']).I ah w=.ok (.b .a (mD l k)) w:=by
  change JA ah (do pure (goInt (Extern.BytealgCompare.cmp (<-uq (.a A n c)) (<-uq (.a A' m c'))))) w=_;simp only[jI,Jo h,Jo h',og,iD];rw[Lib.cmp_eq];rfl
 rw[this];rfl
theorem Qb{w:ak}{n m:Nat}{A A':Option aS}{l k:List UInt8}(h:gq w w.a.j A n l)(h':gq w w.a.j A' m k)(c c':Nat):aQ ah 194 #[.a A n c,.a A' m c'] w fun e w'=>e=.a (.b .a (mD l k))/\w=w':=by
 have hc:=Yi h h' c c';go_enter Tryz.func194,Tryz.ntmps194;go_wp2;go_ret;exact⟨rfl,rfl⟩
def abK(a b:Fw):Int:=if a.no=b.no then mD (Lj a.key) (Lj b.key)else a.no-b.no
theorem abL(a b:Fw):ltOf abK a b=kS a b:=by
 unfold ltOf abK kS;by_cases h:a.no=b.no
 ·rw[if_pos h,if_pos h,xV]
 ·rw[if_neg h,if_neg h]
  exact decide_eq_decide.2 (by omega)
theorem oP{W:ak}{b:Nat}{x:Fw}(h:dJ W b x.ay):(tL (.c (some ⟨b,0,none⟩))).I ah W=.ok (.d x.key.ay) W:=by
 have hs:dZ x.ay=41:=Fw.G x;have e:x.ay.m 0 37=x.key.ay:=by
  unfold Fw.ay;simp[bW,Tu.G,pR (Tu.G _)]
 rw[JX W b 0 (of_eq_true (h.K.2.2.1 0 37 (by omega))),h.K.2.2.2 0 37 (by omega),bl,e]
theorem QV(a b:Fw)(ha:xq a.key)(hb:xq b.key)(na:0<=a.no/\a.no<=1152921504606846976)(nb:0<=b.no/\b.no<=1152921504606846976)(w:ak):
 aQ ah 117 #[.d a.ay,.d b.ay] w (gM w (.b .a (abK a b))):=by
 have Z0:=ab (((Bx.start w).new a.ay 86).new b.ay 86);rw[show(w.alloc (.D a.ay 86)).a.j=w.a.j+1 by simp]at Z0;have C1:=ab (fun W=>Jl a.key ha W);have C2:=ab (fun W=>Jl b.key hb W);obtain⟨l,hl⟩:=dw (Lj a.key);obtain⟨k,hk⟩:=dw (Lj b.key);rw[<-hl]at C1;rw[<-hk]at C2;have HL:=ab hl;have HK:=ab hk;clear hl hk;go_enter Tryz.func117,Tryz.ntmps117;go_upto_region 1 with fail
 generalize(w.alloc (.D a.ay 86)).alloc (.D b.ay 86)=w1 at Z0 ⊢;have s1:=(Z0.i.b1.K.1 40).trans (Fw.Vw a);have s2:=(Z0.i.X.K.1 40).trans (Fw.Vw b);have l1:=oP Z0.i.b1;have l2:=oP Z0.i.X;by_cases h:a.no=b.no
 ·have t1:decide (a.no=b.no)=true:=by simp[h]
  have t2:(a.no==b.no)=true:=by simp[h]
  have t3:decide (a.no≠b.no)=false:=by simp[h]
  have t4:(a.no != b.no)=false:=by simp[h]
  have HC:=ab (show abK a b=mD l k by unfold abK;rw[if_pos h,<-HL.i,<-HK.i]);clear h;have KS:=ab (fun(w':ak) (h:Bx [(w.a.j+1,b.ay),(w.a.j,a.ay)] w w')=>show(tL (.c (some ⟨w.a.j,0,none⟩))).I ah w'=.ok (.d a.key.ay) w'/\(tL (.c (some ⟨w.a.j+1,0,none⟩))).I ah w'=.ok (.d b.key.ay) w' from⟨oP h.b1,oP h.X⟩);go_wp2_with fail;go_region_held_law (fun w'=>(tL (.c (some ⟨w.a.j,0,none⟩))).I ah w'=.ok (.d a.key.ay) w'/\(tL (.c (some ⟨w.a.j+1,0,none⟩))).I ah w'=.ok (.d b.key.ay) w')
   (first|exact KS.i _ Z0.i.drew|exact KS.i _ Z7.i|exact KS.i _ Z6.i|exact KS.i _ Z5.i|go_keep)
   (first
   | (go_at_call 98;(with_reducible refine(C1.i _).g ?_);rintro e w5 ⟨A5,c5,rfl,TJ,hb5⟩;first|(have R5:=ab TJ;have Z5:=ab (Z6.i.go hb5);have R6:=ab (R6.i.go hb5))|(have R5:=ab TJ;have Z5:=ab (Z0.i.drew.go hb5));clear TJ hb5)
   | (go_at_call 98;(with_reducible refine(C2.i _).g ?_);rintro e w6 ⟨A6,c6,rfl,ho6,hb6⟩;first|(have R6:=ab ho6;have Z6:=ab (Z5.i.go hb6);have R5:=ab (R5.i.go hb6))|(have R6:=ab ho6;have Z6:=ab (Z0.i.drew.go hb6));clear ho6 hb6)
   | (go_at_call 194;(with_reducible refine(Qb R5.i R6.i _ _).g ?_);rintro e w7 ⟨rfl,rfl⟩))
  all_goals go_wp2
  all_goals go_ret
  all_goals(refine⟨by rw[HC.i];rfl,?_⟩;first|exact Z6.i.R|exact Z5.i.R)
 ·have t1:decide (a.no=b.no)=false:=by simp[h]
  have t2:(a.no==b.no)=false:=by simp[h]
  have t3:decide (a.no≠b.no)=true:=by simp[h]
  have t4:(a.no != b.no)=true:=by simp[h]
  have HC:=ab (show abK a b=a.no-b.no by unfold abK;rw[if_neg h]);have i1:=jS (a.no-b.no) (by omega);clear h;go_wp2;go_ret;exact⟨by rw[HC.i];rfl,Z0.i.R⟩
theorem QW(a b:Fw)(ha:xq a.key)(hb:xq b.key)(na:0<=a.no/\a.no<=1152921504606846976)(nb:0<=b.no/\b.no<=1152921504606846976)(w:ak):
 aQ ah 49 #[.d a.ay,.d b.ay] w (gM w (.e (kS a b))):=by
 have Z0:=ab (((Bx.start w).new a.ay 86).new b.ay 86);rw[show(w.alloc (.D a.ay 86)).a.j=w.a.j+1 by simp]at Z0;have C1:=ab (fun W=>QV a b ha hb na nb W);obtain⟨r,hr⟩:=dw (abK a b);obtain⟨o,ho⟩:=dw (kS a b);rw[<-hr]at C1;have t1:decide (r<0)=o:=by rw[ho,<-abL,hr];rfl
 have HO:=ab ho;clear hr ho;go_enter Tryz.func49,Tryz.ntmps49;go_upto_region 1 with fail
 generalize(w.alloc (.D a.ay 86)).alloc (.D b.ay 86)=w1 at Z0 ⊢;have l1:=kK Z0.i.b1;have l2:=kK Z0.i.X;go_wp2_with (go_at_call 117;(with_reducible refine(C1.i _).g ?_);rintro e w5 ⟨rfl,hb5⟩;have Z5:=ab (Z0.i.go hb5);clear hb5);go_ret;exact⟨by rw[HO.i];rfl,Z5.i.R⟩
section
open Go.RowKit Go.Shelf
attribute [local go_sem] qj
theorem Gt{β:Type}{B:Nat}{J:β->ak->Prop}(h:AbidesFrom B J){s:β}{W:ak}(hs:J s W)(o:Obj):J s (W.alloc o):=h s W _ none hs (World.grownBy_alloc W o none) (fun r e=>by cases e)
theorem abM(F:KI)(n:Nat)(hf:F.fn 239)(hro:F.round=none)(hn:1<=n)(l Bs n₀ B0:Nat)(A:Option aS)(len cap:Nat)(zs:List oN)(hlen:len<=100000)(J Jx:List oN->ak->Prop)(hJ:AbidesFrom B0 J)
 (hY:∀pre x W,J pre W->pre.a<len->YieldAt F (n-1) ah l #[.d x.ay] W fun e W'=>
  (e=.a (.e true)/\J (pre++[x]) W'/\aL n₀ W W')\/(e=.a (.e false)/\Jx (pre++[x]) W'))
 (W:ak) (hn₀:n₀<=W.a.j) (Pp:W.b ⟨Bs,0,none⟩=some (.a A len cap)) (hR:gX oN.ay 2 W n₀ A len zs) (h0:J [] W) :
 Mh F n ah 239 #[.func (.yield l) #[] #[],.c (some ⟨Bs,0,none⟩)] W fun e W'=>(∃v,e=.a v) /\
  ((∃ys,ys=zs/\J ys W')\/(∃pre,pre <+: zs/\Jx pre W')):=by
 have hzl:=hR.1;refine Cq Tryz.func239 rfl hf ?_ hro;simp only[Tryz.ntmps239,dK,bD,gH,kP,kQ,fV,fZ,iL,gP,dG,iq];gi_wp2;gi_loopw [7] (fun i wr=>∃k:Nat,k<=len/\i=.b .a k/\J (zs.d k) wr/\aL n₀ W wr)
  (fun i _=>len-(intOf i).e)
 case atStart=>exact⟨0,iX _,rfl,h0,aH _ _⟩
 case round=>
  obtain⟨k,hk,rfl,hJs,hnx⟩:=hrel;by_cases hlt:k<len
  ·have hki:(k:Int)<len:=by omega
   obtain⟨b,o,rfl,hbb,hh,hc⟩:=gX.at_ oN.Bo lg (hR.S hnx) hlt;obtain⟨x,hx⟩:=dw (zs.b k lg);rw[<-hx]at hc;have DR:=ab (show zs.d k++[x]=zs.d (k+1)by rw[hx];exact oD lg zs k (by omega));clear hx hbb;have bx:=dJ.new wr x.ay 151;have hld:=WH bx;have hsz:=hnx.j;obtain⟨fn,tmps,assign,body,hy,hRd⟩:=hY _ x (wr.alloc (.D x.ay 151)) (Gt hJ hJs _) (by rw[bJ];omega);have Qf:=ab (hnx.alloc (by omega) (.D x.ay 151));clear bx;gi_wp2;refine hRd.g ?_;rintro e W3 (⟨rfl,hJ3,hk3⟩|⟨rfl,hJx3⟩)
   ·gi_wp2
    go_roundw
    case rel=>exact⟨k+1,by omega,by simp,by rw[<-DR.i];exact hJ3,Qf.i.trans hk3⟩
    case measure=>simp[intOf];omega
   ·gi_wp2
    refine aN (vE rfl _ _ _) rfl ?_;exact⟨⟨_,rfl⟩,.b ⟨_,by rw[DR.i];exact List.take_prefix _ _,hJx3⟩⟩
  ·obtain rfl:k=len:=by omega
   have hd:decide ((k:Int)<k)=false:=by simp
   gi_wp2;go_end0;exact⟨⟨_,rfl⟩,.a ⟨_,aK (by omega),hJs⟩⟩
theorem abN(A:Option aS)(len cap:Nat)(w:ak):
 aQ ah 164 #[.a A len cap] w fun e w'=>e=.a (.func (.func 239) #[] #[.c (some ⟨w.a.j,0,none⟩)])/\w.alloc (.D #[.a A len cap] 75)=w':=by
 go_enter Tryz.func164,Tryz.ntmps164;go_wp2;go_ret;exact⟨rfl,rfl⟩
theorem WL(F:KI)(n:Nat)(hf:F.fn 239)(hro:F.round=none)(hn:1<=n)(Bs n₀:Nat)(A:Option aS)(len cap:Nat)(zs:List oN)(hlen:len<=100000)(w:ak)(Pp:Bs<w.a.j)(hn₀:n₀<=w.a.j)
 (hc:w.b ⟨Bs,0,none⟩=some (.a A len cap)) (hR:gX oN.ay 2 w n₀ A len zs) :
 vX F n ah 239 #[.c (some ⟨Bs,0,none⟩)] (fun x:oN=>#[bY x.ay]) (aL n₀) (fun ys=>ys=zs) (fun pre=>pre <+: zs) len w:=fun l J Jx W hW hJ _ hY h0=>by
 have hc':=(hW.cell (p:=⟨Bs,0,none⟩) Pp).trans hc;exact abM F n hf hro hn l Bs n₀ W.a.j A len cap zs hlen J Jx hJ hY W (aO hn₀ hW.j) hc' (hR.to hW hn₀) h0
theorem aj4(x y:oN)(w:ak):aQ ah 165 #[.d x.ay,.d y.ay] w (gM w (.b .a (mD x.E y.E))):=by
 have Z0:=ab (((Bx.start w).new x.ay 151).new y.ay 151);rw[show(w.alloc (.D x.ay 151)).a.j=w.a.j+1 by simp]at Z0;have CC:=ab (fun W=>Qw x.E y.E W);go_enter Tryz.func165,Tryz.ntmps165;go_upto_region 1 with fail
 generalize(w.alloc (.D x.ay 151)).alloc (.D y.ay 151)=w1 at Z0 ⊢;have c1:=(Z0.i.b1.K.1 0).trans (oN.uK x);have c2:=(Z0.i.X.K.1 0).trans (oN.uK y);go_wp2_with (go_at_call 166;(with_reducible refine(CC.i _).g ?_);rintro e w2 ⟨rfl,rfl⟩);go_ret;exact⟨rfl,Z0.i.R⟩
def ZC(x y:oN):Int:=mD x.E y.E
theorem aj5:Sort.SWO (ltOf ZC):=by
 have e:∀x y,ltOf ZC x y=bR x.E y.E:=fun x y=>by rw[xV];rfl
 refine⟨fun x=>?_,fun x y z h1 h2=>?_,fun x y z h1 h2=>?_⟩
 ·rw[e];exact sK _
 ·rw[e]at *;exact yc _ _ _ h1 h2
 ·rw[e]at *;exact IZ h2 h1
def WM(l:List oN):Prop:=l.Pairwise fun x y=>bR x.E y.E=true
theorem anm{l l':List oN}(h:WM l)(hp:l'.Perm l)(hs:l'.Pairwise fun x y=>ltOf ZC y x=false):l'=l:=by
 have e:∀x y,ltOf ZC x y=bR x.E y.E:=fun x y=>by rw[xV];rfl
 have hst:IL (fun x y:oN=>bR x.E y.E):=⟨fun x=>sK _,fun x y z h1 h2=>yc _ _ _ h1 h2⟩
 have hnd:l'.Pairwise fun x y=>x.E≠y.E:=by
  refine(hp.pairwise_iff (fun{a b} (hab:a.E≠b.E)=>Ne.symm hab)).2 (h.imp ?_);intro a b hab heq;rw[heq,sK]at hab;cases hab
 have h':Asc (fun x y:oN=>bR x.E y.E) l':=by
  refine(hs.and hnd).imp ?_;rintro a b ⟨h1,h2⟩;rw[e]at h1;cases h3:bR a.E b.E
  ·exact absurd (zK _ _ h3 h1) h2
  ·exact h3
 exact Asc.eq hst h' h hp
theorem ano(w:ak):(isAgg 151).I ah w=.ok true w:=by simp[isAgg,dL Tryz.underlying151]
theorem aqG(w:ak):(Go.sizeOf 151).I ah w=.ok 2 w:=by
 obtain⟨i,hi,hi2,_⟩:=auX.af4;rw[run_sizeOf w hi];have hc:ah.cellsOf 151=2:=by simp[Program.cellsOf,hi,hi2]
 rw[hc]
theorem WO{B base size n:Nat}{e:bM}{v:aB}{xs:List aB}{w w1 w2:ak}(hb:aL B w w1)(ho:w1.c base e size v n xs)(hB:B<=base)(hB2:B<=w.a.j)(hg:w1.d w2 v.f):aL B w w2:=by
 refine⟨hg.os.trans hb.os,hg.tape.trans hb.tape,hg.output.trans hb.output,aO hb.j hg.j,fun k hk=>?_⟩;refine(hg.block k (eO (eO hk hB2) hb.j) (fun e2=>?_)).trans (hb.block k hk)
 ·rcases ho.2 with⟨rfl,_⟩|⟨g,cap,cur,rfl,h2,h3,_⟩
  ·cases e2
  ·injection e2 with e2
   dsimp at e2;omega
theorem agA(l:List oN)(hl:l.a<=1000000)(W:ak)(base:Nat)(A:Option aS)(c:Nat)(h:W.c base 151 2 (.a A l.a c) l.a (l.h fun x=>x.ay.a)):
 aQ ah 238 #[.a A l.a c,.func (.func 165) #[] #[]] W fun e w'=>e=.a (.J #[])/\∃l':List oN,l'.Perm l/\l'.Pairwise (fun x y=>ltOf ZC y x=false)/\w'.c base 151 2 (.a A l.a c) l.a (l'.h fun x=>x.ay.a)/\W.d w' (bC A l.a c).f:=
 Zz aqE 2 ano aqG oN.ay oN.G oN.cK ZC aj5 165 (fun args w=>rfl) base 151 A l.a c l W rfl hl h aj4
theorem NY(gf:Nat)(lb:Array aB)(eg:∀args w,(callFunc gf args).I ah w=.ok (.enter gf args) w)(l:List oN)(hs:WM l)(hN:l.a<=100000)(w:ak)(hseq:vX nG 5 ah gf lb (fun x:oN=>#[bY x.ay]) (aL w.a.j) (fun ys=>ys=l) (fun pre=>pre <+: l) l.a w):
 aQ ah 163 #[.func (.func gf) #[] lb,.func (.func 165) #[] #[]] w fun e W'=>
  ∃A' c',e=.a (.a A' l.a c')/\W'.c w.a.j 151 2 (.a A' l.a c') l.a (l.h fun x=>x.ay.a)/\aL w.a.j w W':=by
 have CO:=ab (WJ gf lb eg (fun ys=>ys=l) (fun pre=>pre <+: l) l.a hN w hseq);have SO:=ab (fun(W:ak) (A:Option aS) (c:Nat) h=>agA l (by omega) W w.a.j A c h);clear hseq;go_enter Tryz.func163,Tryz.ntmps163;go_wp2_with fail;refine CO.i.g ?_;rintro e w1 ⟨ys,rfl,A1,c1,rfl,ho,hb⟩;have SO1:=ab (SO.i w1 A1 c1 ho);have HB:=ab hb;have HO:=ab ho;have HS:=ab hs;clear hb ho hs SO CO;obtain⟨m,hm⟩:=dw ys.a;rw[<-hm]at HO SO1 ⊢;have HM:=ab hm;clear hm;go_wp2_with fail;refine SO1.i.g ?_;rintro e w2 ⟨rfl,l',hp,hpw,ho2,hg⟩;obtain rfl:=anm HS.i hp hpw;have H2:=ab ho2;have HG:=ab hg;clear ho2 hg hp hpw;go_wp2;go_ret;obtain rfl:=HM.i;exact⟨A1,c1,rfl,H2.i,WO HB.i HO.i (av _) (av _) HG.i⟩
theorem abO(l:List oN)(hs:WM l)(A:Option aS)(n c:Nat)(w:ak)(hR:gX oN.ay 2 w w.a.j A n l)(hn:n<=100000):
 aQ ah 80 #[.a A n c] w fun e w'=>∃A' c',e=.a (.a A' n c')/\gX oN.ay 2 w' w'.a.j A' n l/\aL w.a.j w w':=by
 have hl:=hR.1;have w1s:=(dJ.new w #[.a A n c] 75)
 have hB1:aL w.a.j w (w.alloc (.D #[.a A n c] 75)):=(aH _ _).alloc (av _) _;have hR1:=hR.up (.D #[.a A n c] 75);have SQ:=ab (WL nG 5 trivial rfl (by omega) w.a.j (w.alloc (.D #[.a A n c] 75)).a.j A n c l (by omega) (w.alloc (.D #[.a A n c] 75)) w1s.lt (av _) (w1s.K.1 0) hR1);have VA:=ab (abN A n c w);generalize hw:w.alloc (.D #[.a A n c] 75)=w1 at *;have SF:=ab (NY 239 #[.c (some ⟨w.a.j,0,none⟩)] (fun args w=>rfl) l hs (by omega) w1 (by rw[hl];exact SQ.i));have HB1:=ab hB1;have HR1:=ab hR1;clear hw w1s hB1 hR1 hR SQ;go_enter Tryz.func80,Tryz.ntmps80;go_wp2_with fail;refine VA.i.g ?_;rintro e w2 ⟨rfl,rfl⟩;go_wp2_with fail;refine SF.i.g ?_;rintro e w2 ⟨A1,c1,rfl,ho,hb⟩;have HO:=ab ho;have HB:=ab hb;clear ho hb;subst hl;go_wp2;go_ret;refine⟨A1,c1,rfl,gX.gU rfl HO.i,?_⟩;have h1:=HB1.i;have h2:=HB.i;exact⟨h2.os.trans h1.os,h2.tape.trans h1.tape,h2.output.trans h1.output,aO h1.j h2.j,fun k hk=>(h2.block k (eO hk h1.j)).trans (h1.block k hk)⟩
end
theorem agB(key:Vector UInt8 16)(A:Option aS)(n c:Nat)(s:List UInt8)(tag:UInt8)(a:Int)(ha:a=(tag.e:Int))(w:ak)(hr:gq w w.a.j A n s)(hn:n<=1000000):aQ ah 97 #[.d (iH key),.a (some ⟨w.a.j+1,0,none⟩) 2 2] ((w.alloc (.D #[.b .b a] 5)).alloc (.D (yR [⟨A,n,c⟩,⟨some ⟨w.a.j,0,none⟩,1,1⟩]) 56)) (gM w (.b .c (xK key (s++[tag])))):=by
 have hl:=hr.len;have e1:(w.alloc (.D #[.b .b a] 5)).a.j=w.a.j+1:=by simp
 have h1:=((hr.alloc (av _) (.D #[.b .b a] 5)).lD (show w.a.j<=w.a.j+1 by omega))
 have h2:=EF w tag a ha;have R:=RdS.lit (w.alloc (.D #[.b .b a] 5)) [⟨A,n,c⟩,⟨some ⟨w.a.j,0,none⟩,1,1⟩] 56;rw[e1]at R;have up:∀{A:Option aS} {n:Nat} {l:List UInt8},gq (w.alloc (.D #[.b .b a] 5)) (w.a.j+1) A n l->gq ((w.alloc (.D #[.b .b a] 5)).alloc (.D (yR [⟨A,n,c⟩,⟨some ⟨w.a.j,0,none⟩,1,1⟩]) 56)) ((w.alloc (.D #[.b .b a] 5)).alloc (.D (yR [⟨A,n,c⟩,⟨some ⟨w.a.j,0,none⟩,1,1⟩]) 56)).a.j A n l:=fun h=>(h.alloc (by rw[e1];omega) _).lD (by simp)
 have go:∀{A:Option aS} {n:Nat} {l:List UInt8} (ob:Obj),gq (w.alloc (.D #[.b .b a] 5)) (w.a.j+1) A n l->gq ((w.alloc (.D #[.b .b a] 5)).alloc ob) ((w.alloc (.D #[.b .b a] 5)).alloc ob).a.j A n l:=fun ob h=>(h.alloc (by rw[e1];omega) _).lD (by simp)
 refine(Zx key [⟨A,n,c⟩,⟨some ⟨w.a.j,0,none⟩,1,1⟩] [s,[tag]] _ 2 2 _ R (.cons (go _ h1) (.cons (go _ h2) .nil)) (by omega) (by simp[yI];omega) (s++[tag]) (by simp) (by simp;omega)).g ?_;rintro e w' ⟨rfl,hb⟩;exact⟨rfl,(((aH _ w).alloc (av _) _).alloc (by simp) _).trans (hb.g (by simp;omega))⟩
theorem NZ(key:Vector UInt8 16)(s:List UInt8)(tag:UInt8)(a:Int)(ha:a=(tag.e:Int))(b:Nat)(z:Int)(hz:z=b)(hb:1<=b)(hb2:b<=1000000)(hs:s.a<=1000000)(r:Nat)(hr:xK key (s++[tag])%b=r)(kb nb:Nat)(W:ak)(hk:dJ W kb (iH key))(hn:dJ W nb #[.g (bK s)]):
 aQ ah 167 #[.b .b a,.b .a z,.c (some ⟨kb,0,none⟩),.c (some ⟨nb,0,none⟩)] W (gM W (.b .a (r:Nat))):=by
 subst hz;have l1:=Sn.nC hk (dH _);have l2:=hn.K.1 0;have l2:W.b ⟨nb,0,none⟩=some (.g (bK s)):=l2;have TW:=ab (apN W s);have hcv:=Ip (P:=ah) 9 56 5 iM dx lC s W;obtain⟨W3,hW3⟩:=dw (sD W 5 s);rw[<-hW3]at hcv TW;obtain⟨cc,hcc⟩:=sH (grownCap W s.a 0 5);rw[hcc]at hcv;obtain⟨h,hh⟩:=dw (xK key (s++[tag]));have CS:=ab (agB key (some ⟨W.a.j,0,none⟩) s.a cc s tag a ha W3 TW.i.1 hs);rw[<-hh]at CS;have HH:=ab hh;have w1:jm.wrap (b:Int)=b:=by rw[jQ];omega
 have w2:((h:Int)%(b:Int))=((h%b:Nat):Int):=by omega
 rw[<-hh]at hr;have hlt:=fE h (show 0<b by omega);have w3:=jS ((h%b:Nat):Int) (by omega);have hb0:¬(b:Int)=0:=by omega
 have hb1:¬b=0:=by omega
 rw[hr]at w2 w3 hlt;clear hcc hW3 hh hk hn ha hr;go_enter Tryz.func167,Tryz.ntmps167;go_wp2_with (go_at_call 97;go_loud (with_reducible refine CS.i.g ?_);rintro e w9 ⟨rfl,hb9⟩;have B9:=ab hb9;clear hb9);go_ret;exact⟨rfl,TW.i.2.trans (B9.i.g TW.i.2.j)⟩
theorem WQ(o s n i:Nat)(hn:1<=n)(hn2:n<=100000)(ho:o<=100000)(hs:s<=100000)(hi:i<=1000000000)(W:ak):aQ ah 243 #[.b .a o,.b .a s,.b .a n,.b .a i] W fun e W'=>e=.a (.b .a (rG o s n (i%n):Nat))/\W=W':=by
 have h1:((i:Int)%(n:Int))=((i%n:Nat):Int):=by omega
 have h0:¬(n:Int)=0:=by omega
 have h0':¬n=0:=by omega
 obtain⟨j,hj⟩:=dw (i%n);have hjl:j<=100000:=by have:=fE i (show 0<n by omega);omega
 rw[<-hj]at h1 ⊢;have hm:j*s<=10000000000:=aO (gG hjl hs) (by decide);have h2:(j:Int)*(s:Int)=((j*s:Nat):Int):=by simp
 obtain⟨p,hp⟩:=dw (j*s);rw[<-hp]at h2 hm;have h3:=jS (p:Int) (by omega);have h4:(o:Int)+(p:Int)=((o+p:Nat):Int):=by omega
 obtain⟨q,hq⟩:=dw (o+p);rw[<-hq]at h4;have h5:=jS (q:Int) (by omega);have h6:(q:Int)%(n:Int)=((q%n:Nat):Int):=by omega
 have HC:=ab (show rG o s n j=q%n by rw[hq,hp];rfl);clear hj hp hq;rw[HC.i];go_enter Tryz.func243,Tryz.ntmps243;go_wp2;go_ret;exact⟨rfl,rfl⟩
theorem agC(key:Vector UInt8 16)(s:List UInt8)(n:Nat)(hn:2<=n)(hn2:n<=100000)(hs:s.a<=1000000)(w:ak):aQ ah 83 #[.d (iH key),.g (bK s),.b .a n] w (gM w (.J #[.b .a (Di key s n:Nat),.b .a (Au key s n:Nat)])):=by
 have Z0:=ab (((Bx.start w).new (iH key) 22).new #[.g (bK s)] 9);rw[show(w.alloc (.D (iH key) 22)).a.j=w.a.j+1 by simp]at Z0;obtain⟨o,ho⟩:=sH (xK key (s++[0])%n);have HO:=ab (show Di key s n=o from ho);obtain⟨t,ht⟩:=sH (xK key (s++[1])%(n-1));obtain⟨t1,ht1⟩:=dw (t+1);have HT:=ab (show Au key s n=t1 by rw[ht1,<-ht];rfl);have C0:=ab (fun W (h:Bx [(w.a.j+1,#[.g (bK s)]),(w.a.j,iH key)] w W)=>NZ key s 0 0 rfl n n rfl (by omega) (by omega) hs o ho w.a.j (w.a.j+1) W h.b1 h.X);have C1:=ab (fun W (h:Bx [(w.a.j+1,#[.g (bK s)]),(w.a.j,iH key)] w W)=>NZ key s 1 1 rfl (n-1) ((n:Int)-1) (by omega) (by omega) (by omega) hs t ht w.a.j (w.a.j+1) W h.b1 h.X);have htl:t<n-1:=by rw[<-ht];exact fE _ (by omega)
 have i1:=jS ((n:Int)-1) (by omega);have i2:=jS (t1:Int) (by omega);have i3:(t:Int)+1=(t1:Int):=by omega
 rw[HT.i,HO.i];clear ht ho ht1;go_enter Tryz.func83,Tryz.ntmps83;go_upto_region 1 with fail
 generalize(w.alloc (.D (iH key) 22)).alloc (.D #[.g (bK s)] 9)=w1 at Z0 ⊢;go_wp2_with (first|(go_at_call 167;(with_reducible refine(C0.i _ Z0.i).g ?_);rintro e w5 ⟨rfl,hb⟩;have Z5:=ab (Z0.i.go hb);clear hb)|(go_at_call 167;(with_reducible refine(C1.i _ Z5.i).g ?_);rintro e w6 ⟨rfl,hb⟩;have Z6:=ab (Z5.i.go hb);clear hb));go_ret2;exact⟨rfl,Z6.i.R⟩
def SlA(d:Array aB)(sl:List Int):Prop:=∀j,j<sl.a->d[j]? = some (.b .a (sl.b j 0))
theorem SlA.set{d:Array aB}{sl:List Int}(h:SlA d sl){k:Nat}(v:Int):SlA (d.c k (.b .a v)) (sl.set k v):=by
 intro j hj;rw[aV]at hj;rw[dO,au,fF];by_cases e:k=j
 ·subst e
  have:=h k hj;have hlt:k<d.j:=by
   rcases aZ k d.j with h1|h1
   ·exact h1
   ·rw[aU h1]at this;cases this
  simp[hj,hlt]
 ·rw[if_neg e,if_neg e,h j hj,au]
theorem anq(o s n i r:Nat)(hr:rG o s n (i%n)=r)(hn:1<=n)(hn2:n<=100000)(ho:o<=100000)(hs:s<=100000)(hi:i<=1000000000)(W:ak):aQ ah 243 #[.b .a o,.b .a s,.b .a n,.b .a i] W fun e W'=>e=.a (.b .a (r:Nat))/\W=W':=by subst hr;exact WQ o s n i hn hn2 ho hs hi W
theorem agD(tb sb z i n cn o s x f:Nat)(c d:Array aB)(sl:List Int)(W:ak)(hc:dJ W tb c)(hd:dJ W sb d)(hne:tb≠sb)(h2:c[z+2]? = some (.b .a o))(h3:c[z+3]? = some (.b .a s))(h4:c[z+4]? = some (.b .a x))
 (hsl:SlA d sl) (hl:sl.a=n) (hn:1<=n) (hn2:n<=100000) (hcn:n<=cn) (ho:o<=100000) (hs:s<=100000) (hx:x<=f) (hf:f<n) (hno:∀t,x<=t->t<f->sl.b (rG o s n t) 0≠-1) (hyes:sl.b (rG o s n f) 0 = -1) :
 aQ ah 169 #[.c (some ⟨tb,z,none⟩),.a (some ⟨sb,0,none⟩) n cn,.b .a i] W fun e W'=>e=.a (.J #[])/\dJ W' tb (c.c (z+4) (.b .a (f+1:Nat)))/\dJ W' sb (d.c (rG o s n f) (.b .a i))/\jD [tb,sb] W W':=by
 have HC:=ab hc;have HD:=ab hd;have HNE:=ab hne;have HSL:=ab hsl;have Ea:=ab hno;have HY:=ab hyes;have HL:=ab hl;have H4:=ab h4;clear hc hd hne hsl hno hyes hl h4;have hz4:(c.c (z+4) (.b .a (x:Nat)))=c:=by
  apply dW;intro j;rw[dO];split
  ·rename_i e;subst e;rw[H4.i];simp;have:=H4.i;exact(bV.1 this).1
  ·rfl
 have HZ4:=ab hz4;have hcs:z+4<c.j:=(bV.1 H4.i).1;clear hz4;go_enter Tryz.func169,Tryz.ntmps169;go_wp2;go_loopw [] (fun wr=>∃y:Nat,x<=y/\y<=f/\dJ wr tb (c.c (z+4) (.b .a (y:Nat)))/\dJ wr sb d/\jD [tb,sb] W wr)
  (fun wr=>f-(intOf ((wr.b ⟨tb,z+4,none⟩).b undef)).e)
 case atStart=>exact⟨x,av _,hx,by rw[HZ4.i];exact HC.i,HD.i,jD.refl _ _⟩
 case round=>
  obtain⟨y,hy1,hy2,hb1,hb2,hfr⟩:=hrel;obtain⟨c1,c2,c3,c4⟩:=hb1.K;have k2:=(c1 (z+2)).trans ((dO ..).trans ((if_neg (by omega)).trans h2));have k3:=(c1 (z+3)).trans ((dO ..).trans ((if_neg (by omega)).trans h3));have k4:=(c1 (z+4)).trans ((dO ..).trans ((if_pos rfl).trans (if_pos hcs)));have kf:=c2 (z+4);obtain⟨d1,d2,d3,d4⟩:=hb2.K;have HB1:=ab hb1;have HB2:=ab hb2;have HFR:=ab hfr;have hyn:y%n=y:=fK (by omega);obtain⟨at_,hat⟩:∃a,a=rG o s n y:=⟨_,rfl⟩
  have aDW:at_<n:=by rw[hat];exact OU (by omega)
  have CC:=ab (fun w=>anq o s n y at_ (by rw[hyn,hat]) hn hn2 ho hs (by omega) w);obtain⟨v,hv⟩:=dw (sl.b at_ 0);have e1:wr.b ⟨sb,at_,none⟩=some (.b .a v):=by rw[d1,HSL.i at_ (by rw[HL.i];exact aDW),hv]
  have ef:=d2 at_;obtain⟨y1,hy⟩:=dw (y+1);have i1:(y:Int)+1=(y1:Int):=by omega
  have i2:=jS (y1:Int) (by omega);have adT:(at_:Int)<n:=by omega
  clear c1 c2 c3 c4 d1 d2 d3 d4 hb1 hb2 hfr hyn h2 h3;have HAT:=ab hat;have HV:=ab hv;have X1:=ab (show dJ (wr.F ⟨tb,z+4,none⟩ (.b .a y1)) tb (c.c (z+4) (.b .a (y1:Nat)))by have:=HB1.i.eH (z+4) (.b .a y1);rwa [Array.setIfInBounds_setIfInBounds]at this);have X2:=ab (HB2.i.dM ⟨tb,z+4,none⟩ (.b .a y1) HNE.i);have F1:=ab (HFR.i.set ⟨tb,z+4,none⟩ (.b .a y1) (.a (by simp)));have HYV:=ab hy;have e2:(wr.F ⟨tb,z+4,none⟩ (.b .a y1)).b ⟨sb,at_,none⟩=some (.b .a v):=(X2.i.K.1 at_).trans ((HB2.i.K.1 at_).symm.trans e1);have e3:=X2.i.K.2.1 at_;clear e1 ef hat hv hy;go_wp2_with fail;go_quiet ((go_at_call 243;(with_reducible refine(CC.i _).g ?_);rintro e w2 ⟨rfl,rfl⟩;exact⟨rfl,_,rfl⟩));have W1:=ab (show(wr.drewN nq).F ⟨tb,z+4,none⟩ (.b .a y1)=(wr.F ⟨tb,z+4,none⟩ (.b .a y1)).drewN nq from rfl)
  replace k4:(wr.drewN nq).b ⟨tb,z+4,none⟩=some (.b .a y):=k4
  replace kf:(wr.drewN nq).frozen? ⟨tb,z+4,none⟩=false:=kf
  replace e2:((wr.drewN nq).F ⟨tb,z+4,none⟩ (.b .a y1)).b ⟨sb,at_,none⟩=some (.b .a v):=e2
  replace e3:((wr.drewN nq).F ⟨tb,z+4,none⟩ (.b .a y1)).frozen? ⟨sb,at_,none⟩=false:=e3
  clear k2 k3;by_cases hfr:v = -1
  ·have hyf:y=f:=by
    rcases aZ y f with h1|h1
    ·exact absurd hfr (by rw[HV.i,HAT.i];exact Ea.i y hy1 h1)
    ·omega
   subst hfr;have HYF:=ab hyf;clear hyf;go_wp2;refine aN (vE rfl _ _ _) rfl ?_;refine⟨rfl,?_,?_,?_⟩
   ·rw[<-HYF.i,<-HYV.i];exact X1.i.dM ⟨sb,at_,none⟩ (.b .a i) (Ne.symm HNE.i)
   ·rw[<-HYF.i,<-HAT.i];exact X2.i.eH at_ (.b .a i)
   ·exact(F1.i.drewN nq).set ⟨sb,at_,none⟩ (.b .a i) (.a (by simp))
  ·have hyf:y<f:=by
    rcases aZ y f with h1|h1
    ·exact h1
    ·exfalso
     have:y=f:=by omega
     exact hfr (by rw[HV.i,HAT.i,this];exact HY.i)
   go_wp2;go_roundw
   case rel=>exact⟨y1,by omega,by omega,X1.i,X2.i,F1.i.drewN nq⟩
   case measure=>
    have q1:((wr.drewN nq).F ⟨tb,z+4,none⟩ (.b .a y1)).b ⟨tb,z+4,none⟩=some (.b .a y1):=(X1.i.K.1 (z+4)).trans ((dO ..).trans ((if_pos rfl).trans (if_pos hcs)));have q2:wr.b ⟨tb,z+4,none⟩=some (.b .a y):=k4;rw[q1,q2];simp only[jr,intOf,dQ];omega
section
structure Tr where
 uS:Int
 uD:Int
 Z:Int
 skip:Int
 next:Int
def Tr.ay(x:Tr):Array aB:=#[.b .a x.uS,.b .a x.uD,.b .a x.Z,.b .a x.skip,.b .a x.next]
theorem Tr.G(x:Tr):x.ay.j=5:=by simp[Tr.ay]
theorem Tr.cK(x:Tr):x.ay.all (·.h)=true:=by simp[Tr.ay,cB]
@[go_sem]theorem Tr.ZH(x:Tr):x.ay[0]? = some (.b .a x.uS):=by simp[Tr.ay,aD]
@[go_sem]theorem Tr.aj6(x:Tr):x.ay[1]? = some (.b .a x.uD):=by simp[Tr.ay,aD]
@[go_sem]theorem Tr.aj7(x:Tr):x.ay[2]? = some (.b .a x.Z):=by simp[Tr.ay,aD]
@[go_sem]theorem Tr.aqH(x:Tr):x.ay[3]? = some (.b .a x.skip):=by simp[Tr.ay,aD]
@[go_sem]theorem Tr.aqI(x:Tr):x.ay[4]? = some (.b .a x.next):=by simp[Tr.ay,aD]
theorem Tr.WR(x:Tr)(v:Int):x.ay.c 1 (.b .a v)=({x with uD:=v}:Tr).ay:=by simp[Tr.ay,aM]
theorem Tr.anr(x:Tr)(v:Int):x.ay.c 4 (.b .a v)=({x with next:=v}:Tr).ay:=by simp[Tr.ay,aM]
def zo:Tr:=⟨0,0,0,0,0⟩
@[go_sem]theorem ay2:bY #[bg,bg,bg,bg,bg]=bY zo.ay:=rfl
@[go_sem]theorem au2:eD #[bg,bg,bg,bg,bg] 155=eD zo.ay 155:=rfl
theorem kTr:oO 155 5 zo.ay:=⟨⟨_,DK,rfl⟩,by kernel_rfl,by kernel_rfl,Tr.G _⟩
@[go_sem ↓]theorem aJ7(v:aB):bZ 155 v=xu 155 v:=rfl
@[go_sem ↓]theorem aJ8(v x:aB):eF 155 v x=yS 155 v x:=rfl
@[go_sem]theorem aG6(W:ak)(b o:Nat)(h:xJ W b o 5):(xu 155 (.c (some ⟨b,o,none⟩))).I ah W=.ok (.d (eu W b o 5)) W:=kTr.ld W b o h
@[go_sem]theorem aDZ(W:ak)(c:Array aB)(x:Tr)(b:Nat)(hb:b=W.a.j)(hc:dZ c=5):(yS 155 (.c (some ⟨b,0,none⟩)) (.d x.ay)).I ah (W.alloc (.D c 155))=.ok () (W.alloc (.D x.ay 155)):=kTr.stN W c x.ay b hb hc (Tr.G x) (Tr.cK x)
@[go_sem ↓]theorem aJ9(ps:Array (Nat×aB)):fI 155 ps=uN 155 ps:=rfl
theorem aD0(w:ak)(fs:Array nS)(h:ah.k 155=some (.struct fs)):(iB (fun f=>Prod.mk f.Z <$> sizeOf f.type) fs:Sem (Array (Nat×Nat))).I ah w=.ok #[(0,1),(1,1),(2,1),(3,1),(4,1)] w:=by
 have e:=DK;rw[h]at e;cases e;show _=_
 kernel_rfl
theorem Tr.D(x:Tr)(j:Nat)(hj:j<5):∃v,x.ay[j]? = some v:=⟨x.ay[j]'(by rw[Tr.G];exact hj),by simp[Tr.G,hj]⟩
def TrA(c:Array aB)(l:List Tr):Prop:=∀i,i<l.a->∀j,j<5->c[i*5+j]? = (l.b i zo).ay[j]?
theorem TrA.put{c:Array aB}{l:List Tr}(h:TrA c l){i j:Nat}(hi:i<l.a)(hj:j<5)(v:aB)(y:Tr)(hy:(l.b i zo).ay.c j v=y.ay):TrA (c.c (i*5+j) v) (l.set i y):=by
 intro i2 hi2 j2 hj2;rw[aV]at hi2;have h0:=h i2 hi2 j2 hj2;rw[dO,au,fF];by_cases e:i=i2
 ·subst e
  rw[if_pos rfl,if_pos hi,jr,<-hy,dO];by_cases e2:j=j2
  ·subst e2
   have hlt:i*5+j<c.j:=by
    rcases aZ (i*5+j) c.j with h1|h1
    ·exact h1
    ·obtain⟨u,hu⟩:=Tr.D (l.b i zo) j hj
     rw[aU h1,hu]at h0;cases h0
   rw[if_pos rfl,if_pos rfl,if_pos hlt,if_pos (by rw[Tr.G];exact hj)]
  ·rw[if_neg (by omega),if_neg e2,h0]
 ·rw[if_neg (by omega),if_neg e,<-au,h0]
theorem TrA.at_{W:ak}{b:Nat}{c:Array aB}{l:List Tr}(h:TrA c l)(hb:dJ W b c){i:Nat}(hi:i<l.a):xJ W b (i*5) 5/\eu W b (i*5) 5=(l.b i zo).ay/\W.b ⟨b,i*5,none⟩=some (.b .a (l.b i zo).uS)/\W.b ⟨b,i*5+1,none⟩=some (.b .a (l.b i zo).uD)/\W.frozen? ⟨b,i*5+1,none⟩=false:=by
 obtain⟨h1,h2,h3,h4⟩:=hb.K;have hs:i*5+5<=c.j:=by
  obtain⟨u,hu⟩:=Tr.D (l.b i zo) 4 (by omega);have:=h i hi 4 (by omega);rw[hu]at this;have:=(bV.1 this).1;omega
 refine⟨by rw[h3 _ _ (by unfold dZ;omega)];trivial,?_,?_,?_,h2 _⟩
 ·rw[h4 _ _ (by unfold dZ;omega)]
  apply dW;intro j;rw[cu];by_cases hj:j<5
  ·rw[if_pos (by omega),h i hi j hj]
  ·rw[if_neg (by omega),aU (by rw[Tr.G];omega)]
 ·rw[h1];have:=h i hi 0 (by omega);rw[nD]at this;rw[this];exact Tr.ZH _
 ·rw[h1,h i hi 1 (by omega)];exact Tr.aj6 _
theorem Yj(q:List Nat)(i:Nat)(hi:i<q.a):lK (q.d (i+1))=max (lK (q.d i)) (q.b i 0):=by
 unfold lK;rw[dP hi,List.foldl_append,au,aC hi];rfl
structure FiL(g n:Nat)(q o s:List Nat)(m:Mg)(l:List Tr):Prop where
 len:l.a=q.a
 crl:m.cr.a=q.a
 all:∀i,i<q.a->(l.b i zo).uS=q.b i 0/\(l.b i zo).Z=o.b i 0/\(l.b i zo).skip=s.b i 0/\(l.b i zo).uD=m.cr.b i 0/\m.cr.b i 0<g/\∃x:Nat,(l.b i zo).next=x/\x<=n/\∀t,t<x->rT m.sl (rG (o.b i 0) (s.b i 0) n t)=false
theorem Cc{α:Type}(l:List α)(i j:Nat)(v d:α)(hi:i<l.a):(l.set i v).b j d=if i=j then v else l.b j d:=by
 rw[au,fF];by_cases h:i=j
 ·subst h;simp[hi]
 ·simp[h,au]
theorem aeh{sl:List Int}{k j:Nat}{v:Int}(hv:v≠-1)(h:rT sl j=false):rT (sl.set k v) j=false:=by
 unfold rT at h ⊢;rw[au,fF];split
 ·split
  ·simpa using hv
  ·simp
 ·rwa [<-au]
def Hy(o s:List Nat)(n i t:Nat):Nat:=rG (o.b i 0) (s.b i 0) n t
variable {g n:Nat} {q o s:List Nat} {m:Mg} {l:List Tr}
theorem FiL.low(h:FiL g n q o s m l){i:Nat}(hi:i<q.a)(hlt:m.cr.b i 0+q.b i 0<g):FiL g n q o s (sJ g n q (Hy o s n) m i) (l.set i {l.b i zo with uD:=(m.cr.b i 0+q.b i 0:Nat)}):=by
 have hl:=h.len;have hcl:=h.crl;unfold sJ;rw[if_pos hlt];refine⟨by simpa using hl,by simpa using hcl,fun j hj=>?_⟩;rw[Cc _ _ _ _ _ (by omega),Cc _ _ _ _ _ (by omega)];by_cases e:i=j
 ·subst e
  simp only[if_true];obtain⟨a1,a2,a3,a4,a5,a6⟩:=h.all i hi;exact⟨a1,a2,a3,trivial,hlt,a6⟩
 ·rw[if_neg e,if_neg e]
  exact h.all j hj
theorem FiL.high(h:FiL g n q o s m l){i:Nat}(hi:i<q.a)(hge:¬m.cr.b i 0+q.b i 0<g)(hq:q.b i 0<=g){f:Nat}(hf:f=ff m.sl (Hy o s n i) n)(hfn:f<n)(hno:∀t,t<f->rT m.sl (Hy o s n i t)=false):
 FiL g n q o s (sJ g n q (Hy o s n) m i) ((l.set i {l.b i zo with uD:=(m.cr.b i 0+q.b i 0-g:Nat)}).set i {l.b i zo with uD:=(m.cr.b i 0+q.b i 0-g:Nat),next:=(f+1:Nat)}):=by
 have hl:=h.len;have hcl:=h.crl;unfold sJ;rw[if_neg hge,<-hf,List.set_set];refine⟨by simpa using hl,by simpa using hcl,fun j hj=>?_⟩;rw[Cc _ _ _ _ _ (by omega),Cc _ _ _ _ _ (by omega)];by_cases e:i=j
 ·subst e
  simp only[if_true];obtain⟨a1,a2,a3,a4,a5,a6⟩:=h.all i hi;refine⟨a1,a2,a3,trivial,by omega,f+1,rfl,by omega,fun t ht=>?_⟩;rcases aZ t f with h1|h1
  ·exact aeh (by omega) (hno t h1)
  ·have:t=f:=by omega
   subst this;unfold rT;rw[au,fF];have e2:Hy o s n i t=rG (o.b i 0) (s.b i 0) n t:=rfl;rw[e2,if_pos rfl];split
   ·simp
   ·simp
 ·rw[if_neg e,if_neg e]
  obtain⟨a1,a2,a3,a4,a5,x,a6,a7,a8⟩:=h.all j hj;exact⟨a1,a2,a3,a4,a5,x,a6,a7,fun t ht=>aeh (by omega) (a8 t ht)⟩
theorem FiL.first(h:FiL g n q o s m l){i:Nat}(hi:i<q.a){f x:Nat}(hx:(l.b i zo).next=x)(hfree:rT m.sl (Hy o s n i f)=true):x<=f:=by
 obtain⟨_,_,_,_,_,y,b1,b2,b3⟩:=h.all i hi;have:y=x:=by omega
 subst this;rcases aZ f y with h1|h1
 ·have:=b3 f h1
  have e2:Hy o s n i f=rG (o.b i 0) (s.b i 0) n f:=rfl;rw[e2,this]at hfree;cases hfree
 ·exact h1
theorem aei(q:List Nat){i:Nat}(hi:i<q.a):q.b i 0<=lK q:=by
 have h1:∀(t:List Nat)(b:Nat),b<=t.foldl max b:=by
  intro t
  induction t with
  | nil=>intro b;exact av _
  | cons y t ih=>intro b;rw[jT];exact aO (Nat.le_max_left _ _) (ih _)
 have h2:∀(t:List Nat)(b i:Nat),i<t.a->t.b i 0<=t.foldl max b:=by
  intro t
  induction t with
  | nil=>intro b i hi;simp at hi
  | cons y t ih=>
    intro b i hi;rw[jT];cases i with
    | zero=>exact aO (Nat.le_max_right b y) (h1 t _)
    | succ i=>exact ih _ i (by simpa using hi)
 exact h2 q 0 i hi
variable (g n:Nat) (q o s:List Nat)
def FiS(g n:Nat)(q o s:List Nat)(tb sb:Nat)(W:ak)(J:Nat)(wr:ak):Prop:=∃(l:List Tr)(c d:Array aB),FiL g n q o s (jL g n q (Hy o s n) J) l/\TrA c l/\SlA d (jL g n q (Hy o s n) J).sl/\dJ wr tb c/\dJ wr sb d/\jD [tb,sb] W wr
theorem agE(tb sb k ck n cn g:Nat)(q o s:List Nat)(c d:Array aB)(l0:List Tr)(W:ak)(hg:lK q=g)(hc:dJ W tb c)(hd:dJ W sb d)(hne:tb≠sb)(hk:q.a=k)(hT:TrA c l0)(hS:SlA d (dV n (-1)))(hL:FiL g n q o s ⟨q.map fun _=>0,dV n (-1),n⟩ l0)
 (hk1:1<=k) (hk2:k<=100000) (hck:k<=ck) (hn:1<=n) (hn2:n<=100000) (hcn:n<=cn) (hq0:∀x∈q,0<x) (hg2:g<=100000000) (ho:∀i,i<k->o.b i 0<=100000) (hs:∀i,i<k->s.b i 0<=100000) (hf:acZ n k (Hy o s n)) :
 aQ ah 85 #[.a (some ⟨tb,0,none⟩) k ck,.a (some ⟨sb,0,none⟩) n cn] W fun e W'=>e=.a (.J #[])/\(∃d',dJ W' sb d'/\SlA d' (EA n q (Hy o s n)))/\jD [tb,sb] W W':=by
 have hqn:q≠[]:=by intro e;rw[e]at hk;simp at hk;omega
 obtain⟨K,_,hK1,hK2,hK3⟩:=YQ (n:=n) (ch:=Hy o s n) hqn hq0;rw[hg]at hK1 hK2 hK3;have OK:=ab (fun J (hJ:J<=K)=>alE (g:=g) (n:=n) (q:=q) (ch:=Hy o s n) (by omega) (by rw[hk];exact hf) J (fun t ht=>hK2 t (by omega)));have HK1:=ab hK1;have HK2:=ab hK2;have HK3:=ab hK3;have HG:=ab hg;have HF:=ab (show acZ n q.a (Hy o s n)by rw[hk];exact hf);have HKQ:=ab hk;have ST0:=ab (show FiS g n q o s tb sb W 0 W from⟨l0,c,d,hL,hT,hS,hc,hd,jD.refl _ _⟩);have HT:=ab hT;have Mk:=ab (hL.len.trans hk);have HQ0:=ab (fun i (hi:i<k)=>(hL.all i (by omega)).1);have HO:=ab ho;have HS':=ab hs;have HNE:=ab hne;have HC:=ab hc;have ZI:=ab (fun i (hi:i<k)=>(by have:=aei q (i:=i) (by omega);omega:q.b i 0<=g));have HQP:=ab hq0;clear hK1 hK2 hK3 hg hf hk hL hT hS hc hd ho hs hne hqn hq0;go_enter Tryz.func85,Tryz.ntmps85;go_wp2;go_step3;go_wp2;go_loopw [4,12] (fun s4 s12 wr=>∃i:Nat,i<=k/\s12=.b .a i/\s4=.b .a (lK (q.d i):Nat)/\dJ wr tb c/\FiS g n q o s tb sb W 0 wr) (fun _ s12 _=>k-(intOf s12).e)
 case atStart=>exact⟨0,iX _,rfl,rfl,HC.i,ST0.i⟩
 case round=>
  obtain⟨i,hi,rfl,rfl,hbc,hst⟩:=hrel;have HB:=ab hbc;have HST:=ab hst;clear hst;by_cases hlt:i<k
  ·have hli:(i:Int)<k:=by omega
   obtain⟨a1,a2,_,_,_⟩:=HT.i.at_ hbc (i:=i) (by rw[Mk.i];exact hlt);obtain⟨x,hx⟩:=dw (l0.b i zo);have hxq:x.uS=(q.b i 0:Nat):=by rw[hx];exact HQ0.i i hlt
   rw[<-hx]at a2;have hg1:=Yj q i (by rw[HKQ.i];exact hlt);obtain⟨u,hu⟩:=dw (lK (q.d i));obtain⟨v,hv⟩:=dw (q.b i 0);obtain⟨z,hz⟩:=dw (lK (q.d (i+1)));rw[<-hu,<-hv,<-hz]at hg1;rw[<-hv]at hxq;have m1:max (u:Int) (v:Int)=z:=by omega
   have m2:(if(u:Int)<(v:Int)then(v:Int)else(u:Int))=z:=by split<;>omega
   have X1:=ab (dJ.new wr x.ay 155);have b0:=X1.i.K.1 0;rw[Tr.ZH]at b0;have HZ:=ab hz;rw[<-hu];clear hx hu hv hg1 hz hbc;go_wp2;go_roundw
   case rel=>exact⟨i+1,by omega,by go_num,by rw[<-HZ.i],HB.i.alloc _,by obtain⟨l,c1,d1,y1,y2,y3,y4,y5,y6⟩:=HST.i;exact⟨l,c1,d1,y1,y2,y3,y4.alloc _,y5.alloc _,y6.alloc _⟩⟩
   case measure=>simp[intOf]<;>omega
  ·have hik:i=k:=by omega
   have hd:decide ((i:Int)<k)=false:=by simp;omega
   have HGI:=ab (show lK (q.d i)=g by rw[hik,<-HKQ.i,zT,HG.i]);rw[HGI.i];clear hik;go_wp2;go_step3;go_wp2;have HKP:=ab (show 0<K by
    rcases dY K with h0|h0
    ·have:=HK1.i;rw[h0]at this;simp[jL]at this;omega
    ·exact h0)
   go_loopw [7] (fun s7 wr=>∃(J r:Nat),J=r*k/\J<K/\s7=.b .a ((jL g n q (Hy o s n) J).left:Nat)/\FiS g n q o s tb sb W J wr) (fun s7 _=>(intOf s7).e)
   case atStart=>exact⟨0,0,by omega,HKP.i,rfl,HST.i⟩
   case round=>
    obtain⟨J,r,hJ,hJK,rfl,ay5⟩:=hrel;have HJ:=ab hJ;have aD1:=ab ay5;obtain⟨lf,hlf⟩:=dw ((jL g n q (Hy o s n) J).left);have HLF:=ab hlf;rw[<-hlf];clear hJ ay5 hlf hd;go_wp2;go_loopw [7,25] (fun s7 s25 wr=>∃(i J2:Nat),i<=k/\s25=.b .a i/\J2=J+i/\J2<K/\s7=.b .a ((jL g n q (Hy o s n) J2).left:Nat)/\FiS g n q o s tb sb W J2 wr) (fun _ s25 _=>k-(intOf s25).e)
    case atStart=>exact⟨0,J,iX _,rfl,rfl,hJK,by rw[HLF.i],aD1.i⟩
    case round=>
     obtain⟨i2,J2,hi2,rfl,hJ2,ay6,rfl,l,c1,d1,hL,hT,hS,hb1,hb2,hfr⟩:=hrel;have HJ2:=ab hJ2;obtain⟨m,hm⟩:=dw (jL g n q (Hy o s n) J2);have HM:=ab hm;rw[<-hm]at hL hS;rw[<-hm];clear hJ2 hm;by_cases hlt:i2<k
     ·have hli:(i2:Int)<k:=by omega
      have hiq:i2<q.a:=by rw[HKQ.i];exact hlt
      have MOK:=ab (show afn n q m by rw[HM.i];exact OK.i J2 (by omega));have hl0:m.left≠0:=by rw[HM.i];exact HK2.i J2 ay6
      have HNX:=ab (show jL g n q (Hy o s n) (J2+1)=sJ g n q (Hy o s n) m i2 by
       rw[HM.i];show sJ g n q (Hy o s n) _ (J2%q.a)=_;rw[HKQ.i,HJ2.i,HJ.i,C9,Nat.mul_add_mod,fK hlt])
      obtain⟨e1,e2,e3,e4,e5,x,e6,e7,e8⟩:=hL.all i2 hiq;have hll:i2<l.a:=by rw[hL.len];exact hiq
      obtain⟨_,_,k1,k2,k3⟩:=hT.at_ hb1 hll;obtain⟨y,hy⟩:=dw (l.b i2 zo);rw[<-hy]at e1 e2 e3 e4 e6 k1 k2;obtain⟨ci,hci⟩:=dw (m.cr.b i2 0);obtain⟨qi,hqi⟩:=dw (q.b i2 0);rw[<-hci]at e4 e5;rw[<-hqi]at e1;rw[e1]at k1;rw[e4]at k2;have hqg:qi<=g:=by rw[hqi];exact ZI.i i2 hlt
      obtain⟨cs,hcs⟩:=dw (ci+qi);have s1:(ci:Int)+(qi:Int)=cs:=by omega
      have hcs2:cs<=200000000:=by omega
      have s2:=jS (cs:Int) (by omega);have X1:=ab (show dJ ((wr.F ⟨tb,i2*5+1,none⟩ (.b .a cs)).drew) tb (c1.c (i2*5+1) (.b .a (cs:Nat)))from hb1.eH (i2*5+1) (.b .a cs));have X2:=ab (show dJ ((wr.F ⟨tb,i2*5+1,none⟩ (.b .a cs)).drew) sb d1 from hb2.dM ⟨tb,i2*5+1,none⟩ (.b .a cs) HNE.i);have F1:=ab (show jD [tb,sb] W ((wr.F ⟨tb,i2*5+1,none⟩ (.b .a cs)).drew)from(hfr.set ⟨tb,i2*5+1,none⟩ (.b .a cs) (.a (by simp))).drewN 1);have T1:=ab (hT.put (j:=1) hll (by omega) (.b .a (cs:Nat)) {y with uD:=(cs:Nat)} (by rw[<-hy];exact Tr.WR y cs));have HL:=ab hL;have HS:=ab hS;have HCI:=ab hci;have HQI:=ab hqi;have HCS:=ab hcs;have HYL:=ab hy;have E2:=ab e2;have E3:=ab e3;have E6:=ab e6;clear hL hT hS hb1 hb2 hfr e1 e2 e3 e4 e6 e7 e8 hy hci hqi hcs;go_upto_region 11 with fail
      go_region;clear k1 k2 k3 s1 s2;generalize(wr.F ⟨tb,i2*5+1,none⟩ (.b .a cs)).drew=w1 at X1 X2 F1 ⊢;obtain⟨_,_,_,k2,k3⟩:=T1.i.at_ X1.i (i:=i2) (by rw[aV];exact hll);rw[Cc _ _ _ _ _ hll,if_pos rfl]at k2;simp only at k2;by_cases hlow:cs<g
      ·have hlo:(cs:Int)<g:=by omega
       have HL2:=ab (show FiL g n q o s (jL g n q (Hy o s n) (J2+1)) (l.set i2 {y with uD:=(cs:Nat)})by
        have:=HL.i.low hiq (by rw[<-HCI.i,<-HQI.i,<-HCS.i];exact hlow);rw[<-HCI.i,<-HQI.i,<-HCS.i,<-HYL.i]at this;rw[HNX.i];exact this)
       have HM2:=ab (show(jL g n q (Hy o s n) (J2+1)).sl=m.sl/\(jL g n q (Hy o s n) (J2+1)).left=m.left by
        rw[HNX.i];unfold sJ;rw[if_pos (by rw[<-HCI.i,<-HQI.i,<-HCS.i];exact hlow)];exact⟨rfl,rfl⟩)
       have aD5:=ab (show J2+1<K by
        rcases aZ (J2+1) K with h1|h1
        ·exact h1
        ·exfalso
         have:J2+1=K:=by omega
         have h2:=HM2.i.2;rw[this,HK1.i]at h2;omega)
       clear hlow;go_wp2;go_roundw
       case rel=>exact⟨i2+1,J2+1,by omega,by go_num,by rw[HJ2.i];omega,aD5.i,by rw[HM2.i.2],_,_,_,HL2.i,T1.i,by rw[HM2.i.1];exact HS.i,X1.i,X2.i,F1.i⟩
       case measure=>simp[intOf]<;>omega
      ·have hge:¬(cs:Int)<g:=by omega
       obtain⟨dh,hdh⟩:=dw (cs-g);have s3:(cs:Int)-(g:Int)=dh:=by omega
       have s4:=jS (dh:Int) (by omega);have HDH:=ab hdh;have X3:=ab (show dJ (w1.F ⟨tb,i2*5+1,none⟩ (.b .a dh)) tb ((c1.c (i2*5+1) (.b .a (cs:Nat))).c (i2*5+1) (.b .a (dh:Nat)))from X1.i.eH (i2*5+1) (.b .a dh));have X4:=ab (show dJ (w1.F ⟨tb,i2*5+1,none⟩ (.b .a dh)) sb d1 from X2.i.dM ⟨tb,i2*5+1,none⟩ (.b .a dh) HNE.i);have F3:=ab (show jD [tb,sb] W (w1.F ⟨tb,i2*5+1,none⟩ (.b .a dh))from F1.i.set ⟨tb,i2*5+1,none⟩ (.b .a dh) (.a (by simp)));have T3:=ab (show TrA ((c1.c (i2*5+1) (.b .a (cs:Nat))).c (i2*5+1) (.b .a (dh:Nat))) (l.set i2 {y with uD:=(dh:Nat)})by
        have:=T1.i.put (j:=1) (i:=i2) (by rw[aV];exact hll) (by omega) (.b .a (dh:Nat)) {y with uD:=(dh:Nat)} (by rw[Cc _ _ _ _ _ hll,if_pos rfl,Tr.WR])
        rwa [List.set_set]at this)
       clear X1 X2 T1 hdh;generalize(c1.c (i2*5+1) (.b .a (cs:Nat))).c (i2*5+1) (.b .a (dh:Nat))=c3 at X3 T3;obtain⟨f,hf⟩:=dw (ff m.sl (Hy o s n i2) n);obtain⟨ff1,ff2,ff3⟩:=arT (MOK.i.free HF.i hl0 hiq);rw[<-hf]at ff1 ff2 ff3;have hlen3:i2<(l.set i2 {y with uD:=(dh:Nat)}).a:=by rw[aV];exact hll
       have hget:(l.set i2 {y with uD:=(dh:Nat)}).b i2 zo={y with uD:=(dh:Nat)}:=by rw[Cc _ _ _ _ _ hll,if_pos rfl]
       have q2:=T3.i i2 hlen3 2 (by omega);have q3:=T3.i i2 hlen3 3 (by omega);have q4:=T3.i i2 hlen3 4 (by omega);rw[hget]at q2 q3 q4;rw[Tr.aj7]at q2;rw[Tr.aqH]at q3;rw[Tr.aqI]at q4;simp only[E2.i,E3.i,E6.i]at q2 q3 q4;have CT:=ab (fun(w2:ak) (hb1:dJ w2 tb c3) (hb2:dJ w2 sb d1)=>agD tb sb (i2*5) i2 n cn (o.b i2 0) (s.b i2 0) x f c3 d1 m.sl w2 hb1 hb2 HNE.i q2 q3 q4 HS.i MOK.i.sll hn hn2 hcn (HO.i i2 hlt) (HS'.i i2 hlt) (HL.i.first hiq (by rw[<-HYL.i];exact E6.i) ff2) ff1
        (fun t _ ht=>of_decide_eq_false (ff3 t ht)) (of_decide_eq_true ff2))
       have HL3:=ab (show FiL g n q o s (jL g n q (Hy o s n) (J2+1)) ((l.set i2 {y with uD:=(dh:Nat)}).set i2 {y with uD:=(dh:Nat),next:=(f+1:Nat)})by
        have:=HL.i.high hiq (by rw[<-HCI.i,<-HQI.i,<-HCS.i];exact hlow) (by rw[<-HQI.i];exact hqg) hf ff1 ff3;rw[<-HCI.i,<-HQI.i,<-HCS.i,<-HYL.i,<-HDH.i]at this;rw[HNX.i];exact this)
       have HM3:=ab (show(jL g n q (Hy o s n) (J2+1)).sl=m.sl.set (rG (o.b i2 0) (s.b i2 0) n f) i2/\(jL g n q (Hy o s n) (J2+1)).left=m.left-1 by
        rw[HNX.i];unfold sJ;rw[if_neg (by rw[<-HCI.i,<-HQI.i,<-HCS.i];exact hlow),<-hf];exact⟨rfl,rfl⟩)
       have T4:=ab (T3.i.put (j:=4) hlen3 (by omega) (.b .a (f+1:Nat)) {y with uD:=(dh:Nat),next:=(f+1:Nat)} (by rw[hget];exact Tr.anr _ _));obtain⟨lf2,ay7⟩:=dw (m.left-1);have hmn:m.left<=n:=by
        have:=MOK.i.fr;have h1:=MOK.i.sll;have h2:=List.countP_le_length (p:=fun x:Int=>decide (x = -1)) (l:=m.sl);unfold IK at this;omega
       have s5:(m.left:Int)-1=lf2:=by omega
       have s6:=jS (lf2:Int) (by omega);rw[<-ay7]at HM3;clear hlow ff1 ff2 ff3 hf hget q2 q3 q4 hlen3 ay7 hmn;by_cases hz:lf2=0
       ·have aD6:=ab (show EA n q (Hy o s n)=m.sl.set (rG (o.b i2 0) (s.b i2 0) n f) i2 by
         have hK:K=J2+1:=by
          rcases aZ (J2+1) K with h1|h1
          ·have:=HK2.i _ h1
           rw[HM3.i.2]at this;exact absurd hz this
          ·omega
         rw[HK3.i,hK,HM3.i.1])
        subst hz;go_wp2_with (go_at_call 169;(with_reducible refine(CT.i _ X3.i X4.i).g ?_);rintro e w3 ⟨rfl,ht1,ht2,ht3⟩;have X5:=ab ht2;have F5:=ab (F3.i.pQ ht3);clear ht1 ht2 ht3)
        try rw[Exit.noGoto_normal]
        go_end0;exact⟨rfl,⟨_,X5.i,by rw[aD6.i];exact HS.i.set _⟩,F5.i⟩
       ·have hz2:¬(lf2:Int)=0:=by omega
        have aD7:=ab (show J2+1<K by
         rcases aZ (J2+1) K with h1|h1
         ·exact h1
         ·exfalso
          have:J2+1=K:=by omega
          have h2:=HM3.i.2;rw[this,HK1.i]at h2;omega)
        go_wp2_with (go_at_call 169;(with_reducible refine(CT.i _ X3.i X4.i).g ?_);rintro e w3 ⟨rfl,ht1,ht2,ht3⟩;have X5:=ab ht1;have X6:=ab ht2;have F5:=ab (F3.i.pQ ht3);clear ht1 ht2 ht3);go_roundw
        case rel=>exact⟨i2+1,J2+1,by omega,by go_num,by rw[HJ2.i];omega,aD7.i,by rw[HM3.i.2],_,_,_,HL3.i,T4.i,by rw[HM3.i.1];exact HS.i.set _,X5.i,X6.i,F5.i⟩
        case measure=>simp[intOf]<;>omega
     ·have ay8:i2=k:=by omega
      have hd2:decide ((i2:Int)<k)=false:=by simp;omega
      have HJR:=ab (show J2=(r+1)*k by rw[HJ2.i,HJ.i,ay8,Nat.add_mul];omega);have HLS:=ab (show m.left<lf by
       obtain⟨i0,hi0,hgi⟩:=Dj (q:=q) (by intro e;have:=HKQ.i;rw[e]at this;simp at this;omega) HQP.i;rw[HG.i]at hgi;have hp:=aaD (g:=g) (n:=n) (q:=q) (ch:=Hy o s n) hi0 hgi r;rw[HKQ.i,<-HJR.i,<-HJ.i,<-HLF.i,<-HM.i]at hp;have h1:=HK2.i J hJK;rw[<-HLF.i]at h1;omega)
      have aD8:=ab (show FiS g n q o s tb sb W J2 wr from⟨l,c1,d1,by rw[<-HM.i];exact hL,hT,by rw[<-HM.i];exact hS,hb1,hb2,hfr⟩);clear hL hT hS hb1 hb2 hfr ay8;go_wp2;go_roundw
      case rel=>exact⟨J2,r+1,HJR.i,ay6,by rw[HM.i],aD8.i⟩
      case measure=>have:=HLS.i;simp[intOf]<;>omega
end
def aqK(l:List oN):Prop:=WM l/\(∀x∈l,0<=x.q/\x.q<=1024000)/\l.a<=1024
theorem WM.ne{l:List oN}(h:WM l){j:Nat}(hj:j+1<l.a):(l.b j lg).E≠(l.b (j+1) lg).E:=by
 have:=fH.1 h j (j+1) (by omega) hj (by omega);rw[au,au,aC (by omega),aC hj,jr,jr];intro e;rw[e,sK]at this;cases this
theorem ZJ{B:Nat}{w W:ak}(h:aL B w W)(q:Nat):aL B w (W.drewN q):=⟨h.os,h.tape,h.output,h.j,h.block⟩
theorem aj9(l:List oN)(hk:aqK l)(A:Option aS)(n c:Nat)(w:ak)(hR:gX oN.ay 2 w w.a.j A n l):
 aQ ah 82 #[.a A n c] w (gM w (.e true)):=by
 have hl:=hR.1;have hn:n<=1024:=by have:=hk.2.2;omega
 have HK:=ab hk;have HR:=ab hR;have HL:=ab hl;clear hk hl;go_enter Tryz.func82,Tryz.ntmps82;go_wp2;go_loopw [7] (fun i wr=>∃k:Nat,k<=n/\i=.b .a k/\aL w.a.j w wr)
  (fun i _=>n-(intOf i).e)
 case atStart=>exact⟨0,iX _,rfl,aH _ _⟩
 case round=>
  obtain⟨k,hkn,rfl,hnx⟩:=hrel;have HN:=ab hnx;by_cases hlt:k<n
  ·have hki:(k:Int)<n:=by omega
   have R1:=ab (HR.i.S HN.i);obtain⟨b,o,hA,hbb,hh,hc⟩:=gX.at_ oN.Bo lg R1.i hlt;subst hA;obtain⟨x,hx⟩:=dw (l.b k lg);rw[<-hx]at hc;have hxm:x∈l:=by rw[hx,au,aC (by rw[HL.i];omega),jr];exact dR _
   obtain⟨q1,q2⟩:=HK.i.2.1 x hxm;have t1:decide (x.q<0)=false:=by simp;omega
   have t2:decide (x.q>1024000)=false:=by simp;omega
   have t3:decide (1024000<x.q)=false:=by simp;omega
   have HX:=ab hx;have hsz:=hnx.j;have HB1:=ab (hnx.alloc (by omega) (.D x.ay 151));have bx:=ab (dJ.new wr x.ay 151);have f0:∀i,(wr.alloc (.D x.ay 151)).b ⟨wr.a.j,i,none⟩=x.ay[i]?:=bx.i.K.1;have s0:=(f0 0).trans (oN.uK x);have s1:=(f0 1).trans (oN.aqC x);have i3:=jS ((k:Int)+1) (by omega);clear hx hbb hnx hxm f0 q1 q2 hsz;by_cases h0:0<k
   ·obtain⟨j,hj⟩:∃j,k=j+1:=⟨k-1,by omega⟩
    obtain⟨b2,o2,hA2,acU,hcj⟩:=gX.cell oN.Bo lg ((HR.i.S HN.i).alloc (by have:=HN.i.j;omega) (.D x.ay 151)) (show j<n by omega);obtain⟨y,hy⟩:=dw (l.b j lg);have hne:y.E≠x.E:=by
     rw[hy,HX.i,hj];exact HK.i.1.ne (by rw[HL.i];omega)
    rw[<-hy]at hcj;cases hA2;have c0:=(hcj 0 (by omega)).trans (oN.uK y);rw[nD]at c0;have t4:decide ((k:Int)>0)=true:=by simp;omega
    have t5:decide (0<k)=true:=by simp;omega
    have t6:(y.E==x.E)=false:=by simpa using hne
    have i1:(k:Int)-1=(j:Int):=by omega
    have i2:=jS (j:Int) (by omega);have i4:(j:Int)<n:=by omega
    clear hcj hy hne hj h0 acU;go_wp2_with fail;go_quiet (fail);go_wp2;go_roundw
    case rel=>exact⟨k+1,by omega,by simp,ZJ HB1.i _⟩
    case measure=>simp[intOf];omega
   ·have t4:decide ((k:Int)>0)=false:=by simp;omega
    have t5:decide (0<k)=false:=by simp;omega
    clear h0;go_wp2_with fail;go_quiet (fail);go_wp2;go_roundw
    case rel=>exact⟨k+1,by omega,by simp,ZJ HB1.i _⟩
    case measure=>simp[intOf];omega
  ·obtain rfl:k=n:=by omega
   have hd:decide ((k:Int)<k)=false:=by simp
   have t1:decide ((k:Int)<=1024)=true:=by simp;omega
   go_wp2;go_ret;exact⟨rfl,HN.i⟩
theorem aj'(x y:Nat)(hx:x<18446744073709551616)(hy:y<18446744073709551616)(w:ak):
 aQ ah 242 #[.b .c x,.b .c y] w fun e w'=>e=.a (.J #[.b .c ((x*y/18446744073709551616:Nat):Int),.b .c ((x*y%18446744073709551616:Nat):Int)])/\w=w':=by
 obtain⟨bd,bt,bw,hhi⟩:=Lib.mul64_hi x y hx hy;have ba:=Lib.half_mul_le (a:=x/4294967296) (b:=y/4294967296) (by omega) (by omega);have bb:=Lib.half_mul_le (a:=x/4294967296) (b:=y%4294967296) (by omega) (by omega);have bc:=Lib.half_mul_le (a:=x%4294967296) (b:=y/4294967296) (by omega) (by omega);have ba':x/4294967296*(y/4294967296)<18446744073709551616:=by omega
 have bb':x/4294967296*(y%4294967296)<18446744073709551616:=by omega
 have bc':x%4294967296*(y/4294967296)<18446744073709551616:=by omega
 have bh1:x/4294967296*(y/4294967296)+(x/4294967296*(y%4294967296)+x%4294967296*(y%4294967296)/4294967296)/4294967296<18446744073709551616:=by omega
 have bh:x/4294967296*(y/4294967296)+(x/4294967296*(y%4294967296)+x%4294967296*(y%4294967296)/4294967296)/4294967296+((x/4294967296*(y%4294967296)+x%4294967296*(y%4294967296)/4294967296)%4294967296+x%4294967296*(y/4294967296))/4294967296<18446744073709551616:=by
  rw[hhi];have:=gG (show x<=18446744073709551615 by omega) (show y<=18446744073709551615 by omega);omega
 go_enter Tryz.func242,Tryz.ntmps242;go_wp2;simp only[Mul64.maskN x hx,Mul64.maskN y hy,Mul64.divN,Mul64.mulN,Mul64.addN,vR _ bd,vR _ bb',vR _ bt,Mul64.maskN _ bt,vR _ bc',vR _ bw,vR _ ba',vR _ bh1,vR _ bh,Mul64.wrapM];rw[hhi];go_ret2;exact⟨rfl,rfl⟩
theorem aqL(x y:Nat)(hx:x<18446744073709551616)(hy:y<18446744073709551616)(w:ak):
 aQ ah 168 #[.b .c x,.b .c y] w fun e w'=>e=.a (.J #[.b .c ((x*y/18446744073709551616:Nat):Int),.b .c ((x*y%18446744073709551616:Nat):Int)])/\w=w':=by
 have C:=ab (aj' x y hx hy w);go_enter Tryz.func168,Tryz.ntmps168;go_wp2_with (go_at_call 242;(with_reducible refine C.i.g ?_);rintro e w1 ⟨rfl,rfl⟩);go_ret2;exact⟨rfl,rfl⟩
theorem mul_one(n:Nat)(hn:n<=1000000)(w:ak):
 aQ ah 168 #[.b .c 1,.b .c n] w fun e w'=>e=.a (.J #[.b .c 0,.b .c n])/\w=w':=by
 refine(aqL 1 n (by decide) (by omega) w).g ?_;rintro e w1 ⟨rfl,rfl⟩;have e1:1*n/18446744073709551616=0:=by omega
 have e2:1*n%18446744073709551616=n:=by omega
 rw[e1,e2];exact⟨rfl,rfl⟩
theorem ah7(w:ak)(n:Nat)(hn:n<=1000000):(xP 70 (.b .a n) (.b .a n)).I ah w=.ok (.a (some ⟨w.a.j,0,none⟩) n n) (w.alloc (.D (madeCells #[.b .a 0] n) 3)):=by
 obtain⟨i,h1,h2,h3,h4⟩:=Ci (P:=ah) (e:=3) (z:=.b .a 0) (size:=1) (bytes:=8) (by kernel_rfl);have:=run_make w 70 3 i _ nZ h1 h2 .a .a (n:Int) (n:Int) (by omega) (by omega) (by rw[h4];omega) (by omega);rw[dQ,h3,gB]at this;exact this
theorem agF{w:ak}{ops:Array iU}{rest:List iU}{o:iU}{a:qQ}{Q:zR->qQ->ak->Prop}(hg:o.guard=none)(l c:pI)(Hu:o.op=Op.makeSlice 70 l c)
 (n:Nat) (hl:a.eval l=.b .a n) (hc:a.eval c=.b .a n) (hn:n<=1000000)
 (hK:wpList ah ops Q rest (a.put o.Y (.a (some ⟨w.a.j,0,none⟩) n n)) (w.alloc (.D (madeCells #[.b .a 0] n) 3))):wpList ah ops Q (o::rest) a w:=by
 refine sS hg fun K hK'=>?_
 unfold ni;simp[execOp,Hu,hl,hc,ah7 w n hn,iD];exact hK' _ _ hK
theorem ah8(W:ak){y z m dl dc sl sc:Nat}{a:aS}{vs:List aB}(hm:vs.a=m)(hm2:m=qg sl dl)(hsrc:∀j v,vs[j]? = some v->W.b (a.add j)=some v)(hth:W.O y z m)(h1:∀v∈vs,v.h=true)(ty:bM):
 (Builtin.copy_ #[70,70] ty #[.a (some ⟨y,z,none⟩) dl dc,.a (some a) sl sc]).I ah W=.ok (goInt m) (W.setCells y z vs):=by
 have:=run_copy_cells (P:=ah) W 70 70 ty 3 y z dl dc a sl sc vs nZ (by kernel_rfl) (by rw[hm,hm2]) hsrc (fun j hj=>(hth j (by rw[<-hm];exact hj)).1) (fun j hj=>(hth j (by rw[<-hm];exact hj)).2) h1;rw[hm]at this;exact this
theorem agG{w:ak}{ops:Array iU}{rest:List iU}{o:iU}{a:qQ}{Q:zR->qQ->ak->Prop}(hgd:o.guard=none)(d s:pI)
 (ho:o.op=.call {callee:=.builtin .copy,args:=#[d,s],argTypes:=#[70,70]}) {y z m dl dc sl sc:Nat} {dp:Option aS} {b:aS} {vs:List aB} (hdp:dp=some ⟨y,z,none⟩) (hd:a.eval d=.a dp dl dc) (hs:a.eval s=.a (some b) sl sc)
 (hm:vs.a=m) (hm2:m=qg sl dl) (hsrc:∀j v,vs[j]? = some v->w.b (b.add j)=some v) (hth:w.O y z m) (h1:∀v∈vs,v.h=true)
 (h:wpList ah ops Q rest (a.put o.Y (goInt m)) (w.setCells y z vs)):wpList ah ops Q (o::rest) a w:=by
 subst hdp;refine sS hgd fun K hK=>?_
 unfold ni;simp[execOp,ho,resolve,invoke,builtin,hd,hs,ah8 w hm hm2 hsrc hth h1,iD];exact hK _ _ h
theorem ant{w:ak}{ops:Array iU}{o:iU}{a:qQ}{K:qQ->ak->Prop}{Q:zR->qQ->ak->Prop}{E:Prop}(hgd:o.guard=none)(d s:pI)
 (ho:o.op=.call {callee:=.builtin .copy,args:=#[d,s],argTypes:=#[70,70]}) {y z m dl dc sl sc:Nat} (dp:Option aS) {b:aS} {vs:List aB} (hdp:dp=some ⟨y,z,none⟩) (hd:a.eval d=.a dp dl dc) (hs:a.eval s=.a (some b) sl sc)
 (hm:vs.a=m) (hm2:m=qg sl dl) (hsrc:∀j v,vs[j]? = some v->w.b (b.add j)=some v) (hth:w.O y z m) (h1:∀v∈vs,v.h=true)
 (h:K (a.put o.Y (goInt m)) (w.setCells y z vs)):if fC o (yielded ops a.tmps)=true then ni ah o a w K Q else E:=by
 subst hdp;have hw:fC o (yielded ops a.tmps)=true:=by simp[fC,hgd]
 rw[if_pos hw];unfold ni;simp[execOp,ho,resolve,invoke,builtin,hd,hs,ah8 w hm hm2 hsrc hth h1,iD];exact h
section
attribute [local go_sem high] iT jF
theorem anu(n:Nat)(h:n<18446744073709551616):jm.wrap (n:Int)=(n:Int):=vR n h
theorem agH(n:Nat)(hn:1<=n)(hn2:n<=100000)(b cx:Nat)(v:Int)(w:ak)(hx:dJ w b #[.b .a v]):
 aQ ah 84 #[.a (some ⟨b,0,none⟩) 1 cx,.b .a n] w fun e w'=>∃g d,w.a.j<=g/\e=.a (.a (some ⟨g,0,none⟩) n n)/\dJ w' g d/\d.j=n/\SlA d (dV n v)/\aL w.a.j w w':=by
 have MU:=ab (fun w=>mul_one n (by omega) w);have hnI:(1:Int)<=n:=by omega
 have t1:decide ((n:Int)<0)=false:=by simp
 have t2:decide ((n:Int)>9223372036854775807)=false:=by simp;omega
 have t3:decide ((9223372036854775807:Int)<n)=false:=by simp;omega
 have t4:decide (9223372036854775807<n)=false:=by simp;omega
 have u1:=anu n (by omega);have i1:=jS (n:Int) (by omega);obtain⟨d0,hd0⟩:=dw (madeCells #[.b .a 0] n);have D0:=ab (show d0.j=n by rw[hd0];exact size_madeCells _ _);have HD0:=ab hd0;obtain⟨g,hg⟩:=dw w.a.j;have BG:=ab (show dJ (w.alloc (.D d0 3)) g d0 by rw[hg];exact dJ.new w d0 3);have BX:=ab (hx.alloc (.D d0 3));have HG:=ab hg;have HLT:=ab (show b≠g by rw[hg];exact Nat.ne_of_lt hx.lt);have BL:=ab ((aH w.a.j w).alloc (av _) (.D d0 3));have SRC:=ab (show∀j u,[(.b .a v:aB)][j]? = some u->(w.alloc (.D d0 3)).b ((⟨b,0,none⟩:aS).add j)=some u by
  intro j u hu;have:=BX.i.K.1 j;cases j with
  | zero=>simpa[rb]using this.trans hu
  | succ j=>simp at hu)
 have TH:=ab (BG.i.O 0 1 (by rw[D0.i];omega));have MK:=ab (ah7 w n (by omega));clear hd0 hg;go_enter Tryz.func84,Tryz.ntmps84;go_wp2_with (first|(go_at_call 168;(with_reducible refine(MU.i _).g ?_);rintro e w1 ⟨rfl,rfl⟩)|(refine agF rfl (.a 29) (.a 29) rfl n rfl rfl (by omega) ?_;rw[<-HD0.i,<-HG.i];generalize hww:w.alloc (.D d0 3)=w1 at BG BX BL SRC TH⊢;clear hww)|(refine agG rfl (.a 31) (.a 32) rfl (y:=g) (z:=0) (m:=1) (vs:=[.b .a v]) rfl rfl rfl rfl (by show 1=min 1 n;omega) SRC.i TH.i (by simp[cB]) ?_));have B1:=ab (BG.i.setCells 0 [.b .a v]);have L1:=ab (xU (B:=w.a.j) (aW HG.i.symm) [.b .a v] 0 _ BL.i);clear SRC TH MU;go_loopw [8] (fun i wr=>∃(k:Nat)(d:Array aB),1<=k/\k<=n/\i=.b .a k/\dJ wr g d/\d.j=n/\(∀j,j<k->d[j]? = some (.b .a v))/\aL w.a.j w wr)
  (fun i _=>n-(intOf i).e)
 case atStart=>
  refine⟨1,_,av _,hn,rfl,B1.i,by rw[Yu,D0.i],fun j hj=>?_,L1.i⟩;obtain rfl:j=0:=by omega
  rw[Eh,if_pos ⟨by omega,by simp,by rw[D0.i];omega⟩];rfl
 case round=>
  obtain⟨k,d,hk1,hkn,rfl,hb,hds,hall,hbel⟩:=hrel;by_cases hlt:k<n
  ·have hki:(k:Int)<n:=by omega
   have aKi:(k:Int)<=n:=by omega
   obtain⟨m,hm⟩:=dw (qg k (n-k));have hm2:m<=k/\0<m/\k+m<=n:=by have e:qg k (n-k)=min k (n-k):=rfl;rw[e]at hm;omega
   obtain⟨k2,hk2⟩:=dw (k+m);have i2:(k:Int)+(m:Int)=(k2:Int):=by omega
   have i3:=jS (k2:Int) (by omega);have SRC:=ab (show∀j u,(dV m (.b .a v:aB))[j]? = some u->wr.b ((⟨g,0,none⟩:aS).add j)=some u by
    intro j u hu;have h1:=hb.K.1 j;rw[tC]at hu;split at hu
    ·rename_i hj
     rw[hall j (by omega)]at h1;injection hu with hu
     subst hu;by_cases h0:j=0
     ·subst h0;simpa[rb]using h1
     ·simpa[rb,h0]using h1
    ·cases hu)
   have TH:=ab (hb.O k m (by rw[hds];omega));have HM:=ab (show m=qg k (n-k)from hm);have HC:=ab (show vL (some ⟨g,0,none⟩) k n 1=some ⟨g,k,none⟩from PY (n:=0) hlt);have HR:=ab (show(dV m (.b .a v:aB)).a=m by simp);have HO:=ab (show∀u∈dV m (.b .a v:aB),u.h=true from fun u hu=>by rw[List.eq_of_mem_replicate hu];rfl);have HB:=ab hb;have HDS:=ab hds;have aD9:=ab hall;have aD':=ab hbel;have HK2:=ab hk2;have HM2:=ab hm2;clear hm hb hds hall hbel hk2 hm2;go_wp2_with fail;go_region_held_law (fun _=>True) (trivial)
    (first|(refine ant (o:=⟨some 45,_,_,_,_,_⟩) rfl (.a 41) (.a 44) rfl (y:=g) (z:=k) (m:=m) (vs:=dV m (.b .a v)) (vL (some ⟨g,0,none⟩) k n 1) HC.i rfl rfl HR.i HM.i SRC.i TH.i HO.i ?_))
   go_wp2;go_roundw
   case rel=>
    refine⟨k2,_,by have:=HM2.i;have:=HK2.i;omega,by have:=HM2.i;have:=HK2.i;omega,rfl,HB.i.drew.setCells k _,by rw[Yu,HDS.i],fun j hj=>?_,xU (aW HG.i.symm) _ _ _ aD'.i.drew⟩;have h1:=HK2.i;have h2:=HM2.i;rw[Eh];split
    ·rename_i h3
     simp at h3;have:j-k<m:=by omega
     simp[this]
    ·rename_i h3
     simp at h3;refine aD9.i j ?_;rcases aZ j k with h4|h4
     ·exact h4
     ·have h6:=h3 h4 (by omega)
      have h7:=HDS.i;omega
   case measure=>
    have h1:=HK2.i;have h2:=HM2.i;simp only[intOf,dQ];omega
  ·obtain rfl:k=n:=by omega
   have hd:decide ((k:Int)<k)=false:=by simp
   have HB:=ab hb;go_wp2;go_ret;exact⟨g,d,aW HG.i.symm,rfl,HB.i,hds,fun j hj=>by
    rw[oL]at hj;rw[hall j hj,au,tC,if_pos hj];rfl,hbel⟩
end
section
variable {W W':ak} {q g:Nat} {key:Vector UInt8 16} {room:Int} {s:List (Option Fw)}
theorem Fv.ay'(h:Fv W q g key room s):(xu 22 (.c (some ⟨q,0,none⟩))).I ah W=.ok (.d (iH key)) W:=by
 obtain⟨_,_,_,_,h5,h6⟩:=h.K;rw[Sn.ld W q 0 h6,h5]
theorem Fv.lt(h:Fv W q g key room s):q<W.a.j/\g<W.a.j:=⟨h.tb.lt,h.sl.lt⟩
theorem WS(T:Fv W q g key room s)(k:Tu)(hk:xq k):
 aQ ah 200 #[.c (some ⟨q,0,none⟩),.d k.ay] W (gM W (.b .a (hmK key s.a k:Nat))):=by
 have T0:=ab (T.alloc (.D k.ay 81));have X0:=ab (dJ.new W k.ay 81);have B0:=ab ((aH W.a.j W).alloc (av _) (.D k.ay 81));obtain⟨N,hN⟩:=dw s.a;obtain⟨h,hh⟩:=dw (xK key (Lj k));have HM:=ab (show hmK key s.a k=h%N by unfold hmK;rw[hN,hh]);have hsz:=T.sz;rw[<-hN]at hsz;have C0:=ab (fun W=>Jm key k hk W);rw[<-hh]at C0;have HN:=ab hN;clear hN hh T;obtain⟨r,hr⟩:=dw (h%N);have hrl:r<N:=by rw[hr];exact fE _ (by omega)
 have e1:(h:Int)%(N:Int)=(r:Int):=by rw[hr];omega
 have e2:Mj (h:Int) (N:Int)=(r:Int):=by rw[mo (by omega)];exact e1
 have u1:=anu N (by omega);have u2:=anu r (by omega);have i1:=jS (N:Int) (by omega);have i2:=jS (r:Int) (by omega);have z1:¬(N:Int)=0:=by omega
 have z2:¬N=0:=by omega
 rw[<-hr]at HM;clear hr;rw[HM.i];go_enter Tryz.func200,Tryz.ntmps200;go_upto_region 1 with fail
 generalize W.alloc (.D k.ay 81)=w1 at T0 X0 B0 ⊢;obtain⟨T,f,n0,E0,es,ew⟩:=vM (w1);have hT:Nonempty T:=⟨n0⟩
 have ES:=ab es;have EW:=ab ew;have l1:=fun m=>(T0.i.go (es m)).ay'
 have l2:=fun m=>pF (X0.i.go (es m))
 have l3:∀m,(f m).b ⟨q,18,none⟩=some (.a (some ⟨g,0,none⟩) N N):=fun m=>by rw[HN.i];exact(T0.i.go (es m)).K.1
 clear es ew;refine oh f (by kernel_rfl) (by kernel_rfl) n0 E0 ?_
 repeat(go_big_quiet_step ((first|(go_at_call 36;(with_reducible refine(C0.i _).g ?_);rintro e w2 ⟨rfl,hb⟩;exact⟨rfl,EW.i _ ((ES.i _).trans (hb.g (ES.i _).j))⟩))))
 refine gK ?_;rintro _ ⟨m',rfl⟩;have HB:=ab (ES.i m');generalize f m'=wN at *;clear ES EW E0 hT n0;clear l1 l2 l3;go_wp2;go_ret;exact⟨rfl,gV B0.i HB.i⟩
theorem Ce(T:Fv W q g key room s)(k:Tu)(hk:xq k)(d:Nat)(hd:Found (hmK key s.a) Fw.key s k d):
 aQ ah 129 #[.c (some ⟨q,0,none⟩),.d k.ay] W (gM W (.b .a ((hmK key s.a k+d)%s.a:Nat))):=by
 have T0:=ab (T.alloc (.D k.ay 81));have X0:=ab (dJ.new W k.ay 81);have B0:=ab ((aH W.a.j W).alloc (av _) (.D k.ay 81));have hsz:=T.sz;have HD:=ab hd;obtain⟨h,hh⟩:=dw (hmK key s.a k);have hhl:h<s.a:=by rw[hh];exact fE _ (by omega)
 have C0:=ab (fun(W:ak) (T:Fv W q g key room s)=>WS T k hk);rw[<-hh]at C0;have HH:=ab hh;obtain⟨N,hN⟩:=dw s.a;rw[<-hN]at hsz hhl;have HN:=ab hN;clear T hd hh hN;go_enter Tryz.func129,Tryz.ntmps129;go_upto_region 1 with fail
 generalize W.alloc (.D k.ay 81)=w1 at T0 X0 B0 ⊢;have l0:=pF X0.i;go_wp2_with (go_at_call 200;(with_reducible refine(C0.i _ T0.i).g ?_);rintro e w2 ⟨rfl,hb⟩;have T2:=ab (T0.i.go hb);have X2:=ab (X0.i.go hb);have B2:=ab (gV B0.i hb);clear hb l0);go_loopw [5] (fun v wr=>∃j:Nat,j<=d/\v=.b .a ((h+j)%N:Nat)/\aL w2.a.j w2 wr)
  (fun v wr=>((h+d)%N+N-(intOf v).e)%N)
 case atStart=>exact⟨0,iX _,by rw[nD,fK hhl],aH _ _⟩
 case round=>
  obtain⟨j,hj,rfl,hbw⟩:=hrel;have HB:=ab hbw;have hdN:d<N:=by rw[HN.i];exact HD.i.1
  obtain⟨i,hi⟩:=dw ((h+j)%N);have hil:i<N:=by rw[hi];exact fE _ (by omega)
  have TR:=ab (T2.i.go hbw);have b1:xJ wr W.a.j 0 37:=of_eq_true ((X2.i.go hbw).K.2.2.1 0 37 (by rw[Tu.dZ];omega));have b2:eu wr W.a.j 0 37=k.ay:=by rw[(X2.i.go hbw).K.2.2.2 0 37 (by rw[Tu.dZ];omega)];exact Tu.j5 k
  have l2:wr.b ⟨q,18,none⟩=some (.a (some ⟨g,0,none⟩) N N):=by rw[HN.i];exact TR.i.K.1
  obtain⟨a1,a2,a3,a4,a5,a6,a7⟩:=TR.i.WG (show i<s.a by rw[<-HN.i];exact hil);rw[<-hi];have hii:(i:Int)<N:=by omega
  obtain⟨i1,hi1⟩:=dw (i+1);have e0:(i:Int)+1=(i1:Int):=by omega
  have w0:=jS (i1:Int) (by omega);obtain⟨i2,hi2⟩:=dw (i1%N);have aKj:i2<N:=by rw[hi2];exact fE _ (by omega)
  have e1:(i1:Int)%(N:Int)=(i2:Int):=by rw[hi2];omega
  have e2:Mj (i1:Int) (N:Int)=(i2:Int):=by rw[mo (by omega)];exact e1
  have w2':=jS (i2:Int) (by omega);have z1:¬(N:Int)=0:=by omega
  have z2:¬N=0:=by omega
  have HI:=ab hi;have HI2:=ab (show i2=(h+(j+1))%N by rw[hi2,hi1,hi,Nat.mod_add_mod,mZ]);clear a2 a3 a5 a6 hi hi1 hi2 hbw;have HST:=ab (show stops (kf:=Fw.key) s k i=true->j=d from fun h1=>by
   rcases aZ j d with h2|h2
   ·have h3:=HD.i.2.2 j h2
    rw[<-HH.i,<-HN.i,<-HI.i,h1]at h3;cases h3
   ·omega)
  have DR:=ab (show stops (kf:=Fw.key) s k i=false->j<d from fun h1=>by
   rcases aZ j d with h2|h2
   ·exact h2
   ·have h3:=HD.i.2.1
    obtain rfl:j=d:=by omega
    rw[<-HH.i,<-HN.i,<-HI.i,h1]at h3;cases h3)
  cases hat:at_ s i with
  | none=>
    rw[hat]at a1 a4;have HE:=ab (HST.i (by unfold stops;rw[hat]));clear a4 a7 hat
    replace a1:wr.b ⟨g,i*42,none⟩=some (.e false):=a1
    go_wp2_with fail;go_quiet (fail);go_wp2;go_ret;refine⟨?_,?_⟩
    ·rw[<-HH.i,<-HN.i,<-HE.i,<-HI.i];rfl
    ·exact fO (gV B2.i HB.i) _
  | some x=>
    rw[hat]at a1 a4
    replace a1:wr.b ⟨g,i*42,none⟩=some (.e true):=a1
    replace a4:eu wr g (i*42+1) 37=x.key.ay:=a4
    by_cases hxk:x.key=k
    ·have HE:=ab (HST.i (by unfold stops;rw[hat];simp[hxk]))
     have t1:decide (x.key=k)=true:=by simp[hxk]
     clear hxk hat;go_wp2_with fail;go_quiet (fail);go_wp2;go_ret;refine⟨?_,?_⟩
     ·rw[<-HH.i,<-HN.i,<-HE.i,<-HI.i];rfl
     ·exact fO (gV B2.i HB.i) _
    ·have HE:=ab (DR.i (by unfold stops;rw[hat];simp[hxk]))
     have t1:decide (x.key=k)=false:=by simp[hxk]
     clear hxk hat;go_wp2_with fail;go_quiet (fail);go_wp2;go_roundw
     case rel=>exact⟨j+1,HE.i,by rw[HI2.i],fO HB.i _⟩
     case measure=>
      have h1:=HE.i;have e3:=wP (N:=N) (a:=h+d) (by omega);have e4:=HI.i;rw[wP (N:=N) (a:=h+j) (by omega)]at e4;have e5:=HI2.i;rw[wP (N:=N) (a:=h+(j+1)) (by omega)]at e5;simp only[intOf,dQ];rw[e3];generalize hM:(if h+d<N then h+d else h+d-N)=M;have hM2:M<N:=by rw[<-hM];split<;>omega
      rw[wP (N:=N) (a:=M+N-i2) (by omega),wP (N:=N) (a:=M+N-i) (by omega)];rw[e4,e5,<-hM]
      repeat' split
      all_goals omega
end
section
variable {W W':ak} {q g:Nat} {key:Vector UInt8 16} {room:Int} {s:List (Option Fw)} {l:List Fw}
theorem kFw:oO 86 41 jq.ay:=⟨⟨_,mV,rfl⟩,by kernel_rfl,by kernel_rfl,Fw.G _⟩
theorem aza(w:ak)(fs:Array nS)(h:ah.k 86=some (.struct fs)):(iB (fun f=>Prod.mk f.Z <$> sizeOf f.type) fs:Sem (Array (Nat×Nat))).I ah w=.ok #[(0,37),(37,1),(38,1),(39,1),(40,1)] w:=by
 have e:=mV;rw[h]at e;cases e;show _=_
 kernel_rfl
@[go_sem]theorem awE(W:ak):(atD #[]).I ah W=.ok (.d jq.ay) W:=kFw.bd0 W _ mV ⟨_,aza W _ mV⟩
structure Ky(W:ak)(q g:Nat)(key:Vector UInt8 16)(room:Int)(s:List (Option Fw))(l:List Fw):Prop where
 w:Fv W q g key room s
 r:TbR (hmK key s.a) s l
 ok:vI room l
theorem Ky.go(h:Ky W q g key room s l)(hb:aL W.a.j W W'):Ky W' q g key room s l:=⟨h.w.go hb,h.r,h.ok⟩
theorem zq{t:Tu}(h:FP t=true):xq t:=by
 unfold FP XL at h;simp only[bf,decide_eq_true_eq]at h;unfold xq;omega
theorem Ky.VI(h:Ky W q g key room s l)(k:Tu):∃d,Found (hmK key s.a) Fw.key s k d/\at_ s ((hmK key s.a k+d)%s.a)=lX l k:=by
 obtain⟨d,hd⟩:=h.r.tab.found k;exact⟨d,hd,h.r.stop h.ok hd⟩
theorem vI.none{room:Int}(h:vI room l){k:Tu}(hk:FP k=false):lX l k=none:=by
 cases hf:lX l k with
 | none=>rfl
 | some x=>
   obtain⟨h1,h2⟩:=vJ hf;have:=wT (h.ok x h1);rw[h2,hk]at this;cases this
def anv(o:Option Fw):aB:=.J #[.d (wD o).qW.ay,.e o.isSome]
theorem J9(T:Ky W q g key room s l)(k:Tu):
 aQ ah 126 #[.c (some ⟨q,0,none⟩),.d k.ay] W (gM W (anv (lX l k))):=by
 have Z0:=ab (((Bx.start W).new k.ay 81).new jq.ay 86);rw[show(W.alloc (.D k.ay 81)).a.j=W.a.j+1 by simp]at Z0;have CK:=ab (fun w=>JY k w);obtain⟨ok,hok⟩:=dw (FP k);rw[<-hok]at CK;have HT:=ab T;have JJ:=ab hok;have HLT:=ab T.w.lt;obtain⟨o,ho⟩:=dw (lX l k);rw[<-ho];have HO:=ab ho.symm;clear T hok ho;go_enter Tryz.func126,Tryz.ntmps126;go_upto_region 1 with fail
 generalize(W.alloc (.D k.ay 81)).alloc (.D jq.ay 86)=w1 at Z0 ⊢;have l1:=pF Z0.i.b1;have HE:=ab (fun(w':ak) (x:Fw) (h:Bx [(W.a.j+1,jq.ay),(W.a.j,k.ay)] W w')=>show dJ (Av w' (W.a.j+1) 0 x) (W.a.j+1) x.ay/\aL W.a.j W (Av w' (W.a.j+1) 0 x)from
  have k2:=h.put (fun p hp=>by rw[fD.1 hp];simp) x.ay (by rw[Fw.G,Fw.G])
  ⟨k2.X,k2.R⟩)
 cases ok
 ·have HN:=ab (HT.i.ok.none JJ.i.symm)
  rw[HO.i]at HN;go_wp2_with (go_at_call 115;(with_reducible refine(CK.i _).g ?_);rintro e w2 ⟨rfl,hb⟩;have Z2:=ab (Z0.i.go hb);clear hb l1;have yK:=Z2.i.X.O 0 41 (aW (Fw.G _).symm));refine aN (kFw.qB rfl _ rfl (HE.i _ jq Z2.i).1 (Fw.G _)) rfl ?_;exact⟨by rw[HN.i];rfl,(HE.i _ jq Z2.i).2⟩
 ·go_wp2_with (go_at_call 115;(with_reducible refine(CK.i _).g ?_);rintro e w2 ⟨rfl,hb⟩;have Z2:=ab (Z0.i.go hb);clear hb l1)
  obtain⟨d,hd,hat⟩:=HT.i.VI k;have hsz:=HT.i.w.sz;obtain⟨i,hi⟩:=dw ((hmK key s.a k+d)%s.a);have hil:i<s.a:=by rw[hi];exact fE _ (by omega)
  have CF:=ab (fun(w:ak) (h:Bx [(W.a.j+1,jq.ay),(W.a.j,k.ay)] W w)=>Ce (HT.i.w.go h.R) k (zq JJ.i.symm) d hd);rw[<-hi]at CF hat;have HAT:=ab hat;have HIL:=ab hil;obtain⟨N,hN⟩:=dw s.a;have HN:=ab hN;have hii:(i:Int)<N:=by omega
  rw[HO.i]at HAT;clear hd hat hi hil hN hsz;refine PL (Bx.abt ([(W.a.j+1,jq.ay),(W.a.j,k.ay)]) W) 9 10 6 213 Gs.ay (by kernel_rfl) rfl (by kernel_rfl) (by decide) (by decide) (by kernel_rfl) (by kernel_rfl) (by kernel_rfl) rfl rfl rfl (fun a w=>by simp[go_sem]) Z2.i.drew ?_;apply Exists.intro;refine⟨fun T f hT es ew=>?_,?_⟩
  ·have EW:=ab ew
   have ES:=ab es;have l1:=fun m=>pF (ES.i m).b1
   have l2:∀m,(f m).b ⟨q,18,none⟩=some (.a (some ⟨g,0,none⟩) N N):=fun m=>by rw[HN.i];exact(HT.i.w.go (ES.i m).R).K.1
   have l3:∀m,xJ (f m) g (i*42) 42:=fun m=>((HT.i.w.go (ES.i m).R).WG HIL.i).2.2.2.2.1
   have l4:∀m,eu (f m) g (i*42) 42=(wD o).ay:=fun m=>by rw[((HT.i.w.go (ES.i m).R).WG HIL.i).2.1,HAT.i]
   have CG:=ab (fun m=>CF.i (f m) (ES.i m));clear es ew;simp only[kW,bG,bP,jM,jX]
   repeat(go_big_quiet_step ((first|(go_at_call 129;(with_reducible refine(CG.i _).g ?_);rintro e w2 ⟨rfl,hb⟩;exact⟨rfl,EW.i _ _ hb⟩))))
   exact gK rfl
  ·intro w9 w8 zO _ hb
   have ZN:=(zO.new Gs.ay 213).go hb;have hy:=zO.R.j;have hyW:W.a.j+1<w9.a.j:=zO.X.lt;have ZN:=ab ZN;generalize w9.a.j=y at *;clear zO hb;simp only[Act.put,List.setIfInBounds_toArray,bG,bP,List.drop_succ_cons,kX];have hne:=ab (show∀p∈[(W.a.j+1,jq.ay),(W.a.j,k.ay)],p.1≠y from fun p hp=>by simp at hp;rcases hp with rfl|rfl<;>simp<;>omega);have HYW:=ab hyW;clear hyW hy;have yK:=ZN.i.X.O 0 42 (aW (Sl.G Gs).symm);have Z5:=ab (ZN.i.put hne.i (wD o).ay (by rw[Sl.G,Sl.G]));go_step;go_simp;go_step;go_step;clear yK ZN;generalize gI w8 y 0 (wD o).ay=w6 at Z5 ⊢;have b0:=Z5.i.X;have f1:w6.b ⟨y,0,none⟩=some (.e o.isSome):=by rw[b0.K.1 0,Sl.NW,Jk]
   have f2:xJ w6 y 1 41:=of_eq_true (b0.K.2.2.1 1 41 (by rw[Sl.dZ];omega));have f3:eu w6 y 1 41=(wD o).qW.ay:=by rw[b0.K.2.2.2 1 41 (by rw[Sl.dZ];omega)];exact Sl.TL _
   have yK:=Z5.i.b1.O 0 41 (aW (Fw.G _).symm);have Z7:=ab (show Bx [(W.a.j+1,(wD o).qW.ay),(y,(wD o).ay),(W.a.j,k.ay)] W (Av w6.drew (W.a.j+1) 0 (wD o).qW)from Z5.i.drew.swap.put (fun p hp=>by have:=HYW.i;simp at hp;rcases hp with rfl|rfl<;>simp<;>omega) (wD o).qW.ay (by rw[Fw.G,Fw.G]));have f4:(Av w6.drew (W.a.j+1) 0 (wD o).qW).b ⟨y,0,none⟩=some (.e o.isSome):=by rw[Z7.i.b1.K.1 0,Sl.NW,Jk]
   clear b0;go_wp2_with fail;go_region;go_wp2;refine aN (kFw.qB rfl _ rfl Z7.i.X (Fw.G _)) rfl ?_;exact⟨rfl,Z7.i.R⟩
end
theorem anw(N:Nat):madeCells Gs.ay (N*42)=WC (dV N none):=by
 apply dW;intro j;by_cases hj:j<N*42
 ·have e:j=j/42*42+j%42:=by omega
  have h1:(WC (dV N none))[j]? = (slC (at_ (dV N none) (j/42)))[j%42]?:=by
   conv=>lhs;rw[e]
   exact J8 _ _ _ (by rw[oL];omega) (by omega)
  have h2:at_ (dV N (none:Option Fw)) (j/42)=none:=by unfold at_;rw[au,tC];split<;>rfl
  rw[h1,h2];have h3:Gs.ay.j=42:=Sl.G _;have h4:j%42<Gs.ay.j:=by omega
  simp only[madeCells,Array.getElem?_map,Array.getElem?_range,h3,hj,if_true,mY];show some Gs.ay[j%42]! = (wD none).ay[j%42]?;show some Gs.ay[j%42]! = Gs.ay[j%42]?;rw[fq h4];congr 1;exact getElem!_pos Gs.ay (j%42) h4
 ·rw[aU (by rw[size_madeCells];omega),aU (by rw[vw,oL];omega)]
theorem anx(w:ak)(N:Nat)(hN:N<=100000):(xP 205 (.b .a N) (.b .a N)).I ah w=.ok (.a (some ⟨w.a.j,0,none⟩) N N) (w.alloc (.D (WC (dV N none)) 213)):=by
 obtain⟨i,h1,h2,h3⟩:=kSl.af4;have hb:i.bytes<=1000:=by
  have:(ah.info? 213).map (fun i=>decide (i.bytes<=1000))=some true:=by kernel_rfl
  rw[h1]at this;simpa using this
 have:=run_make w 205 213 i _ Tryz.underlying205 h1 h3 .a .a (N:Int) (N:Int) (by omega) (by omega) (by have h5:=gG hb hN;rw[<-Int.natCast_mul];omega) (by omega);rw[dQ,h2]at this;rw[this];show _=Result.ok _ (w.alloc (.D _ _));rw[<-anw];rfl
theorem aqM(key:Vector UInt8 16):sF aj0.ay 0 (iH key)=iH key ++ #[aI .a 0,.b .a 0,.a none 0 0]:=by
 show sF (iH (bF 16 0) ++ #[aI .a 0,.b .a 0,.a none 0 0]) 0 (iH key)=_;exact Gi (by rw[dH,dH])
@[go_sem]theorem azb(W:ak)(key:Vector UInt8 16)(room:Int)(A:Option aS)(n c:Nat):(uN 207 #[(0,.d (iH key)),(1,.b .a room),(3,.a A n c)]).I ah W=.ok (.d (Tk.mk key room 0 A n c).ay) W:=
 kTk.bd W _ _ _ _ DI (aDQ W _ DI) (by
  show fB _ aj0.ay [(0,.d (iH key)),(1,.b .a room),(3,.a A n c)]=_;rw[Ei _ _ 0 0 16 _ _ rfl (by show(iH key).j=16;rw[dH]) (by rw[Tk.G];omega)];show fB _ (sF aj0.ay 0 (iH key)) _=_;rw[aqM,<-Array.append_empty (xs:=iH key ++ #[aI .a 0,.b .a 0,.a none 0 0])];rw[oH 1 16 _ _ _ _ rfl rfl (by simp[dH]),oH 3 18 _ _ _ _ rfl rfl (by simp[dH])];simp[fB,Tk.ay,aM,dH])
def azc(l c:aB):Sem aB:=xP 205 l c
@[go_sem ↓]theorem aBd(l c:aB):xP 205 l c=azc l c:=rfl
def asA(w:ak)(key:Vector UInt8 16)(room:Int)(e:lq)(w':ak):Prop:=
 ∃q g s,e=.a (.J #[.c (some ⟨q,0,none⟩),.b .a 0])/\Ky w' q g key room s []/\room*2<=s.a/\w.a.j<=q/\w.a.j<=g/\aL w.a.j w w'
theorem akc(key:Vector UInt8 16)(r:Nat)(h1:1<=r)(h2:r<=4096)(w:ak):
 aQ ah 62 #[.d (iH key),.b .a r] w (asA w key r):=by
 have Z0:=ab ((Bx.start w).new (iH key) 22);have t1:decide ((r:Int)<1)=false:=by simp;omega
 have t2:decide ((r:Int)>4096)=false:=by simp;omega
 have t3:decide ((4096:Int)<r)=false:=by simp;omega
 have t4:decide (4096<r)=false:=by simp;omega
 have t5:decide (r<1)=false:=by simp;omega
 have t6:decide (r=0)=false:=by simp;omega
 obtain⟨r2,hr2⟩:=dw (2*r);have e1:(2:Int)*(r:Int)=(r2:Int):=by omega
 have i1:=jS (r2:Int) (by omega);have HR2:=ab hr2;clear hr2;go_enter Tryz.func62,Tryz.ntmps62;go_upto_region 1 with fail
 generalize w.alloc (.D (iH key) 22)=w1 at Z0 ⊢;go_wp2;go_loopw [6] (fun v wr=>∃N:Nat,1<=N/\N<=2*r2/\v=.b .a N/\wr=w1) (fun v _=>2*r2-(intOf v).e)
 case atStart=>exact⟨1,av _,by have:=HR2.i;omega,rfl,by first|rfl|trivial⟩
 case round=>
  obtain⟨N,hN1,hN2,rfl,rfl⟩:=hrel;have hr:=HR2.i;by_cases hlt:N<r2
  ·have hki:(N:Int)<r2:=by omega
   obtain⟨N2,azd⟩:=dw (N*2);have e2:(N:Int)*2=(N2:Int):=by omega
   have i2:=jS (N2:Int) (by omega);have Qf:=ab azd;clear azd hr;go_wp2;go_roundw
   case rel=>exact⟨N2,by have:=Qf.i;omega,by have:=Qf.i;omega,rfl,by first|rfl|trivial⟩
   case measure=>have:=Qf.i;simp only[intOf,dQ];omega
  ·have hki:¬(N:Int)<r2:=by omega
   have hd:decide ((N:Int)<r2)=false:=by simpa using hki
   have hd2:decide (N<r2)=false:=by simpa using hlt
   have mk:=fun w=>anx w N (by omega)
   have Z1:=ab Z0.i.drew;have l1:=Sn.nC Z1.i.X (dH _);have l2:=Sn.nC ((Z0.i.alloc (.D (WC (dV N none)) 213)).drew).X (dH _);have l3:=Sn.nC (Z1.i.alloc (.D (WC (dV N none)) 213)).X (dH _);clear hr hlt;go_wp2_with fail
   replace mk:∀w,(azc (.b .a N) (.b .a N)).I ah w=.ok (.a (some ⟨w.a.j,0,none⟩) N N) (w.alloc (.D (WC (dV N none)) 213)):=mk
   go_region;go_wp2;go_ret2;have hr:=HR2.i;have hsz:=Z0.i.R.j;have hlt:¬N<r2:=by omega
   refine⟨wr.a.j+1,wr.a.j,dV N none,rfl,⟨⟨?_,?_,by omega,by rw[oL];omega⟩,?_,vI.nil (by omega)⟩,by rw[oL];omega,by omega,by omega,?_⟩
   ·rw[UJ,oL]
    exact(dJ.Ud wr _ _ _).drew
   ·exact((dJ.new wr _ _).alloc _).drew
   ·exact TbR.new (by omega) (fun k=>by rw[oL];exact fE _ (by omega))
   ·exact(((Z0.i.R.alloc hsz _).alloc (by simp;omega) _)).drew
section
open Go.RowKit Go.Shelf
attribute [local go_sem] qj
theorem ZL{α:Type}(a b:List (Option α)):iw (a++b)=iw a++iw b:=by simp[iw]
theorem WT{α:Type}(s:List (Option α))(k:Nat)(hk:k<s.a):iw (s.d (k+1))=iw (s.d k)++(at_ s k).a:=by
 rw[dP hk,ZL];congr 1;unfold at_;rw[au,aC hk,jr];cases s[k]<;>rfl
theorem ZO{α:Type}(s:List (Option α))(k:Nat):iw (s.d k) <+: iw s:=by
 have:iw s=iw (s.d k)++iw (s.f k):=by rw[<-ZL,List.take_append_drop]
 rw[this];exact List.prefix_append _ _
theorem ET{α:Type}(s:List (Option α)):(iw s).a<=s.a:=List.length_filterMap_le _ _
theorem Fv.anz{W W':ak}{q g n₀:Nat}{key:Vector UInt8 16}{room:Int}{s:List (Option Fw)}(h:Fv W q g key room s)(hb:aL n₀ W W')(hq:q<n₀/\g<n₀):Fv W' q g key room s:=⟨h.tb.S hb hq.1,h.sl.S hb hq.2,h.ne,h.sz⟩
theorem akd(F:KI)(n:Nat)(hf:F.fn 202)(hro:F.round=none)(hn:1<=n)(l Bs n₀ B0:Nat)(q g:Nat)(key:Vector UInt8 16)(room:Int)(s:List (Option Fw))(J Jx:List Fw->ak->Prop)(hJ:AbidesFrom B0 J)
 (hY:∀pre x W,J pre W->pre.a<s.a->YieldAt F (n-1) ah l #[.d x.ay] W fun e W'=>
  (e=.a (.e true)/\J (pre++[x]) W'/\aL n₀ W W')\/(e=.a (.e false)/\Jx (pre++[x]) W'))
 (W:ak) (hn₀:n₀<=W.a.j) (hB0:B0<=W.a.j) (Pp:W.b ⟨Bs,0,none⟩=some (.c (some ⟨q,0,none⟩))) (T:Fv W q g key room s) (hqg:q<n₀/\g<n₀) (h0:J [] W) :
 Mh F n ah 202 #[.func (.yield l) #[] #[],.c (some ⟨Bs,0,none⟩)] W fun e W'=>(∃v,e=.a v) /\
  ((∃ys,ys=iw s/\J ys W')\/(∃pre,pre <+: iw s/\Jx pre W')):=by
 have hsz:=T.sz;obtain⟨N,hN⟩:=dw s.a;have l2:W.b ⟨q,18,none⟩=some (.a (some ⟨g,0,none⟩) N N):=by rw[hN];exact T.K.1
 have HT:=ab T;have HN:=ab hN;rw[<-hN]at hsz;clear hN T;refine Cq Tryz.func202 rfl hf ?_ hro;simp only[Tryz.ntmps202,dK,bD,gH,kP,kQ,fV,fZ,iL,gP,dG,iq];gi_wp2;gi_loopw [10] (fun i wr=>∃k:Nat,k<=N/\i=.b .a k/\J (iw (s.d k)) wr/\aL n₀ W wr)
  (fun i _=>N-(intOf i).e)
 case atStart=>exact⟨0,iX _,rfl,h0,aH _ _⟩
 case round=>
  obtain⟨k,hk,rfl,hJs,hnx⟩:=hrel;by_cases hlt:k<N
  ·have hki:(k:Int)<N:=by omega
   have TR:=ab (HT.i.anz hnx hqg);have hks:k<s.a:=by rw[<-HN.i];exact hlt
   obtain⟨_,a2,_,_,a5,_,_⟩:=TR.i.WG hks;have hET:=WT s k hks;have bx:=dJ.new wr (wD (at_ s k)).ay 213;have f1:=(bx.K.1 0).trans (Sl.NW _);rw[Jk]at f1;have f2:xJ (wr.alloc (.D (wD (at_ s k)).ay 213)) wr.a.j 1 41:=of_eq_true (bx.K.2.2.1 1 41 (by rw[Sl.dZ];omega));have f3:eu (wr.alloc (.D (wD (at_ s k)).ay 213)) wr.a.j 1 41=(wD (at_ s k)).qW.ay:=by rw[bx.K.2.2.2 1 41 (by rw[Sl.dZ];omega)];exact Sl.TL _
   have hsz2:=hnx.j;have Qf:=ab (hnx.alloc (by omega) (.D (wD (at_ s k)).ay 213));have HJA:=ab (Gt hJ hJs (.D (wD (at_ s k)).ay 213));clear bx hsz2;cases hat:at_ s k with
   | none=>
     rw[hat]at a2 f1 f2 f3 Qf HJA hET
     replace f1:(wr.alloc (.D (wD none).ay 213)).b ⟨wr.a.j,0,none⟩=some (.e false):=f1
     have DR:=ab (show iw (s.d (k+1))=iw (s.d k)by rw[hET];simp);clear hET hat f2 f3;gi_wp2;refine⟨fun f h=>(by cases h),?_⟩;gi_wp2;go_roundw
     case rel=>exact⟨k+1,by omega,by simp,by rw[DR.i];exact HJA.i,Qf.i⟩
     case measure=>simp[intOf];omega
   | some x=>
     rw[hat]at a2 f1 f2 f3 Qf HJA hET
     replace f1:(wr.alloc (.D (wD (some x)).ay 213)).b ⟨wr.a.j,0,none⟩=some (.e true):=f1
     replace f3:eu (wr.alloc (.D (wD (some x)).ay 213)) wr.a.j 1 41=x.ay:=f3
     have DR:=ab (show iw (s.d k)++[x]=iw (s.d (k+1))by rw[hET];simp);clear hET hat;obtain⟨fn,tmps,assign,body,hy,hRd⟩:=hY _ x _ HJA.i (by have:=ET (s.d k);rw[bJ]at this;omega);gi_wp2;refine hRd.g ?_;rintro e W3 (⟨rfl,hJ3,hk3⟩|⟨rfl,hJx3⟩)
     ·gi_wp2
      go_roundw
      case rel=>exact⟨k+1,by omega,by simp,by rw[<-DR.i];exact hJ3,Qf.i.trans hk3⟩
      case measure=>simp[intOf];omega
     ·gi_wp2
      refine aN (vE rfl _ _ _) rfl ?_;exact⟨⟨_,rfl⟩,.b ⟨_,by rw[DR.i];exact ZO _ _,hJx3⟩⟩
  ·obtain rfl:k=N:=by omega
   have hd:decide ((k:Int)<k)=false:=by simp
   gi_wp2;go_end0;exact⟨⟨_,rfl⟩,.a ⟨_,by rw[HN.i,zT],hJs⟩⟩
end
section
open Go.RowKit Go.Shelf
abbrev OkF:={x:Fw // zU x=true}
instance:Inhabited OkF:=⟨⟨⟨aff,[97],1,0,0⟩,by kernel_rfl⟩⟩
theorem anA:∀(ys:List Fw),(∀x∈ys,zU x=true)->∃zs:List OkF,zs.map (·.1)=ys
 | [],_=>⟨[],rfl⟩
 | y::ys,h=>by
   obtain⟨zs,hz⟩:=anA ys (fun x hx=>h x (jy _ hx));exact⟨⟨y,h y (List.mem_cons_self ..)⟩::zs,by simp[hz]⟩
theorem ZU(zs:List OkF):(zs.h fun x=>x.1.ay.a)=(zs.map (·.1)).h fun x=>x.ay.a:=by
 induction zs with
 | nil=>rfl
 | cons z zs ih=>simp[iK]
theorem akf{a b c:List UInt8}(h1:bR a b=false)(h2:bR b c=false):bR a c=false:=by
 cases h3:bR a c with
 | false=>rfl
 | true=>
   exfalso;cases h4:bR b a with
   | true=>rw[yc _ _ _ h4 h3]at h2;cases h2
   | false=>
     have:=zK _ _ h1 h4;subst this;rw[h3]at h2;cases h2
theorem abP{a b c:Fw}(h1:kS a b=false)(h2:kS b c=false):kS a c=false:=by
 unfold kS at *;by_cases e1:a.no=b.no
 ·rw[if_pos e1]at h1
  by_cases e2:b.no=c.no
  ·rw[if_pos e2]at h2
   rw[if_pos (e1.trans e2)];exact akf h1 h2
  ·rw[if_neg e2]at h2
   rw[if_neg (by omega)];simp at h2 ⊢;omega
 ·rw[if_neg e1]at h1
  simp at h1;by_cases e2:b.no=c.no
  ·rw[if_neg (by omega)]
   simp;omega
  ·rw[if_neg e2]at h2
   simp at h2;rw[if_neg (by omega)];simp;omega
def aqO(x y:OkF):Int:=abK x.1 y.1
theorem anB:Sort.SWO (ltOf aqO):=by
 have e:∀x y,ltOf aqO x y=kS x.1 y.1:=fun x y=>abL x.1 y.1
 refine⟨fun x=>?_,fun x y z h1 h2=>?_,fun x y z h1 h2=>?_⟩
 ·rw[e];exact tN.irr _
 ·rw[e]at *;exact tN.tr _ _ _ h1 h2
 ·rw[e]at *;exact abP h1 h2
theorem Ka{x:Fw}(h:zU x=true):xq x.key/\0<=x.no/\x.no<=1152921504606846976:=by
 refine⟨zq (wT h),?_⟩;unfold zU XL at h;simp only[bf,decide_eq_true_eq]at h;omega
theorem aqP(w:ak):(isAgg 86).I ah w=.ok true w:=by simp[isAgg,dL mV]
theorem au6(w:ak):(Go.sizeOf 86).I ah w=.ok 41 w:=by
 obtain⟨i,hi,hi2,_⟩:=kFw.af4;rw[run_sizeOf w hi];have hc:ah.cellsOf 86=41:=by simp[Program.cellsOf,hi,hi2]
 rw[hc]
theorem akg(x y:OkF)(w:ak):aQ ah 117 #[.d x.1.ay,.d y.1.ay] w (gM w (.b .a (aqO x y))):=by
 obtain⟨h1,h2⟩:=Ka x.2;obtain⟨h3,h4⟩:=Ka y.2;exact QV x.1 y.1 h1 h3 h2 h4 w
theorem K6(l ys:List Fw)(room:Int)(hl:vI room l)(hp:ys.Perm l)(hn:ys.a<=1000000)(W:ak)(base:Nat)(A:Option aS)(c:Nat)(h:W.c base 86 41 (.a A ys.a c) ys.a (ys.h fun x=>x.ay.a)):
 aQ ah 151 #[.a A ys.a c,.func (.func 117) #[] #[]] W fun e w'=>e=.a (.J #[])/\w'.c base 86 41 (.a A ys.a c) ys.a (l.h fun x=>x.ay.a)/\W.d w' (bC A ys.a c).f:=by
 obtain⟨zs,hz⟩:=anA ys (fun x hx=>hl.ok x (hp.mem_iff.1 hx));have hlen:zs.a=ys.a:=by rw[<-hz,bQ]
 have hc:=ZU zs;rw[hz]at hc;rw[<-hc]at h;refine(Zz au0 41 aqP au6 (fun x:OkF=>x.1.ay) (fun x=>Fw.G x.1) (fun x=>Fw.cK x.1) aqO anB 117 (fun args w=>rfl) base 86 A ys.a c zs W hlen hn h akg).g ?_;rintro e w' ⟨rfl,l',h1,h2,h3,h4⟩;refine⟨rfl,?_,h4⟩;rw[ZU]at h3;have hp2:(l'.map (·.1)).Perm l:=((h1.map _).trans (by rw[hz])).trans hp;have hone:(l'.map (·.1)).Pairwise fun x y=>x.key≠y.key:=(hp2.pairwise_iff (fun{a b} (hab:a.key≠b.key)=>Ne.symm hab)).2 hl.one
 have hasc:Asc kS (l'.map (·.1)):=by
  have h5:(l'.map (·.1)).Pairwise fun x y=>kS y x=false:=by
   rw[yX];exact h2.imp (fun{a b} hab=>by rw[<-hab];exact(abL b.1 a.1).symm)
  refine List.Pairwise.imp_of_mem ?_ (h5.and hone);rintro a b ha hb ⟨h6,h7⟩;rcases QI (Nk (wT (hl.ok a (hp2.mem_iff.1 ha)))) (Nk (wT (hl.ok b (hp2.mem_iff.1 hb)))) h7 with h8|h8
  ·exact h8
  ·rw[h6]at h8;cases h8
 rw[<-Asc.eq tN hasc hl.asc hp2];exact h3
end
section
open Go.RowKit Go.Shelf
variable {W W':ak} {q g:Nat} {key:Vector UInt8 16} {room:Int} {s:List (Option Fw)} {l:List Fw}
theorem Qg(q:Nat)(w:ak):
 aQ ah 132 #[.c (some ⟨q,0,none⟩)] w fun e w'=>e=.a (.func (.func 202) #[] #[.c (some ⟨w.a.j,0,none⟩)])/\w.alloc (.D #[.c (some ⟨q,0,none⟩)] 121)=w':=by
 go_enter Tryz.func132,Tryz.ntmps132;go_wp2;go_ret;exact⟨rfl,rfl⟩
theorem aej(F:KI)(n:Nat)(hf:F.fn 202)(hro:F.round=none)(hn:1<=n)(Bs n₀:Nat)(w:ak)(Pp:Bs<w.a.j)(hn₀:n₀<=w.a.j)
 (hc:w.b ⟨Bs,0,none⟩=some (.c (some ⟨q,0,none⟩))) (T:Fv w q g key room s) (hqg:q<n₀/\g<n₀) :
 vX F n ah 202 #[.c (some ⟨Bs,0,none⟩)] (fun x:Fw=>#[bY x.ay]) (aL n₀) (fun ys=>ys=iw s) (fun pre=>pre <+: iw s) s.a w:=fun l J Jx W hW hJ _ hY h0=>by
 have hc':=(hW.cell (p:=⟨Bs,0,none⟩) Pp).trans hc;exact akd F n hf hro hn l Bs n₀ W.a.j q g key room s J Jx hJ hY W (aO hn₀ hW.j) (av _) hc' (T.go hW) hqg h0
theorem abQ(gf:Nat)(lb:Array aB)(eg:∀args w,(callFunc gf args).I ah w=.ok (.enter gf args) w)(l ys:List Fw)(room:Int)(hl:vI room l)(hp:ys.Perm l)(N:Nat)(hN:N<=100000)(hyN:ys.a<=100000)(w:ak)(hseq:vX nG 5 ah gf lb (fun x:Fw=>#[bY x.ay]) (aL w.a.j) (fun zs=>zs=ys) (fun pre=>pre <+: ys) N w):
 aQ ah 131 #[.func (.func gf) #[] lb,.func (.func 117) #[] #[]] w fun e W'=>
  ∃A' c',e=.a (.a A' l.a c')/\W'.c w.a.j 86 41 (.a A' l.a c') l.a (l.h fun x=>x.ay.a)/\aL w.a.j w W':=by
 have CO:=ab (Yh gf lb eg (fun zs=>zs=ys) (fun pre=>pre <+: ys) N hN w hseq);have SO:=ab (fun(W:ak) (A:Option aS) (c:Nat) h=>K6 l ys room hl hp (by omega) W w.a.j A c h);have HP:=ab hp.length_eq;clear hseq hl hp;go_enter Tryz.func131,Tryz.ntmps131;go_wp2_with fail;refine CO.i.g ?_;rintro e w1 ⟨zs,hzs,A1,c1,rfl,ho,hb⟩;rw[hzs]at ho ⊢;have SO1:=ab (SO.i w1 A1 c1 ho);have HB:=ab hb;have HO:=ab ho;clear hb ho SO CO hzs;obtain⟨m,hm⟩:=dw ys.a;rw[<-hm]at HO SO1 HP ⊢;clear hm;go_wp2_with fail;refine SO1.i.g ?_;rintro e w2 ⟨rfl,ho2,hg⟩;have H2:=ab ho2;have HG:=ab hg;clear ho2 hg;go_wp2;go_ret;have h1:=H2.i;have h2:=HP.i;exact⟨A1,c1,by rw[<-h2];rfl,by rw[<-h2];exact h1,WO HB.i HO.i (av _) (av _) HG.i⟩
theorem agJ(T:Ky W q g key room s l):
 aQ ah 65 #[.c (some ⟨q,0,none⟩)] W fun e w'=>∃A' c',e=.a (.a A' l.a c')/\w'.c W.a.j 86 41 (.a A' l.a c') l.a (l.h fun x=>x.ay.a)/\aL W.a.j W w':=by
 have w1s:=(dJ.new W #[.c (some ⟨q,0,none⟩)] 121)
 have hB1:aL W.a.j W (W.alloc (.D #[.c (some ⟨q,0,none⟩)] 121)):=(aH _ _).alloc (av _) _;have T1:=T.w.go hB1;have hs:=T.w.sz;have hlt:=T.w.lt;have hsz:(W.alloc (.D #[.c (some ⟨q,0,none⟩)] 121)).a.j=W.a.j+1:=by simp
 have SQ:=ab (aej nG 5 trivial rfl (by omega) W.a.j (W.alloc (.D #[.c (some ⟨q,0,none⟩)] 121)).a.j (W.alloc (.D #[.c (some ⟨q,0,none⟩)] 121)) w1s.lt (av _) (w1s.K.1 0) T1 (by rw[hsz];omega));have VA:=ab (Qg q W);generalize hw:W.alloc (.D #[.c (some ⟨q,0,none⟩)] 121)=w1 at *;have SF:=ab (abQ 202 #[.c (some ⟨W.a.j,0,none⟩)] (fun args w=>rfl) l (iw s) room T.ok T.r.Pb s.a hs.2 (by have:=ET s;omega) w1 SQ.i);have HB1:=ab hB1;clear hw w1s hB1 SQ T T1 hs hlt hsz;go_enter Tryz.func65,Tryz.ntmps65;go_wp2_with fail;refine VA.i.g ?_;rintro e w2 ⟨rfl,rfl⟩;go_wp2_with fail;refine SF.i.g ?_;rintro e w2 ⟨A1,c1,rfl,ho,hb⟩;have HO:=ab ho;have HB:=ab hb;clear ho hb;obtain⟨m,hm⟩:=dw l.a;rw[<-hm]at HO ⊢;have HM:=ab hm;clear hm;go_wp2;go_ret;obtain rfl:=HM.i;have h1:=HB1.i;have h2:=HB.i;exact⟨A1,c1,rfl,iG HO.i h1.j,⟨h2.os.trans h1.os,h2.tape.trans h1.tape,h2.output.trans h1.output,aO h1.j h2.j,fun k hk=>(h2.block k (eO hk h1.j)).trans (h1.block k hk)⟩⟩
end
end Go.Proofs.YtkjojjopamaoiaaGreat
