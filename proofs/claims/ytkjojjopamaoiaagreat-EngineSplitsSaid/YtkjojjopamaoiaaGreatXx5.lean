/- Parts. -/
import Derived.Test.YtkjojjopamaoiaaGreatXx4
import Derived.Shelf.SlSortCmp.NoneTotal
import Derived.Lib.BytesEntry
import Derived.Shelf.Bits.Mul64
set_option linter.unusedSimpArgs false
set_option linter.unusedVariables false
set_option linter.unusedSectionVars false
set_option maxRecDepth 100000
set_option maxHeartbeats 8000000
open Array renaming range->lW,ext'->oZ,toList_range->j5,length_toList->aZ,getElem?_append->aG,getElem?_toList->dD,getElem?_extract->dx,size_append->nW,ext_getElem?->dV,getElem?_setIfInBounds->dO,extract_append->dA,mapM->iB,setIfInBounds_append->aM,getElem?_eq_none->aV,getElem?_eq_getElem->fq,getElem?_eq_some_iff->bW,getElem?_modify->zZ
open BitVec renaming ofInt->fU,ofNat->IC,ofInt_natCast->lU,toNat_ofNat->nG
open Bool renaming and_eq_true->bl,false_eq_true->jH,not_eq_true'->om,or_eq_true->nE
open Go renaming World->au,run_underlying->dJ,Value->aC,Addr->aU,Ending->kX,Calls->aR,TypeId->bM,info_parts->Dc,setRow_other->oP,Oper->iV,Act->re,Exit->Aq,Operand->pQ,wpList_plain->tu,Field->nV
open Go.Extern.Bytes renaming bytesOf->uG
open Go.Instr renaming buildSlice->bJ,fill->fB,loadAt->bZ,storeAt->eD,build->fJ,makeSlice->yh
open Go.IntKind renaming i64->bU,wrap->vR,bits->nS,signed->lT,u64->jr
open Go.Lib renaming hid->ah
open Go.Obj renaming cells->eB
open Go.Op renaming bytesLess->bT
open Go.Oper renaming wp->nD,semAt_some->qC
open Go.Proofs.Tryz renaming prog->aj,underlying56->dw,underlying189->pF,underlying192->pE,underlying70->oq,underlying213->uF,underlying207->Ed,underlying280->Ee,underlying0->IE,zeroValue0->Km,underlying3->gQ,zeroValue3->Kn,underlying4->nO,zeroValue4->Ko,underlying5->lD,underlying9->iL,isAgg9->Mt,sizeOf9->I6,zeroValue9->Ca,underlying155->Ef,underlying86->mX
open Go.Region renaming wanted->fC
open Go.Result renaming andThen->iD
open Go.RowKit renaming Below->aN
open Go.Sem renaming run_bind->jK,run_pure->ou,run->Kk
open Go.Sort renaming size_flatK->yw
open Go.Value renaming cells->cu,ownBlock->jW,slice->bE,int->aJ,oneCell'->cK,agg->bY,bool->bQ,string->jc
open Go.World renaming frozen?->sF,setRow->r9
open Int renaming toNat_natCast->dQ
open List renaming getD_eq_getElem?_getD->av,getElem?_take_of_lt->ig,map_cons->kL,map_nil->pR,append_assoc->dB,getElem?_append_left->mP,getElem?_take->jg,getElem?_append_right->rG,getElem?_drop->jf,ext_getElem?->iI,getElem?_eq_getElem->aD,getElem?_eq_none->aT,drop_of_length_le->iR,length_drop->jA,length_take->bK,length_map->bR,flatMap_cons->iJ,length_append->aS,nil_append->dG,length_set->aW,mem_append->qB,mem_singleton->fO,mem_map->iQ,take_zero->jZ,getElem?_map->jD,map_take->Bf,getElem?_append->kR,range->dW,take_of_length_le->aL,drop_drop->Mr,mem_cons->bD,pairwise_map->zI,map_map->I4,map_congr_left->Db,findIdx?_eq_some_iff_getElem->gV,getElem_mem->eO,getElem?_set->fG,mem_filter->mh,length_cons->bC,not_mem_nil->fK,all_eq_true->gH,mem_iff_getElem->kS,pairwise_iff_getElem->fQ,any_eq_false->qy,mem_take_iff_getElem->rW,mem_range->eH,take_succ_eq_append_getElem->dP,take_take->vY,foldl_cons->jV,replicate->dU,length_replicate->oU
open Nat renaming mod_eq_of_lt->fM,le_refl->ay,mul_one->gF,zero_add->bB,min->qA,le_trans->aP,shiftLeft_eq->mF,add_assoc->ny,add_zero->nI,eq_zero_or_pos->dX,mod_lt->fD,lt_or_ge->bf,mul_comm->DC,mul_le_mul_right->cZ,lt_of_lt_of_le->eU,mul_le_mul->gU
open Option renaming map_some->ni,getD_some->jy
open UInt8 renaming ofNat->aK
open Vector renaming replicate->bG
namespace Go.Proofs.YtkjojjopamaoiaaGreat
open Go.RowKit
def psB(s d:fu)(p n:Nat):List UInt8:=
 if s.j6=true then s.b.toList.take 16++d.b.toList.take 16++[0,0,aK (n/256),aK (n%256),0,0,0,aK p]
 else s.b.toList.take 4++d.b.toList.take 4++[0,aK p,aK (n/256),aK (n%256)]
theorem asQ(s d:fu)(p n:Nat):(psB s d p n).length<=40:=by unfold psB;split<;>simp
theorem Ao(a:fu)(k:Nat)(hk:k<=16):(a.b.toList.take k).length=k/\∀i,i<k->a.aA[1+i]? = some (bv ((a.b.toList.take k).getD i 0)):=by
 refine⟨by simp;omega,fun i hi=>?_⟩;rw[Nat.add_comm 1 i,fu.EU _ i (by omega)];simp[av,ig hi]
theorem zG(n:Nat)(h:n<=255):((aK n).toNat:Int)=(n:Int):=by rw[UInt8.toNat_ofNat',fM (by omega)]
@[go_sem]theorem axz(w:au)(a0 a1 a2 a3:Int):(Cu 4 #[(0,.int .u8 a0),(1,.int .u8 a1),(2,.int .u8 a2),(3,.int .u8 a3)]).run aj w=.ok (.slice (some ⟨w.heap.size,0,none⟩) 4 4) (w.alloc (.cells #[.int .u8 a0,.int .u8 a1,.int .u8 a2,.int .u8 a3] 5)):=by
 obtain⟨i0,oz,mZ,nu,wX⟩:=zV;have hr:lW 4 = #[0,1,2,3]:=by apply oZ;rw[j5];rfl
 simp[Cu,bJ,dJ dw,zeroValue,sizeOf,typeInfo,oz,mZ,nu,fB,newRow,cu,hr]
@[go_sem]theorem axA(w:au)(a0 a1 a2 a3 a4 a5 a6 a7:Int):(Cu 8 #[(0,.int .u8 a0),(1,.int .u8 a1),(2,.int .u8 a2),(3,.int .u8 a3),(4,.int .u8 a4),(5,.int .u8 a5),(6,.int .u8 a6),(7,.int .u8 a7)]).run aj w=.ok (.slice (some ⟨w.heap.size,0,none⟩) 8 8) (w.alloc (.cells #[.int .u8 a0,.int .u8 a1,.int .u8 a2,.int .u8 a3,.int .u8 a4,.int .u8 a5,.int .u8 a6,.int .u8 a7] 5)):=by
 obtain⟨i0,oz,mZ,nu,wX⟩:=zV;have hr:lW 8 = #[0,1,2,3,4,5,6,7]:=by apply oZ;rw[j5];rfl
 simp[Cu,bJ,dJ dw,zeroValue,sizeOf,typeInfo,oz,mZ,nu,fB,newRow,cu,hr]
theorem asR(p n:Nat)(hp:p<=255)(hn:n<=65535)(wr:au):gy (wr.alloc (.cells #[.int .u8 0,.int .u8 0,.int .u8 ((n:Int)/256),.int .u8 ((n:Int)%256),.int .u8 0,.int .u8 0,.int .u8 0,.int .u8 p] 5)) (wr.heap.size+1) (some ⟨wr.heap.size,0,none⟩) 8 [0,0,aK (n/256),aK (n%256),0,0,0,aK p]:=
 Xy wr #[.int .u8 0,.int .u8 0,.int .u8 ((n:Int)/256),.int .u8 ((n:Int)%256),.int .u8 0,.int .u8 0,.int .u8 0,.int .u8 p] [0,0,aK (n/256),aK (n%256),0,0,0,aK p] (by
  simp only[kL,pR,bv];rw[zG _ hp,zG (n/256) (by omega),zG (n%256) (by omega)];rfl)
theorem axB(p n:Nat)(hp:p<=255)(hn:n<=65535)(wr:au):gy (wr.alloc (.cells #[.int .u8 0,.int .u8 p,.int .u8 ((n:Int)/256),.int .u8 ((n:Int)%256)] 5)) (wr.heap.size+1) (some ⟨wr.heap.size,0,none⟩) 4 [0,aK p,aK (n/256),aK (n%256)]:=
 Xy wr #[.int .u8 0,.int .u8 p,.int .u8 ((n:Int)/256),.int .u8 ((n:Int)%256)] [0,aK p,aK (n/256),aK (n%256)] (by
  simp only[kL,pR,bv];rw[zG _ hp,zG (n/256) (by omega),zG (n%256) (by omega)];rfl)
theorem Zg(s d:fu)(p n:Nat)(hp:p<=255)(hn:n<=65535)(w:au):aR aj 259 #[.agg s.aA,.agg d.aA,.int .i64 p,.int .i64 n] w (LC w (psB s d p n)):=by
 have aIn:=ah (asR p n hp hn);have PR4:=ah (axB p n hp hn);have h0:=((Ly.nil (w:=w)).new s.aA 27).new d.aA 27;rw[show(w.alloc (.cells s.aA 27)).heap.size=w.heap.size+1 by simp]at h0;have S0:=ah h0;clear h0;obtain⟨q1,q2,q3,q4⟩:=S0.out.b1.aI;obtain⟨p1,p2,p3,p4⟩:=S0.out.b0.aI;have x0:=fu.qH s;obtain⟨b6,NH⟩:∃b,s.j6=b:=⟨_,rfl⟩
 have H6:=ah NH;rw[NH]at x0;clear NH;have n0:(0:Int)<=n:=by omega
 have n1:(n:Int)<=65535:=by omega
 have n2:(0:Int)<=p:=by omega
 have n3:(p:Int)<=255:=by omega
 cases b6
 ·have Ht:=ah (show([]:List UInt8).length=0 from rfl)
  obtain⟨ls,nP⟩:∃l,l=s.b.toList.take 4:=⟨_,rfl⟩
  obtain⟨ld,Yz⟩:∃l,l=d.b.toList.take 4:=⟨_,rfl⟩
  have LS:=ah (show ls.length=4 by rw[nP];exact(Ao s 4 (by omega)).1);have LD:=ah (show ld.length=4 by rw[Yz];exact(Ao d 4 (by omega)).1);have CS:=ah (show∀i,i<4->s.aA[1+i]? = some (bv (ls.getD i 0))by rw[nP];exact(Ao s 4 (by omega)).2);have CD:=ah (show∀i,i<4->d.aA[1+i]? = some (bv (ld.getD i 0))by rw[Yz];exact(Ao d 4 (by omega)).2);have HT:=ah (show psB s d p n=ls++ld++[0,aK p,aK (n/256),aK (n%256)]by rw[nP,Yz];unfold psB;rw[H6.out];rfl);clear nP Yz;go_enter Tryz.func259,Tryz.ntmps259;go_wp2;clear q1 q2 q3 q4 p1 p2 p3 p4;go_loopw [9,11] (fun sr si wr=>∃(i:Nat)(A':Option aU)(m' c':Nat),i<=4/\si=.int .i64 i/\sr=.slice A' m' c'/\Ly w.heap.size [(w.heap.size+1,d.aA),(w.heap.size,s.aA)] w wr (.slice A' m' c') ([]++ls.take i)) (fun _ si _=>4-(intOf si).toNat)
  case atStart=>exact⟨0,_,_,_,by omega,rfl,rfl,by simpa using S0.out⟩
  case round=>
   obtain⟨i,A',m',c',hi,rfl,rfl,h⟩:=hrel;have HO:=ah h;clear h;by_cases fP:i<4
   ·have Cc:(i:Int)<4:=by omega
    obtain⟨q1,q2,q3,q4⟩:=HO.out.b1.aI;have hlq:=HO.out.b1.lt;have hc:=CS.out i fP;obtain⟨u,hu⟩:∃u,ls.getD i 0=u:=⟨_,rfl⟩
    rw[hu]at hc;unfold bv at hc;have HS:=ah (yc ls i (by rw[LS.out];exact fP));rw[hu]at HS;have L1:=ah (HO.out.alloc (.cells #[.int .u8 (u.toNat:Int)] 5));have R1:=ah (Fv wr u _ rfl);have NI:=ah (show([]++ls.take i).length+1<=1000000000 by rw[aS,bK,Ht.out,LS.out];omega);go_wp2_with (at_builtin;refine kr rfl (.tmp 20) (.tmp 25) rfl rfl L1.out.o rfl R1.out NI.out ?_;intro A5 n5 c5 w5 h2 h3;have L2:=ah (L1.out.step h3);clear h2 h3);go_roundw
    case rel=>exact⟨i+1,A5,n5,c5,by omega,by go_num,rfl,by rw[HS.out,<-dB];exact L2.out⟩
    case measure=>simp[intOf]<;>omega
   ·have UL:¬(i:Int)<4:=by omega
    have HF:=ah (show ls.take i=ls from aL (by rw[LS.out];omega));rw[HF.out]at HO;clear HF;rw[dG]at HO;clear Ht S0;obtain⟨bs2,Lm⟩:∃b,b=ls:=⟨_,rfl⟩
    have Ht:=ah (show bs2.length=4 by rw[Lm,LS.out]);rw[<-Lm]at HO HT;clear Lm;go_wp2;clear UL hi fP;go_loopw [9,12] (fun sr si wr=>∃(i:Nat)(A':Option aU)(m' c':Nat),i<=4/\si=.int .i64 i/\sr=.slice A' m' c'/\Ly w.heap.size [(w.heap.size+1,d.aA),(w.heap.size,s.aA)] w wr (.slice A' m' c') (bs2++ld.take i)) (fun _ si _=>4-(intOf si).toNat)
    case atStart=>exact⟨0,_,_,_,by omega,rfl,rfl,by simpa using HO.out⟩
    case round=>
     obtain⟨i,A',m',c',hi,rfl,rfl,h⟩:=hrel;have HO:=ah h;clear h;by_cases fP:i<4
     ·have Cc:(i:Int)<4:=by omega
      obtain⟨q1,q2,q3,q4⟩:=HO.out.b0.aI;have hlq:=HO.out.b0.lt;have hc:=CD.out i fP;obtain⟨u,hu⟩:∃u,ld.getD i 0=u:=⟨_,rfl⟩
      rw[hu]at hc;unfold bv at hc;have HS:=ah (yc ld i (by rw[LD.out];exact fP));rw[hu]at HS;have L1:=ah (HO.out.alloc (.cells #[.int .u8 (u.toNat:Int)] 5));have R1:=ah (Fv wr u _ rfl);have NI:=ah (show(bs2++ld.take i).length+1<=1000000000 by rw[aS,bK,Ht.out,LD.out];omega);go_wp2_with (at_builtin;refine kr rfl (.tmp 32) (.tmp 37) rfl rfl L1.out.o rfl R1.out NI.out ?_;intro A5 n5 c5 w5 h2 h3;have L2:=ah (L1.out.step h3);clear h2 h3);go_roundw
      case rel=>exact⟨i+1,A5,n5,c5,by omega,by go_num,rfl,by rw[HS.out,<-dB];exact L2.out⟩
      case measure=>simp[intOf]<;>omega
     ·have UL:¬(i:Int)<4:=by omega
      have HF:=ah (show ld.take i=ld from aL (by rw[LD.out];omega));rw[HF.out]at HO;clear HF;obtain⟨bs3,Nj⟩:∃b,b=bs2++ld:=⟨_,rfl⟩
      have PI:=ah (show bs3.length=8 by rw[Nj,aS,Ht.out,LD.out]);rw[<-Nj]at HO HT;clear Nj;obtain⟨q1,q2,q3,q4⟩:=HO.out.b1.aI;have L4:=ah (HO.out.alloc (.cells #[.int .u8 0,.int .u8 p,.int .u8 ((n:Int)/256),.int .u8 ((n:Int)%256)] 5));have R4:=ah (PR4.out wr);have HL4:=ah (show bs3.length+4<=1000000000 by rw[PI.out];omega);go_wp2_with (at_builtin;refine kr rfl (.tmp 52) (.tmp 61) rfl rfl L4.out.o rfl R4.out HL4.out ?_;intro A5 n5 c5 w5 h2 h3;have L5:=ah (L4.out.step h3);clear h2 h3);go_ret;rw[<-HT.out]at L5;have ho:=L5.out.o;obtain⟨A9,c9,e9⟩:=ho.Dr;injection e9 with e9 e10 e11
      subst e10;exact⟨A5,_,c5,rfl,rfl,ho.vU,ho.dF⟩
 ·have Ht:=ah (show([]:List UInt8).length=0 from rfl)
  obtain⟨ls,nP⟩:∃l,l=s.b.toList.take 16:=⟨_,rfl⟩
  obtain⟨ld,Yz⟩:∃l,l=d.b.toList.take 16:=⟨_,rfl⟩
  have LS:=ah (show ls.length=16 by rw[nP];exact(Ao s 16 (by omega)).1);have LD:=ah (show ld.length=16 by rw[Yz];exact(Ao d 16 (by omega)).1);have CS:=ah (show∀i,i<16->s.aA[1+i]? = some (bv (ls.getD i 0))by rw[nP];exact(Ao s 16 (by omega)).2);have CD:=ah (show∀i,i<16->d.aA[1+i]? = some (bv (ld.getD i 0))by rw[Yz];exact(Ao d 16 (by omega)).2);have HT:=ah (show psB s d p n=ls++ld++[0,0,aK (n/256),aK (n%256),0,0,0,aK p]by rw[nP,Yz];unfold psB;rw[H6.out];rfl);clear nP Yz;go_enter Tryz.func259,Tryz.ntmps259;go_wp2;clear q1 q2 q3 q4 p1 p2 p3 p4;go_loopw [9,11] (fun sr si wr=>∃(i:Nat)(A':Option aU)(m' c':Nat),i<=16/\si=.int .i64 i/\sr=.slice A' m' c'/\Ly w.heap.size [(w.heap.size+1,d.aA),(w.heap.size,s.aA)] w wr (.slice A' m' c') ([]++ls.take i)) (fun _ si _=>16-(intOf si).toNat)
  case atStart=>exact⟨0,_,_,_,by omega,rfl,rfl,by simpa using S0.out⟩
  case round=>
   obtain⟨i,A',m',c',hi,rfl,rfl,h⟩:=hrel;have HO:=ah h;clear h;by_cases fP:i<16
   ·have Cc:(i:Int)<16:=by omega
    obtain⟨q1,q2,q3,q4⟩:=HO.out.b1.aI;have hlq:=HO.out.b1.lt;have hc:=CS.out i fP;obtain⟨u,hu⟩:∃u,ls.getD i 0=u:=⟨_,rfl⟩
    rw[hu]at hc;unfold bv at hc;have HS:=ah (yc ls i (by rw[LS.out];exact fP));rw[hu]at HS;have L1:=ah (HO.out.alloc (.cells #[.int .u8 (u.toNat:Int)] 5));have R1:=ah (Fv wr u _ rfl);have NI:=ah (show([]++ls.take i).length+1<=1000000000 by rw[aS,bK,Ht.out,LS.out];omega);go_wp2_with (at_builtin;refine kr rfl (.tmp 20) (.tmp 25) rfl rfl L1.out.o rfl R1.out NI.out ?_;intro A5 n5 c5 w5 h2 h3;have L2:=ah (L1.out.step h3);clear h2 h3);go_roundw
    case rel=>exact⟨i+1,A5,n5,c5,by omega,by go_num,rfl,by rw[HS.out,<-dB];exact L2.out⟩
    case measure=>simp[intOf]<;>omega
   ·have UL:¬(i:Int)<16:=by omega
    have HF:=ah (show ls.take i=ls from aL (by rw[LS.out];omega));rw[HF.out]at HO;clear HF;rw[dG]at HO;clear Ht S0;obtain⟨bs2,Lm⟩:∃b,b=ls:=⟨_,rfl⟩
    have Ht:=ah (show bs2.length=16 by rw[Lm,LS.out]);rw[<-Lm]at HO HT;clear Lm;go_wp2;clear UL hi fP;go_loopw [9,12] (fun sr si wr=>∃(i:Nat)(A':Option aU)(m' c':Nat),i<=16/\si=.int .i64 i/\sr=.slice A' m' c'/\Ly w.heap.size [(w.heap.size+1,d.aA),(w.heap.size,s.aA)] w wr (.slice A' m' c') (bs2++ld.take i)) (fun _ si _=>16-(intOf si).toNat)
    case atStart=>exact⟨0,_,_,_,by omega,rfl,rfl,by simpa using HO.out⟩
    case round=>
     obtain⟨i,A',m',c',hi,rfl,rfl,h⟩:=hrel;have HO:=ah h;clear h;by_cases fP:i<16
     ·have Cc:(i:Int)<16:=by omega
      obtain⟨q1,q2,q3,q4⟩:=HO.out.b0.aI;have hlq:=HO.out.b0.lt;have hc:=CD.out i fP;obtain⟨u,hu⟩:∃u,ld.getD i 0=u:=⟨_,rfl⟩
      rw[hu]at hc;unfold bv at hc;have HS:=ah (yc ld i (by rw[LD.out];exact fP));rw[hu]at HS;have L1:=ah (HO.out.alloc (.cells #[.int .u8 (u.toNat:Int)] 5));have R1:=ah (Fv wr u _ rfl);have NI:=ah (show(bs2++ld.take i).length+1<=1000000000 by rw[aS,bK,Ht.out,LD.out];omega);go_wp2_with (at_builtin;refine kr rfl (.tmp 32) (.tmp 37) rfl rfl L1.out.o rfl R1.out NI.out ?_;intro A5 n5 c5 w5 h2 h3;have L2:=ah (L1.out.step h3);clear h2 h3);go_roundw
      case rel=>exact⟨i+1,A5,n5,c5,by omega,by go_num,rfl,by rw[HS.out,<-dB];exact L2.out⟩
      case measure=>simp[intOf]<;>omega
     ·have UL:¬(i:Int)<16:=by omega
      have HF:=ah (show ld.take i=ld from aL (by rw[LD.out];omega));rw[HF.out]at HO;clear HF;obtain⟨bs3,Nj⟩:∃b,b=bs2++ld:=⟨_,rfl⟩
      have PI:=ah (show bs3.length=32 by rw[Nj,aS,Ht.out,LD.out]);rw[<-Nj]at HO HT;clear Nj;obtain⟨q1,q2,q3,q4⟩:=HO.out.b1.aI;have L4:=ah (HO.out.alloc (.cells #[.int .u8 0,.int .u8 0,.int .u8 ((n:Int)/256),.int .u8 ((n:Int)%256),.int .u8 0,.int .u8 0,.int .u8 0,.int .u8 p] 5));have R4:=ah (aIn.out wr);have HL4:=ah (show bs3.length+8<=1000000000 by rw[PI.out];omega);go_wp2_with (at_builtin;refine kr rfl (.tmp 41) (.tmp 50) rfl rfl L4.out.o rfl R4.out HL4.out ?_;intro A5 n5 c5 w5 h2 h3;have L5:=ah (L4.out.step h3);clear h2 h3);go_ret;rw[<-HT.out]at L5;have ho:=L5.out.o;obtain⟨A9,c9,e9⟩:=ho.Dr;injection e9 with e9 e10 e11
      subst e10;exact⟨A5,_,c5,rfl,rfl,ho.vU,ho.dF⟩
def sD(l:List UInt8)(k:Nat)(b:List UInt8):List UInt8:=l.take k++b++l.drop (k+b.length)
def PL(n:Nat):List UInt8:=[aK (n/256),aK (n%256)]
theorem Xz(n:Nat):(PL n).length=2:=rfl
theorem FH{l:List UInt8}{k:Nat}{b:List UInt8}(h:k+b.length<=l.length):(sD l k b).length=l.length:=by
 unfold sD;simp;omega
theorem aoV{l:List UInt8}{k:Nat}{b:List UInt8}(h:k+b.length<=l.length)(j:Nat):(sD l k b).getD j 0=if k<=j/\j<k+b.length then b.getD (j-k) 0 else l.getD j 0:=by
 unfold sD;rw[av,av,av,dB];by_cases h1:j<k
 ·rw[mP (by simp;omega),jg,if_pos h1,if_neg (by omega)]
 ·rw[rG (by simp;omega)]
  have e:(l.take k).length=k:=by simp;omega
  rw[e];by_cases h2:j<k+b.length
  ·rw[mP (by omega),if_pos (by omega)]
  ·rw[rG (by omega),if_neg (by omega),jf]
   congr 2;omega
theorem aoW{l:List UInt8}{k:Nat}{b:List UInt8}(h:k+b.length<=l.length){z n:Nat}(hj:z+n<=k\/k+b.length<=z):((sD l k b).drop z).take n=(l.drop z).take n:=by
 apply iI;intro i;rw[jg,jg];by_cases hi:i<n
 ·rw[if_pos hi,if_pos hi,jf,jf]
  have hg:=aoV h (z+i);rw[if_neg (by omega),av,av]at hg;have hl:=FH h;by_cases fP:z+i<l.length
  ·rw[aD fP,aD (by omega)]at hg ⊢
   simpa using hg
  ·rw[aT (by omega),aT (by omega)]
 ·rw[if_neg hi,if_neg hi]
theorem aln{l:List UInt8}{k:Nat}{b:List UInt8}(h:k+b.length<=l.length):((sD l k b).drop k).take b.length=b:=by
 unfold sD;rw[dB,List.drop_append_of_le_length (by simp;omega),iR (by simp;omega)];simp
def DW(p:Int):Nat:=if p=6 then 16 else if p=17 then 6 else 0
def Tx(l:List UInt8)(a:fu)(n:Int):Bool:=(wG l).kind==0&&(a.j6==(wG l).tuple.src.j6&&((wG l).tuple.src.j6||a.mK))&&(decide (0<=n)&&decide (n<=65535))
def aeY(p:Pk)(dst:Bool):Nat:=p.Du.toNat+(if p.tuple.src.j6 then 8 else 12)+(if dst then(if p.tuple.src.j6 then 16 else 4)else 0)
def wH(p:Pk):Nat:=if p.tuple.src.j6 then 16 else 4
def Hu(p:Pk)(dst:Bool):Nat:=p.tK.toNat+(if dst then 2 else 0)
def rw1(l:List UInt8)(p:Pk)(a:fu)(n:Nat)(dst:Bool):List UInt8:=sD (sD (l.take p.Hf.toNat) (aeY p dst) (a.b.toList.take (wH p))) (Hu p dst) (PL n)
def aaK(l:List UInt8)(p:Pk)(dst:Bool):List UInt8:=(l.drop (aeY p dst)).take (wH p)
def rw2(l:List UInt8)(p:Pk)(a:fu)(n:Nat)(dst:Bool):List UInt8:=
 if p.tuple.src.j6 then rw1 l p a n dst else sD (rw1 l p a n dst) (p.Du.toNat+10) (PL (oC (eX l (p.Du.toNat+10)) (aaK l p dst) (a.b.toList.take (wH p))))
def ajp(l:List UInt8)(p:Pk)(a:fu)(n:Nat)(dst:Bool):Nat:=
 oC (oC (eX l (p.tK.toNat+DW p.tuple.aQ)) (aaK l p dst) (a.b.toList.take (wH p))) ((l.drop (Hu p dst)).take 2) (PL n)
def rw3(l:List UInt8)(p:Pk)(a:fu)(n:Nat)(dst:Bool):List UInt8:=
 if p.tuple.aQ=17/\eX l (p.tK.toNat+DW p.tuple.aQ)=0 then rw2 l p a n dst
 else sD (rw2 l p a n dst) (p.tK.toNat+DW p.tuple.aQ) (PL (if p.tuple.aQ=17/\ajp l p a n dst=0 then 65535 else ajp l p a n dst))
def acM(l:List UInt8)(a:fu)(n:Int)(dst:Bool):List UInt8:=if Tx l a n then rw3 l (wG l) a n.toNat dst else []
structure aoX(l:List UInt8)(p:Pk):Prop where
 fam:p.tuple.src.j6=p.tuple.dst.j6
 Du:14<=p.Du
 tK:p.Du+(if p.tuple.src.j6 then 40 else 20)<=p.tK
 pro:p.tuple.aQ=6\/p.tuple.aQ=17
 Hf:p.tK+(if p.tuple.aQ=6 then 20 else 8)<=p.Hf
 len:p.Hf<=l.length
theorem XB(f:Nat):∀(x:Sx)(r:List UInt8),(zu f x r).2=0->(zu f x r).1.src=x.src/\(zu f x r).1.dst=x.dst:=by
 induction f with
 | zero=>
   intro x r h;unfold zu at h ⊢;split
   ·exact⟨rfl,rfl⟩
   ·rename_i h1;rw[if_neg h1]at h;cases h
 | succ f ih=>
   intro x r h;unfold zu at h ⊢;split
   ·exact⟨rfl,rfl⟩
   ·rename_i h1
    rw[if_neg h1]at h;split
    ·rename_i h2;rw[if_pos h2]at h;cases h
    ·rename_i h2;rw[if_neg h2]at h;exact ih _ _ h
theorem ajq{l:List UInt8}(h:(By l).2=0):(By l).1.src.j6=true/\(By l).1.dst.j6=true:=by
 unfold By at h ⊢;split
 ·rename_i h1;rw[if_pos h1]at h;cases h
 ·rename_i h1
  rw[if_neg h1]at h;split
  ·rename_i h2;rw[if_pos h2]at h;cases h
  ·rename_i h2
   rw[if_neg h2]at h;split
   ·rename_i h3;rw[if_pos h3]at h;cases h
   ·rename_i h3
    rw[if_neg h3]at h;obtain⟨a,b⟩:=XB _ _ _ h;rw[a,b];exact⟨rfl,rfl⟩
theorem ajr{l:List UInt8}(h:(AB l).2=0):(AB l).1.src.j6=false/\(AB l).1.dst.j6=false:=by
 unfold AB at h ⊢;split
 ·exact⟨rfl,rfl⟩
 ·rename_i h1;rw[if_neg h1]at h;exact absurd h h1
theorem asS{p:Int}{l:List UInt8}(hp:p=6\/p=17)(h:(JQ p l).2=0):(if p=6 then 20 else 8)<=l.length:=by
 rcases hp with rfl|rfl
 ·rw[auY]at h
  rw[if_pos rfl];by_cases h1:l.length<20
  ·rw[if_pos h1]at h;cases h
  ·omega
 ·rw[aoS]at h
  rw[if_neg (by decide)];by_cases h1:l.length<8
  ·rw[if_pos h1]at h;cases h
  ·omega
theorem PN{l:List UInt8}(h:(wG l).kind=0):aoX l (wG l):=by
 unfold wG at h ⊢;by_cases h1:(mD l).2≠0
 ·rw[if_pos h1]at h;cases h
 rw[if_neg h1]at h ⊢;by_cases h2:(mD l).1.oF≠2048/\(mD l).1.oF≠34525
 ·rw[if_pos h2]at h;cases h
 rw[if_neg h2]at h ⊢;by_cases h3:(mQ l).2≠0
 ·rw[if_pos h3]at h;cases h
 rw[if_neg h3]at h ⊢;by_cases h4:(mQ l).1.oM=true
 ·rw[if_pos h4]at h;cases h
 rw[if_neg h4]at h ⊢;by_cases h5:(mQ l).1.aQ≠6/\(mQ l).1.aQ≠17
 ·rw[if_pos h5]at h;cases h
 rw[if_neg h5]at h ⊢;by_cases h6:(Ng l).2≠0
 ·rw[if_pos h6]at h;cases h
 rw[if_neg h6];have wJ:=ahz (l:=l) (by omega);have h3':(ipR (mD l).1.oF (l.drop (mD l).1.fE)).2=0:=by simpa[mQ]using h3
 have hip:=aoN h3';rw[jA]at hip;have hp:(mQ l).1.aQ=6\/(mQ l).1.aQ=17:=by omega
 have hpt:=asS hp (l:=(l.take ((mD l).1.fE+(mQ l).1.dz.toNat)).drop ((mD l).1.fE+(mQ l).1.head.toNat)) (by simpa[Ng]using h6);rw[jA,bK]at hpt;have hh:(mQ l).1.head=(ipR (mD l).1.oF (l.drop (mD l).1.fE)).1.head:=rfl;have ht:(mQ l).1.dz=(ipR (mD l).1.oF (l.drop (mD l).1.fE)).1.dz:=rfl;have aCb:(mQ l).1.src.j6=(mQ l).1.dst.j6/\((mQ l).1.src.j6=true->40<=(mQ l).1.head):=by
  unfold mQ ipR;unfold ipR at h3';by_cases h7:(mD l).1.oF=2048
  ·rw[if_pos h7]at h3' ⊢
   have:=ajr h3';exact⟨by simp only[this.1,this.2],fun e=>by simp only[this.1]at e;cases e⟩
  ·rw[if_neg h7]at h3' ⊢
   have:=ajq h3';exact⟨by simp only[this.1,this.2],fun _=>(aoM h3').1⟩
 refine⟨aCb.1,?_,?_,hp,?_,?_⟩
 ·show(14:Int)<=((mD l).1.fE:Nat)
  omega
 ·show((mD l).1.fE:Int)+(if(mQ l).1.src.j6 then 40 else 20)<=((mD l).1.fE:Int)+(mQ l).1.head
  split
  ·have:=aCb.2 ‹_›;omega
  ·omega
 ·show((mD l).1.fE:Int)+(mQ l).1.head+(if(mQ l).1.aQ=6 then 20 else 8)<=((mD l).1.fE:Int)+(mQ l).1.dz
  rcases hp with e|e
  ·rw[if_pos e]at hpt⊢;omega
  ·rw[if_neg (by rw[e];decide)]at hpt⊢;omega
 ·show((mD l).1.fE:Int)+(mQ l).1.dz<=l.length
  omega
theorem Ly.aoY(w w1:au)(hb:aN w.heap.size w w1)(c:Array aC)(l:List UInt8)(k:Nat)(hk:l.length=k)(YU:k<=1000000)(h:c.toList=l.map bv):Ly w.heap.size [] w (w1.alloc (.cells c 5)) (.slice (some ⟨w1.heap.size,0,none⟩) k k) l:=by
 have hc:c.size=k:=by rw[<-aZ,h,bR,hk]
 have h1:(w1.alloc (.cells c 5)).ownsRow w1.heap.size 5 1 (.slice (some ⟨w1.heap.size,0,none⟩) k k) k c.toList:=World.ownsRow_lit w1 c k (ay _) (by unfold maxLen;omega) (by omega);rw[h]at h1;have h2:=hb.alloc hb.size (.cells c 5);subst hk;exact⟨⟨iG h1 hb.size,⟨h2.os,h2.tape,h2.output,h2.size,fun i hi _=>h2.block i hi⟩,.inr ⟨_,rfl,hb.size⟩,ay _,fun k h=>by cases h⟩,fun p hp=>by cases hp⟩
def xk(x:Sx):List UInt8:=[96,0,0,0,aK ((x.dz-40).toNat/256),aK ((x.dz-40).toNat%256),aK x.aQ.toNat,aK x.IU.toNat]++x.src.b.toList++x.dst.b.toList
def qw(n:Int):List UInt8:=[aK (n.toNat/256),aK (n.toNat%256)]
def AJ(t:Tg):List UInt8:=qw t.oF++qw t.tci
def qG(d s:Vector UInt8 6)(fH:List Tg)(ty:Int):List UInt8:=d.toList++s.toList++fH.flatMap AJ++qw ty
def acN(t:Tg):Prop:=(0<=t.oF/\t.oF<=65535)/\0<=t.tci/\t.tci<=65535
theorem FJ(l:List Tg):(l.flatMap AJ).length=4*l.length:=by
 induction l with
 | nil=>rfl
 | cons a l ih=>rw[iJ,aS,ih];simp[AJ,qw];omega
theorem au2(d:Vector UInt8 6)(i:Nat)(hi:i<6):(Bv d)[i]? = some (bv (d.toList.getD i 0)):=by
 simp[Bv,av,hi]
theorem Lc.axD(x:Lc)(i:Nat)(hi:i<6):x.aA[i]? = some (bv (x.dst.toList.getD i 0)):=by
 rw[<-au2 _ i hi];simp[Lc.aA,aG,gG,hi]
theorem Lc.axE(x:Lc)(i:Nat)(hi:i<6):x.aA[6+i]? = some (bv (x.src.toList.getD i 0)):=by
 rw[<-au2 _ i hi];simp[Lc.aA,aG,gG,hi,show¬6+i<6 by omega]
theorem XC(n:Int)(h0:0<=n)(h1:n<=65535):((aK (n.toNat/256)).toNat:Int)=n/256/\((aK (n.toNat%256)).toNat:Int)=n%256:=by
 rw[zG _ (by omega),zG _ (by omega)];omega
theorem axF(n:Int)(h0:0<=n)(h1:n<=65535)(wr:au):gy (wr.alloc (.cells #[.int .u8 (n/256),.int .u8 (n%256)] 5)) (wr.heap.size+1) (some ⟨wr.heap.size,0,none⟩) 2 (qw n):=
 Xy wr #[.int .u8 (n/256),.int .u8 (n%256)] (qw n) (by
  obtain⟨e1,e2⟩:=XC n h0 h1;simp only[qw,kL,pR,bv];rw[e1,e2])
theorem axG(t:Tg)(h:acN t)(wr:au):gy (wr.alloc (.cells #[.int .u8 (t.oF/256),.int .u8 (t.oF%256),.int .u8 (t.tci/256),.int .u8 (t.tci%256)] 5)) (wr.heap.size+1) (some ⟨wr.heap.size,0,none⟩) 4 (AJ t):=
 Xy wr #[.int .u8 (t.oF/256),.int .u8 (t.oF%256),.int .u8 (t.tci/256),.int .u8 (t.tci%256)] (AJ t) (by
  obtain⟨e1,e2⟩:=XC t.oF h.1.1 h.1.2;obtain⟨e3,e4⟩:=XC t.tci h.2.1 h.2.2;simp only[AJ,qw,kL,pR,bv,List.cons_append,dG];rw[e1,e2,e3,e4])
theorem XD(x:Lc)(fH:List Tg)(hf:∀t∈fH,acN t)(hn:fH.length<=1000)(t0:0<=x.oF)(t1:x.oF<=65535)(w:au)(hT:iO Tg.aA 2 w w.heap.size x.Xf x.Fx fH):aR aj 103 #[.agg x.aA] w (LC w (qG x.dst x.src fH x.oF)):=by
 have HT:=ah (show qG x.dst x.src fH x.oF=x.dst.toList++x.src.toList++fH.flatMap AJ++qw x.oF from rfl);have l0:=((Ly.nil (w:=w)).new x.aA 108)
 have S0:=ah l0;clear l0;have hl:=ah hT.len;have hnt:x.Fx<=1000:=by rw[<-hl.out];exact hn
 have HR:=ah hT;have HF:=ah hf;clear hT hf;have Ht:=ah (show([]:List UInt8).length=0 from rfl);have CS:=ah (x.axE);have CD:=ah (x.axD);obtain⟨ls,nP⟩:∃l,l=x.src.toList:=⟨_,rfl⟩
 obtain⟨ld,Yz⟩:∃l,l=x.dst.toList:=⟨_,rfl⟩
 have LS:=ah (show ls.length=6 by rw[nP];simp);have LD:=ah (show ld.length=6 by rw[Yz];simp);rw[<-nP]at HT CS;rw[<-Yz]at HT CD;clear nP Yz;go_enter Tryz.func103,Tryz.ntmps103;go_wp2;go_loopw [3,4] (fun sr si wr=>∃(i:Nat)(A':Option aU)(m' c':Nat),i<=6/\si=.int .i64 i/\sr=.slice A' m' c'/\Ly w.heap.size [(w.heap.size,x.aA)] w wr (.slice A' m' c') ([]++ld.take i)) (fun _ si _=>6-(intOf si).toNat)
 case atStart=>exact⟨0,_,_,_,by omega,rfl,rfl,by simpa using S0.out⟩
 case round=>
  obtain⟨i,A',m',c',hi,rfl,rfl,h⟩:=hrel;have HO:=ah h;clear h;by_cases fP:i<6
  ·have Cc:(i:Int)<6:=by omega
   obtain⟨q1,q2,q3,q4⟩:=HO.out.b0.aI;have hlq:=HO.out.b0.lt;have hc:=CD.out i fP;obtain⟨u,hu⟩:∃u,ld.getD i 0=u:=⟨_,rfl⟩
   rw[hu]at hc;unfold bv at hc;have HS:=ah (yc ld i (by rw[LD.out];exact fP));rw[hu]at HS;have L1:=ah (HO.out.alloc (.cells #[.int .u8 (u.toNat:Int)] 5));have R1:=ah (Fv wr u _ rfl);have NI:=ah (show([]++ld.take i).length+1<=1000000000 by rw[aS,bK,Ht.out,LD.out];omega);go_wp2_with (at_builtin;refine kr rfl (.tmp 12) (.tmp 17) rfl rfl L1.out.o rfl R1.out NI.out ?_;intro A5 n5 c5 w5 h2 h3;have L2:=ah (L1.out.step h3);clear h2 h3);go_roundw
   case rel=>exact⟨i+1,A5,n5,c5,by omega,by go_num,rfl,by rw[HS.out,<-dB];exact L2.out⟩
   case measure=>simp[intOf]<;>omega
  ·have UL:¬(i:Int)<6:=by omega
   have HF:=ah (show ld.take i=ld from aL (by rw[LD.out];omega));rw[HF.out]at HO;clear HF;rw[dG]at HO;clear Ht S0;obtain⟨bs2,Lm⟩:∃b,b=ld:=⟨_,rfl⟩
   have Ht:=ah (show bs2.length=6 by rw[Lm,LD.out]);rw[<-Lm]at HO HT;clear Lm;go_wp2;clear UL hi fP;go_loopw [3,5] (fun sr si wr=>∃(i:Nat)(A':Option aU)(m' c':Nat),i<=6/\si=.int .i64 i/\sr=.slice A' m' c'/\Ly w.heap.size [(w.heap.size,x.aA)] w wr (.slice A' m' c') (bs2++ls.take i)) (fun _ si _=>6-(intOf si).toNat)
   case atStart=>exact⟨0,_,_,_,by omega,rfl,rfl,by simpa using HO.out⟩
   case round=>
    obtain⟨i,A',m',c',hi,rfl,rfl,h⟩:=hrel;have HO:=ah h;clear h;by_cases fP:i<6
    ·have Cc:(i:Int)<6:=by omega
     obtain⟨q1,q2,q3,q4⟩:=HO.out.b0.aI;have hlq:=HO.out.b0.lt;have hc:=CS.out i fP;obtain⟨u,hu⟩:∃u,ls.getD i 0=u:=⟨_,rfl⟩
     rw[hu]at hc;unfold bv at hc;have HS:=ah (yc ls i (by rw[LS.out];exact fP));rw[hu]at HS;have L1:=ah (HO.out.alloc (.cells #[.int .u8 (u.toNat:Int)] 5));have R1:=ah (Fv wr u _ rfl);have NI:=ah (show(bs2++ls.take i).length+1<=1000000000 by rw[aS,bK,Ht.out,LS.out];omega);go_wp2_with (at_builtin;refine kr rfl (.tmp 23) (.tmp 28) rfl rfl L1.out.o rfl R1.out NI.out ?_;intro A5 n5 c5 w5 h2 h3;have L2:=ah (L1.out.step h3);clear h2 h3);go_roundw
     case rel=>exact⟨i+1,A5,n5,c5,by omega,by go_num,rfl,by rw[HS.out,<-dB];exact L2.out⟩
     case measure=>simp[intOf]<;>omega
    ·have UL:¬(i:Int)<6:=by omega
     have HF:=ah (show ls.take i=ls from aL (by rw[LS.out];omega));rw[HF.out]at HO;clear HF;obtain⟨bs3,Nj⟩:∃b,b=bs2++ls:=⟨_,rfl⟩
     have PI:=ah (show bs3.length=12 by rw[Nj,aS,Ht.out,LS.out]);rw[<-Nj]at HO HT;clear Nj Ht;have S3:=HO;clear HO;go_wp2;clear UL hi fP;go_loopw [3,6] (fun sr si wr=>∃(i:Nat)(A':Option aU)(m' c':Nat),i<=x.Fx/\si=.int .i64 i/\sr=.slice A' m' c'/\Ly w.heap.size [(w.heap.size,x.aA)] w wr (.slice A' m' c') (bs3++(fH.take i).flatMap AJ)) (fun _ si _=>x.Fx-(intOf si).toNat)
     case atStart=>exact⟨0,_,_,_,by omega,rfl,rfl,by simpa using S3.out⟩
     case round=>
      obtain⟨i,A',m',c',hi,rfl,rfl,h⟩:=hrel;have HO:=ah h;clear h S3;obtain⟨q1,q2,q3,q4⟩:=HO.out.b0.aI;by_cases fP:i<x.Fx
      ·have Cc:(i:Int)<x.Fx:=by omega
       obtain⟨ba,oa,ea,_,t3,t4⟩:=(HR.out.go HO.out.o.dF).fE Tg.ak Us fP;obtain⟨t,ht⟩:∃t,t=fH.getD i Us:=⟨_,rfl⟩
       rw[<-ht]at t4;have HK:=ah (show acN t by rw[ht,av,aD (by rw[hl.out];exact fP)];exact HF.out _ (eO _));have HS:=ah (show(fH.take (i+1)).flatMap AJ=(fH.take i).flatMap AJ++AJ t by rw[ht,dP (by rw[hl.out];exact fP),List.flatMap_append,av,aD (by rw[hl.out];exact fP)];simp);obtain⟨⟨k1,k2⟩,k3,k4⟩:=HK.out;have NI:=ah (show(bs3++(fH.take i).flatMap AJ).length+4<=1000000000 by rw[aS,FJ,bK,PI.out];omega);clear ht;have L1:=ah ((HO.out.alloc (.cells t.aA 268)).alloc (.cells #[.int .u8 (t.oF/256),.int .u8 (t.oF%256),.int .u8 (t.tci/256),.int .u8 (t.tci%256)] 5));have R1:=ah (axG t HK.out (wr.alloc (.cells t.aA 268)));have TB:=ah (dL.new wr t.aA 268);go_upto_region 14 with fail
       obtain⟨y1,y2,y3,y4⟩:=TB.out.aI;generalize wr.alloc (.cells t.aA 268)=wt at *;go_wp2_with (at_builtin;refine kr rfl (.tmp 42) (.tmp 59) rfl rfl L1.out.o rfl R1.out NI.out ?_;intro A5 n5 c5 w5 h2 h3;have L2:=ah (L1.out.step h3);clear h2 h3);go_roundw
       case rel=>exact⟨i+1,A5,n5,c5,by omega,by go_num,rfl,by rw[HS.out,<-dB];exact L2.out⟩
       case measure=>simp[intOf]<;>omega
      ·have UL:¬(i:Int)<x.Fx:=by omega
       have HE:=ah (show fH.take i=fH from aL (by rw[hl.out];omega));rw[HE.out]at HO;have L4:=ah (HO.out.alloc (.cells #[.int .u8 (x.oF/256),.int .u8 (x.oF%256)] 5));have R4:=ah (axF x.oF t0 t1 wr);have HL4:=ah (show(bs3++fH.flatMap AJ).length+2<=1000000000 by rw[aS,FJ,PI.out];omega);clear HE;go_wp2_with (at_builtin;refine kr rfl (.tmp 61) (.tmp 70) rfl rfl L4.out.o rfl R4.out HL4.out ?_;intro A5 n5 c5 w5 h2 h3;have L5:=ah (L4.out.step h3);clear h2 h3);go_ret;rw[<-HT.out]at L5;have ho:=L5.out.o;obtain⟨A9,c9,e9⟩:=ho.Dr;injection e9 with e9 e10 e11
       subst e10;exact⟨A5,_,c5,rfl,rfl,ho.vU,ho.dF⟩
theorem Ly.at0{B:Nat}{L:List (Nat×Array aC)}{w0 W:au}{A:Option aU}{n c:Nat}{bs:List UInt8}(h:Ly B L w0 W (.slice A n c) bs)(hn:0<bs.length):
 n=bs.length/\n<=c/\∃g,A=some ⟨g,0,none⟩/\(∀j,j<bs.length->W.cell? ⟨g,j,none⟩=some (bv (bs.getD j 0)))/\(∀j,W.frozen? ⟨g,j,none⟩=false):=by
 obtain⟨h1,h2⟩:=h.o.vU;rcases h2 with⟨e,e2⟩|⟨g,cap,cur,e,hg,hh,hle,hm,hs,ht⟩
 ·omega
 ·injection e with e1 e2 e3
  subst e1 e2 e3;refine⟨rfl,hle,g,rfl,fun j hj=>?_,fun j=>by simp[sF,hh]⟩;rw[cell_of_row W g j cur _ (0,0) hh];have:(bs.map bv)[j]? = some (bv (bs.getD j 0)):=by simp[av,hj]
  rw[<-this,<-ht,ig (by omega),dD]
theorem Ly.ahD{B:Nat}{L:List (Nat×Array aC)}{w0 W:au}{g n c:Nat}{bs:List UInt8}(h:Ly B L w0 W (.slice (some ⟨g,0,none⟩) n c) bs)(j:Nat)(b:UInt8):Ly B L w0 (W.setCell ⟨g,j,none⟩ (bv b)) (.slice (some ⟨g,0,none⟩) n c) (bs.set j b):=by
 obtain⟨A9,c9,e9⟩:=h.o.Dr;injection e9 with e9 e10 e11
 subst e10;obtain⟨g1,g2⟩:=h.o.vU.stored j (bv b);refine⟨⟨by rw[aW,List.map_set];exact g1,awG h.o.gr (.inr ?_) _,h.o.wP,h.o.hB,h.o.gb⟩,fun p hp=>⟨(h.bx p hp).1.dM _ _ (fun e=>(h.bx p hp).2 (by rw[<-e];rfl)),(h.bx p hp).2⟩⟩;rcases h.o.wP with e|⟨k,e,e2⟩
 ·cases e
 ·injection e with e
  subst e;exact e2
def DX(x:Fo):List UInt8:=[69,aK x.Qp.toNat,aK (x.dz.toNat/256),aK (x.dz.toNat%256),aK (x.id.toNat/256),aK (x.id.toNat%256),(if x.keep then 64 else 0),0,aK x.MX.toNat,aK x.aQ.toNat,0,0]++x.src.b.toList.take 4++x.dst.b.toList.take 4
def ae0(l:List UInt8):List UInt8:=(l.set 10 (aK (xE l/256))).set 11 (aK (xE l%256))
def uf(x:Fo):List UInt8:=ae0 (DX x)
theorem Fo.OP(x:Fo)(i:Nat)(hi:i<16):x.aA[9+i]? = some (bv (x.src.b.toList.getD i 0)):=by
 rw[<-fu.EU _ i hi];have:i+1<17:=by omega
 simp[Fo.aA,aG,fu.ak,show 9+i-8=i+1 by omega,show¬9+i<8 by omega,this]
theorem Fo.Mf(x:Fo)(i:Nat)(hi:i<16):x.aA[26+i]? = some (bv (x.dst.b.toList.getD i 0)):=by
 rw[<-fu.EU _ i hi];simp[Fo.aA,aG,fu.ak,show¬26+i<8 by omega,show¬26+i-8<17 by omega,show 26+i-8-17=i+1 by omega]
theorem au4(l:List UInt8)(i:Nat)(hi:i<4):(l.take 4).getD i 0=l.getD i 0:=by
 simp[av,ig hi]
@[go_sem]theorem au5(w:au)(a0 a1 a2 a3 a4 a5 a6 a7 a8 a9 a10 a11:Int):(Cu 12 #[(0,.int .u8 a0),(1,.int .u8 a1),(2,.int .u8 a2),(3,.int .u8 a3),(4,.int .u8 a4),(5,.int .u8 a5),(6,.int .u8 a6),(7,.int .u8 a7),(8,.int .u8 a8),(9,.int .u8 a9),(10,.int .u8 a10),(11,.int .u8 a11)]).run aj w=.ok (.slice (some ⟨w.heap.size,0,none⟩) 12 12) (w.alloc (.cells #[.int .u8 a0,.int .u8 a1,.int .u8 a2,.int .u8 a3,.int .u8 a4,.int .u8 a5,.int .u8 a6,.int .u8 a7,.int .u8 a8,.int .u8 a9,.int .u8 a10,.int .u8 a11] 5)):=by
 obtain⟨i0,oz,mZ,nu,wX⟩:=zV;have hr:lW 12 = #[0,1,2,3,4,5,6,7,8,9,10,11]:=by apply oZ;rw[j5];rfl
 simp[Cu,bJ,dJ dw,zeroValue,sizeOf,typeInfo,oz,mZ,nu,fB,newRow,cu,hr]
theorem XE(x:Fo)(s0:0<=x.Qp)(s1:x.Qp<=255)(t0:0<=x.dz)(t1:x.dz<=65535)(i0:0<=x.id)(i1:x.id<=65535)(l0:0<=x.MX)(l1:x.MX<=255)(p0:0<=x.aQ)(p1:x.aQ<=255)(w:au):aR aj 106 #[.agg x.aA] w (LC w (uf x)):=by
 have T:=ah (dL.new w x.aA 192);have HB:=ah ((Below.refl w.heap.size w).alloc (ay _) (.cells x.aA 192));have r0:=(Ly.aoY w _ HB.out #[.int .u8 69,.int .u8 x.Qp,.int .u8 (x.dz/256),.int .u8 (x.dz%256),.int .u8 (x.id/256),.int .u8 (x.id%256),.int .u8 0,.int .u8 0,.int .u8 x.MX,.int .u8 x.aQ,.int .u8 0,.int .u8 0] [69,aK x.Qp.toNat,aK (x.dz.toNat/256),aK (x.dz.toNat%256),aK (x.id.toNat/256),aK (x.id.toNat%256),0,0,aK x.MX.toNat,aK x.aQ.toNat,0,0] 12 rfl (by omega) (by
  obtain⟨e1,e2⟩:=XC x.dz t0 t1;obtain⟨e3,e4⟩:=XC x.id i0 i1;simp only[kL,pR,bv];rw[e1,e2,e3,e4,zG x.Qp.toNat (by omega),zG x.MX.toNat (by omega),zG x.aQ.toNat (by omega),Int.toNat_of_nonneg s0,Int.toNat_of_nonneg l0,Int.toNat_of_nonneg p0];rfl)).add (q:=w.heap.size) (c:=x.aA) (T.out.alloc _) (by rw[show(w.alloc (.cells x.aA 192)).heap.size=w.heap.size+1 by simp];simp[jW])
 rw[show(w.alloc (.cells x.aA 192)).heap.size=w.heap.size+1 by simp]at r0;have S:=ah r0;have HP:=ah (show uf x=ae0 (DX x)from rfl);have CS:=ah (show∀i,i<4->x.aA[9+i]? = some (bv ((x.src.b.toList.take 4).getD i 0))from fun i hi=>by rw[au4 _ i hi];exact x.OP i (by omega));have CD:=ah (show∀i,i<4->x.aA[26+i]? = some (bv ((x.dst.b.toList.take 4).getD i 0))from fun i hi=>by rw[au4 _ i hi];exact x.Mf i (by omega));have HT:=ah (show DX x=[69,aK x.Qp.toNat,aK (x.dz.toNat/256),aK (x.dz.toNat%256),aK (x.id.toNat/256),aK (x.id.toNat%256),(if x.keep then 64 else 0),0,aK x.MX.toNat,aK x.aQ.toNat,0,0]++x.src.b.toList.take 4++x.dst.b.toList.take 4 from rfl);obtain⟨ls,nP⟩:∃l,l=x.src.b.toList.take 4:=⟨_,rfl⟩
 obtain⟨ld,Yz⟩:∃l,l=x.dst.b.toList.take 4:=⟨_,rfl⟩
 have LS:=ah (show ls.length=4 by rw[nP];simp);have LD:=ah (show ld.length=4 by rw[Yz];simp);rw[<-nP]at HT CS;rw[<-Yz]at HT CD;clear nP Yz r0;obtain⟨q1,q2,q3,q4⟩:=T.out.aI;have x5:=x.acq;obtain⟨kp,hkp⟩:∃k,x.keep=k:=⟨_,rfl⟩
 rw[hkp]at x5 HT;clear hkp;go_enter Tryz.func106,Tryz.ntmps106;go_upto_region 2 with fail
 obtain⟨y1,y2,y3,y4⟩:=S.out.b0.aI;obtain⟨_,_,g,eg,c1,c2⟩:=S.out.at0 (by simp);injection eg with eg
 injection eg with eg
 subst eg;clear q1 q2 q3 q4;have c6:=c1 6 (by simp);clear c1;generalize(w.alloc (.cells x.aA 192)).alloc (.cells #[.int .u8 69,.int .u8 x.Qp,.int .u8 (x.dz/256),.int .u8 (x.dz%256),.int .u8 (x.id/256),.int .u8 (x.id%256),.int .u8 0,.int .u8 0,.int .u8 x.MX,.int .u8 x.aQ,.int .u8 0,.int .u8 0] 5)=w2 at *;cases kp
 case' false=>
  go_wp2;have S0:=S;obtain⟨bs,Em⟩:∃bs:List UInt8,bs=[69,aK x.Qp.toNat,aK (x.dz.toNat/256),aK (x.dz.toNat%256),aK (x.id.toNat/256),aK (x.id.toNat%256),0,0,aK x.MX.toNat,aK x.aQ.toNat,0,0]:=⟨_,rfl⟩
  have Ht:=ah (show bs.length=12 by rw[Em];rfl);have HQ:=ah (show DX x=bs++ls++ld by rw[HT.out,Em];rfl);rw[<-Em]at S0
 case' true=>
  go_wp2;have S0:=ah (S.out.ahD 6 64);rw[show bv 64=.int .u8 64 from rfl]at S0;obtain⟨bs,Em⟩:∃bs:List UInt8,bs=[69,aK x.Qp.toNat,aK (x.dz.toNat/256),aK (x.dz.toNat%256),aK (x.id.toNat/256),aK (x.id.toNat%256),64,0,aK x.MX.toNat,aK x.aQ.toNat,0,0]:=⟨_,rfl⟩
  have Ht:=ah (show bs.length=12 by rw[Em];rfl);have HQ:=ah (show DX x=bs++ls++ld by rw[HT.out,Em];rfl);rw[show([69,aK x.Qp.toNat,aK (x.dz.toNat/256),aK (x.dz.toNat%256),aK (x.id.toNat/256),aK (x.id.toNat%256),0,0,aK x.MX.toNat,aK x.aQ.toNat,0,0]:List UInt8).set 6 64=bs by rw[Em];rfl]at S0
 all_goals
  clear HT Em y1 y2 y3 y4 c2 c6 S;go_loopw [3,4] (fun sr si wr=>∃(i:Nat)(A':Option aU)(m' c':Nat),i<=4/\si=.int .i64 i/\sr=.slice A' m' c'/\Ly w.heap.size [(w.heap.size,x.aA)] w wr (.slice A' m' c') (bs++ls.take i)) (fun _ si _=>4-(intOf si).toNat)
  case atStart=>exact⟨0,_,_,_,by omega,rfl,rfl,by simpa using S0.out⟩
  case round=>
   obtain⟨i,A',m',c',hi,rfl,rfl,h⟩:=hrel;have HO:=ah h;clear h;by_cases fP:i<4
   ·have Cc:(i:Int)<4:=by omega
    obtain⟨q1,q2,q3,q4⟩:=HO.out.b0.aI;have hlq:=HO.out.b0.lt;have hc:=CS.out i fP;obtain⟨u,hu⟩:∃u,ls.getD i 0=u:=⟨_,rfl⟩
    rw[hu]at hc;unfold bv at hc;have HS:=ah (yc ls i (by rw[LS.out];exact fP));rw[hu]at HS;have L1:=ah (HO.out.alloc (.cells #[.int .u8 (u.toNat:Int)] 5));have R1:=ah (Fv wr u _ rfl);have NI:=ah (show(bs++ls.take i).length+1<=1000000000 by rw[aS,bK,Ht.out,LS.out];omega);go_wp2_with (at_builtin;refine kr rfl (.tmp 41) (.tmp 47) rfl rfl L1.out.o rfl R1.out NI.out ?_;intro A5 n5 c5 w5 h2 h3;have L2:=ah (L1.out.step h3);clear h2 h3);go_roundw
    case rel=>exact⟨i+1,A5,n5,c5,by omega,by go_num,rfl,by rw[HS.out,<-dB];exact L2.out⟩
    case measure=>simp[intOf]<;>omega
   ·have UL:¬(i:Int)<4:=by omega
    have HF:=ah (show ls.take i=ls from aL (by rw[LS.out];omega));rw[HF.out]at HO;clear HF;obtain⟨bs2,Lm⟩:∃b,b=bs++ls:=⟨_,rfl⟩
    have aCd:=ah (show bs2.length=16 by rw[Lm,aS,Ht.out,LS.out]);rw[<-Lm]at HO HQ;clear Lm S0 Ht;have Ht:=aCd;clear aCd;go_wp2;clear UL hi fP;go_loopw [3,5] (fun sr si wr=>∃(i:Nat)(A':Option aU)(m' c':Nat),i<=4/\si=.int .i64 i/\sr=.slice A' m' c'/\Ly w.heap.size [(w.heap.size,x.aA)] w wr (.slice A' m' c') (bs2++ld.take i)) (fun _ si _=>4-(intOf si).toNat)
    case atStart=>exact⟨0,_,_,_,by omega,rfl,rfl,by simpa using HO.out⟩
    case round=>
     obtain⟨i,A',m',c',hi,rfl,rfl,h⟩:=hrel;have HO:=ah h;clear h;by_cases fP:i<4
     ·have Cc:(i:Int)<4:=by omega
      obtain⟨q1,q2,q3,q4⟩:=HO.out.b0.aI;have hlq:=HO.out.b0.lt;have hc:=CD.out i fP;obtain⟨u,hu⟩:∃u,ld.getD i 0=u:=⟨_,rfl⟩
      rw[hu]at hc;unfold bv at hc;have HS:=ah (yc ld i (by rw[LD.out];exact fP));rw[hu]at HS;have L1:=ah (HO.out.alloc (.cells #[.int .u8 (u.toNat:Int)] 5));have R1:=ah (Fv wr u _ rfl);have NI:=ah (show(bs2++ld.take i).length+1<=1000000000 by rw[aS,bK,Ht.out,LD.out];omega);go_wp2_with (at_builtin;refine kr rfl (.tmp 53) (.tmp 59) rfl rfl L1.out.o rfl R1.out NI.out ?_;intro A5 n5 c5 w5 h2 h3;have L2:=ah (L1.out.step h3);clear h2 h3);go_roundw
      case rel=>exact⟨i+1,A5,n5,c5,by omega,by go_num,rfl,by rw[HS.out,<-dB];exact L2.out⟩
      case measure=>simp[intOf]<;>omega
     ·have UL:¬(i:Int)<4:=by omega
      have HF:=ah (show ld.take i=ld from aL (by rw[LD.out];omega));rw[HF.out]at HO;clear HF;obtain⟨bs3,Nj⟩:∃b,b=bs2++ld:=⟨_,rfl⟩
      have PI:=ah (show bs3.length=20 by rw[Nj,aS,Ht.out,LD.out]);rw[<-Nj]at HO HQ;clear Nj Ht;have CQ:=ah (Xv wr A' m' c' bs3 (by have:=HO.out.o.Dr;obtain⟨A9,c9,e9⟩:=this;injection e9 with e9 e10 e11;rw[e10,PI.out];omega) (DT HO.out.o (Below.refl _ _)));have ND:=ah (show xE bs3<=65535 by unfold xE;omega);have HP2:=ah (show uf x=(bs3.set 10 (aK (xE bs3/256))).set 11 (aK (xE bs3%256))by rw[HP.out,HQ.out];rfl);clear HP HQ;generalize xE bs3=z at *;have z0:(0:Int)<=z:=by omega
      have z1:(z:Int)<=65535:=by have:=ND.out;omega
      go_upto_region 13 with(go_at_call 186;(with_reducible refine CQ.out.mono ?_);rintro e w6 ⟨rfl,hb⟩;have M1:=ah (HO.out.go hb);clear hb)
      clear fP UL hi;obtain⟨YG,Dg,g,rfl,k1,k2⟩:=M1.out.at0 (by rw[PI.out];omega);have m1:(10:Int)<m':=by rw[PI.out]at YG;omega
      have m2:(11:Int)<m':=by rw[PI.out]at YG;omega
      have k10:=k1 10 (by rw[PI.out];omega);have M2:=ah (M1.out.ahD 10 (aK (z/256)));have e1:((aK (z/256)).toNat:Int)=(z:Int)/256:=by rw[zG _ (by have:=ND.out;omega)];omega
      unfold bv at M2;rw[e1]at M2;clear k1 e1;go_upto_region 14 with fail
      generalize w6.setCell ⟨g,10,none⟩ (.int .u8 ((z:Int)/256))=w7 at *;obtain⟨_,_,g',eg,k3,k4⟩:=M2.out.at0 (by rw[aW,PI.out];omega);injection eg with eg
      injection eg with eg
      subst eg;have k11:=k3 11 (by rw[aW,PI.out];omega);have M3:=ah (M2.out.ahD 11 (aK (z%256)));have e2:((aK (z%256)).toNat:Int)=(z:Int)%256:=by rw[zG _ (by omega)];omega
      unfold bv at M3;rw[e2]at M3;clear k3 e2 k2 k10;go_wp2;go_ret;rw[<-HP2.out]at M3;have ho:=M3.out.o;obtain⟨A9,c9,e9⟩:=ho.Dr;injection e9 with e9 e10 e11
      subst e10;have HLE:bs3.length=(uf x).length:=by rw[HP2.out,aW,aW]
      rw[HLE];exact⟨_,_,_,rfl,rfl,ho.vU,ho.dF⟩
def ao0(a b:fu):Bool:=a.j6==b.j6&&(a.j6||a.mK&&b.mK)
def AL(k:Int)(l:List UInt8):Tn:=
 if k=2048 then⟨(AB l).1.head,(AB l).1.dz,(AB l).1.aQ,(AB l).1.oM,(AB l).2==0⟩
 else if k=34525 then⟨(By l).1.head,(By l).1.dz,(By l).1.aQ,(By l).1.oM,(By l).2==0⟩
 else tq
def ahE(x:Lc)(t:Tu):Lc:={x with oF:=if t.src.j6 then 34525 else 2048}
theorem acO(x:Lc)(t:Tu)(w:au):aR aj 104 #[.agg x.aA,.agg t.aA] w (gP w (.agg (ahE x t).aA)):=by
 have h0:=(((Bx.start w).new x.aA 108).new t.aA 81).new qR.aA 108;rw[show((w.alloc (.cells x.aA 108)).alloc (.cells t.aA 81)).heap.size=w.heap.size+2 by simp,show(w.alloc (.cells x.aA 108)).heap.size=w.heap.size+1 by simp]at h0;have Z:=ah (h0.sub (L':=[(w.heap.size,x.aA),(w.heap.size+1,t.aA),(w.heap.size+2,qR.aA)]) (by simp));clear h0;have pY:=ah (fun p (hp:p∈[(w.heap.size+1,t.aA),(w.heap.size+2,qR.aA)])=>show p.1≠w.heap.size by
  simp at hp;rcases hp with rfl|rfl<;>simp)
 go_enter Tryz.func104,Tryz.ntmps104;go_upto_region 1 with fail
 generalize((w.alloc (.cells x.aA 108)).alloc (.cells t.aA 81)).alloc (.cells qR.aA 108)=w2 at Z ⊢;obtain⟨y1,y2,y3,y4⟩:=Z.out.b0.aI;have Z1:=ah (Z.out.set pY.out 13 (.int .i64 2048));rw[Lc.Ve]at Z1;go_upto_region 2 with fail
 clear y1 y2 y3 y4;generalize w2.setCell ⟨w.heap.size,13,none⟩ (.int .i64 2048)=w3 at Z1 ⊢;obtain⟨x1,x2,x3,x4⟩:=Z1.out.b1.aI;have x0:=Tu.qH t;cases h6:t.src.j6
 ·have H6:=ah h6
  rw[h6]at x0;clear h6;obtain⟨u1,u2,u3,u4⟩:=Z1.out.b0.aI;have th:=Z1.out.b2.there 0 15 (Nat.le_of_eq (Lc.ak qR).symm);have ZP:=ah ((Z1.out.sub (L':=[(w.heap.size+2,qR.aA)]) (by simp)).put (fun p hp=>by cases hp) ({x with oF:=2048}:Lc).aA (by rw[Lc.ak,Lc.ak]));go_wp2;refine bodyPost_ret (kLc.zM rfl _ rfl ZP.out.b0 (Lc.ak _)) rfl ?_;rw[show ahE x t={x with oF:=2048}by unfold ahE;rw[H6.out];rfl];exact⟨rfl,ZP.out.dF⟩
 ·have H6:=ah h6
  rw[h6]at x0;clear h6;obtain⟨y1,y2,y3,y4⟩:=Z1.out.b0.aI;have Z2:=ah (Z1.out.set pY.out 13 (.int .i64 34525));rw[Lc.Ve]at Z2;go_upto_region 4 with fail
  clear y1 y2 y3 y4 x1 x2 x3 x4;generalize w3.setCell ⟨w.heap.size,13,none⟩ (.int .i64 34525)=w4 at Z2 ⊢;obtain⟨u1,u2,u3,u4⟩:=Z2.out.b0.aI;have th:=Z2.out.b2.there 0 15 (Nat.le_of_eq (Lc.ak qR).symm);have ZP:=ah ((Z2.out.sub (L':=[(w.heap.size+2,qR.aA)]) (by simp)).put (fun p hp=>by cases hp) ({x with oF:=34525}:Lc).aA (by rw[Lc.ak,Lc.ak]));go_wp2;refine bodyPost_ret (kLc.zM rfl _ rfl ZP.out.b0 (Lc.ak _)) rfl ?_;rw[show ahE x t={x with oF:=34525}by unfold ahE;rw[H6.out];rfl];exact⟨rfl,ZP.out.dF⟩
section
attribute [local go_sem high] iT jG
def Iw(l:List UInt8)(s d:fu):List UInt8×Int:=
 if(mD l).2≠0 then([],3)
 else if(AL (mD l).1.oF (l.drop (mD l).1.fE)).ok=false then([],3)
 else if ao0 s d=false then([],1)
 else if s.j6=true then
  if(AL (mD l).1.oF (l.drop (mD l).1.fE)).dz>65535 then([],4)
  else(qG (mD l).1.dst (mD l).1.src (mD l).1.fH 34525++xk ⟨40,40+(AL (mD l).1.oF (l.drop (mD l).1.fE)).dz,64,false,0,if(mD l).1.oF=34525 then 41 else 4,s,d⟩++(l.drop (mD l).1.fE).take (AL (mD l).1.oF (l.drop (mD l).1.fE)).dz.toNat,0)
 else if 20+(AL (mD l).1.oF (l.drop (mD l).1.fE)).dz>65535 then([],4)
  else(qG (mD l).1.dst (mD l).1.src (mD l).1.fH 2048++uf ⟨20,20+(AL (mD l).1.oF (l.drop (mD l).1.fE)).dz,0,0,false,true,64,if(mD l).1.oF=34525 then 41 else 4,s,d⟩++(l.drop (mD l).1.fE).take (AL (mD l).1.oF (l.drop (mD l).1.fE)).dz.toNat,0)
def alo(W:au)(r:List UInt8×Int)(e:kX)(W':au):Prop:=∃A n c,e=.returned (.tuple #[.slice A n c,.int .i64 r.2])/\gy W' W'.heap.size A n r.1/\aN W.heap.size W W'
theorem PW(l:List UInt8)(k:Nat):eX l k<=65535:=by
 have h1:=(l.getD k 0).toNat_lt;have h2:=(l.getD (k+1) 0).toNat_lt;unfold eX;omega
theorem aaL{l:List UInt8}:∀(m k:Nat)(fH:List Tg),(∀t∈fH,acN t)->fH.length+m<=2->(∀t∈(Dv l m k fH).1.fH,acN t)/\(Dv l m k fH).1.fH.length<=2
 | 0,k,fH,h,hl=>by
   cases ht:uw (eX l (k-2):Nat)with
   | false=>rw[Aj ht];exact⟨h,hl⟩
   | true=>rw[KY ht];exact⟨fun t ht=>by simp[Fy]at ht,by simp[Fy]⟩
 | m+1,k,fH,h,hl=>by
   cases ht:uw (eX l (k-2):Nat)with
   | false=>rw[Aj ht];exact⟨h,by simp only;omega⟩
   | true=>
     by_cases h4:l.length<k+4
     ·rw[Cx ht h4];exact⟨fun t ht=>by simp[Fy]at ht,by simp[Fy]⟩
     ·rw[Fz ht h4]
      refine aaL m (k+4) _ (fun t ht=>?_) (by simp;omega);rcases qB.1 ht with ht|ht
      ·exact h t ht
      ·rw[fO.1 ht]
       have h1:=PW l (k-2);have h2:=PW l k;exact⟨⟨by simp only;omega,by simp only;omega⟩,by simp only;omega,by simp only;omega⟩
theorem XG(l:List UInt8):(∀t∈(mD l).1.fH,acN t)/\(mD l).1.fH.length<=2:=by
 unfold mD;split
 ·exact⟨fun t ht=>by simp[Fy]at ht,by simp[Fy]⟩
 ·exact aaL 2 14 [] (fun t ht=>by cases ht) (by simp)
end
section
attribute [local go_sem high] iT jG
theorem ahF(W:au)(k:Int)(A:Option aU)(n c:Nat)(l:List UInt8)(tX:n<=c)(hc:c<=9223372036854775807/\n<=1000000)(hr:gy W W.heap.size A n l):aR aj 101 #[.int .i64 k,.slice A n c] W (gP W (.agg (AL k l).aA)):=by
 have b0:=ah ((Bx.start W).new tq.aA 179);have R0:=b0.out.Nc hr;have C4:=ah (Pp _ A n c l tX (by omega) R0);have C6:=ah (Tw _ A n c l tX (by omega) R0);clear R0 hr;go_enter Tryz.func101,Tryz.ntmps101;by_cases hk:k=2048
 ·have q:(k==2048)=true:=by simp[hk]
  obtain⟨x,hx⟩:∃x,x=(AB l):=⟨_,rfl⟩
  obtain⟨x,er⟩:=x;have H:=ah (show AL k l=⟨x.head,x.dz,x.aQ,x.oM,er==0⟩by unfold AL;rw[if_pos hk,<-hx]);unfold FoP at C4;rw[<-hx]at C4;clear hx hk;go_wp2_with (go_at_call 175;with_reducible refine C4.out.mono ?_;rintro e w1 ⟨rfl,gI⟩;have Z1:=ah (b0.out.go gI);have Z2:=ah (Z1.out.new x.aA 192);obtain⟨y1,y2,y3,y4⟩:=Z2.out.b0.aI;have zq:=Z2.out.b1.there 0 5 (Nat.le_of_eq (Tn.ak tq).symm);clear gI);have Z3:=ah (Z2.out.swap.put (fun p hp=>by rw[fO.1 hp];exact Nat.ne_of_gt Z1.out.b0.lt) (Tn.mk x.head x.dz x.aQ x.oM (er==0)).aA (by rw[Tn.ak,Tn.ak]));refine bodyPost_ret (kTn.zM rfl _ rfl Z3.out.b0 (Tn.ak _)) rfl ?_;rw[H.out];exact⟨rfl,Z3.out.dF⟩
 by_cases hk6:k=34525
 ·have q:(k==2048)=false:=by simp[hk]
  have q2:(k==34525)=true:=by simp[hk6]
  obtain⟨x,hx⟩:∃x,x=(By l):=⟨_,rfl⟩
  obtain⟨x,er⟩:=x;have H:=ah (show AL k l=⟨x.head,x.dz,x.aQ,x.oM,er==0⟩by unfold AL;rw[if_neg hk,if_pos hk6,<-hx]);unfold SxP at C6;rw[<-hx]at C6;clear hx hk hk6;go_wp2_with (go_at_call 176;with_reducible refine C6.out.mono ?_;rintro e w1 ⟨rfl,gI⟩;have Z1:=ah (b0.out.go gI);have Z2:=ah (Z1.out.new x.aA 189);obtain⟨y1,y2,y3,y4⟩:=Z2.out.b0.aI;have zq:=Z2.out.b1.there 0 5 (Nat.le_of_eq (Tn.ak tq).symm);clear gI);have Z3:=ah (Z2.out.swap.put (fun p hp=>by rw[fO.1 hp];exact Nat.ne_of_gt Z1.out.b0.lt) (Tn.mk x.head x.dz x.aQ x.oM (er==0)).aA (by rw[Tn.ak,Tn.ak]));refine bodyPost_ret (kTn.zM rfl _ rfl Z3.out.b0 (Tn.ak _)) rfl ?_;rw[H.out];exact⟨rfl,Z3.out.dF⟩
 ·have q:(k==2048)=false:=by simp[hk]
  have q2:(k==34525)=false:=by simp[hk6]
  have H:=ah (show AL k l=tq by unfold AL;rw[if_neg hk,if_neg hk6]);have zq:=b0.out.b0.there 0 5 (Nat.le_of_eq (Tn.ak tq).symm);clear hk hk6;go_wp2;have Z3:=ah (b0.out.put (fun p hp=>by cases hp) tq.aA rfl);refine bodyPost_ret (kTn.zM rfl _ rfl (b:=W.heap.size) (c:=tq.aA) (by first|exact Z3.out.b0|exact b0.out.b0) (Tn.ak _)) rfl ?_;rw[H.out];exact⟨rfl,by first|exact Z3.out.dF|exact b0.out.dF⟩
theorem aIq:ak8 314:=⟨fun c w=>by
 go_enter Tryz.func314,Tryz.ntmps314;go_wp2;go_ret;exact⟨rfl,rfl⟩,fun args w=>by kernel_rfl⟩
theorem ae1(a:fu)(w:au):aR aj 269 #[.agg a.aA] w (gP w (.bool a.mK)):=by
 have HB:=ah ((Below.refl w.heap.size w).alloc (ay _) (.cells a.aA 27));have x0:=dL.new w a.aA 27;have C:=ah (aji _ aIq _ 12 12 _ _ _ (by omega) (gy.tail (B:=w.heap.size+1) (Nat.lt_succ_self _) x0));have HS:=ah (KZ a);obtain⟨z,hz⟩:∃z,z=nzB (a.b.toList.drop 4):=⟨_,rfl⟩
 rw[<-hz]at C HS;clear hz;go_enter Tryz.func269,Tryz.ntmps269;go_wp2_with fail;refine C.out.mono ?_;rintro e w' ⟨rfl,rfl⟩;cases z
 all_goals
  go_wp2;go_ret;exact⟨by have:=HS.out;simp at this;simp[<-this],HB.out⟩
theorem ahG(k:Int)(w:au):aR aj 256 #[.int .i64 k] w fun e w'=>e=.returned (.bool (decide (0<=k)&&decide (k<=65535)))/\w=w':=by
 go_enter Tryz.func256,Tryz.ntmps256;by_cases h1:0<=k<;>by_cases h2:k<=65535
 all_goals
  go_wp2;go_ret;exact⟨by simp[h1,h2],rfl⟩
theorem alp(k:Int)(w:au):aR aj 315 #[.int .i64 k] w fun e w'=>e=.returned (.bool (decide (0<=k)&&decide (k<=255)))/\w=w':=by
 go_enter Tryz.func315,Tryz.ntmps315;by_cases h1:0<=k<;>by_cases h2:k<=255
 all_goals
  go_wp2;go_ret;exact⟨by simp[h1,h2],rfl⟩
end
theorem ahH(l:List UInt8):∀v∈l.map bv,v.oneCell'=true:=by
 intro v hv;obtain⟨b,_,rfl⟩:=iQ.1 hv;rfl
theorem ao1(l:List UInt8)(k:Nat):sD l k []=l:=by unfold sD;simp
theorem RZ{g z n c:Nat}(h:z<c):vP (some ⟨g,0,none⟩) z c 1=some ⟨g,z,none⟩:=by
 unfold vP;rw[if_neg (by omega)];simp only[ni,gF];rw[Addr.add_mid,bB]
theorem Ly.copy{B:Nat}{L:List (Nat×Array aC)}{w0 W:au}{A:Option aU}{n c:Nat}{bs:List UInt8}(h:Ly B L w0 W (.slice A n c) bs)(z:Nat){C:Nat}{sp:Option aU}{qg:Nat}{ys:List UInt8}(hr:gy W C sp qg ys)(m:Nat)(dp:Option aU)(Cg Jq xC:Nat)
 (hm:m=qA qg Cg) (hd:0<m->∃g,A=some ⟨g,0,none⟩/\dp=some ⟨g,z,none⟩) (hz:z+m<=bs.length) (ty:bM) (dT sT:bM) (hu:aj.underlying dT=some (.slice 5)) :
 ∃W',(Builtin.copy_ #[dT,sT] ty #[.slice dp Cg Jq,.slice sp qg xC]).run aj W=.ok (goInt m) W'/\Ly B L w0 W' (.slice A n c) (sD bs z (ys.take m))/\W.grownBy W' (jW (.slice A n c)):=by
 have jB:(aj.info? 5).map (·.size)=some 1:=by
  obtain⟨i0,oz,mZ,nu,_⟩:=Dc Mw;rw[oz];simp[nu]
 by_cases h0:m=0
 ·subst h0
  exact⟨W,run_copy_none (P:=aj) W dT sT ty 5 dp sp Cg Jq qg xC hu jB hm.symm,by rw[jZ,ao1];exact h,World.grownBy.refl _ _⟩
 ·obtain⟨g,rfl,rfl⟩:=hd (by omega)
  have hln:=hr.len;have hms:m<=qg:=by rw[hm];exact Nat.min_le_left _ _
  obtain⟨a,rfl,_,QD⟩:=hr.2 (by omega);have hl1:((ys.take m).map bv).length=m:=by simp;omega
  rcases h.o.vU.2 with⟨e,_⟩|⟨g',cap,cur,e,hB,hh,hn,ahh,hcs,htk⟩
  ·cases e
  ·injection e with e1 e2 e3
   injection e1 with e1
   injection e1 with e1
   subst e1 e3;have hnb:n=bs.length:=e2;have hg2:w0.heap.size<=g:=by
    rcases h.o.wP with e|⟨k',e,e2⟩
    ·cases e
    ·injection e with e;subst e;exact e2
   have qc:=run_copy_row (P:=aj) W dT sT ty 5 g z Cg Jq a qg xC cur 5 ((ys.take m).map bv) hu jB hh (by rw[hl1,hm]) (fun j v hv=>QD j v (by
    simp only[jD,jg]at hv ⊢;split at hv
    ·exact hv
    ·cases hv)) (by rw[hl1,hcs];omega) (ahH _)
   rw[hl1]at qc;refine⟨_,qc,?_,?_⟩
   ·have Wx:(sD bs z (ys.take m)).length=bs.length:=FH (by simp;omega)
    have aIr:(cur.toList.take bs.length)=bs.map bv:=by rw[<-htk,gF]
    refine⟨⟨⟨by simp[Wx],.inr ⟨g,c,_,by rw[Wx,hnb],hB,setRow_heap W g cur _ _ _ hh,by rw[Wx];omega,ahh,by simp;simp at hcs;omega,?_⟩⟩,?_,h.o.wP,h.o.hB,h.o.gb⟩,fun p hp=>⟨?_,(h.bx p hp).2⟩⟩
    ·rw[Wx,gF]
     unfold sD;simp only[List.toList_toArray,List.map_append,Bf,List.map_drop,<-aIr];simp only[Array.toList_ofFn,bK];apply iI;intro i;have hcz:cur.toList.length=c:=by rw[aZ,hcs,gF]
     rw[jg];by_cases hi:i<bs.length
     ·rw[if_pos hi]
      simp only[dB,kR,bK,bR,jg,jf,hcz]
      repeat' split
      all_goals first|omega|rfl|(simp at *;omega)|(congr 1;omega)|(simp;omega)|skip
     ·rw[if_neg hi]
      symm;apply aT;simp[hcz];omega
    ·exact⟨h.o.gr.os,h.o.gr.tape,h.o.gr.output,by simpa[r9]using h.o.gr.size,fun k hk pY=>(oP W g k _ (by omega)).trans (h.o.gr.block k hk pY)⟩
    ·obtain⟨t,ht⟩:=(h.bx p hp).1
     exact⟨t,(oP W g p.1 _ (fun e=>(h.bx p hp).2 (by rw[e];rfl))).trans ht⟩
   ·exact⟨rfl,rfl,rfl,by simp[r9],fun k hk pY=>oP W g k _ (fun e=>pY (by rw[e];rfl))⟩
section
attribute [local go_sem high] iT jG
theorem asT:lW 3 = #[0,1,2]:=by apply oZ;rw[j5];rfl
@[go_sem]theorem au7(w:au)(A0 A1 A2:Option aU)(n0 n1 n2 c0 c1 c2:Nat):(GZ 3 #[(0,.slice A0 n0 c0),(1,.slice A1 n1 c1),(2,.slice A2 n2 c2)]).run aj w=.ok (.slice (some ⟨w.heap.size,0,none⟩) 3 3) (w.alloc (.cells (zD [⟨A0,n0,c0⟩,⟨A1,n1,c1⟩,⟨A2,n2,c2⟩]) 56)):=by
 obtain⟨i0,oz,mZ,nu⟩:=U0;simp[GZ,bJ,dJ Tryz.underlying276,zeroValue,sizeOf,typeInfo,oz,mZ,nu,fB,newRow,zD,cu,asT]
def ae3(w:au)(bs:List UInt8)(e:kX)(w':au):Prop:=∃A n c,e=.returned (.tuple #[.slice A n c,.int .i64 0])/\n=bs.length/\w'.ownsRow w.heap.size 5 1 (.slice A n c) n (bs.map bv)/\aN w.heap.size w w'
theorem Ly.ao3{B:Nat}{L:List (Nat×Array aC)}{w0 W:au}{A:Option aU}{n c:Nat}{bs:List UInt8}(ho:W.ownsRow B 5 1 (.slice A n c) n (bs.map bv))(Ur:w0.heap.size<=B)(hb:aN w0.heap.size w0 W)(hx:∀p∈L,dL W p.1 p.2/\p.1<B):Ly w0.heap.size L w0 W (.slice A n c) bs:=by
 have hn:n=bs.length:=by have:=ho.1;rw[bR]at this;omega
 subst hn;have hk:∀k,(bE A bs.length c).ownBlock=some k->B<=k:=fun k hk=>(ho.lt k hk).1
 refine⟨⟨iG ho Ur,⟨hb.os,hb.tape,hb.output,hb.size,fun i hi _=>hb.block i hi⟩,?_,ay _,fun k h=>by cases h⟩,fun p hp=>⟨(hx p hp).1,fun e=>by have:=hk _ e;have:=(hx p hp).2;omega⟩⟩;cases A with
 | none=>exact .inl rfl
 | some a=>exact .inr ⟨_,rfl,aP Ur (hk _ rfl)⟩
theorem Ly.toE{L:List (Nat×Array aC)}{w0 W:au}{A:Option aU}{n c:Nat}{bs:List UInt8}(h:Ly w0.heap.size L w0 W (.slice A n c) bs):ae3 w0 bs (.returned (.tuple #[.slice A n c,.int .i64 0])) W:=by
 obtain⟨A9,c9,e9⟩:=h.o.Dr;injection e9 with e1 e2 e3
 subst e2;exact⟨A,_,c,rfl,rfl,h.o.vU,h.o.dF⟩
theorem vE(n:Nat)(h:n<=65535):iM n 2 true=qw n:=by
 simp only[iM,wu,qw,if_true,dQ];rw[show dW 2=[0,1]from rfl];simp[Je];apply UInt8.toNat_inj.1;simp
theorem ae4{α β:Type}(f:α->List β)(d:α)(l:List α)(i:Nat)(hi:i<l.length):(l.take (i+1)).flatMap f=(l.take i).flatMap f++f (l.getD i d):=by
 rw[<-oK d l i hi];simp
theorem ajs{W:au}{q o:Nat}{c:Array aC}(h:dL W q c)(v:Vector UInt8 6)(hc:c.extract o (o+6)=Bv v):gy W W.heap.size (some ⟨q,o,none⟩) 6 v.toList:=by
 have:=gy.Pq (w:=W) (B:=W.heap.size) (b:=q) (o:=o) (l:=v.toList) h.lt (fun j hj=>by
  rw[h.aI.1];have h2:(c.extract o (o+6))[j]? = (Bv v)[j]?:=by rw[hc]
  have hj6:j<6:=by simpa using hj
  have hs:(Bv v)[j]? = some (bv (v.toList.getD j 0)):=by simp[Bv,av,hj6]
  rw[hs,dx]at h2;split at h2
  ·exact h2
  ·cases h2)
 simpa using this
theorem ae5(xd xr:Vector UInt8 6)(TA:Option aU)(tn ae6:Nat)(xty xat:Int)(fH:List Tg)(hf:∀t∈fH,acN t)(hi:∀t∈fH,uw t.oF=true)(hn:fH.length<=2)(t0:0<=xty)(t1:xty<=65535)(ht:uw xty=false)(w:au)(hT:iO Tg.aA 2 w w.heap.size TA tn fH):aR aj 185 #[.agg (Lc.mk xd xr TA tn ae6 xty xat).aA] w (ae3 w (qG xd xr fH xty)):=by
 have Z:=ah ((Bx.start w).new (Lc.mk xd xr TA tn ae6 xty xat).aA 108);have HT:=ah hT;have HN:=ah hT.1;have LA:tn<=2:=by have:=hT.1;omega
 have q2:decide ((2:Int)<tn)=false:=by simp;omega
 have CI:=ah (fun k W (h:0<=k/\k<=65535)=>show aR aj 256 #[.int .i64 k] W (fun e W'=>e=.returned (.bool true)/\W=W')by
  have:=ahG k W;rwa [decide_eq_true h.1,decide_eq_true h.2]at this)
 have CX:=ah (fun W=>CI.out xty W ⟨t0,t1⟩);have CT:=ah (fun W=>by have:=acw (W:=W) xty;rwa [ht]at this:∀W,aR aj 174 #[.int .i64 xty] W fun e W'=>e=.returned (.bool false)/\W=W');have HF:=ah hf;have HI:=ah hi;have HTY:=ah ht;clear hT hf hi ht;go_enter Tryz.func185,Tryz.ntmps185;go_upto_region 1 with fail
 generalize w.alloc (.cells (Lc.mk xd xr TA tn ae6 xty xat).aA 108)=w1 at *;obtain⟨y1,y2,y3,y4⟩:=Z.out.b0.aI;go_upto_region 3 with(first|(go_at_call 256;(with_reducible refine(CX.out _).mono ?_);rintro e w4 ⟨rfl,rfl⟩)|(go_at_call 174;(with_reducible refine(CT.out _).mono ?_);rintro e w4 ⟨rfl,rfl⟩))
 have CC:=ah (Ct [⟨some ⟨w.heap.size,0,none⟩,6,6⟩,⟨some ⟨w.heap.size,6,none⟩,6,6⟩] [xd.toList,xr.toList] 56 2 w1.drew rfl (.cons (ajs Z.out.drew.b0 xd (Lc.JJ _)) (.cons (ajs Z.out.drew.b0 xr (Lc.JI _)) .nil)) (by omega) (by simp[zm]));simp only[show w1.drew.heap.size=w1.heap.size from rfl,show∀(w:au) ob,w.drew.alloc ob=(w.alloc ob).drew from fun _ _=>rfl]at CC;obtain⟨bs,Em⟩:∃bs,bs=xd.toList++xr.toList:=⟨_,rfl⟩
 have HBS:=ah (show qG xd xr fH xty=bs++fH.flatMap AJ++qw xty by rw[Em];rfl);have Ht:=ah (show bs.length=12 by rw[Em];simp);rw[show [xd.toList,xr.toList].flatten=bs by rw[Em];simp]at CC;clear Em y1 y2 y3 y4 q2;go_region_held_law (fun _=>True) (trivial) (first|(go_at_call 181;(with_reducible refine CC.out.mono ?_);rintro e w2 ⟨A2,m2,c2,rfl,Dg,_,NG,kF⟩;have O2:=ah NG;have B2:=ah (OV kF);clear Dg NG kF));have S0:=ah (Ly.ao3 (L:=[(w.heap.size,(Lc.mk xd xr TA tn ae6 xty xat).aA)]) (w0:=w) O2.out (Nat.le_succ_of_le Z.out.dF.size) (Z.out.dF.trans (B2.out.mono Z.out.dF.size)) (fun p hp=>by rw[fO.1 hp];exact⟨Z.out.b0.go B2.out,Nat.lt_succ_of_lt Z.out.b0.lt⟩));have fg:=fun(w':au) (h:dL w' w.heap.size (Lc.mk xd xr TA tn ae6 xty xat).aA)=>show w'.cell? ⟨w.heap.size,12,none⟩=some (.slice TA tn ae6)from(h.aI.1 12).trans (Lc.acs _)
 have FG:=ah fg;have fy:=fun(w':au) (h:dL w' w.heap.size (Lc.mk xd xr TA tn ae6 xty xat).aA)=>show w'.cell? ⟨w.heap.size,13,none⟩=some (.int .i64 xty)from(h.aI.1 13).trans (Lc.Et _)
 have FY:=ah fy;clear fg fy;have f12:=FG.out _ S0.out.b0;have HTL:=ah (FJ fH);go_wp2;clear f12;go_loopw [4,31] (fun s4 s31 wr=>∃(i:Nat)(A:Option aU)(m c:Nat),i<=tn/\s31=.int .i64 i/\s4=.slice A m c/\Ly w.heap.size [(w.heap.size,(Lc.mk xd xr TA tn ae6 xty xat).aA)] w wr (.slice A m c) (bs++(fH.take i).flatMap AJ)) (fun _ s31 _=>tn-(intOf s31).toNat)
 case atStart=>exact⟨0,_,_,_,by omega,rfl,rfl,by simpa using S0.out⟩
 case round=>
  obtain⟨i,A,m,c,wW,rfl,rfl,h⟩:=hrel;have HO:=ah h;clear h;have HL1:=ah (show((fH.take i).flatMap AJ).length<=8 by rw[FJ,bK];have:=HN.out;omega);by_cases fP:i<tn
  ·have hi:(i:Int)<tn:=by omega
   obtain⟨b,o,hA,Cb,hh,uh⟩:=iO.fE Tg.ak Us ((HT.out.below HO.out.o.dF).lF HO.out.o.dF.size) fP;have hm:=ET Us fH i (by rw[HN.out];exact fP);have Ej:=ah (ae4 AJ Us fH i (by rw[HN.out];exact fP));have ok1:=HF.out _ hm;have ok2:=HI.out _ hm;obtain⟨t,htt⟩:∃t,t=fH.getD i Us:=⟨_,rfl⟩
   rw[<-htt]at uh ok1 ok2 Ej;clear htt hm;obtain⟨⟨k0,k1⟩,k2,k3⟩:=ok1;obtain⟨ty,hty⟩:∃n:Nat,t.oF=(n:Int):=⟨t.oF.toNat,by omega⟩
   obtain⟨tc,htc⟩:∃n:Nat,t.tci=(n:Int):=⟨t.tci.toNat,by omega⟩
   have CTT:=ah (show∀W,aR aj 174 #[.int .i64 t.oF] W fun e W'=>e=.returned (.bool true)/\W=W' from fun W=>by have:=acw (W:=W) t.oF;rwa [ok2]at this);have CII:=ah (fun W=>CI.out t.tci W ⟨k2,k3⟩);have HTB:=ah (show AJ t=qw ty++qw tc by unfold AJ;rw[hty,htc]);have cs:jr.wrap t.oF=(ty:Int):=by rw[IntKind.wrap_u64];omega
   have cd:jr.wrap t.tci=(tc:Int):=by rw[IntKind.wrap_u64];omega
   have PS:=ah (fun W=>wR ty (by omega) W);have PD:=ah (fun W=>wR tc (by omega) W);rw[vE ty (by omega)]at PS;rw[vE tc (by omega)]at PD;have HZ:=ah hty;have UO:=ah htc;subst hA;clear hty htc ok2 k0 k1 k2 k3;have L1:=ah (HO.out.new t.aA 268);go_upto_region 7 with fail
   clear hh uh;generalize wr.alloc (.cells t.aA 268)=w5 at L1 ⊢;generalize wr.heap.size=y6 at L1 ⊢;have e1:=(L1.out.b0.aI.1 0).trans (Tg.Et t);have e2:=(L1.out.b0.aI.1 1).trans (Tg.aoC t);go_upto_region 9 with(first|(go_at_call 174;(with_reducible refine(CTT.out _).mono ?_);rintro e w6 ⟨rfl,rfl⟩)|(go_at_call 256;(with_reducible refine(CII.out _).mono ?_);rintro e w6 ⟨rfl,rfl⟩))
   go_upto_region 10 with(first|(go_at_call 184;(with_reducible refine(PS.out _).mono ?_);rintro e w6 ⟨A6,rfl,ho,hb⟩;have R6:=ah (DT ho (Below.refl _ _));have L2:=ah (L1.out.go hb);have HLN:=ah (show(bs++(fH.take i).flatMap AJ).length+2<=1000000000 by rw[aS];have:=HL1.out;have:=Ht.out;omega);clear ho hb)|(at_builtin;refine kr rfl (.tmp 45) (.tmp 49) rfl rfl L2.out.o rfl R6.out HLN.out ?_;intro A7 n7 c7 w7 h2 h3;have L3:=ah (L2.out.step h3);clear h2 h3))
   have e3:=(L3.out.b0.aI.1 1).trans (Tg.aoC t);have axJ:=ah (show(bs++(fH.take i).flatMap AJ++qw ty).length+2<=1000000000 by rw[aS,aS];have:=HL1.out;have:=Ht.out;have:(qw ty).length=2:=rfl;omega);go_wp2_with (first|(go_at_call 184;(with_reducible refine(PD.out _).mono ?_);rintro e w8 ⟨A8,rfl,ho,hb⟩;have R8:=ah (DT ho (Below.refl _ _));have L4:=ah (L3.out.go hb);clear ho hb)|(at_builtin;refine kr rfl (.tmp 51) (.tmp 55) rfl rfl L4.out.o rfl R8.out axJ.out ?_;intro A9 n9 c9 w9 h2 h3;have L5:=ah (L4.out.step h3);clear h2 h3));go_roundw
   case rel=>exact⟨i+1,A9,n9,c9,by omega,by go_num,rfl,by have:=L5.out.U1;rw[Ej.out,HTB.out,<-dB,<-dB];exact this⟩
   case measure=>simp[intOf]<;>omega
  ·have UL:¬(i:Int)<tn:=by omega
   have HFU:=ah (show(fH.take i).flatMap AJ=fH.flatMap AJ by rw[aL (by rw[HN.out];omega)]);obtain⟨ty,hty⟩:∃n:Nat,xty=(n:Int):=⟨xty.toNat,by omega⟩
   subst hty;have cs:jr.wrap (ty:Int)=(ty:Int):=by rw[IntKind.wrap_u64];omega
   have PS:=ah (fun W=>wR ty (by omega) W);rw[vE ty (by omega)]at PS;have e3:=FY.out _ HO.out.b0;have axJ:=ah (show(bs++(fH.take i).flatMap AJ).length+2<=1000000000 by rw[aS];have:=HL1.out;have:=Ht.out;omega);go_wp2_with (first|(go_at_call 184;(with_reducible refine(PS.out _).mono ?_);rintro e w8 ⟨A8,rfl,ho,hb⟩;have R8:=ah (DT ho (Below.refl _ _));have L4:=ah (HO.out.go hb);clear ho hb)|(at_builtin;refine kr rfl (.tmp 58) (.tmp 62) rfl rfl L4.out.o rfl R8.out axJ.out ?_;intro A9 n9 c9 w9 h2 h3;have L5:=ah (L4.out.step h3);clear h2 h3));go_ret2;rw[HBS.out,<-HFU.out];exact L5.out.toE
theorem ae8(x:Lc)(fH:List Tg)(hf:∀t∈fH,acN t)(hi:∀t∈fH,uw t.oF=true)(hn:fH.length<=2)(t0:0<=x.oF)(t1:x.oF<=65535)(ht:uw x.oF=false)(w:au)(hT:iO Tg.aA 2 w w.heap.size x.Xf x.Fx fH):aR aj 185 #[.agg x.aA] w (ae3 w (qG x.dst x.src fH x.oF)):=
 ae5 x.dst x.src x.Xf x.Fx x.ajh x.oF x.fE fH hf hi hn t0 t1 ht w hT
end
section
attribute [local go_sem high] iT jG
theorem aCg(w:au)(c:Array aC)(t:bM)(l:List UInt8)(h:c.toList=l.map bv):gy (w.alloc (.cells c t)) (w.heap.size+1) (some ⟨w.heap.size,0,none⟩) l.length l:=by
 have:=gy.Pq (w:=w.alloc (.cells c t)) (B:=w.heap.size+1) (b:=w.heap.size) (o:=0) (l:=l) (Nat.lt_succ_self _) (fun j hj=>by
  rw[bB,mU w c t j,<-dD,h];simp[av,hj])
 exact this
theorem Nk{W:au}{q o:Nat}{c:Array aC}(h:dL W q c)(a:fu)(hc:c.extract o (o+17)=a.aA):gy W W.heap.size (some ⟨q,o+1,none⟩) 16 a.b.toList:=by
 have:=gy.Pq (w:=W) (B:=W.heap.size) (b:=q) (o:=o+1) (l:=a.b.toList) h.lt (fun j hj=>by
  have hj6:j<16:=by simpa using hj
  rw[h.aI.1,show o+1+j=o+(j+1)by omega];have h2:(c.extract o (o+17))[j+1]? = a.aA[j+1]?:=by rw[hc]
  rw[fu.EU a j hj6,dx]at h2;split at h2
  ·exact h2
  ·cases h2)
 simpa using this
theorem ae3.of{w W:au}{A:Option aU}{n c:Nat}{bs:List UInt8}{B:Nat}(hn:n=bs.length)(ho:W.ownsRow B 5 1 (.slice A n c) n (bs.map bv))(hB:w.heap.size<=B)(hb:aN w.heap.size w W):ae3 w bs (.returned (.tuple #[.slice A n c,.int .i64 0])) W:=⟨A,n,c,rfl,hn,iG ho hB,hb⟩
theorem XH(x:Sx)(n:Nat)(hn:n<=65535)(hh:x.head=40)(ht:x.dz=40+n)(p0:0<=x.aQ)(p1:x.aQ<=255)(pe:Ak x.aQ=false)(h0:0<=x.IU)(h1:x.IU<=255)(hf:x.oM=false)(he:x.IV=0)(hs:x.src.j6=true)(hd:x.dst.j6=true)(w:au):aR aj 270 #[.agg x.aA] w (ae3 w (xk x)):=by
 have Z:=ah ((Bx.start w).new x.aA 189);have FA:=ah (fun(w':au) (h:dL w' w.heap.size x.aA)=>show w'.cell? ⟨w.heap.size,0,none⟩=some (.int .i64 40)/\w'.cell? ⟨w.heap.size,1,none⟩=some (.int .i64 (40+n))/\w'.cell? ⟨w.heap.size,2,none⟩=some (.int .i64 x.IU)/\w'.cell? ⟨w.heap.size,3,none⟩=some (.bool false)/\w'.cell? ⟨w.heap.size,4,none⟩=some (.int .i64 0)/\w'.cell? ⟨w.heap.size,5,none⟩=some (.int .i64 x.aQ)/\w'.cell? ⟨w.heap.size,6,none⟩=some (.bool true)/\w'.cell? ⟨w.heap.size,23,none⟩=some (.bool true)by
  have f:=h.aI.1;refine⟨(f 0).trans ((Sx.KX x).trans (by rw[hh])),(f 1).trans ((Sx.yN x).trans (by rw[ht])),(f 2).trans (Sx.awU x),(f 3).trans ((Sx.Vb x).trans (by rw[hf])),(f 4).trans ((Sx.asr x).trans (by rw[he])),(f 5).trans (Sx.Cv x),(f 6).trans ?_,(f 23).trans ?_⟩
  ·have:=Sx.JI x
   have h2:(x.aA.extract 6 23)[0]? = x.src.aA[0]?:=by rw[this]
   rw[fu.qH,hs,dx,if_pos (by rw[Sx.ak];omega)]at h2;exact h2
  ·have:=Sx.JJ x
   have h2:(x.aA.extract 23 40)[0]? = x.dst.aA[0]?:=by rw[this]
   rw[fu.qH,hd,dx,if_pos (by rw[Sx.ak];omega)]at h2;exact h2)
 have HT:=ah (show xk x=[96,0,0,0]++qw n++[aK x.aQ.toNat,aK x.IU.toNat]++x.src.b.toList++x.dst.b.toList by
  unfold xk qw;rw[ht,show((40:Int)+n-40).toNat=n by omega];rfl)
 have CI:=ah (fun k W (h:0<=k/\k<=255)=>show aR aj 315 #[.int .i64 k] W (fun e W'=>e=.returned (.bool true)/\W=W')by
  have:=alp k W;rwa [decide_eq_true h.1,decide_eq_true h.2]at this)
 have C1:=ah (fun W=>CI.out x.IU W ⟨h0,h1⟩);have C2:=ah (fun W=>CI.out x.aQ W ⟨p0,p1⟩);have CE:=ah (fun W=>by have:=Xi x.aQ W;rwa [pe]at this:∀W,aR aj 250 #[.int .i64 x.aQ] W fun e W'=>e=.returned (.bool false)/\aN W.heap.size W W');have q1:decide ((40:Int)+n<40)=false:=by simp;omega
 have q2:decide ((65575:Int)<40+(n:Int))=false:=by simp;omega
 have q3:=jU (40+(n:Int)-40) (by omega);have q4:(40:Int)+n-40=n:=by omega
 rw[q4]at q3;have q5:jr.wrap (n:Int)=n:=by rw[IntKind.wrap_u64];omega
 have q6:IntKind.u8.wrap x.aQ=x.aQ:=by rw[IntKind.wrap_u8];omega
 have q7:IntKind.u8.wrap x.IU=x.IU:=by rw[IntKind.wrap_u8];omega
 have PS:=ah (fun W=>wR n hn W);rw[vE n hn]at PS;have HP:=ah (show #[aJ .u8 x.aQ,.int .u8 x.IU].toList=[aK x.aQ.toNat,aK x.IU.toNat].map bv by
  simp only[kL,pR,bv];rw[zG x.aQ.toNat (by omega),zG x.IU.toNat (by omega),Int.toNat_of_nonneg p0,Int.toNat_of_nonneg h0])
 have E1:=ah (Sx.JI x);have E2:=ah (Sx.JJ x);clear hh ht pe hf he hs hd p0 p1 h0 h1;go_enter Tryz.func270,Tryz.ntmps270;go_upto_region 1 with fail
 generalize w.alloc (.cells x.aA 189)=w1 at *;obtain⟨f0,f1,f2,f3,f4,f5,f6,f7⟩:=FA.out _ Z.out.b0;go_upto_region 3 with(first|(go_at_call 315;(with_reducible refine(C1.out _).mono ?_);rintro e w4 ⟨rfl,rfl⟩)|(go_at_call 315;(with_reducible refine(C2.out _).mono ?_);rintro e w4 ⟨rfl,rfl⟩)|(go_at_call 250;(with_reducible refine(CE.out _).mono ?_);rintro e w5 ⟨rfl,hb⟩;have Z5:=ah (Z.out.go hb);clear f0 f1 f2 f3 f4 f5 f6 f7;obtain⟨f0,f1,f2,f3,f4,f5,f6,f7⟩:=FA.out _ Z5.out.b0;clear hb))
 clear f0 f3 f4 f6 f7 f1 f2 f5 q1 q2;have L0:=ah ((Ly.aoY w w5 Z5.out.dF #[.int .u8 96,.int .u8 0,.int .u8 0,.int .u8 0] [96,0,0,0] 4 rfl (by omega) rfl).add (q:=w.heap.size) (c:=x.aA) (Z5.out.b0.alloc _) (by simp[jW];exact Nat.ne_of_gt Z5.out.b0.lt));go_upto_region 4 with fail
 generalize w5.alloc (.cells #[.int .u8 96,.int .u8 0,.int .u8 0,.int .u8 0] 5)=w6 at L0 ⊢;generalize bE (some ⟨w5.heap.size,0,none⟩) 4 4=v6 at L0 ⊢;have f1:=(FA.out _ L0.out.b0).2.1;go_upto_region 5 with(first|(go_at_call 184;(with_reducible refine(PS.out _).mono ?_);rintro e w7 ⟨A7,rfl,ho,hb⟩;have R7:=ah (DT ho (Below.refl _ _));have L1:=ah (L0.out.go hb);clear ho hb)|(at_builtin;refine kr rfl (.tmp 57) (.tmp 62) rfl rfl L1.out.o rfl R7.out (show 4+2<=1000000000 by decide) ?_;intro A8 n8 c8 w8 h2 h3;have L2:=ah (L1.out.step h3);clear h2 h3))
 clear f1 q3 q5 q4;obtain⟨_,_,f2,_,_,f5,_,_⟩:=FA.out _ L2.out.b0;have L3:=ah (L2.out.alloc (.cells #[.int .u8 x.aQ,.int .u8 x.IU] 5));have R8:=ah (aCg w8 #[.int .u8 x.aQ,.int .u8 x.IU] 5 _ HP.out);go_upto_region 6 with(first|(at_builtin;refine kr rfl (.tmp 64) (.tmp 71) rfl rfl L3.out.o rfl R8.out (show 4+2+2<=1000000000 by decide) ?_;intro A9 n9 c9 w9 h2 h3;have L4:=ah (L3.out.step h3);clear h2 h3))
 clear f2 f5 q6 q7;obtain⟨bs,Em⟩:∃bs,bs=[96,0,0,0]++qw n++[aK x.aQ.toNat,aK x.IU.toNat]:=⟨_,rfl⟩
 have Ht:=ah (show bs.length=8 by rw[Em];rfl);rw[<-Em]at L4 HT;clear Em;obtain⟨A10,c10,e10⟩:=L4.out.o.Dr;injection e10 with e11 e12 e13
 subst e11 e12 e13;have BX:=ah L4.out.b0.drew;have RB:=ah (gy.iX L4.out.o.vU);have CC:=ah (Ct [⟨A9,bs.length,c9⟩,⟨some ⟨w.heap.size,7,none⟩,16,16⟩,⟨some ⟨w.heap.size,24,none⟩,16,16⟩] [bs,x.src.b.toList,x.dst.b.toList] 56 3 w9.drew rfl (.cons RB.out (.cons (Nk (o:=6) BX.out x.src E1.out) (.cons (Nk (o:=23) BX.out x.dst E2.out) .nil))) (by omega) (by simp[zm,Ht.out]));simp only[show w9.drew.heap.size=w9.heap.size from rfl,show∀(w:au) ob,w.drew.alloc ob=(w.alloc ob).drew from fun _ _=>rfl]at CC;rw[show [bs,x.src.b.toList,x.dst.b.toList].flatten=xk x by rw[HT.out];simp]at CC;go_region_held_law (fun _=>True) (trivial) (first|(go_at_call 181;(with_reducible refine CC.out.mono ?_);rintro e w2 ⟨A2,m2,c2,rfl,Dg,_,NG,kF⟩;have O2:=ah NG;have N2:=ah Dg;have B2:=ah (OV kF);clear Dg NG kF));go_wp2;go_ret2;exact ae3.of N2.out O2.out (Nat.le_succ_of_le L4.out.o.dF.size) (L4.out.o.dF.trans (B2.out.mono L4.out.o.dF.size))
end
theorem Nl{w:au}{ops:Array iV}{rest:List iV}{o:iV}{a:re}{Q:Aq->re->au->Prop}(Gl:o.guard=none)(d s:pQ)
 (ho:o.op=.call {callee:=.builtin .copy,args:=#[d,s],argTypes:=#[56,56]}) {B:Nat} {L:List (Nat×Array aC)} {w0:au} {A:Option aU} {n c:Nat} {bs:List UInt8} (H:Ly B L w0 w (.slice A n c) bs) (z m:Nat)
 {dp:Option aU} {Cg Jq:Nat} (hd:a.eval d=.slice dp Cg Jq) {sp:Option aU} {qg xC:Nat} (hs:a.eval s=.slice sp qg xC) {C:Nat} {ys:List UInt8} (hr:gy w C sp qg ys) (hm:m=qA qg Cg)
 (hp:0<m->∃g,A=some ⟨g,0,none⟩/\dp=some ⟨g,z,none⟩) (hz:z+m<=bs.length)
 (h:∀w',Ly B L w0 w' (.slice A n c) (sD bs z (ys.take m))->w.grownBy w' (jW (.slice A n c))->wpList aj ops Q rest (a.put o.dst (goInt m)) w'):wpList aj ops Q (o::rest) a w:=by
 obtain⟨W',qc,hL,hG⟩:=H.copy z hr m dp Cg Jq xC hm hp hz o.type 56 56 dw;refine tu Gl fun K hK=>?_
 unfold nD;simp[execOp,ho,resolve,invoke,builtin,hd,hs,qc,iD];exact hK _ _ (h W' hL hG)
theorem PX{w:au}{ops:Array iV}{o:iV}{a:re}{K:re->au->Prop}{Q:Aq->re->au->Prop}{E:Prop}(Gl:o.guard=none)(d s:pQ)
 (ho:o.op=.call {callee:=.builtin .copy,args:=#[d,s],argTypes:=#[56,56]}) {B:Nat} {L:List (Nat×Array aC)} {w0:au} (A:Option aU) (n c:Nat) {bs:List UInt8} (H:Ly B L w0 w (.slice A n c) bs) (z m:Nat)
 (dp:Option aU) (Cg Jq:Nat) (hd:a.eval d=.slice dp Cg Jq) (sp:Option aU) (qg xC:Nat) (hs:a.eval s=.slice sp qg xC) {C:Nat} {ys:List UInt8} (hr:gy w C sp qg ys) (hm:m=qA qg Cg)
 (hp:0<m->∃g,A=some ⟨g,0,none⟩/\dp=some ⟨g,z,none⟩) (hz:z+m<=bs.length)
 (h:∀w',Ly B L w0 w' (.slice A n c) (sD bs z (ys.take m))->w.grownBy w' (jW (.slice A n c))->K (a.put o.dst (goInt m)) w'):if fC o (yielded ops a.tmps)=true then nD aj o a w K Q else E:=by
 have hw:fC o (yielded ops a.tmps)=true:=by simp[fC,Gl]
 rw[if_pos hw];obtain⟨W',qc,hL,hG⟩:=H.copy z hr m dp Cg Jq xC hm hp hz o.type 56 56 dw;unfold nD;simp[execOp,ho,resolve,invoke,builtin,hd,hs,qc,iD];exact h W' hL hG
theorem Ly.jk{B:Nat}{L:List (Nat×Array aC)}{w0 w:au}{A:Option aU}{n c:Nat}{bs:List UInt8}(H:Ly B L w0 w (.slice A n c) bs)(h:0<bs.length):∃g,A=some ⟨g,0,none⟩/\n=bs.length/\n<=c/\w0.heap.size<=g/\∀p∈L,p.1≠g:=by
 rcases H.o.vU.2 with⟨e,h0⟩|⟨g,cap,cur,e,hB,_,hn,_⟩
 ·omega
 ·injection e with e1 e2 e3
  subst e1 e2 e3;refine⟨g,rfl,rfl,hn,?_,fun p hp e=>(H.bx p hp).2 (by rw[e];rfl)⟩;rcases H.o.wP with e|⟨k',e,e2⟩
  ·cases e
  ·injection e with e;subst e;exact e2
section
attribute [local go_sem high] iT jG
def FK(l:List UInt8)(d s:Vector UInt8 6):List UInt8:=(d.toList++s.toList++l.drop 12).take l.length
theorem aCh(l:List UInt8)(d s:Vector UInt8 6)(h:l.length<=6):sD l 0 (d.toList.take l.length)=FK l d s:=by
 have e:(d.toList.take l.length).length=l.length:=by simp;omega
 unfold sD FK;rw[jZ,dG,bB,e,List.drop_length,List.append_nil,dB,List.take_append_of_le_length (by simp;omega)]
theorem aCi(l:List UInt8)(d s:Vector UInt8 6)(h:6<l.length):sD (sD l 0 (d.toList.take 6)) 6 (s.toList.take (min 6 (l.length-6)))=FK l d s:=by
 have hd:d.toList.take 6=d.toList:=aL (by simp);have YV:d.toList.length=6:=by simp
 have hsl:s.toList.length=6:=by simp
 rw[hd];unfold sD FK;simp only[jZ,dG,bB,YV];rw[List.take_left' YV,<-Mr];have e2:(d.toList++l.drop 6).drop 6=l.drop 6:=List.drop_left' YV;have e3:(s.toList.take (min 6 (l.length-6))).length=min 6 (l.length-6):=by simp
 rw[e2,e3,Mr,dB d.toList s.toList,List.take_append,YV];rw[aL (by omega:d.toList.length<=l.length),dB];congr 1;rw[List.take_append,hsl];by_cases h2:l.length<=12
 ·rw[show min 6 (l.length-6)=l.length-6 by omega,iR (by omega),iR (by omega:l.length<=12)]
  simp
 ·rw[show min 6 (l.length-6)=6 by omega,aL (by omega:s.toList.length<=6),aL (by omega:s.toList.length<=l.length-6)]
  congr 1;rw[aL (by simp;omega)]
theorem Ly.toN{L:List (Nat×Array aC)}{w0 W:au}{A:Option aU}{n c:Nat}{bs:List UInt8}(h:Ly w0.heap.size L w0 W (.slice A n c) bs):LC w0 bs (.returned (.slice A n c)) W:=by
 obtain⟨A9,c9,e9⟩:=h.o.Dr;injection e9 with e1 e2 e3
 subst e2;exact⟨A,_,c,rfl,rfl,h.o.vU,h.o.dF⟩
theorem acQ(w:au)(A:Option aU)(n c:Nat)(l:List UInt8)(d s:Vector UInt8 6)(hn:n<=1000000)(hr:gy w w.heap.size A n l):aR aj 206 #[.slice A n c,.agg (Bv d),.agg (Bv s)] w (LC w (FK l d s)):=by
 have h0:=((Bx.start w).new (Bv d) 25).new (Bv s) 25;simp only[World.size_alloc]at h0;have Z:=ah h0;have CC:=ah (akM l A n c _ (h0.Nc hr) (by omega));have hl:=ah hr.len;clear h0 hr;go_enter Tryz.func206,Tryz.ntmps206;go_upto_region 1 with fail
 generalize(w.alloc (.cells (Bv d) 25)).alloc (.cells (Bv s) 25)=w1 at Z CC ⊢;go_upto_region 2 with(go_at_call 268;(with_reducible refine CC.out.mono ?_);rintro e w2 ⟨A2,c2,rfl,ho,hb⟩;have L1:=ah (Ly.ao3 (w0:=w) (L:=[(w.heap.size+1,Bv s),(w.heap.size,Bv d)]) ho Z.out.dF.size (Z.out.dF.trans (hb.mono Z.out.dF.size)) (fun p hp=>⟨((Z.out.go hb).2 p hp).2,(Z.out.2 p hp).2.lt⟩));clear ho hb)
 have RD:=ah (ajs (o:=0) L1.out.b1 d (by rw[<-gG d];simp));by_cases h6:n<=6
 ·have hm:n=qA 6 n:=by show n=min 6 n;omega
  have HM:=ah hm;have q:decide ((6:Int)<n)=false:=by simp;omega
  have HP:=ah (show 0<n->∃g,A2=some ⟨g,0,none⟩/\A2=some ⟨g,0,none⟩from fun h=>by
   obtain⟨g,hg,_⟩:=L1.out.jk (by rw[hl.out];exact h);exact⟨g,hg,hg⟩)
  have HZ:=ah (show 0+n<=l.length by rw[hl.out];omega);clear hm;go_wp2_with (first|(at_builtin;fail)|(refine Nl rfl (.tmp 10) (.tmp 11) rfl L1.out 0 n rfl rfl RD.out HM.out HP.out HZ.out ?_;intro w3 h3 h4;have L2:=ah h3;clear h3 h4));go_ret;have:=L2.out.toN;have e:sD l 0 (d.toList.take n)=FK l d s:=by rw[<-aCh l d s (by rw[hl.out];exact h6),hl.out]
  rw[e]at this;exact this
 ·have q:decide ((6:Int)<n)=true:=by simp;omega
  obtain⟨g,AA,hg2,hg3,hg4,hg5⟩:=L1.out.jk (by rw[hl.out];omega);subst AA;clear hg2;have HP:=ah (show 0<6->∃g',(some ⟨g,0,none⟩:Option aU)=some ⟨g',0,none⟩/\(some ⟨g,0,none⟩:Option aU)=some ⟨g',0,none⟩from fun h=>⟨g,rfl,rfl⟩);have HM:=ah (show 6=qA 6 n by show 6=min 6 n;omega);have HZ:=ah (show 0+6<=l.length by rw[hl.out];omega);have hn6:(6:Int)<=n:=by omega
  go_upto_region 4 with(first|(refine Nl rfl (.tmp 10) (.tmp 11) rfl L1.out 0 6 rfl rfl RD.out HM.out HP.out HZ.out ?_;intro w3 h3 h4;have L2:=ah h3;clear h3 h4))
  have aQq:(6:Int)<=c2:=by omega
  have L3:=ah L2.out.drew;have RS:=ah (ajs (o:=0) L3.out.b0 s (by rw[<-gG s];simp));have HPL:=ah (show(sD l 0 (d.toList.take 6)).length=n by rw[FH (by simp;rw[hl.out];omega),hl.out]);obtain⟨m2,Dg⟩:∃m,m=qA 6 (n-6):=⟨_,rfl⟩
  have HM2:=ah Dg;have hm3:m2=min 6 (n-6):=Dg;have HP2:=ah (show 0<m2->∃g',(some ⟨g,0,none⟩:Option aU)=some ⟨g',0,none⟩/\vP (some ⟨g,0,none⟩) 6 c2 1=some ⟨g',6,none⟩from fun h=>⟨g,rfl,RZ (n:=0) (by omega)⟩);have UO:=ah (show 6+m2<=(sD l 0 (d.toList.take 6)).length by rw[HPL.out];omega);have HT:=ah (show sD (sD l 0 (d.toList.take 6)) 6 (s.toList.take m2)=FK l d s by rw[hm3,<-hl.out];exact aCi l d s (by rw[hl.out];omega));clear Dg hm3 h6;go_region_held_law (fun _=>True) (trivial)
   (first|(refine PX (o:=⟨some 19,_,_,_,_,_⟩) rfl (.tmp 17) (.tmp 18) rfl (some ⟨g,0,none⟩) n c2 L3.out 6 m2 (vP (some ⟨g,0,none⟩) 6 c2 1) (n-6) (c2-6) rfl (some ⟨w.heap.size+1,0,none⟩) 6 6 rfl RS.out HM2.out HP2.out UO.out ?_;intro w4 h3 h4;have L4:=ah h3;clear h3 h4))
  go_wp2;go_ret;have:=L4.out.toN;rw[HT.out]at this;exact this
end
structure Ac where
 kind:Int
 frame:List UInt8
 op:qX
 name:List UInt8
 well:Bool
structure Ou where
 err:Int
 jw:Int
 zi:Bool
 mq:Int
 name:List UInt8
 out:List UInt8
deriving DecidableEq
def Hw:Ou:=⟨0,0,false,0,[],[]⟩
structure En where
 key:Vector UInt8 16
 c:Cn
 vs:List Vp
def Ap(e:En)(s:qK):Tl:=uJ e.key e.c.size.toNat (kV (nY s.nP) s.sW)
def ajt(e:En)(t:Tu):Nat:=yF e.key (NA t)
def PY(s:qK)(t:Tu):Option (List UInt8):=match pW s.sN t with
 | some f=>if sZ s.sW f.name && !xW (nY s.nP) f.name then some f.name else none
 | none=>none
def JW(e:En)(s:qK)(t:Tu):Option (Bk×Bool):=match PY s t with
 | some n=>some (qp s.sW n,true)
 | none=>(Iq (Ap e s) (ajt e t)).map fun n=>(qp s.sW n,false)
def P5(e:En)(v:Vp)(b:Bk)(t:Tu)(l:List UInt8):Int×List UInt8:=
 if v.Xd then
  if(Iw l (if b.jk.j6 then e.c.j6 else e.c.Dt) b.jk).2=0 then(0,FK (Iw l (if b.jk.j6 then e.c.j6 else e.c.Dt) b.jk).1 b.Gq e.c.Gq)else(10,[])
 else if b.jk.j6=t.dst.j6 then(0,FK (acM l b.jk b.nL true) b.Gq e.c.Gq)else(9,[])
structure Wy where
 jw:Int
 out:List UInt8
 bk:Bk
 zi:Bool
def Ew(e:En)(s:qK)(l:List UInt8):Wy:=
 if(wG l).kind=0 then
  match zN e.vs (wG l).tuple.dst (wG l).tuple.aQ (wG l).tuple.j4 with
  | some i=>match JW e s (wG l).tuple with
    | some (b,zi)=>
      if(P5 e (e.vs.getD i oD) b (wG l).tuple l).1=0 then⟨0,(P5 e (e.vs.getD i oD) b (wG l).tuple l).2,b,zi⟩
      else⟨(P5 e (e.vs.getD i oD) b (wG l).tuple l).1,[],jo,false⟩
    | none=>⟨8,[],jo,false⟩
  | none=>⟨7,[],jo,false⟩
 else⟨(wG l).kind,[],jo,false⟩
def upC(v:Vector Int 11)(r:Int):Vector Int 11:=Vector.ofFn fun i=>if(i:Int)=r then v[i]+1 else v[i]
def aju(s:qK)(p:Pk):Int:=match pW s.sN p.tuple with
 | some f=>aiJ f.xU p.vB.toNat
 | none=>abE p.tuple.aQ p.vB.toNat
def ao4(s:qK)(p:Pk)(n:List UInt8):Fw:=⟨p.tuple,n,aju s p,s.gN,s.no+1⟩
def Ey(e:En)(s:qK)(l:List UInt8):qK×Ou:=
 if(Ew e s l).jw=0 then
  ({s with mg:=upC s.mg 0,no:=s.no+1,sN:=Er e.c.dR s.sN (ao4 s (wG l) (Ew e s l).bk.name)},⟨0,0,(Ew e s l).zi,s.mq,(Ew e s l).bk.name,(Ew e s l).out⟩)
 else({s with mg:=upC s.mg (Ew e s l).jw},{Hw with jw:=(Ew e s l).jw})
def opE(s:qK)(o:qX):qK×Ou:=
 if qE s.mq s.sW o=0 then({s with mq:=doV s.mq s.sW o,sW:=doL s.mq s.sW o,nP:=Fq s.nP ((doL s.mq s.sW o).map (·.name))},{Hw with mq:=doV s.mq s.sW o})
 else(s,{Hw with err:=qE s.mq s.sW o})
def TD(e:En)(s:qK)(n:List UInt8)(well:Bool):qK×Ou:=
 if(Lu s.nP n well e.c.rise e.c.fall).2.2=0 then({s with nP:=(Lu s.nP n well e.c.rise e.c.fall).1},Hw)
 else(s,{Hw with err:=(Lu s.nP n well e.c.rise e.c.fall).2.2})
def TJ(e:En)(s:qK):qK×Ou:=
 if 1099511627776<=s.gN then(s,{Hw with err:=7})else({s with gN:=s.gN+1,sN:=MW (s.gN+1) e.c.kC s.sN},Hw)
def vW(e:En)(s:qK)(a:Ac):qK×Ou:=
 if a.kind=1 then Ey e s a.frame else if a.kind=2 then opE s a.op else if a.kind=3 then TD e s a.name a.well else if a.kind=4 then TJ e s else(s,{Hw with err:=1})
structure oG(M:Int)(e:En)(s:qK):Prop where
 cn:yM e.c e.vs=true
 pl:yD s.mq s.sW=true
 fi:∀x∈s.sW,x.ru
 nm:s.nP.map (·.name)=s.sW.map (·.name)
 hl:∀x∈s.nP,0<=x.run/\x.run<(if x.down then e.c.rise else e.c.fall)
 fl:wS e.c.dR s.sN
 fw:∀f∈s.sN,f.seen<=s.gN/\1<=f.no/\f.no<=s.no
 ti:0<=s.gN/\s.gN<=1099511627776
 no:0<=s.no/\s.no<=M
 ct:∀n∈s.mg.toList,0<=n/\n<=M
theorem oG.le{M K:Int}{e:En}{s:qK}(h:oG M e s)(hk:M<=K):oG K e s:=
 ⟨h.cn,h.pl,h.fi,h.nm,h.hl,h.fl,h.fw,h.ti,by have:=h.no;omega,fun n hn=>by have:=h.ct n hn;omega⟩
theorem sU{x:Cn}{l:List Vp}(h:yM x l=true):(2<=x.size/\x.size<=65537/\lI x.size.toNat=true)/\(1<=x.dR/\x.dR<=4096)/\(1<=x.rise/\x.rise<=100)/\(1<=x.fall/\x.fall<=100):=by
 unfold yM at h;simp only[bl,decide_eq_true_eq]at h;obtain⟨⟨⟨⟨⟨⟨⟨⟨⟨⟨_,_⟩,⟨⟨h1,h2⟩,h3⟩⟩,h4⟩,h5⟩,h6⟩,_⟩,_⟩,_⟩,_⟩,_⟩:=h;exact⟨⟨h1,h2,h3⟩,h4,h5,h6⟩
theorem ajv{v:Vector Int 11}{r:Int}{M:Int}(h:∀n∈v.toList,0<=n/\n<=M):∀n∈(upC v r).toList,0<=n/\n<=M+1:=by
 intro n hn;have hv:∀(i:Nat)(hi:i<11),0<=v[i]/\v[i]<=M:=fun i hi=>h _ (by rw[Vector.mem_toList_iff];exact Vector.getElem_mem hi)
 rw[Vector.mem_toList_iff,Vector.mem_iff_getElem]at hn;obtain⟨i,hi,rfl⟩:=hn;unfold upC;rw[Vector.getElem_ofFn];have:=hv i hi;simp only[Fin.getElem_fin];split<;>omega
theorem acR{f x:Fw}{l:List Fw}:x∈ins lJ f l↔x=f\/x∈l:=by
 rw[(Cj (lt:=lJ) f l).mem_iff,bD]
theorem asU{dR:Int}{l:List Fw}{f x:Fw}(h:x∈Er dR l f):x=f\/x∈l:=by
 unfold Er at h;split at h
 ·split at h
  ·rcases acR.1 h with h|h
   ·exact .inl h
   ·exact .inr ((acm l f.key).subset h)
  ·split at h
   ·rcases acR.1 h with h|h
    ·exact .inl h
    ·exact .inr (List.mem_of_mem_tail h)
   ·exact acR.1 h
 ·exact .inr h
theorem alq{M:Int}{e:En}{s:qK}(h:oG M e s)(l:List UInt8):oG (M+1) e (Ey e s l).1:=by
 obtain⟨_,⟨r1,_⟩,_⟩:=sU h.cn;have uU:=h.no;unfold Ey;split
 ·refine⟨h.cn,h.pl,h.fi,h.nm,h.hl,h.fl.put r1 _,?_,h.ti,?_,ajv h.ct⟩
  ·intro f hf
   simp only at hf ⊢;rcases asU hf with rfl|hf
   ·simp only[ao4];omega
   ·have:=h.fw f hf;omega
  ·simp only;omega
 ·exact⟨h.cn,h.pl,h.fi,h.nm,h.hl,h.fl,h.fw,h.ti,by simp only;omega,ajv h.ct⟩
theorem JX:∀{l:List (List UInt8)},l.Pairwise (fun x y=>bT x y=true)->IL l=l
 | [],_=>rfl
 | x::l,h=>by
   obtain⟨h1,h2⟩:=List.pairwise_cons.1 h;have ih:=JX h2;unfold IL at ih ⊢;rw[List.foldr_cons,ih];cases l with
   | nil=>rfl
   | cons y l=>
     have:=h1 y (by simp);simp[WG,this]
theorem aaM{a b:List UInt8}(h:mE a b<0):bT a b=true:=by
 rw[yC];simpa using h
theorem alr{l:List Bk}(h:Gy l):(l.map (·.name)).Pairwise (fun x y=>bT x y=true):=by
 unfold Gy at h;rw[zI];exact h.imp (fun EH=>aaM EH)
theorem ahI{l:List Hl}{names:List (List UInt8)}(h:names.Pairwise (fun x y=>bT x y=true)):(Fq l names).map (·.name)=names:=by
 unfold Fq;rw[JX h,I4]
 conv=>rhs;rw[<-List.map_id names]
 apply Db;intro s _;exact ag2 l s
theorem als(l:List Hl)(s:List UInt8):Cm l s∈l\/Cm l s=⟨s,false,0⟩:=by
 unfold Cm;split
 ·exact .inr rfl
 ·rename_i h
  left;unfold Ae at h ⊢;cases hf:l.findIdx? (fun x=>x.name==s)with
  | none=>rw[hf]at h;simp at h
  | some i=>
    obtain⟨hi,_,_⟩:=gV.1 hf;simp only[dQ];rw[av,aD hi];exact eO hi
theorem ao5{M:Int}{e:En}{s:qK}(h:oG M e s)(o:qX)(hof:o.bk.ru)(how:o.w<18446744073709551616):oG M e (opE s o).1:=by
 obtain⟨_,_,⟨r1,_⟩,f1,_⟩:=sU h.cn;unfold opE;split
 ·rename_i hw
  have hd:=agY h.pl h.fi hof how hw;have hs:=(xH.1 hd.1).2.2.2.2;refine⟨h.cn,?_,hd.2,?_,?_,h.fl,h.fw,h.ti,h.no,h.ct⟩
  ·simp only[doV,hw,if_true];exact hd.1
  ·simp only
   exact ahI (alr hs)
  ·intro x hx
   simp only at hx;unfold Fq at hx;obtain⟨n,_,rfl⟩:=iQ.1 hx;rcases als s.nP n with hm|hm
   ·exact h.hl _ hm
   ·rw[hm]
    simp only[jH,if_false];omega
 ·exact h
theorem ao6{x:Hl}{well:Bool}{rise fall:Int}(hr:1<=rise/\rise<=100)(hf:1<=fall/\fall<=100)(h:0<=x.run/\x.run<(if x.down then rise else fall)):0<=(vk x well rise fall).1.run/\(vk x well rise fall).1.run<(if(vk x well rise fall).1.down then rise else fall):=by
 have hb:∀n:Int,1<=n/\n<=100->vg n=n:=fun n hn=>by unfold vg;rw[if_neg (by omega),if_neg (by omega)]
 unfold vk;cases hd:x.down
 ·rw[hd]at h
  simp only[jH,if_false]at h ⊢;rw[hb _ hf];split
  ·simp only[hd,jH,if_false];omega
  ·split
   ·simp only[Bool.not_false,if_true];omega
   ·simp only[jH,if_false];omega
 ·rw[hd]at h
  simp only[if_true]at h ⊢;rw[hb _ hr];split
  ·simp only[hd,if_true];omega
  ·split
   ·simp only[Bool.not_true,jH,if_false];omega
   ·simp only[if_true];omega
theorem alu(x:Hl)(well:Bool)(rise fall:Int):(vk x well rise fall).1.name=x.name:=by
 unfold vk
 repeat' split
 all_goals rfl
theorem ae9{M:Int}{e:En}{s:qK}(h:oG M e s)(n:List UInt8)(well:Bool):oG M e (TD e s n well).1:=by
 obtain⟨_,_,hr,hf⟩:=sU h.cn;unfold TD;split
 ·rename_i h0
  unfold Lu at h0 ⊢;split
  ·rename_i h1;rw[if_pos h1]at h0;cases h0
  ·rename_i h1
   have wW:(Ae s.nP n).toNat<s.nP.length:=by
    unfold Ae at h1 ⊢;cases hf:s.nP.findIdx? (fun x=>x.name==n)with
    | none=>rw[hf]at h1;simp at h1
    | some i=>
      obtain⟨hi,_,_⟩:=gV.1 hf;simpa using hi
   have hm:s.nP.getD (Ae s.nP n).toNat lG∈s.nP:=by
    rw[av,aD wW];exact eO wW
   refine⟨h.cn,h.pl,h.fi,?_,?_,h.fl,h.fw,h.ti,h.no,h.ct⟩
   ·simp only
    rw[<-h.nm,List.map_set];apply iI;intro i;rw[fG];split
    ·rename_i hi
     subst hi;rw[bR,if_pos wW,alu,jD,aD wW,av,aD wW];rfl
    ·rfl
   ·intro x hx
    simp only at hx;rcases List.mem_or_eq_of_mem_set hx with hx|rfl
    ·exact h.hl x hx
    ·exact ao6 hr hf (h.hl _ hm)
 ·exact h
theorem ao7{M:Int}{e:En}{s:qK}(h:oG M e s):oG M e (TJ e s).1:=by
 unfold TJ;split
 ·exact h
 ·have ht:=h.ti
  refine⟨h.cn,h.pl,h.fi,h.nm,h.hl,h.fl.aBo _ _,?_,by simp only;omega,h.no,h.ct⟩;intro f hf;have:=h.fw f (mh.1 hf).1;simp only;omega
theorem wT{M:Int}{e:En}{s:qK}(h:oG M e s)(a:Ac)(hof:a.op.bk.ru)(how:a.op.w<18446744073709551616):oG (M+1) e (vW e s a).1:=by
 unfold vW;split
 ·exact alq h _
 ·split
  ·exact(ao5 h a.op hof how).le (by omega)
  ·split
   ·exact(ae9 h _ _).le (by omega)
   ·split
    ·exact(ao7 h).le (by omega)
    ·exact h.le (by omega)
theorem oN{place:Nat->Option (Nat×Nat)}(i off:Nat)(v:aC)(ps:List (Nat×aC))(p r:Array aC)(h:place i=some (off,1))(hv:v.cells = #[v])(ho:off<p.size):fB place (p++r) ((i,v)::ps)=fB place (p.setIfInBounds off v++r) ps:=by
 rw[EM place _ i off 1 v ps h (by rw[hv];rfl) (by rw[nW];omega),hv];congr 1;apply dV;intro j;rw[EL];simp only[nW,aG,Array.size_setIfInBounds,dO];by_cases hj:j=off
 ·subst hj
  simp[ho];omega
 ·by_cases h1:off<=j/\j<off+1
  ·omega
  ·have:¬off=j:=fun e=>hj e.symm
   simp[this];intro a b;omega
@[go_sem]theorem aCk(W:au)(head dz IU aQ:Int)(src dst:fu):(uW 189 #[(0,.int .i64 head),(1,.int .i64 dz),(2,.int .i64 IU),(5,.int .i64 aQ),(6,.agg src.aA),(7,.agg dst.aA)]).run aj W=.ok (.agg (Sx.mk head dz IU false 0 aQ src dst).aA) W:=
 kSx.bd W _ _ _ _ pF (awX W _ pF) (by
  show fB _ (#[aJ .i64 0,.int .i64 0,.int .i64 0,.bool false,.int .i64 0,.int .i64 0]++(ng.aA++ng.aA)) [(0,.int .i64 head),(1,.int .i64 dz),(2,.int .i64 IU),(5,.int .i64 aQ),(6,.agg src.aA),(7,.agg dst.aA)]=_;rw[oN 0 0 _ _ _ _ rfl rfl (by simp),oN 1 1 _ _ _ _ rfl rfl (by simp),oN 2 2 _ _ _ _ rfl rfl (by simp),oN 5 5 _ _ _ _ rfl rfl (by simp)];rw[U2]
  ·simp[qY,cu,Sx.aA]
  ·simp[rU,cu,fu.ak])
@[go_sem]theorem aCl(W:au)(head dz MX aQ:Int)(keep:Bool)(src dst:fu):(uW 192 #[(0,.int .i64 head),(1,.int .i64 dz),(5,.bool keep),(6,.int .i64 MX),(7,.int .i64 aQ),(8,.agg src.aA),(9,.agg dst.aA)]).run aj W=.ok (.agg (Fo.mk head dz 0 0 false keep MX aQ src dst).aA) W:=
 kFo.bd W _ _ _ _ pE (awT W _ pE) (by
  show fB _ (#[aJ .i64 0,.int .i64 0,.int .i64 0,.int .i64 0,.bool false,.bool false,.int .i64 0,.int .i64 0]++(ng.aA++ng.aA)) [(0,.int .i64 head),(1,.int .i64 dz),(5,.bool keep),(6,.int .i64 MX),(7,.int .i64 aQ),(8,.agg src.aA),(9,.agg dst.aA)]=_;rw[oN 0 0 _ _ _ _ rfl rfl (by simp),oN 1 1 _ _ _ _ rfl rfl (by simp),oN 5 5 _ _ _ _ rfl rfl (by simp),oN 6 6 _ _ _ _ rfl rfl (by simp),oN 7 7 _ _ _ _ rfl rfl (by simp)];rw[U2]
  ·simp[qY,cu,Fo.aA]
  ·simp[rU,cu,fu.ak])
section
attribute [local go_sem high] iT jG
theorem oV.mO{T:bM}{n:Nat}{z:Array aC}(K:oV T n z){W:au}{b:Nat}{c:Array aC}(h:dL W b c)(hc:c.size=n):(yt T (.pointer (some ⟨b,0,none⟩))).run aj W=.ok (.agg c) W:=by
 have hs:eu c=n:=hc;rw[K.ld W b 0 (of_eq_true (h.aI.2.2.1 0 n (by omega))),h.aI.2.2.2 0 n (by omega)];simp[<-hc]
theorem dL.ajw{W:au}{b:Nat}{a:fu}(h:dL W b a.aA):(rR (.pointer (some ⟨b,0,none⟩))).run aj W=.ok (.agg a.aA) W:=by
 have hs:eu a.aA=17:=fu.ak a;rw[NT W b 0 (of_eq_true (h.aI.2.2.1 0 17 (by omega))),h.aI.2.2.2 0 17 (by omega)];simp[<-fu.ak a]
theorem alv{d s:Vector UInt8 6}{fH:List Tg}{ty:Int}(h:fH.length<=2):(qG d s fH ty).length<=1000:=by
 have h2:=FJ fH;unfold qG;simp only[aS,h2,Vector.length_toList];simp[qw];omega
theorem ae'(x:Sx):(xk x).length=40:=by simp[xk]
theorem Bx.ow{L:List (Nat×Array aC)}{w W W':au}{B:Nat}{g:Option Nat}{v:aC}{bs:List UInt8}(h:Bx L w W)(k:Ow B g W v bs W')(hB:∀p∈L,p.1<B)(hw:w.heap.size<=B):Bx L w W':=
 ⟨h.1.trans (k.below.mono hw),fun p hp=>⟨(h.2 p hp).1,by obtain⟨t,ht⟩:=(h.2 p hp).2;exact⟨t,(k.below.block p.1 (hB p hp)).trans ht⟩⟩⟩
theorem XI(x:Fo):(uf x).length=20:=by simp[uf,ae0,DX]
theorem LG(W:au):gy W W.heap.size none 0 []:=DT (Ly.nil (w:=W)).o (Below.refl _ _)
end
section
attribute [local go_sem high] iT jG
theorem ao8(f:Nat):∀(x:Sx)(r:List UInt8),(zu f x r).1.dz=x.dz\/(zu f x r).1=qM:=by
 induction f with
 | zero=>intro x r;unfold zu;split;exact .inl rfl;exact .inr rfl
 | succ f ih=>
   intro x r;unfold zu;split
   ·exact .inl rfl
   ·split
    ·exact .inr rfl
    ·exact ih _ _
theorem afa(k:Int)(l:List UInt8):0<=(AL k l).dz/\(AL k l).dz<=l.length:=by
 unfold AL;split
 ·unfold AB
  split
  ·rename_i h1 h2
   have:=aoL (l:=l) (by unfold AB;rw[if_pos h2]);unfold AB at this;rw[if_pos h2]at this;simp only at this ⊢;omega
  ·simp[xK]
 ·split
  ·unfold By
   split
   ·simp[qM]
   ·split
    ·simp[qM]
    ·split
     ·simp[qM]
     ·rcases ao8 8 (sx0 l) ((l.take (40+eX l 4)).drop 40)with h|h
      ·rw[h];show 0<=(40:Int)+eX l 4/\(40:Int)+eX l 4<=l.length;omega
      ·simp[h,qM]
  ·simp[tq]
def Uu(l:List UInt8):Tn:=if(mD l).2≠0 then tq else AL (mD l).1.oF (l.drop (mD l).1.fE)
def JY(l:List UInt8):List UInt8:=if(mD l).2≠0 then []else(l.drop (mD l).1.fE).take (Uu l).dz.toNat
def aCm(W:au)(l:List UInt8)(e:kX)(W':au):Prop:=∃A c PA pn pc,e=.returned (.tuple #[.agg ((mD l).1.cell A c).aA,.agg (Uu l).aA,.slice PA pn pc])/\iO Tg.aA 2 W' W'.heap.size A (mD l).1.fH.length (mD l).1.fH/\gy W' W'.heap.size PA pn (JY l)/\pn<=pc/\(pc<=9223372036854775807/\pn<=1000000)/\aN W.heap.size W W'
theorem axL{l:List UInt8}(h:(mD l).2≠0):(mD l).1=Fy:=by
 have go:∀(m k:Nat)(fH:List Tg),(Dv l m k fH).2≠0->(Dv l m k fH).1=Fy:=by
  intro m
  induction m with
  | zero=>intro k fH h;unfold Dv at h⊢;split at h<;>first|(exact absurd rfl h)|(rename_i h1;simp_all)|rfl
  | succ m ih=>
    intro k fH;cases ht:uw (eX l (k-2):Nat)with
    | false=>rw[Aj ht];intro h;exact absurd rfl h
    | true=>
      by_cases h4:l.length<k+4
      ·rw[Cx ht h4];intro _;rfl
      ·rw[Fz ht h4];exact ih _ _
 unfold mD at h ⊢;split
 ·rfl
 ·rename_i h1;rw[if_neg h1]at h;exact go _ _ _ h
section
variable {fn:Func} {p q u:Tmp} {T U:bM} {b1 b2 n m:Nat} {z y c d:Array aC} {W:au}
theorem ajx(K:oV T n z)(K2:oV U m y)(h:fn.results = #[.cell p T,.cell q U,.tmp u])(tmps:Array aC)(hp:tmps.getD p undef=.pointer (some ⟨b1,0,none⟩))(hq:tmps.getD q undef=.pointer (some ⟨b2,0,none⟩))(hb:dL W b1 c)(hc:c.size=n)(hd:dL W b2 d)(hdc:d.size=m):(results fn tmps).run aj W=.ok (.tuple #[.agg c,.agg d,tmps.getD u undef]) W:=by
 have l1:=K.mO hb hc;have l2:=K2.mO hd hdc;unfold yt at l1 l2;simp only[bZ,Instr.sureAddr,jK,ou,Result.andThen_ok]at l1 l2;rw[Array.getD_eq_getD_getElem?]at hp hq;simp[results,h,hp,hq,asAddr,iD,l1,l2]
end
theorem iO.aCn{α:Type}{f:α->Array aC}{s:Nat}{w w':au}{B B':Nat}{A:Option aU}(h:iO f s w B A 0 []):iO f s w' B' A 0 []:=
 ⟨rfl,⟨by simp,fun h=>absurd h (by omega)⟩,fun a _ h=>absurd h (by omega)⟩
theorem XJ{l:List UInt8}:∀(m k:Nat)(fH:List Tg),(∀t∈fH,uw t.oF=true)->(∀t∈(Dv l m k fH).1.fH,uw t.oF=true)
 | 0,k,fH,h=>by
   cases ht:uw (eX l (k-2):Nat)with
   | false=>rw[Aj ht];exact h
   | true=>rw[KY ht];exact fun t ht=>by simp[Fy]at ht
 | m+1,k,fH,h=>by
   cases ht:uw (eX l (k-2):Nat)with
   | false=>rw[Aj ht];exact h
   | true=>
     by_cases h4:l.length<k+4
     ·rw[Cx ht h4];exact fun t ht=>by simp[Fy]at ht
     ·rw[Fz ht h4]
      refine XJ m (k+4) _ (fun t h2=>?_);rcases qB.1 h2 with h2|h2
      ·exact h t h2
      ·rw[fO.1 h2];exact ht
theorem Sb(l:List UInt8):∀t∈(mD l).1.fH,uw t.oF=true:=by
 unfold mD;split
 ·exact fun t ht=>by simp[Fy]at ht
 ·exact XJ 2 14 [] (fun t ht=>by cases ht)
def ao9(c:Array aC):Bool:=c.all fun v=>match v with | .int .i64 z=>decide (z=0)|_=>true
theorem alw{c:Array aC}(h:ao9 c=true){j:Nat}{t:Int}(ht:t≠0):c[j]?≠some (.int .i64 t):=fun e=>by
 have:=Array.all_eq_true_iff_forall_mem.1 h _ (Array.mem_of_getElem? e);simp at this;exact ht this
theorem iO.apart{w:au}{B b n:Nat}{A:Option aU}{l:List Tg}{c:Array aC}(h:iO Tg.aA 2 w B A n l)(hi:∀t∈l,uw t.oF=true)(hb:dL w b c)(hc:ao9 c=true)(hn:0<n):∀a,A=some a->b≠a.block:=by
 intro a ha e;obtain⟨b',o,hA,_,hcell⟩:=h.cell Tg.ak Us hn;rw[hA]at ha;injection ha with ha
 subst ha;simp only at e;subst e;have h1:=hcell 0 (by omega);rw[hb.aI.1,Tg.Et]at h1;have ht:=hi _ (ET Us l 0 (by rw[h.1];exact hn));refine alw hc ?_ h1;intro e0;rw[e0]at ht;cases ht
theorem iO.au9{α:Type}{f:α->Array aC}{s:Nat}{B b n:Nat}{A:Option aU}{l:List α}(hp:∀a,A=some a->b≠a.block)(x:Array aC):∀(o:Nat) {w:au},iO f s w B A n l->iO f s (gT w b o x) B A n l:=by
 have:∀(vs:List aC)(o:Nat)(w:au),iO f s w B A n l->iO f s (w.setCells b o vs) B A n l:=by
  intro vs
  induction vs with
  | nil=>exact fun _ _ h=>h
  | cons v vs ih=>intro o w h;exact ih (o+1) _ (h.aGl v (fun a ha=>hp a ha))
 exact fun o w h=>this _ _ _ h
theorem alx(w:au)(A:Option aU)(n c:Nat)(l:List UInt8)(tX:n<=c)(hc:c<=9223372036854775807/\n<=1000000)(hr:gy w w.heap.size A n l):aR aj 99 #[.slice A n c] w (aCm w l):=by
 have HR:=ah hr;have hl:=ah hr.len;have h0:=((Bx.start w).new qR.aA 108).new tq.aA 179;simp only[World.size_alloc]at h0;have Z0:=ah h0;have CL:=ah (Py _ A n c l tX (by omega) (h0.Nc hr));clear h0 hr;go_enter Tryz.func99,Tryz.ntmps99;obtain⟨r,hrr⟩:∃r,r=mD l:=⟨_,rfl⟩
 have Xx:=ah hrr;obtain⟨k,er⟩:=r;unfold LkP at CL;rw[<-hrr]at CL;clear hrr;go_upto_region 1 with fail
 generalize(w.alloc (.cells qR.aA 108)).alloc (.cells tq.aA 179)=w0 at Z0 CL ⊢;go_upto_region 2 with(go_at_call 91;(with_reducible refine CL.out.mono ?_);rintro e w1 ⟨TA,tc,rfl,hT,gI⟩;have Z1:=ah ((Z0.out.go gI).new (k.cell TA tc).aA 108);have HW:=ah (Z0.out.go gI).b0.lt;have RT:=ah (hT.alloc (ay _) (.cells (k.cell TA tc).aA 108));clear gI hT)
 have HW2:=ah (show w1.heap.size<=(w1.alloc (.cells (k.cell TA tc).aA 108)).heap.size by simp);generalize w1.alloc (.cells (k.cell TA tc).aA 108)=w2 at Z1 RT HW2 ⊢;generalize w1.heap.size=y5 at Z1 RT HW HW2 ⊢;have YL:=HW2;have NI:=ah (show∀r∈[(w.heap.size+1,tq.aA),(w.heap.size,qR.aA)],r.1≠y5 from fun r hr=>by
  have:=HW.out;simp only[bD,fK,or_false]at hr;rcases hr with rfl|rfl<;>simp only[]<;>omega)
 by_cases h1:er≠0
 ·have q:(er != 0)=true:=by simp[h1]
  have HTN:=ah (show Uu l=tq by unfold Uu;rw[<-Xx.out,if_pos h1]);have HPK:=ah (show JY l=[]by unfold JY;rw[<-Xx.out,if_pos h1]);have l5:=kLc.mO Z1.out.b0 (Lc.ak _);have Z2:=ah (Z1.out.sub (L':=[(w.heap.size,qR.aA),(y5,(k.cell TA tc).aA),(w.heap.size+1,tq.aA)]) (by simp));have Z3:=ah (Z2.out.put (fun r hr=>by
   have:=HW.out;simp only[bD,fK,or_false]at hr;rcases hr with rfl|rfl<;>simp only[]<;>omega) (k.cell TA tc).aA (by rw[Lc.ak,Lc.ak]))
  have axM:=Z2.out.b0.there 0 15 (Nat.le_of_eq (Lc.ak qR).symm);have axN:=Z3.out.b2.there 0 5 (Nat.le_of_eq (Tn.ak tq).symm);have Z4:=ah ((Z3.out.sub (L':=[(w.heap.size+1,tq.aA),(w.heap.size,(k.cell TA tc).aA)]) (by simp)).put (fun r hr=>by
   simp only[bD,fK,or_false]at hr;rcases hr with rfl<;>simp only[]<;>omega) tq.aA rfl)
  go_wp2;refine bodyPost_ret (ajx kLc kTn rfl _ rfl rfl Z4.out.b1 (Lc.ak _) Z4.out.b0 (Tn.ak _)) rfl ?_;have RT2:=RT.out;refine⟨TA,tc,none,0,0,by rw[HTN.out,<-Xx.out];rfl,?_,by rw[HPK.out];exact LG _,ay _,by omega,Z4.out.dF⟩;have Ny:k=Fy:=by have:=axL (l:=l) (by rw[<-Xx.out];exact h1);rw[<-Xx.out]at this;exact this
  rw[<-Xx.out];subst Ny;exact iO.aCn RT2
 obtain rfl:er=0:=by simpa using h1
 have q00:((0:Int) != 0)=false:=rfl;obtain⟨yj,aeX⟩:=ahz (l:=l) (by rw[<-Xx.out]);rw[<-Xx.out]at yj aeX;rw[hl.out]at aeX;simp only at yj aeX;have i1:(k.fE:Int)<=n:=by omega
 have F8:=ah (fun(w':au) (h:Bx [(y5,(k.cell TA tc).aA),(w.heap.size+1,tq.aA),(w.heap.size,qR.aA)] w w')=>show w'.cell? ⟨y5,13,none⟩=some (.int .i64 k.oF)/\w'.cell? ⟨y5,14,none⟩=some (.int .i64 (k.fE:Nat))from⟨(h.b0.aI.1 13).trans (Lc.Et _),(h.b0.aI.1 14).trans (Lc.MZ _)⟩);have CN:=ah (fun(w':au) (h:Bx [(y5,(k.cell TA tc).aA),(w.heap.size+1,tq.aA),(w.heap.size,qR.aA)] w w')=>ahF w' k.oF (vP A k.fE c 1) (n-k.fE) (c-k.fE) (l.drop k.fE) (by omega) (by omega) ((h.Nc HR.out).zo (by omega) tX));have HTN:=ah (show Uu l=AL k.oF (l.drop k.fE)by unfold Uu;rw[<-Xx.out,if_neg (by simp)]);have HPK:=ah (show JY l=(l.drop k.fE).take (Uu l).dz.toNat by unfold JY;rw[<-Xx.out,if_neg (by simp)]);have HTO:=ah (afa k.oF (l.drop k.fE));obtain⟨g,hg⟩:∃g,g=AL k.oF (l.drop k.fE):=⟨_,rfl⟩
 have HG:=ah hg;rw[<-hg]at CN HTN HTO;clear hg;rw[HTN.out]at HPK;go_upto_region 4 with fail
 refine RL (Xn (Bx.acD ([(y5,(k.cell TA tc).aA),(w.heap.size+1,tq.aA),(w.heap.size,qR.aA)]) w) w2) 7 8 7 179 tq.aA (by kernel_rfl) rfl (by kernel_rfl) (by decide) (by decide) (by kernel_rfl) (by kernel_rfl) (by kernel_rfl) rfl rfl rfl (fun a w=>by simp[go_sem]) ⟨Z1.out.drew,(Below.refl w2.heap.size w2).drew⟩ ?_;apply Exists.intro;refine⟨fun T f hT es ew=>?_,?_⟩
 ·have EW:=ah ew
  have ES:=ah es;have k1:=fun m=>(F8.out _ (ES.out m).1).1
  have k2:=fun m=>(F8.out _ (ES.out m).1).2
  have CF:=ah (fun m=>CN.out _ (ES.out m).1);clear es ew;simp only[kW,List.set_cons_succ,List.set_cons_zero,List.take_succ_cons,jZ]
  repeat(go_big_quiet_step ((first|(go_at_call 101;(with_reducible refine(CF.out _).mono ?_);rintro e w2 ⟨rfl,hb⟩;exact⟨rfl,EW.out _ _ hb⟩))))
  exact wpQuiet_nil rfl
 ·intro w9 w8 Am _ hb
  have BN:=(Am.2.alloc Am.2.size (.cells tq.aA 179)).trans (hb.mono (by simp;exact Nat.le_succ_of_le Am.2.size));have aIx:=Am.2.size
  replace Am:=Am.1
  have ZN:=(Am.new tq.aA 179).go hb;have hy:=Am.dF.size;have HYW:=BN.size;have BN:=ah BN;have ZN:=ah ZN;have zq:=ZN.out.b0.there 0 5 (Nat.le_of_eq (Tn.ak tq).symm);have hyy:y5<w9.heap.size:=Am.b0.lt;generalize w9.heap.size=y7 at *;have Z8:=ah (ZN.out.put (fun r hr=>by
   have:=HW.out;simp only[bD,fK,or_false]at hr;rcases hr with rfl|rfl|rfl<;>simp only[]<;>omega) g.aA (by rw[Tn.ak,Tn.ak]))
  have B8:=ah (lq BN.out y7 0 g.aA aIx);go_upto_region 5 with fail
  clear zq ZN;generalize gT w8 y7 0 g.aA=w10 at Z8 B8 ⊢;obtain⟨T0,hT0⟩:∃T:Nat,g.dz=T:=⟨g.dz.toNat,by have:=HTO.out;omega⟩
  have hT1:T0+k.fE<=n:=by have:=HTO.out.2;rw[jA,hl.out]at this;omega
  have HTT:=ah hT0;obtain⟨m0,hm0⟩:∃m:Nat,m=k.fE+T0:=⟨_,rfl⟩
  have q1:=jU ((k.fE:Int)+T0) (by omega);have q2:(k.fE:Int)+T0=m0:=by omega
  rw[q2]at q1;have q3:(k.fE:Int)<=m0:=by omega
  have q4:(m0:Int)<=c:=by omega
  have HM:=ah hm0;have HMN:=ah (show m0<=n by omega);have F9:=ah (fun(w':au) (h:Bx [(y7,g.aA),(y5,(k.cell TA tc).aA)] w w')=>show(yt 108 (.pointer (some ⟨y5,0,none⟩))).run aj w'=.ok (.agg (k.cell TA tc).aA) w'/\(yt 179 (.pointer (some ⟨y7,0,none⟩))).run aj w'=.ok (.agg g.aA) w'/\w'.cell? ⟨y5,14,none⟩=some (.int .i64 (k.fE:Nat))/\w'.cell? ⟨y7,1,none⟩=some (.int .i64 (T0:Nat))from⟨kLc.mO h.b1 (Lc.ak _),kTn.mO h.b0 (Tn.ak _),(h.b1.aI.1 14).trans (Lc.MZ _),(h.b0.aI.1 1).trans ((Tn.yN g).trans (by rw[HTT.out]))⟩);clear hT0 hm0 hT1;have ZA:=ah Z8.out.drew;have WB:=ah B8.out.drew;have Z2:=ah (ZA.out.sub (L':=[(w.heap.size,qR.aA),(w.heap.size+1,tq.aA),(y7,g.aA),(y5,(k.cell TA tc).aA)]) (by simp));have aQu:w.heap.size+1<y5:=HW.out;have Z3:=ah (Z2.out.put (fun r hr=>by
   simp only[bD,fK,or_false]at hr;rcases hr with rfl|rfl|rfl<;>simp only[]<;>omega) (k.cell TA tc).aA (by rw[Lc.ak,Lc.ak]))
  have axM:=Z2.out.b0.there 0 15 (Nat.le_of_eq (Lc.ak qR).symm);have axN:=Z3.out.b1.there 0 5 (Nat.le_of_eq (Tn.ak tq).symm);have Z4:=ah ((Z3.out.sub (L':=[(w.heap.size+1,tq.aA),(w.heap.size,(k.cell TA tc).aA),(y7,g.aA),(y5,(k.cell TA tc).aA)]) (by simp)).put (fun r hr=>by
   simp only[bD,fK,or_false]at hr;rcases hr with rfl|rfl|rfl<;>simp only[]<;>omega) g.aA (by rw[Tn.ak,Tn.ak]))
  obtain⟨k1,k2,k3,k4⟩:=F9.out _ (ZA.out.sub (by simp));obtain⟨k5,k6,k7,k8⟩:=F9.out _ (Z3.out.sub (by simp));obtain⟨k9,k10,k11,k12⟩:=F9.out _ (Z4.out.sub (by simp));go_region;go_wp2;refine bodyPost_ret (ajx kLc kTn rfl _ rfl rfl Z4.out.b1 (Lc.ak _) Z4.out.b0 (Tn.ak _)) rfl ?_;have hHN:=HMN.out;have RF:=ah (show gy (gT (gT w10.drew w.heap.size 0 (k.cell TA tc).aA) (w.heap.size+1) 0 g.aA) (gT (gT w10.drew w.heap.size 0 (k.cell TA tc).aA) (w.heap.size+1) 0 g.aA).heap.size (vP A k.fE c 1) (m0-k.fE) (JY l)by
   have:=(Z4.out.Nc HR.out).aeO (z:=k.fE) (b:=m0) (c:=c) (by omega) hHN tX;have e2:(l.take m0).drop k.fE=JY l:=by rw[HPK.out,HTT.out,dQ,List.drop_take,HM.out,Nat.add_sub_cancel_left]
   rwa [e2]at this)
  have TF:=ah (show iO Tg.aA 2 (gT (gT w10.drew w.heap.size 0 (k.cell TA tc).aA) (w.heap.size+1) 0 g.aA) (gT (gT w10.drew w.heap.size 0 (k.cell TA tc).aA) (w.heap.size+1) 0 g.aA).heap.size TA k.fH.length k.fH by
   have h1:iO Tg.aA 2 w10.drew y5 TA k.fH.length k.fH:=RT.out.below (WB.out.mono YL.out);have hI:=Sb l;rw[<-Xx.out]at hI;by_cases h0:k.fH.length=0
   ·have e0:k.fH=[]:=List.eq_nil_of_length_eq_zero h0
    rw[e0]at h1 ⊢;exact iO.aCn h1
   ·have p1:=h1.apart hI ZA.out.b3 (by kernel_rfl) (by omega)
    have p2:=h1.apart hI ZA.out.b2 (by kernel_rfl) (by omega);exact(iO.au9 p2 _ 0 (iO.au9 p1 _ 0 h1)).lF (aP (Nat.le_of_lt hyy) (Nat.le_of_lt (Z4.out.b2).lt)))
  refine⟨TA,tc,vP A k.fE c 1,m0-k.fE,c-k.fE,by rw[HTN.out,<-Xx.out];rfl,?_,RF.out,by omega,by omega,Z4.out.dF⟩;rw[<-Xx.out];exact TF.out
end
section
attribute [local go_sem high] iT jG
theorem aCq(a c:Nat)(ha:a<256)(hc:c<256):bits .or .i64 ((a:Int)*256) (c:Int)=((a*256+c:Nat):Int):=by
 have h1:fU 64 ((a:Int)*256)=IC 64 (a*256):=by rw[show((a:Int)*256)=((a*256:Nat):Int)by omega];exact lU _ _
 have h2:fU 64 (c:Int)=IC 64 c:=lU _ _;show bU.wrap ((fU 64 ((a:Int)*256) ||| fU 64 (c:Int)).toNat:Int)=_;rw[h1,h2,BitVec.toNat_or,nG,nG,fM (by omega),fM (by omega),show a*256=a <<< 8 by rw[mF],<-Nat.shiftLeft_add_eq_or_of_lt (by omega)];rw[mF];simp[vR,nS,lT];omega
theorem asW:lW 5 = #[0,1,2,3,4]:=by apply oZ;rw[j5];rfl
@[go_sem]theorem au'(w:au)(a b c d e:Int):(MV 5 #[(0,.int .i64 a),(1,.int .i64 b),(2,.int .i64 c),(3,.int .i64 d),(4,.int .i64 e)]).run aj w=.ok (.slice (some ⟨w.heap.size,0,none⟩) 5 5) (w.alloc (.cells (sQ [a,b,c,d,e]) 3)):=by
 obtain⟨i0,oz,mZ,nu⟩:=UZ;simp[MV,bJ,dJ oq,zeroValue,sizeOf,typeInfo,oz,mZ,nu,fB,newRow,sQ,cu,asW]
def ajy(x:Fo):List Nat:=[x.dz.toNat,x.id.toNat,if x.keep then 16384 else 0,x.MX.toNat*256+x.aQ.toNat,0]
def Iy(l:List Nat):List Int:=l.map (fun n:Nat=>(n:Int))
theorem alz(l:List Nat)(j:Nat)(hj:j<l.length):(sQ (Iy l))[j]? = some (.int .i64 ((l.getD j 0:Nat):Int)):=by
 have:=aax (Iy l) j (by simpa[Iy]using hj);rw[bB]at this;rw[this];simp[Iy,av,hj]
theorem gy.upN{w:au}{B n k:Nat}{A:Option aU}{l:List UInt8}(h:gy w B A n l)(hk:k<=n):gy w B A k (l.take k):=by
 have:=Rd.upto h hk
 rwa [gF,<-Bf]at this
theorem acS{l:List UInt8}{k:Nat}{a b:UInt8}(h:k+2<=l.length):sD l k [a,b]=(l.set k a).set (k+1) b:=by
 apply iI;intro i;unfold sD;simp only[dB,kR,bK,jg,jf,fG,aW,bC,List.length_nil];by_cases h1:i<k
 ·simp[h1,show¬k+1=i by omega,show¬k=i by omega,show i<min k l.length by omega]
 ·by_cases h2:i=k
  ·subst h2
   simp[show i<l.length by omega,show min i l.length=i by omega]
  ·by_cases h3:i=k+1
   ·subst h3
    simp[show k+1<l.length by omega,show min k l.length=k by omega,show¬k+1<k by omega]
   ·have e1:min k l.length=k:=by omega
    have e2:k+2+(i-k-2)=i:=by omega
    simp[show¬k+1=i by omega,show¬k=i by omega,e1,h1,show¬i-k<2 by omega,e2]
theorem ao'(x:Fo)(h1:x.MX.toNat<256)(h2:x.aQ.toNat<256):DX x=[69,aK x.Qp.toNat]++(ajy x).flatMap (fun n:Nat=>qw (n:Int))++x.src.b.toList.take 4++x.dst.b.toList.take 4:=by
 unfold DX ajy;have e1:(x.MX.toNat*256+x.aQ.toNat)/256=x.MX.toNat:=by omega
 have e2:(x.MX.toNat*256+x.aQ.toNat)%256=x.aQ.toNat:=by omega
 cases x.keep<;>simp[qw,e1,e2]
theorem TL(x:Fo)(hh:x.head=20)(s0:0<=x.Qp)(s1:x.Qp<=255)(t0:20<=x.dz)(t1:x.dz<=65535)(i0:0<=x.id)(i1:x.id<=65535)(l0:0<=x.MX)(l1:x.MX<=255)(p0:0<=x.aQ)(p1:x.aQ<=255)(hf:x.oM=false)(hs:(!x.src.j6&&x.src.mK)=true)(hd:(!x.dst.j6&&x.dst.mK)=true)(w:au):aR aj 271 #[.agg x.aA] w (ae3 w (uf x)):=by
 have Z:=ah ((Bx.start w).new x.aA 192);have FA:=ah (fun(w':au) (h:dL w' w.heap.size x.aA)=>show w'.cell? ⟨w.heap.size,0,none⟩=some (.int .i64 20)/\w'.cell? ⟨w.heap.size,1,none⟩=some (.int .i64 x.dz)/\w'.cell? ⟨w.heap.size,2,none⟩=some (.int .i64 x.Qp)/\w'.cell? ⟨w.heap.size,3,none⟩=some (.int .i64 x.id)/\w'.cell? ⟨w.heap.size,4,none⟩=some (.bool false)/\w'.cell? ⟨w.heap.size,5,none⟩=some (.bool x.keep)/\w'.cell? ⟨w.heap.size,6,none⟩=some (.int .i64 x.MX)/\w'.cell? ⟨w.heap.size,7,none⟩=some (.int .i64 x.aQ)/\(rR (.pointer (some ⟨w.heap.size,8,none⟩))).run aj w'=.ok (.agg x.src.aA) w'/\(rR (.pointer (some ⟨w.heap.size,25,none⟩))).run aj w'=.ok (.agg x.dst.aA) w' by
  have f:=h.aI.1;have hz:x.aA.size=42:=Fo.ak x;refine⟨(f 0).trans ((Fo.KX x).trans (by rw[hh])),(f 1).trans (Fo.yN x),(f 2).trans (Fo.awQ x),(f 3).trans (Fo.aBu x),(f 4).trans ((Fo.Vb x).trans (by rw[hf])),(f 5).trans (Fo.acq x),(f 6).trans (Fo.awR x),(f 7).trans (Fo.Cv x),?_,?_⟩
  ·rw[NT w' w.heap.size 8 (of_eq_true (h.aI.2.2.1 8 17 (by unfold eu;omega))),h.aI.2.2.2 8 17 (by unfold eu;omega),Fo.JI]
  ·rw[NT w' w.heap.size 25 (of_eq_true (h.aI.2.2.1 25 17 (by unfold eu;omega))),h.aI.2.2.2 25 17 (by unfold eu;omega),Fo.JJ])
 have CI:=ah (fun k m W (h:0<=k/\k<=m)=>show aR aj 316 #[.int .i64 k,.int .i64 m] W (fun e W'=>e=.returned (.bool true)/\aN W.heap.size W W')by
  have:=ahv k m W;rwa [decide_eq_true h.1,decide_eq_true h.2]at this)
 have C1:=ah (fun W=>CI.out x.dz 65535 W ⟨by omega,t1⟩);have C2:=ah (fun W=>CI.out x.Qp 255 W ⟨s0,s1⟩);have C3:=ah (fun W=>CI.out x.MX 255 W ⟨l0,l1⟩);have C4:=ah (fun W=>CI.out x.aQ 255 W ⟨p0,p1⟩);have C5:=ah (fun W=>CI.out x.id 65535 W ⟨i0,i1⟩);have C6:=ah (fun W=>by have:=Xg x.src W;rwa [hs]at this:∀W,aR aj 317 #[.agg x.src.aA] W fun e W'=>e=.returned (.bool true)/\aN W.heap.size W W');have C7:=ah (fun W=>by have:=Xg x.dst W;rwa [hd]at this:∀W,aR aj 317 #[.agg x.dst.aA] W fun e W'=>e=.returned (.bool true)/\aN W.heap.size W W');have q1:decide (x.dz<20)=false:=by simp;omega
 have HF:=ah (ao' x (by omega) (by omega));clear hh hf hs hd;go_enter Tryz.func271,Tryz.ntmps271;go_upto_region 1 with fail
 generalize w.alloc (.cells x.aA 192)=w1 at *;obtain⟨f0,f1,f2,f3,f4,f5,f6,f7,f8,f9⟩:=FA.out _ Z.out.b0;go_upto_region 3 with(first|(go_at_call 316;(first|(with_reducible refine(C1.out _).mono ?_)|(with_reducible refine(C2.out _).mono ?_)|(with_reducible refine(C3.out _).mono ?_)|(with_reducible refine(C4.out _).mono ?_)|(with_reducible refine(C5.out _).mono ?_));rintro e w5 ⟨rfl,hb⟩;have ZN:=ah (Z.out.go hb);clear f0 f1 f2 f3 f4 f5 f6 f7 f8 f9;obtain⟨f0,f1,f2,f3,f4,f5,f6,f7,f8,f9⟩:=FA.out _ ZN.out.b0;clear hb Z;have Z:=ZN;clear ZN)|(go_at_call 317;(first|(with_reducible refine(C6.out _).mono ?_)|(with_reducible refine(C7.out _).mono ?_));rintro e w5 ⟨rfl,hb⟩;have ZN:=ah (Z.out.go hb);clear f0 f1 f2 f3 f4 f5 f6 f7 f8 f9;obtain⟨f0,f1,f2,f3,f4,f5,f6,f7,f8,f9⟩:=FA.out _ ZN.out.b0;clear hb Z;have Z:=ZN;clear ZN))
 clear f0 f1 f2 f3 f4 f5 f6 f7 f8 f9 C1 C2 C3 C4 C5 C6 C7 CI q1;obtain⟨tt,htt⟩:∃n:Nat,x.dz=(n:Int):=⟨x.dz.toNat,by omega⟩
 obtain⟨ti,hti⟩:∃n:Nat,x.id=(n:Int):=⟨x.id.toNat,by omega⟩
 obtain⟨tl,NC⟩:∃n:Nat,x.MX=(n:Int):=⟨x.MX.toNat,by omega⟩
 obtain⟨tp,htp⟩:∃n:Nat,x.aQ=(n:Int):=⟨x.aQ.toNat,by omega⟩
 obtain⟨kb,hkb⟩:∃n:Nat,n=if x.keep then 16384 else 0:=⟨_,rfl⟩
 have aIy:kb<=16384:=by rw[hkb];split<;>omega
 have HNS:=ah (show ajy x=[tt,ti,kb,tl*256+tp,0]by unfold ajy;rw[htt,hti,NC,htp,<-hkb];rfl);rw[HNS.out]at HF;have f:=FA.out _ Z.out.b0;rw[htt,hti,NC,htp]at f;obtain⟨f0,f1,f2,f3,f4,f5,f6,f7,f8,f9⟩:=f;have q2:=aCq tl tp (by omega) (by omega);have q3:IntKind.u8.wrap x.Qp=x.Qp:=by rw[IntKind.wrap_u8];omega
 have HX1:=ah htt;have HX2:=ah hti;have HX3:=ah NC;have HX4:=ah htp;have B1:tt<=65535:=by omega
 have B2:ti<=65535:=by omega
 have B3:tl*256+tp<=65535:=by omega
 have B4:tl<=255:=by omega
 have B5:tp<=255:=by omega
 have HFA:=FA;have HKB:=ah hkb;clear htt hti NC htp i0 i1 l0 l1 p0 p1 t0 t1 HNS FA;cases hk:x.keep
 all_goals
  rw[hk]at f5;have HK:=ah hk;go_upto_region 6 with fail
  clear hk hkb;have L0:=ah ((Ly.aoY w w5 Z.out.dF #[.int .u8 69,.int .u8 x.Qp] [69,aK x.Qp.toNat] 2 rfl (by omega) (by
   simp only[kL,pR,bv];rw[zG x.Qp.toNat (by omega),Int.toNat_of_nonneg s0];rfl)).add (q:=w.heap.size) (c:=x.aA) (Z.out.b0.alloc _) (by simp[jW];exact Nat.ne_of_gt Z.out.b0.lt))
  go_upto_region 7 with fail
  clear f0 f1 f2 f3 f4 f5 f6 f7 f8 f9;generalize w5.alloc (.cells #[.int .u8 69,.int .u8 x.Qp] 5)=w6 at L0 ⊢;generalize bE (some ⟨w5.heap.size,0,none⟩) 2 2=v6 at L0 ⊢;have f:=HFA.out _ L0.out.b0;obtain⟨kv,hkv⟩:∃kv:Nat,kb=kv:=⟨_,rfl⟩
  have hkk:kb=(if x.keep then 16384 else 0):=HKB.out;rw[HK.out]at hkk;simp only[if_true,if_false,jH]at hkk;subst hkk;obtain⟨_,f1,_,f3,_,_,f6,f7,_,_⟩:=f;rw[HX1.out]at f1;rw[HX2.out]at f3;rw[HX3.out]at f6;rw[HX4.out]at f7;clear hkv kv;go_upto_region 8 with fail
  clear f1 f3 f6 f7 q2
  first
  | (have L1:=ah (L0.out.new (sQ (Iy [tt,ti,16384,tl*256+tp,0])) 3)
     have HIN:=ah (show Iy [tt,ti,16384,tl*256+tp,0]=[(tt:Int),ti,16384,(tl:Int)*256+tp,0]by simp[Iy]);rw[<-HIN.out];clear HIN;generalize hns:([tt,ti,16384,tl*256+tp,0]:List Nat)=ns at L1 HF⊢)
  | (have L1:=ah (L0.out.new (sQ (Iy [tt,ti,0,tl*256+tp,0])) 3)
     have HIN:=ah (show Iy [tt,ti,0,tl*256+tp,0]=[(tt:Int),ti,0,(tl:Int)*256+tp,0]by simp[Iy]);rw[<-HIN.out];clear HIN;generalize hns:([tt,ti,0,tl*256+tp,0]:List Nat)=ns at L1 HF⊢)
  have HNL:=ah (show ns.length=5 by rw[<-hns];rfl);have HNB:=ah (show∀z∈ns,z<=65535 by
   rw[<-hns];intro z hz;simp only[bD,fK,or_false]at hz;omega)
  clear hns aIy B1 B2 B3 B4 B5;obtain⟨A0,c0,hv⟩:=L1.out.o.Dr;have hv2:v6=.slice A0 2 c0:=hv;clear hv;subst hv2;have hy7:=L0.out.b0.lt;generalize w6.alloc (.cells (sQ (Iy ns)) 3)=w7 at L1 ⊢;generalize w6.heap.size=y7 at L1 hy7 ⊢;have axv:∀i:Nat,((ns.take i).flatMap (fun n:Nat=>qw (n:Int))).length<=10:=by
   have h1:∀l:List Nat,(l.flatMap (fun n:Nat=>qw (n:Int))).length=2*l.length:=by
    intro l
    induction l with
    | nil=>rfl
    | cons a l ih=>rw[iJ,aS,ih];simp[qw];omega
   intro i;rw[h1,bK];have:=HNL.out;omega
  have HLT:=ah axv;clear axv;obtain⟨b0,KD⟩:∃l:List UInt8,l=[69,aK x.Qp.toNat]:=⟨_,rfl⟩
  have vV:=ah (show b0.length=2 by rw[KD];rfl);rw[<-KD]at L1 HF;clear KD;go_loopw [5,81] (fun s5 s81 wr=>∃(i:Nat)(A:Option aU)(m c:Nat),i<=5/\s81=.int .i64 i/\s5=.slice A m c/\Ly w.heap.size [(y7,sQ (Iy ns)),(w.heap.size,x.aA)] w wr (.slice A m c) (b0++(ns.take i).flatMap (fun n:Nat=>qw (n:Int)))) (fun _ s81 _=>5-(intOf s81).toNat)
  case atStart=>exact⟨0,_,_,_,by omega,rfl,rfl,by rw[jZ,List.flatMap_nil,List.append_nil];exact L1.out⟩
  case round=>
   obtain⟨i,A,m,c,wW,rfl,rfl,h⟩:=hrel;have HO:=ah h;clear h;have HL1:=ah (show(b0++(ns.take i).flatMap (fun n:Nat=>qw (n:Int))).length<=12 by rw[aS];have:=HLT.out i;have:=vV.out;omega);by_cases fP:i<5
   ·have hi:(i:Int)<5:=by omega
    have oz:(0:Int)<=i:=by omega
    have e1:=(HO.out.b0.aI.1 i).trans (alz ns i (by rw[HNL.out];exact fP));have Ej:=ah (ae4 (fun n:Nat=>qw (n:Int)) 0 ns i (by rw[HNL.out];exact fP));have hz:=HNB.out _ (ET 0 ns i (by rw[HNL.out];exact fP));obtain⟨z,hzz⟩:∃z,z=ns.getD i 0:=⟨_,rfl⟩
    rw[<-hzz]at e1 Ej hz;clear hzz;have cs:jr.wrap (z:Int)=(z:Int):=by rw[IntKind.wrap_u64];omega
    have PS:=ah (fun W=>wR z hz W);rw[vE z hz]at PS;have HLN:=ah (show(b0++(ns.take i).flatMap (fun n:Nat=>qw (n:Int))).length+2<=1000000000 by have:=HL1.out;omega);go_wp2_with (first|(go_at_call 184;(with_reducible refine(PS.out _).mono ?_);rintro e w8 ⟨A8,rfl,ho,hb⟩;have R8:=ah (DT ho (Below.refl _ _));have L4:=ah (HO.out.go hb);clear ho hb)|(at_builtin;refine kr rfl (.tmp 85) (.tmp 88) rfl rfl L4.out.o rfl R8.out HLN.out ?_;intro A9 n9 c9 w9 h2 h3;have L5:=ah (L4.out.step h3);clear h2 h3));go_roundw
    case rel=>exact⟨i+1,A9,n9,c9,by omega,by go_num,rfl,by rw[Ej.out,<-dB];exact L5.out⟩
    case measure=>simp[intOf]<;>omega
   ·obtain rfl:i=5:=by omega
    have HFU:=ah (show ns.take 5=ns from aL (by rw[HNL.out];omega));rw[HFU.out]at HO HL1;obtain⟨b1,gI⟩:∃l:List UInt8,l=b0++ns.flatMap (fun n:Nat=>qw (n:Int)):=⟨_,rfl⟩
    have qd:=ah (show b1.length=12 by
     rw[gI,aS,vV.out];have h1:∀l:List Nat,(l.flatMap (fun n:Nat=>qw (n:Int))).length=2*l.length:=by
      intro l
      induction l with
      | nil=>rfl
      | cons a l ih=>rw[iJ,aS,ih];simp[qw];omega
     rw[h1,HNL.out])
    rw[<-gI]at HO HF;clear gI HFU HL1 wW fP;have LY:=ah (show Ly w.heap.size [(w.heap.size,x.aA)] w wr (.slice A m c) b1 from HO.out.U1);have RS:=ah (fun(w':au) (h:dL w' w.heap.size x.aA)=>show gy w' w'.heap.size (some ⟨w.heap.size,9,none⟩) 4 (x.src.b.toList.take 4)from(Nk (o:=8) h x.src (Fo.JI x)).upN (by omega));have RD:=ah (fun(w':au) (h:dL w' w.heap.size x.aA)=>show gy w' w'.heap.size (some ⟨w.heap.size,26,none⟩) 4 (x.dst.b.toList.take 4)from(Nk (o:=25) h x.dst (Fo.JJ x)).upN (by omega));have LD:=ah LY.out.drew;have RSd:=ah (RS.out _ LD.out.b0);obtain⟨A',c',hv⟩:=LD.out.o.Dr;have hm:m=b1.length:=by injection hv
    rw[qd.out]at hm;subst hm;clear hv A' c';have LN1:=ah (show b1.length+4<=1000000000 by rw[qd.out];decide);have LN2:=ah (show(b1++x.src.b.toList.take 4).length+4<=1000000000 by rw[aS,bK,qd.out];omega);go_wp2_with fail;go_region_held_law (fun _=>True) (trivial)
     (first
     | (refine OU (o:=⟨some 95,_,_,_,_,_⟩) rfl (.tmp 91) (.tmp 94) rfl (.slice A 12 c) (some ⟨w.heap.size,9,none⟩) 4 16 rfl LD.out.o rfl RSd.out LN1.out ?_;intro A6 n6 c6 w6 h8 h9;have L6:=ah (LD.out.step h9);have RDd:=ah (RD.out _ L6.out.b0);clear h8 h9)
     | (refine OU (o:=⟨some 99,_,_,_,_,_⟩) rfl (.tmp 95) (.tmp 98) rfl (.slice A6 n6 c6) (some ⟨w.heap.size,26,none⟩) 4 16 rfl L6.out.o rfl RDd.out LN2.out ?_;intro A7 n7 c7 w7 h8 h9;have L7:=ah (L6.out.step h9);clear h8 h9))
    go_wp2_with fail;rw[<-HF.out]at L7;have HFL:=ah (show(DX x).length=20 by simp[DX]);have HPF:=ah (show uf x=sD (DX x) 10 (qw (xE (DX x):Nat))by
     unfold uf ae0 qw;rw[dQ,acS (by rw[HFL.out];omega)])
    obtain⟨fh,hfh⟩:∃l,l=DX x:=⟨_,rfl⟩
    rw[<-hfh]at L7 HFL HPF;clear hfh HF;obtain⟨g,AA,hg2,hg3,hg4,hg5⟩:=L7.out.jk (by rw[HFL.out];decide);rw[HFL.out]at hg2;subst AA hg2;have h10:(10:Int)<=c7:=by omega
    have L8:=L7.out.drew.new (#[bE (some ⟨g,0,none⟩) 20 c7]) 56;simp only[show w7.drew.heap.size=w7.heap.size from rfl,show∀(w:au) ob,w.drew.alloc ob=(w.alloc ob).drew from fun _ _=>rfl]at L8;have L8:=ah L8;have Au:gy w7 w7.heap.size (some ⟨g,0,none⟩) 20 fh:=by have ho:=L7.out.o.vU;rw[HFL.out]at ho;exact gy.iX ho
    have CS:=ah (aiV ((w7.alloc (.cells (#[bE (some ⟨g,0,none⟩) 20 c7]) 56)).drew) w7.heap.size (some ⟨g,0,none⟩) 20 c7 w7.heap.size fh (by decide) ((L8.out.b0.aI.1 0).trans rfl) (Au.alloc (ay _) _));have jB:xE fh<=65535:=by unfold xE;omega
    obtain⟨z,hz⟩:∃z,z=xE fh:=⟨_,rfl⟩
    rw[<-hz]at CS HPF jB;clear hz Au;have q7:jr.wrap (z:Int)=(z:Int):=by rw[IntKind.wrap_u64];omega
    have PZ:=ah (fun W=>wR z jB W);rw[vE z jB]at PZ;have HP:=ah (show 0<2->∃g',(some ⟨g,0,none⟩:Option aU)=some ⟨g',0,none⟩/\vP (some ⟨g,0,none⟩) 10 c7 1=some ⟨g',10,none⟩from fun _=>⟨g,rfl,RZ (n:=0) (by omega)⟩);have HZ:=ah (show 10+2<=fh.length by rw[HFL.out];decide);go_region_held_law (fun _=>True) (trivial)
     (first
     | (go_at_call 305;(with_reducible refine CS.out.mono ?_);rintro e w8 ⟨rfl,rfl⟩)
     | (go_at_call 184;(with_reducible refine(PZ.out _).mono ?_);rintro e w9 ⟨A9,rfl,ho,hb⟩;have R9:=ah (DT ho (Below.refl _ _));have L9:=ah (L8.out.go hb);clear ho hb)
     | (refine PX (o:=⟨some 107,_,_,_,_,_⟩) rfl (.tmp 101) (.tmp 106) rfl (some ⟨g,0,none⟩) 20 c7 L9.out 10 2 (vP (some ⟨g,0,none⟩) 10 c7 1) 10 (c7-10) rfl A9 2 2 rfl R9.out rfl HP.out HZ.out ?_;intro w10 h10 h11;have L10:=ah h10;clear h10 h11))
    go_wp2;go_ret2;rw[HPF.out];exact L10.out.toE
end
section
attribute [local go_sem high] iT jG
theorem XK(x:Lc)(kind:Int)(fH:List Tg)(hf:∀t∈fH,acN t)(hi:∀t∈fH,uw t.oF=true)(hn:fH.length<=2)(t0:0<=kind)(t1:kind<=65535)(ht:uw kind=false)(w:au)(hT:iO Tg.aA 2 w w.heap.size x.Xf x.Fx fH)
 (P:Option aU) (m mc:Nat) (sl:List Zd) (bss:List (List UInt8)) (hS:RdS w w.heap.size P m sl) (hH:OT w w.heap.size sl bss) (hm:m<=1000) (hs:zm sl<=900000000) :
 aR aj 102 #[.agg x.aA,.int .i64 kind,.slice P m mc] w (LC w (qG x.dst x.src fH kind++bss.flatten)):=by
 have Z1:=ah ((Bx.start w).new x.aA 108);have fz:=Z1.out.b0.aI.2.1 13;have HT:=ah hT;have HS:=ah hS;have HH:=ah hH;have Z2:=ah (Z1.out.set (fun p hp=>by cases hp) 13 (.int .i64 kind));rw[Lc.Ve]at Z2;clear hT hS hH;go_enter Tryz.func102,Tryz.ntmps102;go_upto_region 1 with fail
 have c13:(w.alloc (.cells x.aA 108)).cell? ⟨w.heap.size,13,none⟩=some (.int .i64 x.oF):=(Z1.out.b0.aI.1 13).trans (Lc.Et x);generalize w.alloc (.cells x.aA 108)=w1 at *;go_upto_region 2 with fail
 generalize w1.setCell ⟨w.heap.size,13,none⟩ (.int .i64 kind)=w2 at *;clear c13 fz;have l3:=kLc.mO Z2.out.b0 (Lc.ak _);have CL:=ah (ae8 ({x with oF:=kind}:Lc) fH hf hi hn t0 t1 ht w2 ((HT.out.below Z2.out.dF).lF Z2.out.dF.size));have HLB:=ah (show(qG x.dst x.src fH kind).length<=1000 from alv hn);go_upto_region 3 with(go_at_call 185;(with_reducible refine CL.out.mono ?_);rintro e w3 ⟨A3,n3,c3,rfl,hn3,Bj,uH⟩;have N3:=ah hn3;have O3:=ah Bj;have B3:=ah (Z2.out.dF.trans (uH.mono Z2.out.dF.size));clear hn3 Bj uH)
 have C1:=ah (MS sl bss P m mc w3 ((HS.out.below B3.out).lF B3.out.size) ⟨HH.out.1,fun i hi=>((HH.out.2 i hi).below B3.out).lF B3.out.size⟩ hm (by omega));obtain⟨KD,hhb⟩:∃l,l=qG x.dst x.src fH kind:=⟨_,rfl⟩
 rw[<-hhb]at N3 O3 HLB;have HHB:=ah hhb;clear hhb l3;have HFL:=ah (show bss.flatten.length<=900000000 by
  have:=WX HH.out sl.length (ay _);rw[aL (ay _),HH.out.1,aL (ay _)]at this;omega)
 obtain⟨fl,hfl⟩:∃l,l=bss.flatten:=⟨_,rfl⟩
 unfold awE at C1;rw[<-hfl]at HFL C1;have HFB:=ah hfl;clear hfl;go_wp2_with (first
 | (go_at_call 181;(with_reducible refine C1.out.mono ?_);rintro e w4 ⟨v4,rfl,ho4,M8⟩;obtain⟨A4,c4,hv4,_,_⟩:=jT ho4;subst hv4;have O4:=ah ho4;have B4:=ah (B3.out.trans (M8.mono B3.out.size));have R3:=ah (gy.iX (jv O3.out M8));have R4:=ah (gy.iX ho4);have C2:=ah (Ct [⟨A3,n3,c3⟩,⟨A4,fl.length,c4⟩] [KD,fl] 56 2 w4 rfl (.cons R3.out (.cons R4.out .nil)) (by omega) (by have:=N3.out;have:=HLB.out;have:=HFL.out;simp[zm];omega));clear ho4 M8)
 | (go_at_call 181;(with_reducible refine C2.out.mono ?_);rintro e w5 ⟨A5,m5,c5,rfl,hm5,_,Vh,yX⟩;have O5:=ah Vh;have N5:=ah hm5;have B5:=ah yX;clear hm5 Vh yX))
 go_ret;have e2:[KD,fl].flatten=KD++fl:=by simp
 have ho:=O5.out;have Ue:=N5.out;rw[e2,HHB.out,HFB.out]at ho Ue;exact⟨A5,m5,c5,rfl,Ue,iG ho (Nat.le_succ_of_le B4.out.size),B4.out.trans (B5.out.mono B4.out.size)⟩
end
section
attribute [local go_sem high] iT jG
theorem asX{w:au}{y:Nat}{a b c:Array aC}(h:w.heap.size+1<y):∀p∈[(y+1,a),(w.heap.size+1,b),(w.heap.size,c)],p.1≠y:=fun r hr=>by
 simp only[bD,fK,or_false]at hr;rcases hr with rfl|rfl|rfl<;>simp only[]<;>omega
theorem apb{w:au}{y:Nat}{a b c:Array aC}(h:w.heap.size+1<y):∀p∈[(y,a),(w.heap.size+1,b),(w.heap.size,c)],p.1≠y+1:=fun r hr=>by
 simp only[bD,fK,or_false]at hr;rcases hr with rfl|rfl|rfl<;>simp only[]<;>omega
theorem apc(l:List UInt8):((JY l).length:Int)=(Uu l).dz:=by
 unfold JY Uu;split
 ·simp[tq]
 ·have:=afa (mD l).1.oF (l.drop (mD l).1.fE)
  rw[bK];omega
theorem apd(l:List UInt8)(s d:fu):Iw l s d =
 (if(Uu l).ok=false then([],3)else if ao0 s d=false then([],1)else if s.j6=true then if((JY l).length:Int)>65535 then([],4)
 else(qG (mD l).1.dst (mD l).1.src (mD l).1.fH 34525++xk ⟨40,40+((JY l).length:Int),64,false,0,if(mD l).1.oF=34525 then 41 else 4,s,d⟩++JY l,0)
 else if 20+((JY l).length:Int)>65535 then([],4)
  else(qG (mD l).1.dst (mD l).1.src (mD l).1.fH 2048++uf ⟨20,20+((JY l).length:Int),0,0,false,true,64,if(mD l).1.oF=34525 then 41 else 4,s,d⟩++JY l,0)):=by
 rw[apc];unfold Iw JY Uu;by_cases h:(mD l).2≠0
 ·rw[if_pos h,if_pos h,if_pos (by rfl)]
 ·rw[if_neg h,if_neg h,if_neg h]
theorem ahL(w:au)(A:Option aU)(n c:Nat)(l:List UInt8)(s d:fu)(tX:n<=c)(hc:c<=9223372036854775807/\n<=1000000)(hr:gy w w.heap.size A n l):aR aj 207 #[.slice A n c,.agg s.aA,.agg d.aA] w (alo w (Iw l s d)):=by
 have h0:=((Bx.start w).new s.aA 27).new d.aA 27;rw[show(w.alloc (.cells s.aA 27)).heap.size=w.heap.size+1 by simp]at h0;have Z0:=ah h0;have CC:=ah (alx _ A n c l tX hc (h0.Nc hr));have HW:=ah (apd l s d);clear h0 hr;go_enter Tryz.func207,Tryz.ntmps207;go_upto_region 1 with fail
 generalize(w.alloc (.cells s.aA 27)).alloc (.cells d.aA 27)=w0 at Z0 CC ⊢;obtain⟨k,hk⟩:∃k,k=(mD l).1:=⟨_,rfl⟩
 obtain⟨g,hg⟩:∃g,g=Uu l:=⟨_,rfl⟩
 obtain⟨pk,hpk⟩:∃q,q=JY l:=⟨_,rfl⟩
 have HK:=ah hk;unfold aCm at CC;rw[<-hk,<-hg,<-hpk]at CC HW;clear hk hg hpk;go_upto_region 2 with(go_at_call 99;(with_reducible refine CC.out.mono ?_);rintro e w1 ⟨TA,tc,PA,pn,pc,rfl,hT,hP,hpc,aCs,gI⟩;have zn:=((Z0.out.go gI).new qR.aA 108).new tq.aA 179;rw[World.size_alloc]at zn;have jB:=(Z0.out.go gI).b0.lt;have ZN:=ah zn;have axM:=ZN.out.b1.there 0 15 (Nat.le_of_eq (Lc.ak qR).symm);have Z2:=ah ((ZN.out.sub (L':=[(w1.heap.size,qR.aA),(w1.heap.size+1,tq.aA),(w.heap.size+1,d.aA),(w.heap.size,s.aA)]) (by simp)).put (asX jB) (k.cell TA tc).aA (by rw[Lc.ak,Lc.ak]));have axN:=Z2.out.b1.there 0 5 (Nat.le_of_eq (Tn.ak tq).symm);have Z1:=ah ((Z2.out.sub (L':=[(w1.heap.size+1,tq.aA),(w1.heap.size,(k.cell TA tc).aA),(w.heap.size+1,d.aA),(w.heap.size,s.aA)]) (by simp)).put (apb jB) g.aA (by rw[Tn.ak,Tn.ak]));have SI:=ah (lq (lq ((((Below.refl w1.heap.size w1).alloc (ay _) (.cells qR.aA 108)).alloc (by simp) (.cells tq.aA 179))) w1.heap.size 0 (k.cell TA tc).aA (ay _)) (w1.heap.size+1) 0 g.aA (Nat.le_succ _));have RT:=ah (hT.below SI.out);have RP:=ah (hP.below SI.out);have HPC:=ah (And.intro hpc aCs);clear zn hpc aCs;clear gI hT hP)
 have YL:=ah (show w1.heap.size<=(gT (gT ((w1.alloc (.cells qR.aA 108)).alloc (.cells tq.aA 179)) w1.heap.size 0 (k.cell TA tc).aA) (w1.heap.size+1) 0 g.aA).heap.size from SI.out.size);have HY:=ah jB;clear axM axN ZN Z2 SI jB;generalize gT (gT ((w1.alloc (.cells qR.aA 108)).alloc (.cells tq.aA 179)) w1.heap.size 0 (k.cell TA tc).aA) (w1.heap.size+1) 0 g.aA=w2 at Z1 RT RP YL ⊢;generalize w1.heap.size=y8 at *;have YC:=ah RP.out.len;have KS:=ah (fun(w':au) (h:Bx [(y8+1,g.aA),(y8,(k.cell TA tc).aA),(w.heap.size+1,d.aA),(w.heap.size,s.aA)] w w')=>show w'.cell? ⟨y8+1,4,none⟩=some (.bool g.ok)/\w'.cell? ⟨w.heap.size,0,none⟩=some (.bool s.j6)/\w'.cell? ⟨w.heap.size+1,0,none⟩=some (.bool d.j6)/\(rR (.pointer (some ⟨w.heap.size,0,none⟩))).run aj w'=.ok (.agg s.aA) w'/\(rR (.pointer (some ⟨w.heap.size+1,0,none⟩))).run aj w'=.ok (.agg d.aA) w'/\w'.cell? ⟨y8,13,none⟩=some (.int .i64 k.oF)/\(yt 108 (.pointer (some ⟨y8,0,none⟩))).run aj w'=.ok (.agg (k.cell TA tc).aA) w' from⟨(h.b0.aI.1 4).trans (Tn.aBG g),(h.b3.aI.1 0).trans (fu.qH s),(h.b2.aI.1 0).trans (fu.qH d),h.b3.ajw,h.b2.ajw,(h.b1.aI.1 13).trans (Lc.Et _),kLc.mO h.b1 (Lc.ak _)⟩);obtain⟨f1,f2,f3,f4,f5,f6,f7⟩:=KS.out _ Z1.out;have CP:=ah ae1;cases Di:g.ok
 ·rw[Di]at f1
  go_wp2;go_ret2;rw[HW.out,if_pos Di];exact⟨none,0,0,rfl,LG _,Z1.out.dF⟩
 rw[Di]at f1;have HWO:=ah (HW.out.trans (if_neg (by rw[Di];simp)));clear HW;have HFM:=ah (show ao0 s d=(s.j6==d.j6&&(s.j6||s.mK&&d.mK))from rfl);have NOF:=ah (show ao0 s d=false->Iw l s d=([],1)from fun h=>HWO.out.trans (if_pos h));cases h6:s.j6<;>cases g6:d.j6
 case false.true=>
  rw[h6]at f2 HFM;rw[g6]at f3 HFM;go_wp2;go_ret2;rw[NOF.out HFM.out];exact⟨none,0,0,rfl,LG _,Z1.out.dF⟩
 case true.false=>
  rw[h6]at f2 HFM;rw[g6]at f3 HFM;go_wp2;go_ret2;rw[NOF.out HFM.out];exact⟨none,0,0,rfl,LG _,Z1.out.dF⟩
 case true.true=>
  have HH6:=ah h6;have HG6:=ah g6;rw[h6]at f2 HFM;rw[g6]at f3 HFM;clear g6;have HWX:=ah (HWO.out.trans ((if_neg (by rw[HFM.out];simp)).trans (if_pos h6)));clear h6;have hty:(k.oF==34525)=true/\(if k.oF=34525 then(41:Int)else 4)=41\/(k.oF==34525)=false/\(if k.oF=34525 then(41:Int)else 4)=4:=by
   by_cases h:k.oF=34525
   ·exact .inl ⟨by simpa using h,if_pos h⟩
   ·exact .inr ⟨by simpa using h,if_neg h⟩
  by_cases hT:65535<pn
  ·have qt:decide ((65535:Int)<pn)=true:=by simp;omega
   go_wp2
   all_goals
    go_ret2;rw[HWX.out,if_pos (by have:=YC.out;omega)];exact⟨none,0,0,rfl,LG _,Z1.out.dF⟩
  have qt:decide ((65535:Int)<pn)=false:=by simp;omega
  have OE:=ah (HWX.out.trans (if_neg (by have:=YC.out;omega)));have q5:=jU (40+(pn:Int)) (by omega);rcases hty with⟨qty,hpp⟩|⟨qty,hpp⟩
  case' inl=>
   rw[hpp,YC.out]at OE;clear hpp;have CS:=ah (fun W'=>XH (Sx.mk 40 (40+pn) 64 false 0 41 s d) pn (by omega) rfl rfl (show(0:Int)<=41 by decide) (show(41:Int)<=255 by decide) (by rfl) (show(0:Int)<=64 by decide) (show(64:Int)<=255 by decide) rfl rfl HH6.out HG6.out W');go_upto_region 14 with(go_at_call 270;(with_reducible refine(CS.out _).mono ?_);rintro e w5 ⟨A5,n5,c5,rfl,hn5,Vh,yX⟩;have Z5:=ah (Z1.out.go yX);have N5:=ah hn5;have R5:=ah (gy.iX Vh);have B5:=ah yX;clear hn5 Vh yX)
   clear f1 f2 f3 f4 f5 f6 f7 q5 qt qty;obtain⟨_,_,_,_,_,_,f7⟩:=KS.out _ Z5.out;obtain⟨sb,hsb⟩:∃l,l=xk (Sx.mk 40 (40+pn) 64 false 0 41 s d):=⟨_,rfl⟩
  case' inr=>
   rw[hpp,YC.out]at OE;clear hpp;have CS:=ah (fun W'=>XH (Sx.mk 40 (40+pn) 64 false 0 4 s d) pn (by omega) rfl rfl (show(0:Int)<=4 by decide) (show(4:Int)<=255 by decide) (by rfl) (show(0:Int)<=64 by decide) (show(64:Int)<=255 by decide) rfl rfl HH6.out HG6.out W');go_upto_region 14 with(go_at_call 270;(with_reducible refine(CS.out _).mono ?_);rintro e w5 ⟨A5,n5,c5,rfl,hn5,Vh,yX⟩;have Z5:=ah (Z1.out.go yX);have N5:=ah hn5;have R5:=ah (gy.iX Vh);have B5:=ah yX;clear hn5 Vh yX)
   clear f1 f2 f3 f4 f5 f6 f7 q5 qt qty;obtain⟨_,_,_,_,_,_,f7⟩:=KS.out _ Z5.out;obtain⟨sb,hsb⟩:∃l,l=xk (Sx.mk 40 (40+pn) 64 false 0 4 s d):=⟨_,rfl⟩
  all_goals
   have ND:=ah (show sb.length=40 by rw[hsb,ae']);rw[<-hsb]at OE N5 R5;clear hsb;have BA:=ah (Below.alloc (Below.refl w5.heap.size w5) (ay _) (.cells (zD [⟨A5,n5,c5⟩,⟨PA,pn,pc⟩]) 56));have TG:=XG l;have TI:=Sb l;rw[<-HK.out]at TG TI;have RT5:=((RT.out.below (B5.out.mono YL.out)).below (BA.out.mono (aP YL.out B5.out.size))).lF (aP YL.out (aP B5.out.size BA.out.size));have RP5:=((RP.out.below (B5.out.mono YL.out)).below (BA.out.mono (aP YL.out B5.out.size))).lF (aP YL.out (aP B5.out.size BA.out.size));have CJ:=ah (XK (k.cell TA tc) 34525 k.fH TG.1 TI TG.2 (by decide) (by decide) (by decide) _ RT5 (some ⟨w5.heap.size,0,none⟩) 2 2 [⟨A5,n5,c5⟩,⟨PA,pn,pc⟩] [sb,pk] (RdS.lit w5 [⟨A5,n5,c5⟩,⟨PA,pn,pc⟩] 56) (.cons ((R5.out.below BA.out).lF BA.out.size) (.cons RP5 .nil)) (by omega) (by have:=N5.out;have:=ND.out;have:=HPC.out;simp[zm];omega));clear TG TI RT5 RP5;go_wp2_with (go_at_call 102;(with_reducible refine CJ.out.mono ?_);rintro e w8 ⟨A8,n8,c8,rfl,hn8,ho8,Zr⟩;have N8:=ah hn8;have R8:=ah (gy.iX ho8);have B8:=ah Zr;clear hn8 ho8 Zr);go_ret2;have e2:qG k.dst k.src k.fH 34525++[sb,pk].flatten=qG k.dst k.src k.fH 34525++sb++pk:=by simp
   rw[OE.out];refine⟨A8,n8,c8,rfl,?_,Z5.out.dF.trans ((BA.out.trans (B8.out.mono BA.out.size)).mono Z5.out.dF.size)⟩;have:=R8.out
   rwa [show(k.cell TA tc).dst=k.dst from rfl,show(k.cell TA tc).src=k.src from rfl,e2]at this
 case false.false=>
  have HH6:=ah h6;have HG6:=ah g6;rw[h6]at f2 HFM;rw[g6]at f3 HFM;simp only[h6,g6]at KS;clear g6;have CP1:=ah (fun W=>CP.out s W);have CP2:=ah (fun W=>CP.out d W);cases hs:s.mK
  ·rw[hs]at CP1 HFM
   clear hs;go_wp2_with (go_at_call 269;(with_reducible refine(CP1.out _).mono ?_);rintro e w4 ⟨rfl,hb⟩;have Z4:=ah (Z1.out.go hb);clear f1 f2 f3 f4 f5 f6 f7;obtain⟨f1,f2,f3,f4,f5,f6,f7⟩:=KS.out _ Z4.out;clear hb);go_ret2;rw[NOF.out HFM.out];exact⟨none,0,0,rfl,LG _,Z4.out.dF⟩
  cases hd:d.mK
  ·rw[hs]at CP1 HFM
   rw[hd]at CP2 HFM;clear hs hd;go_wp2_with (go_at_call 269;(first|((with_reducible refine(CP1.out _).mono ?_);rintro e w4 ⟨rfl,hb⟩;have Z4:=ah (Z1.out.go hb);clear f1 f2 f3 f4 f5 f6 f7;obtain⟨f1,f2,f3,f4,f5,f6,f7⟩:=KS.out _ Z4.out;clear hb)|((with_reducible refine(CP2.out _).mono ?_);rintro e w5 ⟨rfl,hb⟩;have Z5:=ah (Z4.out.go hb);clear f1 f2 f3 f4 f5 f6 f7;obtain⟨f1,f2,f3,f4,f5,f6,f7⟩:=KS.out _ Z5.out;clear hb)));go_ret2;rw[NOF.out HFM.out];exact⟨none,0,0,rfl,LG _,Z5.out.dF⟩
  have HS4:=ah (show(!s.j6&&s.mK)=true by rw[HH6.out,hs];rfl);have HD4:=ah (show(!d.j6&&d.mK)=true by rw[HG6.out,hd];rfl);rw[hs]at CP1 HFM;rw[hd]at CP2 HFM;clear hs hd;have HWX:=ah (HWO.out.trans ((if_neg (by rw[HFM.out];simp)).trans (if_neg (by rw[h6];simp))));clear h6;have hty:(k.oF==34525)=true/\(if k.oF=34525 then(41:Int)else 4)=41\/(k.oF==34525)=false/\(if k.oF=34525 then(41:Int)else 4)=4:=by
   by_cases h:k.oF=34525
   ·exact .inl ⟨by simpa using h,if_pos h⟩
   ·exact .inr ⟨by simpa using h,if_neg h⟩
  have q5:=jU (20+(pn:Int)) (by have:=HPC.out;omega);go_upto_region 7 with(go_at_call 269;(first|((with_reducible refine(CP1.out _).mono ?_);rintro e w4 ⟨rfl,hb⟩;have Z4:=ah (Z1.out.go hb);have B4:=ah hb;clear f1 f2 f3 f4 f5 f6 f7;obtain⟨f1,f2,f3,f4,f5,f6,f7⟩:=KS.out _ Z4.out;clear hb)|((with_reducible refine(CP2.out _).mono ?_);rintro e w5 ⟨rfl,hb⟩;have Z5:=ah (Z4.out.go hb);have B5:=ah (B4.out.trans (hb.mono B4.out.size));clear f1 f2 f3 f4 f5 f6 f7;obtain⟨f1,f2,f3,f4,f5,f6,f7⟩:=KS.out _ Z5.out;clear hb)))
  by_cases hT:65535<20+pn
  ·have qt:decide ((65535:Int)<20+(pn:Int))=true:=by simp;omega
   go_wp2
   all_goals
    go_ret2;rw[HWX.out,if_pos (by have:=YC.out;omega)];exact⟨none,0,0,rfl,LG _,Z5.out.dF⟩
  have qt:decide ((65535:Int)<20+(pn:Int))=false:=by simp;omega
  have OE:=ah (HWX.out.trans (if_neg (by have:=YC.out;omega)));rcases hty with⟨qty,hpp⟩|⟨qty,hpp⟩
  case' inl=>
   rw[hpp,YC.out]at OE;clear hpp;have CS:=ah (fun W'=>TL (Fo.mk 20 (20+pn) 0 0 false true 64 41 s d) rfl (show(0:Int)<=0 by decide) (show(0:Int)<=255 by decide) (show 20<=20+(pn:Int)by omega) (show 20+(pn:Int)<=65535 by omega) (show(0:Int)<=0 by decide) (show(0:Int)<=65535 by decide) (show(0:Int)<=64 by decide) (show(64:Int)<=255 by decide) (show(0:Int)<=41 by decide) (show(41:Int)<=255 by decide) rfl HS4.out HD4.out W');go_upto_region 18 with(go_at_call 271;(with_reducible refine(CS.out _).mono ?_);rintro e w7 ⟨A5,n5,c5,rfl,hn5,Vh,yX⟩;have Z7:=ah (Z5.out.go yX);have N5:=ah hn5;have R5:=ah (gy.iX Vh);have B7:=ah (B5.out.trans (yX.mono B5.out.size));clear hn5 Vh yX)
   clear f1 f2 f3 f4 f5 f6 f7 q5 qt qty;obtain⟨_,_,_,_,_,_,f7⟩:=KS.out _ Z7.out;obtain⟨sb,hsb⟩:∃l,l=uf (Fo.mk 20 (20+pn) 0 0 false true 64 41 s d):=⟨_,rfl⟩
  case' inr=>
   rw[hpp,YC.out]at OE;clear hpp;have CS:=ah (fun W'=>TL (Fo.mk 20 (20+pn) 0 0 false true 64 4 s d) rfl (show(0:Int)<=0 by decide) (show(0:Int)<=255 by decide) (show 20<=20+(pn:Int)by omega) (show 20+(pn:Int)<=65535 by omega) (show(0:Int)<=0 by decide) (show(0:Int)<=65535 by decide) (show(0:Int)<=64 by decide) (show(64:Int)<=255 by decide) (show(0:Int)<=4 by decide) (show(4:Int)<=255 by decide) rfl HS4.out HD4.out W');go_upto_region 18 with(go_at_call 271;(with_reducible refine(CS.out _).mono ?_);rintro e w7 ⟨A5,n5,c5,rfl,hn5,Vh,yX⟩;have Z7:=ah (Z5.out.go yX);have N5:=ah hn5;have R5:=ah (gy.iX Vh);have B7:=ah (B5.out.trans (yX.mono B5.out.size));clear hn5 Vh yX)
   clear f1 f2 f3 f4 f5 f6 f7 q5 qt qty;obtain⟨_,_,_,_,_,_,f7⟩:=KS.out _ Z7.out;obtain⟨sb,hsb⟩:∃l,l=uf (Fo.mk 20 (20+pn) 0 0 false true 64 4 s d):=⟨_,rfl⟩
  all_goals
   have ND:=ah (show sb.length=20 by rw[hsb,XI]);rw[<-hsb]at OE N5 R5;clear hsb;have BA:=ah (Below.alloc (Below.refl w7.heap.size w7) (ay _) (.cells (zD [⟨A5,n5,c5⟩,⟨PA,pn,pc⟩]) 56));have TG:=XG l;have TI:=Sb l;rw[<-HK.out]at TG TI;have RT5:=((RT.out.below (B7.out.mono YL.out)).below (BA.out.mono (aP YL.out B7.out.size))).lF (aP YL.out (aP B7.out.size BA.out.size));have RP5:=((RP.out.below (B7.out.mono YL.out)).below (BA.out.mono (aP YL.out B7.out.size))).lF (aP YL.out (aP B7.out.size BA.out.size));have CJ:=ah (XK (k.cell TA tc) 2048 k.fH TG.1 TI TG.2 (by decide) (by decide) (by decide) _ RT5 (some ⟨w7.heap.size,0,none⟩) 2 2 [⟨A5,n5,c5⟩,⟨PA,pn,pc⟩] [sb,pk] (RdS.lit w7 [⟨A5,n5,c5⟩,⟨PA,pn,pc⟩] 56) (.cons ((R5.out.below BA.out).lF BA.out.size) (.cons RP5 .nil)) (by omega) (by have:=N5.out;have:=ND.out;have:=HPC.out;simp[zm];omega));clear TG TI RT5 RP5;go_wp2_with (go_at_call 102;(with_reducible refine CJ.out.mono ?_);rintro e w8 ⟨A8,n8,c8,rfl,hn8,ho8,Zr⟩;have N8:=ah hn8;have R8:=ah (gy.iX ho8);have B8:=ah Zr;clear hn8 ho8 Zr);go_ret2;have e2:qG k.dst k.src k.fH 2048++[sb,pk].flatten=qG k.dst k.src k.fH 2048++sb++pk:=by simp
   rw[OE.out];refine⟨A8,n8,c8,rfl,?_,Z7.out.dF.trans ((BA.out.trans (B8.out.mono BA.out.size)).mono Z7.out.dF.size)⟩;have:=R8.out
   rwa [show(k.cell TA tc).dst=k.dst from rfl,show(k.cell TA tc).src=k.src from rfl,e2]at this
end
section
attribute [local go_sem high] iT jG
end
def Agr(l m:List UInt8)(a b:Nat):Prop:=∀j,a<=j->j<b->m.getD j 0=l.getD j 0
section
variable {l m:List UInt8} {a b:Nat}
theorem Agr.two(h:Agr l m a b){k:Nat}(h1:a<=k)(h2:k+2<=b):eX m k=eX l k:=by
 unfold eX;rw[h k (by omega) (by omega),h (k+1) (by omega) (by omega)]
theorem aaN(l:List UInt8)(z j:Nat):(l.drop z).getD j 0=l.getD (z+j) 0:=by simp[av]
theorem aaO(l:List UInt8)(z j:Nat):(l.take z).getD j 0=if j<z then l.getD j 0 else 0:=by
 simp only[av,jg];split<;>rfl
end
theorem ahM{l:List UInt8}(h:(wG l).kind=0):(mD l).2=0/\((mD l).1.oF=2048\/(mD l).1.oF=34525)/\(mQ l).2=0/\(mQ l).1.oM=false/\((mQ l).1.aQ=6\/(mQ l).1.aQ=17)/\(Ng l).2=0 /\
 wG l=⟨0,⟨(mQ l).1.src,(mQ l).1.dst,(mQ l).1.aQ,(Ng l).1.kU,(Ng l).1.j4⟩,(Ng l).1.vB,(mD l).1.fE,(mD l).1.fE+(mQ l).1.head,(mD l).1.fE+(mQ l).1.dz⟩:=by
 unfold wG at h ⊢;by_cases h1:(mD l).2≠0
 ·rw[if_pos h1]at h;cases h
 rw[if_neg h1]at h ⊢;by_cases h2:(mD l).1.oF≠2048/\(mD l).1.oF≠34525
 ·rw[if_pos h2]at h;cases h
 rw[if_neg h2]at h ⊢;by_cases h3:(mQ l).2≠0
 ·rw[if_pos h3]at h;cases h
 rw[if_neg h3]at h ⊢;by_cases h4:(mQ l).1.oM=true
 ·rw[if_pos h4]at h;cases h
 rw[if_neg h4]at h ⊢;by_cases h5:(mQ l).1.aQ≠6/\(mQ l).1.aQ≠17
 ·rw[if_pos h5]at h;cases h
 rw[if_neg h5]at h ⊢;by_cases h6:(Ng l).2≠0
 ·rw[if_pos h6]at h;cases h
 rw[if_neg h6]at h ⊢;exact⟨by omega,by omega,by omega,by simpa using h4,by omega,by omega,rfl⟩
theorem aaP(l:List UInt8)(z k:Nat):eX (l.drop z) k=eX l (z+k):=by unfold eX;rw[aaN,aaN,ny]
theorem alC{l:List UInt8}(h:(wG l).kind=0):(wG l).tuple.src=(if(wG l).tuple.src.j6 then alc (l.drop ((wG l).Du.toNat+8))else JN (l.drop ((wG l).Du.toNat+12)))/\(wG l).tuple.dst=(if(wG l).tuple.src.j6 then alc (l.drop ((wG l).Du.toNat+24))else JN (l.drop ((wG l).Du.toNat+16)))/\(wG l).tuple.kU=eX l (wG l).tK.toNat/\(wG l).tuple.j4=eX l ((wG l).tK.toNat+2):=by
 have F:=PN h;obtain⟨k1,k2,k3,k4,k5,k6,kp⟩:=ahM h;have f5:=F.Hf;have f3:=F.tK;have f2:=F.Du;have f6:=F.len;have hp:(wG l).tuple.kU=eX l (wG l).tK.toNat/\(wG l).tuple.j4=eX l ((wG l).tK.toNat+2):=by
  rw[kp]at f5 f3 f2 f6 ⊢;simp only at f5 f3 f2 f6 ⊢;have e0:vD (mQ l).1.aQ ((l.take ((mD l).1.fE+(mQ l).1.dz.toNat)).drop ((mD l).1.fE+(mQ l).1.head.toNat))=0:=by
   unfold Ng JQ at k6;split at k6
   ·assumption
   ·rename_i hx;exact absurd k6 hx
  have e1:Ng l=(qF (mQ l).1.aQ ((l.take ((mD l).1.fE+(mQ l).1.dz.toNat)).drop ((mD l).1.fE+(mQ l).1.head.toNat)),0):=Xh e0;have hd:0<=(mQ l).1.head/\0<=(mQ l).1.dz/\(mQ l).1.head+8<=(mQ l).1.dz:=by
   split at f3<;>split at f5<;>omega
  have e2:((mD l).1.fE+(mQ l).1.head:Int).toNat=(mD l).1.fE+(mQ l).1.head.toNat:=by omega
  rw[e1,e2];have ag:Agr l (l.take ((mD l).1.fE+(mQ l).1.dz.toNat)) 0 ((mD l).1.fE+(mQ l).1.dz.toNat):=fun j _ hj=>by rw[aaO,if_pos hj]
  have a1:=ag.two (k:=(mD l).1.fE+(mQ l).1.head.toNat) (by omega) (by omega);have a2:=ag.two (k:=(mD l).1.fE+(mQ l).1.head.toNat+2) (by omega) (by omega);constructor
  ·rw[<-a1];unfold qF;split<;>simp only[aaP,nI]
  ·rw[<-a2];unfold qF;split<;>simp only[aaP]
 refine⟨?_,?_,hp⟩
 all_goals
  rw[kp];simp only[dQ];unfold mQ ipR at k3 ⊢;by_cases ht:(mD l).1.oF=2048
  ·rw[if_pos ht]at k3 ⊢
   have es:=ajr (l:=l.drop (mD l).1.fE) k3;have e0:DV (l.drop (mD l).1.fE)=0:=by
    simp only at k3;unfold AB at k3;split at k3
    ·assumption
    ·rename_i hx;exact absurd k3 hx
   simp only[es.1];unfold AB;rw[if_pos e0];simp[RG]
  ·rw[if_neg ht]at k3 ⊢
   have es:=ajq (l:=l.drop (mD l).1.fE) k3;simp only[es.1,if_true];simp only at k3;unfold By at k3 ⊢;by_cases h1:(l.drop (mD l).1.fE).length<40
   ·rw[if_pos h1]at k3;cases k3
   rw[if_neg h1]at k3 ⊢;by_cases h2:nR (l.drop (mD l).1.fE) 0/16≠6
   ·rw[if_pos h2]at k3;cases k3
   rw[if_neg h2]at k3 ⊢;by_cases h3:(l.drop (mD l).1.fE).length<40+eX (l.drop (mD l).1.fE) 4
   ·rw[if_pos h3]at k3;cases k3
   rw[if_neg h3]at k3 ⊢
   first|rw[(XB 8 _ _ k3).1]|rw[(XB 8 _ _ k3).2]
   simp[sx0]
theorem ajz(l:List UInt8):0<=(wG l).kind/\(wG l).kind<=6:=by
 unfold wG xZ
 repeat' split
 all_goals simp
theorem asY(e:En)(v:Vp)(b:Bk)(t:Tu)(l:List UInt8):(P5 e v b t l).1=0\/(P5 e v b t l).1=9\/(P5 e v b t l).1=10:=by
 unfold P5
 repeat' split
 all_goals simp
theorem ahN(e:En)(s:qK)(l:List UInt8):0<=(Ew e s l).jw/\(Ew e s l).jw<=10:=by
 have h1:=ajz l;unfold Ew;split
 ·split
  ·split
   ·rename_i i _ _ b zi _
    have:=asY e (e.vs.getD i oD) b (wG l).tuple l;split<;>simp only<;>omega
   ·simp
  ·simp
 ·simp only;omega
theorem ape{s:qK}{t:Tu}{n:List UInt8}(h:PY s t=some n):∃f,pW s.sN t=some f/\f.name=n/\sZ s.sW n=true/\xW (nY s.nP) n=false:=by
 unfold PY at h;split at h
 ·rename_i f hf
  split at h
  ·rename_i hc
   injection h with h
   subst h;simp only[bl,om]at hc;exact⟨f,hf,rfl,hc.1,hc.2⟩
  ·cases h
 ·cases h
theorem axS{s:qK}{t:Tu}{f:Fw}(hf:pW s.sN t=some f)(h1:sZ s.sW f.name=true)(h2:xW (nY s.nP) f.name=false):PY s t=some f.name:=by
 unfold PY;rw[hf];simp only;rw[h1,h2];rfl
theorem asZ{ls:List (List UInt8)}{sW:List Bk}{key:Vector UInt8 16}{n h:Nat}{m:List UInt8}(hp:lI n=true)(hpk:Iq (uJ key n (kV ls sW)) h=some m):∃x∈sW,x.name=m/\x.drain=false/\xW ls m=false:=by
 have h0:∀x∈kV ls sW,0<=x.q:=fun x hx=>by
  unfold kV at hx;obtain⟨y,_,rfl⟩:=iQ.1 hx;unfold GV;simp only;split
  ·exact Int.le_refl _
  ·exact Int.natCast_nonneg _
 unfold Iq at hpk;rcases aal (key:=key) hp h0 with⟨h1,_⟩|⟨h1,h2⟩
 ·rw[h1]at hpk;simp at hpk
 ·have hn:0<n:=by
   rcases dX n with e|e
   ·subst e;rw[h1]at hpk;simp at hpk
   ·exact e
  rw[if_neg (by omega),h1]at hpk;injection hpk with hpk
  obtain⟨i,hi,hs⟩:=h2 (h%n) (fD _ hn);rw[hs,dQ,av,aD hi,jy]at hpk;have hm:m∈(uJ key n (kV ls sW)).names:=by rw[<-hpk];exact eO hi
  unfold uJ at hm;simp only at hm;split at hm
  ·simp at hm
  ·obtain⟨x,hx,rfl⟩:=iQ.1 hm
   obtain⟨Qk,Ql⟩:=mh.1 hx;unfold kV at Qk;obtain⟨y,hy,rfl⟩:=iQ.1 Qk;refine⟨y,hy,rfl,?_⟩;unfold GV at Ql ⊢;simp only at Ql ⊢;cases hd:y.drain<;>cases ho:xW ls y.name<;>rw[hd,ho]at Ql<;>simp at Ql;exact⟨rfl,rfl⟩
theorem oG.srt{M:Int}{e:En}{s:qK}(h:oG M e s):Gy s.sW:=(xH.1 h.pl).2.2.2.2
theorem as0{M:Int}{e:En}{s:qK}(h:oG M e s){t:Tu}{b:Bk}{zi:Bool}(hb:JW e s t=some (b,zi)):b∈s.sW/\xW (nY s.nP) b.name=false/\(zi=true->PY s t=some b.name)/\(zi=false->PY s t=none/\Iq (Ap e s) (ajt e t)=some b.name):=by
 unfold JW at hb;cases hh:PY s t with
 | some n=>
   rw[hh]at hb;simp only[Option.some.injEq,Prod.mk.injEq]at hb;obtain⟨rfl,rfl⟩:=hb;obtain⟨f,_,_,h1,h2⟩:=ape hh;obtain⟨g1,g2⟩:=UU h1;rw[g2];exact⟨g1,h2,fun _=>rfl,fun e=>by cases e⟩
 | none=>
   rw[hh]at hb;simp only at hb;cases hp:Iq (Ap e s) (ajt e t)with
   | none=>rw[hp]at hb;cases hb
   | some n=>
     rw[hp]at hb;simp only[ni,Option.some.injEq,Prod.mk.injEq]at hb;obtain⟨rfl,rfl⟩:=hb;obtain⟨x,hx,hn,_,ho⟩:=asZ (sU h.cn).1.2.2 hp;subst hn;rw[anZ h.srt hx];exact⟨hx,ho,fun e=>(by cases e),fun _=>⟨rfl,rfl⟩⟩
theorem ajA(l:List UInt8):qN (JN l)=true:=by
 unfold qN JN;simp only[Bool.false_or,gH,beq_iff_eq];intro x hx;obtain⟨j,hj,rfl⟩:=kS.1 hx;simp only[qv,List.getElem_drop,Vector.getElem_toList,Vector.getElem_ofFn];rw[aaO,if_neg (by omega)]
theorem ajB(l:List UInt8):qN (alc l)=true:=rfl
theorem aCw{l:List UInt8}(h:(wG l).kind=0):Gz (wG l).tuple=true/\((wG l).tuple.aQ=6\/(wG l).tuple.aQ=17):=by
 have F:=PN h;obtain⟨t1,t2,t3,t4⟩:=alC h;have hs:qN (wG l).tuple.src=true:=by rw[t1];split;exact ajB _;exact ajA _
 have hd:qN (wG l).tuple.dst=true:=by rw[t2];split;exact ajB _;exact ajA _
 have b1:=PW l (wG l).tK.toNat;have b2:=PW l ((wG l).tK.toNat+2);have hp:=F.pro;refine⟨?_,hp⟩;unfold Gz ZC;rw[hs,hd];simp only[bl,decide_eq_true_eq];have:=F.fam;refine⟨⟨⟨⟨⟨this,trivial⟩,trivial⟩,?_⟩,?_⟩,?_⟩<;>omega
def apf(c:Cn)(h:Hl)(n:List UInt8):Bool:=(h.name==n)&&(decide (0<=h.run)&&decide (h.run<if h.down then c.rise else c.fall))
def JZ(c:Cn)(s:qK)(k:Nat):Bool:=apf c (s.nP.getD k lG) (s.sW.getD k jo).name
def aaQ(l:List Fw)(k:Nat):Bool:=(l.take k).any (uo (l.getD k kQ).key)
def Uv(s:qK)(k:Nat):Bool:=Eo (s.sN.getD k kQ)&&(decide ((s.sN.getD k kQ).seen<=s.gN)&&(decide (1<=(s.sN.getD k kQ).no)&&(decide ((s.sN.getD k kQ).no<=s.no)&&(!aaQ s.sN k&&(decide (k=0)||lJ (s.sN.getD (k-1) kQ) (s.sN.getD k kQ))))))
def afb(s:qK):Bool:=ZC s.gN 1099511627776&&(ZC s.no 1152921504606846976&&s.mg.toList.all (ZC · 1152921504606846976))
def XL(c:Cn)(vs:List Vp)(s:qK):Bool:=yM c vs&&(yD s.mq s.sW&&(decide (s.nP.length=s.sW.length)&&decide ((s.sN.length:Int)<=c.dR)))
def zQ(c:Cn)(vs:List Vp)(s:qK):Bool:=XL c vs s&&(afb s&&((dW s.nP.length).all (JZ c s)&&(dW s.sN.length).all (Uv s)))
theorem alD{α:Type}{lt:α->α->Bool}(hs:Jw lt){l:List α}(h:∀(i:Nat)(hi:i+1<l.length),lt (l[i]'(by omega)) l[i+1]=true):Asc lt l:=by
 unfold Asc;rw[fQ];intro i j hi hj SE;obtain⟨d,rfl⟩:∃d,j=i+1+d:=⟨j-i-1,by omega⟩
 induction d with
 | zero=>exact h i hj
 | succ d ih=>exact hs.tr _ _ _ (ih (by omega) (by omega)) (h (i+1+d) hj)
theorem uS{α:Type}{l:List α}{d:α}{k:Nat}(hk:k<l.length):l.getD k d=l[k]:=by
 rw[av,aD hk,jy]
theorem alE{dR:Int}{s:qK}(hl:(s.sN.length:Int)<=dR)(h:∀k,k<s.sN.length->Uv s k=true):wS dR s.sN/\∀f∈s.sN,f.seen<=s.gN/\1<=f.no/\f.no<=s.no:=by
 have H:∀(k:Nat)(hk:k<s.sN.length),Eo s.sN[k]=true/\(s.sN[k].seen<=s.gN/\1<=s.sN[k].no/\s.sN[k].no<=s.no)/\aaQ s.sN k=false/\(k=0\/lJ (s.sN.getD (k-1) kQ) s.sN[k]=true):=fun k hk=>by
  have:=h k hk;unfold Uv at this;rw[uS hk]at this;simp only[bl,decide_eq_true_eq,om,nE]at this;exact⟨this.1,⟨this.2.1,this.2.2.1,this.2.2.2.1⟩,this.2.2.2.2.1,this.2.2.2.2.2⟩
 refine⟨⟨alD tY (fun i hi=>?_),?_,?_,hl⟩,fun f hf=>?_⟩
 ·rcases(H (i+1) hi).2.2.2 with e|e
  ·omega
  ·rw[Nat.add_sub_cancel,uS (by omega)]at e;exact e
 ·rw[fQ]
  intro i j hi hj SE e;have h1:=(H j hj).2.2.1;unfold aaQ at h1;rw[uS hj,qy]at h1;refine h1 s.sN[i] ?_ (by simp[uo,e]);rw[rW];exact⟨i,by omega,rfl⟩
 ·intro x hx
  obtain⟨k,hk,rfl⟩:=kS.1 hx;exact(H k hk).1
 ·obtain⟨k,hk,rfl⟩:=kS.1 hf
  exact(H k hk).2.1
theorem ahO{c:Cn}{vs:List Vp}{s:qK}(key:Vector UInt8 16)(h:zQ c vs s=true)(hf:∀x∈s.sW,x.ru):oG 1152921504606846976 ⟨key,c,vs⟩ s:=by
 unfold zQ XL afb ZC at h;simp only[bl,decide_eq_true_eq,gH,eH]at h;obtain⟨⟨h1,h2,h3,h4⟩,⟨h5,h6,h7⟩,h8,h9⟩:=h;obtain⟨f1,f2⟩:=alE h4 h9;have H:∀(k:Nat)(hk:k<s.nP.length),s.nP[k].name=(s.sW[k]'(by omega)).name/\0<=s.nP[k].run/\s.nP[k].run<(if s.nP[k].down then c.rise else c.fall):=fun k hk=>by
  have:=h8 k hk;unfold JZ apf at this;rw[uS hk,uS (by omega)]at this;simpa using this
 refine⟨h1,h2,hf,?_,?_,f1,f2,by omega,by omega,h7⟩
 ·apply List.ext_getElem (by simpa using h3)
  intro i hi1 Qw;simp only[List.getElem_map];exact(H i (by simpa using hi1)).1
 ·intro x hx
  obtain⟨k,hk,rfl⟩:=kS.1 hx;exact(H k hk).2
theorem oG.right{M:Int}{e:En}{s:qK}(h:oG M e s)(hM:M<=1152921504606846976):zQ e.c e.vs s=true:=by
 have hlen:s.nP.length=s.sW.length:=by have:=congrArg List.length h.nm;simpa using this
 unfold zQ XL afb ZC;simp only[bl,decide_eq_true_eq,gH,eH];refine⟨⟨h.cn,h.pl,hlen,h.fl.len⟩,⟨h.ti,by have:=h.no;omega,fun n hn=>by have:=h.ct n hn;omega⟩,fun k hk=>?_,fun k hk=>?_⟩
 ·unfold JZ apf
  rw[uS hk,uS (show k<s.sW.length by omega)];have e1:s.nP[k].name=(s.sW[k]'(by omega)).name:=by
   have:=List.getElem_of_eq h.nm (i:=k) (by simpa using hk);simpa using this
  have:=h.hl _ (eO hk);simp only[bl,decide_eq_true_eq,beq_iff_eq];exact⟨e1,this⟩
 ·unfold Uv
  rw[uS hk];have h1:=h.fw _ (eO hk);simp only[bl,decide_eq_true_eq,om,nE];refine⟨h.fl.ok _ (eO hk),h1.1,h1.2.1,h1.2.2,?_,?_⟩
  ·unfold aaQ
   rw[uS hk,qy];intro x hx;rw[rW]at hx;obtain⟨i,hi,rfl⟩:=hx;have:=fQ.1 h.fl.one i k (by omega) hk (by omega);simpa[uo]using this
  ·rcases dX k with e|e
   ·exact .inl e
   ·right
    rw[uS (by omega)];exact fQ.1 h.fl.asc (k-1) k (by omega) hk (by omega)
theorem apg{dR:Int}{l:List Fw}{k:Nat}(h:wS dR l)(hk:k<l.length):Er dR (l.take k) (l.getD k kQ)=l.take (k+1):=by
 rw[uS hk];have hn:pW (l.take k) l[k].key=none:=by
  unfold pW;rw[List.find?_eq_none];intro x hx;rw[rW]at hx;obtain⟨i,hi,rfl⟩:=hx;have:=fQ.1 h.one i k (by omega) hk (by omega);simpa[uo]using this
 have hlen:=h.len;unfold Er;rw[if_pos (h.ok _ (eO hk)),hn,if_neg (by simp),if_neg (by rw[bK];omega),ad7 (fun x hx=>tY.asy ?_),dP hk];rw[rW]at hx;obtain⟨i,hi,rfl⟩:=hx;exact fQ.1 h.asc i k (by omega) hk (by omega)
theorem K8{c:Cn}{vs:List Vp}(key:Vector UInt8 16)(h:yM c vs=true):oG 0 ⟨key,c,vs⟩ xV:=by
 have hr:=(sU h).2.1;refine⟨h,xH.2 ⟨?_,?_,?_,?_,?_⟩,(fun x hx=>by cases hx),rfl,(fun x hx=>by cases hx),.nil ?_,(fun x hx=>by cases hx),?_,?_,fun n hn=>?_⟩
 ·simp[xV]
 ·simp[xV]
 ·simp[xV]
 ·intro x hx;cases hx
 ·exact List.Pairwise.nil
 ·show 0<=c.dR;omega
 ·simp[xV]
 ·simp[xV]
 ·simp[xV]at hn;omega
def AO(z:Int):Bool:=decide (z<0)||decide (1152921504606846976<z)
theorem alF(z:Int):AO z = !ZC z 1152921504606846976:=by
 unfold AO ZC;rw[Bool.eq_iff_iff];simp only[nE,decide_eq_true_eq,om,Bool.and_eq_false_iff,decide_eq_false_iff_not];omega
theorem acW(z:Int)(w:au):aR aj 47 #[.int .i64 z] w fun e w'=>e=.returned (.bool (AO z))/\w=w':=by
 have HB:=ah (show AO z=(decide (z<0)||decide (1152921504606846976<z))from rfl);go_enter Tryz.func47,Tryz.ntmps47;go_wp2
 all_goals(go_ret;refine⟨?_,rfl⟩;rw[HB.out];simp_all)
theorem afc(args:Array aC)(w:au):(callFunc 47 args).run aj w=.ok (.enter 47 args) w:=by kernel_rfl
theorem RdI.fE{w:au}{B n:Nat}{A:Option aU}{l:List Int}(h:RdI w B A n l){k:Nat}(hk:k<n):∃b o,A=some ⟨b,o,none⟩/\w.cell? ⟨b,o+k,none⟩=some (.int .i64 (l.getD k 0)):=by
 obtain⟨b,o,hA,hb,hc⟩:=iO.cell (f:=GY) (s:=1) (fun _=>rfl) 0 h hk;refine⟨b,o,hA,?_⟩;have:=hc 0 (by omega);rw[gF,nI]at this;exact this
theorem axU(A:Option aU)(n c B:Nat)(w:au)(l:List Int)(hc:n<=1000000000)(hr:RdI w B A n l):
 aR aj 114 #[.slice A n c,.func (.func 47) #[] #[]] w fun e w'=>∃r:Int,e=.returned (.int .i64 r)/\(decide (0<=r)=l.any AO)/\w=w':=by
 have hen:=afc;have GG:=ah acW;have HR:=ah hr;have hl:=ah hr.len;clear hr;go_enter Tryz.func114,Tryz.ntmps114;go_wp2;go_loop [8] (fun s8=>∃i:Nat,i<=n/\s8=.int .i64 i/\∀j,j<i->AO (l.getD j 0)=false) (fun s8=>n-(intOf s8).toNat)
 case atStart=>exact⟨0,by omega,rfl,fun j h1=>by omega⟩
 case round=>
  obtain⟨i,hi,rfl,mV⟩:=hrel;have HA:=ah mV;clear mV;by_cases fP:i<n
  ·have wW:(i:Int)<n:=by omega
   obtain⟨b,o,rfl,hcell⟩:=HR.out.fE fP;have HG:=ah (uS (l:=l) (d:=0) (k:=i) (by rw[hl.out];exact fP));obtain⟨m,hm⟩:∃m,m=l.getD i 0:=⟨_,rfl⟩
   rw[<-hm]at hcell;have HM:=ah hm;clear hm;obtain⟨k,hk⟩:∃k,AO m=k:=⟨_,rfl⟩
   have HK:=ah hk;have G1:=ah (fun w=>GG.out m w);rw[hk]at G1;clear hk;cases k
   ·go_wp2_with (refine(G1.out _).mono ?_;rintro e w' ⟨rfl,rfl⟩)
    go_round
    case rel=>exact⟨i+1,by omega,by go_num,fun j h1=>by
     by_cases YA:j=i
     ·rw[YA,<-HM.out];exact HK.out
     ·exact HA.out j (by omega)⟩
    case measure=>simp[intOf]<;>omega
   ·have Gu:=ah (show l.any AO=true from List.any_eq_true.2 ⟨m,by rw[HM.out,HG.out];exact eO _,HK.out⟩)
    go_wp2_with (refine(G1.out _).mono ?_;rintro e w' ⟨rfl,rfl⟩);go_ret;exact⟨_,rfl,by rw[Gu.out];simp,rfl⟩
  ·obtain rfl:i=n:=by omega
   have HS:=ah (show l.any AO=false from qy.2 (fun x hx=>by
    obtain⟨j,hj,rfl⟩:=kS.1 hx;have:=HA.out j (by rw[hl.out]at hj;exact hj);rw[uS hj]at this;simp[this]))
   go_wp2;go_ret;exact⟨_,rfl,by rw[HS.out];simp,rfl⟩
theorem axV(A:Option aU)(n c B:Nat)(w:au)(l:List Int)(hc:n<=1000000000)(hr:RdI w B A n l):
 aR aj 46 #[.slice A n c,.func (.func 47) #[] #[]] w fun e w'=>e=.returned (.bool (l.any AO))/\w=w':=by
 have I:=ah (axU A n c B w l hc hr);clear hr;go_enter Tryz.func46,Tryz.ntmps46;go_wp2_with (go_at_call 114;refine I.out.mono ?_;rintro e w' ⟨r,rfl,hr,rfl⟩);go_ret;exact⟨by simp,rfl⟩
theorem as1(v:Vector Int 11):(v.toList.any AO) = !v.toList.all (ZC · 1152921504606846976):=by
 rw[List.not_all_eq_any_not];congr 1;funext z;exact alF z
structure Sl where
 ad4:Bool
 rz:Fw
def Sl.aA(x:Sl):Array aC:=#[.bool x.ad4]++x.rz.aA
theorem Sl.ak(x:Sl):x.aA.size=42:=by simp[Sl.aA,Fw.ak]
theorem Sl.cB(x:Sl):x.aA.all (·.oneCell')=true:=gX ((by simp[cK])) (Fw.cB _)
@[go_sem]theorem Sl.eu(x:Sl):eu x.aA=42:=Sl.ak x
@[go_sem]theorem Sl.all(x:Sl):x.aA.extract 0 42=x.aA:=by have:=Sl.ak x;rw[<-this];simp
@[go_sem]theorem Sl.P7(x:Sl):x.aA[0]? = some (.bool x.ad4):=by simp[Sl.aA,aG,Fw.ak]
@[go_sem]theorem Sl.Vi(x:Sl):x.aA.extract 1 42=x.rz.aA:=by simp[Sl.aA,dA,Fw.ak,qj,uq]
def Hy:Sl:=⟨false,kQ⟩
@[go_sem]theorem aCx:bY #[bQ false,bQ false,aB,aB,aB,aB,aB,aB,aB,aB,aB,aB,aB,aB,aB,aB,aB,aB,bQ false,aB,aB,aB,aB,aB,aB,aB,aB,aB,aB,aB,aB,aB,aB,aB,aB,bg,bg,bg,jc {data:=#[]},bg,bg,bg]=bY Hy.aA:=rfl
@[go_sem]theorem axW:eB #[bQ false,bQ false,aB,aB,aB,aB,aB,aB,aB,aB,aB,aB,aB,aB,aB,aB,aB,aB,bQ false,aB,aB,aB,aB,aB,aB,aB,aB,aB,aB,aB,aB,aB,aB,aB,aB,bg,bg,bg,jc {data:=#[]},bg,bg,bg] 213=eB Hy.aA 213:=rfl
theorem kSl:oV 213 42 Hy.aA:=⟨⟨_,uF,rfl⟩,by kernel_rfl,by kernel_rfl,Sl.ak _⟩
@[go_sem ↓]theorem aQH(v:aC):bZ 213 v=yt 213 v:=rfl
@[go_sem ↓]theorem aQI(v x:aC):eD 213 v x=zW 213 v x:=rfl
@[go_sem]theorem aMA(W:au)(b o:Nat)(h:xS W b o 42):(yt 213 (.pointer (some ⟨b,o,none⟩))).run aj W=.ok (.agg (dY W b o 42)) W:=kSl.ld W b o h
@[go_sem]theorem aID(W:au)(c:Array aC)(x:Sl)(b:Nat)(hb:b=W.heap.size)(hc:eu c=42):(zW 213 (.pointer (some ⟨b,0,none⟩)) (.agg x.aA)).run aj (W.alloc (.cells c 213))=.ok () (W.alloc (.cells x.aA 213)):=kSl.stN W c x.aA b hb hc (Sl.ak x) (Sl.cB x)
@[go_sem]theorem aMB(W:au)(b o:Nat)(x:Sl)(h:W.there b o 42):(zW 213 (.pointer (some ⟨b,o,none⟩)) (.agg x.aA)).run aj W=.ok () (gT W b o x.aA):=kSl.st W b o x.aA h (Sl.ak x) (Sl.cB x)
@[go_sem ↓]theorem aQJ(ps:Array (Nat×aC)):fJ 213 ps=uW 213 ps:=rfl
theorem aCy(w:au)(fs:Array nV)(h:aj.underlying 213=some (.struct fs)):(iB (fun f=>Prod.mk f.offset <$> sizeOf f.type) fs:Sem (Array (Nat×Nat))).run aj w=.ok #[(0,1),(1,41)] w:=by
 have e:=uF;rw[h]at e;cases e;show _=_
 kernel_rfl
@[go_sem]theorem aIE(W:au):(uW 213 #[]).run aj W=.ok (.agg Hy.aA) W:=kSl.bd0 W _ uF ⟨_,aCy W _ uF⟩
@[go_sem]theorem aCz(W:au)(ad4:Bool)(rz:Fw):(uW 213 #[(0,.bool ad4),(1,.agg (rz.aA))]).run aj W=.ok (.agg (Sl.mk ad4 rz).aA) W:=kSl.bd W _ _ _ _ uF (aCy W _ uF) (by
 refine vw (Sl.ak _) ?_ ?_
 ·simp[rU,cu,Fw.ak]
 ·simp[qY,cu,Sl.aA]<;>(simp only[<-Array.append_assoc];rfl))
structure Tk where
 key:Vector UInt8 16
 dR:Int
 count:Int
 qV:Option aU
 ql:Nat
 yP:Nat
def Tk.aA(x:Tk):Array aC:=iU x.key ++ #[.int .i64 x.dR,.int .i64 x.count,.slice x.qV x.ql x.yP]
theorem Tk.ak(x:Tk):x.aA.size=19:=by simp[Tk.aA,dK]
@[go_sem]theorem Tk.acX(x:Tk):x.aA.extract 0 16=iU x.key:=by simp[Tk.aA,dA,dK,qj,uq]
@[go_sem]theorem Tk.U3(x:Tk):x.aA[16]? = some (.int .i64 x.dR):=by simp[Tk.aA,aG,dK]
@[go_sem]theorem Tk.afd(x:Tk):x.aA[17]? = some (.int .i64 x.count):=by simp[Tk.aA,aG,dK]
@[go_sem]theorem Tk.yQ(x:Tk):x.aA[18]? = some (.slice x.qV x.ql x.yP):=by simp[Tk.aA,aG,dK]
theorem Tk.Sc(x:Tk)(v:Int):x.aA.setIfInBounds 17 (.int .i64 v)=({x with count:=v}:Tk).aA:=by simp[Tk.aA,aM,dK]
def alG:Tk:=⟨(bG 16 0),0,0,none,0,0⟩
@[go_sem]theorem aCA:bY #[aB,aB,aB,aB,aB,aB,aB,aB,aB,aB,aB,aB,aB,aB,aB,aB,bg,bg,bE none 0 0]=bY alG.aA:=rfl
@[go_sem]theorem axX:eB #[aB,aB,aB,aB,aB,aB,aB,aB,aB,aB,aB,aB,aB,aB,aB,aB,bg,bg,bE none 0 0] 207=eB alG.aA 207:=rfl
theorem kTk:oV 207 19 alG.aA:=⟨⟨_,Ed,rfl⟩,by kernel_rfl,by kernel_rfl,Tk.ak _⟩
@[go_sem ↓]theorem aQL(v:aC):bZ 207 v=yt 207 v:=rfl
@[go_sem ↓]theorem aQM(v x:aC):eD 207 v x=zW 207 v x:=rfl
@[go_sem ↓]theorem aQN(ps:Array (Nat×aC)):fJ 207 ps=uW 207 ps:=rfl
theorem aIF(w:au)(fs:Array nV)(h:aj.underlying 207=some (.struct fs)):(iB (fun f=>Prod.mk f.offset <$> sizeOf f.type) fs:Sem (Array (Nat×Nat))).run aj w=.ok #[(0,16),(16,1),(17,1),(18,1)] w:=by
 have e:=Ed;rw[h]at e;cases e;show _=_
 kernel_rfl
def wI:Option Fw->Sl
 | none=>Hy
 | some f=>⟨true,f⟩
theorem J3(o:Option Fw):(wI o).ad4=o.isSome:=by cases o<;>rfl
def slC(o:Option Fw):Array aC:=(wI o).aA
theorem FL(o:Option Fw):(slC o).size=42:=Sl.ak _
section
attribute [local go_sem high] iT jG
theorem yg(w:au):∃(T:Type)(f:T->au)(n0:T),f n0=w.drew/\(∀n,aN w.heap.size w (f n))/\(∀W,aN w.heap.size w W->∃n,W=f n):=Jm (aN w.heap.size w) w (Below.refl _ _).drew
theorem afe(n:Nat)(z:Int)(hz:z=n)(hn:n<=4)(p:Nat)(s:S4)(hs:s.ok)(W:au)(hb:dL W p s.aA):aR aj 183 #[.pointer (some ⟨p,0,none⟩),.int .i64 z] W fun e W'=>e=.returned (.tuple #[])/\dL W' p (Af Lr n s).aA/\W.grownBy W' (some p):=by subst hz;exact agF n hn p s hs W hb
theorem aff(p:Nat)(s:S4)(n:Nat)(hs:s.ok)(hn:n<18446744073709551616)(W:au)(hb:dL W p s.aA):aR aj 182 #[.pointer (some ⟨p,0,none⟩),.int .u64 n] W fun e W'=>e=.returned (.tuple #[])/\dL W' p (Wi s n).aA/\W.grownBy W' (some p):=by
 obtain⟨a,b,c,d⟩:=s;have HS:=ah hs;obtain⟨y1,y2,y3,y4,y5⟩:=hb.num;simp only[S4.ok]at hs y1 y2 y3 y4;have e1:=pV d n hs.2.2.2 hn;have OK1:=ah (aiR HS.out hn);have X1:=ah (hb.p3 (d ^^^ n));have G1:=ah (yA (aiQ W (some p)) (p:=⟨p,3,none⟩) (.inl rfl) (.int .u64 (d ^^^ n:Nat)));have OK2:=ah (Oi 2 _ OK1.out);have C:=ah (afe 2 2 rfl (by omega) p (anw ⟨a,b,c,d⟩ n) OK1.out _ X1.out);have HW:=ah (show Wi ⟨a,b,c,d⟩ n=av7 (Af Lr 2 (anw ⟨a,b,c,d⟩ n)) n from rfl);obtain⟨t,ht⟩:∃t,t=Af Lr 2 (anw ⟨a,b,c,d⟩ n):=⟨_,rfl⟩
 rw[<-ht]at OK2 C HW;have HN:=ah hn;obtain⟨ta,tb,tc,td⟩:=t;have e2:=pV ta n OK2.out.1 hn;clear ht hs hb hn;rw[HW.out];go_enter Tryz.func182,Tryz.ntmps182;go_wp2_with (go_at_call 183;go_loud (with_reducible refine C.out.mono ?_);rintro e w2 ⟨rfl,kF,hg2⟩;obtain⟨z1,z2,z3,z4,z5⟩:=kF.num;have zz:=z5 0;have X2:=ah kF;have G2:=ah hg2;clear kF hg2);go_end0;exact⟨rfl,X2.out.p0 _,yA (NM G1.out G2.out) (p:=⟨p,0,none⟩) (.inl rfl) _⟩
theorem aph{W:au}{q:Nat}{k:Vector UInt8 16}(h:dL W q (iU k))(o m:Nat)(ho:o+m<=16):gy W W.heap.size (some ⟨q,o,none⟩) m ((k.toList.drop o).take m):=by
 refine⟨by simp;omega,fun _=>⟨_,rfl,h.lt,fun j u hu=>?_⟩⟩;have hj:j<m:=by
  rcases bf j m with hj|hj
  ·exact hj
  ·rw[aT (by simp;omega)]at hu;cases hu
 rw[Addr.add_mid,h.aI.1,<-hu];simp[iU,jg,hj,jf]
theorem kS4:oV 280 4 (S4.mk 0 0 0 0).aA:=⟨⟨_,Ee,rfl⟩,by kernel_rfl,by kernel_rfl,rfl⟩
@[go_sem ↓]theorem aQP(ps:Array (Nat×aC)):fJ 280 ps=uW 280 ps:=rfl
theorem aIG(w:au)(fs:Array nV)(h:aj.underlying 280=some (.struct fs)):(iB (fun f=>Prod.mk f.offset <$> sizeOf f.type) fs:Sem (Array (Nat×Nat))).run aj w=.ok #[(0,1),(1,1),(2,1),(3,1)] w:=by
 have e:=Ee;rw[h]at e;cases e;show _=_
 kernel_rfl
@[go_sem]theorem aCB(W:au)(a b c d:Nat):(uW 280 #[(0,.int .u64 a),(1,.int .u64 b),(2,.int .u64 c),(3,.int .u64 d)]).run aj W=.ok (.agg (S4.mk a b c d).aA) W:=kS4.bd W _ _ _ _ Ee (aIG W _ Ee) (by
 refine vw rfl ?_ ?_
 ·simp[rU,cu,S4.aA]
 ·simp[qY,cu,S4.aA])
theorem afg(x y:Nat)(hx:x<256)(hy:y<72057594037927936):bits .or .u64 ((x*72057594037927936:Nat):Int) (y:Int)=((y+x*72057594037927936:Nat):Int):=by
 rw[bits_or_u64_nat _ _ (by omega) (by omega)];congr 1;have h:=Nat.two_pow_add_eq_or_of_lt (i:=56) (b:=y) (by simpa using hy) x;rw[show(2:Nat)^56=72057594037927936 by decide,DC]at h;omega
theorem axY{W:au}{q:Nat}{k:Vector UInt8 16}(h:dL W q (iU k)):aR aj 180 #[.slice (some ⟨q,0,none⟩) 8 16,.bool false] W (gP W (.int .u64 (leN (k.toList.take 8)))):=by
 have:=MQ _ 8 16 _ W (by omega) (by omega) (aph h 0 8 (by omega));rw[List.drop_zero,vY]at this;exact this
theorem axZ{W:au}{q:Nat}{k:Vector UInt8 16}(h:dL W q (iU k)):aR aj 180 #[.slice (some ⟨q,8,none⟩) 8 8,.bool false] W (gP W (.int .u64 (leN (k.toList.drop 8)))):=by
 have:=MQ _ 8 8 _ W (by omega) (by omega) (aph h 8 8 (by omega));rw[vY]at this;have e:(k.toList.drop 8).take 8=k.toList.drop 8:=aL (by simp);rw[show min 8 8=8 from rfl,e]at this;exact this
theorem OT.go{W W':au}{l:List Zd}{bss:List (List UInt8)}(h:OT W W.heap.size l bss)(hb:aN W.heap.size W W'):OT W' W'.heap.size l bss:=⟨h.1,fun i hi=>((h.2 i hi).below hb).lF hb.size⟩
theorem alH(l:List Zd)(bss:List (List UInt8))(A:Option aU)(n c:Nat)(w:au)(hR:RdS w w.heap.size A n l)(hH:OT w w.heap.size l bss)(hn:n<=1000)(hs:zm l<=1000000000)(bs:List UInt8)(m:Nat)(Em:bss.flatten=bs)(hm:bs.length=m):
 aR aj 181 #[.slice A n c] w fun e w'=>∃A1 c1,e=.returned (.slice A1 m c1)/\(m<=c1/\c1<=maxLen)/\gy w' w'.heap.size A1 m bs/\(∀a,A1=some a->w.heap.size<=a.block)/\aN w.heap.size w w':=by
 subst Em hm;refine(MS l bss A n c w hR hH hn hs).mono ?_;rintro e w' ⟨v,rfl,ho,hb⟩;obtain⟨A1,c1,rfl,h1,h2⟩:=jT ho;exact⟨A1,c1,rfl,⟨h1,h2⟩,gy.iX ho,fun a ha=>(ho.lt a.block (by rw[ha];rfl)).1,hb⟩
def Zh(s:S4)(l:List UInt8)(e:Nat):Nat:=anz ((QK (l.length/8) l e).foldl Wi s)
theorem alI(s:S4)(l:List UInt8)(e:Nat)(h:8<=l.length):Zh s l e=Zh (Wi s (leN (l.take 8))) (l.drop 8) e:=by
 unfold Zh;rw[show l.length/8=(l.drop 8).length/8+1 by rw[jA];omega,QK,jV]
theorem alJ(s:S4)(l:List UInt8)(e:Nat)(h:l.length<8):Zh s l e=anz (Wi s (leN l+e*72057594037927936)):=by
 unfold Zh;rw[show l.length/8=0 by omega];rfl
theorem aaR(key:Vector UInt8 16)(l:List Zd)(bss:List (List UInt8))(A:Option aU)(n c:Nat)(w:au)(hR:RdS w w.heap.size A n l)(hH:OT w w.heap.size l bss)(hn:n<=1000)(hs:zm l<=100000000)(bs:List UInt8)(Em:bss.flatten=bs)(hl:bs.length<=100000000):
 aR aj 97 #[.agg (iU key),.slice A n c] w (gP w (.int .u64 (yF key bs))):=by
 obtain⟨m,hm⟩:∃m,bs.length=m:=⟨_,rfl⟩
 have HM:=ah hm;have HBS:=ah Em;have HT:=ah (show yF key bs=Zh (arB key) bs (bs.length%256)from rfl);rw[hm]at hl HT;clear hm Em;have HR:=ah hR;have HH:=ah hH;have Z0:=ah ((Bx.start w).new (iU key) 22);clear hR hH;go_enter Tryz.func97,Tryz.ntmps97;go_upto_region 1 with fail
 generalize w.alloc (.cells (iU key) 22)=w1 at Z0 ⊢;obtain⟨k0,Ny⟩:∃k,k=leN (key.toList.take 8):=⟨_,rfl⟩
 obtain⟨k1,hk1⟩:∃k,k=leN (key.toList.drop 8):=⟨_,rfl⟩
 have HS:=ah (show arB key=⟨k0 ^^^ 8317987319222330741,k1 ^^^ 7237128888997146477,k0 ^^^ 7816392313619706465,k1 ^^^ 8387220255154660723⟩by rw[Ny,hk1];rfl);have b0:k0<18446744073709551616:=by rw[Ny];exact KL _ (by simp)
 have b1:k1<18446744073709551616:=by rw[hk1];exact KL _ (by simp)
 have Kv:=ah (aiS key);obtain⟨T,f,n0,E0,es,ew⟩:=yg (w1);have hT:Nonempty T:=⟨n0⟩
 have ES:=ah es;have EW:=ah ew;have C0:=ah (fun m=>axY (Z0.out.go (es m)).b0);have C1:=ah (fun m=>axZ (Z0.out.go (es m)).b0);rw[<-Ny]at C0;rw[<-hk1]at C1;clear es ew;refine pK f (by kernel_rfl) (by kernel_rfl) n0 E0 ?_
 repeat(go_big_quiet_step ((first|(go_at_call 180;(with_reducible refine(C0.out _).mono ?_);rintro e w2 ⟨rfl,hb⟩;exact⟨rfl,EW.out _ ((ES.out _).trans (hb.mono (ES.out _).size))⟩)|(go_at_call 180;(with_reducible refine(C1.out _).mono ?_);rintro e w2 ⟨rfl,hb⟩;exact⟨rfl,EW.out _ ((ES.out _).trans (hb.mono (ES.out _).size))⟩))))
 refine wpQuiet_nil ?_;rintro _ ⟨m',rfl⟩;have HB:=ah (ES.out m');generalize f m'=wN at *;clear ES EW E0 hT n0;have Z1:=ah (Z0.out.go HB.out);clear HB C0 C1 Ny hk1 Z0;have x0:bits .xor .u64 (k0:Int) 8317987319222330741=((k0 ^^^ 8317987319222330741:Nat):Int):=pV k0 8317987319222330741 b0 (by decide);have x1:bits .xor .u64 (k1:Int) 7237128888997146477=((k1 ^^^ 7237128888997146477:Nat):Int):=pV k1 7237128888997146477 b1 (by decide);have x2:bits .xor .u64 (k0:Int) 7816392313619706465=((k0 ^^^ 7816392313619706465:Nat):Int):=pV k0 7816392313619706465 b0 (by decide);have x3:bits .xor .u64 (k1:Int) 8387220255154660723=((k1 ^^^ 8387220255154660723:Nat):Int):=pV k1 8387220255154660723 b1 (by decide);obtain⟨S,hS⟩:∃S,S=S4.mk (k0 ^^^ 8317987319222330741) (k1 ^^^ 7237128888997146477) (k0 ^^^ 7816392313619706465) (k1 ^^^ 8387220255154660723):=⟨_,rfl⟩
 go_upto_region 3 with fail
 rw[<-hS]at HS ⊢;rw[HS.out]at Kv;have Z2:=ah (Z1.out.new S.aA 280);have HPW:=ah Z1.out.dF.size;clear hS x0 x1 x2 x3 b0 b1;generalize wN.alloc (.cells S.aA 280)=w3 at Z2 ⊢;generalize wN.heap.size=p at *;have HP3:=ah Z2.out.b0.lt;have CC:=ah (alH l bss A n c w3 (Z2.out.rdR HR.out) (HH.out.go Z2.out.dF) hn (by omega) bs m HBS.out HM.out);go_upto_region 4 with(go_at_call 181;(with_reducible refine CC.out.mono ?_);rintro e w4 ⟨A1,c1,rfl,Fg,Uc,hbk,hb⟩;have RD:=ah Uc;have HC1:=ah Fg;have HBK:=ah hbk;have Z4:=ah (Z2.out.go hb);clear Uc hb Fg hbk)
 clear CC Z2;have v1:jr.wrap (m:Int)=m:=by rw[IntKind.wrap_u64];omega
 have v2:jr.wrap ((m:Int)*72057594037927936)=((m%256*72057594037927936:Nat):Int):=by rw[IntKind.wrap_u64];omega
 obtain⟨e8,he8⟩:∃e,e=m%256:=⟨_,rfl⟩
 rw[<-he8]at v2 HT;have he9:e8<256:=by omega
 rw[HS.out]at HT;obtain⟨eN,heN⟩:∃e,e=e8*72057594037927936:=⟨_,rfl⟩
 rw[<-heN]at v2;have HEN:=ah heN;clear he8 heN;go_wp2;go_loopw [8] (fun s8 wr=>∃(A':Option aU)(m' c':Nat)(s:S4)(l':List UInt8),s8=.slice A' m' c'/\(m'<=c'/\c'<=maxLen/\m'<=m)/\s.ok/\dL wr p s.aA/\gy wr wr.heap.size A' m' l'/\(∀a,A'=some a->a.block≠p)/\Zh S bs e8=Zh s l' e8/\aN w.heap.size w wr) (fun s8 _=>auC s8)
 case atStart=>exact⟨A1,m,c1,S,bs,rfl,⟨HC1.out.1,HC1.out.2,ay _⟩,Kv.out,Z4.out.b0,RD.out,fun a ha=>by have:=HBK.out a ha;have:=HP3.out;omega,rfl,Z4.out.dF⟩
 case round=>
  obtain⟨A',m',c',s,l',rfl,⟨hmc,VG,hmm⟩,Di,hbx,Uc,pY,yZ,Jp⟩:=hrel;have as2:=ah Di;have HBX:=ah hbx;have HRD:=ah Uc;have HNE:=ah pY;have HST:=ah yZ;have Ht:=ah Jp;have NI:=ah Uc.len;have C1:=ah (MQ A' m' c' l' wr hmc (by unfold maxLen at VG;omega) Uc);clear Di hbx Uc pY yZ Jp;by_cases h8:8<=m'
  ·have h8i:(8:Int)<=m':=by omega
   obtain⟨x,hx⟩:∃x,x=leN (l'.take 8):=⟨_,rfl⟩
   have HXL:=ah (show x<18446744073709551616 by rw[hx];exact KL _ (by simp;omega));have HX:=ah hx;rw[<-hx]at C1;clear hx;go_wp2_with (first|(go_at_call 180;(with_reducible refine C1.out.mono ?_);rintro e w5 ⟨rfl,hb⟩;have C2:=ah (aff p s x as2.out HXL.out w5 (HBX.out.go hb));have R5:=ah (HRD.out.upon hb);have L5:=ah (Ht.out.trans (hb.mono Ht.out.size));clear hb)|(go_at_call 182;go_loud (with_reducible refine C2.out.mono ?_);rintro e w6 ⟨rfl,NH,hg6⟩;have B6:=ah NH;have R6:=ah ((gy.awn (w:=w5) R5.out hg6 (fun a ha e=>HNE.out a ha (Option.some.inj e))).lF hg6.size);have L6:=ah (um L5.out hg6 HPW.out L5.out.size);clear NH hg6));go_roundw
   case rel=>exact⟨_,_,_,Wi s x,l'.drop 8,rfl,⟨by omega,by omega,by omega⟩,abN as2.out HXL.out,B6.out,R6.out.zo h8 hmc,fun a ha=>by
    unfold vP at ha;split at ha
    ·exact HNE.out a ha
    ·cases hA:A' with
     | none=>rw[hA]at ha;cases ha
     | some a0=>rw[hA]at ha;injection ha with ha;rw[<-ha];exact HNE.out a0 hA,by rw[HST.out,alI _ _ _ (by rw[NI.out];exact h8),HX.out],L6.out⟩
   case measure=>simp[auC];omega
  ·have h8i:¬(8:Int)<=m':=by omega
   obtain⟨y,hy⟩:∃y,y=leN l':=⟨_,rfl⟩
   have hy2:l'.take 8=l':=aL (by rw[NI.out];omega);have hy3:y<72057594037927936:=by
    have h1:=agG l';have h2:256^l'.length<=256^7:=Nat.pow_le_pow_right (by omega) (by rw[NI.out];omega);omega
   rw[hy2,<-hy]at C1;have HF:=ah (show Zh S bs e8=anz (Wi s (y+e8*72057594037927936))by rw[HST.out,alJ _ _ _ (by rw[NI.out];omega),<-hy]);have o1:=afg e8 y he9 hy3;rw[<-HEN.out]at o1 HF;obtain⟨z,hz⟩:∃z,z=y+eN:=⟨_,rfl⟩
   have HZL:=ah (show z<18446744073709551616 by have:=HEN.out;omega);rw[<-hz]at o1 HF;obtain⟨t,ht⟩:∃t,t=Wi s z:=⟨_,rfl⟩
   have HTK:=ah (show t.ok by rw[ht];exact abN as2.out HZL.out);have HT2:=ah ht;rw[<-ht]at HF;obtain⟨u,hu⟩:∃u,u=Af Lr 4 (anx t 255):=⟨_,rfl⟩
   have HUK:=ah (show u.ok by rw[hu];exact Oi 4 _ (abM HTK.out (by decide)));have HU:=ah hu;have HFU:=ah (show Zh S bs e8=av8 u by rw[HF.out,hu];rfl);have x2:bits .xor .u64 (t.c:Int) 255=((t.c ^^^ 255:Nat):Int):=pV t.c 255 HTK.out.2.2.1 (by decide);clear hy hy2 hz ht hu hy3;go_upto_region 9 with(first|(go_at_call 180;(with_reducible refine C1.out.mono ?_);rintro e w5 ⟨rfl,hb⟩;have C2:=ah (HT2.out ▸ aff p s z as2.out HZL.out w5 (HBX.out.go hb));have L5:=ah (Ht.out.trans (hb.mono Ht.out.size));clear hb)|(go_at_call 182;(with_reducible refine C2.out.mono ?_);rintro e w6 ⟨rfl,NH,hg6⟩;have B6:=ah NH;have L6:=ah (um L5.out hg6 HPW.out L5.out.size);clear NH hg6))
   obtain⟨y1,y2,y3,y4,y5⟩:=B6.out.num;have f2:=y5 2;have X9:=ah (show dL (w6.setCell ⟨p,2,none⟩ (.int .u64 (t.c ^^^ 255:Nat))) p (anx t 255).aA from B6.out.p2 (t.c ^^^ 255));have L9:=ah (L6.out.setCell (p:=⟨p,2,none⟩) HPW.out (.int .u64 (t.c ^^^ 255:Nat)));go_upto_region 10 with fail
   clear y1 y2 y3 y4 y5 f2 x2 o1 B6 L6;generalize w6.setCell ⟨p,2,none⟩ (.int .u64 (t.c ^^^ 255:Nat))=w7 at X9 L9 ⊢;have C4:=ah (HU.out ▸ afe 4 4 rfl (by omega) p (anx t 255) (abM HTK.out (by decide)) w7 X9.out);go_upto_region 11 with(go_at_call 183;go_loud (with_reducible refine C4.out.mono ?_);rintro e w8 ⟨rfl,Zr,hg8⟩;have B8:=ah Zr;have L8:=ah (um L9.out hg8 HPW.out L9.out.size);clear Zr hg8)
   obtain⟨u1,u2,u3,u4⟩:=u;obtain⟨y1,y2,y3,y4,y5⟩:=B8.out.num;simp only at y1 y2 y3 y4;have o2:=pV u1 u2 HUK.out.1 HUK.out.2.1;have o3:=pV (u1 ^^^ u2) u3 (yE _ _ HUK.out.1 HUK.out.2.1) HUK.out.2.2.1;have o4:=pV (u1 ^^^ u2 ^^^ u3) u4 (yE _ _ (yE _ _ HUK.out.1 HUK.out.2.1) HUK.out.2.2.1) HUK.out.2.2.2;go_quiet (fail);have L10:=ah (fI L8.out nq);go_wp2;go_ret;refine⟨?_,L10.out⟩;rw[HT.out,HFU.out];rfl
end
section
def XM(s:List (Option Fw)):Array aC:=(s.flatMap fun o=>(slC o).toList).toArray
theorem XO(o:Option Fw)(s:List (Option Fw)):XM (o::s)=slC o++XM s:=by
 simp[XM,iJ]
theorem vF(s:List (Option Fw)):(XM s).size=s.length*42:=by
 induction s with
 | nil=>rfl
 | cons o s ih=>rw[XO,nW,ih,FL,bC];omega
theorem K9:∀(s:List (Option Fw))(i j:Nat),i<s.length->j<42->(XM s)[i*42+j]? = (slC (fE s i))[j]?
 | [],i,j,hi,_=>by simp at hi
 | o::s,0,j,_,hj=>by
   rw[XO,Nat.zero_mul,bB,aG,if_pos (by rw[FL];exact hj)];rfl
 | o::s,i+1,j,hi,hj=>by
   rw[XO,aG,if_neg (by rw[FL];omega),FL,show(i+1)*42+j-42=i*42+j by omega];exact K9 s i j (by simpa using hi) hj
theorem Sd(s:List (Option Fw))(i k m:Nat)(hi:i<s.length)(hm:k+m<=42)(c:Array aC)(hc:(slC (fE s i)).extract k (k+m)=c):(XM s).extract (i*42+k) (i*42+k+m)=c:=by
 rw[<-hc];have h1:=vF s;have h2:=FL (fE s i);have h3:(i+1)*42<=s.length*42:=cZ 42 hi;apply dV;intro j;rw[dx,dx];by_cases hj:j<m
 ·rw[if_pos (by omega),if_pos (by omega),ny,K9 s i (k+j) hi (by omega)]
 ·rw[if_neg (by omega),if_neg (by omega)]
theorem apj(s:List (Option Fw))(i:Nat)(hi:i<s.length):(XM s).extract (i*42) (i*42+42)=(wI (fE s i)).aA:=Sd s i 0 42 hi (by omega) _ (Sl.all _)
theorem apk(s:List (Option Fw))(i:Nat)(hi:i<s.length):(XM s).extract (i*42+1) (i*42+1+41)=(wI (fE s i)).rz.aA:=Sd s i 1 41 hi (by omega) _ (Sl.Vi _)
theorem as5(s:List (Option Fw))(i:Nat)(hi:i<s.length):(XM s).extract (i*42+1) (i*42+1+37)=(wI (fE s i)).rz.key.aA:=by
 refine Sd s i 1 37 hi (by omega) _ ?_;show(Sl.aA _).extract 1 38=_;simp[Sl.aA,Fw.aA,dA,Tu.ak,qj (Tu.ak _),uq]
theorem apl(s:List (Option Fw))(i:Nat)(hi:i<s.length):(XM s)[i*42]? = some (.bool (fE s i).isSome):=by
 have:=K9 s i 0 hi (by omega);rw[nI]at this;rw[this];show(wI (fE s i)).aA[0]? = _;rw[Sl.P7,J3]
theorem Vj(s:List (Option Fw))(i:Nat)(o:Option Fw)(hi:i<s.length):sJ (XM s) (i*42) (slC o)=XM (s.set i o):=by
 apply dV;intro j;rw[EL,vF,FL];have h3:(i+1)*42<=s.length*42:=cZ 42 hi;by_cases hj:j<s.length*42
 ·have e:j=j/42*42+j%42:=by omega
  have hq:j/42<s.length:=by omega
  have h4:(XM (s.set i o))[j]? = (slC (fE (s.set i o) (j/42)))[j%42]?:=by
   conv=>lhs;rw[e]
   exact K9 _ _ _ (by simpa using hq) (by omega)
  have h5:(XM s)[j]? = (slC (fE s (j/42)))[j%42]?:=by
   conv=>lhs;rw[e]
   exact K9 _ _ _ hq (by omega)
  rw[h4,h5,GI _ _ _ _ hi];by_cases hc:i*42<=j/\j<i*42+42
  ·rw[if_pos ⟨hc.1,hc.2,hj⟩,if_pos (by omega)]
   congr 1;omega
  ·rw[if_neg (by omega),if_neg (by omega)]
 ·rw[if_neg (by omega),aV (by rw[vF];omega),aV (by rw[vF];simp;omega)]
structure Gh(W:au)(q g:Nat)(key:Vector UInt8 16)(dR:Int)(s:List (Option Fw)):Prop where
 tb:dL W q (Tk.mk key dR (iw s).length (some ⟨g,0,none⟩) s.length s.length).aA
 sl:dL W g (XM s)
 ne:q≠g
 sz:0<s.length/\s.length<=100000
variable {W W':au} {q g:Nat} {key:Vector UInt8 16} {dR:Int} {s:List (Option Fw)}
theorem Gh.go(h:Gh W q g key dR s)(hb:aN W.heap.size W W'):Gh W' q g key dR s:=⟨h.tb.go hb,h.sl.go hb,h.ne,h.sz⟩
theorem Gh.alloc(h:Gh W q g key dR s)(ob:Obj):Gh (W.alloc ob) q g key dR s:=h.go ((Below.refl _ _).alloc (ay _) _)
theorem Gh.drew(h:Gh W q g key dR s):Gh W.drew q g key dR s:=⟨h.tb.drew,h.sl.drew,h.ne,h.sz⟩
theorem Gh.drewN(h:Gh W q g key dR s)(n:Nat):Gh (W.drewN n) q g key dR s:=⟨h.tb.drewN n,h.sl.drewN n,h.ne,h.sz⟩
theorem Gh.XP(h:Gh W q g key dR s){i:Nat}(hi:i<s.length):W.cell? ⟨g,i*42,none⟩=some (.bool (fE s i).isSome)/\dY W g (i*42) 42=(wI (fE s i)).aA/\dY W g (i*42+1) 41=(wI (fE s i)).rz.aA/\dY W g (i*42+1) 37=(wI (fE s i)).rz.key.aA/\xS W g (i*42) 42/\xS W g (i*42+1) 41/\xS W g (i*42+1) 37:=by
 obtain⟨h1,h2,h3,h4⟩:=h.sl.aI;have hs:=vF s;have hm:(i+1)*42<=s.length*42:=cZ 42 hi;have hh:∀o n,o+n<=s.length*42->xS W g o n:=fun o n hn=>by rw[h3 o n (by unfold eu;omega)];trivial
 refine⟨by rw[h1,apl s i hi],?_,?_,?_,hh _ _ (by omega),hh _ _ (by omega),hh _ _ (by omega)⟩
 ·rw[h4 _ _ (by unfold eu;omega),apj s i hi]
 ·rw[h4 _ _ (by unfold eu;omega),apk s i hi]
 ·rw[h4 _ _ (by unfold eu;omega),as5 s i hi]
theorem Gh.aI(h:Gh W q g key dR s):W.cell? ⟨q,18,none⟩=some (.slice (some ⟨g,0,none⟩) s.length s.length)/\W.cell? ⟨q,17,none⟩=some (.int .i64 (iw s).length)/\W.cell? ⟨q,16,none⟩=some (.int .i64 dR)/\(∀j,W.frozen? ⟨q,j,none⟩=false)/\dY W q 0 16=iU key/\xS W q 0 16:=by
 obtain⟨h1,h2,h3,h4⟩:=h.tb.aI;refine⟨(h1 18).trans (Tk.yQ _),(h1 17).trans (Tk.afd _),(h1 16).trans (Tk.U3 _),h2,?_,?_⟩
 ·rw[h4 0 16 (by unfold eu;rw[Tk.ak];omega)];exact Tk.acX _
 ·rw[h3 0 16 (by unfold eu;rw[Tk.ak];omega)];trivial
def hmK(key:Vector UInt8 16)(N:Nat)(k:Tu):Nat:=yF key (NA k)%N
end
section
open Go.RowKit Go.Shelf
attribute [local go_sem] qC
theorem o9.BU(x:o9):x.aA.size=2:=by simp[o9.aA]
theorem o9.afi(x:o9):x.aA.all (·.oneCell')=true:=by simp[o9.aA,cK]
@[go_sem]theorem o9.aII(x:o9):eu x.aA=2:=o9.BU x
@[go_sem]theorem o9.aIJ(x:o9):x.aA.extract 0 2=x.aA:=by have:=o9.BU x;rw[<-this];simp
@[go_sem]theorem o9.zX(x:o9):x.aA[0]? = some (.string (bV x.name)):=rfl
@[go_sem]theorem o9.as6(x:o9):x.aA[1]? = some (.int .i64 x.q):=rfl
def lu:o9:=⟨[],0⟩
instance:Inhabited o9:=⟨lu⟩
@[go_sem]theorem as7:eB #[jc {data:=#[]},aJ bU 0] 151=eB lu.aA 151:=rfl
theorem ax2:oV 151 2 lu.aA:=⟨⟨_,Tryz.underlying151,rfl⟩,by kernel_rfl,by kernel_rfl,rfl⟩
@[go_sem ↓]theorem aMI(v:aC):bZ 151 v=yt 151 v:=rfl
@[go_sem ↓]theorem aMJ(v x:aC):eD 151 v x=zW 151 v x:=rfl
@[go_sem]theorem ax3(W:au)(b o:Nat)(h:xS W b o 2):(yt 151 (.pointer (some ⟨b,o,none⟩))).run aj W=.ok (.agg (dY W b o 2)) W:=ax2.ld W b o h
@[go_sem]theorem aFc(W:au)(c:Array aC)(x:o9)(b:Nat)(hb:b=W.heap.size)(hc:eu c=2):(zW 151 (.pointer (some ⟨b,0,none⟩)) (.agg x.aA)).run aj (W.alloc (.cells c 151))=.ok () (W.alloc (.cells x.aA 151)):=ax2.stN W c x.aA b hb hc rfl (o9.afi x)
@[go_sem]theorem ax4(w:au)(x:o9):(an1 1 #[(0,.agg x.aA)]).run aj w=.ok (.slice (some ⟨w.heap.size,0,none⟩) 1 1) (w.alloc (.cells x.aA 151)):=akL w x.name x.q
theorem o9.ak(x:o9):x.aA.size=2:=rfl
theorem o9.cB(x:o9):x.aA.all (·.oneCell')=true:=o9.afi x
theorem kK{W:au}{b:Nat}{x:Fw}(h:dL W b x.aA):(Rq (.pointer (some ⟨b,0,none⟩))).run aj W=.ok (.agg x.aA) W:=by
 have hs:eu x.aA=41:=Fw.ak x;rw[ajc W b 0 (of_eq_true (h.aI.2.2.1 0 41 (by omega))),h.aI.2.2.2 0 41 (by omega),bB,Fw.kg]
theorem XQ{W:au}{b:Nat}{x:o9}(h:dL W b x.aA):(yt 151 (.pointer (some ⟨b,0,none⟩))).run aj W=.ok (.agg x.aA) W:=by
 have hs:eu x.aA=2:=rfl;rw[ax3 W b 0 (of_eq_true (h.aI.2.2.1 0 2 (by omega))),h.aI.2.2.2 0 2 (by omega),bB,o9.aIJ]
theorem XT(F:Fence)(n:Nat)(h3:F.fn 266)(Lx:F.round=none)(hn:3<=n)(gf:Nat)(lb:Array aC)(hgf:F.fn gf)(eg:∀args w,(callFunc gf args).run aj w=.ok (.enter gf args) w)(S Sp:List Fw->Prop)(N:Nat)(hN:N<=100000)(w:au)
 (Ev:SeqStopsK F (n-1) aj gf lb (fun x:Fw=>#[bY x.aA]) (aN w.heap.size) S Sp N w) :
 CallsIn F n aj 266 #[.slice none 0 0,.func (.func gf) #[] lb] w fun e W'=>
  ∃ys,S ys/\∃A' c',e=.returned (.slice A' ys.length c')/\W'.ownsRow w.heap.size 86 41 (.slice A' ys.length c') ys.length (ys.flatMap fun x=>x.aA.toList)/\aN w.heap.size w W':=by
 have h1:1<=n:=by omega
 obtain⟨i0,hi,mZ,nu,Ar⟩:=ahe;refine callsIn_of_wp_marks Tryz.func266 rfl h3 ?_ Lx;simp only[Tryz.ntmps266,List.size_toArray,bC,List.length_nil,Nat.reduceAdd,Nat.reduceSub,Array.replicate_succ,Array.replicate_zero,List.push_toArray,List.append_toArray,dG,List.cons_append];gi_wp2;have bO:=Boxed.new w 34 (.slice none 0 0);have Ur:aN w.heap.size w (w.alloc (.cells #[.slice none 0 0] 34)):=(Below.refl _ w).alloc (ay _) _;have hs0:(w.alloc (.cells #[.slice none 0 0] 34)).heap.size=w.heap.size+1:=by simp
 generalize w.alloc (.cells #[.slice none 0 0] 34)=W0 at bO Ur hs0 ⊢;refine wpIn_rangeFunc_ownH Lx h1 (gf:=gf) (lb:=lb) rfl hgf eg Ev (fun h k=>Below.trans h k) (belowK_b (by omega)) Ur (fun _=>rfl)
  (fun(pre:List Fw) W=>(∃v,Boxed W w.heap.size 34 v/\W.ownsRow w.heap.size 86 41 v pre.length (pre.flatMap fun x=>x.aA.toList)/\True)/\aN w.heap.size w W)
  (fun _ _ _=>False)
  (OwnFrom.and (Own.from (holdsRow_own w.heap.size w.heap.size 34 86 41 (fun pre:List Fw=>pre.length) (fun pre:List Fw=>pre.flatMap fun x=>x.aA.toList) (fun _ _=>True)) _) (ownFrom_below (ay _) (by omega)))
  (fun _ _ _ _ _ hs _ _=>hs)
  ⟨⟨_,bO,World.ownsRow_nil _ _ _ _,trivial⟩,Ur⟩
  (fun x a' W=>∃Bq,w.heap.size<Bq/\dL W Bq x.aA/\a'={tmps:=#[.slice none 0 0,.func (.func gf) #[] lb,.pointer (some ⟨w.heap.size,0,none⟩),undef,.slice none 0 0,.pointer (some ⟨Bq,0,none⟩),.func (.func gf) #[] lb,.agg x.aA,undef,undef,undef,undef,undef],defers:=[]})
  (fun x a' _ X Y row hs hg hr=>by obtain⟨Bq,h1,h2,h3⟩:=hs;exact⟨Bq,h1,zU Bq x.aA () X Y row h2 hg (fun r e=>(hr r e).2),h3⟩)
  ?assign ?body ?done ?stop
 case assign=>
  rintro q pre x W K ⟨⟨v,hv,nH,_⟩,hB⟩ hK;gi_wp2;refine hK _ _ ((KeepsOthers.alloc _ _).from _) ((Below.refl _ W).alloc hB.size _) ⟨⟨v,hv.alloc _,nH.alloc _,trivial⟩,hB.alloc hB.size _⟩ ⟨W.heap.size,hv.lt,dL.new W _ _,rfl⟩
 case body=>
  rintro q pre x a' W hq ⟨r,hr⟩ ⟨⟨v,hv,nH,_⟩,hB⟩ ⟨Bq,hBq,bX,rfl⟩ fP;have hcv:=hv.cell;have Yz:=kK bX;have hby:(pre.length+1)*i0.bytes<=140737488355328:=aP (gU (show pre.length+1<=100002 by omega) Ar) (by omega);have HN1:=ah (show x.aA.toList.length=1*41 by simp[Fw.ak]);have HNC:=ah (fun(W:au) (j:Nat) (u:aC) (hu:x.aA.toList[j]? = some u)=>show(W.alloc (.cells x.aA 86)).cell? ((⟨W.heap.size,0,none⟩:aU).add j)=some u by
   rw[Addr.add_mid,bB,mU,<-dD];exact hu)
  have Gu:=ah (show∀u∈x.aA.toList,u.oneCell'=true from fun u hu=>by have:=Fw.cB x;rw[Array.all_eq_true']at this;exact this u (by simpa using hu));gi_wp2_with (gi_at_builtin;refine wpListIn_append_own _ rfl _ _ 34 rfl w.heap.size 86 i0 (.agg kQ.aA) 41 i0.bytes Tryz.underlying34 hi mZ nu rfl (by simp[cu,Fw.ak]) (by decide) _ _ _ rfl (nH.alloc _) ⟨W.heap.size,0,none⟩ 1 1 x.aA.toList rfl HN1.out (HNC.out W) Gu.out (by unfold maxLen;omega) hby (by have:=hB.size;simp;omega) ?_;intro v' w1 Ip WO _;obtain⟨g',Ls,rfl⟩:=ownsRow_succ Ip;obtain⟨hv1,hv2,Mx,YU,kF⟩:=hv.appended (by decide) nH hB.size (ay _) Ip WO;have Fg:=hv1.cell;have Wt:=hv1.frozen);exact⟨YU.from _,kF,⟨_,hv2,by rw[aS,List.flatMap_append];simpa using Mx,trivial⟩,hB.trans kF⟩
 case done=>
  rintro D ys W hD hS ⟨⟨v,hv,nH,_⟩,hB⟩ hK;have hcv:=hv.cell;gi_wp2;refine⟨by simp,.inl ⟨_,_,rfl,run_takeDeferred hK,?_⟩⟩;obtain⟨A',c',hv',_,_⟩:=jT nH;refine⟨_,results_tmp rfl _ _ _,ys,hS,A',c',by rw[<-hv'];rfl,?_,hB.trans (belowK_b (w:=w) (ay _) W D _ _ (by omega) hK rfl rfl)⟩;rw[<-hv'];exact ownsRow_putObj nH _ hK rfl
 case stop=>
  rintro D c pre W _ _ h _;exact h.elim
theorem Zi(gf:Nat)(lb:Array aC)(eg:∀args w,(callFunc gf args).run aj w=.ok (.enter gf args) w)(S Sp:List Fw->Prop)(N:Nat)(hN:N<=100000)(w:au)(Ev:SeqStopsK Fence.wide 5 aj gf lb (fun x:Fw=>#[bY x.aA]) (aN w.heap.size) S Sp N w):
 aR aj 201 #[.func (.func gf) #[] lb] w fun e W'=>
  ∃ys,S ys/\∃A' c',e=.returned (.slice A' ys.length c')/\W'.ownsRow w.heap.size 86 41 (.slice A' ys.length c') ys.length (ys.flatMap fun x=>x.aA.toList)/\aN w.heap.size w W':=by
 have AP:=ah ((callsIn_wide (n:=6)).1 (XT Fence.wide 6 trivial rfl (by omega) gf lb trivial eg S Sp N hN w Ev));clear Ev;go_enter Tryz.func201,Tryz.ntmps201;go_wp2_with fail;refine AP.out.mono ?_;rintro e w1 ⟨ys,hS,A1,c1,rfl,ho,hb⟩;have HS:=ah hS;have HO:=ah ho;have HB:=ah hb;clear ho hb hS;obtain⟨m,hm⟩:∃m,m=ys.length:=⟨_,rfl⟩
 rw[<-hm]at HO ⊢;go_wp2;go_ret;subst hm;exact⟨ys,HS.out,A1,c1,rfl,HO.out,HB.out⟩
theorem Uw(F:Fence)(n:Nat)(h3:F.fn 300)(Lx:F.round=none)(hn:3<=n)(gf:Nat)(lb:Array aC)(hgf:F.fn gf)(eg:∀args w,(callFunc gf args).run aj w=.ok (.enter gf args) w)(S Sp:List o9->Prop)(N:Nat)(hN:N<=100000)(w:au)
 (Ev:SeqStopsK F (n-1) aj gf lb (fun x:o9=>#[bY x.aA]) (aN w.heap.size) S Sp N w) :
 CallsIn F n aj 300 #[.slice none 0 0,.func (.func gf) #[] lb] w fun e W'=>
  ∃ys,S ys/\∃A' c',e=.returned (.slice A' ys.length c')/\W'.ownsRow w.heap.size 151 2 (.slice A' ys.length c') ys.length (ys.flatMap fun x=>x.aA.toList)/\aN w.heap.size w W':=by
 have h1:1<=n:=by omega
 obtain⟨i0,hi,mZ,nu,Ar⟩:=ab1;refine callsIn_of_wp_marks Tryz.func300 rfl h3 ?_ Lx;simp only[Tryz.ntmps300,List.size_toArray,bC,List.length_nil,Nat.reduceAdd,Nat.reduceSub,Array.replicate_succ,Array.replicate_zero,List.push_toArray,List.append_toArray,dG,List.cons_append];gi_wp2;have bO:=Boxed.new w 75 (.slice none 0 0);have Ur:aN w.heap.size w (w.alloc (.cells #[.slice none 0 0] 75)):=(Below.refl _ w).alloc (ay _) _;have hs0:(w.alloc (.cells #[.slice none 0 0] 75)).heap.size=w.heap.size+1:=by simp
 generalize w.alloc (.cells #[.slice none 0 0] 75)=W0 at bO Ur hs0 ⊢;refine wpIn_rangeFunc_ownH Lx h1 (gf:=gf) (lb:=lb) rfl hgf eg Ev (fun h k=>Below.trans h k) (belowK_b (by omega)) Ur (fun _=>rfl)
  (fun(pre:List o9) W=>(∃v,Boxed W w.heap.size 75 v/\W.ownsRow w.heap.size 151 2 v pre.length (pre.flatMap fun x=>x.aA.toList)/\True)/\aN w.heap.size w W)
  (fun _ _ _=>False)
  (OwnFrom.and (Own.from (holdsRow_own w.heap.size w.heap.size 75 151 2 (fun pre:List o9=>pre.length) (fun pre:List o9=>pre.flatMap fun x=>x.aA.toList) (fun _ _=>True)) _) (ownFrom_below (ay _) (by omega)))
  (fun _ _ _ _ _ hs _ _=>hs)
  ⟨⟨_,bO,World.ownsRow_nil _ _ _ _,trivial⟩,Ur⟩
  (fun x a' W=>∃Bq,w.heap.size<Bq/\dL W Bq x.aA/\a'={tmps:=#[.slice none 0 0,.func (.func gf) #[] lb,.pointer (some ⟨w.heap.size,0,none⟩),undef,.slice none 0 0,.pointer (some ⟨Bq,0,none⟩),.func (.func gf) #[] lb,.agg x.aA,undef,undef,undef,undef,undef],defers:=[]})
  (fun x a' _ X Y row hs hg hr=>by obtain⟨Bq,h1,h2,h3⟩:=hs;exact⟨Bq,h1,zU Bq x.aA () X Y row h2 hg (fun r e=>(hr r e).2),h3⟩)
  ?assign ?body ?done ?stop
 case assign=>
  rintro q pre x W K ⟨⟨v,hv,nH,_⟩,hB⟩ hK;gi_wp2;refine hK _ _ ((KeepsOthers.alloc _ _).from _) ((Below.refl _ W).alloc hB.size _) ⟨⟨v,hv.alloc _,nH.alloc _,trivial⟩,hB.alloc hB.size _⟩ ⟨W.heap.size,hv.lt,dL.new W _ _,rfl⟩
 case body=>
  rintro q pre x a' W hq ⟨r,hr⟩ ⟨⟨v,hv,nH,_⟩,hB⟩ ⟨Bq,hBq,bX,rfl⟩ fP;have hcv:=hv.cell;have Yz:=XQ bX;have hby:(pre.length+1)*i0.bytes<=140737488355328:=aP (gU (show pre.length+1<=100002 by omega) Ar) (by omega);have HN1:=ah (show x.aA.toList.length=1*2 by simp[o9.ak]);have HNC:=ah (fun(W:au) (j:Nat) (u:aC) (hu:x.aA.toList[j]? = some u)=>show(W.alloc (.cells x.aA 151)).cell? ((⟨W.heap.size,0,none⟩:aU).add j)=some u by
   rw[Addr.add_mid,bB,mU,<-dD];exact hu)
  have Gu:=ah (show∀u∈x.aA.toList,u.oneCell'=true from fun u hu=>by have:=o9.cB x;rw[Array.all_eq_true']at this;exact this u (by simpa using hu));gi_wp2_with (gi_at_builtin;refine wpListIn_append_own _ rfl _ _ 75 rfl w.heap.size 151 i0 (.agg #[.string ⟨#[]⟩,.int .i64 0]) 2 i0.bytes Tryz.underlying75 hi mZ nu rfl (by simp[cu]) (by decide) _ _ _ rfl (nH.alloc _) ⟨W.heap.size,0,none⟩ 1 1 x.aA.toList rfl HN1.out (HNC.out W) Gu.out (by unfold maxLen;omega) hby (by have:=hB.size;simp;omega) ?_;intro v' w1 Ip WO _;obtain⟨g',Ls,rfl⟩:=ownsRow_succ Ip;obtain⟨hv1,hv2,Mx,YU,kF⟩:=hv.appended (by decide) nH hB.size (ay _) Ip WO;have Fg:=hv1.cell;have Wt:=hv1.frozen);exact⟨YU.from _,kF,⟨_,hv2,by rw[aS,List.flatMap_append];simpa using Mx,trivial⟩,hB.trans kF⟩
 case done=>
  rintro D ys W hD hS ⟨⟨v,hv,nH,_⟩,hB⟩ hK;have hcv:=hv.cell;gi_wp2;refine⟨by simp,.inl ⟨_,_,rfl,run_takeDeferred hK,?_⟩⟩;obtain⟨A',c',hv',_,_⟩:=jT nH;refine⟨_,results_tmp rfl _ _ _,ys,hS,A',c',by rw[<-hv'];rfl,?_,hB.trans (belowK_b (w:=w) (ay _) W D _ _ (by omega) hK rfl rfl)⟩;rw[<-hv'];exact ownsRow_putObj nH _ hK rfl
 case stop=>
  rintro D c pre W _ _ h _;exact h.elim
theorem XU(gf:Nat)(lb:Array aC)(eg:∀args w,(callFunc gf args).run aj w=.ok (.enter gf args) w)(S Sp:List o9->Prop)(N:Nat)(hN:N<=100000)(w:au)(Ev:SeqStopsK Fence.wide 5 aj gf lb (fun x:o9=>#[bY x.aA]) (aN w.heap.size) S Sp N w):
 aR aj 237 #[.func (.func gf) #[] lb] w fun e W'=>
  ∃ys,S ys/\∃A' c',e=.returned (.slice A' ys.length c')/\W'.ownsRow w.heap.size 151 2 (.slice A' ys.length c') ys.length (ys.flatMap fun x=>x.aA.toList)/\aN w.heap.size w W':=by
 have AP:=ah ((callsIn_wide (n:=6)).1 (Uw Fence.wide 6 trivial rfl (by omega) gf lb trivial eg S Sp N hN w Ev));clear Ev;go_enter Tryz.func237,Tryz.ntmps237;go_wp2_with fail;refine AP.out.mono ?_;rintro e w1 ⟨ys,hS,A1,c1,rfl,ho,hb⟩;have HS:=ah hS;have HO:=ah ho;have HB:=ah hb;clear ho hb hS;obtain⟨m,hm⟩:∃m,m=ys.length:=⟨_,rfl⟩
 rw[<-hm]at HO ⊢;go_wp2;go_ret;subst hm;exact⟨ys,HS.out,A1,c1,rfl,HO.out,HB.out⟩
end
theorem XV:oV 22 16 (iU (bG 16 0)):=⟨⟨_,Tryz.underlying22,rfl⟩,by kernel_rfl,by kernel_rfl,dK _⟩
@[go_sem ↓]theorem aMK(v:aC):bZ 22 v=yt 22 v:=rfl
theorem ahP(key:Vector UInt8 16)(A:Option aU)(n c:Nat)(bs:List UInt8)(w:au)(hr:gy w w.heap.size A n bs)(hn:n<=1000000):aR aj 97 #[.agg (iU key),.slice (some ⟨w.heap.size,0,none⟩) 1 1] (w.alloc (.cells #[.slice A n c] 56)) (gP w (.int .u64 (yF key bs))):=by
 have hl:=hr.len;refine(aaR key [⟨A,n,c⟩] [bs] _ 1 1 _ (RdS.lit w [⟨A,n,c⟩] 56) (.cons ((hr.alloc (ay _) _).lF (by simp)) .nil) (by omega) (by simp[zm];omega) bs (by simp) (by omega)).mono ?_;rintro e w' ⟨rfl,hb⟩;exact⟨rfl,((Below.refl _ w).alloc (ay _) _).trans (hb.mono (by simp))⟩
theorem aaS{W:au}{q:Nat}{k:Vector UInt8 16}(h:dL W q (iU k)):W.rangeAt q 0 (k.toList.map bv):=by
 intro j v hj;rw[h.aI.1,bB];unfold iU;rw[List.getElem?_toArray];exact hj
theorem ahQ(key:Vector UInt8 16)(A:Option aU)(n c:Nat)(bs:List UInt8)(w:au)(hr:gy w w.heap.size A n bs)(hn:n<=1000000):aR aj 97 #[.agg (key.toList.map bv).toArray,.slice (some ⟨w.heap.size,0,none⟩) 1 1] (w.alloc (.cells #[.slice A n c] 56)) (gP w (.int .u64 (yF key bs))):=ahP key A n c bs w hr hn
theorem J4(t:Tu)(ht:xJ t)(w:au):aR aj 98 #[.agg t.aA] w fun e w'=>∃A c,e=.returned (.slice A 38 c)/\gy w' w'.heap.size A 38 (NA t)/\aN w.heap.size w w':=by
 refine(aci t ht w).mono ?_;rintro e w' ⟨A,n,c,rfl,hn,ho,hb⟩;rw[asb]at hn;subst hn;exact⟨A,c,rfl,gy.iX ho,hb⟩
theorem TM(key:Vector UInt8 16)(t:Tu)(ht:xJ t)(w:au):aR aj 36 #[.agg (iU key),.agg t.aA] w (gP w (.int .u64 (yF key (NA t)))):=by
 have Z0:=ah (((Bx.start w).new (iU key) 22).new t.aA 81);have e1:(w.alloc (.cells (iU key) 22)).heap.size=w.heap.size+1:=by simp
 rw[e1]at Z0;have CB:=ah (fun W=>J4 t ht W);clear e1;go_enter Tryz.func36,Tryz.ntmps36;go_upto_region 1 with fail
 generalize(w.alloc (.cells (iU key) 22)).alloc (.cells t.aA 81)=w1 at Z0 ⊢;have KS:=ah (fun(w':au) (h:Bx [(w.heap.size+1,t.aA),(w.heap.size,iU key)] w w')=>show w'.rangeAt w.heap.size 0 (key.toList.map bv)/\(xI (.pointer (some ⟨w.heap.size+1,0,none⟩))).run aj w'=.ok (.agg t.aA) w' from⟨aaS h.b1,pO h.b0⟩);obtain⟨l1,l2⟩:=KS.out _ Z0.out;obtain⟨bs,Em⟩:∃bs,bs=NA t:=⟨_,rfl⟩
 have HBS:=ah Em;rw[<-Em]at CB;clear Em;have hU:=Tryz.underlying22;have hI:(aj.info? 22).map (·.size)=some (key.toList.map bv).length:=by rw[bR,Vector.length_toList];kernel_rfl
 go_region_held_law (fun w'=>w'.rangeAt w.heap.size 0 (key.toList.map bv)/\(xI (.pointer (some ⟨w.heap.size+1,0,none⟩))).run aj w'=.ok (.agg t.aA) w')
  (first|exact KS.out _ Z0.out.drew|exact KS.out _ Z6.out|exact KS.out _ (Z5.out.alloc _)|exact KS.out _ Z5.out|go_keep)
  (first
  | (go_at_call 98;(with_reducible refine(CB.out _).mono ?_);rintro e w5 ⟨A5,c5,rfl,Vh,yX⟩;have C6:=ah (ahQ key A5 38 c5 bs w5 Vh (by decide));have Z5:=ah (Z0.out.drew.go yX);clear Vh yX)
  | (go_at_call 97;(with_reducible refine C6.out.mono ?_);rintro e w6 ⟨rfl,NH⟩;have Z6:=ah (Z5.out.go NH);clear NH))
 go_wp2;go_ret;refine⟨?_,Z6.out.dF⟩;rw[HBS.out];rfl
def afj:Go.Shelf.Ren:=⟨fun|6=>238|15=>219|14=>301|28=>283|29=>284|20=>339|21=>340|22=>341|23=>342|24=>343|25=>344|26=>345|27=>346|46=>363|47=>329|48=>330|49=>364|50=>365|57=>372|n=>n,fun|22=>75|24=>151|25=>257|3=>3|39=>259|0=>0|53=>323|55=>92|4=>4|46=>352|45=>351|50=>158|5=>5|9=>9|66=>388|70=>392|76=>410|77=>152|n=>n,fun|n=>n⟩
theorem as8:Go.Proofs.SlLaysF0.n6 aj afj:={
 mixed:=by kernel_rfl,
 f6:=⟨Tryz.f238.name,by decide,Tryz.func238.trans (congrArg some (by kernel_rfl))⟩,
 f14:=⟨Tryz.f301.name,by decide,Tryz.func301.trans (congrArg some (by kernel_rfl))⟩,
 f15:=Tryz.func219.trans (congrArg some (by kernel_rfl)),
 f20:=⟨Tryz.f339.name,by decide,Tryz.func339.trans (congrArg some (by kernel_rfl))⟩,
 f21:=⟨Tryz.f340.name,by decide,Tryz.func340.trans (congrArg some (by kernel_rfl))⟩,
 f22:=⟨Tryz.f341.name,by decide,Tryz.func341.trans (congrArg some (by kernel_rfl))⟩,
 f23:=⟨Tryz.f342.name,by decide,Tryz.func342.trans (congrArg some (by kernel_rfl))⟩,
 f24:=⟨Tryz.f343.name,by decide,Tryz.func343.trans (congrArg some (by kernel_rfl))⟩,
 f25:=⟨Tryz.f344.name,by decide,Tryz.func344.trans (congrArg some (by kernel_rfl))⟩,
 f26:=⟨Tryz.f345.name,by decide,Tryz.func345.trans (congrArg some (by kernel_rfl))⟩,
 f27:=⟨Tryz.f346.name,by decide,Tryz.func346.trans (congrArg some (by kernel_rfl))⟩,
 f28:=Tryz.func283.trans (congrArg some (by kernel_rfl)),
 f29:=Tryz.func284.trans (congrArg some (by kernel_rfl)),
 f46:=⟨Tryz.f363.name,by decide,Tryz.func363.trans (congrArg some (by kernel_rfl))⟩,
 f47:=Tryz.func329.trans (congrArg some (by kernel_rfl)),
 f48:=Tryz.func330.trans (congrArg some (by kernel_rfl)),
 f49:=⟨Tryz.f364.name,by decide,Tryz.func364.trans (congrArg some (by kernel_rfl))⟩,
 f50:=⟨Tryz.f365.name,by decide,Tryz.func365.trans (congrArg some (by kernel_rfl))⟩,
 f57:=⟨Tryz.f372.name,by decide,Tryz.func372.trans (congrArg some (by kernel_rfl))⟩,
 t0:=IE,
 a0:=Tryz.isAgg0,
 z0:=Tryz.sizeOf0,
 v0:=Km,
 t3:=gQ,
 a3:=Tryz.isAgg3,
 z3:=Tryz.sizeOf3,
 v3:=Kn,
 t4:=nO,
 a4:=Tryz.isAgg4,
 z4:=Tryz.sizeOf4,
 v4:=Ko,
 t5:=lD,
 a5:=Tryz.isAgg5,
 z5:=Tryz.sizeOf5,
 v5:=Tryz.zeroValue5,
 t9:=iL,
 a9:=Mt,
 z9:=I6,
 v9:=Ca,
 t22:=Tryz.underlying75,
 a22:=Tryz.isAgg75,
 z22:=Tryz.sizeOf75,
 v22:=Tryz.zeroValue75,
 t25:=Tryz.underlying257,
 a25:=Tryz.isAgg257,
 z25:=Tryz.sizeOf257,
 v25:=Tryz.zeroValue257,
 t39:=Tryz.underlying259,
 a39:=Tryz.isAgg259,
 z39:=Tryz.sizeOf259,
 v39:=Tryz.zeroValue259,
 t45:=Tryz.underlying351,
 a45:=Tryz.isAgg351,
 z45:=Tryz.sizeOf351,
 v45:=Tryz.zeroValue351,
 t46:=Tryz.underlying352,
 a46:=Tryz.isAgg352,
 z46:=Tryz.sizeOf352,
 v46:=Tryz.zeroValue352,
 t50:=Tryz.underlying158,
 a50:=Tryz.isAgg158,
 z50:=Tryz.sizeOf158,
 v50:=Tryz.zeroValue158,
 t53:=Tryz.underlying323,
 a53:=Tryz.isAgg323,
 z53:=Tryz.sizeOf323,
 v53:=Tryz.zeroValue323,
 t55:=Tryz.underlying92,
 a55:=Tryz.isAgg92,
 z55:=Tryz.sizeOf92,
 v55:=Tryz.zeroValue92,
 t66:=Tryz.underlying388,
 a66:=Tryz.isAgg388,
 z66:=Tryz.sizeOf388,
 v66:=Tryz.zeroValue388,
 t70:=Tryz.underlying392,
 a70:=Tryz.isAgg392,
 z70:=Tryz.sizeOf392,
 v70:=Tryz.zeroValue392,
 t76:=Tryz.underlying410,
 a76:=Tryz.isAgg410,
 z76:=Tryz.sizeOf410,
 v76:=Tryz.zeroValue410,
 t77:=Tryz.underlying152,
 a77:=Tryz.isAgg152,
 z77:=Tryz.sizeOf152,
 v77:=Tryz.zeroValue152}
def ahR:Go.Shelf.Ren:=⟨fun|6=>151|15=>219|14=>218|28=>283|29=>284|20=>275|21=>276|22=>277|23=>278|24=>279|25=>280|26=>281|27=>282|46=>328|47=>329|48=>330|49=>331|50=>332|57=>359|n=>n,fun|22=>34|24=>86|25=>201|3=>3|39=>259|0=>0|53=>323|55=>92|4=>4|46=>352|45=>351|50=>158|5=>5|9=>9|66=>388|70=>392|76=>410|77=>152|n=>n,fun|n=>n⟩
theorem ax5:Go.Proofs.SlLaysF0.n6 aj ahR:={
 mixed:=by kernel_rfl,
 f6:=⟨Tryz.f151.name,by decide,Tryz.func151.trans (congrArg some (by kernel_rfl))⟩,
 f14:=⟨Tryz.f218.name,by decide,Tryz.func218.trans (congrArg some (by kernel_rfl))⟩,
 f15:=Tryz.func219.trans (congrArg some (by kernel_rfl)),
 f20:=⟨Tryz.f275.name,by decide,Tryz.func275.trans (congrArg some (by kernel_rfl))⟩,
 f21:=⟨Tryz.f276.name,by decide,Tryz.func276.trans (congrArg some (by kernel_rfl))⟩,
 f22:=⟨Tryz.f277.name,by decide,Tryz.func277.trans (congrArg some (by kernel_rfl))⟩,
 f23:=⟨Tryz.f278.name,by decide,Tryz.func278.trans (congrArg some (by kernel_rfl))⟩,
 f24:=⟨Tryz.f279.name,by decide,Tryz.func279.trans (congrArg some (by kernel_rfl))⟩,
 f25:=⟨Tryz.f280.name,by decide,Tryz.func280.trans (congrArg some (by kernel_rfl))⟩,
 f26:=⟨Tryz.f281.name,by decide,Tryz.func281.trans (congrArg some (by kernel_rfl))⟩,
 f27:=⟨Tryz.f282.name,by decide,Tryz.func282.trans (congrArg some (by kernel_rfl))⟩,
 f28:=Tryz.func283.trans (congrArg some (by kernel_rfl)),
 f29:=Tryz.func284.trans (congrArg some (by kernel_rfl)),
 f46:=⟨Tryz.f328.name,by decide,Tryz.func328.trans (congrArg some (by kernel_rfl))⟩,
 f47:=Tryz.func329.trans (congrArg some (by kernel_rfl)),
 f48:=Tryz.func330.trans (congrArg some (by kernel_rfl)),
 f49:=⟨Tryz.f331.name,by decide,Tryz.func331.trans (congrArg some (by kernel_rfl))⟩,
 f50:=⟨Tryz.f332.name,by decide,Tryz.func332.trans (congrArg some (by kernel_rfl))⟩,
 f57:=⟨Tryz.f359.name,by decide,Tryz.func359.trans (congrArg some (by kernel_rfl))⟩,
 t0:=IE,
 a0:=Tryz.isAgg0,
 z0:=Tryz.sizeOf0,
 v0:=Km,
 t3:=gQ,
 a3:=Tryz.isAgg3,
 z3:=Tryz.sizeOf3,
 v3:=Kn,
 t4:=nO,
 a4:=Tryz.isAgg4,
 z4:=Tryz.sizeOf4,
 v4:=Ko,
 t5:=lD,
 a5:=Tryz.isAgg5,
 z5:=Tryz.sizeOf5,
 v5:=Tryz.zeroValue5,
 t9:=iL,
 a9:=Mt,
 z9:=I6,
 v9:=Ca,
 t22:=Tryz.underlying34,
 a22:=Tryz.isAgg34,
 z22:=Tryz.sizeOf34,
 v22:=Tryz.zeroValue34,
 t25:=Tryz.underlying201,
 a25:=Tryz.isAgg201,
 z25:=Tryz.sizeOf201,
 v25:=Tryz.zeroValue201,
 t39:=Tryz.underlying259,
 a39:=Tryz.isAgg259,
 z39:=Tryz.sizeOf259,
 v39:=Tryz.zeroValue259,
 t45:=Tryz.underlying351,
 a45:=Tryz.isAgg351,
 z45:=Tryz.sizeOf351,
 v45:=Tryz.zeroValue351,
 t46:=Tryz.underlying352,
 a46:=Tryz.isAgg352,
 z46:=Tryz.sizeOf352,
 v46:=Tryz.zeroValue352,
 t50:=Tryz.underlying158,
 a50:=Tryz.isAgg158,
 z50:=Tryz.sizeOf158,
 v50:=Tryz.zeroValue158,
 t53:=Tryz.underlying323,
 a53:=Tryz.isAgg323,
 z53:=Tryz.sizeOf323,
 v53:=Tryz.zeroValue323,
 t55:=Tryz.underlying92,
 a55:=Tryz.isAgg92,
 z55:=Tryz.sizeOf92,
 v55:=Tryz.zeroValue92,
 t66:=Tryz.underlying388,
 a66:=Tryz.isAgg388,
 z66:=Tryz.sizeOf388,
 v66:=Tryz.zeroValue388,
 t70:=Tryz.underlying392,
 a70:=Tryz.isAgg392,
 z70:=Tryz.sizeOf392,
 v70:=Tryz.zeroValue392,
 t76:=Tryz.underlying410,
 a76:=Tryz.isAgg410,
 z76:=Tryz.sizeOf410,
 v76:=Tryz.zeroValue410,
 t77:=Tryz.underlying152,
 a77:=Tryz.isAgg152,
 z77:=Tryz.sizeOf152,
 v77:=Tryz.zeroValue152}
section
variable {α:Type} [Inhabited α]
theorem XW(f:α->Array aC)(k:Nat)(hk:∀x,(f x).size=k)(l:List α):(Sort.flatK (fun x=>(f x).toList) k l.toArray).toList=l.flatMap fun x=>(f x).toList:=by
 apply iI;intro t;have hl:=tL f k hk l;by_cases ht:t<l.length*k
 ·have Ny:0<k:=by
   rcases dX k with h|h
   ·subst h;simp at ht
   ·exact h
  have hq:t/k<l.length:=(Nat.div_lt_iff_lt_mul Ny).2 ht;have hm:=fD t Ny;have e:=Nat.div_add_mod t k;have h1:=Sort.get_flatK (fun x=>(f x).toList) k l.toArray t (by simpa using ht);have h2:=uY f k hk l (t/k) (t%k) hq hm;rw[show t/k*k+t%k=t by rw[DC];exact e]at h2;rw[h2,dD];have hs:t<(Sort.flatK (fun x=>(f x).toList) k l.toArray).size:=by rw[yw];simpa using ht
  rw[getElem!_pos _ t hs]at h1;rw[fq hs,h1];have UR:t%k<(f l[t/k]).size:=by rw[hk];exact hm
  rw[fq UR,getElem!_pos l.toArray (t/k) (by simpa using hq)];simp only[List.getElem_toArray];rw[getElem!_pos _ (t%k) (by simpa using UR)];simp
 ·rw[aT (by simp[yw];omega),aT (by omega)]
theorem Ux(f:α->Array aC)(k:Nat)(hk:∀x,(f x).size=k){w:au}{g:Nat}{cur:Array aC}{e:bM}{l:List α}(hb:w.heap[g]? = some (.cells cur e (0,0)))(ht:cur.toList.take (l.length*k)=l.flatMap fun x=>(f x).toList):Sort.HoldsK (fun x=>(f x).toList) k w g 0 l.toArray:=by
 intro j hj;rw[yw]at hj;have hj':j<l.length*k:=by simpa using hj
 refine⟨?_,by simp[sF,hb]⟩;have h1:(cur.toList.take (l.length*k))[j]? = (l.flatMap fun x=>(f x).toList)[j]?:=by rw[ht]
 rw[ig hj',<-XW f k hk l,dD,dD]at h1;have hs:j<(Sort.flatK (fun x=>(f x).toList) k l.toArray).size:=by rw[yw];exact hj
 simp only[World.cell?,hb,bB,Option.isSome_none,jH,if_false,id];rw[h1,fq hs,getElem!_pos _ j hs]
theorem acY(f:α->Array aC)(k:Nat){w:au}{g n:Nat}{os:Array Obj}{cur:Array aC}{e:bM}{fr:Nat×Nat}(d:Array α)(hb:w.heap[g]? = some (.cells cur e fr)):
 (sortWorldK (fun x=>(f x).toList) k w g 0 n d os).heap[g]? = some (.cells (Sort.putCells id 0 (Sort.flatK (fun x=>(f x).toList) k d) cur) e fr):=by
 have hg:g<w.heap.size:=(bW.1 hb).1;unfold sortWorldK Sort.putRowK;rw[Sort.heap_grow_old _ _ (by simpa using hg)];simp[Sort.putRow,Sort.mapBlock,Sort.ahead,zZ,hb,Sort.onCells]
theorem Uy(f:α->Array aC)(k:Nat){w:au}{g n:Nat}{os:Array Obj}(d:Array α):w.grownBy (sortWorldK (fun x=>(f x).toList) k w g 0 n d os) (some g):=by
 unfold sortWorldK Sort.putRowK;refine⟨rfl,rfl,rfl,by simp,fun j hj pY=>?_⟩;rw[Sort.heap_grow_old _ _ (by simpa using hj)];have:g≠j:=fun e=>pY (by rw[e])
 simp[Sort.putRow,Sort.mapBlock,Sort.ahead,zZ,this]
theorem Uz(f:α->Array aC)(k:Nat)(hk:∀x,(f x).size=k){w:au}{base g cap n:Nat}{e:bM}{os:Array Obj}{cur:Array aC}{l l':List α}(hl:l'.length=l.length)(Jd:base<=g)(hb:w.heap[g]? = some (.cells cur e (0,0)))
 (h1:l.length<=cap) (h2:cap<=maxLen) (h3:cur.size=cap*k):(sortWorldK (fun x=>(f x).toList) k w g 0 n l'.toArray os).ownsRow base e k (.slice (some ⟨g,0,none⟩) l.length cap) l.length (l'.flatMap fun x=>(f x).toList):=by
 have hle:l.length*k<=cap*k:=cZ k h1;refine⟨by rw[tL f k hk,hl],.inr ⟨g,cap,_,rfl,Jd,acY f k _ hb,h1,h2,by simp[Sort.putCells,h3],?_⟩⟩;rw[<-XW f k hk l'];apply iI;intro j;by_cases hj:j<l.length*k
 ·have hs:j<(Sort.flatK (fun x=>(f x).toList) k l'.toArray).size:=by rw[yw];simp[hl];exact hj
  rw[ig hj,dD,dD,fq hs];simp only[Sort.putCells,Array.getElem?_mapIdx];rw[fq (by omega)];simp only[ni,Nat.zero_le,true_and,bB,hs,if_true,Nat.sub_zero,id];rw[getElem!_pos _ j hs]
 ·rw[List.getElem?_take_eq_none (by omega),aT (by simp[yw,hl];omega)]
open Go.Shelf in
theorem aaT {P:Program} {ρ:Ren} (L:SlLaysF0.n6 P ρ) (k:Nat) (aE:∀w,(isAgg (ρ.t 24)).run P w=.ok true w) (zE:∀w,(Go.sizeOf (ρ.t 24)).run P w=.ok k w) (f:α->Array aC) (hk:∀x,(f x).size=k) (h1:∀x,(f x).all (·.oneCell')=true) (cf:α->α->Int) (hO:Sort.SWO (ltOf cf)) (g:Nat)
 (eg:∀args w,(callFunc g args).run P w=.ok (.enter g args) w) (base:Nat) (T:bM) (A:Option aU) (n c:Nat) (l:List α) (w:au) (hn:l.length=n) (LA:n<=1000000) (ho:w.ownsRow base T k (.slice A n c) n (l.flatMap fun x=>(f x).toList))
 (aIM:∀x y W,aR P g #[.agg (f x),.agg (f y)] W (gP W (.int .i64 (cf x y)))) :
 aR P (ρ.f 6) #[.slice A n c,.func (.func g) #[] #[]] w fun e w'=>e=.returned (.tuple #[])/\∃l':List α,l'.Perm l/\l'.Pairwise (fun x y=>ltOf cf y x=false)/\w'.ownsRow base T k (.slice A n c) n (l'.flatMap fun x=>(f x).toList)/\w.grownBy w' (bE A n c).ownBlock:=by
 subst hn;rcases ho.2 with⟨hv,h0⟩|⟨b,cap,cur,hv,h2,h3,h4,h5,h6,h7⟩
 ·injection hv with e1 e2 e3
  subst e1 e3;have GH:l=[]:=List.eq_nil_of_length_eq_zero h0;subst GH;refine(AnyF.slices_SortFunc_none L none 0 _ w).mono ?_;rintro e w' ⟨rfl,rfl⟩;exact⟨rfl,[],.refl _,.nil,ho,World.grownBy.refl _ _⟩
 ·injection hv with e1 e2 e3
  subst e1 e3;have hg:b<w.heap.size:=(bW.1 h3).1;have hH:=Ux f k hk (l:=l) h3 h7;have hc:CmpLays P g #[] (fun x=>(f x).toList) k cf b 0 l.toArray.size w:=by
   intro m os dk _ x y;refine(Calls.aAQ (aIM x y _)).mono ?_;rintro e w' ⟨rfl,q,os',hw⟩;exact⟨rfl,q,os',hw⟩
  have:=AnyQ.slices_SortFunc L k aE zE (fun x=>(f x).toList) (fun x=>by simp[hk]) (fun x v hv=>by
   have:=h1 x;rw[Array.all_eq_true']at this;exact this v (by simpa using hv)) cf hO g #[] b 0 c l.toArray w eg hc hH hg (by simp;omega)
  rw[show l.toArray.size=l.length by simp]at this;refine this.mono ?_;rintro e w' ⟨rfl,d',nn,os,hp,hs,rfl⟩;obtain⟨p1,p2,p3⟩:=hp;have jB:d'.size=l.length:=by simpa using p1
  refine⟨rfl,d'.toList,?_,?_,?_,Uy f k d'⟩
  ·have e1:d'.extract 0 l.length=d':=by rw[<-jB];simp
   have e2:l.toArray.extract 0 l.length=l.toArray:=by simp
   rw[e1,e2]at p3;simpa using p3
  ·rw[fQ]
   intro i j hi hj SE;have:=hs i j (Nat.zero_le _) SE (by simpa[jB]using hj);rw[getElem!_pos _ j (by simpa using hj),getElem!_pos _ i (by simpa using hi)]at this;simpa using this
  ·have:=Uz f k hk (l:=l) (l':=d'.toList) (n:=nn) (os:=os) (e:=T) (by simp[jB]) h2 h3 h4 h5 h6
   simpa using this
end
theorem ahS(l:List UInt8):Lib.bytesOf (l.map fun b=>((b.toNat:Nat):Int))=l:=by
 unfold Lib.bytesOf;rw[I4]
 conv=>rhs;rw[<-List.map_id l]
 apply Db;intro b _;simp
theorem J5{P:Program}{w:au}{B n:Nat}{A:Option aU}{l:List UInt8}(h:gy w B A n l)(c:Nat):(uG (.slice A n c)).run P w=.ok (bV l) w:=by
 have hl:=h.len;rcases dX n with h0|h0
 ·subst h0
  obtain rfl:l=[]:=List.eq_nil_of_length_eq_zero hl;cases A with
  | none=>simp[uG,bV];rfl
  | some a=>simp[uG,Extern.Bytes.loadBytes,bV];rfl
 ·obtain⟨a,rfl,_,hc⟩:=h.2 h0
  have:=Lib.run_loadBytesX (P:=P) w (l.map fun b=>((b.toNat:Nat):Int)) a .empty (fun j x hj=>by
   rw[jD]at hj;refine hc j _ ?_;rw[jD];cases hj2:l[j]? with
   | none=>rw[hj2]at hj;cases hj
   | some b=>rw[hj2]at hj;simp at hj;subst hj;rfl)
  rw[bR,hl,ahS]at this;show Kk P (Extern.Bytes.loadBytes a n .empty) w=_;rw[this];congr 1;exact congrArg ByteArray.mk (by show #[]++l.toArray=l.toArray;simp)
theorem Zj{w:au}{B C n m:Nat}{A A':Option aU}{l k:List UInt8}(h:gy w B A n l)(h':gy w C A' m k)(c c':Nat):(callFunc 263 #[.slice A n c,.slice A' m c']).run aj w=.ok (.value (.int .i64 (mE l k))) w:=by
 rw[run_callFunc_extern Tryz.func263 (by kernel_rfl) (by kernel_rfl) (by kernel_rfl) (e:=Extern.BytealgCompare.compare) (by kernel_rfl)];have:(Extern.BytealgCompare.compare #[.slice A n c,.slice A' m c']).run aj w=.ok (.int .i64 (mE l k)) w:=by
  change Kk aj (do pure (goInt (Extern.BytealgCompare.cmp (<-uG (.slice A n c)) (<-uG (.slice A' m c'))))) w=_;simp only[jK,J5 h,J5 h',ou,iD];rw[Lib.cmp_eq];rfl
 rw[this];rfl
theorem Sg{w:au}{n m:Nat}{A A':Option aU}{l k:List UInt8}(h:gy w w.heap.size A n l)(h':gy w w.heap.size A' m k)(c c':Nat):aR aj 194 #[.slice A n c,.slice A' m c'] w fun e w'=>e=.returned (.int .i64 (mE l k))/\w=w':=by
 have hc:=Zj h h' c c';go_enter Tryz.func194,Tryz.ntmps194;go_wp2;go_ret;exact⟨rfl,rfl⟩
def acZ(a b:Fw):Int:=if a.no=b.no then mE (NA a.key) (NA b.key)else a.no-b.no
theorem ac0(a b:Fw):ltOf acZ a b=lJ a b:=by
 unfold ltOf acZ lJ;by_cases h:a.no=b.no
 ·rw[if_pos h,if_pos h,yC]
 ·rw[if_neg h,if_neg h]
  exact decide_eq_decide.2 (by omega)
theorem oW{W:au}{b:Nat}{x:Fw}(h:dL W b x.aA):(xI (.pointer (some ⟨b,0,none⟩))).run aj W=.ok (.agg x.key.aA) W:=by
 have hs:eu x.aA=41:=Fw.ak x;have e:x.aA.extract 0 37=x.key.aA:=by
  unfold Fw.aA;simp[dA,Tu.ak,qj (Tu.ak _)]
 rw[UW W b 0 (of_eq_true (h.aI.2.2.1 0 37 (by omega))),h.aI.2.2.2 0 37 (by omega),bB,e]
theorem TN(a b:Fw)(ha:xJ a.key)(hb:xJ b.key)(na:0<=a.no/\a.no<=1152921504606846976)(nb:0<=b.no/\b.no<=1152921504606846976)(w:au):
 aR aj 117 #[.agg a.aA,.agg b.aA] w (gP w (.int .i64 (acZ a b))):=by
 have Z0:=ah (((Bx.start w).new a.aA 86).new b.aA 86);rw[show(w.alloc (.cells a.aA 86)).heap.size=w.heap.size+1 by simp]at Z0;have C1:=ah (fun W=>J4 a.key ha W);have C2:=ah (fun W=>J4 b.key hb W);obtain⟨l,hl⟩:∃l,l=NA a.key:=⟨_,rfl⟩
 obtain⟨k,hk⟩:∃k,k=NA b.key:=⟨_,rfl⟩
 rw[<-hl]at C1;rw[<-hk]at C2;have HL:=ah hl;have HK:=ah hk;clear hl hk;go_enter Tryz.func117,Tryz.ntmps117;go_upto_region 1 with fail
 generalize(w.alloc (.cells a.aA 86)).alloc (.cells b.aA 86)=w1 at Z0 ⊢;have s1:=(Z0.out.b1.aI.1 40).trans (Fw.aca a);have s2:=(Z0.out.b0.aI.1 40).trans (Fw.aca b);have l1:=oW Z0.out.b1;have l2:=oW Z0.out.b0;by_cases h:a.no=b.no
 ·have t1:decide (a.no=b.no)=true:=by simp[h]
  have t2:(a.no==b.no)=true:=by simp[h]
  have t3:decide (a.no≠b.no)=false:=by simp[h]
  have t4:(a.no != b.no)=false:=by simp[h]
  have HC:=ah (show acZ a b=mE l k by unfold acZ;rw[if_pos h,<-HL.out,<-HK.out]);clear h;have KS:=ah (fun(w':au) (h:Bx [(w.heap.size+1,b.aA),(w.heap.size,a.aA)] w w')=>show(xI (.pointer (some ⟨w.heap.size,0,none⟩))).run aj w'=.ok (.agg a.key.aA) w'/\(xI (.pointer (some ⟨w.heap.size+1,0,none⟩))).run aj w'=.ok (.agg b.key.aA) w' from⟨oW h.b1,oW h.b0⟩);go_wp2_with fail;go_region_held_law (fun w'=>(xI (.pointer (some ⟨w.heap.size,0,none⟩))).run aj w'=.ok (.agg a.key.aA) w'/\(xI (.pointer (some ⟨w.heap.size+1,0,none⟩))).run aj w'=.ok (.agg b.key.aA) w')
   (first|exact KS.out _ Z0.out.drew|exact KS.out _ Z7.out|exact KS.out _ Z6.out|exact KS.out _ Z5.out|go_keep)
   (first
   | (go_at_call 98;(with_reducible refine(C1.out _).mono ?_);rintro e w5 ⟨A5,c5,rfl,Vh,yX⟩;first|(have R5:=ah Vh;have Z5:=ah (Z6.out.go yX);have R6:=ah (R6.out.go yX))|(have R5:=ah Vh;have Z5:=ah (Z0.out.drew.go yX));clear Vh yX)
   | (go_at_call 98;(with_reducible refine(C2.out _).mono ?_);rintro e w6 ⟨A6,c6,rfl,ho6,NH⟩;first|(have R6:=ah ho6;have Z6:=ah (Z5.out.go NH);have R5:=ah (R5.out.go NH))|(have R6:=ah ho6;have Z6:=ah (Z0.out.drew.go NH));clear ho6 NH)
   | (go_at_call 194;(with_reducible refine(Sg R5.out R6.out _ _).mono ?_);rintro e w7 ⟨rfl,rfl⟩))
  all_goals go_wp2
  all_goals go_ret
  all_goals(refine⟨by rw[HC.out];rfl,?_⟩;first|exact Z6.out.dF|exact Z5.out.dF)
 ·have t1:decide (a.no=b.no)=false:=by simp[h]
  have t2:(a.no==b.no)=false:=by simp[h]
  have t3:decide (a.no≠b.no)=true:=by simp[h]
  have t4:(a.no != b.no)=true:=by simp[h]
  have HC:=ah (show acZ a b=a.no-b.no by unfold acZ;rw[if_neg h]);have i1:=jU (a.no-b.no) (by omega);clear h;go_wp2;go_ret;exact⟨by rw[HC.out];rfl,Z0.out.dF⟩
theorem TP(a b:Fw)(ha:xJ a.key)(hb:xJ b.key)(na:0<=a.no/\a.no<=1152921504606846976)(nb:0<=b.no/\b.no<=1152921504606846976)(w:au):
 aR aj 49 #[.agg a.aA,.agg b.aA] w (gP w (.bool (lJ a b))):=by
 have Z0:=ah (((Bx.start w).new a.aA 86).new b.aA 86);rw[show(w.alloc (.cells a.aA 86)).heap.size=w.heap.size+1 by simp]at Z0;have C1:=ah (fun W=>TN a b ha hb na nb W);obtain⟨r,hr⟩:∃r,r=acZ a b:=⟨_,rfl⟩
 obtain⟨o,ho⟩:∃o,o=lJ a b:=⟨_,rfl⟩
 rw[<-hr]at C1;have t1:decide (r<0)=o:=by rw[ho,<-ac0,hr];rfl
 have HO:=ah ho;clear hr ho;go_enter Tryz.func49,Tryz.ntmps49;go_upto_region 1 with fail
 generalize(w.alloc (.cells a.aA 86)).alloc (.cells b.aA 86)=w1 at Z0 ⊢;have l1:=kK Z0.out.b1;have l2:=kK Z0.out.b0;go_wp2_with (go_at_call 117;(with_reducible refine(C1.out _).mono ?_);rintro e w5 ⟨rfl,yX⟩;have Z5:=ah (Z0.out.go yX);clear yX);go_ret;exact⟨by rw[HO.out];rfl,Z5.out.dF⟩
section
open Go.RowKit Go.Shelf
attribute [local go_sem] qC
theorem Hz{β:Type}{B:Nat}{J:β->au->Prop}(h:AbidesFrom B J){s:β}{W:au}(hs:J s W)(o:Obj):J s (W.alloc o):=h s W _ none hs (World.grownBy_alloc W o none) (fun r e=>by cases e)
theorem ac1(F:Fence)(n:Nat)(hf:F.fn 239)(Lx:F.round=none)(hn:1<=n)(l Bs n₀ B0:Nat)(A:Option aU)(len cap:Nat)(zs:List o9)(hlen:len<=100000)(J Jx:List o9->au->Prop)(hJ:AbidesFrom B0 J)
 (hY:∀pre x W,J pre W->pre.length<len->YieldAt F (n-1) aj l #[.agg x.aA] W fun e W'=>
  (e=.returned (.bool true)/\J (pre++[x]) W'/\aN n₀ W W')\/(e=.returned (.bool false)/\Jx (pre++[x]) W'))
 (W:au) (Cq:n₀<=W.heap.size) (Ro:W.cell? ⟨Bs,0,none⟩=some (.slice A len cap)) (hR:iO o9.aA 2 W n₀ A len zs) (h0:J [] W) :
 CallsIn F n aj 239 #[.func (.yield l) #[] #[],.pointer (some ⟨Bs,0,none⟩)] W fun e W'=>(∃v,e=.returned v) /\
  ((∃ys,ys=zs/\J ys W')\/(∃pre,pre <+: zs/\Jx pre W')):=by
 have hzl:=hR.1;refine callsIn_of_wp Tryz.func239 rfl hf ?_ Lx;simp only[Tryz.ntmps239,List.size_toArray,bC,List.length_nil,Nat.reduceAdd,Nat.reduceSub,Array.replicate_succ,Array.replicate_zero,List.push_toArray,List.append_toArray,dG,List.cons_append];gi_wp2;gi_loopw [7] (fun i wr=>∃k:Nat,k<=len/\i=.int .i64 k/\J (zs.take k) wr/\aN n₀ W wr)
  (fun i _=>len-(intOf i).toNat)
 case atStart=>exact⟨0,Nat.zero_le _,rfl,h0,Below.refl _ _⟩
 case round=>
  obtain⟨k,hk,rfl,hJs,MP⟩:=hrel;by_cases fP:k<len
  ·have KO:(k:Int)<len:=by omega
   obtain⟨b,o,rfl,Cb,hh,hc⟩:=iO.fE o9.BU lu (hR.below MP) fP;obtain⟨x,hx⟩:∃x,x=zs.getD k lu:=⟨_,rfl⟩
   rw[<-hx]at hc;have Ej:=ah (show zs.take k++[x]=zs.take (k+1)by rw[hx];exact oK lu zs k (by omega));clear hx Cb;have bx:=dL.new wr x.aA 151;have Yz:=XQ bx;have jB:=MP.size;obtain⟨fn,tmps,assign,body,hy,hRd⟩:=hY _ x (wr.alloc (.cells x.aA 151)) (Hz hJ hJs _) (by rw[bK];omega);have Si:=ah (MP.alloc (by omega) (.cells x.aA 151));clear bx;gi_wp2;refine hRd.mono ?_;rintro e W3 (⟨rfl,hJ3,hk3⟩|⟨rfl,WM⟩)
   ·gi_wp2
    go_roundw
    case rel=>exact⟨k+1,by omega,by simp,by rw[<-Ej.out];exact hJ3,Si.out.trans hk3⟩
    case measure=>simp[intOf];omega
   ·gi_wp2
    refine bodyPost_ret (results_none rfl _ _ _) rfl ?_;exact⟨⟨_,rfl⟩,.inr ⟨_,by rw[Ej.out];exact List.take_prefix _ _,WM⟩⟩
  ·obtain rfl:k=len:=by omega
   have hd:decide ((k:Int)<k)=false:=by simp
   gi_wp2;go_end0;exact⟨⟨_,rfl⟩,.inl ⟨_,aL (by omega),hJs⟩⟩
theorem ac2(A:Option aU)(len cap:Nat)(w:au):
 aR aj 164 #[.slice A len cap] w fun e w'=>e=.returned (.func (.func 239) #[] #[.pointer (some ⟨w.heap.size,0,none⟩)])/\w.alloc (.cells #[.slice A len cap] 75)=w':=by
 go_enter Tryz.func164,Tryz.ntmps164;go_wp2;go_ret;exact⟨rfl,rfl⟩
theorem XZ(F:Fence)(n:Nat)(hf:F.fn 239)(Lx:F.round=none)(hn:1<=n)(Bs n₀:Nat)(A:Option aU)(len cap:Nat)(zs:List o9)(hlen:len<=100000)(w:au)(Ro:Bs<w.heap.size)(Cq:n₀<=w.heap.size)
 (hc:w.cell? ⟨Bs,0,none⟩=some (.slice A len cap)) (hR:iO o9.aA 2 w n₀ A len zs) :
 SeqStopsK F n aj 239 #[.pointer (some ⟨Bs,0,none⟩)] (fun x:o9=>#[bY x.aA]) (aN n₀) (fun ys=>ys=zs) (fun pre=>pre <+: zs) len w:=fun l J Jx W hW hJ _ hY h0=>by
 have hc':=(hW.cell (p:=⟨Bs,0,none⟩) Ro).trans hc;exact ac1 F n hf Lx hn l Bs n₀ W.heap.size A len cap zs hlen J Jx hJ hY W (aP Cq hW.size) hc' (hR.to hW Cq) h0
theorem alK(x y:o9)(w:au):aR aj 165 #[.agg x.aA,.agg y.aA] w (gP w (.int .i64 (mE x.name y.name))):=by
 have Z0:=ah (((Bx.start w).new x.aA 151).new y.aA 151);rw[show(w.alloc (.cells x.aA 151)).heap.size=w.heap.size+1 by simp]at Z0;have CC:=ah (fun W=>SG x.name y.name W);go_enter Tryz.func165,Tryz.ntmps165;go_upto_region 1 with fail
 generalize(w.alloc (.cells x.aA 151)).alloc (.cells y.aA 151)=w1 at Z0 ⊢;have c1:=(Z0.out.b1.aI.1 0).trans (o9.zX x);have c2:=(Z0.out.b0.aI.1 0).trans (o9.zX y);go_wp2_with (go_at_call 166;(with_reducible refine(CC.out _).mono ?_);rintro e w2 ⟨rfl,rfl⟩);go_ret;exact⟨rfl,Z0.out.dF⟩
def aaU(x y:o9):Int:=mE x.name y.name
theorem alL:Sort.SWO (ltOf aaU):=by
 have e:∀x y,ltOf aaU x y=bT x.name y.name:=fun x y=>by rw[yC];rfl
 refine⟨fun x=>?_,fun x y z h1 h2=>?_,fun x y z h1 h2=>?_⟩
 ·rw[e];exact sP _
 ·rw[e]at *;exact yK _ _ _ h1 h2
 ·rw[e]at *;exact JE h2 h1
def Ya(l:List o9):Prop:=l.Pairwise fun x y=>bT x.name y.name=true
theorem apm{l l':List o9}(h:Ya l)(hp:l'.Perm l)(hs:l'.Pairwise fun x y=>ltOf aaU y x=false):l'=l:=by
 have e:∀x y,ltOf aaU x y=bT x.name y.name:=fun x y=>by rw[yC];rfl
 have yZ:Jw (fun x y:o9=>bT x.name y.name):=⟨fun x=>sP _,fun x y z h1 h2=>yK _ _ _ h1 h2⟩
 have hnd:l'.Pairwise fun x y=>x.name≠y.name:=by
  refine(hp.pairwise_iff (fun{a b} (EH:a.name≠b.name)=>Ne.symm EH)).2 (h.imp ?_);intro a b EH heq;rw[heq,sP]at EH;cases EH
 have h':Asc (fun x y:o9=>bT x.name y.name) l':=by
  refine(hs.and hnd).imp ?_;rintro a b ⟨h1,h2⟩;rw[e]at h1;cases h3:bT a.name b.name
  ·exact absurd (Ai _ _ h3 h1) h2
  ·exact h3
 exact Asc.eq yZ h' h hp
theorem apn(w:au):(isAgg 151).run aj w=.ok true w:=by simp[isAgg,dJ Tryz.underlying151]
theorem ata(w:au):(Go.sizeOf 151).run aj w=.ok 2 w:=by
 obtain⟨i,hi,Qw,_⟩:=ax2.ahp;rw[run_sizeOf w hi];have hc:aj.cellsOf 151=2:=by simp[Program.cellsOf,hi,Qw]
 rw[hc]
theorem Yb{B base size n:Nat}{e:bM}{v:aC}{xs:List aC}{w w1 w2:au}(hb:aN B w w1)(ho:w1.ownsRow base e size v n xs)(hB:B<=base)(hB2:B<=w.heap.size)(hg:w1.grownBy w2 v.ownBlock):aN B w w2:=by
 refine⟨hg.os.trans hb.os,hg.tape.trans hb.tape,hg.output.trans hb.output,aP hb.size hg.size,fun k hk=>?_⟩;refine(hg.block k (eU (eU hk hB2) hb.size) (fun e2=>?_)).trans (hb.block k hk)
 ·rcases ho.2 with⟨rfl,_⟩|⟨g,cap,cur,rfl,h2,h3,_⟩
  ·cases e2
  ·injection e2 with e2
   dsimp at e2;omega
theorem ahT(l:List o9)(hl:l.length<=1000000)(W:au)(base:Nat)(A:Option aU)(c:Nat)(h:W.ownsRow base 151 2 (.slice A l.length c) l.length (l.flatMap fun x=>x.aA.toList)):
 aR aj 238 #[.slice A l.length c,.func (.func 165) #[] #[]] W fun e w'=>e=.returned (.tuple #[])/\∃l':List o9,l'.Perm l/\l'.Pairwise (fun x y=>ltOf aaU y x=false)/\w'.ownsRow base 151 2 (.slice A l.length c) l.length (l'.flatMap fun x=>x.aA.toList)/\W.grownBy w' (bE A l.length c).ownBlock:=
 aaT as8 2 apn ata o9.aA o9.ak o9.cB aaU alL 165 (fun args w=>rfl) base 151 A l.length c l W rfl hl h alK
theorem P9(gf:Nat)(lb:Array aC)(eg:∀args w,(callFunc gf args).run aj w=.ok (.enter gf args) w)(l:List o9)(hs:Ya l)(hN:l.length<=100000)(w:au)(Ev:SeqStopsK Fence.wide 5 aj gf lb (fun x:o9=>#[bY x.aA]) (aN w.heap.size) (fun ys=>ys=l) (fun pre=>pre <+: l) l.length w):
 aR aj 163 #[.func (.func gf) #[] lb,.func (.func 165) #[] #[]] w fun e W'=>
  ∃A' c',e=.returned (.slice A' l.length c')/\W'.ownsRow w.heap.size 151 2 (.slice A' l.length c') l.length (l.flatMap fun x=>x.aA.toList)/\aN w.heap.size w W':=by
 have CO:=ah (XU gf lb eg (fun ys=>ys=l) (fun pre=>pre <+: l) l.length hN w Ev);have SO:=ah (fun(W:au) (A:Option aU) (c:Nat) h=>ahT l (by omega) W w.heap.size A c h);clear Ev;go_enter Tryz.func163,Tryz.ntmps163;go_wp2_with fail;refine CO.out.mono ?_;rintro e w1 ⟨ys,rfl,A1,c1,rfl,ho,hb⟩;have SO1:=ah (SO.out w1 A1 c1 ho);have HB:=ah hb;have HO:=ah ho;have HS:=ah hs;clear hb ho hs SO CO;obtain⟨m,hm⟩:∃m,m=ys.length:=⟨_,rfl⟩
 rw[<-hm]at HO SO1 ⊢;have HM:=ah hm;clear hm;go_wp2_with fail;refine SO1.out.mono ?_;rintro e w2 ⟨rfl,l',hp,hpw,NG,hg⟩;obtain rfl:=apm HS.out hp hpw;have H2:=ah NG;have HG:=ah hg;clear NG hg hp hpw;go_wp2;go_ret;obtain rfl:=HM.out;exact⟨A1,c1,rfl,H2.out,Yb HB.out HO.out (ay _) (ay _) HG.out⟩
theorem ac3(l:List o9)(hs:Ya l)(A:Option aU)(n c:Nat)(w:au)(hR:iO o9.aA 2 w w.heap.size A n l)(hn:n<=100000):
 aR aj 80 #[.slice A n c] w fun e w'=>∃A' c',e=.returned (.slice A' n c')/\iO o9.aA 2 w' w'.heap.size A' n l/\aN w.heap.size w w':=by
 have hl:=hR.1;have w1s:=(dL.new w #[.slice A n c] 75)
 have NZ:aN w.heap.size w (w.alloc (.cells #[.slice A n c] 75)):=(Below.refl _ _).alloc (ay _) _;have hR1:=hR.up (.cells #[.slice A n c] 75);have SQ:=ah (XZ Fence.wide 5 trivial rfl (by omega) w.heap.size (w.alloc (.cells #[.slice A n c] 75)).heap.size A n c l (by omega) (w.alloc (.cells #[.slice A n c] 75)) w1s.lt (ay _) (w1s.aI.1 0) hR1);have VA:=ah (ac2 A n c w);generalize hw:w.alloc (.cells #[.slice A n c] 75)=w1 at *;have SF:=ah (P9 239 #[.pointer (some ⟨w.heap.size,0,none⟩)] (fun args w=>rfl) l hs (by omega) w1 (by rw[hl];exact SQ.out));have qd:=ah NZ;have IK:=ah hR1;clear hw w1s NZ hR1 hR SQ;go_enter Tryz.func80,Tryz.ntmps80;go_wp2_with fail;refine VA.out.mono ?_;rintro e w2 ⟨rfl,rfl⟩;go_wp2_with fail;refine SF.out.mono ?_;rintro e w2 ⟨A1,c1,rfl,ho,hb⟩;have HO:=ah ho;have HB:=ah hb;clear ho hb;subst hl;go_wp2;go_ret;refine⟨A1,c1,rfl,iO.iX rfl HO.out,?_⟩;have h1:=qd.out;have h2:=HB.out;exact⟨h2.os.trans h1.os,h2.tape.trans h1.tape,h2.output.trans h1.output,aP h1.size h2.size,fun k hk=>(h2.block k (eU hk h1.size)).trans (h1.block k hk)⟩
end
theorem ahU(key:Vector UInt8 16)(A:Option aU)(n c:Nat)(s:List UInt8)(tag:UInt8)(a:Int)(ha:a=(tag.toNat:Int))(w:au)(hr:gy w w.heap.size A n s)(hn:n<=1000000):aR aj 97 #[.agg (iU key),.slice (some ⟨w.heap.size+1,0,none⟩) 2 2] ((w.alloc (.cells #[.int .u8 a] 5)).alloc (.cells (zD [⟨A,n,c⟩,⟨some ⟨w.heap.size,0,none⟩,1,1⟩]) 56)) (gP w (.int .u64 (yF key (s++[tag])))):=by
 have hl:=hr.len;have e1:(w.alloc (.cells #[.int .u8 a] 5)).heap.size=w.heap.size+1:=by simp
 have h1:=((hr.alloc (ay _) (.cells #[.int .u8 a] 5)).lF (show w.heap.size<=w.heap.size+1 by omega))
 have h2:=Fv w tag a ha;have R:=RdS.lit (w.alloc (.cells #[.int .u8 a] 5)) [⟨A,n,c⟩,⟨some ⟨w.heap.size,0,none⟩,1,1⟩] 56;rw[e1]at R;have up:∀{A:Option aU} {n:Nat} {l:List UInt8},gy (w.alloc (.cells #[.int .u8 a] 5)) (w.heap.size+1) A n l->gy ((w.alloc (.cells #[.int .u8 a] 5)).alloc (.cells (zD [⟨A,n,c⟩,⟨some ⟨w.heap.size,0,none⟩,1,1⟩]) 56)) ((w.alloc (.cells #[.int .u8 a] 5)).alloc (.cells (zD [⟨A,n,c⟩,⟨some ⟨w.heap.size,0,none⟩,1,1⟩]) 56)).heap.size A n l:=fun h=>(h.alloc (by rw[e1];omega) _).lF (by simp)
 have go:∀{A:Option aU} {n:Nat} {l:List UInt8} (ob:Obj),gy (w.alloc (.cells #[.int .u8 a] 5)) (w.heap.size+1) A n l->gy ((w.alloc (.cells #[.int .u8 a] 5)).alloc ob) ((w.alloc (.cells #[.int .u8 a] 5)).alloc ob).heap.size A n l:=fun ob h=>(h.alloc (by rw[e1];omega) _).lF (by simp)
 refine(aaR key [⟨A,n,c⟩,⟨some ⟨w.heap.size,0,none⟩,1,1⟩] [s,[tag]] _ 2 2 _ R (.cons (go _ h1) (.cons (go _ h2) .nil)) (by omega) (by simp[zm];omega) (s++[tag]) (by simp) (by simp;omega)).mono ?_;rintro e w' ⟨rfl,hb⟩;exact⟨rfl,(((Below.refl _ w).alloc (ay _) _).alloc (by simp) _).trans (hb.mono (by simp;omega))⟩
theorem Qa(key:Vector UInt8 16)(s:List UInt8)(tag:UInt8)(a:Int)(ha:a=(tag.toNat:Int))(b:Nat)(z:Int)(hz:z=b)(hb:1<=b)(kF:b<=1000000)(hs:s.length<=1000000)(r:Nat)(hr:yF key (s++[tag])%b=r)(kb nb:Nat)(W:au)(hk:dL W kb (iU key))(hn:dL W nb #[.string (bV s)]):
 aR aj 167 #[.int .u8 a,.int .i64 z,.pointer (some ⟨kb,0,none⟩),.pointer (some ⟨nb,0,none⟩)] W (gP W (.int .i64 (r:Nat))):=by
 subst hz;have l1:=XV.mO hk (dK _);have l2:=hn.aI.1 0;have l2:W.cell? ⟨nb,0,none⟩=some (.string (bV s)):=l2;have TW:=ah (ar' W s);have hcv:=Jg (P:=aj) 9 56 5 iL dw lD s W;obtain⟨W3,hW3⟩:∃W3,W3=sI W 5 s:=⟨_,rfl⟩
 rw[<-hW3]at hcv TW;obtain⟨cc,VG⟩:∃cc,grownCap W s.length 0 5=cc:=⟨_,rfl⟩
 rw[VG]at hcv;obtain⟨h,hh⟩:∃h,h=yF key (s++[tag]):=⟨_,rfl⟩
 have CS:=ah (ahU key (some ⟨W.heap.size,0,none⟩) s.length cc s tag a ha W3 TW.out.1 hs);rw[<-hh]at CS;have HH:=ah hh;have w1:jr.wrap (b:Int)=b:=by rw[IntKind.wrap_u64];omega
 have w2:((h:Int)%(b:Int))=((h%b:Nat):Int):=by omega
 rw[<-hh]at hr;have fP:=fD h (show 0<b by omega);have w3:=jU ((h%b:Nat):Int) (by omega);have KD:¬(b:Int)=0:=by omega
 have gI:¬b=0:=by omega
 rw[hr]at w2 w3 fP;clear VG hW3 hh hk hn ha hr;go_enter Tryz.func167,Tryz.ntmps167;go_wp2_with (go_at_call 97;go_loud (with_reducible refine CS.out.mono ?_);rintro e w9 ⟨rfl,hb9⟩;have B9:=ah hb9;clear hb9);go_ret;exact⟨rfl,TW.out.2.trans (B9.out.mono TW.out.2.size)⟩
theorem Yc(o s n i:Nat)(hn:1<=n)(LA:n<=100000)(ho:o<=100000)(hs:s<=100000)(hi:i<=1000000000)(W:au):aR aj 243 #[.int .i64 o,.int .i64 s,.int .i64 n,.int .i64 i] W fun e W'=>e=.returned (.int .i64 (rO o s n (i%n):Nat))/\W=W':=by
 have h1:((i:Int)%(n:Int))=((i%n:Nat):Int):=by omega
 have h0:¬(n:Int)=0:=by omega
 have h0':¬n=0:=by omega
 obtain⟨j,hj⟩:∃j,j=i%n:=⟨_,rfl⟩
 have hjl:j<=100000:=by have:=fD i (show 0<n by omega);omega
 rw[<-hj]at h1 ⊢;have hm:j*s<=10000000000:=aP (gU hjl hs) (by decide);have h2:(j:Int)*(s:Int)=((j*s:Nat):Int):=by simp
 obtain⟨p,hp⟩:∃p,p=j*s:=⟨_,rfl⟩
 rw[<-hp]at h2 hm;have h3:=jU (p:Int) (by omega);have h4:(o:Int)+(p:Int)=((o+p:Nat):Int):=by omega
 obtain⟨q,hq⟩:∃q,q=o+p:=⟨_,rfl⟩
 rw[<-hq]at h4;have h5:=jU (q:Int) (by omega);have h6:(q:Int)%(n:Int)=((q%n:Nat):Int):=by omega
 have HC:=ah (show rO o s n j=q%n by rw[hq,hp];rfl);clear hj hp hq;rw[HC.out];go_enter Tryz.func243,Tryz.ntmps243;go_wp2;go_ret;exact⟨rfl,rfl⟩
theorem ahV(key:Vector UInt8 16)(s:List UInt8)(n:Nat)(hn:2<=n)(LA:n<=100000)(hs:s.length<=1000000)(w:au):aR aj 83 #[.agg (iU key),.string (bV s),.int .i64 n] w (gP w (.tuple #[.int .i64 (DL key s n:Nat),.int .i64 (Bl key s n:Nat)])):=by
 have Z0:=ah (((Bx.start w).new (iU key) 22).new #[.string (bV s)] 9);rw[show(w.alloc (.cells (iU key) 22)).heap.size=w.heap.size+1 by simp]at Z0;obtain⟨o,ho⟩:∃o,yF key (s++[0])%n=o:=⟨_,rfl⟩
 have HO:=ah (show DL key s n=o from ho);obtain⟨t,ht⟩:∃t,yF key (s++[1])%(n-1)=t:=⟨_,rfl⟩
 obtain⟨t1,ht1⟩:∃t1,t1=t+1:=⟨_,rfl⟩
 have HT:=ah (show Bl key s n=t1 by rw[ht1,<-ht];rfl);have C0:=ah (fun W (h:Bx [(w.heap.size+1,#[.string (bV s)]),(w.heap.size,iU key)] w W)=>Qa key s 0 0 rfl n n rfl (by omega) (by omega) hs o ho w.heap.size (w.heap.size+1) W h.b1 h.b0);have C1:=ah (fun W (h:Bx [(w.heap.size+1,#[.string (bV s)]),(w.heap.size,iU key)] w W)=>Qa key s 1 1 rfl (n-1) ((n:Int)-1) (by omega) (by omega) (by omega) hs t ht w.heap.size (w.heap.size+1) W h.b1 h.b0);have NC:t<n-1:=by rw[<-ht];exact fD _ (by omega)
 have i1:=jU ((n:Int)-1) (by omega);have i2:=jU (t1:Int) (by omega);have i3:(t:Int)+1=(t1:Int):=by omega
 rw[HT.out,HO.out];clear ht ho ht1;go_enter Tryz.func83,Tryz.ntmps83;go_upto_region 1 with fail
 generalize(w.alloc (.cells (iU key) 22)).alloc (.cells #[.string (bV s)] 9)=w1 at Z0 ⊢;go_wp2_with (first|(go_at_call 167;(with_reducible refine(C0.out _ Z0.out).mono ?_);rintro e w5 ⟨rfl,hb⟩;have Z5:=ah (Z0.out.go hb);clear hb)|(go_at_call 167;(with_reducible refine(C1.out _ Z5.out).mono ?_);rintro e w6 ⟨rfl,hb⟩;have Z6:=ah (Z5.out.go hb);clear hb));go_ret2;exact⟨rfl,Z6.out.dF⟩
def SlA(d:Array aC)(sl:List Int):Prop:=∀j,j<sl.length->d[j]? = some (.int .i64 (sl.getD j 0))
theorem SlA.set{d:Array aC}{sl:List Int}(h:SlA d sl){k:Nat}(v:Int):SlA (d.setIfInBounds k (.int .i64 v)) (sl.set k v):=by
 intro j hj;rw[aW]at hj;rw[dO,av,fG];by_cases e:k=j
 ·subst e
  have:=h k hj;have fP:k<d.size:=by
   rcases bf k d.size with h1|h1
   ·exact h1
   ·rw[aV h1]at this;cases this
  simp[hj,fP]
 ·rw[if_neg e,if_neg e,h j hj,av]
theorem apq(o s n i r:Nat)(hr:rO o s n (i%n)=r)(hn:1<=n)(LA:n<=100000)(ho:o<=100000)(hs:s<=100000)(hi:i<=1000000000)(W:au):aR aj 243 #[.int .i64 o,.int .i64 s,.int .i64 n,.int .i64 i] W fun e W'=>e=.returned (.int .i64 (r:Nat))/\W=W':=by subst hr;exact Yc o s n i hn LA ho hs hi W
theorem ahW(tb sb z i n cn o s x f:Nat)(c d:Array aC)(sl:List Int)(W:au)(hc:dL W tb c)(hd:dL W sb d)(pY:tb≠sb)(h2:c[z+2]? = some (.int .i64 o))(h3:c[z+3]? = some (.int .i64 s))(h4:c[z+4]? = some (.int .i64 x))
 (hsl:SlA d sl) (hl:sl.length=n) (hn:1<=n) (LA:n<=100000) (hcn:n<=cn) (ho:o<=100000) (hs:s<=100000) (hx:x<=f) (hf:f<n) (uU:∀t,x<=t->t<f->sl.getD (rO o s n t) 0≠-1) (adS:sl.getD (rO o s n f) 0 = -1) :
 aR aj 169 #[.pointer (some ⟨tb,z,none⟩),.slice (some ⟨sb,0,none⟩) n cn,.int .i64 i] W fun e W'=>e=.returned (.tuple #[])/\dL W' tb (c.setIfInBounds (z+4) (.int .i64 (f+1:Nat)))/\dL W' sb (d.setIfInBounds (rO o s n f) (.int .i64 i))/\jE [tb,sb] W W':=by
 have HC:=ah hc;have HD:=ah hd;have HNE:=ah pY;have ND:=ah hsl;have Gu:=ah uU;have HY:=ah adS;have HL:=ah hl;have H4:=ah h4;clear hc hd pY hsl uU adS hl h4;have hz4:(c.setIfInBounds (z+4) (.int .i64 (x:Nat)))=c:=by
  apply dV;intro j;rw[dO];split
  ·rename_i e;subst e;rw[H4.out];simp;have:=H4.out;exact(bW.1 this).1
  ·rfl
 have HZ4:=ah hz4;have hcs:z+4<c.size:=(bW.1 H4.out).1;clear hz4;go_enter Tryz.func169,Tryz.ntmps169;go_wp2;go_loopw [] (fun wr=>∃y:Nat,x<=y/\y<=f/\dL wr tb (c.setIfInBounds (z+4) (.int .i64 (y:Nat)))/\dL wr sb d/\jE [tb,sb] W wr)
  (fun wr=>f-(intOf ((wr.cell? ⟨tb,z+4,none⟩).getD undef)).toNat)
 case atStart=>exact⟨x,ay _,hx,by rw[HZ4.out];exact HC.out,HD.out,jE.refl _ _⟩
 case round=>
  obtain⟨y,hy1,hy2,gI,kF,Au⟩:=hrel;obtain⟨c1,c2,c3,c4⟩:=gI.aI;have k2:=(c1 (z+2)).trans ((dO ..).trans ((if_neg (by omega)).trans h2));have k3:=(c1 (z+3)).trans ((dO ..).trans ((if_neg (by omega)).trans h3));have k4:=(c1 (z+4)).trans ((dO ..).trans ((if_pos rfl).trans (if_pos hcs)));have kf:=c2 (z+4);obtain⟨d1,d2,d3,d4⟩:=kF.aI;have qd:=ah gI;have ze:=ah kF;have HFR:=ah Au;have hyn:y%n=y:=fM (by omega);obtain⟨fE,wJ⟩:∃a,a=rO o s n y:=⟨_,rfl⟩
  have aIO:fE<n:=by rw[wJ];exact QF (by omega)
  have CC:=ah (fun w=>apq o s n y fE (by rw[hyn,wJ]) hn LA ho hs (by omega) w);obtain⟨v,hv⟩:∃v,v=sl.getD fE 0:=⟨_,rfl⟩
  have e1:wr.cell? ⟨sb,fE,none⟩=some (.int .i64 v):=by rw[d1,ND.out fE (by rw[HL.out];exact aIO),hv]
  have ef:=d2 fE;obtain⟨y1,hy⟩:∃y1,y1=y+1:=⟨_,rfl⟩
  have i1:(y:Int)+1=(y1:Int):=by omega
  have i2:=jU (y1:Int) (by omega);have aeX:(fE:Int)<n:=by omega
  clear c1 c2 c3 c4 d1 d2 d3 d4 gI kF Au hyn h2 h3;have HAT:=ah wJ;have HV:=ah hv;have X1:=ah (show dL (wr.setCell ⟨tb,z+4,none⟩ (.int .i64 y1)) tb (c.setIfInBounds (z+4) (.int .i64 (y1:Nat)))by have:=qd.out.eG (z+4) (.int .i64 y1);rwa [Array.setIfInBounds_setIfInBounds]at this);have X2:=ah (ze.out.dM ⟨tb,z+4,none⟩ (.int .i64 y1) HNE.out);have F1:=ah (HFR.out.set ⟨tb,z+4,none⟩ (.int .i64 y1) (.inl (by simp)));have HYV:=ah hy;have e2:(wr.setCell ⟨tb,z+4,none⟩ (.int .i64 y1)).cell? ⟨sb,fE,none⟩=some (.int .i64 v):=(X2.out.aI.1 fE).trans ((ze.out.aI.1 fE).symm.trans e1);have e3:=X2.out.aI.2.1 fE;clear e1 ef wJ hv hy;go_wp2_with fail;go_quiet ((go_at_call 243;(with_reducible refine(CC.out _).mono ?_);rintro e w2 ⟨rfl,rfl⟩;exact⟨rfl,_,rfl⟩));have W1:=ah (show(wr.drewN nq).setCell ⟨tb,z+4,none⟩ (.int .i64 y1)=(wr.setCell ⟨tb,z+4,none⟩ (.int .i64 y1)).drewN nq from rfl)
  replace k4:(wr.drewN nq).cell? ⟨tb,z+4,none⟩=some (.int .i64 y):=k4
  replace kf:(wr.drewN nq).frozen? ⟨tb,z+4,none⟩=false:=kf
  replace e2:((wr.drewN nq).setCell ⟨tb,z+4,none⟩ (.int .i64 y1)).cell? ⟨sb,fE,none⟩=some (.int .i64 v):=e2
  replace e3:((wr.drewN nq).setCell ⟨tb,z+4,none⟩ (.int .i64 y1)).frozen? ⟨sb,fE,none⟩=false:=e3
  clear k2 k3;by_cases Au:v = -1
  ·have hyf:y=f:=by
    rcases bf y f with h1|h1
    ·exact absurd Au (by rw[HV.out,HAT.out];exact Gu.out y hy1 h1)
    ·omega
   subst Au;have HYF:=ah hyf;clear hyf;go_wp2;refine bodyPost_ret (results_none rfl _ _ _) rfl ?_;refine⟨rfl,?_,?_,?_⟩
   ·rw[<-HYF.out,<-HYV.out];exact X1.out.dM ⟨sb,fE,none⟩ (.int .i64 i) (Ne.symm HNE.out)
   ·rw[<-HYF.out,<-HAT.out];exact X2.out.eG fE (.int .i64 i)
   ·exact(F1.out.drewN nq).set ⟨sb,fE,none⟩ (.int .i64 i) (.inl (by simp))
  ·have hyf:y<f:=by
    rcases bf y f with h1|h1
    ·exact h1
    ·exfalso
     have:y=f:=by omega
     exact Au (by rw[HV.out,HAT.out,this];exact HY.out)
   go_wp2;go_roundw
   case rel=>exact⟨y1,by omega,by omega,X1.out,X2.out,F1.out.drewN nq⟩
   case measure=>
    have q1:((wr.drewN nq).setCell ⟨tb,z+4,none⟩ (.int .i64 y1)).cell? ⟨tb,z+4,none⟩=some (.int .i64 y1):=(X1.out.aI.1 (z+4)).trans ((dO ..).trans ((if_pos rfl).trans (if_pos hcs)));have q2:wr.cell? ⟨tb,z+4,none⟩=some (.int .i64 y):=k4;rw[q1,q2];simp only[jy,intOf,dQ];omega
section
structure Tr where
 uZ:Int
 uK:Int
 offset:Int
 skip:Int
 next:Int
def Tr.aA(x:Tr):Array aC:=#[.int .i64 x.uZ,.int .i64 x.uK,.int .i64 x.offset,.int .i64 x.skip,.int .i64 x.next]
theorem Tr.ak(x:Tr):x.aA.size=5:=by simp[Tr.aA]
theorem Tr.cB(x:Tr):x.aA.all (·.oneCell')=true:=by simp[Tr.aA,cK]
@[go_sem]theorem Tr.aaV(x:Tr):x.aA[0]? = some (.int .i64 x.uZ):=by simp[Tr.aA,aG]
@[go_sem]theorem Tr.alM(x:Tr):x.aA[1]? = some (.int .i64 x.uK):=by simp[Tr.aA,aG]
@[go_sem]theorem Tr.alN(x:Tr):x.aA[2]? = some (.int .i64 x.offset):=by simp[Tr.aA,aG]
@[go_sem]theorem Tr.atb(x:Tr):x.aA[3]? = some (.int .i64 x.skip):=by simp[Tr.aA,aG]
@[go_sem]theorem Tr.atc(x:Tr):x.aA[4]? = some (.int .i64 x.next):=by simp[Tr.aA,aG]
theorem Tr.Yd(x:Tr)(v:Int):x.aA.setIfInBounds 1 (.int .i64 v)=({x with uK:=v}:Tr).aA:=by simp[Tr.aA,aM]
theorem Tr.aps(x:Tr)(v:Int):x.aA.setIfInBounds 4 (.int .i64 v)=({x with next:=v}:Tr).aA:=by simp[Tr.aA,aM]
def zR:Tr:=⟨0,0,0,0,0⟩
@[go_sem]theorem aCE:bY #[bg,bg,bg,bg,bg]=bY zR.aA:=rfl
@[go_sem]theorem ax7:eB #[bg,bg,bg,bg,bg] 155=eB zR.aA 155:=rfl
theorem kTr:oV 155 5 zR.aA:=⟨⟨_,Ef,rfl⟩,by kernel_rfl,by kernel_rfl,Tr.ak _⟩
@[go_sem ↓]theorem aQX(v:aC):bZ 155 v=yt 155 v:=rfl
@[go_sem ↓]theorem aQY(v x:aC):eD 155 v x=zW 155 v x:=rfl
@[go_sem]theorem aMP(W:au)(b o:Nat)(h:xS W b o 5):(yt 155 (.pointer (some ⟨b,o,none⟩))).run aj W=.ok (.agg (dY W b o 5)) W:=kTr.ld W b o h
@[go_sem]theorem aIR(W:au)(c:Array aC)(x:Tr)(b:Nat)(hb:b=W.heap.size)(hc:eu c=5):(zW 155 (.pointer (some ⟨b,0,none⟩)) (.agg x.aA)).run aj (W.alloc (.cells c 155))=.ok () (W.alloc (.cells x.aA 155)):=kTr.stN W c x.aA b hb hc (Tr.ak x) (Tr.cB x)
@[go_sem ↓]theorem aQZ(ps:Array (Nat×aC)):fJ 155 ps=uW 155 ps:=rfl
theorem aIS(w:au)(fs:Array nV)(h:aj.underlying 155=some (.struct fs)):(iB (fun f=>Prod.mk f.offset <$> sizeOf f.type) fs:Sem (Array (Nat×Nat))).run aj w=.ok #[(0,1),(1,1),(2,1),(3,1),(4,1)] w:=by
 have e:=Ef;rw[h]at e;cases e;show _=_
 kernel_rfl
theorem Tr.cells(x:Tr)(j:Nat)(hj:j<5):∃v,x.aA[j]? = some v:=⟨x.aA[j]'(by rw[Tr.ak];exact hj),by simp[Tr.ak,hj]⟩
def TrA(c:Array aC)(l:List Tr):Prop:=∀i,i<l.length->∀j,j<5->c[i*5+j]? = (l.getD i zR).aA[j]?
theorem TrA.put{c:Array aC}{l:List Tr}(h:TrA c l){i j:Nat}(hi:i<l.length)(hj:j<5)(v:aC)(y:Tr)(hy:(l.getD i zR).aA.setIfInBounds j v=y.aA):TrA (c.setIfInBounds (i*5+j) v) (l.set i y):=by
 intro i2 Qw j2 hj2;rw[aW]at Qw;have h0:=h i2 Qw j2 hj2;rw[dO,av,fG];by_cases e:i=i2
 ·subst e
  rw[if_pos rfl,if_pos hi,jy,<-hy,dO];by_cases e2:j=j2
  ·subst e2
   have fP:i*5+j<c.size:=by
    rcases bf (i*5+j) c.size with h1|h1
    ·exact h1
    ·obtain⟨u,hu⟩:=Tr.cells (l.getD i zR) j hj
     rw[aV h1,hu]at h0;cases h0
   rw[if_pos rfl,if_pos rfl,if_pos fP,if_pos (by rw[Tr.ak];exact hj)]
  ·rw[if_neg (by omega),if_neg e2,h0]
 ·rw[if_neg (by omega),if_neg e,<-av,h0]
theorem TrA.fE{W:au}{b:Nat}{c:Array aC}{l:List Tr}(h:TrA c l)(hb:dL W b c){i:Nat}(hi:i<l.length):xS W b (i*5) 5/\dY W b (i*5) 5=(l.getD i zR).aA/\W.cell? ⟨b,i*5,none⟩=some (.int .i64 (l.getD i zR).uZ)/\W.cell? ⟨b,i*5+1,none⟩=some (.int .i64 (l.getD i zR).uK)/\W.frozen? ⟨b,i*5+1,none⟩=false:=by
 obtain⟨h1,h2,h3,h4⟩:=hb.aI;have hs:i*5+5<=c.size:=by
  obtain⟨u,hu⟩:=Tr.cells (l.getD i zR) 4 (by omega);have:=h i hi 4 (by omega);rw[hu]at this;have:=(bW.1 this).1;omega
 refine⟨by rw[h3 _ _ (by unfold eu;omega)];trivial,?_,?_,?_,h2 _⟩
 ·rw[h4 _ _ (by unfold eu;omega)]
  apply dV;intro j;rw[dx];by_cases hj:j<5
  ·rw[if_pos (by omega),h i hi j hj]
  ·rw[if_neg (by omega),aV (by rw[Tr.ak];omega)]
 ·rw[h1];have:=h i hi 0 (by omega);rw[nI]at this;rw[this];exact Tr.aaV _
 ·rw[h1,h i hi 1 (by omega)];exact Tr.alM _
theorem Zk(q:List Nat)(i:Nat)(hi:i<q.length):lQ (q.take (i+1))=max (lQ (q.take i)) (q.getD i 0):=by
 unfold lQ;rw[dP hi,List.foldl_append,av,aD hi];rfl
structure FiL(g n:Nat)(q o s:List Nat)(m:Mg)(l:List Tr):Prop where
 len:l.length=q.length
 crl:m.cr.length=q.length
 all:∀i,i<q.length->(l.getD i zR).uZ=q.getD i 0/\(l.getD i zR).offset=o.getD i 0/\(l.getD i zR).skip=s.getD i 0/\(l.getD i zR).uK=m.cr.getD i 0/\m.cr.getD i 0<g/\∃x:Nat,(l.getD i zR).next=x/\x<=n/\∀t,t<x->rY m.sl (rO (o.getD i 0) (s.getD i 0) n t)=false
theorem Cz{α:Type}(l:List α)(i j:Nat)(v d:α)(hi:i<l.length):(l.set i v).getD j d=if i=j then v else l.getD j d:=by
 rw[av,fG];by_cases h:i=j
 ·subst h;simp[hi]
 ·simp[h,av]
theorem afl{sl:List Int}{k j:Nat}{v:Int}(hv:v≠-1)(h:rY sl j=false):rY (sl.set k v) j=false:=by
 unfold rY at h ⊢;rw[av,fG];split
 ·split
  ·simpa using hv
  ·simp
 ·rwa [<-av]
def IW(o s:List Nat)(n i t:Nat):Nat:=rO (o.getD i 0) (s.getD i 0) n t
variable {g n:Nat} {q o s:List Nat} {m:Mg} {l:List Tr}
theorem FiL.low(h:FiL g n q o s m l){i:Nat}(hi:i<q.length)(fP:m.cr.getD i 0+q.getD i 0<g):FiL g n q o s (sO g n q (IW o s n) m i) (l.set i {l.getD i zR with uK:=(m.cr.getD i 0+q.getD i 0:Nat)}):=by
 have hl:=h.len;have uh:=h.crl;unfold sO;rw[if_pos fP];refine⟨by simpa using hl,by simpa using uh,fun j hj=>?_⟩;rw[Cz _ _ _ _ _ (by omega),Cz _ _ _ _ _ (by omega)];by_cases e:i=j
 ·subst e
  simp only[if_true];obtain⟨a1,a2,a3,a4,a5,a6⟩:=h.all i hi;exact⟨a1,a2,a3,trivial,fP,a6⟩
 ·rw[if_neg e,if_neg e]
  exact h.all j hj
theorem FiL.high(h:FiL g n q o s m l){i:Nat}(hi:i<q.length)(UL:¬m.cr.getD i 0+q.getD i 0<g)(hq:q.getD i 0<=g){f:Nat}(hf:f=ff m.sl (IW o s n i) n)(hfn:f<n)(uU:∀t,t<f->rY m.sl (IW o s n i t)=false):
 FiL g n q o s (sO g n q (IW o s n) m i) ((l.set i {l.getD i zR with uK:=(m.cr.getD i 0+q.getD i 0-g:Nat)}).set i {l.getD i zR with uK:=(m.cr.getD i 0+q.getD i 0-g:Nat),next:=(f+1:Nat)}):=by
 have hl:=h.len;have uh:=h.crl;unfold sO;rw[if_neg UL,<-hf,List.set_set];refine⟨by simpa using hl,by simpa using uh,fun j hj=>?_⟩;rw[Cz _ _ _ _ _ (by omega),Cz _ _ _ _ _ (by omega)];by_cases e:i=j
 ·subst e
  simp only[if_true];obtain⟨a1,a2,a3,a4,a5,a6⟩:=h.all i hi;refine⟨a1,a2,a3,trivial,by omega,f+1,rfl,by omega,fun t ht=>?_⟩;rcases bf t f with h1|h1
  ·exact afl (by omega) (uU t h1)
  ·have:t=f:=by omega
   subst this;unfold rY;rw[av,fG];have e2:IW o s n i t=rO (o.getD i 0) (s.getD i 0) n t:=rfl;rw[e2,if_pos rfl];split
   ·simp
   ·simp
 ·rw[if_neg e,if_neg e]
  obtain⟨a1,a2,a3,a4,a5,x,a6,a7,a8⟩:=h.all j hj;exact⟨a1,a2,a3,a4,a5,x,a6,a7,fun t ht=>afl (by omega) (a8 t ht)⟩
theorem FiL.first(h:FiL g n q o s m l){i:Nat}(hi:i<q.length){f x:Nat}(hx:(l.getD i zR).next=x)(Oh:rY m.sl (IW o s n i f)=true):x<=f:=by
 obtain⟨_,_,_,_,_,y,b1,b2,b3⟩:=h.all i hi;have:y=x:=by omega
 subst this;rcases bf f y with h1|h1
 ·have:=b3 f h1
  have e2:IW o s n i f=rO (o.getD i 0) (s.getD i 0) n f:=rfl;rw[e2,this]at Oh;cases Oh
 ·exact h1
theorem afm(q:List Nat){i:Nat}(hi:i<q.length):q.getD i 0<=lQ q:=by
 have h1:∀(t:List Nat)(b:Nat),b<=t.foldl max b:=by
  intro t
  induction t with
  | nil=>intro b;exact ay _
  | cons y t ih=>intro b;rw[jV];exact aP (Nat.le_max_left _ _) (ih _)
 have h2:∀(t:List Nat)(b i:Nat),i<t.length->t.getD i 0<=t.foldl max b:=by
  intro t
  induction t with
  | nil=>intro b i hi;simp at hi
  | cons y t ih=>
    intro b i hi;rw[jV];cases i with
    | zero=>exact aP (Nat.le_max_right b y) (h1 t _)
    | succ i=>exact ih _ i (by simpa using hi)
 exact h2 q 0 i hi
variable (g n:Nat) (q o s:List Nat)
def FiS(g n:Nat)(q o s:List Nat)(tb sb:Nat)(W:au)(J:Nat)(wr:au):Prop:=∃(l:List Tr)(c d:Array aC),FiL g n q o s (jN g n q (IW o s n) J) l/\TrA c l/\SlA d (jN g n q (IW o s n) J).sl/\dL wr tb c/\dL wr sb d/\jE [tb,sb] W wr
theorem ahX(tb sb k ck n cn g:Nat)(q o s:List Nat)(c d:Array aC)(l0:List Tr)(W:au)(hg:lQ q=g)(hc:dL W tb c)(hd:dL W sb d)(pY:tb≠sb)(hk:q.length=k)(hT:TrA c l0)(hS:SlA d (dU n (-1)))(hL:FiL g n q o s ⟨q.map fun _=>0,dU n (-1),n⟩ l0)
 (hk1:1<=k) (YU:k<=100000) (hck:k<=ck) (hn:1<=n) (LA:n<=100000) (hcn:n<=cn) (hq0:∀x∈q,0<x) (hg2:g<=100000000) (ho:∀i,i<k->o.getD i 0<=100000) (hs:∀i,i<k->s.getD i 0<=100000) (hf:ad0 n k (IW o s n)) :
 aR aj 85 #[.slice (some ⟨tb,0,none⟩) k ck,.slice (some ⟨sb,0,none⟩) n cn] W fun e W'=>e=.returned (.tuple #[])/\(∃d',dL W' sb d'/\SlA d' (Fp n q (IW o s n)))/\jE [tb,sb] W W':=by
 have hqn:q≠[]:=by intro e;rw[e]at hk;simp at hk;omega
 obtain⟨K,_,Od,Gd,hK3⟩:=aak (n:=n) (ch:=IW o s n) hqn hq0;rw[hg]at Od Gd hK3;have OK:=ah (fun J (hJ:J<=K)=>ant (g:=g) (n:=n) (q:=q) (ch:=IW o s n) (by omega) (by rw[hk];exact hf) J (fun t ht=>Gd t (by omega)));have HK1:=ah Od;have HK2:=ah Gd;have HK3:=ah hK3;have HG:=ah hg;have HF:=ah (show ad0 n q.length (IW o s n)by rw[hk];exact hf);have HKQ:=ah hk;have ST0:=ah (show FiS g n q o s tb sb W 0 W from⟨l0,c,d,hL,hT,hS,hc,hd,jE.refl _ _⟩);have HT:=ah hT;have NI:=ah (hL.len.trans hk);have HQ0:=ah (fun i (hi:i<k)=>(hL.all i (by omega)).1);have HO:=ah ho;have HS':=ah hs;have HNE:=ah pY;have HC:=ah hc;have HQG:=ah (fun i (hi:i<k)=>(by have:=afm q (i:=i) (by omega);omega:q.getD i 0<=g));have HQP:=ah hq0;clear Od Gd hK3 hg hf hk hL hT hS hc hd ho hs pY hqn hq0;go_enter Tryz.func85,Tryz.ntmps85;go_wp2;go_step3;go_wp2;go_loopw [4,12] (fun s4 s12 wr=>∃i:Nat,i<=k/\s12=.int .i64 i/\s4=.int .i64 (lQ (q.take i):Nat)/\dL wr tb c/\FiS g n q o s tb sb W 0 wr) (fun _ s12 _=>k-(intOf s12).toNat)
 case atStart=>exact⟨0,Nat.zero_le _,rfl,rfl,HC.out,ST0.out⟩
 case round=>
  obtain⟨i,hi,rfl,rfl,hbc,yZ⟩:=hrel;have HB:=ah hbc;have HST:=ah yZ;clear yZ;by_cases fP:i<k
  ·have hli:(i:Int)<k:=by omega
   obtain⟨a1,a2,_,_,_⟩:=HT.out.fE hbc (i:=i) (by rw[NI.out];exact fP);obtain⟨x,hx⟩:∃x,x=l0.getD i zR:=⟨_,rfl⟩
   have hxq:x.uZ=(q.getD i 0:Nat):=by rw[hx];exact HQ0.out i fP
   rw[<-hx]at a2;have AA:=Zk q i (by rw[HKQ.out];exact fP);obtain⟨u,hu⟩:∃u,u=lQ (q.take i):=⟨_,rfl⟩
   obtain⟨v,hv⟩:∃v,v=q.getD i 0:=⟨_,rfl⟩
   obtain⟨z,hz⟩:∃z,z=lQ (q.take (i+1)):=⟨_,rfl⟩
   rw[<-hu,<-hv,<-hz]at AA;rw[<-hv]at hxq;have m1:max (u:Int) (v:Int)=z:=by omega
   have m2:(if(u:Int)<(v:Int)then(v:Int)else(u:Int))=z:=by split<;>omega
   have X1:=ah (dL.new wr x.aA 155);have b0:=X1.out.aI.1 0;rw[Tr.aaV]at b0;have HZ:=ah hz;rw[<-hu];clear hx hu hv AA hz hbc;go_wp2;go_roundw
   case rel=>exact⟨i+1,by omega,by go_num,by rw[<-HZ.out],HB.out.alloc _,by obtain⟨l,c1,d1,y1,y2,y3,y4,y5,y6⟩:=HST.out;exact⟨l,c1,d1,y1,y2,y3,y4.alloc _,y5.alloc _,y6.alloc _⟩⟩
   case measure=>simp[intOf]<;>omega
  ·have Xk:i=k:=by omega
   have hd:decide ((i:Int)<k)=false:=by simp;omega
   have HGI:=ah (show lQ (q.take i)=g by rw[Xk,<-HKQ.out,List.take_length,HG.out]);rw[HGI.out];clear Xk;go_wp2;go_step3;go_wp2;have HKP:=ah (show 0<K by
    rcases dX K with h0|h0
    ·have:=HK1.out;rw[h0]at this;simp[jN]at this;omega
    ·exact h0)
   go_loopw [7] (fun s7 wr=>∃(J r:Nat),J=r*k/\J<K/\s7=.int .i64 ((jN g n q (IW o s n) J).left:Nat)/\FiS g n q o s tb sb W J wr) (fun s7 _=>(intOf s7).toNat)
   case atStart=>exact⟨0,0,by omega,HKP.out,rfl,HST.out⟩
   case round=>
    obtain⟨J,r,hJ,hJK,rfl,aCH⟩:=hrel;have HJ:=ah hJ;have aIU:=ah aCH;obtain⟨lf,hlf⟩:∃lf,lf=(jN g n q (IW o s n) J).left:=⟨_,rfl⟩
    have HLF:=ah hlf;rw[<-hlf];clear hJ aCH hlf hd;go_wp2;go_loopw [7,25] (fun s7 s25 wr=>∃(i J2:Nat),i<=k/\s25=.int .i64 i/\J2=J+i/\J2<K/\s7=.int .i64 ((jN g n q (IW o s n) J2).left:Nat)/\FiS g n q o s tb sb W J2 wr) (fun _ s25 _=>k-(intOf s25).toNat)
    case atStart=>exact⟨0,J,Nat.zero_le _,rfl,rfl,hJK,by rw[HLF.out],aIU.out⟩
    case round=>
     obtain⟨i2,J2,Qw,rfl,hJ2,aCI,rfl,l,c1,d1,hL,hT,hS,gI,kF,Au⟩:=hrel;have HJ2:=ah hJ2;obtain⟨m,hm⟩:∃m,m=jN g n q (IW o s n) J2:=⟨_,rfl⟩
     have HM:=ah hm;rw[<-hm]at hL hS;rw[<-hm];clear hJ2 hm;by_cases fP:i2<k
     ·have hli:(i2:Int)<k:=by omega
      have hiq:i2<q.length:=by rw[HKQ.out];exact fP
      have MOK:=ah (show agD n q m by rw[HM.out];exact OK.out J2 (by omega));have Zz:m.left≠0:=by rw[HM.out];exact HK2.out J2 aCI
      have HNX:=ah (show jN g n q (IW o s n) (J2+1)=sO g n q (IW o s n) m i2 by
       rw[HM.out];show sO g n q (IW o s n) _ (J2%q.length)=_;rw[HKQ.out,HJ2.out,HJ.out,DC,Nat.mul_add_mod,fM fP])
      obtain⟨e1,e2,e3,e4,e5,x,e6,e7,e8⟩:=hL.all i2 hiq;have EI:i2<l.length:=by rw[hL.len];exact hiq
      obtain⟨_,_,k1,k2,k3⟩:=hT.fE gI EI;obtain⟨y,hy⟩:∃y,y=l.getD i2 zR:=⟨_,rfl⟩
      rw[<-hy]at e1 e2 e3 e4 e6 k1 k2;obtain⟨ci,hci⟩:∃ci,ci=m.cr.getD i2 0:=⟨_,rfl⟩
      obtain⟨qi,hqi⟩:∃qi,qi=q.getD i2 0:=⟨_,rfl⟩
      rw[<-hci]at e4 e5;rw[<-hqi]at e1;rw[e1]at k1;rw[e4]at k2;have hqg:qi<=g:=by rw[hqi];exact HQG.out i2 fP
      obtain⟨cs,hcs⟩:∃cs,cs=ci+qi:=⟨_,rfl⟩
      have s1:(ci:Int)+(qi:Int)=cs:=by omega
      have ax9:cs<=200000000:=by omega
      have s2:=jU (cs:Int) (by omega);have X1:=ah (show dL ((wr.setCell ⟨tb,i2*5+1,none⟩ (.int .i64 cs)).drew) tb (c1.setIfInBounds (i2*5+1) (.int .i64 (cs:Nat)))from gI.eG (i2*5+1) (.int .i64 cs));have X2:=ah (show dL ((wr.setCell ⟨tb,i2*5+1,none⟩ (.int .i64 cs)).drew) sb d1 from kF.dM ⟨tb,i2*5+1,none⟩ (.int .i64 cs) HNE.out);have F1:=ah (show jE [tb,sb] W ((wr.setCell ⟨tb,i2*5+1,none⟩ (.int .i64 cs)).drew)from(Au.set ⟨tb,i2*5+1,none⟩ (.int .i64 cs) (.inl (by simp))).drewN 1);have T1:=ah (hT.put (j:=1) EI (by omega) (.int .i64 (cs:Nat)) {y with uK:=(cs:Nat)} (by rw[<-hy];exact Tr.Yd y cs));have HL:=ah hL;have HS:=ah hS;have HCI:=ah hci;have HQI:=ah hqi;have HCS:=ah hcs;have HYL:=ah hy;have E2:=ah e2;have E3:=ah e3;have E6:=ah e6;clear hL hT hS gI kF Au e1 e2 e3 e4 e6 e7 e8 hy hci hqi hcs;go_upto_region 11 with fail
      go_region;clear k1 k2 k3 s1 s2;generalize(wr.setCell ⟨tb,i2*5+1,none⟩ (.int .i64 cs)).drew=w1 at X1 X2 F1 ⊢;obtain⟨_,_,_,k2,k3⟩:=T1.out.fE X1.out (i:=i2) (by rw[aW];exact EI);rw[Cz _ _ _ _ _ EI,if_pos rfl]at k2;simp only at k2;by_cases alQ:cs<g
      ·have hlo:(cs:Int)<g:=by omega
       have HL2:=ah (show FiL g n q o s (jN g n q (IW o s n) (J2+1)) (l.set i2 {y with uK:=(cs:Nat)})by
        have:=HL.out.low hiq (by rw[<-HCI.out,<-HQI.out,<-HCS.out];exact alQ);rw[<-HCI.out,<-HQI.out,<-HCS.out,<-HYL.out]at this;rw[HNX.out];exact this)
       have HM2:=ah (show(jN g n q (IW o s n) (J2+1)).sl=m.sl/\(jN g n q (IW o s n) (J2+1)).left=m.left by
        rw[HNX.out];unfold sO;rw[if_pos (by rw[<-HCI.out,<-HQI.out,<-HCS.out];exact alQ)];exact⟨rfl,rfl⟩)
       have aIY:=ah (show J2+1<K by
        rcases bf (J2+1) K with h1|h1
        ·exact h1
        ·exfalso
         have:J2+1=K:=by omega
         have h2:=HM2.out.2;rw[this,HK1.out]at h2;omega)
       clear alQ;go_wp2;go_roundw
       case rel=>exact⟨i2+1,J2+1,by omega,by go_num,by rw[HJ2.out];omega,aIY.out,by rw[HM2.out.2],_,_,_,HL2.out,T1.out,by rw[HM2.out.1];exact HS.out,X1.out,X2.out,F1.out⟩
       case measure=>simp[intOf]<;>omega
      ·have UL:¬(cs:Int)<g:=by omega
       obtain⟨dh,hdh⟩:∃dh,dh=cs-g:=⟨_,rfl⟩
       have s3:(cs:Int)-(g:Int)=dh:=by omega
       have s4:=jU (dh:Int) (by omega);have HDH:=ah hdh;have X3:=ah (show dL (w1.setCell ⟨tb,i2*5+1,none⟩ (.int .i64 dh)) tb ((c1.setIfInBounds (i2*5+1) (.int .i64 (cs:Nat))).setIfInBounds (i2*5+1) (.int .i64 (dh:Nat)))from X1.out.eG (i2*5+1) (.int .i64 dh));have X4:=ah (show dL (w1.setCell ⟨tb,i2*5+1,none⟩ (.int .i64 dh)) sb d1 from X2.out.dM ⟨tb,i2*5+1,none⟩ (.int .i64 dh) HNE.out);have F3:=ah (show jE [tb,sb] W (w1.setCell ⟨tb,i2*5+1,none⟩ (.int .i64 dh))from F1.out.set ⟨tb,i2*5+1,none⟩ (.int .i64 dh) (.inl (by simp)));have T3:=ah (show TrA ((c1.setIfInBounds (i2*5+1) (.int .i64 (cs:Nat))).setIfInBounds (i2*5+1) (.int .i64 (dh:Nat))) (l.set i2 {y with uK:=(dh:Nat)})by
        have:=T1.out.put (j:=1) (i:=i2) (by rw[aW];exact EI) (by omega) (.int .i64 (dh:Nat)) {y with uK:=(dh:Nat)} (by rw[Cz _ _ _ _ _ EI,if_pos rfl,Tr.Yd])
        rwa [List.set_set]at this)
       clear X1 X2 T1 hdh;generalize(c1.setIfInBounds (i2*5+1) (.int .i64 (cs:Nat))).setIfInBounds (i2*5+1) (.int .i64 (dh:Nat))=c3 at X3 T3;obtain⟨f,hf⟩:∃f,f=ff m.sl (IW o s n i2) n:=⟨_,rfl⟩
       obtain⟨ff1,ff2,ff3⟩:=aun (MOK.out.free HF.out Zz hiq);rw[<-hf]at ff1 ff2 ff3;have afn:i2<(l.set i2 {y with uK:=(dh:Nat)}).length:=by rw[aW];exact EI
       have aya:(l.set i2 {y with uK:=(dh:Nat)}).getD i2 zR={y with uK:=(dh:Nat)}:=by rw[Cz _ _ _ _ _ EI,if_pos rfl]
       have q2:=T3.out i2 afn 2 (by omega);have q3:=T3.out i2 afn 3 (by omega);have q4:=T3.out i2 afn 4 (by omega);rw[aya]at q2 q3 q4;rw[Tr.alN]at q2;rw[Tr.atb]at q3;rw[Tr.atc]at q4;simp only[E2.out,E3.out,E6.out]at q2 q3 q4;have CT:=ah (fun(w2:au) (gI:dL w2 tb c3) (kF:dL w2 sb d1)=>ahW tb sb (i2*5) i2 n cn (o.getD i2 0) (s.getD i2 0) x f c3 d1 m.sl w2 gI kF HNE.out q2 q3 q4 HS.out MOK.out.sll hn LA hcn (HO.out i2 fP) (HS'.out i2 fP) (HL.out.first hiq (by rw[<-HYL.out];exact E6.out) ff2) ff1
        (fun t _ ht=>of_decide_eq_false (ff3 t ht)) (of_decide_eq_true ff2))
       have HL3:=ah (show FiL g n q o s (jN g n q (IW o s n) (J2+1)) ((l.set i2 {y with uK:=(dh:Nat)}).set i2 {y with uK:=(dh:Nat),next:=(f+1:Nat)})by
        have:=HL.out.high hiq (by rw[<-HCI.out,<-HQI.out,<-HCS.out];exact alQ) (by rw[<-HQI.out];exact hqg) hf ff1 ff3;rw[<-HCI.out,<-HQI.out,<-HCS.out,<-HYL.out,<-HDH.out]at this;rw[HNX.out];exact this)
       have HM3:=ah (show(jN g n q (IW o s n) (J2+1)).sl=m.sl.set (rO (o.getD i2 0) (s.getD i2 0) n f) i2/\(jN g n q (IW o s n) (J2+1)).left=m.left-1 by
        rw[HNX.out];unfold sO;rw[if_neg (by rw[<-HCI.out,<-HQI.out,<-HCS.out];exact alQ),<-hf];exact⟨rfl,rfl⟩)
       have T4:=ah (T3.out.put (j:=4) afn (by omega) (.int .i64 (f+1:Nat)) {y with uK:=(dh:Nat),next:=(f+1:Nat)} (by rw[aya];exact Tr.aps _ _));obtain⟨lf2,aCJ⟩:∃lf2,lf2=m.left-1:=⟨_,rfl⟩
       have hmn:m.left<=n:=by
        have:=MOK.out.fr;have h1:=MOK.out.sll;have h2:=List.countP_le_length (p:=fun x:Int=>decide (x = -1)) (l:=m.sl);unfold Jv at this;omega
       have s5:(m.left:Int)-1=lf2:=by omega
       have s6:=jU (lf2:Int) (by omega);rw[<-aCJ]at HM3;clear alQ ff1 ff2 ff3 hf aya q2 q3 q4 afn aCJ hmn;by_cases hz:lf2=0
       ·have aIZ:=ah (show Fp n q (IW o s n)=m.sl.set (rO (o.getD i2 0) (s.getD i2 0) n f) i2 by
         have hK:K=J2+1:=by
          rcases bf (J2+1) K with h1|h1
          ·have:=HK2.out _ h1
           rw[HM3.out.2]at this;exact absurd hz this
          ·omega
         rw[HK3.out,hK,HM3.out.1])
        subst hz;go_wp2_with (go_at_call 169;(with_reducible refine(CT.out _ X3.out X4.out).mono ?_);rintro e w3 ⟨rfl,ht1,ht2,ht3⟩;have X5:=ah ht2;have F5:=ah (F3.out.qh ht3);clear ht1 ht2 ht3)
        try rw[Exit.noGoto_normal]
        go_end0;exact⟨rfl,⟨_,X5.out,by rw[aIZ.out];exact HS.out.set _⟩,F5.out⟩
       ·have wX:¬(lf2:Int)=0:=by omega
        have aI0:=ah (show J2+1<K by
         rcases bf (J2+1) K with h1|h1
         ·exact h1
         ·exfalso
          have:J2+1=K:=by omega
          have h2:=HM3.out.2;rw[this,HK1.out]at h2;omega)
        go_wp2_with (go_at_call 169;(with_reducible refine(CT.out _ X3.out X4.out).mono ?_);rintro e w3 ⟨rfl,ht1,ht2,ht3⟩;have X5:=ah ht1;have X6:=ah ht2;have F5:=ah (F3.out.qh ht3);clear ht1 ht2 ht3);go_roundw
        case rel=>exact⟨i2+1,J2+1,by omega,by go_num,by rw[HJ2.out];omega,aI0.out,by rw[HM3.out.2],_,_,_,HL3.out,T4.out,by rw[HM3.out.1];exact HS.out.set _,X5.out,X6.out,F5.out⟩
        case measure=>simp[intOf]<;>omega
     ·have aCK:i2=k:=by omega
      have hd2:decide ((i2:Int)<k)=false:=by simp;omega
      have HJR:=ah (show J2=(r+1)*k by rw[HJ2.out,HJ.out,aCK,Nat.add_mul];omega);have HLS:=ah (show m.left<lf by
       obtain⟨i0,oz,hgi⟩:=DN (q:=q) (by intro e;have:=HKQ.out;rw[e]at this;simp at this;omega) HQP.out;rw[HG.out]at hgi;have hp:=abH (g:=g) (n:=n) (q:=q) (ch:=IW o s n) oz hgi r;rw[HKQ.out,<-HJR.out,<-HJ.out,<-HLF.out,<-HM.out]at hp;have h1:=HK2.out J hJK;rw[<-HLF.out]at h1;omega)
      have aI1:=ah (show FiS g n q o s tb sb W J2 wr from⟨l,c1,d1,by rw[<-HM.out];exact hL,hT,by rw[<-HM.out];exact hS,gI,kF,Au⟩);clear hL hT hS gI kF Au aCK;go_wp2;go_roundw
      case rel=>exact⟨J2,r+1,HJR.out,aCI,by rw[HM.out],aI1.out⟩
      case measure=>have:=HLS.out;simp[intOf]<;>omega
end
def atg(l:List o9):Prop:=Ya l/\(∀x∈l,0<=x.q/\x.q<=1024000)/\l.length<=1024
theorem Ya.ne{l:List o9}(h:Ya l){j:Nat}(hj:j+1<l.length):(l.getD j lu).name≠(l.getD (j+1) lu).name:=by
 have:=fQ.1 h j (j+1) (by omega) hj (by omega);rw[av,av,aD (by omega),aD hj,jy,jy];intro e;rw[e,sP]at this;cases this
theorem aaX{B:Nat}{w W:au}(h:aN B w W)(q:Nat):aN B w (W.drewN q):=⟨h.os,h.tape,h.output,h.size,h.block⟩
theorem alR(l:List o9)(hk:atg l)(A:Option aU)(n c:Nat)(w:au)(hR:iO o9.aA 2 w w.heap.size A n l):
 aR aj 82 #[.slice A n c] w (gP w (.bool true)):=by
 have hl:=hR.1;have hn:n<=1024:=by have:=hk.2.2;omega
 have HK:=ah hk;have HR:=ah hR;have HL:=ah hl;clear hk hl;go_enter Tryz.func82,Tryz.ntmps82;go_wp2;go_loopw [7] (fun i wr=>∃k:Nat,k<=n/\i=.int .i64 k/\aN w.heap.size w wr)
  (fun i _=>n-(intOf i).toNat)
 case atStart=>exact⟨0,Nat.zero_le _,rfl,Below.refl _ _⟩
 case round=>
  obtain⟨k,YB,rfl,MP⟩:=hrel;have HN:=ah MP;by_cases fP:k<n
  ·have KO:(k:Int)<n:=by omega
   have R1:=ah (HR.out.below HN.out);obtain⟨b,o,hA,Cb,hh,hc⟩:=iO.fE o9.BU lu R1.out fP;subst hA;obtain⟨x,hx⟩:∃x,x=l.getD k lu:=⟨_,rfl⟩
   rw[<-hx]at hc;have hxm:x∈l:=by rw[hx,av,aD (by rw[HL.out];omega),jy];exact eO _
   obtain⟨q1,q2⟩:=HK.out.2.1 x hxm;have t1:decide (x.q<0)=false:=by simp;omega
   have t2:decide (x.q>1024000)=false:=by simp;omega
   have t3:decide (1024000<x.q)=false:=by simp;omega
   have HX:=ah hx;have jB:=MP.size;have qd:=ah (MP.alloc (by omega) (.cells x.aA 151));have bx:=ah (dL.new wr x.aA 151);have f0:∀i,(wr.alloc (.cells x.aA 151)).cell? ⟨wr.heap.size,i,none⟩=x.aA[i]?:=bx.out.aI.1;have s0:=(f0 0).trans (o9.zX x);have s1:=(f0 1).trans (o9.as6 x);have i3:=jU ((k:Int)+1) (by omega);clear hx Cb MP hxm f0 q1 q2 jB;by_cases h0:0<k
   ·obtain⟨j,hj⟩:∃j,k=j+1:=⟨k-1,by omega⟩
    obtain⟨b2,o2,hA2,adW,hcj⟩:=iO.cell o9.BU lu ((HR.out.below HN.out).alloc (by have:=HN.out.size;omega) (.cells x.aA 151)) (show j<n by omega);obtain⟨y,hy⟩:∃y,y=l.getD j lu:=⟨_,rfl⟩
    have pY:y.name≠x.name:=by
     rw[hy,HX.out,hj];exact HK.out.1.ne (by rw[HL.out];omega)
    rw[<-hy]at hcj;cases hA2;have c0:=(hcj 0 (by omega)).trans (o9.zX y);rw[nI]at c0;have t4:decide ((k:Int)>0)=true:=by simp;omega
    have t5:decide (0<k)=true:=by simp;omega
    have t6:(y.name==x.name)=false:=by simpa using pY
    have i1:(k:Int)-1=(j:Int):=by omega
    have i2:=jU (j:Int) (by omega);have i4:(j:Int)<n:=by omega
    clear hcj hy pY hj h0 adW;go_wp2_with fail;go_quiet (fail);go_wp2;go_roundw
    case rel=>exact⟨k+1,by omega,by simp,aaX qd.out _⟩
    case measure=>simp[intOf];omega
   ·have t4:decide ((k:Int)>0)=false:=by simp;omega
    have t5:decide (0<k)=false:=by simp;omega
    clear h0;go_wp2_with fail;go_quiet (fail);go_wp2;go_roundw
    case rel=>exact⟨k+1,by omega,by simp,aaX qd.out _⟩
    case measure=>simp[intOf];omega
  ·obtain rfl:k=n:=by omega
   have hd:decide ((k:Int)<k)=false:=by simp
   have t1:decide ((k:Int)<=1024)=true:=by simp;omega
   go_wp2;go_ret;exact⟨rfl,HN.out⟩
theorem alS(x y:Nat)(hx:x<18446744073709551616)(hy:y<18446744073709551616)(w:au):
 aR aj 242 #[.int .u64 x,.int .u64 y] w fun e w'=>e=.returned (.tuple #[.int .u64 ((x*y/18446744073709551616:Nat):Int),.int .u64 ((x*y%18446744073709551616:Nat):Int)])/\w=w':=by
 obtain⟨bd,bt,bw,hhi⟩:=Lib.mul64_hi x y hx hy;have ba:=Lib.half_mul_le (a:=x/4294967296) (b:=y/4294967296) (by omega) (by omega);have bb:=Lib.half_mul_le (a:=x/4294967296) (b:=y%4294967296) (by omega) (by omega);have bc:=Lib.half_mul_le (a:=x%4294967296) (b:=y/4294967296) (by omega) (by omega);have ba':x/4294967296*(y/4294967296)<18446744073709551616:=by omega
 have bb':x/4294967296*(y%4294967296)<18446744073709551616:=by omega
 have bc':x%4294967296*(y/4294967296)<18446744073709551616:=by omega
 have bh1:x/4294967296*(y/4294967296)+(x/4294967296*(y%4294967296)+x%4294967296*(y%4294967296)/4294967296)/4294967296<18446744073709551616:=by omega
 have bh:x/4294967296*(y/4294967296)+(x/4294967296*(y%4294967296)+x%4294967296*(y%4294967296)/4294967296)/4294967296+((x/4294967296*(y%4294967296)+x%4294967296*(y%4294967296)/4294967296)%4294967296+x%4294967296*(y/4294967296))/4294967296<18446744073709551616:=by
  rw[hhi];have:=gU (show x<=18446744073709551615 by omega) (show y<=18446744073709551615 by omega);omega
 go_enter Tryz.func242,Tryz.ntmps242;go_wp2;simp only[Mul64.maskN x hx,Mul64.maskN y hy,Mul64.divN,Mul64.mulN,Mul64.addN,Mul64.wrapN _ bd,Mul64.wrapN _ bb',Mul64.wrapN _ bt,Mul64.maskN _ bt,Mul64.wrapN _ bc',Mul64.wrapN _ bw,Mul64.wrapN _ ba',Mul64.wrapN _ bh1,Mul64.wrapN _ bh,Mul64.wrapM];rw[hhi];go_ret2;exact⟨rfl,rfl⟩
theorem ati(x y:Nat)(hx:x<18446744073709551616)(hy:y<18446744073709551616)(w:au):
 aR aj 168 #[.int .u64 x,.int .u64 y] w fun e w'=>e=.returned (.tuple #[.int .u64 ((x*y/18446744073709551616:Nat):Int),.int .u64 ((x*y%18446744073709551616:Nat):Int)])/\w=w':=by
 have C:=ah (alS x y hx hy w);go_enter Tryz.func168,Tryz.ntmps168;go_wp2_with (go_at_call 242;(with_reducible refine C.out.mono ?_);rintro e w1 ⟨rfl,rfl⟩);go_ret2;exact⟨rfl,rfl⟩
theorem mul_one(n:Nat)(hn:n<=1000000)(w:au):
 aR aj 168 #[.int .u64 1,.int .u64 n] w fun e w'=>e=.returned (.tuple #[.int .u64 0,.int .u64 n])/\w=w':=by
 refine(ati 1 n (by decide) (by omega) w).mono ?_;rintro e w1 ⟨rfl,rfl⟩;have e1:1*n/18446744073709551616=0:=by omega
 have e2:1*n%18446744073709551616=n:=by omega
 rw[e1,e2];exact⟨rfl,rfl⟩
theorem ajE(w:au)(n:Nat)(hn:n<=1000000):(yh 70 (.int .i64 n) (.int .i64 n)).run aj w=.ok (.slice (some ⟨w.heap.size,0,none⟩) n n) (w.alloc (.cells (madeCells #[.int .i64 0] n) 3)):=by
 obtain⟨i,h1,h2,h3,h4⟩:=Dc (P:=aj) (e:=3) (z:=.int .i64 0) (size:=1) (bytes:=8) (by kernel_rfl);have:=run_make w 70 3 i _ oq h1 h2 .i64 .i64 (n:Int) (n:Int) (by omega) (by omega) (by rw[h4];omega) (by omega);rw[dQ,h3,gF]at this;exact this
theorem ahY{w:au}{ops:Array iV}{rest:List iV}{o:iV}{a:re}{Q:Aq->re->au->Prop}(hg:o.guard=none)(l c:pQ)(IU:o.op=Op.makeSlice 70 l c)
 (n:Nat) (hl:a.eval l=.int .i64 n) (hc:a.eval c=.int .i64 n) (hn:n<=1000000)
 (hK:wpList aj ops Q rest (a.put o.dst (.slice (some ⟨w.heap.size,0,none⟩) n n)) (w.alloc (.cells (madeCells #[.int .i64 0] n) 3))):wpList aj ops Q (o::rest) a w:=by
 refine tu hg fun K hK'=>?_
 unfold nD;simp[execOp,IU,hl,hc,ajE w n hn,iD];exact hK' _ _ hK
theorem ajF(W:au){y z m dl dc sl sc:Nat}{a:aU}{vs:List aC}(hm:vs.length=m)(Dg:m=qA sl dl)(QD:∀j v,vs[j]? = some v->W.cell? (a.add j)=some v)(hth:W.there y z m)(h1:∀v∈vs,v.oneCell'=true)(ty:bM):
 (Builtin.copy_ #[70,70] ty #[.slice (some ⟨y,z,none⟩) dl dc,.slice (some a) sl sc]).run aj W=.ok (goInt m) (W.setCells y z vs):=by
 have:=run_copy_cells (P:=aj) W 70 70 ty 3 y z dl dc a sl sc vs oq (by kernel_rfl) (by rw[hm,Dg]) QD (fun j hj=>(hth j (by rw[<-hm];exact hj)).1) (fun j hj=>(hth j (by rw[<-hm];exact hj)).2) h1;rw[hm]at this;exact this
theorem ahZ{w:au}{ops:Array iV}{rest:List iV}{o:iV}{a:re}{Q:Aq->re->au->Prop}(Gl:o.guard=none)(d s:pQ)
 (ho:o.op=.call {callee:=.builtin .copy,args:=#[d,s],argTypes:=#[70,70]}) {y z m dl dc sl sc:Nat} {dp:Option aU} {b:aU} {vs:List aC} (hdp:dp=some ⟨y,z,none⟩) (hd:a.eval d=.slice dp dl dc) (hs:a.eval s=.slice (some b) sl sc)
 (hm:vs.length=m) (Dg:m=qA sl dl) (QD:∀j v,vs[j]? = some v->w.cell? (b.add j)=some v) (hth:w.there y z m) (h1:∀v∈vs,v.oneCell'=true)
 (h:wpList aj ops Q rest (a.put o.dst (goInt m)) (w.setCells y z vs)):wpList aj ops Q (o::rest) a w:=by
 subst hdp;refine tu Gl fun K hK=>?_
 unfold nD;simp[execOp,ho,resolve,invoke,builtin,hd,hs,ajF w hm Dg QD hth h1,iD];exact hK _ _ h
theorem apv{w:au}{ops:Array iV}{o:iV}{a:re}{K:re->au->Prop}{Q:Aq->re->au->Prop}{E:Prop}(Gl:o.guard=none)(d s:pQ)
 (ho:o.op=.call {callee:=.builtin .copy,args:=#[d,s],argTypes:=#[70,70]}) {y z m dl dc sl sc:Nat} (dp:Option aU) {b:aU} {vs:List aC} (hdp:dp=some ⟨y,z,none⟩) (hd:a.eval d=.slice dp dl dc) (hs:a.eval s=.slice (some b) sl sc)
 (hm:vs.length=m) (Dg:m=qA sl dl) (QD:∀j v,vs[j]? = some v->w.cell? (b.add j)=some v) (hth:w.there y z m) (h1:∀v∈vs,v.oneCell'=true)
 (h:K (a.put o.dst (goInt m)) (w.setCells y z vs)):if fC o (yielded ops a.tmps)=true then nD aj o a w K Q else E:=by
 subst hdp;have hw:fC o (yielded ops a.tmps)=true:=by simp[fC,Gl]
 rw[if_pos hw];unfold nD;simp[execOp,ho,resolve,invoke,builtin,hd,hs,ajF w hm Dg QD hth h1,iD];exact h
section
attribute [local go_sem high] iT jG
theorem apw(n:Nat)(h:n<18446744073709551616):jr.wrap (n:Int)=(n:Int):=Mul64.wrapN n h
theorem ah0(n:Nat)(hn:1<=n)(LA:n<=100000)(b cx:Nat)(v:Int)(w:au)(hx:dL w b #[.int .i64 v]):
 aR aj 84 #[.slice (some ⟨b,0,none⟩) 1 cx,.int .i64 n] w fun e w'=>∃g d,w.heap.size<=g/\e=.returned (.slice (some ⟨g,0,none⟩) n n)/\dL w' g d/\d.size=n/\SlA d (dU n v)/\aN w.heap.size w w':=by
 have MU:=ah (fun w=>mul_one n (by omega) w);have hnI:(1:Int)<=n:=by omega
 have t1:decide ((n:Int)<0)=false:=by simp
 have t2:decide ((n:Int)>9223372036854775807)=false:=by simp;omega
 have t3:decide ((9223372036854775807:Int)<n)=false:=by simp;omega
 have t4:decide (9223372036854775807<n)=false:=by simp;omega
 have u1:=apw n (by omega);have i1:=jU (n:Int) (by omega);obtain⟨d0,hd0⟩:∃d0,d0=madeCells #[.int .i64 0] n:=⟨_,rfl⟩
 have D0:=ah (show d0.size=n by rw[hd0];exact size_madeCells _ _);have HD0:=ah hd0;obtain⟨g,hg⟩:∃g,g=w.heap.size:=⟨_,rfl⟩
 have BG:=ah (show dL (w.alloc (.cells d0 3)) g d0 by rw[hg];exact dL.new w d0 3);have BX:=ah (hx.alloc (.cells d0 3));have HG:=ah hg;have HLT:=ah (show b≠g by rw[hg];exact Nat.ne_of_lt hx.lt);have BL:=ah ((Below.refl w.heap.size w).alloc (ay _) (.cells d0 3));have SRC:=ah (show∀j u,[(.int .i64 v:aC)][j]? = some u->(w.alloc (.cells d0 3)).cell? ((⟨b,0,none⟩:aU).add j)=some u by
  intro j u hu;have:=BX.out.aI.1 j;cases j with
  | zero=>simpa[Addr.add]using this.trans hu
  | succ j=>simp at hu)
 have TH:=ah (BG.out.there 0 1 (by rw[D0.out];omega));have MK:=ah (ajE w n (by omega));clear hd0 hg;go_enter Tryz.func84,Tryz.ntmps84;go_wp2_with (first|(go_at_call 168;(with_reducible refine(MU.out _).mono ?_);rintro e w1 ⟨rfl,rfl⟩)|(refine ahY rfl (.tmp 29) (.tmp 29) rfl n rfl rfl (by omega) ?_;rw[<-HD0.out,<-HG.out];generalize hww:w.alloc (.cells d0 3)=w1 at BG BX BL SRC TH⊢;clear hww)|(refine ahZ rfl (.tmp 31) (.tmp 32) rfl (y:=g) (z:=0) (m:=1) (vs:=[.int .i64 v]) rfl rfl rfl rfl (by show 1=min 1 n;omega) SRC.out TH.out (by simp[cK]) ?_));have B1:=ah (BG.out.setCells 0 [.int .i64 v]);have L1:=ah (yB (B:=w.heap.size) (Nat.le_of_eq HG.out.symm) [.int .i64 v] 0 _ BL.out);clear SRC TH MU;go_loopw [8] (fun i wr=>∃(k:Nat)(d:Array aC),1<=k/\k<=n/\i=.int .i64 k/\dL wr g d/\d.size=n/\(∀j,j<k->d[j]? = some (.int .i64 v))/\aN w.heap.size w wr)
  (fun i _=>n-(intOf i).toNat)
 case atStart=>
  refine⟨1,_,ay _,hn,rfl,B1.out,by rw[Zt,D0.out],fun j hj=>?_,L1.out⟩;obtain rfl:j=0:=by omega
  rw[EL,if_pos ⟨by omega,by simp,by rw[D0.out];omega⟩];rfl
 case round=>
  obtain⟨k,d,hk1,YB,rfl,hb,hds,mV,ac4⟩:=hrel;by_cases fP:k<n
  ·have KO:(k:Int)<n:=by omega
   have aRe:(k:Int)<=n:=by omega
   obtain⟨m,hm⟩:∃m,m=qA k (n-k):=⟨_,rfl⟩
   have Dg:m<=k/\0<m/\k+m<=n:=by have e:qA k (n-k)=min k (n-k):=rfl;rw[e]at hm;omega
   obtain⟨k2,YU⟩:∃k2,k2=k+m:=⟨_,rfl⟩
   have i2:(k:Int)+(m:Int)=(k2:Int):=by omega
   have i3:=jU (k2:Int) (by omega);have SRC:=ah (show∀j u,(dU m (.int .i64 v:aC))[j]? = some u->wr.cell? ((⟨g,0,none⟩:aU).add j)=some u by
    intro j u hu;have h1:=hb.aI.1 j;rw[List.getElem?_replicate]at hu;split at hu
    ·rename_i hj
     rw[mV j (by omega)]at h1;injection hu with hu
     subst hu;by_cases h0:j=0
     ·subst h0;simpa[Addr.add]using h1
     ·simpa[Addr.add,h0]using h1
    ·cases hu)
   have TH:=ah (hb.there k m (by rw[hds];omega));have HM:=ah (show m=qA k (n-k)from hm);have HC:=ah (show vP (some ⟨g,0,none⟩) k n 1=some ⟨g,k,none⟩from RZ (n:=0) fP);have HR:=ah (show(dU m (.int .i64 v:aC)).length=m by simp);have HO:=ah (show∀u∈dU m (.int .i64 v:aC),u.oneCell'=true from fun u hu=>by rw[List.eq_of_mem_replicate hu];rfl);have HB:=ah hb;have HDS:=ah hds;have aI2:=ah mV;have aI3:=ah ac4;have HK2:=ah YU;have HM2:=ah Dg;clear hm hb hds mV ac4 YU Dg;go_wp2_with fail;go_region_held_law (fun _=>True) (trivial)
    (first|(refine apv (o:=⟨some 45,_,_,_,_,_⟩) rfl (.tmp 41) (.tmp 44) rfl (y:=g) (z:=k) (m:=m) (vs:=dU m (.int .i64 v)) (vP (some ⟨g,0,none⟩) k n 1) HC.out rfl rfl HR.out HM.out SRC.out TH.out HO.out ?_))
   go_wp2;go_roundw
   case rel=>
    refine⟨k2,_,by have:=HM2.out;have:=HK2.out;omega,by have:=HM2.out;have:=HK2.out;omega,rfl,HB.out.drew.setCells k _,by rw[Zt,HDS.out],fun j hj=>?_,yB (Nat.le_of_eq HG.out.symm) _ _ _ aI3.out.drew⟩;have h1:=HK2.out;have h2:=HM2.out;rw[EL];split
    ·rename_i h3
     simp at h3;have:j-k<m:=by omega
     simp[this]
    ·rename_i h3
     simp at h3;refine aI2.out j ?_;rcases bf j k with h4|h4
     ·exact h4
     ·have h6:=h3 h4 (by omega)
      have h7:=HDS.out;omega
   case measure=>
    have h1:=HK2.out;have h2:=HM2.out;simp only[intOf,dQ];omega
  ·obtain rfl:k=n:=by omega
   have hd:decide ((k:Int)<k)=false:=by simp
   have HB:=ah hb;go_wp2;go_ret;exact⟨g,d,Nat.le_of_eq HG.out.symm,rfl,HB.out,hds,fun j hj=>by
    rw[oU]at hj;rw[mV j hj,av,List.getElem?_replicate,if_pos hj];rfl,ac4⟩
end
section
variable {W W':au} {q g:Nat} {key:Vector UInt8 16} {dR:Int} {s:List (Option Fw)}
theorem Gh.aCM(h:Gh W q g key dR s):(yt 22 (.pointer (some ⟨q,0,none⟩))).run aj W=.ok (.agg (iU key)) W:=by
 obtain⟨_,_,_,_,h5,h6⟩:=h.aI;rw[XV.ld W q 0 h6,h5]
theorem Gh.lt(h:Gh W q g key dR s):q<W.heap.size/\g<W.heap.size:=⟨h.tb.lt,h.sl.lt⟩
theorem Ye(T:Gh W q g key dR s)(k:Tu)(hk:xJ k):
 aR aj 200 #[.pointer (some ⟨q,0,none⟩),.agg k.aA] W (gP W (.int .i64 (hmK key s.length k:Nat))):=by
 have T0:=ah (T.alloc (.cells k.aA 81));have X0:=ah (dL.new W k.aA 81);have B0:=ah ((Below.refl W.heap.size W).alloc (ay _) (.cells k.aA 81));obtain⟨N,hN⟩:∃N,N=s.length:=⟨_,rfl⟩
 obtain⟨h,hh⟩:∃h,h=yF key (NA k):=⟨_,rfl⟩
 have HM:=ah (show hmK key s.length k=h%N by unfold hmK;rw[hN,hh]);have jB:=T.sz;rw[<-hN]at jB;have C0:=ah (fun W=>TM key k hk W);rw[<-hh]at C0;have HN:=ah hN;clear hN hh T;obtain⟨r,hr⟩:∃r,r=h%N:=⟨_,rfl⟩
 have hrl:r<N:=by rw[hr];exact fD _ (by omega)
 have e1:(h:Int)%(N:Int)=(r:Int):=by rw[hr];omega
 have e2:Int.tmod (h:Int) (N:Int)=(r:Int):=by rw[Int.tmod_eq_emod_of_nonneg (by omega)];exact e1
 have u1:=apw N (by omega);have u2:=apw r (by omega);have i1:=jU (N:Int) (by omega);have i2:=jU (r:Int) (by omega);have z1:¬(N:Int)=0:=by omega
 have z2:¬N=0:=by omega
 rw[<-hr]at HM;clear hr;rw[HM.out];go_enter Tryz.func200,Tryz.ntmps200;go_upto_region 1 with fail
 generalize W.alloc (.cells k.aA 81)=w1 at T0 X0 B0 ⊢;obtain⟨T,f,n0,E0,es,ew⟩:=yg (w1);have hT:Nonempty T:=⟨n0⟩
 have ES:=ah es;have EW:=ah ew;have l1:=fun m=>(T0.out.go (es m)).aCM
 have l2:=fun m=>pO (X0.out.go (es m))
 have l3:∀m,(f m).cell? ⟨q,18,none⟩=some (.slice (some ⟨g,0,none⟩) N N):=fun m=>by rw[HN.out];exact(T0.out.go (es m)).aI.1
 clear es ew;refine pK f (by kernel_rfl) (by kernel_rfl) n0 E0 ?_
 repeat(go_big_quiet_step ((first|(go_at_call 36;(with_reducible refine(C0.out _).mono ?_);rintro e w2 ⟨rfl,hb⟩;exact⟨rfl,EW.out _ ((ES.out _).trans (hb.mono (ES.out _).size))⟩))))
 refine wpQuiet_nil ?_;rintro _ ⟨m',rfl⟩;have HB:=ah (ES.out m');generalize f m'=wN at *;clear ES EW E0 hT n0;clear l1 l2 l3;go_wp2;go_ret;exact⟨rfl,ji B0.out HB.out⟩
theorem C8(T:Gh W q g key dR s)(k:Tu)(hk:xJ k)(d:Nat)(hd:Found (hmK key s.length) Fw.key s k d):
 aR aj 129 #[.pointer (some ⟨q,0,none⟩),.agg k.aA] W (gP W (.int .i64 ((hmK key s.length k+d)%s.length:Nat))):=by
 have T0:=ah (T.alloc (.cells k.aA 81));have X0:=ah (dL.new W k.aA 81);have B0:=ah ((Below.refl W.heap.size W).alloc (ay _) (.cells k.aA 81));have jB:=T.sz;have HD:=ah hd;obtain⟨h,hh⟩:∃h,h=hmK key s.length k:=⟨_,rfl⟩
 have hhl:h<s.length:=by rw[hh];exact fD _ (by omega)
 have C0:=ah (fun(W:au) (T:Gh W q g key dR s)=>Ye T k hk);rw[<-hh]at C0;have HH:=ah hh;obtain⟨N,hN⟩:∃N,N=s.length:=⟨_,rfl⟩
 rw[<-hN]at jB hhl;have HN:=ah hN;clear T hd hh hN;go_enter Tryz.func129,Tryz.ntmps129;go_upto_region 1 with fail
 generalize W.alloc (.cells k.aA 81)=w1 at T0 X0 B0 ⊢;have l0:=pO X0.out;go_wp2_with (go_at_call 200;(with_reducible refine(C0.out _ T0.out).mono ?_);rintro e w2 ⟨rfl,hb⟩;have T2:=ah (T0.out.go hb);have X2:=ah (X0.out.go hb);have B2:=ah (ji B0.out hb);clear hb l0);go_loopw [5] (fun v wr=>∃j:Nat,j<=d/\v=.int .i64 ((h+j)%N:Nat)/\aN w2.heap.size w2 wr)
  (fun v wr=>((h+d)%N+N-(intOf v).toNat)%N)
 case atStart=>exact⟨0,Nat.zero_le _,by rw[nI,fM hhl],Below.refl _ _⟩
 case round=>
  obtain⟨j,hj,rfl,hbw⟩:=hrel;have HB:=ah hbw;have hdN:d<N:=by rw[HN.out];exact HD.out.1
  obtain⟨i,hi⟩:∃i,i=(h+j)%N:=⟨_,rfl⟩
  have hil:i<N:=by rw[hi];exact fD _ (by omega)
  have TR:=ah (T2.out.go hbw);have b1:xS wr W.heap.size 0 37:=of_eq_true ((X2.out.go hbw).aI.2.2.1 0 37 (by rw[Tu.eu];omega));have b2:dY wr W.heap.size 0 37=k.aA:=by rw[(X2.out.go hbw).aI.2.2.2 0 37 (by rw[Tu.eu];omega)];exact Tu.kg k
  have l2:wr.cell? ⟨q,18,none⟩=some (.slice (some ⟨g,0,none⟩) N N):=by rw[HN.out];exact TR.out.aI.1
  obtain⟨a1,a2,a3,a4,a5,a6,a7⟩:=TR.out.XP (show i<s.length by rw[<-HN.out];exact hil);rw[<-hi];have hii:(i:Int)<N:=by omega
  obtain⟨i1,hi1⟩:∃i1,i1=i+1:=⟨_,rfl⟩
  have e0:(i:Int)+1=(i1:Int):=by omega
  have w0:=jU (i1:Int) (by omega);obtain⟨i2,Qw⟩:∃i2,i2=i1%N:=⟨_,rfl⟩
  have aRf:i2<N:=by rw[Qw];exact fD _ (by omega)
  have e1:(i1:Int)%(N:Int)=(i2:Int):=by rw[Qw];omega
  have e2:Int.tmod (i1:Int) (N:Int)=(i2:Int):=by rw[Int.tmod_eq_emod_of_nonneg (by omega)];exact e1
  have w2':=jU (i2:Int) (by omega);have z1:¬(N:Int)=0:=by omega
  have z2:¬N=0:=by omega
  have HI:=ah hi;have HI2:=ah (show i2=(h+(j+1))%N by rw[Qw,hi1,hi,Nat.mod_add_mod,ny]);clear a2 a3 a5 a6 hi hi1 Qw hbw;have HST:=ah (show stops (kf:=Fw.key) s k i=true->j=d from fun h1=>by
   rcases bf j d with h2|h2
   ·have h3:=HD.out.2.2 j h2
    rw[<-HH.out,<-HN.out,<-HI.out,h1]at h3;cases h3
   ·omega)
  have Ej:=ah (show stops (kf:=Fw.key) s k i=false->j<d from fun h1=>by
   rcases bf j d with h2|h2
   ·exact h2
   ·have h3:=HD.out.2.1
    obtain rfl:j=d:=by omega
    rw[<-HH.out,<-HN.out,<-HI.out,h1]at h3;cases h3)
  cases wJ:fE s i with
  | none=>
    rw[wJ]at a1 a4;have HE:=ah (HST.out (by unfold stops;rw[wJ]));clear a4 a7 wJ
    replace a1:wr.cell? ⟨g,i*42,none⟩=some (.bool false):=a1
    go_wp2_with fail;go_quiet (fail);go_wp2;go_ret;refine⟨?_,?_⟩
    ·rw[<-HH.out,<-HN.out,<-HE.out,<-HI.out];rfl
    ·exact fI (ji B2.out HB.out) _
  | some x=>
    rw[wJ]at a1 a4
    replace a1:wr.cell? ⟨g,i*42,none⟩=some (.bool true):=a1
    replace a4:dY wr g (i*42+1) 37=x.key.aA:=a4
    by_cases hxk:x.key=k
    ·have HE:=ah (HST.out (by unfold stops;rw[wJ];simp[hxk]))
     have t1:decide (x.key=k)=true:=by simp[hxk]
     clear hxk wJ;go_wp2_with fail;go_quiet (fail);go_wp2;go_ret;refine⟨?_,?_⟩
     ·rw[<-HH.out,<-HN.out,<-HE.out,<-HI.out];rfl
     ·exact fI (ji B2.out HB.out) _
    ·have HE:=ah (Ej.out (by unfold stops;rw[wJ];simp[hxk]))
     have t1:decide (x.key=k)=false:=by simp[hxk]
     clear hxk wJ;go_wp2_with fail;go_quiet (fail);go_wp2;go_roundw
     case rel=>exact⟨j+1,HE.out,by rw[HI2.out],fI HB.out _⟩
     case measure=>
      have h1:=HE.out;have e3:=wY (N:=N) (a:=h+d) (by omega);have e4:=HI.out;rw[wY (N:=N) (a:=h+j) (by omega)]at e4;have e5:=HI2.out;rw[wY (N:=N) (a:=h+(j+1)) (by omega)]at e5;simp only[intOf,dQ];rw[e3];generalize hM:(if h+d<N then h+d else h+d-N)=M;have hM2:M<N:=by rw[<-hM];split<;>omega
      rw[wY (N:=N) (a:=M+N-i2) (by omega),wY (N:=N) (a:=M+N-i) (by omega)];rw[e4,e5,<-hM]
      repeat' split
      all_goals omega
end
section
variable {W W':au} {q g:Nat} {key:Vector UInt8 16} {dR:Int} {s:List (Option Fw)} {l:List Fw}
theorem kFw:oV 86 41 kQ.aA:=⟨⟨_,mX,rfl⟩,by kernel_rfl,by kernel_rfl,Fw.ak _⟩
theorem aCN(w:au)(fs:Array nV)(h:aj.underlying 86=some (.struct fs)):(iB (fun f=>Prod.mk f.offset <$> sizeOf f.type) fs:Sem (Array (Nat×Nat))).run aj w=.ok #[(0,37),(37,1),(38,1),(39,1),(40,1)] w:=by
 have e:=mX;rw[h]at e;cases e;show _=_
 kernel_rfl
@[go_sem]theorem azU(W:au):(aww #[]).run aj W=.ok (.agg kQ.aA) W:=kFw.bd0 W _ mX ⟨_,aCN W _ mX⟩
structure LH(W:au)(q g:Nat)(key:Vector UInt8 16)(dR:Int)(s:List (Option Fw))(l:List Fw):Prop where
 w:Gh W q g key dR s
 r:TbR (hmK key s.length) s l
 ok:wS dR l
theorem LH.go(h:LH W q g key dR s l)(hb:aN W.heap.size W W'):LH W' q g key dR s l:=⟨h.w.go hb,h.r,h.ok⟩
theorem BZ{t:Tu}(h:Gz t=true):xJ t:=by
 unfold Gz ZC at h;simp only[bl,decide_eq_true_eq]at h;unfold xJ;omega
theorem LH.Xa(h:LH W q g key dR s l)(k:Tu):∃d,Found (hmK key s.length) Fw.key s k d/\fE s ((hmK key s.length k+d)%s.length)=pW l k:=by
 obtain⟨d,hd⟩:=h.r.tab.found k;exact⟨d,hd,h.r.stop h.ok hd⟩
theorem wS.none{dR:Int}(h:wS dR l){k:Tu}(hk:Gz k=false):pW l k=none:=by
 cases hf:pW l k with
 | none=>rfl
 | some x=>
   obtain⟨h1,h2⟩:=xY hf;have:=xg (h.ok x h1);rw[h2,hk]at this;cases this
def apx(o:Option Fw):aC:=.tuple #[.agg (wI o).rz.aA,.bool o.isSome]
theorem La(T:LH W q g key dR s l)(k:Tu):
 aR aj 126 #[.pointer (some ⟨q,0,none⟩),.agg k.aA] W (gP W (apx (pW l k))):=by
 have Z0:=ah (((Bx.start W).new k.aA 81).new kQ.aA 86);rw[show(W.alloc (.cells k.aA 81)).heap.size=W.heap.size+1 by simp]at Z0;have CK:=ah (fun w=>KU k w);obtain⟨ok,Di⟩:∃ok,ok=Gz k:=⟨_,rfl⟩
 rw[<-Di]at CK;have HT:=ah T;have Kv:=ah Di;have HLT:=ah T.w.lt;obtain⟨o,ho⟩:∃o,o=pW l k:=⟨_,rfl⟩
 rw[<-ho];have HO:=ah ho.symm;clear T Di ho;go_enter Tryz.func126,Tryz.ntmps126;go_upto_region 1 with fail
 generalize(W.alloc (.cells k.aA 81)).alloc (.cells kQ.aA 86)=w1 at Z0 ⊢;have l1:=pO Z0.out.b1;have HE:=ah (fun(w':au) (x:Fw) (h:Bx [(W.heap.size+1,kQ.aA),(W.heap.size,k.aA)] W w')=>show dL (Bn w' (W.heap.size+1) 0 x) (W.heap.size+1) x.aA/\aN W.heap.size W (Bn w' (W.heap.size+1) 0 x)from
  have k2:=h.put (fun p hp=>by rw[fO.1 hp];simp) x.aA (by rw[Fw.ak,Fw.ak])
  ⟨k2.b0,k2.dF⟩)
 cases ok
 ·have HN:=ah (HT.out.ok.none Kv.out.symm)
  rw[HO.out]at HN;go_wp2_with (go_at_call 115;(with_reducible refine(CK.out _).mono ?_);rintro e w2 ⟨rfl,hb⟩;have Z2:=ah (Z0.out.go hb);clear hb l1;have zq:=Z2.out.b0.there 0 41 (Nat.le_of_eq (Fw.ak _).symm));refine bodyPost_ret (kFw.qL rfl _ rfl (HE.out _ kQ Z2.out).1 (Fw.ak _)) rfl ?_;exact⟨by rw[HN.out];rfl,(HE.out _ kQ Z2.out).2⟩
 ·go_wp2_with (go_at_call 115;(with_reducible refine(CK.out _).mono ?_);rintro e w2 ⟨rfl,hb⟩;have Z2:=ah (Z0.out.go hb);clear hb l1)
  obtain⟨d,hd,wJ⟩:=HT.out.Xa k;have jB:=HT.out.w.sz;obtain⟨i,hi⟩:∃i,i=(hmK key s.length k+d)%s.length:=⟨_,rfl⟩
  have hil:i<s.length:=by rw[hi];exact fD _ (by omega)
  have CF:=ah (fun(w:au) (h:Bx [(W.heap.size+1,kQ.aA),(W.heap.size,k.aA)] W w)=>C8 (HT.out.w.go h.dF) k (BZ Kv.out.symm) d hd);rw[<-hi]at CF wJ;have HAT:=ah wJ;have HIL:=ah hil;obtain⟨N,hN⟩:∃N,N=s.length:=⟨_,rfl⟩
  have HN:=ah hN;have hii:(i:Int)<N:=by omega
  rw[HO.out]at HAT;clear hd wJ hi hil hN jB;refine RL (Bx.acD ([(W.heap.size+1,kQ.aA),(W.heap.size,k.aA)]) W) 9 10 6 213 Hy.aA (by kernel_rfl) rfl (by kernel_rfl) (by decide) (by decide) (by kernel_rfl) (by kernel_rfl) (by kernel_rfl) rfl rfl rfl (fun a w=>by simp[go_sem]) Z2.out.drew ?_;apply Exists.intro;refine⟨fun T f hT es ew=>?_,?_⟩
  ·have EW:=ah ew
   have ES:=ah es;have l1:=fun m=>pO (ES.out m).b1
   have l2:∀m,(f m).cell? ⟨q,18,none⟩=some (.slice (some ⟨g,0,none⟩) N N):=fun m=>by rw[HN.out];exact(HT.out.w.go (ES.out m).dF).aI.1
   have l3:∀m,xS (f m) g (i*42) 42:=fun m=>((HT.out.w.go (ES.out m).dF).XP HIL.out).2.2.2.2.1
   have l4:∀m,dY (f m) g (i*42) 42=(wI o).aA:=fun m=>by rw[((HT.out.w.go (ES.out m).dF).XP HIL.out).2.1,HAT.out]
   have CG:=ah (fun m=>CF.out (f m) (ES.out m));clear es ew;simp only[kW,List.set_cons_succ,List.set_cons_zero,List.take_succ_cons,jZ]
   repeat(go_big_quiet_step ((first|(go_at_call 129;(with_reducible refine(CG.out _).mono ?_);rintro e w2 ⟨rfl,hb⟩;exact⟨rfl,EW.out _ _ hb⟩))))
   exact wpQuiet_nil rfl
  ·intro w9 w8 Am _ hb
   have ZN:=(Am.new Hy.aA 213).go hb;have hy:=Am.dF.size;have hyW:W.heap.size+1<w9.heap.size:=Am.b0.lt;have ZN:=ah ZN;generalize w9.heap.size=y at *;clear Am hb;simp only[Act.put,List.setIfInBounds_toArray,List.set_cons_succ,List.set_cons_zero,List.drop_succ_cons,List.drop_zero];have pY:=ah (show∀p∈[(W.heap.size+1,kQ.aA),(W.heap.size,k.aA)],p.1≠y from fun p hp=>by simp at hp;rcases hp with rfl|rfl<;>simp<;>omega);have HYW:=ah hyW;clear hyW hy;have zq:=ZN.out.b0.there 0 42 (Nat.le_of_eq (Sl.ak Hy).symm);have Z5:=ah (ZN.out.put pY.out (wI o).aA (by rw[Sl.ak,Sl.ak]));go_step;go_simp;go_step;go_step;clear zq ZN;generalize gT w8 y 0 (wI o).aA=w6 at Z5 ⊢;have b0:=Z5.out.b0;have f1:w6.cell? ⟨y,0,none⟩=some (.bool o.isSome):=by rw[b0.aI.1 0,Sl.P7,J3]
   have f2:xS w6 y 1 41:=of_eq_true (b0.aI.2.2.1 1 41 (by rw[Sl.eu];omega));have f3:dY w6 y 1 41=(wI o).rz.aA:=by rw[b0.aI.2.2.2 1 41 (by rw[Sl.eu];omega)];exact Sl.Vi _
   have zq:=Z5.out.b1.there 0 41 (Nat.le_of_eq (Fw.ak _).symm);have Z7:=ah (show Bx [(W.heap.size+1,(wI o).rz.aA),(y,(wI o).aA),(W.heap.size,k.aA)] W (Bn w6.drew (W.heap.size+1) 0 (wI o).rz)from Z5.out.drew.swap.put (fun p hp=>by have:=HYW.out;simp at hp;rcases hp with rfl|rfl<;>simp<;>omega) (wI o).rz.aA (by rw[Fw.ak,Fw.ak]));have f4:(Bn w6.drew (W.heap.size+1) 0 (wI o).rz).cell? ⟨y,0,none⟩=some (.bool o.isSome):=by rw[Z7.out.b1.aI.1 0,Sl.P7,J3]
   clear b0;go_wp2_with fail;go_region;go_wp2;refine bodyPost_ret (kFw.qL rfl _ rfl Z7.out.b0 (Fw.ak _)) rfl ?_;exact⟨rfl,Z7.out.dF⟩
end
theorem apy(N:Nat):madeCells Hy.aA (N*42)=XM (dU N none):=by
 apply dV;intro j;by_cases hj:j<N*42
 ·have e:j=j/42*42+j%42:=by omega
  have h1:(XM (dU N none))[j]? = (slC (fE (dU N none) (j/42)))[j%42]?:=by
   conv=>lhs;rw[e]
   exact K9 _ _ _ (by rw[oU];omega) (by omega)
  have h2:fE (dU N (none:Option Fw)) (j/42)=none:=by unfold fE;rw[av,List.getElem?_replicate];split<;>rfl
  rw[h1,h2];have h3:Hy.aA.size=42:=Sl.ak _;have h4:j%42<Hy.aA.size:=by omega
  simp only[madeCells,Array.getElem?_map,Array.getElem?_range,h3,hj,if_true,ni];show some Hy.aA[j%42]! = (wI none).aA[j%42]?;show some Hy.aA[j%42]! = Hy.aA[j%42]?;rw[fq h4];congr 1;exact getElem!_pos Hy.aA (j%42) h4
 ·rw[aV (by rw[size_madeCells];omega),aV (by rw[vF,oU];omega)]
theorem apz(w:au)(N:Nat)(hN:N<=100000):(yh 205 (.int .i64 N) (.int .i64 N)).run aj w=.ok (.slice (some ⟨w.heap.size,0,none⟩) N N) (w.alloc (.cells (XM (dU N none)) 213)):=by
 obtain⟨i,h1,h2,h3⟩:=kSl.ahp;have hb:i.bytes<=1000:=by
  have:(aj.info? 213).map (fun i=>decide (i.bytes<=1000))=some true:=by kernel_rfl
  rw[h1]at this;simpa using this
 have:=run_make w 205 213 i _ Tryz.underlying205 h1 h3 .i64 .i64 (N:Int) (N:Int) (by omega) (by omega) (by have h5:=gU hb hN;rw[<-Int.natCast_mul];omega) (by omega);rw[dQ,h2]at this;rw[this];show _=Result.ok _ (w.alloc (.cells _ _));rw[<-apy];rfl
theorem atj(key:Vector UInt8 16):sJ alG.aA 0 (iU key)=iU key ++ #[aJ .i64 0,.int .i64 0,.slice none 0 0]:=by
 show sJ (iU (bG 16 0) ++ #[aJ .i64 0,.int .i64 0,.slice none 0 0]) 0 (iU key)=_;exact Hg (by rw[dK,dK])
@[go_sem]theorem aCO(W:au)(key:Vector UInt8 16)(dR:Int)(A:Option aU)(n c:Nat):(uW 207 #[(0,.agg (iU key)),(1,.int .i64 dR),(3,.slice A n c)]).run aj W=.ok (.agg (Tk.mk key dR 0 A n c).aA) W:=
 kTk.bd W _ _ _ _ Ed (aIF W _ Ed) (by
  show fB _ alG.aA [(0,.agg (iU key)),(1,.int .i64 dR),(3,.slice A n c)]=_;rw[EM _ _ 0 0 16 _ _ rfl (by show(iU key).size=16;rw[dK]) (by rw[Tk.ak];omega)];show fB _ (sJ alG.aA 0 (iU key)) _=_;rw[atj,<-Array.append_empty (xs:=iU key ++ #[aJ .i64 0,.int .i64 0,.slice none 0 0])];rw[oN 1 16 _ _ _ _ rfl rfl (by simp[dK]),oN 3 18 _ _ _ _ rfl rfl (by simp[dK])];simp[fB,Tk.aA,aM,dK])
def aCP(l c:aC):Sem aC:=yh 205 l c
@[go_sem ↓]theorem aFk(l c:aC):yh 205 l c=aCP l c:=rfl
def avc(w:au)(key:Vector UInt8 16)(dR:Int)(e:kX)(w':au):Prop:=
 ∃q g s,e=.returned (.tuple #[.pointer (some ⟨q,0,none⟩),.int .i64 0])/\LH w' q g key dR s []/\dR*2<=s.length/\w.heap.size<=q/\w.heap.size<=g/\aN w.heap.size w w'
theorem alT(key:Vector UInt8 16)(r:Nat)(h1:1<=r)(h2:r<=4096)(w:au):
 aR aj 62 #[.agg (iU key),.int .i64 r] w (avc w key r):=by
 have Z0:=ah ((Bx.start w).new (iU key) 22);have t1:decide ((r:Int)<1)=false:=by simp;omega
 have t2:decide ((r:Int)>4096)=false:=by simp;omega
 have t3:decide ((4096:Int)<r)=false:=by simp;omega
 have t4:decide (4096<r)=false:=by simp;omega
 have t5:decide (r<1)=false:=by simp;omega
 have t6:decide (r=0)=false:=by simp;omega
 obtain⟨r2,Mx⟩:∃r2,r2=2*r:=⟨_,rfl⟩
 have e1:(2:Int)*(r:Int)=(r2:Int):=by omega
 have i1:=jU (r2:Int) (by omega);have HR2:=ah Mx;clear Mx;go_enter Tryz.func62,Tryz.ntmps62;go_upto_region 1 with fail
 generalize w.alloc (.cells (iU key) 22)=w1 at Z0 ⊢;go_wp2;go_loopw [6] (fun v wr=>∃N:Nat,1<=N/\N<=2*r2/\v=.int .i64 N/\wr=w1) (fun v _=>2*r2-(intOf v).toNat)
 case atStart=>exact⟨1,ay _,by have:=HR2.out;omega,rfl,by first|rfl|trivial⟩
 case round=>
  obtain⟨N,hN1,hN2,rfl,rfl⟩:=hrel;have hr:=HR2.out;by_cases fP:N<r2
  ·have KO:(N:Int)<r2:=by omega
   obtain⟨N2,aCQ⟩:∃N2,N2=N*2:=⟨_,rfl⟩
   have e2:(N:Int)*2=(N2:Int):=by omega
   have i2:=jU (N2:Int) (by omega);have Si:=ah aCQ;clear aCQ hr;go_wp2;go_roundw
   case rel=>exact⟨N2,by have:=Si.out;omega,by have:=Si.out;omega,rfl,by first|rfl|trivial⟩
   case measure=>have:=Si.out;simp only[intOf,dQ];omega
  ·have KO:¬(N:Int)<r2:=by omega
   have hd:decide ((N:Int)<r2)=false:=by simpa using KO
   have hd2:decide (N<r2)=false:=by simpa using fP
   have mk:=fun w=>apz w N (by omega)
   have Z1:=ah Z0.out.drew;have l1:=XV.mO Z1.out.b0 (dK _);have l2:=XV.mO ((Z0.out.alloc (.cells (XM (dU N none)) 213)).drew).b0 (dK _);have l3:=XV.mO (Z1.out.alloc (.cells (XM (dU N none)) 213)).b0 (dK _);clear hr fP;go_wp2_with fail
   replace mk:∀w,(aCP (.int .i64 N) (.int .i64 N)).run aj w=.ok (.slice (some ⟨w.heap.size,0,none⟩) N N) (w.alloc (.cells (XM (dU N none)) 213)):=mk
   go_region;go_wp2;go_ret2;have hr:=HR2.out;have jB:=Z0.out.dF.size;have fP:¬N<r2:=by omega
   refine⟨wr.heap.size+1,wr.heap.size,dU N none,rfl,⟨⟨?_,?_,by omega,by rw[oU];omega⟩,?_,wS.nil (by omega)⟩,by rw[oU];omega,by omega,by omega,?_⟩
   ·rw[Wh,oU]
    exact(dL.Vv wr _ _ _).drew
   ·exact((dL.new wr _ _).alloc _).drew
   ·exact TbR.new (by omega) (fun k=>by rw[oU];exact fD _ (by omega))
   ·exact(((Z0.out.dF.alloc jB _).alloc (by simp;omega) _)).drew
section
open Go.RowKit Go.Shelf
attribute [local go_sem] qC
theorem aaY{α:Type}(a b:List (Option α)):iw (a++b)=iw a++iw b:=by simp[iw]
theorem Yf{α:Type}(s:List (Option α))(k:Nat)(hk:k<s.length):iw (s.take (k+1))=iw (s.take k)++(fE s k).toList:=by
 rw[dP hk,aaY];congr 1;unfold fE;rw[av,aD hk,jy];cases s[k]<;>rfl
theorem aaZ{α:Type}(s:List (Option α))(k:Nat):iw (s.take k) <+: iw s:=by
 have:iw s=iw (s.take k)++iw (s.drop k):=by rw[<-aaY,List.take_append_drop]
 rw[this];exact List.prefix_append _ _
theorem FM{α:Type}(s:List (Option α)):(iw s).length<=s.length:=List.length_filterMap_le _ _
theorem Gh.apA{W W':au}{q g n₀:Nat}{key:Vector UInt8 16}{dR:Int}{s:List (Option Fw)}(h:Gh W q g key dR s)(hb:aN n₀ W W')(hq:q<n₀/\g<n₀):Gh W' q g key dR s:=⟨h.tb.below hb hq.1,h.sl.below hb hq.2,h.ne,h.sz⟩
theorem alU(F:Fence)(n:Nat)(hf:F.fn 202)(Lx:F.round=none)(hn:1<=n)(l Bs n₀ B0:Nat)(q g:Nat)(key:Vector UInt8 16)(dR:Int)(s:List (Option Fw))(J Jx:List Fw->au->Prop)(hJ:AbidesFrom B0 J)
 (hY:∀pre x W,J pre W->pre.length<s.length->YieldAt F (n-1) aj l #[.agg x.aA] W fun e W'=>
  (e=.returned (.bool true)/\J (pre++[x]) W'/\aN n₀ W W')\/(e=.returned (.bool false)/\Jx (pre++[x]) W'))
 (W:au) (Cq:n₀<=W.heap.size) (Ur:B0<=W.heap.size) (Ro:W.cell? ⟨Bs,0,none⟩=some (.pointer (some ⟨q,0,none⟩))) (T:Gh W q g key dR s) (hqg:q<n₀/\g<n₀) (h0:J [] W) :
 CallsIn F n aj 202 #[.func (.yield l) #[] #[],.pointer (some ⟨Bs,0,none⟩)] W fun e W'=>(∃v,e=.returned v) /\
  ((∃ys,ys=iw s/\J ys W')\/(∃pre,pre <+: iw s/\Jx pre W')):=by
 have jB:=T.sz;obtain⟨N,hN⟩:∃N,N=s.length:=⟨_,rfl⟩
 have l2:W.cell? ⟨q,18,none⟩=some (.slice (some ⟨g,0,none⟩) N N):=by rw[hN];exact T.aI.1
 have HT:=ah T;have HN:=ah hN;rw[<-hN]at jB;clear hN T;refine callsIn_of_wp Tryz.func202 rfl hf ?_ Lx;simp only[Tryz.ntmps202,List.size_toArray,bC,List.length_nil,Nat.reduceAdd,Nat.reduceSub,Array.replicate_succ,Array.replicate_zero,List.push_toArray,List.append_toArray,dG,List.cons_append];gi_wp2;gi_loopw [10] (fun i wr=>∃k:Nat,k<=N/\i=.int .i64 k/\J (iw (s.take k)) wr/\aN n₀ W wr)
  (fun i _=>N-(intOf i).toNat)
 case atStart=>exact⟨0,Nat.zero_le _,rfl,h0,Below.refl _ _⟩
 case round=>
  obtain⟨k,hk,rfl,hJs,MP⟩:=hrel;by_cases fP:k<N
  ·have KO:(k:Int)<N:=by omega
   have TR:=ah (HT.out.apA MP hqg);have K7:k<s.length:=by rw[<-HN.out];exact fP
   obtain⟨_,a2,_,_,a5,_,_⟩:=TR.out.XP K7;have hET:=Yf s k K7;have bx:=dL.new wr (wI (fE s k)).aA 213;have f1:=(bx.aI.1 0).trans (Sl.P7 _);rw[J3]at f1;have f2:xS (wr.alloc (.cells (wI (fE s k)).aA 213)) wr.heap.size 1 41:=of_eq_true (bx.aI.2.2.1 1 41 (by rw[Sl.eu];omega));have f3:dY (wr.alloc (.cells (wI (fE s k)).aA 213)) wr.heap.size 1 41=(wI (fE s k)).rz.aA:=by rw[bx.aI.2.2.2 1 41 (by rw[Sl.eu];omega)];exact Sl.Vi _
   have ayc:=MP.size;have Si:=ah (MP.alloc (by omega) (.cells (wI (fE s k)).aA 213));have HJA:=ah (Hz hJ hJs (.cells (wI (fE s k)).aA 213));clear bx ayc;cases wJ:fE s k with
   | none=>
     rw[wJ]at a2 f1 f2 f3 Si HJA hET
     replace f1:(wr.alloc (.cells (wI none).aA 213)).cell? ⟨wr.heap.size,0,none⟩=some (.bool false):=f1
     have Ej:=ah (show iw (s.take (k+1))=iw (s.take k)by rw[hET];simp);clear hET wJ f2 f3;gi_wp2;refine⟨fun f h=>(by cases h),?_⟩;gi_wp2;go_roundw
     case rel=>exact⟨k+1,by omega,by simp,by rw[Ej.out];exact HJA.out,Si.out⟩
     case measure=>simp[intOf];omega
   | some x=>
     rw[wJ]at a2 f1 f2 f3 Si HJA hET
     replace f1:(wr.alloc (.cells (wI (some x)).aA 213)).cell? ⟨wr.heap.size,0,none⟩=some (.bool true):=f1
     replace f3:dY (wr.alloc (.cells (wI (some x)).aA 213)) wr.heap.size 1 41=x.aA:=f3
     have Ej:=ah (show iw (s.take k)++[x]=iw (s.take (k+1))by rw[hET];simp);clear hET wJ;obtain⟨fn,tmps,assign,body,hy,hRd⟩:=hY _ x _ HJA.out (by have:=FM (s.take k);rw[bK]at this;omega);gi_wp2;refine hRd.mono ?_;rintro e W3 (⟨rfl,hJ3,hk3⟩|⟨rfl,WM⟩)
     ·gi_wp2
      go_roundw
      case rel=>exact⟨k+1,by omega,by simp,by rw[<-Ej.out];exact hJ3,Si.out.trans hk3⟩
      case measure=>simp[intOf];omega
     ·gi_wp2
      refine bodyPost_ret (results_none rfl _ _ _) rfl ?_;exact⟨⟨_,rfl⟩,.inr ⟨_,by rw[Ej.out];exact aaZ _ _,WM⟩⟩
  ·obtain rfl:k=N:=by omega
   have hd:decide ((k:Int)<k)=false:=by simp
   gi_wp2;go_end0;exact⟨⟨_,rfl⟩,.inl ⟨_,by rw[HN.out,List.take_length],hJs⟩⟩
end
section
open Go.RowKit Go.Shelf
abbrev OkF:={x:Fw // Eo x=true}
instance:Inhabited OkF:=⟨⟨⟨agu,[97],1,0,0⟩,by kernel_rfl⟩⟩
theorem apB:∀(ys:List Fw),(∀x∈ys,Eo x=true)->∃zs:List OkF,zs.map (·.1)=ys
 | [],_=>⟨[],rfl⟩
 | y::ys,h=>by
   obtain⟨zs,hz⟩:=apB ys (fun x hx=>h x (List.mem_cons_of_mem _ hx));exact⟨⟨y,h y (List.mem_cons_self ..)⟩::zs,by simp[hz]⟩
theorem aa0(zs:List OkF):(zs.flatMap fun x=>x.1.aA.toList)=(zs.map (·.1)).flatMap fun x=>x.aA.toList:=by
 induction zs with
 | nil=>rfl
 | cons z zs ih=>simp[iJ]
theorem alW{a b c:List UInt8}(h1:bT a b=false)(h2:bT b c=false):bT a c=false:=by
 cases h3:bT a c with
 | false=>rfl
 | true=>
   exfalso;cases h4:bT b a with
   | true=>rw[yK _ _ _ h4 h3]at h2;cases h2
   | false=>
     have:=Ai _ _ h1 h4;subst this;rw[h3]at h2;cases h2
theorem ac5{a b c:Fw}(h1:lJ a b=false)(h2:lJ b c=false):lJ a c=false:=by
 unfold lJ at *;by_cases e1:a.no=b.no
 ·rw[if_pos e1]at h1
  by_cases e2:b.no=c.no
  ·rw[if_pos e2]at h2
   rw[if_pos (e1.trans e2)];exact alW h1 h2
  ·rw[if_neg e2]at h2
   rw[if_neg (by omega)];simp at h2 ⊢;omega
 ·rw[if_neg e1]at h1
  simp at h1;by_cases e2:b.no=c.no
  ·rw[if_neg (by omega)]
   simp;omega
  ·rw[if_neg e2]at h2
   simp at h2;rw[if_neg (by omega)];simp;omega
def atl(x y:OkF):Int:=acZ x.1 y.1
theorem apC:Sort.SWO (ltOf atl):=by
 have e:∀x y,ltOf atl x y=lJ x.1 y.1:=fun x y=>ac0 x.1 y.1
 refine⟨fun x=>?_,fun x y z h1 h2=>?_,fun x y z h1 h2=>?_⟩
 ·rw[e];exact tY.irr _
 ·rw[e]at *;exact tY.tr _ _ _ h1 h2
 ·rw[e]at *;exact ac5 h1 h2
theorem Ld{x:Fw}(h:Eo x=true):xJ x.key/\0<=x.no/\x.no<=1152921504606846976:=by
 refine⟨BZ (xg h),?_⟩;unfold Eo ZC at h;simp only[bl,decide_eq_true_eq]at h;omega
theorem atm(w:au):(isAgg 86).run aj w=.ok true w:=by simp[isAgg,dJ mX]
theorem ayd(w:au):(Go.sizeOf 86).run aj w=.ok 41 w:=by
 obtain⟨i,hi,Qw,_⟩:=kFw.ahp;rw[run_sizeOf w hi];have hc:aj.cellsOf 86=41:=by simp[Program.cellsOf,hi,Qw]
 rw[hc]
theorem alX(x y:OkF)(w:au):aR aj 117 #[.agg x.1.aA,.agg y.1.aA] w (gP w (.int .i64 (atl x y))):=by
 obtain⟨h1,h2⟩:=Ld x.2;obtain⟨h3,h4⟩:=Ld y.2;exact TN x.1 y.1 h1 h3 h2 h4 w
theorem Mj(l ys:List Fw)(dR:Int)(hl:wS dR l)(hp:ys.Perm l)(hn:ys.length<=1000000)(W:au)(base:Nat)(A:Option aU)(c:Nat)(h:W.ownsRow base 86 41 (.slice A ys.length c) ys.length (ys.flatMap fun x=>x.aA.toList)):
 aR aj 151 #[.slice A ys.length c,.func (.func 117) #[] #[]] W fun e w'=>e=.returned (.tuple #[])/\w'.ownsRow base 86 41 (.slice A ys.length c) ys.length (l.flatMap fun x=>x.aA.toList)/\W.grownBy w' (bE A ys.length c).ownBlock:=by
 obtain⟨zs,hz⟩:=apB ys (fun x hx=>hl.ok x (hp.mem_iff.1 hx));have hlen:zs.length=ys.length:=by rw[<-hz,bR]
 have hc:=aa0 zs;rw[hz]at hc;rw[<-hc]at h;refine(aaT ax5 41 atm ayd (fun x:OkF=>x.1.aA) (fun x=>Fw.ak x.1) (fun x=>Fw.cB x.1) atl apC 117 (fun args w=>rfl) base 86 A ys.length c zs W hlen hn h alX).mono ?_;rintro e w' ⟨rfl,l',h1,h2,h3,h4⟩;refine⟨rfl,?_,h4⟩;rw[aa0]at h3;have hp2:(l'.map (·.1)).Perm l:=((h1.map _).trans (by rw[hz])).trans hp;have aI6:(l'.map (·.1)).Pairwise fun x y=>x.key≠y.key:=(hp2.pairwise_iff (fun{a b} (EH:a.key≠b.key)=>Ne.symm EH)).2 hl.one
 have aI7:Asc lJ (l'.map (·.1)):=by
  have h5:(l'.map (·.1)).Pairwise fun x y=>lJ y x=false:=by
   rw[zI];exact h2.imp (fun{a b} EH=>by rw[<-EH];exact(ac0 b.1 a.1).symm)
  refine List.Pairwise.imp_of_mem ?_ (h5.and aI6);rintro a b ha hb ⟨h6,h7⟩;rcases Tp (OZ (xg (hl.ok a (hp2.mem_iff.1 ha)))) (OZ (xg (hl.ok b (hp2.mem_iff.1 hb)))) h7 with h8|h8
  ·exact h8
  ·rw[h6]at h8;cases h8
 rw[<-Asc.eq tY aI7 hl.asc hp2];exact h3
end
section
open Go.RowKit Go.Shelf
variable {W W':au} {q g:Nat} {key:Vector UInt8 16} {dR:Int} {s:List (Option Fw)} {l:List Fw}
theorem Sj(q:Nat)(w:au):
 aR aj 132 #[.pointer (some ⟨q,0,none⟩)] w fun e w'=>e=.returned (.func (.func 202) #[] #[.pointer (some ⟨w.heap.size,0,none⟩)])/\w.alloc (.cells #[.pointer (some ⟨q,0,none⟩)] 121)=w':=by
 go_enter Tryz.func132,Tryz.ntmps132;go_wp2;go_ret;exact⟨rfl,rfl⟩
theorem afo(F:Fence)(n:Nat)(hf:F.fn 202)(Lx:F.round=none)(hn:1<=n)(Bs n₀:Nat)(w:au)(Ro:Bs<w.heap.size)(Cq:n₀<=w.heap.size)
 (hc:w.cell? ⟨Bs,0,none⟩=some (.pointer (some ⟨q,0,none⟩))) (T:Gh w q g key dR s) (hqg:q<n₀/\g<n₀) :
 SeqStopsK F n aj 202 #[.pointer (some ⟨Bs,0,none⟩)] (fun x:Fw=>#[bY x.aA]) (aN n₀) (fun ys=>ys=iw s) (fun pre=>pre <+: iw s) s.length w:=fun l J Jx W hW hJ _ hY h0=>by
 have hc':=(hW.cell (p:=⟨Bs,0,none⟩) Ro).trans hc;exact alU F n hf Lx hn l Bs n₀ W.heap.size q g key dR s J Jx hJ hY W (aP Cq hW.size) (ay _) hc' (T.go hW) hqg h0
theorem ac6(gf:Nat)(lb:Array aC)(eg:∀args w,(callFunc gf args).run aj w=.ok (.enter gf args) w)(l ys:List Fw)(dR:Int)(hl:wS dR l)(hp:ys.Perm l)(N:Nat)(hN:N<=100000)(hyN:ys.length<=100000)(w:au)(Ev:SeqStopsK Fence.wide 5 aj gf lb (fun x:Fw=>#[bY x.aA]) (aN w.heap.size) (fun zs=>zs=ys) (fun pre=>pre <+: ys) N w):
 aR aj 131 #[.func (.func gf) #[] lb,.func (.func 117) #[] #[]] w fun e W'=>
  ∃A' c',e=.returned (.slice A' l.length c')/\W'.ownsRow w.heap.size 86 41 (.slice A' l.length c') l.length (l.flatMap fun x=>x.aA.toList)/\aN w.heap.size w W':=by
 have CO:=ah (Zi gf lb eg (fun zs=>zs=ys) (fun pre=>pre <+: ys) N hN w Ev);have SO:=ah (fun(W:au) (A:Option aU) (c:Nat) h=>Mj l ys dR hl hp (by omega) W w.heap.size A c h);have HP:=ah hp.length_eq;clear Ev hl hp;go_enter Tryz.func131,Tryz.ntmps131;go_wp2_with fail;refine CO.out.mono ?_;rintro e w1 ⟨zs,Qs,A1,c1,rfl,ho,hb⟩;rw[Qs]at ho ⊢;have SO1:=ah (SO.out w1 A1 c1 ho);have HB:=ah hb;have HO:=ah ho;clear hb ho SO CO Qs;obtain⟨m,hm⟩:∃m,m=ys.length:=⟨_,rfl⟩
 rw[<-hm]at HO SO1 HP ⊢;clear hm;go_wp2_with fail;refine SO1.out.mono ?_;rintro e w2 ⟨rfl,NG,hg⟩;have H2:=ah NG;have HG:=ah hg;clear NG hg;go_wp2;go_ret;have h1:=H2.out;have h2:=HP.out;exact⟨A1,c1,by rw[<-h2];rfl,by rw[<-h2];exact h1,Yb HB.out HO.out (ay _) (ay _) HG.out⟩
theorem ah2(T:LH W q g key dR s l):
 aR aj 65 #[.pointer (some ⟨q,0,none⟩)] W fun e w'=>∃A' c',e=.returned (.slice A' l.length c')/\w'.ownsRow W.heap.size 86 41 (.slice A' l.length c') l.length (l.flatMap fun x=>x.aA.toList)/\aN W.heap.size W w':=by
 have w1s:=(dL.new W #[.pointer (some ⟨q,0,none⟩)] 121)
 have NZ:aN W.heap.size W (W.alloc (.cells #[.pointer (some ⟨q,0,none⟩)] 121)):=(Below.refl _ _).alloc (ay _) _;have T1:=T.w.go NZ;have hs:=T.w.sz;have fP:=T.w.lt;have jB:(W.alloc (.cells #[.pointer (some ⟨q,0,none⟩)] 121)).heap.size=W.heap.size+1:=by simp
 have SQ:=ah (afo Fence.wide 5 trivial rfl (by omega) W.heap.size (W.alloc (.cells #[.pointer (some ⟨q,0,none⟩)] 121)).heap.size (W.alloc (.cells #[.pointer (some ⟨q,0,none⟩)] 121)) w1s.lt (ay _) (w1s.aI.1 0) T1 (by rw[jB];omega));have VA:=ah (Sj q W);generalize hw:W.alloc (.cells #[.pointer (some ⟨q,0,none⟩)] 121)=w1 at *;have SF:=ah (ac6 202 #[.pointer (some ⟨W.heap.size,0,none⟩)] (fun args w=>rfl) l (iw s) dR T.ok T.r.QJ s.length hs.2 (by have:=FM s;omega) w1 SQ.out);have qd:=ah NZ;clear hw w1s NZ SQ T T1 hs fP jB;go_enter Tryz.func65,Tryz.ntmps65;go_wp2_with fail;refine VA.out.mono ?_;rintro e w2 ⟨rfl,rfl⟩;go_wp2_with fail;refine SF.out.mono ?_;rintro e w2 ⟨A1,c1,rfl,ho,hb⟩;have HO:=ah ho;have HB:=ah hb;clear ho hb;obtain⟨m,hm⟩:∃m,m=l.length:=⟨_,rfl⟩
 rw[<-hm]at HO ⊢;have HM:=ah hm;clear hm;go_wp2;go_ret;obtain rfl:=HM.out;have h1:=qd.out;have h2:=HB.out;exact⟨A1,c1,rfl,iG HO.out h1.size,⟨h2.os.trans h1.os,h2.tape.trans h1.tape,h2.output.trans h1.output,aP h1.size h2.size,fun k hk=>(h2.block k (eU hk h1.size)).trans (h1.block k hk)⟩⟩
end
end Go.Proofs.YtkjojjopamaoiaaGreat
