/- Parts. -/
import Derived.Test.YtkjojjopamaoiaaGreatKp7
import Derived.Lib.SlBytesConst
set_option linter.all false
set_option maxRecDepth 100000
set_option maxHeartbeats 8000000
open Array renaming getElem?_extract->dz,setIfInBounds_append->aN,getElem?_append->aG,toList_inj->GZ,range->lD,mapM->iG,getElem?_toList->dH,getElem?_eq_getElem->dK,size->Array.j,toList->Array.a,getD->Array.c,setIfInBounds->Array.b
open Bool renaming eq_iff_iff->cB,not_false->vO,not_true->Ak,and_eq_true->bB,not_eq_true'->oz,true_and->Am,false_and->Dy
open ByteArray renaming size->ByteArray.j,toList->ByteArray.a
open Go renaming Value->aC,World->au,Calls->aQ,wpQuiet_nil->gN,TypeId->bF,Addr->aU,Ending->lu,bodyPost_ret->aO,wpAnyH_take->pJ,run_underlying->dJ
open Go.Act renaming put->lG
open Go.Addr renaming add->qH,add_mid->iH
open Go.BoundsCode renaming toNat->Go.BoundsCode.e
open Go.Calls renaming mono->Go.Calls.g
open Go.DataW renaming trod->mq,trod_struct->uK,trod_bool->Iu,agg->Go.DataW.d
open Go.Ending renaming returned->Go.Ending.a
open Go.Field renaming offset->Go.Field.Z
open Go.Instr renaming buildSlice->bK,fill->fD,build->fM,slice->Go.Instr.a
open Go.IntKind renaming u8->aX,i64->bU,i64->Go.IntKind.a,u8->Go.IntKind.b
open Go.Lib renaming hid->ah
open Go.Lit renaming bool->Go.Lit.e
open Go.Obj renaming cells->Go.Obj.D
open Go.Op renaming slice->Go.Op.a
open Go.Oper renaming dst->Go.Oper.Y
open Go.Operand renaming tmp->Go.Operand.a
open Go.Proofs.Tryz renaming prog->aj,underlying37->rZ,underlying35->Fy,underlying22->qp,underlying98->r9,underlying29->nD,underlying56->cu,underlying5->lF,underlying66->lU,underlying27->fC,underlying23->vC,underlying64->vk,underlying62->lS
open Go.RowKit renaming Below->aM
open Go.RowKit.Below renaming refl->aH,size->Go.RowKit.Below.j,mono->Go.RowKit.Below.g
open Go.RowKit.Hid renaming out->Go.RowKit.Hid.i
open Go.Sem renaming run->Go.Sem.J
open Go.Shut renaming out->Go.Shut.i
open Go.TypeDesc renaming slice->Go.TypeDesc.a,int->Go.TypeDesc.b,pointer->Go.TypeDesc.c,bool->Go.TypeDesc.e,string->Go.TypeDesc.g
open Go.TypeInfo renaming size->Go.TypeInfo.j
open Go.Value renaming int->aJ,cells->bZ,okWide->Iq,ownBlock->jJ,oneCell'->dx,slice->bC,string->jl,bool->bQ,float->Aj,cells->Go.Value.D,slice->Go.Value.a,int->Go.Value.b,pointer->Go.Value.c,agg->Go.Value.d,bool->Go.Value.e,tuple->Go.Value.K,string->Go.Value.g
open Go.World renaming heap->Go.World.a,cell?->Go.World.b,setCell->Go.World.G,ownsRow->Go.World.c,there->Go.World.O
open Int renaming toNat->Int.e
open List renaming mem_map->iX,any_eq_true->tH,range->dS,all_eq_true->fV,mem_range->eG,getElem?_eq_none->aT,getElem?_toArray->dY,length_map->bV,mem_singleton->fT,getD_eq_getElem?_getD->av,setIfInBounds_toArray->bJ,set_cons_zero->bM,set_cons_succ->bI,eq_nil_of_length_eq_zero->bG,map_cons->kK,drop_of_length_le->iY,getElem?_eq_getElem->aD,length_append->aS,nil_append->dG,length_set->aW,mem_cons->bE,length->List.a,toArray->List.b,getD->List.c,take->List.d,drop->List.f,flatMap->List.h
open Nat renaming zero_add->bl,add_zero->nM,le_refl->ay,lt_or_ge->aZ,le_of_eq->aY,lt_of_lt_of_le->eZ,le_trans->aP,mul_le_mul_right->bY,zero_le->ji,succ_pos->kX,below->Nat.S
open Option renaming toList->Option.a,getD->Option.c
open Or renaming inl->Co,inl->Or.a,inr->Or.b
open UInt8 renaming ofNat->aK,toNat->UInt8.e
open Vector renaming length_toList->nR,replicate->bH,ofFn->Ej,toList->Vector.a
namespace Go.Proofs.YtkjojjopamaoiaaGreat
open Go.RowKit
theorem Bx.Xo{L:List (Nat×Array aC)}{W0 W W':au}{M:Nat}(h:Bx L W0 W)(hg:W.grownBy W' (some M))(hM:W0.a.j<=M)(hL:∀p∈L,p.1≠M):Bx L W0 W':=
 ⟨qM h.1 hg hM h.1.j,fun p hp=>⟨(h.2 p hp).1,(h.2 p hp).2.grown hg (fun e=>hL p hp (by injection e))⟩⟩
def Ei(l:List Fw)(k:Nat):List Tu:=((l.d k).map (·.key)).reverse
theorem aeu{l:List Fw}{k:Nat}(hk:k<l.a):(l.c k ko).key::Ei l k=Ei l (k+1):=by
 unfold Ei;rw[List.take_succ_eq_append_getElem hk,List.map_append,List.reverse_append,uH hk];rfl
theorem agU(l:List Fw)(k:Nat):decide ((l.c k ko).key∈Ei l k)=Zd l k:=by
 unfold Ei Zd;rw[cB];simp only[List.mem_reverse,iX,decide_eq_true_eq,tH,tV]
theorem Ql{W:au}{b:Nat}{x:Fw}(h:dN W b x.aA):(xg (.c (some ⟨b,0,none⟩))).J aj W=.ok (.d x.key.aA) W:=by
 have hs:eF x.aA=41:=Fw.I x;rw[Ti W b 0 (of_eq_true (h.M.2.2.1 0 37 (by omega))),h.M.2.2.2 0 37 (by omega),bl,Fw.QF]
theorem JG(x:Cn)(vs:List Vp)(X:Sh)(s:qB)(w:au)(hV:iF Vp.aA 20 w w.a.j x.qj x.Y vs)(hvc:x.Y<=x.ql)(hvn:x.Y<=100000)(hS:StR w w.a.j X s)(hbl:s.rX.a<=100000)(hhl:s.h.a<=100000)(hfl:s.I.a<=100000)(J:Bool)(hJ:zw x vs s=J):
 aQ aj 15 #[.d x.aA,.d X.aA] w (gy w (.e J)):=by
 obtain⟨vv,⟨bA,bn,bc⟩,⟨gA,gn,gc⟩,⟨fA,fn,fc⟩,tk,nn,ct⟩:=X;obtain rfl:vv=s.Y:=hS.Y;obtain rfl:tk=s.gq:=hS.gq;obtain rfl:nn=s.no:=hS.no;obtain rfl:ct=s.lI:=hS.lI;have hbn:s.rX.a=bn:=hS.b.1;have hgn:s.h.a=gn:=hS.h.1;have hfn:s.I.a=fn:=hS.f.1;have HBN:=ah hbn;have HGN:=ah hgn;have HFN:=ah hfn;have HS:=ah hS;have HLS:=ah (show bn<=100000/\gn<=100000/\fn<=100000 by omega);obtain⟨K1,hK1⟩:∃K,yu x vs=K:=⟨_,rfl⟩
 obtain⟨K2,hK2⟩:∃K,xX s.Y s.rX=K:=⟨_,rfl⟩
 obtain⟨K3,hK3⟩:∃K,decide (gn=bn)=K:=⟨_,rfl⟩
 obtain⟨K4,hK4⟩:∃K,decide ((fn:Int)<=x.dX)=K:=⟨_,rfl⟩
 obtain⟨KN,hKN⟩:∃K,adV s=K:=⟨_,rfl⟩
 obtain⟨KH,hKH⟩:∃K,(dS gn).all (Wm x s)=K:=⟨_,rfl⟩
 obtain⟨KF,hKF⟩:∃K,(dS fn).all (Sn s)=K:=⟨_,rfl⟩
 have HJ:=ah (show J=((K1&&(K2&&(K3&&K4)))&&(KN&&(KH&&KF)))by rw[<-hJ,<-hK1,<-hK2,<-hK3,<-hK4,<-hKN,<-hKH,<-hKF,<-hbn,<-hgn,<-hfn];rfl);have HKN:=ah hKN;have HKH:=ah hKH;have HKF:=ah hKF;have q3:((gn:Int) != (bn:Int)) = !K3:=by rw[<-hK3];by_cases h:gn=bn<;>simp[h];omega
 have q4:decide (x.dX<(fn:Int)) = !K4:=by rw[<-hK4];by_cases h:(fn:Int)<=x.dX<;>simp[h]<;>omega
 have HK3:=ah hK3;clear hJ hK4 hKN hKH hKF hbn hgn hfn hbl hhl hfl hK3;have h0:=((Bx.start w).new x.aA 29).new (Sh.mk s.Y ⟨bA,bn,bc⟩ ⟨gA,gn,gc⟩ ⟨fA,fn,fc⟩ s.gq s.no s.lI).aA 37;rw[show(w.alloc (.D x.aA 29)).a.j=w.a.j+1 by simp]at h0;have Z0:=ah h0;clear h0;obtain⟨XA,hXA⟩:∃A,A=(Sh.mk s.Y ⟨bA,bn,bc⟩ ⟨gA,gn,gc⟩ ⟨fA,fn,fc⟩ s.gq s.no s.lI).aA:=⟨_,rfl⟩
 have XF:=ah (show XA.extract 0 2 = #[.b .a s.Y,.a bA bn bc]/\XA[0]? = some (.b .a s.Y)/\XA[1]? = some (.a bA bn bc)/\XA[2]? = some (.a gA gn gc)/\XA[3]? = some (.a fA fn fc)/\XA[4]? = some (.b .a s.gq)/\XA[5]? = some (.b .a s.no)/\∀j,j<11->XA[6+j]? = some (.b .a (s.lI.a.c j 0))by
  rw[hXA];exact⟨Sh.Nu _,Sh.qG _,Sh.Ev _,Sh.Uj _,Sh.acY _,Sh.amf _,Sh.amg _,fun j hj=>Sh.ahz _ j hj⟩)
 have CC:=ah (fun w1 (hb:aM w.a.j w w1)=>XJ x vs w1 (hV.go hb) hvc hvn);have CP:=ah (fun w1 (hb:aM w.a.j w w1)=>afM s.rX HS.i.qg s.Y bA bn bc w1 (HS.i.b.go hb) (by have:=HLS.i;omega) K2 hK2);rw[hK1]at CC;have XS:=ah (show XA.j=17 by rw[hXA];exact Sh.I _);clear hK1 hK2 hV hS;go_enter Tryz.func15,Tryz.ntmps15;go_upto_region 1 with fail
 generalize(w.alloc (.D x.aA 29)).alloc (.D (Sh.mk s.Y ⟨bA,bn,bc⟩ ⟨gA,gn,gc⟩ ⟨fA,fn,fc⟩ s.gq s.no s.lI).aA 37)=w0 at Z0 ⊢;rw[<-hXA]at Z0;clear hXA;obtain⟨x1,x2,x3,x4⟩:=Z0.i.b1.M;go_wp2_with fail
 (with_reducible refine(CC.i _ Z0.i.R).g ?_)
 rintro e w1 ⟨rfl,hb1⟩;have Z1:=ah (Z0.i.go hb1);clear hb1 x1 x2 x3 x4;cases K1
 ·skip
  go_wp2;go_ret;exact⟨by rw[HJ.i];rfl,Z1.i.R⟩
 obtain⟨e0,e1,e2,e3,e4,e5,e6,e7⟩:=XF.i;obtain⟨y1,y2,y3,y4⟩:=Z1.i.X.M;have hys:eF XA=17:=by have:=Z1.i.X;unfold eF;exact XS.i
 go_wp2_with fail
 (with_reducible refine(CP.i _ Z1.i.R).g ?_)
 rintro e w2 ⟨rfl,hb2⟩;have Z2:=ah (Z1.i.go hb2);clear hb2 y1 y2 y3 y4;cases K2
 ·skip
  go_wp2;go_ret;exact⟨by rw[HJ.i];rfl,Z2.i.R⟩
 obtain⟨x1,x2,x3,x4⟩:=Z2.i.b1.M;obtain⟨y1,y2,y3,y4⟩:=Z2.i.X.M;have z2:=Cn.Tt x;cases K3
 ·simp only[vO]at q3
  go_wp2;go_ret;exact⟨by rw[HJ.i];rfl,Z2.i.R⟩
 cases K4
 ·simp only[vO]at q4
  go_wp2;go_ret;exact⟨by rw[HJ.i];rfl,Z2.i.R⟩
 simp only[Ak]at q3 q4;obtain⟨a1,ha1⟩:∃a,decide (s.gq<0)=a:=⟨_,rfl⟩
 obtain⟨a2,ha2⟩:∃a,decide (1099511627776<s.gq)=a:=⟨_,rfl⟩
 obtain⟨a3,ha3⟩:∃a,decide (s.no<0)=a:=⟨_,rfl⟩
 obtain⟨a4,ha4⟩:∃a,decide (1152921504606846976<s.no)=a:=⟨_,rfl⟩
 obtain⟨a5,ha5⟩:∃a,s.lI.a.any Ae=a:=⟨_,rfl⟩
 have agV:=ah (show KN=(!a1&&(!a2&&(!a3&&(!a4 && !a5))))by
  rw[<-HKN.i,<-ha1,<-ha2,<-ha3,<-ha4,<-ha5,aqt];unfold adV Yb;rw[cB];simp only[bB,decide_eq_true_eq,oz,decide_eq_false_iff_not,Bool.not_not];constructor
  ·rintro⟨h1,h2,h3⟩;exact⟨by omega,by omega,by omega,by omega,h3⟩
  ·rintro⟨h1,h2,h3,h4,h5⟩;exact⟨by omega,by omega,h5⟩)
 have CA:=ah (au8 (some ⟨w.a.j+1,6,none⟩) 11 11 w2.a.j w2 s.lI.a (by omega) (by have:=YG.box (l:=s.lI.a) (o:=6) Z2.i.X (fun j hj=>e7 j (by simpa using hj));rw[nR]at this;exact this));rw[ha5]at CA;clear ha5;cases a1;rotate_left
 ·skip
  go_wp2;go_ret;exact⟨by rw[HJ.i,agV.i];rfl,Z2.i.R⟩
 cases a2;rotate_left
 ·skip
  go_wp2;go_ret;exact⟨by rw[HJ.i,agV.i];rfl,Z2.i.R⟩
 cases a3;rotate_left
 ·skip
  go_wp2;go_ret;exact⟨by rw[HJ.i,agV.i];rfl,Z2.i.R⟩
 cases a4;rotate_left
 ·skip
  go_wp2;go_ret;exact⟨by rw[HJ.i,agV.i];rfl,Z2.i.R⟩
 go_wp2_with fail
 (with_reducible refine CA.i.g ?_)
 rintro e w3 ⟨rfl,rfl⟩;cases a5;rotate_left
 ·skip
  go_wp2;go_ret;exact⟨by rw[HJ.i,agV.i];rfl,Z2.i.R⟩
 have HJ:=ah (show J=(KH&&KF)by rw[HJ.i,agV.i];simp);have hgb:=of_decide_eq_true HK3.i;subst hgb;clear ha1 ha2 ha3 ha4 q3 q4 agV HKN CA HK3;go_wp2;clear x1 x2 x3 x4 y1 y2 y3 y4 z2;go_loopw [64] (fun s64 wr=>∃i:Nat,i<=gn/\s64=.b .a i/\Bx [(w.a.j+1,XA),(w.a.j,x.aA)] w wr/\∀k,k<i->Wm x s k=true) (fun s64 _=>gn-(intOf s64).e)
 case atStart=>exact⟨0,by omega,rfl,Z2.i,fun k hk=>by omega⟩
 case round=>
  obtain⟨i,hin,rfl,hz,hall⟩:=hrel;have ZR:=ah hz;have HA:=ah hall;clear hz hall;by_cases hlt:i<gn
  ·have hlt2:(i:Int)<gn:=by omega
   have hgs:gn<=100000:=HLS.i.2.1;obtain⟨y,hy⟩:=sQ (s.h.c i kQ);obtain⟨b,o,rfl,_,hh,hcl,_,_⟩:=iF.hl (show RdH wr wr.a.j gA gn s.h from HS.i.h.go ZR.i.R) hlt;rw[hy]at hcl;have ZY:=ah (ZR.i.new y.aA 100);go_upto_region 8 with fail
   generalize wr.alloc (.D y.aA 100)=w5 at ZY ⊢;generalize wr.a.j=py at ZY ⊢;clear hh hcl;obtain⟨b2,o2,rfl,_,hc2⟩:=iF.cell Bk.I jd (show iF Bk.aA 27 w5 w5.a.j bA gn s.rX from HS.i.b.go ZY.i.R) hlt;have n0:=(hc2 0 (by omega)).trans (Bk.qG _);rw[nM]at n0;clear hc2;obtain⟨nm,hnm⟩:∃n,(s.rX.c i jd).E=n:=⟨_,rfl⟩
   rw[hnm]at n0;obtain⟨x1,x2,x3,x4⟩:=ZY.i.b2.M;obtain⟨y1,y2,y3,y4⟩:=ZY.i.b1.M;obtain⟨u1,u2,u3,u4⟩:=ZY.i.X.M;have d0:=Hl.qG y;have d1:=Hl.Ev y;have d2:=Hl.Uj y;obtain⟨t1,ht1⟩:∃a,(y.E==nm)=a:=⟨_,rfl⟩
   obtain⟨t2,ht2⟩:∃a,decide (y.J<0)=a:=⟨_,rfl⟩
   have T1:(y.E != nm) = !t1:=by rw[<-ht1];rfl
   have T2:decide (y.E=nm)=t1:=by rw[<-ht1];rw[cB];simp
   have T3:decide (y.E≠nm) = !t1:=by rw[<-ht1];rw[cB];simp
   have T4:(!decide (y.E=nm)) = !t1:=by rw[T2]
   obtain⟨t3,ht3⟩:∃a,decide ((if y.down then x.kr else x.fall)<=y.J)=a:=⟨_,rfl⟩
   have HI:=ah (show Wm x s i=(t1&&(!t2 && !t3))by
    unfold Wm aqs;rw[hy,hnm,ht1,<-ht2,<-ht3];congr 1;congr 1<;>(rw[cB];simp))
   have c1:=Cn.Tx x;have c2:=Cn.Tw x;clear hy hnm;cases hd:y.down<;>rw[hd]at d1 ht3
   all_goals
    simp only[Bool.false_eq_true,if_false,if_true]at ht3;go_upto_region 11 with fail
    have HF:=ah (show(t1&&(!t2 && !t3))=false->KH=false from fun h=>by rw[<-HKH.i];exact mg _ i _ hlt (by rw[HI.i,h]));cases t1
    ·simp only[Ak,vO]at T1 T3 T4
     go_quiet (fail);go_wp2;go_ret;exact⟨by rw[HJ.i,HF.i rfl];rfl,ZY.i.R.trans (fJ (aH _ _) _)⟩
    simp only[Ak,vO]at T1 T3 T4;cases t2;rotate_left
    ·go_quiet (fail)
     go_wp2;go_ret;exact⟨by rw[HJ.i,HF.i rfl];rfl,ZY.i.R.trans (fJ (aH _ _) _)⟩
    cases t3;rotate_left
    ·go_quiet (fail)
     go_wp2;go_ret;exact⟨by rw[HJ.i,HF.i rfl];rfl,ZY.i.R.trans (fJ (aH _ _) _)⟩
    go_quiet (fail);go_wp2;go_roundw
    case rel=>exact⟨i+1,by omega,by go_num,ZY.i.Vu.drewN _,fun k hk=>by
     by_cases hki:k=i
     ·rw[hki];exact HI.i
     ·exact HA.i k (by omega)⟩
    case measure=>simp[intOf]<;>omega
  ·obtain rfl:i=gn:=by omega
   have HF:=ah (show KH=true by rw[<-HKH.i,fV];exact fun k hk=>HA.i k (eG.1 hk));have HJ:=ah (show J=KF by rw[HJ.i,HF.i];rfl);have hnl:¬(i:Int)<i:=by omega
   clear hlt HA HF HKH;obtain⟨y1,y2,y3,y4⟩:=ZR.i.X.M;have hmm:=fun n w=>Ht (P:=aj) Tryz.underlying114 n w
   go_upto_region 15 with fail
   have M0:=ah (KO.new wr);have ZM:=ah (ZR.i.alloc (.map #[] 0));have HM:=ah (show w.a.j<=wr.a.j/\∀p∈[(w.a.j+1,XA),(w.a.j,x.aA)],p.1≠wr.a.j from⟨ZR.i.R.j,fun p hp=>by have:=(ZR.i.2 p hp).2.lt;omega⟩);generalize wr.alloc (.map #[] 0)=w6 at M0 ZM ⊢;generalize wr.a.j=M at M0 HM ⊢;clear y1 y2 y3 y4 hmm;obtain⟨y1,y2,y3,y4⟩:=ZM.i.X.M;go_wp2;clear y1 y2 y3 y4;go_loopw [104] (fun avV wr=>∃k:Nat,k<=fn/\avV=.b .a k/\Bx [(w.a.j+1,XA),(w.a.j,x.aA)] w wr/\KO wr M k (Ei s.I k)/\∀j,j<k->Sn s j=true) (fun avV _=>fn-(intOf avV).e)
   case atStart=>exact⟨0,by omega,rfl,ZM.i,M0.i,fun k hk=>by omega⟩
   case round=>
    obtain⟨k,hkn,rfl,hz,hm,hall⟩:=hrel;have ZR:=ah hz;have MR:=ah hm;have HA:=ah hall;clear hz hm hall;by_cases hkt:k<fn;rotate_left
    ·obtain rfl:k=fn:=by omega
     have HF:=ah (show KF=true by rw[<-HKF.i,fV];exact fun j hj=>HA.i j (eG.1 hj));have hnl:¬(k:Int)<k:=by omega
     go_wp2;go_ret;exact⟨by rw[HJ.i,HF.i];rfl,ZR.i.R⟩
    have hlt2:(k:Int)<fn:=by omega
    obtain⟨b,o,rfl,hbl,hh,hcl⟩:=iF.fw (show iF Fw.aA 41 wr wr.a.j fA fn s.I from HS.i.f.go ZR.i.R) hkt;obtain⟨y,hy⟩:=sQ (s.I.c k ko);rw[hy]at hcl;have HYN:=ah (HS.i.amj _ (Eu ko s.I k (by rw[HFN.i];exact hkt)));rw[hy]at HYN;have ZY:=ah (ZR.i.new y.aA 86);have MY:=ah (MR.i.go ((aH _ _).alloc (ay _) (.D y.aA 86)));go_upto_region 18 with fail
    generalize wr.alloc (.D y.aA 86)=w7 at ZY MY ⊢;generalize wr.a.j=py at ZY ⊢;clear hh hcl hbl;have hfs:fn<=100000:=HLS.i.2.2;obtain⟨c1,hc1⟩:∃c,DX y=c:=⟨_,rfl⟩
    obtain⟨c2,hc2⟩:∃c,decide (s.gq<y.seen)=c:=⟨_,rfl⟩
    obtain⟨c3,hc3⟩:∃c,decide (y.no<1)=c:=⟨_,rfl⟩
    obtain⟨c4,hc4⟩:∃c,decide (s.no<y.no)=c:=⟨_,rfl⟩
    obtain⟨c5,hc5⟩:∃c,decide (y.key∈Ei s.I k)=c:=⟨_,rfl⟩
    obtain⟨pv,hpv⟩:∃p,s.I.c (k-1) ko=p:=⟨_,rfl⟩
    have HI:=ah (show Sn s k=(c1&&(!c2&&(!c3&&(!c4&&(!c5&&(decide (k=0)||lQ pv y))))))by
     unfold Sn;have hkk:=agU s.I k;rw[hy]at hkk ⊢;rw[<-hkk,hc5,hc1,hpv,<-hc2,<-hc3,<-hc4];have g1:decide (y.seen<=s.gq) = !decide (s.gq<y.seen):=by rw[cB];simp
     have g2:decide (1<=y.no) = !decide (y.no<1):=by rw[cB];simp
     have g3:decide (y.no<=s.no) = !decide (s.no<y.no):=by rw[cB];simp
     rw[g1,g2,g3])
    have FR:=ah (fun W=>Lf y W HYN.i);rw[hc1]at FR;have HC1:=ah hc1;have HPV:=ah hpv;have HYY:=ah hy;have KEY:=ah (aeu (l:=s.I) (k:=k) (by rw[HFN.i];exact hkt));clear hy hc1 hpv;obtain⟨T,f,n0,E0,es,ew⟩:=xO (w7);have hT:Nonempty T:=⟨n0⟩
    have ES:=ah es;have EW:=ah ew;clear es ew;have l1:=fun m=>kJ (ZY.i.go (ES.i m)).X
    have l3:∀m,(f m).b ⟨py,39,none⟩=some (.b .a y.seen):=fun m=>((ZY.i.go (ES.i m)).X.M.1 39).trans (Fw.afI y)
    have l4:∀m,(f m).b ⟨py,40,none⟩=some (.b .a y.no):=fun m=>((ZY.i.go (ES.i m)).X.M.1 40).trans (Fw.aaR y)
    have l5:∀m,(f m).b ⟨w.a.j+1,4,none⟩=some (.b .a s.gq):=fun m=>((ZY.i.go (ES.i m)).b1.M.1 4).trans XF.i.2.2.2.2.2.1
    have l6:∀m,(f m).b ⟨w.a.j+1,5,none⟩=some (.b .a s.no):=fun m=>((ZY.i.go (ES.i m)).b1.M.1 5).trans XF.i.2.2.2.2.2.2.1
    have l7:∀m,(f m).b ⟨w.a.j+1,3,none⟩=some (.a (some ⟨b,o,none⟩) fn fc):=fun m=>((ZY.i.go (ES.i m)).b1.M.1 3).trans XF.i.2.2.2.2.1
    have l8:∀m,(xg (.c (some ⟨py,0,none⟩))).J aj (f m)=.ok (.d y.key.aA) (f m):=fun m=>Ql (ZY.i.go (ES.i m)).X
    cases c1;rotate_left;have L9:=ah (fun W (h:KO W M k (Ei s.I k))=>show(Instr.lookup 114 (.map (some M)) (.d y.key.aA) false).J aj W=.ok (.e c5) W by rw[akr h y.key (wL HC1.i),hc5]);have l9:=fun m=>L9.i (f m) (MY.i.go (ES.i m))
    clear hc5;cases c2;cases c3;cases c4;cases c5
    all_goals try(
     have HF:=ah (show KF=false by rw[<-HKF.i];exact mg _ k _ hkt (by rw[HI.i];simp));refine nW f (by kernel_rfl) (by kernel_rfl) n0 E0 ?_
     repeat(go_big_quiet_step ((first|(go_at_call 48;(with_reducible refine(FR.i _).g ?_);rintro e w2 ⟨rfl,hb⟩;exact⟨rfl,EW.i _ ((ES.i _).trans (hb.g (ES.i _).j))⟩))))
     refine gN ?_;rintro _ ⟨m',rfl⟩;have HB:=ah (ES.i m');generalize f m'=wN at *;clear ES EW E0 hT n0;go_wp2;go_ret;exact⟨by rw[HJ.i,HF.i];rfl,(ZY.i.go HB.i).R⟩)
    have JW:=ah (Km HC1.i);by_cases hk0:k=0
    ·have t0:decide (0<(k:Int))=false:=by simp;omega
     have HI:=ah (show Sn s k=true by rw[HI.i];simp[hk0]);have HG:=ah (show Sn s k=true by exact HI.i);refine nW f (by kernel_rfl) (by kernel_rfl) n0 E0 ?_
     repeat(go_big_quiet_step ((first|(go_at_call 48;(with_reducible refine(FR.i _).g ?_);rintro e w2 ⟨rfl,hb⟩;exact⟨rfl,EW.i _ ((ES.i _).trans (hb.g (ES.i _).j))⟩))))
     refine gN ?_;rintro _ ⟨m',rfl⟩;have HB:=ah (ES.i m');generalize f m'=wN at *;clear ES EW E0 hT n0;clear l1 l3 l4 l5 l6 l7 l8 l9;have ZN:=ah (ZY.i.go HB.i);have MN:=ah (MY.i.go HB.i);have l8:=Ql ZN.i.X;have TK:=ah (wL HC1.i);have HK1:=ah (show k<=1000000 by omega);go_wp2_with (refine Q9 rfl (.a 152) (.a 154) (.const (.e true)) rfl M k (Ei s.I k) rfl MN.i HK1.i y.key TK.i rfl rfl ?_;intro w9 h1 h2;have M9:=ah h1;have Z9:=ah (ZN.i.Vu.Xo h2 HM.i.1 HM.i.2);clear h1 h2);go_roundw
     case rel=>exact⟨k+1,by omega,by go_num,Z9.i,by rw[<-KEY.i,HYY.i];exact M9.i,fun j hj=>by
      by_cases hjk:j=k
      ·rw[hjk];exact HG.i
      ·exact HA.i j (by omega)⟩
     case measure=>simp[intOf]<;>omega
    have t0:decide (0<(k:Int))=true:=by simp;omega
    have t00:decide (0<k)=true:=decide_eq_true (by omega);have hkp:0<k:=by omega
    have HOP:=ah (show DX pv=true by
     have:=HA.i (k-1) (by omega);unfold Sn at this;rw[HPV.i]at this;simp only[bB]at this;exact this.1)
    have HON:=ah (Km HOP.i);have CO:=ah (fun W=>QW pv y HON.i.1 JW.i.1 HON.i.2 JW.i.2 W);obtain⟨j,hj⟩:∃j:Nat,j=k-1:=⟨_,rfl⟩
    have i1:(k:Int)-1=(j:Int):=by omega
    have i2:(j:Int)<fn:=by omega
    rw[<-hj]at HPV;have HJK:=ah (show j<fn by omega);clear hj;have la:∀m,(Py (.c (some ⟨b,o+j*41,none⟩))).J aj (f m)=.ok (.d pv.aA) (f m):=fun m=>by
     obtain⟨b',o',e,_,hh,hcl⟩:=iF.fw (show iF Fw.aA 41 (f m) (f m).a.j (some ⟨b,o,none⟩) fn s.I from HS.i.f.go (ZY.i.go (ES.i m)).R) HJK.i;injection e with e
     injection e with e1 e2
     subst e1 e2;rw[HPV.i]at hcl;rw[ahy _ _ _ hh,hcl]
    obtain⟨c7,hc7⟩:∃c,lQ pv y=c:=⟨_,rfl⟩
    rw[hc7]at CO HI;have HOL:=ah hc7;clear hc7;cases c7
    ·have hk9:=hk0
     have HF:=ah (show KF=false by rw[<-HKF.i];exact mg _ k _ hkt (by rw[HI.i];simp[hk9]));refine nW f (by kernel_rfl) (by kernel_rfl) n0 E0 ?_
     repeat(go_big_quiet_step ((first|(go_at_call 48;(with_reducible refine(FR.i _).g ?_);rintro e w2 ⟨rfl,hb⟩;exact⟨rfl,EW.i _ ((ES.i _).trans (hb.g (ES.i _).j))⟩)|(go_at_call 49;(with_reducible refine(CO.i _).g ?_);rintro e w2 ⟨rfl,hb⟩;exact⟨rfl,EW.i _ ((ES.i _).trans (hb.g (ES.i _).j))⟩))))
     refine gN ?_;rintro _ ⟨m',rfl⟩;have HB:=ah (ES.i m');generalize f m'=wN at *;clear ES EW E0 hT n0;go_wp2;go_ret;exact⟨by rw[HJ.i,HF.i];rfl,(ZY.i.go HB.i).R⟩
    have HG:=ah (show Sn s k=true by rw[HI.i];simp[HOL.i]);refine nW f (by kernel_rfl) (by kernel_rfl) n0 E0 ?_
    repeat(go_big_quiet_step ((first|(go_at_call 48;(with_reducible refine(FR.i _).g ?_);rintro e w2 ⟨rfl,hb⟩;exact⟨rfl,EW.i _ ((ES.i _).trans (hb.g (ES.i _).j))⟩)|(go_at_call 49;(with_reducible refine(CO.i _).g ?_);rintro e w2 ⟨rfl,hb⟩;exact⟨rfl,EW.i _ ((ES.i _).trans (hb.g (ES.i _).j))⟩))))
    refine gN ?_;rintro _ ⟨m',rfl⟩;have HB:=ah (ES.i m');generalize f m'=wN at *;clear ES EW E0 hT n0;clear l1 l3 l4 l5 l6 l7 l8 l9;have ZN:=ah (ZY.i.go HB.i);have MN:=ah (MY.i.go HB.i);have l8:=Ql ZN.i.X;have TK:=ah (wL HC1.i);have HK1:=ah (show k<=1000000 by omega);go_wp2_with (refine Q9 rfl (.a 152) (.a 154) (.const (.e true)) rfl M k (Ei s.I k) rfl MN.i HK1.i y.key TK.i rfl rfl ?_;intro w9 h1 h2;have M9:=ah h1;have Z9:=ah (ZN.i.Vu.Xo h2 HM.i.1 HM.i.2);clear h1 h2);go_roundw
    case rel=>exact⟨k+1,by omega,by go_num,Z9.i,by rw[<-KEY.i,HYY.i];exact M9.i,fun j hj=>by
     by_cases hjk:j=k
     ·rw[hjk];exact HG.i
     ·exact HA.i j (by omega)⟩
    case measure=>simp[intOf]<;>omega
section
variable {W W':au} {q:Nat} {e:En} {s:qB} {x:Eg} {q2 g:Nat} {sl:List (Option Fw)}
theorem GV{B sz n c p:Nat}{T:bF}{A:Option aU}{xs:List aC}(h:W.c B T sz (.a A n c) n xs)(hf:jC [p] W W')(hp:p<B):W'.c B T sz (.a A n c) n xs:=yC h hf (fun k hk hm=>by simp at hm;subst hm;have:=h.lt _ hk;omega)
structure StO(B:Nat)(W:au)(X:Sh)(s:qB):Prop where
 Y:X.Y=s.Y
 bn:s.rX.a=X.b.n
 b:W.c B 62 27 (.a X.b.A X.b.n X.b.c) X.b.n (s.rX.h fun y=>y.aA.a)
 hn:s.h.a=X.h.n
 h:W.c B 100 3 (.a X.h.A X.h.n X.h.c) X.h.n (s.h.h fun y=>y.aA.a)
 fn:s.I.a=X.f.n
 f:W.c B 86 41 (.a X.f.A X.f.n X.f.c) X.f.n (s.I.h fun y=>y.aA.a)
 gq:X.gq=s.gq
 no:X.no=s.no
 lI:X.lI=s.lI
def an6(W:au)(s:qB)(r:lu)(W':au):Prop:=∃X:Sh,r=.a (.d X.aA)/\StO W.a.j W' X s/\aM W.a.j W W'
theorem kSh:oW 37 17 Jh.aA:=⟨⟨_,rZ,rfl⟩,by kernel_rfl,by kernel_rfl,Sh.I _⟩
@[go_sem]theorem aAn(W:au)(kY:Int)(A1:Option aU)(n1 c1:Nat)(A2:Option aU)(n2 c2:Nat)(A3:Option aU)(n3 c3:Nat)(t n:Int)(v:Vector Int 11):(atS #[(0,.d (Pc.mk kY A1 n1 c1).aA),(1,.a A2 n2 c2),(2,.a A3 n3 c3),(3,.b .a t),(4,.b .a n),(5,.d (v.a.map (aJ .a)).b)]).J aj W=.ok (.d (Sh.mk kY ⟨A1,n1,c1⟩ ⟨A2,n2,c2⟩ ⟨A3,n3,c3⟩ t n v).aA) W:=kSh.bd W _ _ _ _ rZ (YC W _ rZ) (by
 refine uS (Sh.I _) ?_ ?_
 ·simp[rM,bZ,Pc.I]
 ·simp[qW,bZ,Pc.aA,Sh.aA,shT,yL])
theorem Eg.aks{x:Eg}(h:dN W q x.aA):W.rangeAt q 79 (x.lI.a.map (aJ .a)):=by
 intro j v hj;have hj6:j<11:=by
  rcases aZ j 11 with h1|h1
  ·exact h1
  ·rw[aT (by simpa using h1)]at hj;cases hj
 have h2:(x.aA.extract 79 90)[j]? = (yL x.lI)[j]?:=by rw[Eg.anE]
 rw[dz,if_pos (by rw[Eg.I];omega)]at h2;rw[h.M.1,h2];unfold yL;rw[dY];exact hj
theorem Dx{M:Int}(h:yE W q e s x q2 g sl)(hi:oH M e s):aQ aj 20 #[.c (some ⟨q,0,none⟩)] W (an6 W s):=by
 have Z0:=ah ((Bx.start W).new Jh.aA 37);have H:=ah h;have HI:=ah hi;have HN:=ah (show s.rX.a=x.pl.rN/\s.h.a=x.Eh from⟨h.b.bk.1,h.b.hl.1⟩);have HF:=ah hi.few;have SZ:=ah (show W.a.j<(W.alloc (.D Jh.aA 37)).a.j by simp);clear h hi;go_enter Tryz.func20,Tryz.ntmps20;go_upto_region 1 with fail
 generalize W.alloc (.D Jh.aA 37)=w0 at Z0 SZ ⊢;have l1:=kPc.Dw (H.i.b.eg.go Z0.i.R) 70 (Eg.ah6 _) (by rw[Eg.I];omega);go_upto_region 2 with fail
 have Z1:=ah (Z0.i.new x.pl.aA 32);have SZ1:=ah (show w0.a.j<(w0.alloc (.D x.pl.aA 32)).a.j by simp);generalize w0.alloc (.D x.pl.aA 32)=w1 at Z1 SZ1 ⊢;have NP:=ah (show w0.a.j≠W.a.j by have:=SZ.i;omega);generalize w0.a.j=p at Z1 SZ SZ1 NP ⊢;clear l1;have f1:=(Z1.i.X.M.1 1).trans (Pc.anA x.pl);have CB:=ah (xI s.rX x.pl.rA x.pl.rC w1 (by have h1:=H.i.b.bk.go Z1.i.R;rw[HN.i.1];exact h1) (by have:=HF.i;omega));unfold aaG at CB;rw[HN.i.1]at CB;go_upto_region 3 with(go_at_call 61;(with_reducible refine CB.i.g ?_);rintro r w2 ⟨A1,c1,rfl,ho,hb⟩;have g1:=(Z1.i.X.go hb).M.2.1 1;have f1:=((Z1.i.X.go hb).M.1 1).trans (Pc.anA x.pl);have Z2:=ah (Z1.i.go hb);have O1:=ah ho;have SZ2:=ah hb.j;clear ho hb)
 have Z3:=ah (Z2.i.set (fun r hr=>by simp at hr;subst hr;have:=SZ.i;simp;omega) 1 (.a A1 x.pl.rN c1));rw[Pc.ah5]at Z3;have O3:=ah (yC O1.i ((jC.refl [p] w2).set ⟨p,1,none⟩ (.a A1 x.pl.rN c1) (.a (by simp))) (fun k hk hm=>by have:=gW O1.i;simp at hm;subst hm;have:=O1.i.lt _ hk;have:=SZ1.i;omega));have SZ3:=ah (show w1.a.j<=(w2.G ⟨p,1,none⟩ (.a A1 x.pl.rN c1)).a.j by have:=SZ2.i;simp[World.setCell];exact this);generalize w2.G ⟨p,1,none⟩ (.a A1 x.pl.rN c1)=w3 at Z3 O3 SZ3 ⊢;clear f1 g1;have KS:=ah (fun(w':au) (h0:dN w' p ({x.pl with rA:=A1,rN:=x.pl.rN,rC:=c1}:Pc).aA) (h1:dN w' q x.aA)=>show(xK 32 (.c (some ⟨p,0,none⟩))).J aj w'=.ok (.d (Pc.mk x.pl.Y A1 x.pl.rN c1).aA) w'/\w'.b ⟨q,72,none⟩=some (.a x.OO x.Eh x.Sz)/\w'.b ⟨q,74,none⟩=some (.c (some ⟨q2,0,none⟩))/\w'.b ⟨q,77,none⟩=some (.b .a x.gq)/\w'.b ⟨q,78,none⟩=some (.b .a x.no)/\w'.rangeAt q 79 (x.lI.a.map (aJ .a))from
  ⟨kPc.Dw h0 0 (Pc.all _) (by rw[Pc.I];omega),(h1.M.1 72).trans (Eg.Zu _),by rw[h1.M.1 74,Eg.Zv,H.i.b.fl];rfl,(h1.M.1 77).trans (Eg.TU _),(h1.M.1 78).trans (Eg.anD _),Eg.aks h1⟩)
 have CH:=ah (fun(w:au) (hb:aM W.a.j W w)=>LP s.h x.OO x.Eh x.Sz w (H.i.b.hl.go hb) (by have:=HF.i;have:=HN.i;omega));have CL:=ah (fun(w:au) (hb:aM W.a.j W w)=>agz (H.i.b.h.go hb));unfold ClP at CH;have hU:=Fy;have hI:(aj.info? 35).map (·.j)=some (x.lI.a.map (aJ .a)).a:=by rw[bV,nR];kernel_rfl
 go_region_held_law (fun w'=>(xK 32 (.c (some ⟨p,0,none⟩))).J aj w'=.ok (.d (Pc.mk x.pl.Y A1 x.pl.rN c1).aA) w'/\w'.b ⟨q,72,none⟩=some (.a x.OO x.Eh x.Sz)/\w'.b ⟨q,74,none⟩=some (.c (some ⟨q2,0,none⟩))/\w'.b ⟨q,77,none⟩=some (.b .a x.gq)/\w'.b ⟨q,78,none⟩=some (.b .a x.no)/\w'.rangeAt q 79 (x.lI.a.map (aJ .a)))
  (first|exact KS.i _ Z3.i.drew.X (H.i.b.eg.go Z3.i.drew.R)|exact KS.i _ Z4.i.X (H.i.b.eg.go Z4.i.R)|exact KS.i _ Z5.i.X (H.i.b.eg.go Z5.i.R)|exact KS.i _ Z6.i.b1 (H.i.b.eg.go Z6.i.R)|go_keep)
  (first
  | (go_at_call 59;(with_reducible refine(CH.i _ Z3.i.drew.R).g ?_);rintro r w4 ⟨A2,c2,rfl,ho,hb⟩;have Z4:=ah (Z3.i.drew.go hb);have O2:=ah ho;have S4:=ah (show w3.a.j<=w4.a.j from hb.j);have B4:=ah (show aM w3.a.j w3 w4 from(iD w3).trans hb);clear ho hb)
  | (go_at_call 65;(with_reducible refine(CL.i _ Z4.i.R).g ?_);rintro r w5 ⟨A3,c3,rfl,ho,hb⟩;have Z5:=ah (Z4.i.go hb);have O5:=ah ho;have B5:=ah hb;have th:=Z5.i.b1.O 0 17 (aY (Sh.I Jh).symm);have Z6:=ah (show Bx [(W.a.j,(Sh.mk x.pl.Y ⟨A1,x.pl.rN,c1⟩ ⟨A2,x.Eh,c2⟩ ⟨A3,s.I.a,c3⟩ x.gq x.no x.lI).aA),(p,({x.pl with rA:=A1,rN:=x.pl.rN,rC:=c1}:Pc).aA)] W (ami w5 W.a.j 0 (Sh.mk x.pl.Y ⟨A1,x.pl.rN,c1⟩ ⟨A2,x.Eh,c2⟩ ⟨A3,s.I.a,c3⟩ x.gq x.no x.lI))from Z5.i.swap.put (fun r hr=>by rw[fT.1 hr];exact NP.i) _ (by rw[Sh.I,Sh.I]));clear ho hb))
 have FS:=ah (show jC [W.a.j] w5 (ami w5 W.a.j 0 (Sh.mk x.pl.Y ⟨A1,x.pl.rN,c1⟩ ⟨A2,x.Eh,c2⟩ ⟨A3,s.I.a,c3⟩ x.gq x.no x.lI))from yF w5 W.a.j 0 _);have hs:=SZ.i;have hs1:=SZ1.i;have hs3:=SZ3.i;have hs4:=S4.i;have hw:=Z3.i.R.j;go_wp2_with fail;refine aO (kSh.zm rfl _ rfl Z6.i.X (Sh.I _)) rfl ?_;refine⟨_,rfl,⟨H.i.b.Y,HN.i.1,?_,HN.i.2,?_,rfl,?_,H.i.b.gq,H.i.b.no,H.i.b.lI⟩,Z6.i.R⟩
 ·exact iM (GV (fQ (fQ O3.i B4.i) B5.i) FS.i (by omega)) (by omega)
 ·exact iM (GV (fQ O2.i B5.i) FS.i (by simp;omega)) (by simp;omega)
 ·exact iM (GV O5.i FS.i (by omega)) (by omega)
theorem StO.r{M:Int}{B:Nat}{X:Sh}(h:StO B W X s)(hi:oH M e s):StR W W.a.j X s:=by
 have hf:=hi.few;have hl:=hi.fl.len;obtain⟨_,⟨r1,r2⟩,_⟩:=sN hi.cn;have h1:=h.bn;have h2:=h.hn;have h3:=h.fn;refine⟨h.Y,iF.gV h.bn h.b,iF.gV h.hn h.h,iF.gV h.fn h.f,h.gq,h.no,h.lI,hi.fi,fun y hy=>?_,fun y hy=>?_,by omega,by omega,by omega⟩
 ·have hm:y.E∈s.rX.map (·.E):=by rw[<-hi.nm];exact iX.2 ⟨y,hy,rfl⟩
  obtain⟨b,hb,e⟩:=iX.1 hm;have:=hf.2.2 b hb;rw[<-e];omega
 ·have:=hi.fl.ok y hy
  unfold DX vT at this;simp only[bB,decide_eq_true_eq]at this;omega
end
theorem Eg.Ji(x:Eg)(A:Option aU)(n c:Nat):x.aA.b 16 (.a A n c)=({x with cf:={x.cf with qj:=A,Y:=n,ql:=c}}:Eg).aA:=by simp[Eg.aA,aN,Cn.I,Pc.I,Tc.I,dL,j3,Cn.Ji]
theorem Eg.ah5(x:Eg)(A:Option aU)(n c:Nat):x.aA.b 71 (.a A n c)=({x with pl:={x.pl with rA:=A,rN:=n,rC:=c}}:Eg).aA:=by simp[Eg.aA,aN,Cn.I,Pc.I,Tc.I,dL,j3,Pc.ah5]
theorem Eg.anA(x:Eg):x.aA[71]? = some (.a x.pl.rA x.pl.rN x.pl.rC):=by simp[Eg.aA,aG,Cn.I,Pc.I,Tc.I,dL,j3,Pc.aA]
theorem Ms.qZ{W W':au}{q:Nat}{e:En}{s:qB}{x:Eg}{q2 g:Nat}{sl sl':List (Option Fw)}{l':List Fw}(h:Ms W q e s x q2 g sl)(hf:jC [q2,g] W W')(ht:KL W' q2 g e.key e.c.dX sl' l')(hl:sl'.a=sl.a):Ms W' q e {s with I:=l'} x q2 g sl':=by
 have o:∀b,b∈mD x->b∉[q2,g]:=fun b hm=>by have:=h.Af b hm;simp;omega
 have hs:=hf.j;have hq:=h.nq;exact⟨hf.box h.eg (by simp;omega),h.key,h.cf,h.Y,h.vs.keep hf (fun b hm=>o b (dZ.2 (.a hm))),h.bk.keep hf (fun b hm=>o b (dZ.2 (.b (.a hm)))),h.hl.keep hf (fun b hm=>o b (dZ.2 (.b (.b (.a hm))))),h.fl,ht,by rw[hl];exact h.rm,h.nq,fun b hm=>by have:=h.Af b hm;omega,h.gq,h.no,h.lI⟩
theorem aev{W:au}{b o:Nat}{c:Array aC}{xs:List aC}(h:dN W b c)(hc:∀j,j<xs.a->c[o+j]? = xs[j]?):W.rangeAt b o xs:=by
 intro j v hj;have hlt:j<xs.a:=by
  rcases aZ j xs.a with h1|h1
  ·exact h1
  ·rw[aT h1]at hj;cases hj
 rw[h.M.1,hc j hlt,hj]
theorem an7{W:au}{b:Nat}{xs:List aC}(h:dN W b xs.b):W.rangeAt b 0 xs:=aev h (fun j _=>by rw[bl,dY])
@[go_sem]theorem aAo(W:au)(key:Vector UInt8 16)(cf:Cn)(pl:Pc)(A:Option aU)(n c:Nat)(ti no:Int)(ct:Vector Int 11):(uJ 123 #[(0,.d (key.a.map bv).b),(1,.d cf.aA),(2,.d pl.aA),(3,.a A n c),(7,.b .a ti),(8,.b .a no),(9,.d (ct.a.map (aJ .a)).b)]).J aj W=.ok (.d (Eg.mk key cf pl A n c none 0 0 none Da ti no ct).aA) W:=anH W key cf pl A n c ti no ct
theorem an8(X:Sh)(j:Nat)(h:j<11):X.aA[6+j]? = (X.lI.a.map (aJ .a))[j]?:=by
 rw[Sh.ahz X j h];simp[av,h]
def Ll(W:au)(key:Vector UInt8 16)(c:Cn)(vs:List Vp)(s:qB)(r:lu)(W':au):Prop:=
 ∃q x q2 g sl,r=.a (.K #[.c (some ⟨q,0,none⟩),.b .a 0])/\yE W' q ⟨key,c,vs⟩ s x q2 g sl/\aM W.a.j W W'/\(W.a.j<=q/\W.a.j<=q2/\W.a.j<=g)/\∀b∈mD x,W.a.j<=b
theorem abR(key:Vector UInt8 16)(c:Cn)(vs:List Vp)(X:Sh)(s:qB)(w:au)(hV:iF Vp.aA 20 w w.a.j c.qj c.Y vs)(hvc:c.Y<=c.ql)(hvn:c.Y<=100000)(hS:StR w w.a.j X s)(hbl:s.rX.a<=100000)(hhl:s.h.a<=100000)(hfl:s.I.a<=100000)(hJ:zw c vs s=false):
 aQ aj 19 #[.d (jg key),.d c.aA,.d X.aA] w (gy w (.K #[.c none,.b .a 1])):=by
 have h0:=(((Bx.start w).new (jg key) 22).new c.aA 29).new X.aA 37;rw[show((w.alloc (.D (jg key) 22)).alloc (.D c.aA 29)).a.j=w.a.j+2 by simp,show(w.alloc (.D (jg key) 22)).a.j=w.a.j+1 by simp]at h0;have Z0:=ah h0;have CR:=ah (fun w1 (hb:aM w.a.j w w1)=>JG c vs X s w1 (hV.go hb) hvc hvn (hS.go hb) hbl hhl hfl false hJ);clear h0 hV hvc hvn hS hbl hhl hfl hJ;go_enter Tryz.func19,Tryz.ntmps19;go_upto_region 1 with fail
 generalize((w.alloc (.D (jg key) 22)).alloc (.D c.aA 29)).alloc (.D X.aA 37)=w0 at Z0 ⊢;obtain⟨x1,x2,x3,x4⟩:=Z0.i.b1.M;obtain⟨y1,y2,y3,y4⟩:=Z0.i.X.M;go_wp2_with (go_at_call 15;(with_reducible refine(CR.i _ Z0.i.R).g ?_);rintro e w1 ⟨rfl,hb1⟩;have Z1:=ah (Z0.i.go hb1);clear hb1);go_ret2;exact⟨rfl,Z1.i.R⟩
theorem XO(key:Vector UInt8 16)(c:Cn)(vs:List Vp)(X:Sh)(s:qB)(w:au)(hV:iF Vp.aA 20 w w.a.j c.qj c.Y vs)(hvc:c.Y<=c.ql)(hvn:c.Y<=100000)(hS:StR w w.a.j X s)(hJ:zw c vs s=true):
 aQ aj 19 #[.d (jg key),.d c.aA,.d X.aA] w (Ll w key c vs s):=by
 have hi:=agk key hJ hS.qg;have akg:=hi.few;have hlen:=hi.fl.len;obtain⟨_,⟨hr1,hr2⟩,_⟩:=sN hi.cn;simp only at hlen hr1 hr2;have h0:=(((Bx.start w).new (jg key) 22).new c.aA 29).new X.aA 37;rw[show((w.alloc (.D (jg key) 22)).alloc (.D c.aA 29)).a.j=w.a.j+2 by simp,show(w.alloc (.D (jg key) 22)).a.j=w.a.j+1 by simp]at h0;have Z0:=ah h0;have CR:=ah (fun w1 (hb:aM w.a.j w w1)=>JG c vs X s w1 (hV.go hb) hvc hvn (hS.go hb) (by omega) (by omega) (by omega) true hJ);have HI:=ah hi;have HS:=ah hS;have HV:=ah hV;have HVN:=ah hvn;have HFW:=ah akg;have HRM:=ah (show(1<=c.dX/\c.dX<=4096)/\s.I.a<=4096 by omega);clear h0 hV hvc hvn hS hJ hi akg hlen hr1 hr2;go_enter Tryz.func19,Tryz.ntmps19;go_upto_region 1 with fail
 have SZ0:=ah (show w.a.j+2<(((w.alloc (.D (jg key) 22)).alloc (.D c.aA 29)).alloc (.D X.aA 37)).a.j by simp);generalize((w.alloc (.D (jg key) 22)).alloc (.D c.aA 29)).alloc (.D X.aA 37)=w0 at Z0 SZ0 ⊢;rw[show w.a.j+1+1=w.a.j+2 from rfl];obtain⟨x1,x2,x3,x4⟩:=Z0.i.b1.M;obtain⟨y1,y2,y3,y4⟩:=Z0.i.X.M;go_upto_region 3 with(go_at_call 15;(with_reducible refine(CR.i _ Z0.i.R).g ?_);rintro e w1 ⟨rfl,hb1⟩;have Z1:=ah (Z0.i.go hb1);have SZ1:=ah (eZ SZ0.i hb1.j);clear hb1)
 clear x1 x2 x3 x4 y1 y2 y3 y4;have KS:=ah (fun(w':au) (h:Bx [(w.a.j+2,X.aA),(w.a.j+1,c.aA),(w.a.j,jg key)] w w')=>show w'.rangeAt w.a.j 0 (key.a.map bv)/\(xK 29 (.c (some ⟨w.a.j+1,0,none⟩))).J aj w'=.ok (.d c.aA) w'/\(xK 32 (.c (some ⟨w.a.j+2,0,none⟩))).J aj w'=.ok (.d (Pc.mk X.Y X.b.A X.b.n X.b.c).aA) w'/\w'.b ⟨w.a.j+2,2,none⟩=some (.a X.h.A X.h.n X.h.c)/\w'.b ⟨w.a.j+2,4,none⟩=some (.b .a X.gq)/\w'.b ⟨w.a.j+2,5,none⟩=some (.b .a X.no)/\w'.rangeAt (w.a.j+2) 6 (X.lI.a.map (aJ .a))by
  refine⟨an7 h.b2,TD.mW h.b1 (Cn.I _),kPc.Dw h.X 0 (Sh.Nu X) (by rw[Sh.I];omega),(h.X.M.1 2).trans (Sh.Uj X),(h.X.M.1 4).trans (Sh.amf X),(h.X.M.1 5).trans (Sh.amg X),?_⟩;exact aev (o:=6) h.X (fun j hj=>an8 X j (by simpa using hj)))
 have CH:=ah (fun(w1:au) (hb:aM w.a.j w w1)=>LP s.h X.h.A X.h.n X.h.c w1 (HS.i.h.go hb) (by have:=HS.i.h.1;have:=HFW.i;omega));unfold ClP at CH;have hU:=qp;have hI:(aj.info? 22).map (·.j)=some (key.a.map bv).a:=by rw[bV,nR];kernel_rfl
 have hU2:=Fy;have hI2:(aj.info? 35).map (·.j)=some (X.lI.a.map (aJ .a)).a:=by rw[bV,nR];kernel_rfl
 refine wp_region_held_drew (S:=(fun w'=>w'.rangeAt w.a.j 0 (key.a.map bv)/\(xK 29 (.c (some ⟨w.a.j+1,0,none⟩))).J aj w'=.ok (.d c.aA) w'/\(xK 32 (.c (some ⟨w.a.j+2,0,none⟩))).J aj w'=.ok (.d (Pc.mk X.Y X.b.A X.b.n X.b.c).aA) w'/\w'.b ⟨w.a.j+2,2,none⟩=some (.a X.h.A X.h.n X.h.c)/\w'.b ⟨w.a.j+2,4,none⟩=some (.b .a X.gq)/\w'.b ⟨w.a.j+2,5,none⟩=some (.b .a X.no)/\w'.rangeAt (w.a.j+2) 6 (X.lI.a.map (aJ .a)))) (by kernel_rfl) ?_ (fun hHeld=>?_)
 ·exact KS.i _ Z1.i.drew
 refine pJ (i:=0) rfl (by kernel_rfl) (by kernel_rfl) (by kernel_rfl) (fun _ _ _ h=>h) (yieldsIf_load_mid (by rfl) 22 (.a 3) rfl (w.a.j) 0 rfl (key.a.map bv) _ (fun w' h=>h.1) hU rfl hI) (by assumption) ?_
 try simp only[lG,bJ,bM,bI]
 refine pJ (i:=11) (v:=?_) rfl (by kernel_rfl) (by kernel_rfl) (by kernel_rfl) (fun _ _ _ h=>h) (Co ⟨by rfl,?_⟩) (by assumption) ?_;rotate_left
 ·intro w' hSw
  try dsimp only at hSw
  go_simp
  try with_reducible rfl
 try simp only[lG,bJ,bM,bI]
 refine pJ (i:=12) rfl (by kernel_rfl) (by kernel_rfl) (by kernel_rfl) (fun _ _ _ h=>h) (yieldsIf_load_mid (by rfl) 35 (.a 26) rfl (w.a.j+2) 6 rfl (X.lI.a.map (aJ .a)) _ (fun w' h=>h.2.2.2.2.2.2) hU2 rfl hI2) (by assumption) ?_
 try simp only[lG,bJ,bM,bI]
 refine pJ (i:=4) (v:=?_) rfl (by kernel_rfl) (by kernel_rfl) (by kernel_rfl) (fun _ _ _ h=>h) (Co ⟨by rfl,?_⟩) (by assumption) ?_;rotate_left
 ·intro w' hSw
  try dsimp only at hSw
  go_simp
  try with_reducible rfl
 try simp only[lG,bJ,bM,bI]
 refine pJ (i:=5) (v:=?_) rfl (by kernel_rfl) (by kernel_rfl) (by kernel_rfl) (fun _ _ _ h=>h) (Co ⟨by rfl,?_⟩) (by assumption) ?_;rotate_left
 ·intro w' hSw
  try dsimp only at hSw
  go_simp
  try with_reducible rfl
 try simp only[lG,bJ,bM,bI]
 refine pJ (i:=7) (v:=?_) rfl (by kernel_rfl) (by kernel_rfl) (by kernel_rfl) (fun _ _ _ h=>h) (Co ⟨by rfl,?_⟩) (by assumption) ?_;rotate_left
 ·intro w' hSw
  try dsimp only at hSw
  go_simp
  try with_reducible rfl
 try simp only[lG,bJ,bM,bI]
 refine pJ (i:=8) (v:=?_) rfl (by kernel_rfl) (by kernel_rfl) (by kernel_rfl) (fun _ _ _ h=>h) (Co ⟨by rfl,?_⟩) (by assumption) ?_;rotate_left
 ·intro w' hSw
  try dsimp only at hSw
  go_simp
  try with_reducible rfl
 try simp only[lG,bJ,bM,bI]
 refine pJ (i:=9) (v:=?_) rfl (by kernel_rfl) (by kernel_rfl) (by kernel_rfl) (fun _ _ _ h=>h) (Co ⟨by rfl,?_⟩) (by assumption) ?_;rotate_left
 ·intro w' hSw
  try dsimp only at hSw
  go_simp
  try with_reducible rfl
 try simp only[lG,bJ,bM,bI]
 refine pJ (i:=10) (v:=?_) rfl (by kernel_rfl) (by kernel_rfl) (by kernel_rfl) (fun _ _ _ h=>h) (Co ⟨by rfl,?_⟩) (by assumption) ?_;rotate_left
 ·intro w' hSw
  try dsimp only at hSw
  go_simp
  try with_reducible rfl
 try simp only[lG,bJ,bM,bI]
 refine pJ (i:=2) (v:=?_) rfl (by kernel_rfl) (by kernel_rfl) (by kernel_rfl) (fun _ _ _ h=>h) (Co ⟨by rfl,?_⟩) (by assumption) ?_;rotate_left
 ·intro w' hSw
  try dsimp only at hSw
  go_simp
  try with_reducible rfl
 try simp only[lG,bJ,bM,bI]
 refine pJ (i:=1) (v:=.d c.aA) rfl (by kernel_rfl) (by kernel_rfl) (by kernel_rfl) (fun _ _ _ h=>h) (Co ⟨by rfl,fun w' hSw=>?_⟩) (by assumption) ?_
 ·have hrun:=hSw.2.1
  clear hSw;go_simp
 try simp only[lG,bJ,bM,bI]
 refine pJ (i:=3) (v:=.d (Pc.mk X.Y X.b.A X.b.n X.b.c).aA) rfl (by kernel_rfl) (by kernel_rfl) (by kernel_rfl) (fun _ _ _ h=>h) (Co ⟨by rfl,fun w' hSw=>?_⟩) (by assumption) ?_
 ·have hrun:=hSw.2.2.1
  clear hSw;go_simp
 try simp only[lG,bJ,bM,bI]
 refine wpAnyH_ready (rs:=[6]) (by kernel_rfl) (by simp) ?_;refine AllReadyH.cons rfl (fun K hK=>?_) AllReadyH.nil;go_simp;go_wp2_with (go_at_call 59;(with_reducible refine(CH.i _ Z1.i.drew.R).g ?_);rintro r w2 ⟨A1,c1,rfl,ho,hb⟩;have Z2:=ah (Z1.i.drew.go hb);have O2:=ah ho;have SZ2:=ah (show w1.a.j<=w2.a.j from hb.j);clear ho hb);clear hHeld;refine hK.i _ _ (KS.i _ Z2.i) (fun hHeld=>?_);clear hK K
 try simp only[lG,bJ,bM,bI]
 refine pJ (i:=13) (v:=?_) rfl (by kernel_rfl) (by kernel_rfl) (by kernel_rfl) (fun _ _ _ h=>h) (Co ⟨by rfl,?_⟩) (by assumption) ?_;rotate_left
 ·intro w' hSw
  try dsimp only at hSw
  go_simp
  try with_reducible rfl
 try simp only[lG,bJ,bM,bI]
 refine wpAnyH_ready (rs:=[14]) (by kernel_rfl) (by simp) ?_;refine AllReadyH.cons rfl (fun K hK=>?_) AllReadyH.nil;go_simp;clear hHeld;refine hK.i _ _ (KS.i _ (Z2.i.alloc _)) (fun hHeld=>?_);clear hK K;refine pJ (i:=15) (v:=?_) rfl (by kernel_rfl) (by kernel_rfl) (by kernel_rfl) (fun _ _ _ h=>h) (Co ⟨by rfl,?_⟩) (by assumption) ?_;rotate_left
 ·intro w' hSw
  try dsimp only at hSw
  go_simp
  try with_reducible rfl
 try simp only[lG,bJ,bM,bI]
 refine wpAnyH_done (by kernel_rfl) ?_ _;have ZE:=ah (Z2.i.new (Eg.mk key c ⟨X.Y,X.b.A,X.b.n,X.b.c⟩ A1 X.h.n c1 none 0 0 none Da X.gq X.no X.lI).aA 123);have O3:=ah (vF O2.i (.D (Eg.mk key c ⟨X.Y,X.b.A,X.b.n,X.b.c⟩ A1 X.h.n c1 none 0 0 none Da X.gq X.no X.lI).aA 123));have SZ3:=ah (show w2.a.j<(w2.alloc (.D (Eg.mk key c ⟨X.Y,X.b.A,X.b.n,X.b.c⟩ A1 X.h.n c1 none 0 0 none Da X.gq X.no X.lI).aA 123)).a.j by simp);clear hHeld;go_upto_region 4 with fail
 generalize w2.alloc (.D (Eg.mk key c ⟨X.Y,X.b.A,X.b.n,X.b.c⟩ A1 X.h.n c1 none 0 0 none Da X.gq X.no X.lI).aA 123)=w3 at ZE O3 SZ3 ⊢;have HQ:=ah (show w1.a.j<=w2.a.j from SZ2.i);have HF1:=ah (gW O2.i);have Te:=ah (show w.a.j<=w1.a.j from Z1.i.R.j);clear SZ2 O2 Z2;generalize w2.a.j=q at ZE SZ3 HQ HF1 ⊢;clear KS CH hU hI hU2 hI2;have HNE:=ah (show∀p∈[(w.a.j+2,X.aA),(w.a.j+1,c.aA),(w.a.j,jg key)],p.1≠q from fun p hp=>by
  have h1:=SZ1.i;have h2:=HQ.i;simp at hp;rcases hp with rfl|rfl|rfl<;>simp<;>omega)
 have CV:=ah (aes vs c.qj c.Y c.ql w3 (HV.i.go ZE.i.R) HVN.i);unfold avS at CV;have fv:=(ZE.i.b2.M.1 0).trans (Cn.AQ c);go_upto_region 5 with(go_at_call 60;(with_reducible refine CV.i.g ?_);rintro r w4 ⟨A2,c2,rfl,ho,hb⟩;have g16:=(ZE.i.X.go hb).M.2.1 16;have f16:=((ZE.i.X.go hb).M.1 16).trans (Eg.AQ _);have Z4:=ah (ZE.i.go hb);have O4:=ah ho;have B4:=ah hb;clear ho hb)
 have Z5:=ah (Z4.i.set HNE.i 16 (.a A2 c.Y c2));rw[Eg.Ji]at Z5;have F5:=ah (show jC [q] w3 (w4.G ⟨q,16,none⟩ (.a A2 c.Y c2))from(jC.jA (F:=[q]) B4.i).set ⟨q,16,none⟩ _ (.a (by simp)));have F45:=ah (show jC [q] w4 (w4.G ⟨q,16,none⟩ (.a A2 c.Y c2))from(jC.refl [q] w4).set ⟨q,16,none⟩ _ (.a (by simp)));generalize w4.G ⟨q,16,none⟩ (.a A2 c.Y c2)=w5 at Z5 F5 F45 ⊢;clear g16 f16 fv CV;have O5:=ah (GV O4.i F45.i SZ3.i);have HBN:=ah (show s.rX.a=X.b.n from HS.i.b.1);have CB:=ah (xI s.rX X.b.A X.b.c w5 (by have h1:=HS.i.b.go Z5.i.R;rw[<-HBN.i]at h1;exact h1) (by have:=HFW.i;omega));unfold aaG at CB;rw[HBN.i]at CB;have fb:=(Z5.i.b1.M.1 1).trans (Sh.Ev X);go_upto_region 6 with(go_at_call 61;(with_reducible refine CB.i.g ?_);rintro r w6 ⟨A3,c3,rfl,ho,hb⟩;have g71:=(Z5.i.X.go hb).M.2.1 71;have f71:=((Z5.i.X.go hb).M.1 71).trans (Eg.anA _);have Z6:=ah (Z5.i.go hb);have O6:=ah ho;have B6:=ah hb;clear ho hb)
 have Z7:=ah (Z6.i.set HNE.i 71 (.a A3 X.b.n c3));rw[Eg.ah5]at Z7;have F7:=ah (show jC [q] w5 (w6.G ⟨q,71,none⟩ (.a A3 X.b.n c3))from(jC.jA (F:=[q]) B6.i).set ⟨q,71,none⟩ _ (.a (by simp)));have F67:=ah (show jC [q] w6 (w6.G ⟨q,71,none⟩ (.a A3 X.b.n c3))from(jC.refl [q] w6).set ⟨q,71,none⟩ _ (.a (by simp)));generalize w6.G ⟨q,71,none⟩ (.a A3 X.b.n c3)=w7 at Z7 F7 F67 ⊢;clear g71 f71 fb CB;have O7:=ah (GV O6.i F67.i (eZ SZ3.i F5.i.j));have CF:=ah (aj1 key c.dX.e (by have:=HRM.i;omega) (by have:=HRM.i;omega) w7);rw[show((c.dX.e:Nat):Int)=c.dX from Int.toNat_of_nonneg (by have:=HRM.i;omega)]at CF;unfold asD at CF;have lk:=Sr.mW Z7.i.b3 (dL _);have fr:=(Z7.i.b2.M.1 2).trans (Cn.Tt c);go_upto_region 7 with(go_at_call 62;(with_reducible refine CF.i.g ?_);rintro r w8 ⟨q2,g,sl,rfl,ht,hrm,hq2,hg,hb⟩;have g74:=(Z7.i.X.go hb).M.2.1 74;have f74:=((Z7.i.X.go hb).M.1 74).trans (Eg.Zv _);have Z8:=ah (Z7.i.go hb);have T8:=ah ht;have HQ2:=ah hq2;have HG:=ah hg;have RM:=ah hrm;have B8:=ah hb;clear ht hq2 hg hrm hb)
 have Z9:=ah (Z8.i.set HNE.i 74 (aeg (some q2)));rw[Eg.avz]at Z9;change Hid (Bx _ w (w8.G ⟨q,74,none⟩ (.c (some ⟨q2,0,none⟩))))at Z9;have F9:=ah (show jC [q] w8 (w8.G ⟨q,74,none⟩ (.c (some ⟨q2,0,none⟩)))from(jC.refl [q] w8).set ⟨q,74,none⟩ _ (.a (by simp)));generalize w8.G ⟨q,74,none⟩ (.c (some ⟨q2,0,none⟩))=w9 at Z9 F9 ⊢;clear g74 f74 fr lk CF;obtain⟨x9,hx9,zx⟩:∃x9:Eg,x9=Eg.mk key {c with qj:=A2,Y:=c.Y,ql:=c2} ⟨X.Y,A3,X.b.n,c3⟩ A1 X.h.n c1 none 0 0 (some q2) Da X.gq X.no X.lI/\Bx ((q,x9.aA)::[(w.a.j+2,X.aA),(w.a.j+1,c.aA),(w.a.j,jg key)]) w w9:=⟨_,rfl,Z9.i⟩
 have HX9:=ah hx9;have ZX:=ah zx;clear hx9 zx Z9;have G79:=ah (show jC [q] w7 w9 from(jC.jA (F:=[q]) B8.i).pO F9.i);have G59:=ah (F7.i.pO G79.i);have G39:=ah (F5.i.pO G59.i);have SS:=ah (show w.a.j<=w1.a.j/\w1.a.j<=q/\q<w3.a.j/\w3.a.j<=w4.a.j/\w4.a.j<=w5.a.j/\w5.a.j<=w6.a.j/\w6.a.j<=w7.a.j/\w7.a.j<=w8.a.j/\w8.a.j<=w9.a.j/\w7.a.j<=q2/\w7.a.j<=g/\q2<w8.a.j/\g<w8.a.j from⟨Te.i,HQ.i,SZ3.i,B4.i.j,F45.i.j,B6.i.j,F67.i.j,B8.i.j,F9.i.j,HQ2.i,HG.i,T8.i.w.lt.1,T8.i.w.lt.2⟩);have HR9:=ah (show∀b∈mD x9,(w.a.j<=b/\b<w9.a.j)/\b≠q/\b≠q2/\b≠g from fun b hb=>by
  have hss:=SS.i;rw[HX9.i]at hb;rcases dZ.1 hb with hb|hb|hb|hb|hb|hb
  ·have:=gW O4.i b hb;omega
  ·have:=gW O6.i b hb;omega
  ·have:=HF1.i b hb;have h2:w1.drew.a.j=w1.a.j:=rfl;omega
  ·cases hb
  ·cases hb
  ·cases hb)
 have E9:=ah (show Ms w9 q ⟨key,c,vs⟩ {s with I:=[]} x9 q2 g sl by
  have hss:=SS.i;have h4:=gW O4.i;have h6:=gW O6.i;have h1:=HF1.i;have h2:w1.drew.a.j=w1.a.j:=rfl;refine⟨ZX.i.X,by rw[HX9.i],by rw[HX9.i],by rw[HX9.i];exact HS.i.Y,?_,?_,?_,by rw[HX9.i],T8.i.keep F9.i (by simp;omega) (by simp;omega),RM.i,by omega,fun b hb=>by have:=HR9.i b hb;omega,by rw[HX9.i];exact HS.i.gq,by rw[HX9.i];exact HS.i.no,by rw[HX9.i];exact HS.i.lI⟩
  ·rw[HX9.i]
   exact(iF.gV HV.i.1 O5.i).keep G59.i (fun b hb=>by have:=h4 b hb;simp;omega)
  ·rw[HX9.i]
   exact(iF.gV HBN.i O7.i).keep G79.i (fun b hb=>by have:=h6 b hb;simp;omega)
  ·rw[HX9.i]
   exact(iF.gV HS.i.h.1 O3.i).keep G39.i (fun b hb=>by have:=h1 b hb;simp;omega))
 clear O3 O5 O7 O4 O6 G39 G59 G79 F5 F45 F7 F67 F9 B4 B6 B8 HF1 Te HQ HQ2 HG RM T8 Z7 Z8 Z6 Z5 Z4 ZE;have ff:=(ZX.i.b1.M.1 3).trans (Sh.acY X);have HFN:=ah (show s.I.a=X.f.n from HS.i.f.1);go_wp2;clear ff;go_loopw [58] (fun s58 wr=>∃(k:Nat)(sl':List (Option Fw)),k<=X.f.n/\s58=.b .a k/\KL wr q2 g key c.dX sl' (s.I.d k)/\sl'.a=sl.a/\jC [q2,g] w9 wr) (fun s58 _=>X.f.n-(intOf s58).e)
 case atStart=>exact⟨0,sl,by omega,rfl,by have:=E9.i.h;exact this,rfl,jC.refl _ _⟩
 case round=>
  obtain⟨k,sl',hkn,rfl,ht,hsl,hf⟩:=hrel;have HT:=ah ht;have HSL:=ah hsl;have HF:=ah hf;have BW:=ah (show aM w.a.j w wr from ZX.i.R.trans (hf.qO (fun b hb=>by have:=SS.i;simp at hb;omega) ZX.i.R.j));have EB:=ah (show Ms wr q ⟨key,c,vs⟩ {s with I:=s.I.d k} x9 q2 g sl' from E9.i.qZ hf ht hsl);clear ht hsl hf;have hfs:X.f.n<=4096:=by have:=HRM.i;have:=HFN.i;omega
  by_cases hkt:k<X.f.n
  ·have hlt2:(k:Int)<X.f.n:=by omega
   have RF:=ah (show iF Fw.aA 41 wr wr.a.j X.f.A X.f.n s.I from HS.i.f.go BW.i);obtain⟨b,o,hA,hbl,hh,hcl⟩:=iF.fw RF.i hkt;have HPN:=ah (am7 (k:=k) HI.i.fl (show k<s.I.a by rw[HFN.i];exact hkt));simp only at HPN;obtain⟨y,hy⟩:=sQ (s.I.c k ko);have HYN:=ah (show y.E.a<=1000000 by
    have:=HI.i.fl.ok y (by rw[<-hy];exact Eu ko s.I k (by rw[HFN.i];exact hkt));unfold DX vT at this;simp only[bB,decide_eq_true_eq]at this;omega)
   rw[hy]at hcl HPN;have EY:=ah (EB.i.go ((aH _ _).alloc (ay _) (.D y.aA 86)));have BY:=ah (dN.new wr y.aA 86);have FY:=ah (HF.i.alloc (.D y.aA 86));have SY:=ah (show w9.a.j<=wr.a.j from HF.i.j);rw[hA];go_upto_region 10 with fail
   generalize wr.alloc (.D y.aA 86)=w11 at EY BY FY ⊢;have HPY:=ah (show wr.a.j∉[q2,g]by have:=SS.i;have:=SY.i;simp;omega);have KP:=ah (fun(w':au) (h0:dN w' wr.a.j y.aA) (h1:dN w' q x9.aA)=>show(Py (.c (some ⟨wr.a.j,0,none⟩))).J aj w'=.ok (.d y.aA) w'/\w'.b ⟨q,74,none⟩=some (.c (some ⟨q2,0,none⟩))from⟨kJ h0,by rw[h1.M.1 74,Eg.Zv,E9.i.fl];rfl⟩);have CU:=ah (Zp (EY.i.go (iD _)).h (by have:=HRM.i;exact this.1.1) (EY.i.go (iD _)).rm y HYN.i);unfold agB at CU;have HQN:=ah (show q∉[q2,g]by have:=SS.i;simp;omega);clear hh hcl hbl hy;go_region_held_law (fun w'=>(Py (.c (some ⟨wr.a.j,0,none⟩))).J aj w'=.ok (.d y.aA) w'/\w'.b ⟨q,74,none⟩=some (.c (some ⟨q2,0,none⟩)))
    (first|exact KP.i _ BY.i.drew (EY.i.go (iD _)).eg|exact KP.i _ (F12.i.box BY.i.drew HPY.i) (F12.i.box (EY.i.go (iD _)).eg HQN.i)|go_keep)
    (first|(go_at_call 63;(with_reducible refine CU.i.g ?_);rintro r w12 ⟨rfl,⟨sl2,ht2,hl2⟩,hf2⟩;have F12:=ah hf2;have T12:=ah ht2;have L12:=ah hl2;clear hf2 ht2 hl2))
   go_wp2;go_roundw
   case rel=>exact⟨k+1,sl2,by omega,by go_num,by have:=T12.i;rw[HPN.i]at this;exact this,by rw[L12.i];exact HSL.i,(FY.i.drewN 1).pO F12.i⟩
   case measure=>simp[intOf]<;>omega
  ·obtain rfl:k=X.f.n:=by omega
   have hnl:¬((X.f.n:Nat):Int)<X.f.n:=by omega
   have EB2:=ah (show Ms wr q ⟨key,c,vs⟩ s x9 q2 g sl' by
    have:=EB.i;rw[List.take_of_length_le (by have:=HFN.i;omega)]at this;exact this)
   have CB:=ah (JE EB2.i HI.i);unfold abJ at CB;clear hkt;go_wp2_with (go_at_call 64;(with_reducible refine CB.i.g ?_);rintro r w13 ⟨rfl,⟨x',hE,hrw⟩,hf⟩;have HE:=ah hE;have HRW:=ah hrw;have HFB:=ah hf;clear hE hrw hf);go_ret2;have hss:=SS.i;have hsw:=BW.i.j;exact⟨q,x',q2,g,sl',rfl,HE.i,BW.i.trans (HFB.i.qO (fun b hb=>by simp at hb;omega) hsw),by omega,fun b hb=>by
    rcases HRW.i b hb with h|h
    ·exact(HR9.i b h).1.1
    ·omega⟩
section
theorem ah'(W:au):StR W W.a.j Jh uO:=⟨rfl,iF.nil _ _,iF.nil _ _,iF.nil _ _,rfl,rfl,rfl,(fun y hy=>by cases hy),(fun y hy=>by cases hy),(fun y hy=>by cases hy),by simp[Jh,Dp],by simp[Jh,Dp],by simp[Jh,Dp]⟩
theorem Ll.aFA{w w1:au}{key:Vector UInt8 16}{c:Cn}{vs:List Vp}{s:qB}{r:lu}{W':au}(h:Ll w1 key c vs s r W')(hb:aM w.a.j w w1):Ll w key c vs s r W':=by
 obtain⟨q,x,q2,g,sl,h1,h2,h3,h4,h5⟩:=h;have:=hb.j;exact⟨q,x,q2,g,sl,h1,h2,hb.trans (h3.g hb.j),by omega,fun b hm=>by have:=h5 b hm;omega⟩
theorem akt{c:Cn}{vs:List Vp}(h:yu c vs=true):zw c vs uO=true:=(Qe (bH 16 0) h).right (by omega)
theorem Qm(key:Vector UInt8 16)(c:Cn)(vs:List Vp)(w:au)(hV:iF Vp.aA 20 w w.a.j c.qj c.Y vs)(hvc:c.Y<=c.ql)(hvn:c.Y<=100000)(hJ:yu c vs=true):
 aQ aj 23 #[.d (jg key),.d c.aA] w (Ll w key c vs uO):=by
 have h0:=((Bx.start w).new (jg key) 22).new c.aA 29;rw[show(w.alloc (.D (jg key) 22)).a.j=w.a.j+1 by simp]at h0;have Z0:=ah h0;have CR:=ah (fun w1 (hb:aM w.a.j w w1)=>XO key c vs Jh uO w1 (hV.go hb) hvc hvn (ah' w1) (akt hJ));clear h0 hV hvc hvn hJ;go_enter Tryz.func23,Tryz.ntmps23;go_upto_region 1 with fail
 generalize(w.alloc (.D (jg key) 22)).alloc (.D c.aA 29)=w0 at Z0 ⊢;have l1:=Sr.mW Z0.i.b1 (dL _);have l2:=TD.mW Z0.i.X (Cn.I _);go_wp2_with (go_at_call 19;(with_reducible refine(CR.i _ Z0.i.R).g ?_);rintro e w1 ⟨q,x,q2,g,sl,rfl,h2,h3,h4,h5⟩;have H:=ah (show Ll w key c vs uO (.a (.K #[.c (some ⟨q,0,none⟩),.b .a 0])) w1 from Ll.aFA ⟨q,x,q2,g,sl,rfl,h2,h3,h4,h5⟩ Z0.i.R);clear h2 h3 h4 h5);go_ret2;exact H.i
theorem aoa(key:Vector UInt8 16)(c:Cn)(vs:List Vp)(w:au)(hV:iF Vp.aA 20 w w.a.j c.qj c.Y vs)(hvc:c.Y<=c.ql)(hvn:c.Y<=100000)(hJ:yu c vs=false):
 aQ aj 23 #[.d (jg key),.d c.aA] w (gy w (.K #[.c none,.b .a 1])):=by
 have h0:=((Bx.start w).new (jg key) 22).new c.aA 29;rw[show(w.alloc (.D (jg key) 22)).a.j=w.a.j+1 by simp]at h0;have Z0:=ah h0;have CR:=ah (fun w1 (hb:aM w.a.j w w1)=>abR key c vs Jh uO w1 (hV.go hb) hvc hvn (ah' w1) (by simp[uO]) (by simp[uO]) (by simp[uO]) (by unfold zw Wn;rw[hJ];rfl));clear h0 hV hvc hvn hJ;go_enter Tryz.func23,Tryz.ntmps23;go_upto_region 1 with fail
 generalize(w.alloc (.D (jg key) 22)).alloc (.D c.aA 29)=w0 at Z0 ⊢;have l1:=Sr.mW Z0.i.b1 (dL _);have l2:=TD.mW Z0.i.X (Cn.I _);go_wp2_with (go_at_call 19;(with_reducible refine(CR.i _ Z0.i.R).g ?_);rintro e w1 ⟨rfl,hb1⟩;have Z1:=ah (Z0.i.go hb1);clear hb1);go_ret2;exact⟨rfl,Z1.i.R⟩
structure TbO(B:Nat)(W:au)(X:Tc)(t:Tl):Prop where
 nn:t.h.a=X.mM
 n:W.c B 9 1 (.a X.qF X.mM X.zA) X.mM (t.h.h fun y=>(txA y).a)
 sn:t.rJ.a=X.lM
 s:W.c B 3 1 (.a X.oP X.lM X.vY) X.lM (t.rJ.h fun y=>(Gt y).a)
def aku(W:au)(t:Tl)(r:lu)(W':au):Prop:=∃X:Tc,r=.a (.d X.aA)/\TbO W.a.j W' X t/\aM W.a.j W W'
theorem TlR.aAr{W:au}{A1 A2:Option aU}{n1 n2:Nat}{t:Tl}(h:TlR W A1 n1 A2 n2 t):YG W W.a.j A2 n2 t.rJ:=by
 obtain⟨_,h2,h3⟩:=h;subst h2;rcases h3 with⟨h4,rfl⟩|⟨g,d,rfl,h4,h5⟩
 ·rw[bG h4];exact iF.nil _ _
 ·exact YG.box h4 (fun j hj=>by rw[bl];exact h5 j hj)
theorem TlR.texts{W:au}{A1 A2:Option aU}{n1 n2:Nat}{t:Tl}(h:TlR W A1 n1 A2 n2 t):RdT W W.a.j A1 n1 t.h:=h.1
variable {W W':au} {q:Nat} {e:En} {s:qB} {x:Eg} {q2 g:Nat} {sl:List (Option Fw)}
theorem WX(t:Tl)(hE:dN W q x.aA)(hT:RdT W W.a.j x.h.qF x.h.mM t.h)(hI:YG W W.a.j x.h.oP x.h.lM t.rJ)(hn:t.h.a<=100000)(hs:t.rJ.a<=100000):aQ aj 31 #[.c (some ⟨q,0,none⟩)] W (aku W t):=by
 have Z0:=ah ((Bx.start W).new Da.aA 72);have HE:=ah hE;have HT:=ah hT;have HI:=ah hI;have HN:=ah (show t.h.a=x.h.mM/\t.rJ.a=x.h.lM from⟨hT.1,hI.1⟩);have HS:=ah (show x.h.mM<=100000/\x.h.lM<=100000 by rw[<-HN.i.1,<-HN.i.2];exact⟨hn,hs⟩);clear hE hT hI hn hs;go_enter Tryz.func31,Tryz.ntmps31;go_upto_region 1 with fail
 have SZ0:=ah (show W.a.j<(W.alloc (.D Da.aA 72)).a.j by simp);generalize W.alloc (.D Da.aA 72)=w0 at Z0 SZ0 ⊢;have KS:=ah (fun(w':au) (h1:dN w' q x.aA)=>show w'.b ⟨q,75,none⟩=some (.a x.h.qF x.h.mM x.h.zA)/\w'.b ⟨q,76,none⟩=some (.a x.h.oP x.h.lM x.h.vY)from⟨(h1.M.1 75).trans (Eg.Ci x),(h1.M.1 76).trans (Eg.wG x)⟩);have CN:=ah (fun(w:au) (hb:aM W.a.j W w)=>aer t.h x.h.qF x.h.mM x.h.zA w (HT.i.go hb) HS.i.1);have CI:=ah (fun(w:au) (hb:aM W.a.j W w)=>agS t.rJ x.h.oP x.h.lM x.h.vY w (HI.i.go hb) HS.i.2);unfold an3 at CN;unfold avR at CI;go_region_held_law (fun w'=>w'.b ⟨q,75,none⟩=some (.a x.h.qF x.h.mM x.h.zA)/\w'.b ⟨q,76,none⟩=some (.a x.h.oP x.h.lM x.h.vY))
  (first|exact KS.i _ (HE.i.go Z0.i.drew.R)|exact KS.i _ (HE.i.go Z1.i.R)|exact KS.i _ (HE.i.go Z2.i.R)|exact KS.i _ (HE.i.go Z3.i.R)|go_keep)
  (first
  | (go_at_call 88;(with_reducible refine(CN.i _ Z0.i.drew.R).g ?_);rintro r w1 ⟨A1,c1,rfl,ho,hb⟩;have Z1:=ah (Z0.i.drew.go hb);have O1:=ah ho;have S1:=ah (show w0.a.j<=w1.a.j from hb.j);clear ho hb)
  | (go_at_call 89;(with_reducible refine(CI.i _ Z1.i.R).g ?_);rintro r w2 ⟨A2,c2,rfl,ho,hb⟩;have Z2:=ah (Z1.i.go hb);have O2:=ah ho;have B2:=ah hb;have th:=Z2.i.X.O 0 2 (aY (Tc.I Da).symm);have Z3:=ah (show Bx [(W.a.j,(Tc.mk A1 x.h.mM c1 A2 x.h.lM c2).aA)] W (gZ w2 W.a.j 0 (Tc.mk A1 x.h.mM c1 A2 x.h.lM c2).aA)from Z2.i.put (fun r hr=>by cases hr) _ (by rw[Tc.I,Tc.I]));clear ho hb))
 have FS:=ah (show jC [W.a.j] w2 (gZ w2 W.a.j 0 (Tc.mk A1 x.h.mM c1 A2 x.h.lM c2).aA)from yF w2 W.a.j 0 _);have hs0:=SZ0.i;have hs1:=S1.i;go_wp2_with fail;refine aO (kTc.zm rfl _ rfl Z3.i.X (Tc.I _)) rfl ?_;refine⟨_,rfl,⟨HN.i.1,?_,HN.i.2,?_⟩,Z3.i.R⟩
 ·exact iM (GV (fQ O1.i B2.i) FS.i (by simp;omega)) (by simp;omega)
 ·exact iM (GV O2.i FS.i (by omega)) (by omega)
theorem JH(h:yE W q e s x q2 g sl)(hn:(wF e s).h.a<=100000)(hs:(wF e s).rJ.a<=100000):aQ aj 31 #[.c (some ⟨q,0,none⟩)] W (aku W (wF e s)):=WX _ h.b.eg h.tt.texts h.tt.aAr hn hs
end
section
open Go.ChangeShapes Go.WideShapes Go.ChangeAt Go.RowKit Go.Deep
def bA(b:UInt8):Array aC:=#[bv b]
theorem avX(l:List UInt8):(l.h fun x=>(bA x).a)=l.map bv:=by
 induction l with
 | nil=>rfl
 | cons a l ih=>rw[List.flatMap_cons,kK,ih];rfl
def aob:Ac:=⟨0,[],⟨0,jd,[],0⟩,[],false⟩
def qo:At:=⟨0,none,0,0,⟨0,jd,[],0⟩,[],false⟩
theorem Ra{α:Type}(d:α)(P:Nat->α->Prop):∀n:Nat,(∀i,i<n->∃u,P i u)->∃us:List α,us.a=n/\∀i,i<n->P i (us.c i d)
 | 0,_=>⟨[],rfl,fun i h=>by omega⟩
 | n+1,h=>by
   obtain⟨us,h1,h2⟩:=Ra d P n (fun i hi=>h i (by omega));obtain⟨u,hu⟩:=h n (by omega);refine⟨us++[u],by simp[h1],fun i hi=>?_⟩;rcases aZ i n with h3|h3
   ·rw[av,List.getElem?_append_left (by omega),<-av];exact h2 i h3
   ·obtain rfl:i=n:=by omega
    rw[av,List.getElem?_append_right (by omega),h1,Nat.sub_self];exact hu
structure AtO(W:au)(a:At)(u:Ac):Prop where
 kind:a.kind=u.kind
 fr:fZ W W.a.j a.Oy a.yG u.frame
 FJ:a.yG<=a.FJ/\a.FJ<=9223372036854775807
 op:a.op=u.op
 E:a.E=u.E
 h:a.h=u.h
 OU:u.op.OU
theorem AtO.r{W:au}{a:At}{u:Ac}(h:AtO W a u)(hn:a.yG<=1000000):AtR W a u:=⟨h.kind,h.fr,⟨h.FJ.1,h.FJ.2,hn⟩,h.op,h.E,h.h⟩
theorem AtR.go{W W':au}{a:At}{u:Ac}(h:AtR W a u)(hb:aM W.a.j W W'):AtR W' a u:=⟨h.kind,h.fr.upon hb,h.FJ,h.op,h.E,h.h⟩
section
variable {H:Type} {enc:bF×aC->H} {w:au} {base:Nat} {held:Bool} {fuel:Nat} {cs:List aC} {x:DataW H×List MemPlace}
theorem ark(h:mq enc aj w base (fun _=>true) held fuel 98 cs=some x):∃v:Vp,cs=v.aA.a/\True:=by
 obtain⟨xs,n,_,_,hl,hxl,hf⟩:=uK r9 h;rw[show aj.cellsOf 98=20 by kernel_rfl]at hl;obtain⟨y0,h0⟩:=Kv hxl hf 0 _ rfl;obtain⟨y1,h1⟩:=Kv hxl hf 1 _ rfl;obtain⟨y2,h2⟩:=Kv hxl hf 2 _ rfl;obtain⟨y3,h3⟩:=Kv hxl hf 3 _ rfl;obtain⟨a,ha⟩:=Nn h0;obtain⟨p,hp,_,_⟩:=sH (by kernel_rfl) h1;obtain⟨q,hq,_,_⟩:=sH (by kernel_rfl) h2;obtain⟨t,ht,_⟩:=Iu (by kernel_rfl) h3;have c0:(cs.f 0).d 17=a.aA.a:=ha;have c1:(cs.f 17).d 1=[.b .a p]:=hp;have c2:(cs.f 18).d 1=[.b .a q]:=hq;have c3:(cs.f 19).d 1=[.e t]:=ht;refine⟨⟨a,p,q,t⟩,?_,trivial⟩;have e:=tu cs 0 17;rw[c0,tu cs (0+17) 1,c1,tu cs (0+17+1) 1,c2,tu cs (0+17+1+1) 1,c3,iY (i:=0+17+1+1+1) (by omega)]at e;simpa[Vp.aA]using e
theorem arl(h:mq enc aj w base (fun _=>true) held fuel 29 cs=some x):∃(c:Cn)(l:List Vp),cs=c.aA.a/\iF Vp.aA 20 w w.a.j c.qj c.Y l/\c.Y<=c.ql/\c.ql<=9223372036854775807:=by
 obtain⟨xs,n,_,_,hl,hxl,hf⟩:=uK nD h;rw[show aj.cellsOf 29=54 by kernel_rfl]at hl;obtain⟨y0,h0⟩:=Kv hxl hf 0 _ rfl;obtain⟨y1,h1⟩:=Kv hxl hf 1 _ rfl;obtain⟨y2,h2⟩:=Kv hxl hf 2 _ rfl;obtain⟨y3,h3⟩:=Kv hxl hf 3 _ rfl;obtain⟨y4,h4⟩:=Kv hxl hf 4 _ rfl;obtain⟨y5,h5⟩:=Kv hxl hf 5 _ rfl;obtain⟨y6,h6⟩:=Kv hxl hf 6 _ rfl;obtain⟨y7,h7⟩:=Kv hxl hf 7 _ rfl;obtain⟨y8,h8⟩:=Kv hxl hf 8 _ rfl;obtain⟨y9,h9⟩:=Kv hxl hf 9 _ rfl;obtain⟨y10,h10⟩:=Kv hxl hf 10 _ rfl;obtain⟨y11,h11⟩:=Kv hxl hf 11 _ rfl;obtain⟨A,k,c,l,hs,hnc,hc,hll,hrd,hsp,_⟩:=OT Vp.aA (fun _=>True) 20 Vp.I (by kernel_rfl:aj.underlying _=some (.a 98)) (by kernel_rfl) (by omega) (fun n cs y hy=>ark hy) h0;obtain⟨z1,e1,_,_⟩:=sH (by kernel_rfl) h1;obtain⟨z2,e2,_,_⟩:=sH (by kernel_rfl) h2;obtain⟨z3,e3⟩:=ajx (k:=6) (e:=3) (by kernel_rfl) (by kernel_rfl) (by kernel_rfl) (by kernel_rfl) h3;obtain⟨z4,e4,_,_⟩:=sH (by kernel_rfl) h4;obtain⟨z5,e5,_,_⟩:=sH (by kernel_rfl) h5;obtain⟨z6,e6⟩:=MJ (k:=6) (e:=5) (by kernel_rfl) (by kernel_rfl) (by kernel_rfl) (by kernel_rfl) h6;obtain⟨z7,e7⟩:=Nn h7;obtain⟨z8,e8⟩:=Nn h8;obtain⟨z9,e9,_,_⟩:=sH (by kernel_rfl) h9;obtain⟨za,ea,_,_⟩:=sH (by kernel_rfl) h10;obtain⟨zb,eb,_,_⟩:=sH (by kernel_rfl) h11;have c0:(cs.f 0).d 1=[.a A k c]:=hs;have c1:(cs.f 1).d 1=[.b .a z1]:=e1;have c2:(cs.f 2).d 1=[.b .a z2]:=e2;have c3:(cs.f 3).d 6=z3.a.map (aJ .a):=e3;have c4:(cs.f 9).d 1=[.b .a z4]:=e4;have c5:(cs.f 10).d 1=[.b .a z5]:=e5;have c6:(cs.f 11).d 6=z6.a.map bv:=e6;have c7:(cs.f 17).d 17=z7.aA.a:=e7;have c8:(cs.f 34).d 17=z8.aA.a:=e8;have c9:(cs.f 51).d 1=[.b .a z9]:=e9;have ca:(cs.f 52).d 1=[.b .a za]:=ea;have cb:(cs.f 53).d 1=[.b .a zb]:=eb;refine⟨⟨A,k,c,z1,z2,z3,z4,z5,z6,z7,z8,z9,za,zb⟩,l,?_,⟨hll,hrd,hsp⟩,hnc,hc⟩;have e:=tu cs 0 1;rw[c0,tu cs (0+1) 1,c1,tu cs (0+1+1) 1,c2,tu cs (0+1+1+1) 6,c3,tu cs (0+1+1+1+6) 1,c4,tu cs (0+1+1+1+6+1) 1,c5,tu cs (0+1+1+1+6+1+1) 6,c6,tu cs (0+1+1+1+6+1+1+6) 17,c7,tu cs (0+1+1+1+6+1+1+6+17) 17,c8,tu cs (0+1+1+1+6+1+1+6+17+17) 1,c9,tu cs (0+1+1+1+6+1+1+6+17+17+1) 1,ca,tu cs (0+1+1+1+6+1+1+6+17+17+1+1) 1,cb,iY (i:=0+1+1+1+6+1+1+6+17+17+1+1+1) (by omega)]at e;simpa[Cn.aA,Kz,AO]using e
theorem aoc(h:mq enc aj w base (fun _=>true) held fuel 56 cs=some x):∃(A:Option aU)(n c:Nat)(l:List UInt8),cs=[.a A n c]/\fZ w w.a.j A n l/\n<=c/\c<=9223372036854775807:=by
 obtain⟨A,n,c,l,hs,hnc,hc,hll,hrd,hsp,_⟩:=OT bA (fun _=>True) 1 (fun _=>rfl) cu (by kernel_rfl) (by omega) (fun n cs y hy=>by
  obtain⟨b,hb⟩:=ag3 lF hy;exact⟨b,hb,trivial⟩) h
 rw[avX]at hrd;exact⟨A,n,c,l,hs,hrd,hnc,hc⟩
theorem arn(h:mq enc aj w base (fun _=>true) held fuel 66 cs=some x):∃a:At,cs=a.aA.a/\∃u:Ac,AtO w a u:=by
 obtain⟨xs,n,_,_,hl,hxl,hf⟩:=uK lU h;rw[show aj.cellsOf 66=34 by kernel_rfl]at hl;obtain⟨y0,h0⟩:=Kv hxl hf 0 _ rfl;obtain⟨y1,h1⟩:=Kv hxl hf 1 _ rfl;obtain⟨y2,h2⟩:=Kv hxl hf 2 _ rfl;obtain⟨y3,h3⟩:=Kv hxl hf 3 _ rfl;obtain⟨y4,h4⟩:=Kv hxl hf 4 _ rfl;obtain⟨z0,e0,_,_⟩:=sH (by kernel_rfl) h0;obtain⟨A,k,c,l,e1,hR,hnc,hc⟩:=aoc h1;obtain⟨z2,e2,hg⟩:=alZ h2;obtain⟨z3,e3,_⟩:=Ug (by kernel_rfl) h3;obtain⟨z4,e4,_⟩:=Iu (by kernel_rfl) h4;have c0:(cs.f 0).d 1=[.b .a z0]:=e0;have c1:(cs.f 1).d 1=[.a A k c]:=e1;have c2:(cs.f 2).d 30=z2.aA.a:=e2;have c3:(cs.f 32).d 1=[.g (bP z3)]:=e3;have c4:(cs.f 33).d 1=[.e z4]:=e4;refine⟨⟨z0,A,k,c,z2,z3,z4⟩,?_,⟨z0,l,z2,z3,z4⟩,rfl,hR,⟨hnc,hc⟩,rfl,rfl,rfl,hg⟩;have e:=tu cs 0 1;rw[c0,tu cs (0+1) 1,c1,tu cs (0+1+1) 30,c2,tu cs (0+1+1+30) 1,c3,tu cs (0+1+1+30+1) 1,c4,iY (i:=0+1+1+30+1+1) (by omega)]at e;simpa[At.aA]using e
end
section
variable {H:Type} {enc:bF×aC->H} {W:au} {base:Nat} {v:aC} {d:DataW H} {ps:List MemPlace} {held:Bool}
theorem aod(hval:Iq aj W .any base 22 v)(h:DataW.Trod enc aj W 0 (fun _=>true) held 22 v d ps):∃k:Vector UInt8 16,v=.d (jg k):=by
 obtain⟨cs,rfl⟩:∃cs,v=.d cs:=by
  simp only[Iq,qp]at hval;obtain⟨cs,h1,_⟩:=hval;exact⟨cs,h1⟩
 obtain⟨fuel,hf⟩:=h;obtain⟨k,hk⟩:=MJ (k:=16) (e:=5) (by kernel_rfl) (by kernel_rfl) (by kernel_rfl) (by kernel_rfl) hf;have hc:cs.a=k.a.map bv:=hk;exact⟨k,by unfold jg;rw[<-hc]⟩
theorem aro(hval:Iq aj W .any base 29 v)(h:DataW.Trod enc aj W 0 (fun _=>true) held 29 v d ps):∃(c:Cn)(l:List Vp),v=.d c.aA/\iF Vp.aA 20 W W.a.j c.qj c.Y l/\c.Y<=c.ql/\c.ql<=9223372036854775807:=by
 obtain⟨cs,rfl,_⟩:=okWide_struct nD hval;obtain⟨fuel,hf⟩:=h;obtain⟨c,l,hcs,hr⟩:=arl hf;have hc:cs.a=c.aA.a:=hcs;exact⟨c,l,by rw[GZ.1 hc],hr⟩
theorem akv(hval:Iq aj W .any base 49 v)(h:DataW.Trod enc aj W 0 (fun _=>true) held 49 v d ps):
 ∃(A:Option aU)(n c:Nat)(l:List At)(us:List Ac),v=.a A n c/\iF At.aA 34 W W.a.j A n l/\us.a=n/\(∀i,i<n->AtO W (l.c i qo) (us.c i aob))/\n<=9223372036854775807:=by
 obtain⟨a0,len,cap,rfl⟩:=okWide_slice Tryz.underlying49 hval;obtain⟨fuel,hf⟩:=h;obtain⟨A,n,c,l,hs,hnc,hc,hll,hrd,hsp,hgd⟩:=OT At.aA (fun a=>∃u,AtO W a u) 34 At.I Tryz.underlying49 (by kernel_rfl) (by omega) (fun n cs y hy=>arn hy) hf;simp only[bZ,List.cons.injEq,Value.slice.injEq,and_true]at hs;obtain⟨rfl,rfl,rfl⟩:=hs;obtain⟨us,h1,h2⟩:=Ra aob (fun i u=>AtO W (l.c i qo) u) len (fun i hi=>hgd _ (by rw[av,aD (by omega),Option.getD_some];exact List.getElem_mem _));exact⟨a0,len,cap,l,us,rfl,⟨hll,hrd,hsp⟩,h1,h2,by omega⟩
end
end
structure OcR(W:au)(o:Oc)(u:Ou):Prop where
 err:o.err=u.err
 jh:o.jh=u.jh
 wW:o.wW=u.wW
 Y:o.Y=u.Y
 E:o.E=u.E
 i:fZ W W.a.j o.Im o.Fj u.i
theorem OuR.rd{B:Nat}{W:au}{o:Oc}{u:Ou}(h:OuR B W o u):OcR W o u:=⟨h.err,h.jh,h.wW,h.Y,h.E,fZ.gV h.vD⟩
theorem OcR.go{W W':au}{o:Oc}{u:Ou}(h:OcR W o u)(hb:aM W.a.j W W'):OcR W' o u:=⟨h.err,h.jh,h.wW,h.Y,h.E,h.i.upon hb⟩
theorem arp(u v:Ou):decide (u=v)=((u.err==v.err)&&((u.jh==v.jh)&&((u.wW==v.wW)&&((u.Y==v.Y)&&((u.E==v.E)&&(u.i==v.i)))))):=by
 rw[cB];cases u;cases v;simp
theorem agW(a b:Oc)(u v:Ou)(w:au)(ha:OcR w a u)(hb:OcR w b v)(K:Bool)(hK:decide (u=v)=K):
 aQ aj 24 #[.d a.aA,.d b.aA] w (gy w (.e K)):=by
 obtain⟨a1,a2,a3,a4,a5,A,n,c⟩:=a;obtain⟨b1,b2,b3,b4,b5,B,m,d⟩:=b;obtain rfl:a1=u.err:=ha.err;obtain rfl:a2=u.jh:=ha.jh;obtain rfl:a3=u.wW:=ha.wW;obtain rfl:a4=u.Y:=ha.Y;obtain rfl:a5=u.E:=ha.E;obtain rfl:b1=v.err:=hb.err;obtain rfl:b2=v.jh:=hb.jh;obtain rfl:b3=v.wW:=hb.wW;obtain rfl:b4=v.Y:=hb.Y;obtain rfl:b5=v.E:=hb.E;obtain⟨k1,h1⟩:∃k,(u.err==v.err)=k:=⟨_,rfl⟩
 obtain⟨k2,h2⟩:∃k,(u.jh==v.jh)=k:=⟨_,rfl⟩
 obtain⟨k3,h3⟩:∃k,(u.wW==v.wW)=k:=⟨_,rfl⟩
 obtain⟨k4,h4⟩:∃k,(u.Y==v.Y)=k:=⟨_,rfl⟩
 obtain⟨k5,h5⟩:∃k,(u.E==v.E)=k:=⟨_,rfl⟩
 obtain⟨k6,h6⟩:∃k,(u.i==v.i)=k:=⟨_,rfl⟩
 have HJ:=ah (show K=(k1&&(k2&&(k3&&(k4&&(k5&&k6)))))by rw[<-hK,arp,h1,h2,h3,h4,h5,h6]);clear hK;have z0:=((Bx.start w).new (Oc.mk u.err u.jh u.wW u.Y u.E A n c).aA 58).new (Oc.mk v.err v.jh v.wW v.Y v.E B m d).aA 58;rw[show(w.alloc (.D (Oc.mk u.err u.jh u.wW u.Y u.E A n c).aA 58)).a.j=w.a.j+1 by simp]at z0;have Z0:=ah z0;have RA:=ah (Z0.i.Mf ha.i);have RB:=ah (Z0.i.Mf hb.i);clear ha hb z0;go_enter Tryz.func24,Tryz.ntmps24;go_upto_region 1 with fail
 generalize(w.alloc (.D (Oc.mk u.err u.jh u.wW u.Y u.E A n c).aA 58)).alloc (.D (Oc.mk v.err v.jh v.wW v.Y v.E B m d).aA 58)=w1 at Z0 RA RB ⊢;obtain⟨x1,x2,x3,x4⟩:=Z0.i.b1.M;obtain⟨y1,y2,y3,y4⟩:=Z0.i.X.M;have t1:=(wU RA.i c).2;have t2:=(wU RB.i d).2;cases k1
 ·skip
  go_wp2;go_ret;exact⟨by rw[HJ.i];rfl,Z0.i.R⟩
 cases k2
 ·skip
  go_wp2;go_ret;exact⟨by rw[HJ.i];rfl,Z0.i.R⟩
 cases k3
 ·skip
  go_wp2;go_ret;exact⟨by rw[HJ.i];rfl,Z0.i.R⟩
 cases k4
 ·skip
  go_wp2;go_ret;exact⟨by rw[HJ.i];rfl,Z0.i.R⟩
 cases k5
 ·skip
  go_wp2;go_ret;exact⟨by rw[HJ.i];rfl,Z0.i.R⟩
 cases k6
 ·skip
  go_wp2;go_ret;exact⟨by rw[HJ.i];rfl,Z0.i.R⟩
 go_wp2;go_ret;exact⟨by rw[HJ.i];rfl,Z0.i.R⟩
theorem akw(c:Cn)(w:au):aQ aj 13 #[.d c.aA] w (gy w (.e (decide (c.Y<=20)&&decide (c.j<=260)))):=by
 have Z0:=ah ((Bx.start w).new c.aA 29);obtain⟨k1,h1⟩:∃k,decide (c.Y<=20)=k:=⟨_,rfl⟩
 obtain⟨k2,h2⟩:∃k,decide (c.j<=260)=k:=⟨_,rfl⟩
 have h1':decide ((c.Y:Int)<=20)=k1:=by rw[<-h1,decide_eq_decide];omega
 go_enter Tryz.func13,Tryz.ntmps13;go_upto_region 1 with fail
 generalize w.alloc (.D c.aA 29)=w1 at Z0 ⊢;obtain⟨x1,x2,x3,x4⟩:=Z0.i.X.M;cases k1
 ·go_wp2
  go_ret;exact⟨by rw[h1];rfl,Z0.i.R⟩
 cases k2
 ·go_wp2
  go_ret;exact⟨by rw[h1,h2];rfl,Z0.i.R⟩
 go_wp2;go_ret;exact⟨by rw[h1,h2];rfl,Z0.i.R⟩
def WY(a:At):Bool:=decide (a.yG<=1500)&&(decide (a.E.a<=60)&&(decide (a.op.E.a<=60)&&decide (a.op.bk.E.a<=60)))
def OB(l:List At):Bool:=decide (l.a<=60)&&(dS l.a).all fun i=>WY (l.c i qo)
theorem At.asR(x:At)(j:Nat)(hj:j<30):x.aA[2+j]? = x.op.aA[j]?:=by
 have h:=At.asM x;have h2:(x.aA.extract 2 32)[j]? = x.op.aA[j]?:=by rw[h]
 rw[dz,if_pos (by rw[At.I];omega)]at h2;exact h2
theorem At.D{W:au}{B n i:Nat}{A:Option aU}{l:List At}(h:iF At.aA 34 W B A n l)(hi:i<n):∃b o,A=some ⟨b,o,none⟩/\W.b ⟨b,o+i*34,none⟩=some (.b .a (l.c i qo).kind)/\W.b ⟨b,o+i*34+1,none⟩=some (.a (l.c i qo).Oy (l.c i qo).yG (l.c i qo).FJ)/\W.b ⟨b,o+i*34+32,none⟩=some (.g (bP (l.c i qo).E))/\W.b ⟨b,o+i*34+30,none⟩=some (.g (bP (l.c i qo).op.E))/\W.b ⟨b,o+i*34+3,none⟩=some (.g (bP (l.c i qo).op.bk.E)):=by
 obtain⟨b,o,hA,_,hc⟩:=iF.cell At.I qo h hi;refine⟨b,o,hA,?_,(hc 1 (by omega)).trans (At.aeo _),(hc 32 (by omega)).trans (At.zH _),?_,?_⟩
 ·have:=(hc 0 (by omega)).trans (At.zG _);rw[nM]at this;exact this
 ·rw[hc 30 (by omega),At.asR _ 28 (by omega)];simp[qV.aA,Bk.I]
 ·rw[hc 3 (by omega),At.asR _ 1 (by omega)];simp[qV.aA];rfl
theorem aew(l:List At)(A:Option aU)(n c:Nat)(w:au)(hR:iF At.aA 34 w w.a.j A n l)(hn:n<=9223372036854775807):
 aQ aj 66 #[.a A n c] w fun e w'=>e=.a (.e (OB l))/\w=w':=by
 have HR:=ah hR;have HN:=ah hR.1;clear hR;have HFW:=ah (show OB l=(decide (n<=60)&&(dS n).all (fun i=>WY (l.c i qo)))by unfold OB;rw[HN.i]);go_enter Tryz.func66,Tryz.ntmps66;go_wp2;go_loop [3] (fun s3=>∃i:Nat,i<=n/\i<=100/\s3=.b .a i/\∀k,k<i->WY (l.c k qo)=true) (fun s3=>n-(intOf s3).e)
 case atStart=>exact⟨0,by omega,by omega,rfl,fun k hk=>by omega⟩
 case round=>
  obtain⟨i,hin,aFB,rfl,hall⟩:=hrel;have HA:=ah hall;clear hall;by_cases hlt:i<n
  ·have hi:(i:Int)<n:=by omega
   by_cases h6:i<100
   ·have hi6:(i:Int)<100:=by omega
    obtain⟨b,o,rfl,c0,c1,c2,c3,c4⟩:=At.D HR.i hlt;obtain⟨a,ha⟩:=dw (l.c i qo);rw[<-ha]at c0 c1 c2 c3 c4;have HX:=ah ha;clear ha c0;obtain⟨m1,hm1⟩:∃m,m=a.yG:=⟨_,rfl⟩
    obtain⟨m2,hm2⟩:∃m,m=a.E:=⟨_,rfl⟩
    obtain⟨m3,hm3⟩:∃m,m=a.op.E:=⟨_,rfl⟩
    obtain⟨m4,hm4⟩:∃m,m=a.op.bk.E:=⟨_,rfl⟩
    have HFA:=ah (show WY a=(decide (m1<=1500)&&(decide (m2.a<=60)&&(decide (m3.a<=60)&&decide (m4.a<=60))))by rw[hm1,hm2,hm3,hm4];rfl);rw[<-hm1]at c1;rw[<-hm2]at c2;rw[<-hm3]at c3;rw[<-hm4]at c4;clear hm1 hm2 hm3 hm4;obtain⟨k1,e1⟩:∃k,decide ((1500:Int)<m1)=k:=⟨_,rfl⟩
    obtain⟨k2,e2⟩:∃k,decide ((60:Int)<m2.a)=k:=⟨_,rfl⟩
    obtain⟨k3,e3⟩:∃k,decide ((60:Int)<m3.a)=k:=⟨_,rfl⟩
    obtain⟨k4,e4⟩:∃k,decide ((60:Int)<m4.a)=k:=⟨_,rfl⟩
    have HB:=ah (show WY a=(!k1&&(!k2&&(!k3 && !k4)))by
     rw[HFA.i,<-e1,<-e2,<-e3,<-e4];rw[cB];simp only[bB,decide_eq_true_eq,oz,decide_eq_false_iff_not];omega)
    cases k1;rotate_left
    ·have HF:=ah (show OB l=false by rw[HFW.i,mg _ i _ hlt (by rw[<-HX.i,HB.i];rfl)];simp)
     go_wp2;go_ret;exact⟨by rw[HF.i];rfl,rfl⟩
    cases k2;rotate_left
    ·have HF:=ah (show OB l=false by rw[HFW.i,mg _ i _ hlt (by rw[<-HX.i,HB.i];rfl)];simp)
     go_wp2;go_ret;exact⟨by rw[HF.i];rfl,rfl⟩
    cases k3;rotate_left
    ·have HF:=ah (show OB l=false by rw[HFW.i,mg _ i _ hlt (by rw[<-HX.i,HB.i];rfl)];simp)
     go_wp2;go_ret;exact⟨by rw[HF.i];rfl,rfl⟩
    cases k4;rotate_left
    ·have HF:=ah (show OB l=false by rw[HFW.i,mg _ i _ hlt (by rw[<-HX.i,HB.i];rfl)];simp)
     go_wp2;go_ret;exact⟨by rw[HF.i];rfl,rfl⟩
    go_wp2;go_round
    case rel=>exact⟨i+1,by omega,by omega,by go_num,fun k hk=>by
     by_cases hki:k=i
     ·rw[hki,<-HX.i,HB.i];rfl
     ·exact HA.i k (by omega)⟩
    case measure=>simp[intOf]<;>omega
   ·have hd:decide ((i:Int)<100)=false:=by simp;omega
    have HF:=ah (show OB l=decide ((n:Int)<=60)by
     rw[HFW.i,show decide (n<=60)=false from decide_eq_false (by omega),show decide ((n:Int)<=60)=false from decide_eq_false (by omega)];rfl)
    go_wp2;go_ret;exact⟨by rw[HF.i];rfl,rfl⟩
  ·obtain rfl:i=n:=by omega
   have hd:decide ((i:Int)<i)=false:=by simp
   have HF:=ah (show OB l=decide ((i:Int)<=60)by
    rw[HFW.i,fV.2 (fun k hk=>HA.i k (eG.1 hk)),Bool.and_true];rw[decide_eq_decide];omega)
   go_wp2;go_ret;exact⟨by rw[HF.i];rfl,rfl⟩
def agX(c:Cn)(l:List At):Bool:=(decide (c.Y<=20)&&decide (c.j<=260))&&OB l
theorem arq(c:Cn)(l:List At)(A:Option aU)(n k:Nat)(w:au)(hR:iF At.aA 34 w w.a.j A n l)(hn:n<=9223372036854775807):
 aQ aj 21 #[.d c.aA,.a A n k] w (gy w (.e (agX c l))):=by
 have Z0:=ah ((Bx.start w).new c.aA 29);obtain⟨k1,h1⟩:∃k,(decide (c.Y<=20)&&decide (c.j<=260))=k:=⟨_,rfl⟩
 have HJ:=ah (show agX c l=(k1&&OB l)by unfold agX;rw[h1]);have CS:=ah (fun w=>akw c w);rw[h1]at CS;have CF:=ah (fun w1 (hb:aM w.a.j w w1)=>aew l A n k w1 (hR.go hb) hn);clear h1 hR;go_enter Tryz.func21,Tryz.ntmps21;go_upto_region 1 with fail
 generalize w.alloc (.D c.aA 29)=w1 at Z0 ⊢;have l1:=TD.mW Z0.i.X (Cn.I _);go_wp2_with fail
 (with_reducible refine(CS.i _).g ?_)
 rintro e w2 ⟨rfl,hb⟩;have Z2:=ah (Z0.i.go hb);clear hb l1;cases k1
 ·go_wp2
  go_ret;exact⟨by rw[HJ.i];rfl,Z2.i.R⟩
 go_wp2_with (go_at_call 66;(with_reducible refine(CF.i _ Z2.i.R).g ?_);rintro e w3 ⟨rfl,rfl⟩);go_ret;exact⟨by rw[HJ.i];rfl,Z2.i.R⟩
def uZ(l:List UInt8):fE:=⟨false,qh 16 l⟩
def aoe:Cn:=⟨none,1,1,7,9,Ej fun i=>if i.val=0 then 0 else 5,1,1,bH 6 0,nE,⟨true,bH 16 0⟩,1000,2,5⟩
def Io:Vp:=⟨uZ [5,6,7,8],6,80,false⟩
def yQ:En:=⟨qh 16 [1],aoe,[Io]⟩
def akx:Bk:=⟨[97],uZ [10,0,0,9],8080,bH 6 0,4607182418800017408,false⟩
def awF:List UInt8:=[0,0,0,0,0,0,0,0,0,0,0,0,8,0,69,0,0,42,0,0,64,0,64,6,42,187,1,2,3,4,5,6,7,8,3,232,0,80,0,0,0,0,0,0,0,0,80,2,0,0,51,44,0,0,104,105]
def awW:List UInt8:=[0,0,0,0,0,0,0,0,0,0,0,0,8,0,69,0,0,42,0,0,64,0,64,6,44,192,1,2,3,4,10,0,0,9,3,232,31,144,0,0,0,0,0,0,0,0,80,2,0,0,21,241,0,0,104,105]
def acF:Ac:=⟨1,awF,⟨0,jd,[],0⟩,[],false⟩
def acA:Ac:=⟨2,[],⟨1,akx,[],0⟩,[],false⟩
def acH(n:List UInt8):Ac:=⟨3,[],⟨0,jd,[],0⟩,n,false⟩
def acK(k:Int):Ac:=⟨k,[],⟨0,jd,[],0⟩,[],false⟩
def aw0:qB×Ou:=yA yQ uO acF
def aw1:qB×Ou:=yA yQ aw0.1 acA
def aw2:qB×Ou:=yA yQ aw1.1 acF
def aw3:qB×Ou:=yA yQ aw2.1 acF
def aw4:qB×Ou:=yA yQ aw3.1 (acH [98])
def aw5:qB×Ou:=yA yQ aw4.1 (acH [97])
def aw6:qB×Ou:=yA yQ aw5.1 acF
def aw7:qB×Ou:=yA yQ aw6.1 (acK 4)
def Uc:qB×Ou:=yA yQ aw7.1 (acK 9)
theorem asS:yu aoe [Io]=true:=by decide +kernel
theorem aFE:aw0.2={GK with jh:=8}:=by decide +kernel
theorem aFF:aw1.2.Y=1:=by decide +kernel
theorem aof:aw2.2=⟨0,0,false,1,[97],awW⟩:=by decide +kernel
theorem aFG:aw3.2.wW=true:=by decide +kernel
theorem aFH:aw4.2.err=5:=by decide +kernel
theorem aFI:aw5.2.err=0:=by decide +kernel
theorem aFJ:aw6.2.jh=8:=by decide +kernel
theorem aFK:aw7.2.err=0:=by decide +kernel
theorem aFL:Uc.2.err=1:=by decide +kernel
theorem aky:Uc.1.no=2/\Uc.1.gq=1/\Uc.1.lI[8]=2/\Uc.1.I.a=1/\(wF yQ Uc.1).rJ.a=0:=by decide +kernel
theorem Ow.rd{B n c:Nat}{g0:Option Nat}{w w':au}{A:Option aU}{bs:List UInt8}(h:Ow B g0 w (.a A n c) bs w'):fZ w' w'.a.j A n bs:=by
 obtain⟨A',c',e,_,_⟩:=jw h.vD;injection e with e1 e2 e3
 have:=h.vD;rw[<-e2]at this;exact fZ.gV this
theorem aex(s d:fE)(p:Nat)(hp:p<=255)(w:au)(A:Option aU)(n c:Nat)(l:List UInt8)(hnn:n<=65535)(hnc:n<=c)(hr:fZ w w.a.j A n l)(hT:(Jr p l).1.dA=(n:Int))(lp:List UInt8)(hlp:psB s d p n=lp)(hpl:lp.a<=1000):
 aQ aj 188 #[.d s.aA,.d d.aA,.b .a p,.a A n c] w (gy w (.b .a (wX (lp++l):Nat))):=by
 have HR:=ah hr;have hl:=ah hr.len;have HLP:=ah hlp;have HPL:=ah hpl;clear hr hlp hpl;have h0:=((Bx.start w).new s.aA 27).new d.aA 27;rw[show(w.alloc (.D s.aA 27)).a.j=w.a.j+1 by simp]at h0;have Z0:=ah h0;clear h0;obtain⟨r,hrr⟩:=dw (Jr p l);rw[<-hrr]at hT;have CP:=ah (fun w1 (hr:fZ w1 w1.a.j A n l)=>adH w1 p A n c l (by omega) hr);unfold PtP at CP;rw[<-hrr]at CP;clear hrr;obtain⟨k,er⟩:=r;simp only at hT CP;go_enter Tryz.func188,Tryz.ntmps188;go_upto_region 1 with fail
 generalize(w.alloc (.D s.aA 27)).alloc (.D d.aA 27)=w0 at Z0 ⊢;go_upto_region 2 with(go_at_call 227;(with_reducible refine(CP.i _ (Z0.i.Mf HR.i)).g ?_);rintro e w1 ⟨rfl,hb1⟩;have Z1:=ah ((Z0.i.go hb1).new k.aA 172);clear hb1)
 generalize w1.alloc (.D k.aA 172)=w2 at Z1 ⊢;generalize w1.a.j=y at Z1 ⊢;have KS:=ah (fun(W':au) (h:Bx [(y,k.aA),(w.a.j+1,d.aA),(w.a.j,s.aA)] w W')=>show W'.b ⟨y,4,none⟩=some (.b .a n)/\(rH (.c (some ⟨w.a.j,0,none⟩))).J aj W'=.ok (.d s.aA) W'/\(rH (.c (some ⟨w.a.j+1,0,none⟩))).J aj W'=.ok (.d d.aA) W' by
  refine⟨by rw[h.X.M.1 4,Pt.yw,hT],?_,?_⟩
  ·obtain⟨x1,x2,x3,x4⟩:=h.b2.M;go_simp
  ·obtain⟨x1,x2,x3,x4⟩:=h.b1.M;go_simp)
 have CS:=ah (fun W'=>XC s d p n hp hnn W');rw[HLP.i]at CS;unfold KI at CS;have i1:(0:Int)<=n:=by omega
 have i2:(n:Int)<=c:=by omega
 have i3:n<=c:=hnc;clear hT;go_region_held_law (fun W'=>W'.b ⟨y,4,none⟩=some (.b .a n)/\(rH (.c (some ⟨w.a.j,0,none⟩))).J aj W'=.ok (.d s.aA) W'/\(rH (.c (some ⟨w.a.j+1,0,none⟩))).J aj W'=.ok (.d d.aA) W')
  (first|exact KS.i _ Z1.i.drew|exact KS.i _ Z6.i|exact KS.i _ Z8.i|go_keep)
  (first
  | (go_at_call 259;(with_reducible refine(CS.i _).g ?_);rintro e w6 ⟨A6,n6,c6,rfl,hn6,ho6,hb6⟩;have Z6:=ah (Z1.i.drew.go hb6);have P6:=ah (Ow.gV ho6 hb6.j);have R6:=ah (Z6.i.Mf HR.i);have LN:=ah (show lp.a+n<=1000000000 by have:=HPL.i;omega);have HB6:=ah (show w.a.j<=w2.a.j from Z1.i.R.j);clear hn6 ho6 hb6)
  | (refine Nw (o:=⟨some 28,_,_,_,_,_⟩) rfl (.a 23) (.a 27) rfl (.a A6 n6 c6) A n c rfl P6.i rfl R6.i LN.i ?_;intro A8 n8 c8 w8 h8 h9;have O8:=ah h8;have Z8:=ah (Z6.i.ow h9 (fun p hp=>eZ ((Z1.i.drew.2 p hp).2.lt) (ay _)) HB6.i);clear h8 h9))
 go_upto_region 3 with fail
 have R8:=ah O8.i.rd;have CU:=ah (VU w8 A8 n8 c8 (lp++l) (by have h1:=R8.i.len;have:=HPL.i;have:=hl.i;rw[aS]at h1;omega) R8.i);go_wp2_with (go_at_call 186;(with_reducible refine CU.i.g ?_);rintro e w9 ⟨rfl,hb9⟩;have HB9:=ah hb9;clear hb9);go_ret;exact⟨rfl,Z8.i.R.trans (HB9.i.g Z8.i.R.j)⟩
def xw(l:List UInt8):List UInt8:=(l.set 16 0).set 17 0
def WZ(s d:fE)(l:List UInt8):List UInt8:=((xw l).set 16 (aK (wX (psB s d 6 l.a++xw l)/256))).set 17 (aK (wX (psB s d 6 l.a++xw l)%256))
theorem akz(w:au):aQ aj 187 #[.b .a 6] w fun e w'=>e=.a (.b .a 16)/\w=w':=by
 go_enter Tryz.func187,Tryz.ntmps187;go_wp2;go_ret;exact⟨rfl,rfl⟩
theorem abS(s d:fE)(w:au)(A:Option aU)(n c:Nat)(l:List UInt8)(h18:18<=n)(hnn:n<=65535)(hr:fZ w w.a.j A n l)(hT:(Jr 6 (xw l)).1.dA=(n:Int)):
 aQ aj 107 #[.d s.aA,.d d.aA,.b .a 6,.a A n c] w (KI w (WZ s d l)):=by
 have HR:=ah hr;have hl:=ah hr.len;have HT:=ah hT;have HP:=ah (show WZ s d l=((xw l).set 16 (aK (wX (psB s d 6 l.a++xw l)/256))).set 17 (aK (wX (psB s d 6 l.a++xw l)%256))from rfl);clear hr hT;have h0:=((Bx.start w).new s.aA 27).new d.aA 27;rw[show(w.alloc (.D s.aA 27)).a.j=w.a.j+1 by simp]at h0;have Z0:=ah h0;clear h0;go_enter Tryz.func107,Tryz.ntmps107;go_upto_region 1 with fail
 generalize(w.alloc (.D s.aA 27)).alloc (.D d.aA 27)=w0 at Z0 ⊢;have L0:=ah (((Ly.amQ w w0 Z0.i.R #[] [] 0 rfl (by omega) rfl).add (q:=w.a.j) (c:=s.aA) (Z0.i.b1.alloc _) (by have:=Z0.i.b1.lt;simp[jJ];omega)).add (q:=w.a.j+1) (c:=d.aA) (Z0.i.X.alloc _) (by have:=Z0.i.X.lt;simp[jJ];omega));have R0:=ah ((Z0.i.Mf HR.i).S ((aH w0.a.j w0).alloc (ay _) (.D #[] 5)));have H0:=ah (show([]:List UInt8).a+n<=1000000000 by simp;omega);go_upto_region 2 with(at_builtin;refine kC rfl (.a 12) (.a 13) rfl rfl L0.i.o rfl R0.i H0.i ?_;intro A1 n1 c1 w1 h2 h3;have L1:=ah (L0.i.step h3);clear h2 h3)
 rw[dG]at L1;go_upto_region 3 with(go_at_call 187;(with_reducible refine(akz _).g ?_);rintro e w2 ⟨rfl,rfl⟩)
 obtain⟨hm1,hm2,g,rfl,k1,k2⟩:=L1.i.at0 (by rw[hl.i];omega);rw[hl.i]at hm1;have HM:=ah hm1;have m1:(16:Int)<n1:=by omega
 have m2:(17:Int)<n1:=by omega
 have k16:=k1 16 (by rw[hl.i];omega);have M2:=ah (L1.i.af9 16 0);rw[show bv 0=.b .b 0 from rfl]at M2;clear k1 hm1 hm2 L0 R0 H0;go_upto_region 4 with fail
 generalize w1.G ⟨g,16,none⟩ (.b .b 0)=w3 at *;obtain⟨-,-,g',eg,k3,k4⟩:=M2.i.at0 (by rw[aW,hl.i];omega);injection eg with eg
 injection eg with eg
 subst eg;have k17:=k3 17 (by rw[aW,hl.i];omega);have M3:=ah (M2.i.af9 17 0);rw[show bv 0=.b .b 0 from rfl]at M3;clear k3 k2 k16;go_upto_region 5 with fail
 generalize w3.G ⟨g,17,none⟩ (.b .b 0)=w4 at *;clear k4 k17 M2 L1;have M3:=ah (show Ly w.a.j [(w.a.j+1,d.aA),(w.a.j,s.aA)] w w4 (.a (some ⟨g,0,none⟩) n1 c1) (xw l)from M3.i);have HZL:=ah (show(xw l).a=n by unfold xw;rw[aW,aW,hl.i]);obtain⟨zl,hzl⟩:∃z,z=xw l:=⟨_,rfl⟩
 obtain⟨lp,hlp⟩:∃z,psB s d 6 n=z:=⟨_,rfl⟩
 rw[hl.i]at HP;rw[<-hzl]at M3 HZL HT HP;rw[hlp]at HP;have CQ:=ah (aex s d 6 (by omega) w4 (some ⟨g,0,none⟩) n1 c1 zl (by rw[HM.i];omega) (by have:=M3.i.at0 (by rw[HZL.i];omega);exact this.2.1) (Dq M3.i.o (aH _ _)) (by rw[HM.i];exact HT.i) lp (by rw[HM.i];exact hlp) (by rw[<-hlp];have:=aqg s d 6 n;omega));rw[show((6:Nat):Int)=6 from rfl]at CQ;clear hzl hlp HT;have HSL:=ah (show wX (lp++zl)<=65535 by unfold wX;omega);generalize wX (lp++zl)=z at *;have z0:(0:Int)<=z:=by omega
 have z1:(z:Int)<=65535:=by have:=HSL.i;omega
 obtain⟨x1,x2,x3,x4⟩:=M3.i.b1.M;obtain⟨y1,y2,y3,y4⟩:=M3.i.X.M;go_upto_region 6 with(go_at_call 188;(with_reducible refine CQ.i.g ?_);rintro e w6 ⟨rfl,hb⟩;have M4:=ah (M3.i.go hb);clear hb)
 clear x1 x2 x3 x4 y1 y2 y3 y4;obtain⟨hm1,hm2,g',eg,k1,k2⟩:=M4.i.at0 (by rw[HZL.i];omega);injection eg with eg
 injection eg with eg
 subst eg;have k16:=k1 16 (by rw[HZL.i];omega);have M5:=ah (M4.i.af9 16 (aK (z/256)));have e1:((aK (z/256)).e:Int)=(z:Int)/256:=by rw[yX _ (by have:=HSL.i;omega)];omega
 unfold bv at M5;rw[e1]at M5;clear k1 e1 hm1 hm2;obtain⟨bz,hbz⟩:∃b,((z:Int)==0)=b:=⟨_,rfl⟩
 cases bz
 all_goals
  go_upto_region 8 with fail
  go_upto_region 9 with fail
  generalize w6.G ⟨g,16,none⟩ (.b .b ((z:Int)/256))=w7 at *;obtain⟨-,-,g',eg,k3,k4⟩:=M5.i.at0 (by rw[aW,HZL.i];omega);injection eg with eg
  injection eg with eg
  subst eg;have k17:=k3 17 (by rw[aW,HZL.i];omega);have M6:=ah (M5.i.af9 17 (aK (z%256)));have e2:((aK (z%256)).e:Int)=(z:Int)%256:=by rw[yX _ (by omega)];omega
  unfold bv at M6;rw[e2]at M6;clear k3 e2 k2 k16;go_wp2;go_ret;rw[<-HP.i]at M6;have ho:=M6.i.o;obtain⟨A9,c9,e9⟩:=ho.Cy;injection e9 with e9 e10 e11
  subst e10;exact⟨_,_,_,rfl,rfl,ho.vD,ho.R⟩
def abT(t:Tu)(load:List UInt8):List UInt8:=[aK (t.kT.e/256),aK (t.kT.e%256),aK (t.j4.e/256),aK (t.j4.e%256)]++[0,0,0,0,0,0,0,0,80,2,0,0,0,0,0,0]++load
def aAs(t:Tu)(n:Nat):Fo:=⟨20,20+(n:Int),0,0,false,true,64,6,t.h,t.Y⟩
def mk6(t:Tu)(load:List UInt8):List UInt8:=qE (bH 6 0) (bH 6 0) [] 2048++tO (aAs t (abT t load).a)++WZ t.h t.Y (abT t load)
@[go_sem]theorem asT(w:au)(b:Int):(BU 16 #[(0,.b .b 0),(1,.b .b 0),(2,.b .b 0),(3,.b .b 0),(4,.b .b 0),(5,.b .b 0),(6,.b .b 0),(7,.b .b 0),(8,.b .b 80),(9,.b .b b),(10,.b .b 0),(11,.b .b 0),(12,.b .b 0),(13,.b .b 0),(14,.b .b 0),(15,.b .b 0)]).J aj w=.ok (.a (some ⟨w.a.j,0,none⟩) 16 16) (w.alloc (.D #[.b .b 0,.b .b 0,.b .b 0,.b .b 0,.b .b 0,.b .b 0,.b .b 0,.b .b 0,.b .b 80,.b .b b,.b .b 0,.b .b 0,.b .b 0,.b .b 0,.b .b 0,.b .b 0] 5)):=by
 obtain⟨i0,hi0,hz0,hz1,hz2⟩:=zF;have hr:lD 16 = #[0,1,2,3,4,5,6,7,8,9,10,11,12,13,14,15]:=by apply Array.ext';rw[Array.toList_range];rfl
 simp[BU,bK,dJ cu,zeroValue,sizeOf,typeInfo,hi0,hz0,hz1,fD,newRow,bZ,hr]
theorem OD(t:Tu)(h6:t.h.h=false)(hp:t.aR=6)(s0:0<=t.kT)(s1:t.kT<=65535)(d0:0<=t.j4)(d1:t.j4<=65535)(w:au)(A:Option aU)(m c:Nat)(load:List UInt8)(hm:m<=1000)(hr:fZ w w.a.j A m load)(hT:(Jr 6 (xw (abT t load))).1.dA=((20+m:Nat):Int)):
 aQ aj 40 #[.d qQ.aA,.d t.aA,.b .a 2,.a A m c] w (KI w (mk6 t load)):=by
 have HR:=ah hr;have hl:=ah hr.len;have HT:=ah hT;have HM:=ah (show mk6 t load=qE (bH 6 0) (bH 6 0) [] 2048++tO (aAs t (abT t load).a)++WZ t.h t.Y (abT t load)from rfl);have HSB:=ah (show abT t load=[aK (t.kT.e/256),aK (t.kT.e%256),aK (t.j4.e/256),aK (t.j4.e%256)]++[0,0,0,0,0,0,0,0,80,2,0,0,0,0,0,0]++load from rfl);clear hr hT;have h0:=((Bx.start w).new qQ.aA 108).new t.aA 81;rw[show(w.alloc (.D qQ.aA 108)).a.j=w.a.j+1 by simp]at h0;have Z0:=ah h0;clear h0;have hty:af' qQ t=Lc.mk (bH 6 0) (bH 6 0) none 0 0 2048 0:=by unfold af' qQ;rw[h6];rfl
 have CT:=ah (fun w1=>abp qQ t w1);rw[hty]at CT;have CP:=ah (fun w1=>V7 (Lc.mk (bH 6 0) (bH 6 0) none 0 0 2048 0) [] (by simp) (by simp) (by simp) (by simp) w1 (iF.nil _ _));unfold KI at CP;obtain⟨lb,hlb⟩:∃l,l=qE (bH 6 0) (bH 6 0) [] 2048:=⟨_,rfl⟩
 have LB:=ah (show lb.a<=100 by rw[hlb];simp[qE,qm]);simp only at CP;rw[<-hlb]at CP HM;clear hlb hty;go_enter Tryz.func40,Tryz.ntmps40;go_upto_region 1 with fail
 generalize(w.alloc (.D qQ.aA 108)).alloc (.D t.aA 81)=w0 at Z0 ⊢;obtain⟨x1,x2,x3,x4⟩:=Z0.i.b1.M;obtain⟨y1,y2,y3,y4⟩:=Z0.i.X.M;go_upto_region 2 with(first
  | (go_at_call 104;(with_reducible refine(CT.i _).g ?_);rintro e w1 ⟨rfl,hb1⟩;have Z1:=ah (Z0.i.go hb1);clear hb1)
  | (go_at_call 103;(with_reducible refine(CP.i _).g ?_);rintro e w2 ⟨A2,n2,c2,rfl,hn2,ho2,hb2⟩;have Z2:=ah (Z1.i.go hb2);have O2:=ah ho2;have N2:=ah hn2;have S2:=ah hb2.j;have S1:=ah Z1.i.R.j;clear hb2 ho2 hn2))
 clear x1 x2 x3 x4 y1 y2 y3 y4;obtain⟨y1,y2,y3,y4⟩:=Z2.i.X.M;have b34:=Tu.Vl t;rw[hp]at b34;have b35:=Tu.afF t;have b36:=Tu.aaP t;have b0:t.aA[0]? = some (.e false):=by rw[<-h6];exact Tu.qG t
 obtain⟨sp,hsp⟩:∃k,k=t.kT:=⟨_,rfl⟩
 obtain⟨dp,hdp⟩:∃k,k=t.j4:=⟨_,rfl⟩
 rw[<-hsp]at b35 s0 s1 HSB;rw[<-hdp]at b36 d0 d1 HSB;clear hsp hdp hp h6;have B0:=ah (((Ly.amQ w2 w2 (aH _ _) #[.b .b (sp/256),.b .b (sp%256),.b .b (dp/256),.b .b (dp%256)] [aK (sp.e/256),aK (sp.e%256),aK (dp.e/256),aK (dp.e%256)] 4 rfl (by omega) (by
  obtain⟨e1,e2⟩:=V6 sp s0 s1;obtain⟨e3,e4⟩:=V6 dp d0 d1;simp only[kK,List.map_nil,bv];rw[e1,e2,e3,e4])).add (q:=w.a.j) (c:=qQ.aA) (Z2.i.b1.alloc _) (by have:=Z2.i.b1.lt;simp[jJ];omega)).add (q:=w.a.j+1) (c:=t.aA) (Z2.i.X.alloc _) (by have:=Z2.i.X.lt;simp[jJ];omega))
 go_upto_region 3 with fail
 have O3:=ah (vF O2.i (.D #[.b .b (sp/256),.b .b (sp%256),.b .b (dp/256),.b .b (dp%256)] 5));have S3:=ah (show w2.a.j<(w2.alloc (.D #[.b .b (sp/256),.b .b (sp%256),.b .b (dp/256),.b .b (dp%256)] 5)).a.j by simp);have F3:=ah (show aM w2.a.j w2 (w2.alloc (.D #[.b .b (sp/256),.b .b (sp%256),.b .b (dp/256),.b .b (dp%256)] 5))from(aH _ _).alloc (ay _) _);generalize w2.alloc (.D #[.b .b (sp/256),.b .b (sp%256),.b .b (dp/256),.b .b (dp%256)] 5)=w3 at B0 O3 S3 F3 ⊢;clear y1 y2 y3 y4;obtain⟨y1,y2,y3,y4⟩:=B0.i.X.M;have B1:=ah (B0.i.alloc (.D #[.b .b 0,.b .b 0,.b .b 0,.b .b 0,.b .b 0,.b .b 0,.b .b 0,.b .b 0,.b .b 80,.b .b 2,.b .b 0,.b .b 0,.b .b 0,.b .b 0,.b .b 0,.b .b 0] 5));have R1:=ah (VX w3 #[.b .b 0,.b .b 0,.b .b 0,.b .b 0,.b .b 0,.b .b 0,.b .b 0,.b .b 0,.b .b 80,.b .b 2,.b .b 0,.b .b 0,.b .b 0,.b .b 0,.b .b 0,.b .b 0] [0,0,0,0,0,0,0,0,80,2,0,0,0,0,0,0] rfl);have L1:=ah (show([aK (sp.e/256),aK (sp.e%256),aK (dp.e/256),aK (dp.e%256)]:List UInt8).a+16<=1000000000 by simp);go_upto_region 7 with(at_builtin;refine kC rfl (.a 48) (.a 51) rfl rfl B1.i.o rfl R1.i L1.i ?_;intro A4 n4 c4 w4 h2 h3;have B4:=ah (B1.i.step h3);clear h2 h3)
 clear y1 y2 y3 y4 B1 R1 L1;have BW:=ah (Z2.i.R.trans (B4.i.o.R.g Z2.i.R.j));have R4:=ah (HR.i.upon BW.i);have L4:=ah (show(([aK (sp.e/256),aK (sp.e%256),aK (dp.e/256),aK (dp.e%256)]:List UInt8)++[0,0,0,0,0,0,0,0,80,2,0,0,0,0,0,0]).a+m<=1000000000 by simp;omega);go_upto_region 8 with(at_builtin;refine kC rfl (.a 53) (.a 54) rfl rfl B4.i.o rfl R4.i L4.i ?_;intro A5 n5 c5 w5 h2 h3;have B5:=ah (B4.i.step h3);clear h2 h3)
 obtain⟨sb,hsb⟩:∃l,l=abT t load:=⟨_,rfl⟩
 have SBL:=ah (show sb.a=20+m by rw[hsb,HSB.i];simp[hl.i];omega);rw[<-hsb]at HM HT HSB;rw[<-HSB.i]at B5;clear hsb HSB L4 R4 B4 BW;have N5:=ah (show n5=20+m by
  obtain⟨A9,c9,e9⟩:=B5.i.o.Cy;injection e9 with e9 e10 e11
  rw[e10];exact SBL.i)
 have hn5:n5<=2000:=by have:=N5.i;omega
 have HM:=ah (show mk6 t load=lb++tO (Fo.mk 20 (20+(n5:Int)) 0 0 false true 64 6 t.h t.Y)++WZ t.h t.Y sb by rw[HM.i,SBL.i,N5.i];rfl);have O5:=ah (fQ O2.i B5.i.o.R);have BW:=ah (Z2.i.R.trans (B5.i.o.R.g Z2.i.R.j));have CF:=ah (V8 (Fo.mk 20 (20+(n5:Int)) 0 0 false true 64 6 t.h t.Y) (by simp) (by simp) (by simp;omega) (by simp;omega) (by simp) (by simp) (by simp) (by simp) (by simp) (by simp) w5);unfold KI at CF;obtain⟨fb,hfb⟩:∃l,l=tO (Fo.mk 20 (20+(n5:Int)) 0 0 false true 64 6 t.h t.Y):=⟨_,rfl⟩
 have LF:=ah (show fb.a=20 by rw[hfb,Wh]);rw[<-hfb]at CF HM;clear hfb;have S5:=ah B5.i.o.R.j;obtain⟨y1,y2,y3,y4⟩:=B5.i.X.M;go_upto_region 11 with(first
  | (go_at_call 106;(with_reducible refine CF.i.g ?_);rintro e w6 ⟨A6,n6,c6,rfl,hn6,ho6,hb6⟩;have B6:=ah (B5.i.go hb6);have R6:=ah (fZ.gV ho6);have P6:=ah (Ow.gV (fQ O5.i hb6) (by have:=S1.i;have:=S2.i;have:=S5.i;have:=hb6.j;omega));have LN:=ah (show lb.a+n6<=1000000000 by have:=LB.i;have:=LF.i;omega);have W6:=ah (BW.i.trans (hb6.g BW.i.j));have O6:=ah (fQ O5.i hb6);clear hn6 ho6 hb6)
  | (at_builtin;refine kC rfl (.a 72) (.a 83) rfl rfl P6.i rfl R6.i LN.i ?_;intro A7 n7 c7 w7 h8 h9;have O7:=ah h8;clear h8 h9))
 clear y1 y2 y3 y4;have FA:=ah (gW O2.i);have F7:=ah (show jC (uf A2) w6 w7 from jC.Vd O7.i.gr (fun k hk=>.a (by
  cases A2 with
  | none=>cases hk
  | some a=>exact AX.2 ⟨a,rfl,by simpa[jJ]using hk⟩)))
 have FB:=ah (fun b (hb:b∈uf A5)=>show b∉uf A2 from fun h=>by
  have h1:=FA.i b h;have h2:=gW (by have:=B6.i.o.vD;rw[SBL.i,<-N5.i]at this;exact this) b hb;omega)
 have R7:=ah (show fZ w7 w7.a.j A5 n5 sb from TV (Dq B6.i.o (aH _ _)) (ay _) F7.i FB.i);have X7:=ah (F7.i.box B6.i.X (fun h=>by have h1:=FA.i _ h;have:=Z0.i.X.lt;have:=S1.i;have h3:=Z1.i.X.lt;omega));have CL:=ah (abS t.h t.Y w7 A5 n5 c5 sb (by have:=N5.i;omega) (by omega) R7.i (by rw[HT.i,N5.i]));unfold KI at CL;obtain⟨lf,hlf⟩:∃l,l=WZ t.h t.Y sb:=⟨_,rfl⟩
 have LL:=ah (show lf.a<=2000 by rw[hlf];unfold WZ xw;simp only[aW];have:=SBL.i;omega);rw[<-hlf]at CL HM;clear hlf;obtain⟨y1,y2,y3,y4⟩:=X7.i.M;go_wp2_with (first
  | (go_at_call 107;(with_reducible refine CL.i.g ?_);rintro e w8 ⟨A8,n8,c8,rfl,hn8,ho8,XQ⟩;have R8:=ah (fZ.gV ho8);have P8:=ah (O7.i.go XQ);have LN:=ah (show(lb++fb).a+n8<=1000000000 by rw[aS];have:=LB.i;have:=LF.i;have:=LL.i;omega);clear hn8 ho8 XQ)
  | (at_builtin;refine kC rfl (.a 85) (.a 93) rfl rfl P8.i rfl R8.i LN.i ?_;intro A9 n9 c9 w9 h8 h9;have O9:=ah h8;clear h8 h9))
 go_ret;rw[HM.i];have ho:=O9.i;obtain⟨A',c',e9⟩:=jw ho.vD;obtain⟨e9,_⟩:=e9;injection e9 with e9 e10 e11
 refine⟨_,_,_,rfl,e10,?_,W6.i.trans (ho.S.g (by have:=S1.i;omega))⟩;have h:=iM ho.vD (show w.a.j<=w1.a.j by have:=S1.i;omega);rw[<-e10]at h;exact h
def KQ(b:Nat):Cn:={aoe with qj:=some ⟨b,0,none⟩,Y:=1,ql:=1}
theorem ars(w:au)(fs:Array Field)(h:aj.underlying 27=some (.struct fs)):(iG (fun f=>Prod.mk f.Z <$> sizeOf f.type) fs:Sem (Array (Nat×Nat))).J aj w=.ok #[(0,1),(1,16)] w:=by
 have e:=fC;rw[h]at e;cases e;show _=_
 kernel_rfl
theorem aru(W:au):(uJ 27 #[(1,.d #[aJ aX 5,aJ aX 6,aJ aX 7,aJ aX 8,aJ aX 0,aJ aX 0,aJ aX 0,aJ aX 0,aJ aX 0,aJ aX 0,aJ aX 0,aJ aX 0,aJ aX 0,aJ aX 0,aJ aX 0,aJ aX 0])]).J aj W=.ok (.d (uZ [5,6,7,8]).aA) W:=aa2.bd W _ _ _ _ fC (ars W _ fC) (by kernel_rfl)
theorem arv(W:au):(uJ 27 #[(1,.d #[aJ aX 1,aJ aX 2,aJ aX 3,aJ aX 4,aJ aX 0,aJ aX 0,aJ aX 0,aJ aX 0,aJ aX 0,aJ aX 0,aJ aX 0,aJ aX 0,aJ aX 0,aJ aX 0,aJ aX 0,aJ aX 0])]).J aj W=.ok (.d (uZ [1,2,3,4]).aA) W:=aa2.bd W _ _ _ _ fC (ars W _ fC) (by kernel_rfl)
theorem arw(W:au):(uJ 27 #[(1,.d #[aJ aX 10,aJ aX 0,aJ aX 0,aJ aX 9,aJ aX 0,aJ aX 0,aJ aX 0,aJ aX 0,aJ aX 0,aJ aX 0,aJ aX 0,aJ aX 0,aJ aX 0,aJ aX 0,aJ aX 0,aJ aX 0])]).J aj W=.ok (.d (uZ [10,0,0,9]).aA) W:=aa2.bd W _ _ _ _ fC (ars W _ fC) (by kernel_rfl)
def aia(n:Nat)(ps:Array (Nat×aC)):Sem aC:=bK 23 n ps
@[go_sem ↓]theorem aAu(n:Nat)(ps:Array (Nat×aC)):bK 23 n ps=aia n ps:=rfl
@[go_sem]theorem avZ(W:au)(v:Vp):(aia 1 #[(0,.d v.aA)]).J aj W=.ok (.a (some ⟨W.a.j,0,none⟩) 1 1) (W.alloc (.D v.aA 98)):=by
 obtain⟨i0,hi0,hz0,hz1,hzb⟩:=abP;exact rR W _ _ i0 (.d og.aA) 20 vC hi0 hz0 hz1 (Vp.I og) (by omega) (by omega) v.aA (Vp.I v)
theorem aAv(W:au):(uJ 98 #[(0,.d (uZ [5,6,7,8]).aA),(1,.b .a 6),(2,.b .a 80)]).J aj W=.ok (.d Io.aA) W:=kVp.bd W _ _ _ _ r9 (ayl W _ r9) (by kernel_rfl)
theorem aAw(W:au):(uJ 27 #[(0,.e true)]).J aj W=.ok (.d (fE.mk true (bH 16 0)).aA) W:=aa2.bd W _ _ _ _ fC (ars W _ fC) (by kernel_rfl)
theorem Cn.aog(x:Cn)(v:Int):x.aA.b 1 (.b .a v)=({x with j:=v}:Cn).aA:=by simp[Cn.aA,aN,fE.I,gM,jL]
theorem Cn.aoh(x:Cn)(v:Int):x.aA.b 2 (.b .a v)=({x with dX:=v}:Cn).aA:=by simp[Cn.aA,aN,fE.I,gM,jL]
theorem Cn.aoi(x:Cn)(v:Int):x.aA.b 9 (.b .a v)=({x with kr:=v}:Cn).aA:=by simp[Cn.aA,aN,fE.I,gM,jL]
theorem Cn.aoj(x:Cn)(v:Int):x.aA.b 10 (.b .a v)=({x with fall:=v}:Cn).aA:=by simp[Cn.aA,aN,fE.I,gM,jL]
theorem Cn.aok(x:Cn)(v:Int):x.aA.b 51 (.b .a v)=({x with afV:=v}:Cn).aA:=by simp[Cn.aA,aN,fE.I,gM,jL]
theorem Cn.aol(x:Cn)(v:Int):x.aA.b 52 (.b .a v)=({x with keep:=v}:Cn).aA:=by simp[Cn.aA,aN,fE.I,gM,jL]
theorem Cn.akA(x:Cn)(v:Int):x.aA.b 53 (.b .a v)=({x with Vz:=v}:Cn).aA:=by simp[Cn.aA,aN,fE.I,gM,jL]
theorem Cn.aom(x:Cn)(v:Vector Int 6):sG x.aA 3 (Kz v)=({x with kD:=v}:Cn).aA:=by
 unfold Cn.aA;exact qR (by rw[jL,jL]) 3 rfl
theorem Cn.arx(x:Cn)(v:fE):sG x.aA 34 v.aA=({x with h:=v}:Cn).aA:=by
 unfold Cn.aA;have:=qR (p:=#[.a x.qj x.Y x.ql,.b .a x.j,.b .a x.dX]++Kz x.kD ++ #[.b .a x.kr,.b .a x.fall]++AO x.Bj++x.Cz.aA) (q:=x.h.aA) (r:=#[.b .a x.afV,.b .a x.keep,.b .a x.Vz]) (v:=v.aA) (by rw[fE.I,fE.I]) 34 (by simp[fE.I,gM,jL]);simpa[Array.append_assoc]using this
def av0:Vector Int 6:=Ej fun i=>if i.val=0 then 0 else 5
theorem aon:Kz av0 = #[aJ bU 0,aJ bU 5,aJ bU 5,aJ bU 5,aJ bU 5,aJ bU 5]:=by kernel_rfl
theorem aAx(W:au)(b:Nat):(uJ 29 #[(0,.a (some ⟨b,0,none⟩) 1 1),(1,.b .a 7),(2,.b .a 9),(3,.d #[aJ bU 0,aJ bU 5,aJ bU 5,aJ bU 5,aJ bU 5,aJ bU 5]),(4,.b .a 1),(5,.b .a 1),(8,.d (fE.mk true (bH 16 0)).aA),(9,.b .a 1000),(10,.b .a 2),(11,.b .a 5)]).J aj W=.ok (.d (KQ b).aA) W:=TD.bd W _ _ _ _ nD (auj W _ nD) (by
 rw[<-aon];refine(iC rfl rfl (by rw[Cn.I];omega) (Cn.Ji PN _ _ _)).trans ?_;refine(iC rfl rfl (by rw[Cn.I];omega) (Cn.aog _ _)).trans ?_;refine(iC rfl rfl (by rw[Cn.I];omega) (Cn.aoh _ _)).trans ?_;refine(sM rfl (jL _) (by rw[Cn.I];omega) (Cn.aom _ _)).trans ?_;refine(iC rfl rfl (by rw[Cn.I];omega) (Cn.aoi _ _)).trans ?_;refine(iC rfl rfl (by rw[Cn.I];omega) (Cn.aoj _ _)).trans ?_;refine(sM rfl (fE.I _) (by rw[Cn.I];omega) (Cn.arx _ _)).trans ?_;refine(iC rfl rfl (by rw[Cn.I];omega) (Cn.aok _ _)).trans ?_;refine(iC rfl rfl (by rw[Cn.I];omega) (Cn.aol _ _)).trans ?_;refine(iC rfl rfl (by rw[Cn.I];omega) (Cn.akA _ _)).trans ?_;rfl)
theorem aey(w:au):aQ aj 39 #[] w fun e w'=>∃b,e=.a (.d (KQ b).aA)/\iF Vp.aA 20 w' w'.a.j (some ⟨b,0,none⟩) 1 [Io]/\dN w' b Io.aA/\w.a.j<=b/\aM w.a.j w w':=by
 have b1:=aru;have b2:=aAv;have b5:=aAw;have b6:=aAx;obtain⟨V,hV⟩:=sQ Io;obtain⟨C,hC⟩:=sQ KQ;obtain⟨D,hD⟩:=sQ (uZ [5,6,7,8]);obtain⟨X6,hX⟩:∃D,(fE.mk true (bH 16 0))=D:=⟨_,rfl⟩
 rw[hV]at b2 ⊢;rw[hC]at b6 ⊢;rw[hD]at b1 b2;rw[hX]at b5 b6;clear hV hC hD hX;have Z0:=ah ((Bx.start w).new PN.aA 29);go_enter Tryz.func39,Tryz.ntmps39;go_upto_region 1 with fail
 generalize w.alloc (.D PN.aA 29)=w0 at Z0 ⊢;have Z1:=ah (Z0.i.new V.aA 98);go_upto_region 2 with fail
 generalize w0.alloc (.D V.aA 98)=w1 at Z1 ⊢;have NP:=ah (show w0.a.j≠w.a.j by have:=Z0.i.X.lt;omega);have SZ1:=ah Z1.i.b1.lt;generalize w0.a.j=p at Z1 NP ⊢;have Z2:=ah (Z1.i.alloc (.D V.aA 98));have R2:=ah (iF.one V Vp.I w1 98);obtain⟨x1,x2,x3,x4⟩:=Z1.i.X.M;have th:=Z2.i.b1.O 0 54 (aY (Cn.I PN).symm);have Z3:=ah (Z2.i.swap.put (fun r hr=>by rw[fT.1 hr];exact NP.i) (C w1.a.j).aA (by rw[Cn.I,Cn.I]));have R3:=ah (R2.i.keep (yF _ w.a.j 0 (C w1.a.j).aA) (fun b hb=>by have:=SZ1.i;simp[uf]at hb;subst hb;simp;omega));go_wp2_with fail;refine aO (TD.zm rfl _ rfl Z3.i.X (Cn.I _)) rfl ?_;exact⟨_,rfl,R3.i,(yF _ w.a.j 0 (C w1.a.j).aA).box (dN.new w1 V.aA 98) (by have:=SZ1.i;simp;omega),by have:=SZ1.i;omega,Z3.i.R⟩
theorem kAt:oW 66 34 qo.aA:=⟨⟨_,lU,rfl⟩,by kernel_rfl,by kernel_rfl,At.I _⟩
theorem qV.abU(k:Int)(y:Bk)(s:List UInt8)(v:Nat):(qV.mk k y s v).aA = #[.b .a k]++(y.aA ++ #[.g (bP s),fv v]):=by apply GZ.1;simp[qV.aA]
theorem qV.cO(x:qV):x.aA.all (·.oneCell')=true:=by
 obtain⟨k,y,s,v⟩:=x;rw[qV.abU];exact iq (by simp[dx]) (iq (Bk.cO _) (by simp[dx,fv]))
theorem At.cO(x:At):x.aA.all (·.oneCell')=true:=iq (by simp[dx]) (iq (qV.cO _) (by simp[dx]))
@[go_sem]theorem At.all(x:At):x.aA.extract 0 34=x.aA:=by have:=At.I x;rw[<-this];simp
@[go_sem ↓]theorem aMl(v:aC):Instr.loadAt 66 v=xK 66 v:=rfl
@[go_sem ↓]theorem aMm(v x:aC):Instr.storeAt 66 v x=zk 66 v x:=rfl
@[go_sem]theorem aAy(W:au)(b o:Nat)(h:vE W b o 34):(xK 66 (.c (some ⟨b,o,none⟩))).J aj W=.ok (.d (dQ W b o 34)) W:=kAt.ld W b o h
@[go_sem]theorem aFN(W:au)(c:Array aC)(x:At)(b:Nat)(hb:b=W.a.j)(hc:eF c=34):(zk 66 (.c (some ⟨b,0,none⟩)) (.d x.aA)).J aj (W.alloc (.D c 66))=.ok () (W.alloc (.D x.aA 66)):=kAt.stN W c x.aA b hb hc (At.I x) (At.cO x)
@[go_sem ↓]theorem aMn(ps:Array (Nat×aC)):fM 66 ps=uJ 66 ps:=rfl
theorem arz(w:au)(fs:Array Field)(h:aj.underlying 66=some (.struct fs)):(iG (fun f=>Prod.mk f.Z <$> sizeOf f.type) fs:Sem (Array (Nat×Nat))).J aj w=.ok #[(0,1),(1,1),(2,30),(32,1),(33,1)] w:=by
 have e:=lU;rw[h]at e;cases e;show _=_
 kernel_rfl
theorem At.EX(x:At)(v:Int):x.aA.b 0 (.b .a v)=({x with kind:=v}:At).aA:=by simp[At.aA,aN]
theorem At.aoo(x:At)(A:Option aU)(n c:Nat):x.aA.b 1 (.a A n c)=({x with Oy:=A,yG:=n,FJ:=c}:At).aA:=by simp[At.aA,aN]
theorem At.aop(x:At)(s:List UInt8):x.aA.b 32 (.g (bP s))=({x with E:=s}:At).aA:=by simp[At.aA,aN,qV.I]
theorem At.av2(x:At)(v:qV):sG x.aA 2 v.aA=({x with op:=v}:At).aA:=by
 unfold At.aA;exact qR (by rw[qV.I,qV.I]) 2 rfl
@[go_sem]theorem aFO(W:au)(k:Int):(uJ 66 #[(0,.b .a k)]).J aj W=.ok (.d ({qo with kind:=k}:At).aA) W:=kAt.bd W _ _ _ _ lU (arz W _ lU) (by
 refine(iC rfl rfl (by rw[At.I];omega) (At.EX qo _)).trans ?_;rfl)
@[go_sem]theorem aFP(W:au)(k:Int)(A:Option aU)(n c:Nat):(uJ 66 #[(0,.b .a k),(1,.a A n c)]).J aj W=.ok (.d ({qo with kind:=k,Oy:=A,yG:=n,FJ:=c}:At).aA) W:=kAt.bd W _ _ _ _ lU (arz W _ lU) (by
 refine(iC rfl rfl (by rw[At.I];omega) (At.EX qo _)).trans ?_;refine(iC rfl rfl (by rw[At.I];omega) (At.aoo _ _ _ _)).trans ?_;rfl)
@[go_sem]theorem aFQ(W:au)(k:Int)(o:qV):(uJ 66 #[(0,.b .a k),(2,.d o.aA)]).J aj W=.ok (.d ({qo with kind:=k,op:=o}:At).aA) W:=kAt.bd W _ _ _ _ lU (arz W _ lU) (by
 refine(iC rfl rfl (by rw[At.I];omega) (At.EX qo _)).trans ?_;refine(sM rfl (qV.I _) (by rw[At.I];omega) (At.av2 _ _)).trans ?_;rfl)
@[go_sem]theorem aFR(W:au)(k:Int)(s:List UInt8):(uJ 66 #[(0,.b .a k),(3,.g (bP s))]).J aj W=.ok (.d ({qo with kind:=k,E:=s}:At).aA) W:=kAt.bd W _ _ _ _ lU (arz W _ lU) (by
 refine(iC rfl rfl (by rw[At.I];omega) (At.EX qo _)).trans ?_;refine(iC rfl rfl (by rw[At.I];omega) (At.aop _ _)).trans ?_;rfl)
def aez:qV:=⟨0,jd,[],0⟩
theorem aFS:oW 64 30 aez.aA:=⟨⟨_,vk,rfl⟩,by kernel_rfl,by kernel_rfl,qV.I _⟩
theorem aAz(w:au)(fs:Array Field)(h:aj.underlying 64=some (.struct fs)):(iG (fun f=>Prod.mk f.Z <$> sizeOf f.type) fs:Sem (Array (Nat×Nat))).J aj w=.ok #[(0,1),(1,27),(28,1),(29,1)] w:=by
 have e:=vk;rw[h]at e;cases e;show _=_
 kernel_rfl
theorem aAA(W:au):(atG #[(0,.g ⟨#[97]⟩),(1,.d (uZ [10,0,0,9]).aA),(2,.b .a 8080),(4,.float .f64 4607182418800017408)]).J aj W=.ok (.d akx.aA) W:=kBk.bd W _ _ _ _ lS (YB W _ lS) (by kernel_rfl)
@[go_sem ↓]theorem aIl(ps:Array (Nat×aC)):fM 64 ps=uJ 64 ps:=rfl
@[go_sem]theorem aCb(W:au)(k:Int)(x:Bk):(uJ 64 #[(0,.b .a k),(1,.d x.aA)]).J aj W=.ok (.d (qV.mk k x [] 0).aA) W:=aFS.bd W _ _ _ _ vk (aAz W _ vk) (by
 refine(iC rfl rfl (by rw[qV.I];omega) (show aez.aA.b 0 (.b .a k)=({aez with kind:=k}:qV).aA by simp[qV.aA,aez])).trans ?_;refine(sM rfl (Bk.I _) (by rw[qV.I];omega) (show sG ({aez with kind:=k}:qV).aA 1 x.aA=(qV.mk k x [] 0).aA by
  have:=qR (p:=#[.b .a k]) (q:=jd.aA) (r:=#[.g (bP []),fv 0]) (v:=x.aA) (by rw[Bk.I,Bk.I]) 1 rfl;show sG (qV.mk k jd [] 0).aA 1 x.aA=_;rw[qV.abU,qV.abU];exact this)).trans ?_
 rfl)
structure Aw(w0 W:au)(q q2 g:Nat)(L:List (Nat×Array aC)):Prop where
 R:aM w0.a.j w0 W
 new:w0.a.j<=q/\w0.a.j<=q2/\w0.a.j<=g
 lt:q<W.a.j/\q2<W.a.j/\g<W.a.j
 I:∀p∈L,w0.a.j<=p.1/\p.1∉[q,q2,g]/\dN W p.1 p.2
section
variable {w0 W W':au} {q q2 g:Nat} {L:List (Nat×Array aC)}
theorem Aw.go(h:Aw w0 W q q2 g L)(hb:aM W.a.j W W'):Aw w0 W' q q2 g L:=⟨h.R.trans (hb.g h.R.j),h.new,by have:=h.lt;have:=hb.j;omega,fun p hp=>⟨(h.I p hp).1,(h.I p hp).2.1,(h.I p hp).2.2.go hb⟩⟩
theorem Aw.step(h:Aw w0 W q q2 g L)(hf:jC [q,q2,g] W W'):Aw w0 W' q q2 g L:=⟨h.R.trans (hf.qO (fun b hb=>by have:=h.new;simp at hb;omega) h.R.j),h.new,by have:=h.lt;have:=hf.j;omega,fun p hp=>⟨(h.I p hp).1,(h.I p hp).2.1,hf.box (h.I p hp).2.2 (h.I p hp).2.1⟩⟩
theorem Aw.add(h:Aw w0 W q q2 g L)(c:Array aC)(t:bF):Aw w0 (W.alloc (.D c t)) q q2 g ((W.a.j,c)::L):=by
 have h1:=h.go ((aH W.a.j W).alloc (ay _) (.D c t));refine⟨h1.R,h1.new,h1.lt,fun p hp=>?_⟩;rcases bE.1 hp with rfl|hp
 ·exact⟨h.R.j,by have:=h.lt;simp;omega,dN.new W c t⟩
 ·exact h1.I p hp
theorem Aw.box(h:Aw w0 W q q2 g L){p:Nat×Array aC}(hp:p∈L):dN W p.1 p.2:=(h.I p hp).2.2
def AwP(w0 W:au)(q q2 g:Nat)(L:List (Nat×Array aC))(R:qB×Ou)(r:lu)(W':au):Prop:=
 ∃o x' sl',r=.a (.d (Oc.aA o))/\Aw w0 W' q q2 g L/\yE W' q yQ R.1 x' q2 g sl'/\OcR W' o R.2/\(∀b∈uf o.Im,b∉[q,q2,g])/\jC [q,q2,g] W W'
theorem Bf{s:qB}{x:Eg}{sl:List (Option Fw)}{M:Int}(A:Aw w0 W q q2 g L)(h:yE W q yQ s x q2 g sl)(hi:oH M yQ s)(hM:M<1152921504606846976)(a:At)(u:Ac)(ha:AtR W a u)(hof:u.op.bk.qg)(how:u.op.w<18446744073709551616)(R:qB×Ou)(hR:yA yQ s u=R):
 aQ aj 25 #[.c (some ⟨q,0,none⟩),.d a.aA] W (AwP w0 W q q2 g L R):=by
 subst hR;refine(WU h hi hM a u ha hof how).g ?_;rintro r W' ⟨o,x',sl',rfl,hou,hE,_,_,hf⟩;exact⟨o,x',sl',rfl,A.step hf,hE,hou.rd,fun b hb=>by have:=(gW hou.vD b hb).1;have:=A.lt;simp;omega,hf⟩
theorem yE.aAB{key:Vector UInt8 16}{c:Cn}{vs:List Vp}{s:qB}{x:Eg}{sl:List (Option Fw)}{A:Option aU}{n k:Nat}(h:yE W q ⟨key,{c with qj:=A,Y:=n,ql:=k},vs⟩ s x q2 g sl):yE W q ⟨key,c,vs⟩ s x q2 g sl:=
 ⟨⟨h.b.eg,h.b.key,h.b.cf,h.b.Y,h.b.vs,h.b.bk,h.b.hl,h.b.fl,h.b.h,h.b.rm,h.b.nq,h.b.Af,h.b.gq,h.b.no,h.b.lI⟩,h.dn,h.tt⟩
end
theorem abV(c:Cn)(vs:List Vp)(A:Option aU)(n k:Nat):yu {c with qj:=A,Y:=n,ql:=k} vs=yu c vs:=by unfold yu;rfl
theorem aeA(c:Cn)(vs:List Vp)(s:qB)(A:Option aU)(n k:Nat):zw {c with qj:=A,Y:=n,ql:=k} vs s=zw c vs s:=by unfold zw Wn;rw[abV];rfl
theorem akB:yu PN []=false:=by decide +kernel
theorem sD:jd.qg:=by unfold Bk.qg;simp[jd]
theorem aib:akx.qg:=by unfold Bk.qg;simp[akx]
theorem aAC:mk6 (Tu.mk (uZ [1,2,3,4]) (uZ [5,6,7,8]) 6 1000 80) [104,105]=awF:=by decide +kernel
theorem av3:mk6 (Tu.mk (uZ [1,2,3,4]) (uZ [10,0,0,9]) 6 1000 8080) [104,105]=awW:=by decide +kernel
theorem av4:(Jr 6 (xw (abT (Tu.mk (uZ [1,2,3,4]) (uZ [5,6,7,8]) 6 1000 80) [104,105]))).1.dA=((20+2:Nat):Int):=by decide +kernel
theorem arA:(Jr 6 (xw (abT (Tu.mk (uZ [1,2,3,4]) (uZ [10,0,0,9]) 6 1000 8080) [104,105]))).1.dA=((20+2:Nat):Int):=by decide +kernel
theorem av5:jg (qh 16 [1]) = #[aJ aX 1,aJ aX 0,aJ aX 0,aJ aX 0,aJ aX 0,aJ aX 0,aJ aX 0,aJ aX 0,aJ aX 0,aJ aX 0,aJ aX 0,aJ aX 0,aJ aX 0,aJ aX 0,aJ aX 0,aJ aX 0]:=by kernel_rfl
theorem asU:oH 0 yQ uO:=Qe _ asS
theorem asV:oH 1 yQ aw0.1:=uX asU acF sD (by decide)
theorem asW:oH 2 yQ aw1.1:=uX asV acA aib (by decide)
theorem asX:oH 3 yQ aw2.1:=uX asW acF sD (by decide)
theorem asY:oH 4 yQ aw3.1:=uX asX acF sD (by decide)
theorem asZ:oH 5 yQ aw4.1:=uX asY (acH [98]) sD (by decide)
theorem as0:oH 6 yQ aw5.1:=uX asZ (acH [97]) sD (by decide)
theorem as1:oH 7 yQ aw6.1:=uX as0 acF sD (by decide)
theorem as2:oH 8 yQ aw7.1:=uX as1 (acK 4) sD (by decide)
theorem as3:oH 9 yQ Uc.1:=uX as2 (acK 9) sD (by decide)
section
variable {w0 W W':au} {q q2 g b b' p n B:Nat} {c c':Array aC} {A:Option aU} {l:List UInt8} {L L':List (Nat×Array aC)}
theorem dN.aAD(h:dN W b c)(k:dN W b c'):c=c':=by
 obtain⟨t,h⟩:=h;obtain⟨t',k⟩:=k;rw[h]at k;injection k with k
 injection k
theorem dN.ne(h:dN W b c)(k:dN W b' c')(hs:c.j≠c'.j):b≠b':=by
 rintro rfl;exact hs (by rw[h.aAD k])
theorem fZ.far(h:fZ W B A n l)(k:dN W p c)(hn:c.j<n):∀y∈uf A,y∉[p]:=by
 intro y hy hp;obtain⟨a,rfl,_,hc⟩:=fZ.fG h (k:=n-1) (by omega);obtain⟨t,hk⟩:=k;simp[uf]at hy hp;subst hp;rw[hy]at hk;unfold World.cell? at hc;rw[show(a.add (n-1)).block=a.block by unfold qH;split<;>rfl,hk]at hc;simp only at hc;split at hc
 ·cases hc
 ·have h1:=(Array.getElem?_eq_some_iff.1 hc).1
  have h2:n-1<=(a.add (n-1)).off:=by
   unfold qH;split<;>simp<;>omega
  omega
theorem Aw.put(h:Aw w0 W q q2 g L)(hf:jC [p] W W')(hb:dN W' p c')(hc:(p,c)∈L)(hL:∀y∈L',y∈L/\y.2.j≠c.j):Aw w0 W' q q2 g ((p,c')::L'):=by
 refine⟨h.R.trans (hf.qO (fun y hy=>by rw[fT.1 hy];exact(h.I _ hc).1) h.R.j),h.new,by have:=h.lt;have:=hf.j;omega,fun y hy=>?_⟩;rcases bE.1 hy with rfl|hy
 ·exact⟨(h.I _ hc).1,(h.I _ hc).2.1,hb⟩
 ·obtain⟨h1,h2⟩:=hL y hy
  refine⟨(h.I _ h1).1,(h.I _ h1).2.1,hf.box (h.I _ h1).2.2 (fun e=>h2 ?_)⟩;rw[fT]at e;obtain⟨y1,y2⟩:=y;simp only at e;subst e;rw[dN.aAD (h.I _ h1).2.2 (h.I _ hc).2.2]
theorem iF.aAE{α:Type}{f:α->Array aC}{sz:Nat}{A:Option aU}{W W':au}{B B':Nat}{l:List α}(h:iF f sz W B A n l)(hl:l.a=0):iF f sz W' B' A n l:=by
 have e:=bG hl;subst e;have h1:=h.1;have h2:=h.2.1.1;refine⟨h.1,⟨h2,fun hn=>?_⟩,fun a ha hn=>?_⟩
 ·simp at h1;omega
 ·simp at h1;omega
theorem iF.arB{α:Type}{f:α->Array aC}{sz:Nat}{x:α}{W:au}{b:Nat}(h:dN W b (f x))(hs:(f x).j=sz):iF f sz W W.a.j (some ⟨b,0,none⟩) 1 [x]:=by
 refine⟨rfl,⟨by simp[hs],fun _=>⟨_,rfl,h.lt,fun j u hu=>?_⟩⟩,fun a ha _=>by injection ha with ha;subst ha;rfl⟩;rw[iH,bl,h.M.1];simpa[dH]using hu
structure TbQ(W:au)(q:Nat)(x:Eg)(t:Tl):Prop where
 b:dN W q x.aA
 n:RdT W W.a.j x.h.qF x.h.mM t.h
 s:YG W W.a.j x.h.oP x.h.lM t.rJ
theorem TbQ.go{x:Eg}{t:Tl}(h:TbQ W q x t)(hb:aM W.a.j W W'):TbQ W' q x t:=⟨h.b.go hb,h.n.go hb,h.s.go hb⟩
end
@[go_sem]theorem aoM(W:au)(A1:Option aU)(n1 c1:Nat)(A2:Option aU)(n2 c2:Nat):(Instr.field 72 (.d (Tc.mk A1 n1 c1 A2 n2 c2).aA) 1).J aj W=.ok (.a A2 n2 c2) W:=by
 show _=_
 kernel_rfl
theorem aeB{W:au}{b:Nat}{x:Sh}(h:dN W b x.aA):(afK (.c (some ⟨b,0,none⟩))).J aj W=.ok (.d x.aA) W:=kSh.mW h (Sh.I _)
theorem aFT:Uc.1.lI.a.c 8 0=2:=by decide +kernel
theorem av6:Uc.1.rX.a<=9/\Uc.1.h.a<=9/\Uc.1.I.a<=9:=by decide +kernel
theorem aFU:zw aoe [Io] Uc.1=true:=by decide +kernel
theorem aAG:(wF yQ Uc.1).h.a=0:=by decide +kernel
structure Xc(W0 W:au)(q:Nat)(e:En)(s:qB)(x:Eg)(q2 g:Nat)(sl:List (Option Fw)):Prop where
 r:yE W q e s x q2 g sl
 R:aM W0.a.j W0 W
 new:W0.a.j<=q/\W0.a.j<=q2/\W0.a.j<=g
 Af:∀k∈mD x,W0.a.j<=k
section
variable {W0 W W':au} {q q2 g r r2 g2:Nat} {e:En} {s t:qB} {x y x':Eg} {sl sm sl':List (Option Fw)}
theorem Xc.go(h:Xc W0 W q e s x q2 g sl)(hb:aM W.a.j W W'):Xc W0 W' q e s x q2 g sl:=⟨h.r.go hb,h.R.trans (hb.g h.R.j),h.new,h.Af⟩
theorem Xc.lt(h:Xc W0 W q e s x q2 g sl):q<W.a.j/\q2<W.a.j/\g<W.a.j:=h.r.b.lt
theorem Xc.start(h:yE W' q e s x q2 g sl)(h0:aM W0.a.j W0 W)(hb:aM W.a.j W W')(hq:W.a.j<=q/\W.a.j<=q2/\W.a.j<=g)(hr:∀k∈mD x,W.a.j<=k):Xc W0 W' q e s x q2 g sl:=by
 have:=h0.j;exact⟨h,h0.trans (hb.g h0.j),by omega,fun k hk=>by have:=hr k hk;omega⟩
theorem Xc.Xo(h:Xc W0 W q e s x q2 g sl)(h':yE W' q e t x' q2 g sl')(hf:jC [q,q2,g] W W')(hr:∀k∈mD x',k∈mD x\/W.a.j<=k):Xc W0 W' q e t x' q2 g sl':=
 ⟨h',h.R.trans (hf.qO (fun k hk=>by have:=h.new;simp at hk;omega) h.R.j),h.new,fun k hk=>(hr k hk).elim (h.Af k) (fun h1=>aP h.R.j h1)⟩
theorem Xc.arW(h:Xc W0 W r e t y r2 g2 sm)(k:Xc W0 W q e s x q2 g sl)(hf:jC [q,q2,g] W W')(h1:r∉[q,q2,g])(h2:r2∉[q,q2,g])(h3:g2∉[q,q2,g])(o:∀b∈mD y,b∉[q,q2,g]):Xc W0 W' r e t y r2 g2 sm:=
 ⟨h.r.Ko hf h1 h2 h3 o,h.R.trans (hf.qO (fun k' hk=>by have:=k.new;simp at hk;omega) h.R.j),h.new,h.Af⟩
structure ZI(W0 W:au)(q:Nat)(e:En)(s:qB)(x:Eg)(q2 g:Nat)(sl:List (Option Fw))(r:Nat)(t:qB)(y:Eg)(r2 g2:Nat)(sm:List (Option Fw)):Prop where
 a:Xc W0 W q e s x q2 g sl
 b:Xc W0 W r e t y r2 g2 sm
 ab:∀k∈[r,r2,g2],k∉[q,q2,g]
 rb:∀k∈mD y,k∉[q,q2,g]
 ra:∀k∈mD x,k∉[r,r2,g2]
theorem ZI.swap(h:ZI W0 W q e s x q2 g sl r t y r2 g2 sm):ZI W0 W r e t y r2 g2 sm q s x q2 g sl:=
 ⟨h.b,h.a,fun k hk hm=>h.ab k hm hk,h.ra,h.rb⟩
theorem ZI.go(h:ZI W0 W q e s x q2 g sl r t y r2 g2 sm)(hb:aM W.a.j W W'):ZI W0 W' q e s x q2 g sl r t y r2 g2 sm:=⟨h.a.go hb,h.b.go hb,h.ab,h.rb,h.ra⟩
theorem ZI.Xo{u:qB}(h:ZI W0 W q e s x q2 g sl r t y r2 g2 sm)(h':yE W' q e u x' q2 g sl')(hf:jC [q,q2,g] W W')(hr:∀k∈mD x',k∈mD x\/W.a.j<=k):ZI W0 W' q e u x' q2 g sl' r t y r2 g2 sm:=by
 have hl:=h.b.lt;refine⟨h.a.Xo h' hf hr,h.b.arW h.a hf (h.ab r (by simp)) (h.ab r2 (by simp)) (h.ab g2 (by simp)) h.rb,h.ab,h.rb,fun k hk=>(hr k hk).elim (h.ra k) (fun h1=>by simp;omega)⟩
theorem ZI.start(h:Xc W0 W q e s x q2 g sl)(hb:aM W.a.j W W')(h':yE W' r e t y r2 g2 sm)(hq:W.a.j<=r/\W.a.j<=r2/\W.a.j<=g2)(hr:∀k∈mD y,W.a.j<=k):ZI W0 W' q e s x q2 g sl r t y r2 g2 sm:=by
 have hl:=h.lt;refine⟨h.go hb,Xc.start h' h.R hb hq hr,?_,?_,?_⟩
 ·intro k hk;simp at hk⊢;omega
 ·intro k hk;have:=hr k hk;simp;omega
 ·intro k hk;have:=h.r.b.Af k hk;simp;omega
end
def W9(e:En)(s:qB)(us:List Ac):qB:=us.foldl (fun s u=>(yA e s u).1) s
theorem akC(e:En)(s:qB)(us:List Ac)(u:Ac):W9 e s (us++[u])=(yA e (W9 e s us) u).1:=by simp[W9]
theorem akD{e:En}{s:qB}{us:List Ac}{k:Nat}(h:k<us.a):W9 e s (us.d (k+1))=(yA e (W9 e s (us.d k)) (us.c k aob)).1:=by
 rw[List.take_add_one,aD h,av,aD h];exact akC _ _ _ _
theorem aoq{e:En}{s:qB}{M:Int}(h:oH M e s)(us:List Ac)(hu:∀u∈us,u.op.bk.qg/\u.op.w<18446744073709551616):oH (M+us.a) e (W9 e s us):=by
 induction us generalizing s M with
 | nil=>simpa[W9]using h
 | cons u us ih=>
   have h1:=uX h u (hu u (by simp)).1 (hu u (by simp)).2;have h2:=ih h1 (fun v hv=>hu v (by simp[hv]));have e1:M+((u::us).a:Int)=M+1+(us.a:Int):=by simp only[List.length_cons];omega
   rw[e1];exact h2
theorem aeC(t:Tl)(A1:Option aU)(n1 c1:Nat)(A2:Option aU)(n2 c2:Nat)(B1:Option aU)(m1 d1:Nat)(B2:Option aU)(m2 d2:Nat)(w:au)(h1:RdT w w.a.j A1 n1 t.h)(h2:YG w w.a.j A2 n2 t.rJ)(h3:RdT w w.a.j B1 m1 t.h)(h4:YG w w.a.j B2 m2 t.rJ)(hn1:n1<=100000)(hn2:n2<=100000):
 aQ aj 30 #[.d (Tc.mk A1 n1 c1 A2 n2 c2).aA,.d (Tc.mk B1 m1 d1 B2 m2 d2).aA] w (gy w (.e true)):=by
 have hm1:m1=n1:=h3.1.symm.trans h1.1;have hm2:m2=n2:=h4.1.symm.trans h2.1;subst hm1;subst hm2;have h0:=((Bx.start w).new (Tc.mk A1 m1 c1 A2 m2 c2).aA 72).new (Tc.mk B1 m1 d1 B2 m2 d2).aA 72;rw[show(w.alloc (.D (Tc.mk A1 m1 c1 A2 m2 c2).aA 72)).a.j=w.a.j+1 by simp]at h0;have Z0:=ah h0;have R1:=ah h1;have R2:=ah h2;have R3:=ah h3;have R4:=ah h4;clear h0 h1 h2 h3 h4;have KT:=ah (fun(W:au) (Z:Bx [(w.a.j+1,(Tc.mk B1 m1 d1 B2 m2 d2).aA),(w.a.j,(Tc.mk A1 m1 c1 A2 m2 c2).aA)] w W)=>show W.b ⟨w.a.j,0,none⟩=some (.a A1 m1 c1)/\W.b ⟨w.a.j,1,none⟩=some (.a A2 m2 c2)/\W.b ⟨w.a.j+1,0,none⟩=some (.a B1 m1 d1)/\W.b ⟨w.a.j+1,1,none⟩=some (.a B2 m2 d2)from
  ⟨(Z.b1.M.1 0).trans rfl,(Z.b1.M.1 1).trans rfl,(Z.X.M.1 0).trans rfl,(Z.X.M.1 1).trans rfl⟩)
 go_enter Tryz.func30,Tryz.ntmps30;go_upto_region 1 with fail
 generalize(w.alloc (.D (Tc.mk A1 m1 c1 A2 m2 c2).aA 72)).alloc (.D (Tc.mk B1 m1 d1 B2 m2 d2).aA 72)=w1 at Z0 ⊢;obtain⟨k1,k2,k3,k4⟩:=KT.i _ Z0.i;go_wp2;clear k1 k2 k3 k4;go_loopw [5] (fun s5 wr=>∃i:Nat,i<=m1/\s5=.b .a i/\Bx [(w.a.j+1,(Tc.mk B1 m1 d1 B2 m2 d2).aA),(w.a.j,(Tc.mk A1 m1 c1 A2 m2 c2).aA)] w wr) (fun s5 _=>m1-(intOf s5).e)
 case atStart=>exact⟨0,by omega,rfl,Z0.i⟩
 case round=>
  obtain⟨i,hin,rfl,hz⟩:=hrel;have ZR:=ah hz;clear hz;obtain⟨k1,k2,k3,k4⟩:=KT.i _ ZR.i;by_cases hlt:i<m1
  ·have hi:(i:Int)<m1:=by omega
   obtain⟨b,o,rfl,_,c1⟩:=iF.text (ZR.i.rdR R1.i) hlt;obtain⟨b',o',rfl,_,c2⟩:=iF.text (ZR.i.rdR R3.i) hlt;obtain⟨s,hs⟩:=sQ (t.h.c i []);rw[hs]at c1 c2;have e1:(s != s)=false:=by simp
   clear hs;go_upto_region 6 with fail
   go_quiet (fail);go_wp2;go_roundw
   case rel=>exact⟨i+1,by omega,by go_num,ZR.i.drewN nq⟩
   case measure=>simp[intOf]<;>omega
  have hnl:¬(i:Int)<m1:=by omega
  clear hlt;go_wp2;clear k1 k2 k3 k4;go_loopw [6] (fun s6 wr=>∃j:Nat,j<=m2/\s6=.b .a j/\Bx [(w.a.j+1,(Tc.mk B1 m1 d1 B2 m2 d2).aA),(w.a.j,(Tc.mk A1 m1 c1 A2 m2 c2).aA)] w wr) (fun s6 _=>m2-(intOf s6).e)
  case atStart=>exact⟨0,by omega,rfl,ZR.i⟩
  case round=>
   obtain⟨j,hjn,rfl,hz⟩:=hrel;have ZS:=ah hz;clear hz;obtain⟨k1,k2,k3,k4⟩:=KT.i _ ZS.i;by_cases hlt:j<m2
   ·have hi:(j:Int)<m2:=by omega
    obtain⟨b,o,rfl,c1⟩:=YG.fG (ZS.i.rdR R2.i) hlt;obtain⟨b',o',rfl,c2⟩:=YG.fG (ZS.i.rdR R4.i) hlt;obtain⟨s,hs⟩:=sQ (t.rJ.c j 0);rw[hs]at c1 c2;have e1:(s != s)=false:=by simp
    clear hs;go_upto_region 11 with fail
    go_quiet (fail);go_wp2;go_roundw
    case rel=>exact⟨j+1,by omega,by go_num,ZS.i.drewN nq⟩
    case measure=>simp[intOf]<;>omega
   have hnl:¬(j:Int)<m2:=by omega
   clear hlt;go_wp2;go_ret;exact⟨rfl,ZS.i.R⟩
def bz(A:Option aU)(n:Nat):List Nat:=if n=0 then []else uf A
structure XP(w0 W:au)(A:Option aU)(n sz:Nat):Prop where
 nul:n=0\/∃g cur,A=some ⟨g,0,none⟩/\dN W g cur/\n*sz<=cur.j
 Ko:jC (bz A n) w0 W
theorem akE{b:Nat}:∀(xs:List aC)(o:Nat)(W:au)(c:Array aC),dN W b c->∃c',c'.j=c.j/\dN (W.setCells b o xs) b c':=by
 intro xs
 induction xs with
 | nil=>exact fun o W c h=>⟨c,rfl,h⟩
 | cons x xs ih=>
   intro o W c h;obtain⟨c',h1,h2⟩:=ih (o+1) _ _ (h.eH o x);exact⟨c',by rw[h1];simp,h2⟩
theorem tQ{A:Option aU}{n k:Nat}(h:k∈bz A n):k∈uf A:=by
 unfold bz at h;split at h
 ·cases h
 ·exact h
section
variable {w w0 W W':au} {A:Option aU} {n sz k base c:Nat} {T:bF} {xs:List aC}
theorem XP.start(h:w.c base T sz (.a A n c) n xs):XP w w A n sz:=by
 refine⟨?_,jC.refl _ _⟩;rcases h.2 with⟨_,h0⟩|⟨g,cap,cur,hv,_,hg,hle,_,hsz,_⟩
 ·exact .a h0
 ·injection hv with h1 h2 h3
  exact .b ⟨g,cur,h1,⟨_,hg⟩,by rw[hsz];exact bY _ hle⟩
theorem XP.dB(h:XP w0 W A n sz){j:Nat}(hj:j<n):∃g cur,A=some ⟨g,0,none⟩/\dN W g cur/\(j*sz+sz<=cur.j)/\∀o xs,XP w0 (W.setCells g o xs) A n sz:=by
 obtain⟨g,cur,h1,h2,h3⟩:=h.nul.resolve_left (by omega);refine⟨g,cur,h1,h2,by have:=bY sz hj;rw[Nat.succ_mul]at this;omega,fun o xs=>?_⟩;obtain⟨c',e1,e2⟩:=akE xs o W cur h2;have e:bz A n=[g]:=by unfold bz;rw[if_neg (by omega),h1];rfl
 refine⟨.b ⟨g,c',h1,e2,by rw[e1];exact h3⟩,h.Ko.pO ?_⟩;rw[e];exact(jC.refl [g] W).grown (IL _ o W (World.grownBy.refl W (some g))) (fun k e=>.a (by injection e with e;simp[e]))
end
section
variable {W0 W W':au} {q q2 g r r2 g2:Nat} {e:En} {s t:qB} {x y x':Eg} {sl sm sl':List (Option Fw)} {F:List Nat} {k:Nat}
theorem Xc.Ko(h:Xc W0 W q e s x q2 g sl)(hf:jC F W W')(hF:∀k∈F,W0.a.j<=k/\k∉[q,q2,g]/\k∉mD x):Xc W0 W' q e s x q2 g sl:=
 ⟨h.r.Ko hf (fun hm=>(hF _ hm).2.1 (by simp)) (fun hm=>(hF _ hm).2.1 (by simp)) (fun hm=>(hF _ hm).2.1 (by simp)) (fun b hb hm=>(hF b hm).2.2 hb),h.R.trans (hf.qO (fun k hk=>(hF k hk).1) h.R.j),h.new,h.Af⟩
structure Off(W0:au)(q q2 g:Nat)(x:Eg)(r r2 g2:Nat)(y:Eg)(k:Nat):Prop where
 new:W0.a.j<=k
 a:k∉[q,q2,g]/\k∉mD x
 b:k∉[r,r2,g2]/\k∉mD y
theorem ZI.Ko(h:ZI W0 W q e s x q2 g sl r t y r2 g2 sm)(hf:jC F W W')(hF:∀k∈F,Off W0 q q2 g x r r2 g2 y k):ZI W0 W' q e s x q2 g sl r t y r2 g2 sm:=
 ⟨h.a.Ko hf (fun k hk=>⟨(hF k hk).new,(hF k hk).a⟩),h.b.Ko hf (fun k hk=>⟨(hF k hk).new,(hF k hk).b⟩),h.ab,h.rb,h.ra⟩
theorem ZI.off(h:ZI W0 W q e s x q2 g sl r t y r2 g2 sm)(hk:W.a.j<=k):Off W0 q q2 g x r r2 g2 y k:=by
 have h1:=h.a.lt;have h2:=h.b.lt;have h3:=h.a.R.j;refine⟨by omega,⟨by simp;omega,fun hm=>?_⟩,⟨by simp;omega,fun hm=>?_⟩⟩
 ·have:=h.a.r.b.Af k hm;omega
 ·have:=h.b.r.b.Af k hm;omega
end
theorem Kr{W:au}{B n c k sz n2 c2 k2 sz2:Nat}{T T2:bF}{A A2:Option aU}{xs xs2:List aC}(h:W.c B T sz (.a A n c) k xs)(h2:W.c B T2 sz2 (.a A2 n2 c2) k2 xs2)(hT:T≠T2):∀b∈bz A2 n2,∀d,(bC A n c).ownBlock=some d->d≠b:=by
 rintro b hb d hd rfl;have hb2:=tQ hb;rcases h.2 with⟨e,_⟩|⟨g,cap,cur,e,_,hg,_⟩
 ·rw[e]at hd;cases hd
 ·rw[e]at hd
  injection hd with hd
  rcases h2.2 with⟨e2,_⟩|⟨g2,cap2,Si,e2,_,hg2,_⟩
  ·injection e2 with e3;rw[e3]at hb2;cases hb2
  ·injection e2 with e3
   rw[e3]at hb2;have:d=g2:=by simpa[uf]using hb2
   rw[<-this,<-hd,hg]at hg2;injection hg2 with hg2
   injection hg2 with _ e4
   exact hT e4
theorem arD{A:Option aU}{n c k:Nat}(h:(bC A n c).ownBlock=some k):k∈uf A:=by
 cases hA:A with
 | none=>rw[hA]at h;cases h
 | some a=>rw[hA]at h;exact AX.2 ⟨a,rfl,by simpa[jJ]using h⟩
theorem aic{e:En}{s:qB}{M:Int}(h:oH M e s):(wF e s).h.a<=100000/\(wF e s).rJ.a<=100000:=by
 have:=anM h;omega
theorem OE{W W':au}{B n c k sz m:Nat}{T:bF}{A A2:Option aU}{xs:List aC}(h:W.c B T sz (.a A n c) k xs)(hf:jC (bz A2 m) W W')(hA:∀b∈bz A2 m,∀d,(bC A n c).ownBlock=some d->d≠b):W'.c B T sz (.a A n c) k xs:=
 yC h hf (fun d hd hm=>hA d hm d hd rfl)
def av7(W0 W:au)(q:Nat)(e:En)(x:Eg)(q2 g:Nat)(r:Nat)(t:qB)(y:Eg)(r2 g2:Nat)(sm:List (Option Fw))(R:qB×Ou)(z:lu)(W':au):Prop:=
 ∃o x' sl',z=.a (.d (Oc.aA o))/\OuR W.a.j W' o R.2/\ZI W0 W' q e R.1 x' q2 g sl' r t y r2 g2 sm/\jC [q,q2,g] W W'/\∀k∈mD x',k∈mD x\/(W.a.j<=k/\k∉uf o.Im)
theorem ZJ{W0 W:au}{q q2 g r r2 g2:Nat}{e:En}{s t:qB}{x y:Eg}{sl sm:List (Option Fw)}{M:Int}(h:ZI W0 W q e s x q2 g sl r t y r2 g2 sm)(hi:oH M e s)(hM:M<1152921504606846976)(a:At)(u:Ac)(ha:AtR W a u)(hof:u.op.bk.qg)(how:u.op.w<18446744073709551616):
 aQ aj 25 #[.c (some ⟨q,0,none⟩),.d a.aA] W (av7 W0 W q e x q2 g r t y r2 g2 sm (yA e s u)):=
 (WU h.a.r hi hM a u ha hof how).g (by
  rintro z W' ⟨o,x',sl',rfl,ho,hE,hl,hr,hf⟩;exact⟨o,x',sl',rfl,ho,h.Xo hE hf (fun b hb=>(hr b hb).imp id And.left),hf,hr⟩)
@[go_sem]theorem av8(w:au):(aia 0 #[]).J aj w=.ok (.a (some ⟨w.a.j,0,none⟩) 0 0) (w.alloc (.D #[] 98)):=by
 obtain⟨i0,hi0,hz0,hz1,_⟩:=abP;simp[aia,bK,dJ vC,zeroValue,sizeOf,typeInfo,hi0,hz0,hz1,fD,newRow,bZ];rw[show(lD 0) = #[]by decide];simp
@[go_sem]theorem av9:Obj.cells #[aJ bU 0,bC none 0 0,aJ bU 0,jl {data:=#[]},bQ false,aJ aX 0,aJ aX 0,aJ aX 0,aJ aX 0,aJ aX 0,aJ aX 0,aJ aX 0,aJ aX 0,aJ aX 0,aJ aX 0,aJ aX 0,aJ aX 0,aJ aX 0,aJ aX 0,aJ aX 0,aJ aX 0,aJ bU 0,aJ aX 0,aJ aX 0,aJ aX 0,aJ aX 0,aJ aX 0,aJ aX 0,Aj FloatKind.f64 0,bQ false,jl {data:=#[]},Aj FloatKind.f64 0,jl {data:=#[]},bQ false] 66=Obj.cells qo.aA 66:=by kernel_rfl
theorem fZ.ku{W W' W2:au}{A:Option aU}{n:Nat}{l:List UInt8}{F:List Nat}(h:fZ W W.a.j A n l)(hf:jC F W W')(hn:∀b∈uf A,b∉F)(hb:aM W'.a.j W' W2):fZ W2 W2.a.j A n l:=fZ.upon (TV h (ay _) hf hn:fZ W' W'.a.j A n l) hb
theorem OcR.all{W:au}{o:Oc}{u:Ou}(h:OcR W o u):o.err=u.err/\o.jh=u.jh/\o.wW=u.wW/\o.Y=u.Y/\o.E=u.E:=⟨h.err,h.jh,h.wW,h.Y,h.E⟩
theorem aor(w:au)(c:Array aC)(l:List UInt8)(h:c.a=l.map bv)(m:Nat×Nat):fZ (w.alloc (.D c 5 m)) (w.alloc (.D c 5 m)).a.j (some ⟨w.a.j,0,none⟩) l.a l:=by
 refine⟨by simp,fun _=>⟨_,rfl,by simp,fun j u hu=>?_⟩⟩;rw[iH,bl,cell_of_row _ _ _ _ _ _ (heap_alloc_new w (.D c 5 m)),<-hu,<-h,dH]
theorem as4(w:au):(convert 56 56 (.a (some ⟨w.a.j,0,none⟩) 2 2)).J aj (w.alloc (.D #[.b .b 104,.b .b 105] 5))=.ok (.a (some ⟨w.a.j,0,none⟩) 2 2) (w.alloc (.D #[.b .b 104,.b .b 105] 5 (2,3))):=Lib.run_convert_bytes_const (P:=aj) w 56 5 #[.b .b 104,.b .b 105] 2 2 cu lF
theorem zV(w:au):aQ aj 12 #[] w (gy w (.e true)):=by
 have CPL:=ah (aey w);have CN:=ah (fun(W:au) (b:Nat) (hV:iF Vp.aA 20 W W.a.j (some ⟨b,0,none⟩) 1 [Io])=>Qm (qh 16 [1]) (KQ b) [Io] W hV (show 1<=1 by omega) (show 1<=100000 by omega) (by unfold KQ;rw[abV];exact asS));have C0:=ah (fun(W:au)=>aoa (qh 16 [1]) PN [] W (iF.nil _ _) (show 0<=0 by omega) (show 0<=100000 by omega) akB);have CM:=ah (fun(W:au) (A:Option aU) (c:Nat) (hr:fZ W W.a.j A 2 [104,105])=>OD (Tu.mk (uZ [1,2,3,4]) (uZ [5,6,7,8]) 6 1000 80) rfl rfl (by simp) (by simp) (by simp) (by simp) W A 2 c [104,105] (by omega) hr av4);have CM2:=ah (fun(W:au) (A:Option aU) (c:Nat) (hr:fZ W W.a.j A 2 [104,105])=>OD (Tu.mk (uZ [1,2,3,4]) (uZ [10,0,0,9]) 6 1000 8080) rfl rfl (by simp) (by simp) (by simp) (by simp) W A 2 c [104,105] (by omega) hr arA);have NF0:=ah (show awF.a=56 from rfl);obtain⟨FF,hFF⟩:∃x,awF=x:=⟨_,rfl⟩
 obtain⟨WW,hWW⟩:∃x,awW=x:=⟨_,rfl⟩
 have FD:=ah hFF;have HWW:=ah hWW;rw[aAC,hFF]at CM;rw[av3,hWW]at CM2;rw[hFF]at NF0;clear hFF hWW;rw[av5]at CN C0;have b1:=arv;have b9:=arw;have bk:=aAA;obtain⟨D1,hD1⟩:∃d,uZ [1,2,3,4]=d:=⟨_,rfl⟩
 obtain⟨D9,hD9⟩:∃d,uZ [10,0,0,9]=d:=⟨_,rfl⟩
 obtain⟨D5,hD5⟩:∃d,uZ [5,6,7,8]=d:=⟨_,rfl⟩
 rw[hD1]at b1 CM CM2;rw[hD9]at b9 bk CM2;rw[hD5]at CM;have HV5:=ah (show Io.aA.extract 0 17=D5.aA by rw[<-hD5];rfl);clear hD1 hD9 hD5;go_enter Tryz.func12,Tryz.ntmps12;go_upto_region 2 with(go_at_call 39;(with_reducible refine CPL.i.g ?_);rintro e w1 ⟨b,rfl,hv,hvb,hb0,hb⟩;have HV:=ah hv;have VB:=ah hvb;have HB0:=ah hb0;have Z1:=ah ((Bx.start w).go hb);clear hv hvb hb hb0)
 have Z2:=ah (Z1.i.new (KQ b).aA 29);have V2:=ah (HV.i.go ((aH w1.a.j w1).alloc (ay _) (.D (KQ b).aA 29)));have VB2:=ah (VB.i.alloc (.D (KQ b).aA 29));have SB:=ah VB.i.lt;generalize w1.alloc (.D (KQ b).aA 29)=w2 at Z2 V2 VB2 ⊢;have HP1:=ah (show w.a.j<=w1.a.j from Z1.i.R.j);generalize w1.a.j=p1 at Z2 SB HP1 ⊢;clear CPL HV VB Z1;have l1:=TD.mW Z2.i.X (Cn.I _);unfold Ll at CN;go_upto_region 3 with(go_at_call 23;(with_reducible refine(CN.i _ b V2.i).g ?_);rintro e w3 ⟨q,x,q2,g,sl,rfl,hE,hb3,hq,hrw⟩;have E3:=ah (yE.aAB hE);have Z3:=ah (Z2.i.go hb3);have V3:=ah (V2.i.go hb3);have VB3:=ah (VB2.i.go hb3);have HQ:=ah hq;have S3:=ah hb3.j;clear hE hb3 hq hrw)
 clear l1;go_upto_region 4 with(go_at_call 23;(with_reducible refine(C0.i _).g ?_);rintro e w4 ⟨rfl,hb4⟩;have E4:=ah (E3.i.go hb4);have Z4:=ah (Z3.i.go hb4);have V4:=ah (V3.i.go hb4);have VB4:=ah (VB3.i.go hb4);have S4:=ah hb4.j;clear hb4)
 have A4:=ah (show Aw w w4 q q2 g [(p1,(KQ b).aA),(b,Io.aA)]from⟨Z4.i.R,by have:=HQ.i;have:=Z2.i.R.j;omega,E4.i.b.lt,fun p hp=>by
  have hq:=HQ.i;have h1:=Z2.i.X.lt;have h2:=VB2.i.lt;have h3:=HP1.i;have h4:=HB0.i;simp at hp;rcases hp with rfl|rfl
  ·exact⟨h3,by simp;omega,Z4.i.X⟩
  ·exact⟨h4,by simp;omega,VB4.i⟩⟩)
 clear Z2 Z3 Z4 V2 V3 VB2 VB3 VB4 E3 HB0 SB CN C0;go_upto_region 6 with fail
 have fv:=((A4.i.box (p:=(p1,(KQ b).aA)) (by simp)).M.1 0).trans (Cn.AQ (KQ b));change w4.b ⟨p1,0,none⟩=some (.a (some ⟨b,0,none⟩) 1 1)at fv;have la:=(A4.i.box (p:=(b,Io.aA)) (by simp)).Q8 (o:=0) HV5.i (by rw[Vp.I];omega);go_upto_region 7 with fail
 have A5:=ah (A4.i.add (Tu.mk D1 D5 6 1000 80).aA 81);have E5:=ah (E4.i.go ((aH w4.a.j w4).alloc (ay _) (.D (Tu.mk D1 D5 6 1000 80).aA 81)));generalize w4.alloc (.D (Tu.mk D1 D5 6 1000 80).aA 81)=w5 at A5 E5 ⊢;generalize w4.a.j=p6 at A5 ⊢;clear fv la A4 E4;have lt5:=pQ (A5.i.box (p:=(p6,(Tu.mk D1 D5 6 1000 80).aA)) (by simp));have R5:=ah (aor w5 #[.b .b 104,.b .b 105] [104,105] rfl (2,3));have B5:=ah ((aH w5.a.j w5).alloc (ay _) (.D #[.b .b 104,.b .b 105] 5 (2,3)));have kc:=as4;unfold KI at CM CM2;go_upto_region 8 with(go_at_call 40;(with_reducible refine(CM.i _ _ 2 R5.i).g ?_);rintro e w6 ⟨FA,fn,fc,rfl,hn,ho,hb⟩;have A6:=ah ((A5.i.go B5.i).go hb);have E6:=ah ((E5.i.go B5.i).go hb);have HN:=ah hn;have HO:=ah ho;clear hn ho hb)
 have RF:=ah (fZ.gV HO.i);have NF:=ah (show∀k∈uf FA,k∉[q,q2,g]from fun k hk=>by have h1:=(gW HO.i k hk).1;have h2:=(A5.i.go B5.i).lt;simp;omega);have LF:=ah (show fn<=fc/\fc<=9223372036854775807/\fn<=1000000 by obtain⟨A9,c9,e9,l1,l2⟩:=jw HO.i;injection e9 with e1 e2 e3;subst e3;refine⟨l1,by unfold maxLen at l2;omega,by have h3:=HN.i;have h4:=NF0.i;omega⟩);clear HN HO;have A7:=ah (A6.i.add ({qo with kind:=1,Oy:=FA,yG:=fn,FJ:=fc}:At).aA 66);have B7:=ah ((aH w6.a.j w6).alloc (ay _) (.D ({qo with kind:=1,Oy:=FA,yG:=fn,FJ:=fc}:At).aA 66));have E7:=ah (E6.i.go B7.i);have R7:=ah (RF.i.upon B7.i);generalize w6.alloc (.D ({qo with kind:=1,Oy:=FA,yG:=fn,FJ:=fc}:At).aA 66)=w7 at A7 E7 R7 B7 ⊢;generalize w6.a.j=p7 at A7 ⊢;cases FD.i;clear A5 E5 R5 B5 A6 E6 RF B7 lt5 CM kc;obtain⟨fy1,fy2,fy3,fy4⟩:=(A7.i.box (p:=(p7,({qo with kind:=1,Oy:=FA,yG:=fn,FJ:=fc}:At).aA)) (by simp)).M;have CS:=ah (Bf A7.i E7.i asU (by omega) ({qo with kind:=1,Oy:=FA,yG:=fn,FJ:=fc}:At) acF ⟨rfl,R7.i,LF.i,rfl,rfl,rfl⟩ sD (by decide) aw0 rfl);unfold AwP at CS;go_upto_region 9 with(go_at_call 25;(with_reducible refine CS.i.g ?_);rintro r v0 ⟨o0,x0,sl0,rfl,h1,h2,h3,h4,h5⟩;have HA:=ah h1;have HE:=ah h2;have HO:=ah h3;have HN0:=ah h4;have HF:=ah h5;clear h1 h2 h3 h4 h5)
 have A8:=ah (HA.i.add o0.aA 58);have BB:=ah ((aH v0.a.j v0).alloc (ay _) (.D o0.aA 58));have E8:=ah (HE.i.go BB.i);have R8:=ah (fZ.ku R7.i HF.i NF.i BB.i);have O0:=ah (HO.i.go BB.i);generalize v0.alloc (.D o0.aA 58)=u0 at A8 E8 R8 O0 ⊢;generalize v0.a.j=p8 at A8 ⊢;have H0:=ah O0.i.all;clear CS HA HE HO HF BB A7 E7 R7 O0 fy1 fy2 fy3 fy4;have CS:=ah (Bf A8.i E8.i asV (by omega) ({qo with kind:=2,op:=⟨1,akx,[],0⟩}:At) acA ⟨rfl,KJ _,⟨ay _,ji _,ji _⟩,rfl,rfl,rfl⟩ aib (by decide) aw1 rfl);unfold AwP at CS;obtain⟨BK,hBK⟩:∃x,akx=x:=⟨_,rfl⟩
 rw[hBK]at CS bk;clear hBK;go_upto_region 10 with(go_at_call 25;(with_reducible refine CS.i.g ?_);rintro r v1 ⟨o1,x1,sl1,rfl,h1,h2,h3,h4,h5⟩;have HA:=ah h1;have HE:=ah h2;have HO:=ah h3;have HN1:=ah h4;have HF:=ah h5;clear h1 h2 h3 h4 h5)
 have A9:=ah (HA.i.add o1.aA 58);have BB:=ah ((aH v1.a.j v1).alloc (ay _) (.D o1.aA 58));have E9:=ah (HE.i.go BB.i);have R9:=ah (fZ.ku R8.i HF.i NF.i BB.i);have O1:=ah (HO.i.go BB.i);generalize v1.alloc (.D o1.aA 58)=u1 at A9 E9 R9 O1 ⊢;generalize v1.a.j=p9 at A9 ⊢;have H1:=ah O1.i.all;clear CS HA HE HO HF BB A8 E8 R8 O1 bk;obtain⟨fy1,fy2,fy3,fy4⟩:=(A9.i.box (p:=(p7,({qo with kind:=1,Oy:=FA,yG:=fn,FJ:=fc}:At).aA)) (by simp)).M;have CS:=ah (Bf A9.i E9.i asW (by omega) ({qo with kind:=1,Oy:=FA,yG:=fn,FJ:=fc}:At) acF ⟨rfl,R9.i,LF.i,rfl,rfl,rfl⟩ sD (by decide) aw2 rfl);unfold AwP at CS;go_upto_region 11 with(go_at_call 25;(with_reducible refine CS.i.g ?_);rintro r v2 ⟨o2,x2,sl2,rfl,h1,h2,h3,h4,h5⟩;have HA:=ah h1;have HE:=ah h2;have HO:=ah h3;have Qi:=ah h4;have HF:=ah h5;clear h1 h2 h3 h4 h5)
 have A10:=ah (HA.i.add o2.aA 58);have BB:=ah ((aH v2.a.j v2).alloc (ay _) (.D o2.aA 58));have E10:=ah (HE.i.go BB.i);have R10:=ah (fZ.ku R9.i HF.i NF.i BB.i);have O2:=ah (HO.i.go BB.i);generalize v2.alloc (.D o2.aA 58)=u2 at A10 E10 R10 O2 ⊢;generalize v2.a.j=p10 at A10 ⊢;have H2:=ah O2.i.all;have Q10:=ah (show fZ u2 u2.a.j o2.Im o2.Fj awW by have:=O2.i.i;rw[aof]at this;exact this);clear CS HA HE HO HF BB A9 E9 R9 O2 fy1 fy2 fy3 fy4;obtain⟨fy1,fy2,fy3,fy4⟩:=(A10.i.box (p:=(p7,({qo with kind:=1,Oy:=FA,yG:=fn,FJ:=fc}:At).aA)) (by simp)).M;have CS:=ah (Bf A10.i E10.i asX (by omega) ({qo with kind:=1,Oy:=FA,yG:=fn,FJ:=fc}:At) acF ⟨rfl,R10.i,LF.i,rfl,rfl,rfl⟩ sD (by decide) aw3 rfl);unfold AwP at CS;go_upto_region 12 with(go_at_call 25;(with_reducible refine CS.i.g ?_);rintro r v3 ⟨o3,x3,sl3,rfl,h1,h2,h3,h4,h5⟩;have HA:=ah h1;have HE:=ah h2;have HO:=ah h3;have HN3:=ah h4;have HF:=ah h5;clear h1 h2 h3 h4 h5)
 have A11:=ah (HA.i.add o3.aA 58);have BB:=ah ((aH v3.a.j v3).alloc (ay _) (.D o3.aA 58));have E11:=ah (HE.i.go BB.i);have R11:=ah (fZ.ku R10.i HF.i NF.i BB.i);have O3:=ah (HO.i.go BB.i);have Q11:=ah (fZ.ku Q10.i HF.i Qi.i BB.i);generalize v3.alloc (.D o3.aA 58)=u3 at A11 E11 R11 O3 Q11 ⊢;generalize v3.a.j=p11 at A11 ⊢;have H3:=ah O3.i.all;clear CS HA HE HO HF BB A10 E10 R10 O3 fy1 fy2 fy3 fy4 Q10;have CS:=ah (Bf A11.i E11.i asY (by omega) ({qo with kind:=3,E:=[98]}:At) (acH [98]) ⟨rfl,KJ _,⟨ay _,ji _,ji _⟩,rfl,rfl,rfl⟩ sD (by decide) aw4 rfl);unfold AwP at CS;have es:(⟨#[98]⟩:ByteArray)=bP [98]:=rfl;go_upto_region 13 with(go_at_call 25;(with_reducible refine CS.i.g ?_);rintro r v4 ⟨o4,x4,sl4,rfl,h1,h2,h3,h4,h5⟩;have HA:=ah h1;have HE:=ah h2;have HO:=ah h3;have HN4:=ah h4;have HF:=ah h5;clear h1 h2 h3 h4 h5)
 have A12:=ah (HA.i.add o4.aA 58);have BB:=ah ((aH v4.a.j v4).alloc (ay _) (.D o4.aA 58));have E12:=ah (HE.i.go BB.i);have R12:=ah (fZ.ku R11.i HF.i NF.i BB.i);have O4:=ah (HO.i.go BB.i);have Q12:=ah (fZ.ku Q11.i HF.i Qi.i BB.i);generalize v4.alloc (.D o4.aA 58)=u4 at A12 E12 R12 O4 Q12 ⊢;generalize v4.a.j=p12 at A12 ⊢;have H4:=ah O4.i.all;clear CS HA HE HO HF BB A11 E11 R11 O4 es Q11;have CS:=ah (Bf A12.i E12.i asZ (by omega) ({qo with kind:=3,E:=[97]}:At) (acH [97]) ⟨rfl,KJ _,⟨ay _,ji _,ji _⟩,rfl,rfl,rfl⟩ sD (by decide) aw5 rfl);unfold AwP at CS;have es:(⟨#[97]⟩:ByteArray)=bP [97]:=rfl;go_upto_region 14 with(go_at_call 25;(with_reducible refine CS.i.g ?_);rintro r v5 ⟨o5,x5,sl5,rfl,h1,h2,h3,h4,h5⟩;have HA:=ah h1;have HE:=ah h2;have HO:=ah h3;have HN5:=ah h4;have HF:=ah h5;clear h1 h2 h3 h4 h5)
 have A13:=ah (HA.i.add o5.aA 58);have BB:=ah ((aH v5.a.j v5).alloc (ay _) (.D o5.aA 58));have E13:=ah (HE.i.go BB.i);have R13:=ah (fZ.ku R12.i HF.i NF.i BB.i);have O5:=ah (HO.i.go BB.i);have Q13:=ah (fZ.ku Q12.i HF.i Qi.i BB.i);generalize v5.alloc (.D o5.aA 58)=u5 at A13 E13 R13 O5 Q13 ⊢;generalize v5.a.j=p13 at A13 ⊢;have H5:=ah O5.i.all;clear CS HA HE HO HF BB A12 E12 R12 O5 es Q12;obtain⟨fy1,fy2,fy3,fy4⟩:=(A13.i.box (p:=(p7,({qo with kind:=1,Oy:=FA,yG:=fn,FJ:=fc}:At).aA)) (by simp)).M;have CS:=ah (Bf A13.i E13.i as0 (by omega) ({qo with kind:=1,Oy:=FA,yG:=fn,FJ:=fc}:At) acF ⟨rfl,R13.i,LF.i,rfl,rfl,rfl⟩ sD (by decide) aw6 rfl);unfold AwP at CS;go_upto_region 15 with(go_at_call 25;(with_reducible refine CS.i.g ?_);rintro r v6 ⟨o6,x6,sl6,rfl,h1,h2,h3,h4,h5⟩;have HA:=ah h1;have HE:=ah h2;have HO:=ah h3;have HN6:=ah h4;have HF:=ah h5;clear h1 h2 h3 h4 h5)
 have A14:=ah (HA.i.add o6.aA 58);have BB:=ah ((aH v6.a.j v6).alloc (ay _) (.D o6.aA 58));have E14:=ah (HE.i.go BB.i);have R14:=ah (fZ.ku R13.i HF.i NF.i BB.i);have O6:=ah (HO.i.go BB.i);have Q14:=ah (fZ.ku Q13.i HF.i Qi.i BB.i);generalize v6.alloc (.D o6.aA 58)=u6 at A14 E14 R14 O6 Q14 ⊢;generalize v6.a.j=p14 at A14 ⊢;have H6:=ah O6.i.all;clear CS HA HE HO HF BB A13 E13 R13 O6 fy1 fy2 fy3 fy4 Q13;have CS:=ah (Bf A14.i E14.i as1 (by omega) ({qo with kind:=4}:At) (acK 4) ⟨rfl,KJ _,⟨ay _,ji _,ji _⟩,rfl,rfl,rfl⟩ sD (by decide) aw7 rfl);unfold AwP at CS;go_upto_region 16 with(go_at_call 25;(with_reducible refine CS.i.g ?_);rintro r v7 ⟨o7,x7,sl7,rfl,h1,h2,h3,h4,h5⟩;have HA:=ah h1;have HE:=ah h2;have HO:=ah h3;have HN7:=ah h4;have HF:=ah h5;clear h1 h2 h3 h4 h5)
 have A15:=ah (HA.i.add o7.aA 58);have BB:=ah ((aH v7.a.j v7).alloc (ay _) (.D o7.aA 58));have E15:=ah (HE.i.go BB.i);have R15:=ah (fZ.ku R14.i HF.i NF.i BB.i);have O7:=ah (HO.i.go BB.i);have Q15:=ah (fZ.ku Q14.i HF.i Qi.i BB.i);generalize v7.alloc (.D o7.aA 58)=u7 at A15 E15 R15 O7 Q15 ⊢;generalize v7.a.j=p15 at A15 ⊢;have H7:=ah O7.i.all;clear CS HA HE HO HF BB A14 E14 R14 O7 Q14;have CS:=ah (Bf A15.i E15.i as2 (by omega) ({qo with kind:=9}:At) (acK 9) ⟨rfl,KJ _,⟨ay _,ji _,ji _⟩,rfl,rfl,rfl⟩ sD (by decide) Uc rfl);unfold AwP at CS;go_upto_region 17 with(go_at_call 25;(with_reducible refine CS.i.g ?_);rintro r v8 ⟨o8,x8,sl8,rfl,h1,h2,h3,h4,h5⟩;have HA:=ah h1;have HE:=ah h2;have HO:=ah h3;have HN8:=ah h4;have HF:=ah h5;clear h1 h2 h3 h4 h5)
 have A16:=ah (HA.i.add o8.aA 58);have BB:=ah ((aH v8.a.j v8).alloc (ay _) (.D o8.aA 58));have E16:=ah (HE.i.go BB.i);have R16:=ah (fZ.ku R15.i HF.i NF.i BB.i);have O8:=ah (HO.i.go BB.i);have Q16:=ah (fZ.ku Q15.i HF.i Qi.i BB.i);generalize v8.alloc (.D o8.aA 58)=u8 at A16 E16 R16 O8 Q16 ⊢;generalize v8.a.j=p16 at A16 ⊢;have H8:=ah O8.i.all;clear CS HA HE HO HF BB A15 E15 R15 O8 Q15;have CS:=ah (Dx E16.i as3);unfold an6 at CS;go_upto_region 18 with(go_at_call 20;(with_reducible refine CS.i.g ?_);rintro r v9 ⟨X,rfl,ho,hb⟩;have HO:=ah ho;have HB:=ah hb;clear ho hb)
 have NS:=ah (show∀y,(y∈uf X.b.A\/y∈uf X.h.A\/y∈uf X.f.A)->y∉[p6]from fun y hy=>by have h1:=(A16.i.box (p:=(p6,(Tu.mk D1 D5 6 1000 80).aA)) (by simp)).lt;rcases hy with hy|hy|hy;(have h2:=(gW HO.i.b y hy).1;simp;omega);(have h2:=(gW HO.i.h y hy).1;simp;omega);(have h2:=(gW HO.i.f y hy).1;simp;omega));have B17:=ah ((aH v9.a.j v9).alloc (ay _) (.D X.aA 37));have A17:=ah ((A16.i.go HB.i).add X.aA 37);have E17:=ah ((E16.i.go HB.i).go B17.i);have S17:=ah ((HO.i.r as3).go B17.i);have Q17:=ah (fZ.upon (fZ.upon Q16.i HB.i) B17.i);generalize v9.alloc (.D X.aA 37)=u9 at A17 E17 S17 Q17 ⊢;generalize v9.a.j=p17 at A17 ⊢;clear CS HO HB B17 A16 E16 R16 Q16 NF LF;have BT:=ah (A17.i.box (p:=(p6,(Tu.mk D1 D5 6 1000 80).aA)) (by simp));have th:=BT.i.O 17 17 (by rw[Tu.I];omega);have BX:=ah (show dN (gZ u9 p6 17 D9.aA) p6 (Tu.mk D1 D9 6 1000 80).aA by have h1:=BT.i.setCells 17 D9.aA.a;have h2:=Tu.TN (Tu.mk D1 D5 6 1000 80) D9;rw[<-h2];simpa[gZ]using h1);obtain⟨fx1,fx2,-,-⟩:=BX.i.M;have fx3:=(fx1 36).trans (show(Tu.mk D1 D9 6 1000 80).aA[36]? = some (.b .a 80)by simp[Tu.aA,tuT,aG,fE.I]);have fx4:=fx2 36;clear fx1 fx2;go_upto_region 20 with fail
 have F12:=ah (show jC [p6] u9 ((gZ u9 p6 17 D9.aA).G ⟨p6,36,none⟩ (.b .a 8080))from(yF u9 p6 17 D9.aA).set ⟨p6,36,none⟩ _ (.a (by simp)));have B2:=ah (show dN ((gZ u9 p6 17 D9.aA).G ⟨p6,36,none⟩ (.b .a 8080)) p6 (Tu.mk D1 D9 6 1000 8080).aA by have h:=BX.i.eH 36 (.b .a 8080);rw[Tu.ar2]at h;exact h);have A20:=ah (show Aw w ((gZ u9 p6 17 D9.aA).G ⟨p6,36,none⟩ (.b .a 8080)) q q2 g [(p6,(Tu.mk D1 D9 6 1000 8080).aA),(p17,X.aA),(p16,o8.aA),(p15,o7.aA),(p14,o6.aA),(p13,o5.aA),(p12,o4.aA),(p11,o3.aA),(p10,o2.aA),(p9,o1.aA),(p8,o0.aA),(p7,({qo with kind:=1,Oy:=FA,yG:=fn,FJ:=fc}:At).aA),(p1,(KQ b).aA),(b,Io.aA)]from A17.i.put (c:=(Tu.mk D1 D5 6 1000 80).aA) F12.i B2.i (by simp) (by intro y hy;simp only[bE,List.not_mem_nil,or_false]at hy⊢;rcases hy with rfl|rfl|rfl|rfl|rfl|rfl|rfl|rfl|rfl|rfl|rfl|rfl|rfl;all_goals exact⟨by simp,by simp[Oc.I,At.I,Sh.I,Cn.I,Vp.I,Tu.I]⟩));have EG:=ah (show TbQ ((gZ u9 p6 17 D9.aA).G ⟨p6,36,none⟩ (.b .a 8080)) q x8 (wF yQ Uc.1)from⟨F12.i.box E17.i.b.eg (by have:=dN.ne E17.i.b.eg BT.i (by rw[Eg.I,Tu.I];omega);simp;exact this),iF.aAE E17.i.tt.texts aAG,iF.aAE E17.i.tt.aAr aky.2.2.2.2⟩);have S20:=ah (show StR ((gZ u9 p6 17 D9.aA).G ⟨p6,36,none⟩ (.b .a 8080)) ((gZ u9 p6 17 D9.aA).G ⟨p6,36,none⟩ (.b .a 8080)).a.j X Uc.1 from⟨S17.i.Y,S17.i.b.keep F12.i (fun y hy=>NS.i y (.a hy)),S17.i.h.keep F12.i (fun y hy=>NS.i y (.b (.a hy))),S17.i.f.keep F12.i (fun y hy=>NS.i y (.b (.b hy))),S17.i.gq,S17.i.no,S17.i.lI,S17.i.qg,S17.i.ar5,S17.i.amj,S17.i.nb,S17.i.nh,S17.i.nf⟩);have Q20:=ah (show fZ ((gZ u9 p6 17 D9.aA).G ⟨p6,36,none⟩ (.b .a 8080)) ((gZ u9 p6 17 D9.aA).G ⟨p6,36,none⟩ (.b .a 8080)).a.j o2.Im o2.Fj awW from TV Q17.i (ay _) F12.i (fZ.far Q17.i BT.i (by have h1:=fZ.len Q17.i;have h2:awW.a=56:=rfl;rw[Tu.I];omega)));generalize((gZ u9 p6 17 D9.aA).G ⟨p6,36,none⟩ (.b .a 8080))=u10 at A20 EG S20 Q20 ⊢;clear F12 B2 BX BT A17 E17 S17 Q17 NS th fx3 fx4;have FX:=ah (fun(W':au) (h:Aw w W' q q2 g [(p6,(Tu.mk D1 D9 6 1000 8080).aA),(p17,X.aA),(p16,o8.aA),(p15,o7.aA),(p14,o6.aA),(p13,o5.aA),(p12,o4.aA),(p11,o3.aA),(p10,o2.aA),(p9,o1.aA),(p8,o0.aA),(p7,({qo with kind:=1,Oy:=FA,yG:=fn,FJ:=fc}:At).aA),(p1,(KQ b).aA),(b,Io.aA)])=>show W'.b ⟨p8,1,none⟩=some (.b .a 8)/\W'.b ⟨p9,3,none⟩=some (.b .a 1)/\W'.b ⟨p10,1,none⟩=some (.b .a 0)/\W'.b ⟨p10,4,none⟩=some (.g ⟨#[97]⟩)/\W'.b ⟨p10,2,none⟩=some (.e false)/\W'.b ⟨p10,3,none⟩=some (.b .a 1)/\W'.b ⟨p10,5,none⟩=some (.a o2.Im o2.Fj o2.agM)/\W'.b ⟨p11,2,none⟩=some (.e true)/\W'.b ⟨p12,0,none⟩=some (.b .a 5)/\W'.b ⟨p13,0,none⟩=some (.b .a 0)/\W'.b ⟨p14,1,none⟩=some (.b .a 8)/\W'.b ⟨p15,0,none⟩=some (.b .a 0)/\W'.b ⟨p16,0,none⟩=some (.b .a 1)/\W'.b ⟨p17,5,none⟩=some (.b .a 2)/\W'.b ⟨p17,4,none⟩=some (.b .a 1)/\W'.b ⟨p17,3,none⟩=some (.a X.f.A 1 X.f.c)/\W'.b ⟨p17,14,none⟩=some (.b .a 2)from⟨((h.box (p:=(p8,o0.aA)) (by simp)).M.1 1).trans (by rw[show o0.aA[1]? = some (.b .a o0.jh)from rfl,H0.i.2.1,aFE]<;>rfl),
  ((h.box (p:=(p9,o1.aA)) (by simp)).M.1 3).trans (by rw[show o1.aA[3]? = some (.b .a o1.Y)from rfl,H1.i.2.2.2.1,aFF]<;>rfl),
  ((h.box (p:=(p10,o2.aA)) (by simp)).M.1 1).trans (by rw[show o2.aA[1]? = some (.b .a o2.jh)from rfl,H2.i.2.1,aof]<;>rfl),
  ((h.box (p:=(p10,o2.aA)) (by simp)).M.1 4).trans (by rw[show o2.aA[4]? = some (.g (bP o2.E))from rfl,H2.i.2.2.2.2,aof]<;>rfl),
  ((h.box (p:=(p10,o2.aA)) (by simp)).M.1 2).trans (by rw[show o2.aA[2]? = some (.e o2.wW)from rfl,H2.i.2.2.1,aof]<;>rfl),
  ((h.box (p:=(p10,o2.aA)) (by simp)).M.1 3).trans (by rw[show o2.aA[3]? = some (.b .a o2.Y)from rfl,H2.i.2.2.2.1,aof]<;>rfl),
  ((h.box (p:=(p10,o2.aA)) (by simp)).M.1 5).trans (by rw[show o2.aA[5]? = some (.a o2.Im o2.Fj o2.agM)from rfl]<;>rfl),
  ((h.box (p:=(p11,o3.aA)) (by simp)).M.1 2).trans (by rw[show o3.aA[2]? = some (.e o3.wW)from rfl,H3.i.2.2.1,aFG]<;>rfl),
  ((h.box (p:=(p12,o4.aA)) (by simp)).M.1 0).trans (by rw[show o4.aA[0]? = some (.b .a o4.err)from rfl,H4.i.1,aFH]<;>rfl),
  ((h.box (p:=(p13,o5.aA)) (by simp)).M.1 0).trans (by rw[show o5.aA[0]? = some (.b .a o5.err)from rfl,H5.i.1,aFI]<;>rfl),
  ((h.box (p:=(p14,o6.aA)) (by simp)).M.1 1).trans (by rw[show o6.aA[1]? = some (.b .a o6.jh)from rfl,H6.i.2.1,aFJ]<;>rfl),
  ((h.box (p:=(p15,o7.aA)) (by simp)).M.1 0).trans (by rw[show o7.aA[0]? = some (.b .a o7.err)from rfl,H7.i.1,aFK]<;>rfl),
  ((h.box (p:=(p16,o8.aA)) (by simp)).M.1 0).trans (by rw[show o8.aA[0]? = some (.b .a o8.err)from rfl,H8.i.1,aFL]<;>rfl),
  ((h.box (p:=(p17,X.aA)) (by simp)).M.1 5).trans (by rw[show X.aA[5]? = some (.b .a X.no)from Sh.amg X,S20.i.no,aky.1]<;>rfl),
  ((h.box (p:=(p17,X.aA)) (by simp)).M.1 4).trans (by rw[show X.aA[4]? = some (.b .a X.gq)from Sh.amf X,S20.i.gq,aky.2.1]<;>rfl),
  ((h.box (p:=(p17,X.aA)) (by simp)).M.1 3).trans (by rw[show X.aA[3]? = some (.a X.f.A X.f.n X.f.c)from Sh.acY X,<-S20.i.f.len,aky.2.2.2.1]<;>rfl),
  ((h.box (p:=(p17,X.aA)) (by simp)).M.1 14).trans ((Sh.ahz X 8 (by omega)).trans (by rw[S20.i.lI,aFT]))⟩)
 clear H0 H1 H2 H3 H4 H5 H6 H7 H8 Qi HN0 HN1 HN3 HN4 HN5 HN6 HN7 HN8;have lt:=pQ (A20.i.box (p:=(p6,(Tu.mk D1 D9 6 1000 8080).aA)) (by simp));have RQ:=ah (aor u10 #[.b .b 104,.b .b 105] [104,105] rfl (2,3));have BQ:=ah ((aH u10.a.j u10).alloc (ay _) (.D #[.b .b 104,.b .b 105] 5 (2,3)));have kc:=as4;cases HWW.i;have CR:=ah (fun(W:au) (h:iF Vp.aA 20 W W.a.j (some ⟨b,0,none⟩) 1 [Io]) (hs:StR W W.a.j X Uc.1)=>JG (KQ b) [Io] X Uc.1 W h (show 1<=1 by omega) (show 1<=100000 by omega) hs (by have:=av6;omega) (by have:=av6;omega) (by have:=av6;omega) true ((aeA aoe [Io] Uc.1 _ _ _).trans aFU));have CT:=ah (fun(W:au) (h:TbQ W q x8 (wF yQ Uc.1))=>WX (wF yQ Uc.1) h.b h.n h.s (by have:=aAG;omega) (by have:=aky.2.2.2.2;omega));have CX:=ah (fun(W:au) (hs:StR W W.a.j X Uc.1)=>afS X X Uc.1 Uc.1 W hs hs true (QG _));unfold aku at CT;go_wp2_with (first
  | (go_at_call 40;(with_reducible refine(CM2.i _ _ 2 RQ.i).g ?_);rintro r w11 ⟨A2,n2,c2,rfl,hn,ho,hb⟩;have A21:=ah ((A20.i.go BQ.i).go hb);have EG1:=ah ((EG.i.go BQ.i).go hb);have S21:=ah ((S20.i.go BQ.i).go hb);have Q21:=ah (fZ.upon (fZ.upon Q20.i BQ.i) hb);have R21:=ah (fZ.gV ho);have T1:=(wU Q21.i o2.agM).2;have T2:=(wU R21.i c2).2;obtain⟨f0,f1,f2,f3,f4,f5,f6,f7,f8,f9,f10,f11,f12,f13,f14,f15,f16⟩:=FX.i w11 A21.i;clear hn ho hb)
  | (go_at_call 31;(with_reducible refine(CT.i _ EG1.i).g ?_);rintro r w12 ⟨⟨nA,nn,nc,sA,sn,sc⟩,rfl,ht,hb⟩;obtain rfl:sn=0:=(ht.sn.symm.trans aky.2.2.2.2);have A22:=ah (A21.i.go hb);have S22:=ah (S21.i.go hb);have lc:=TD.mW (A22.i.box (p:=(p1,(KQ b).aA)) (by simp)) (Cn.I _);have ls:=aeB (A22.i.box (p:=(p17,X.aA)) (by simp));have V22:=ah (iF.arB (f:=Vp.aA) (sz:=20) (A22.i.box (p:=(b,Io.aA)) (by simp)) (Vp.I _));clear ht hb)
  | (go_at_call 15;(with_reducible refine(CR.i _ V22.i S22.i).g ?_);rintro r w13 ⟨rfl,hb⟩;have A23:=ah (A22.i.go hb);have S23:=ah (S22.i.go hb);have l3:=aeB (A23.i.box (p:=(p17,X.aA)) (by simp));clear hb)
  | (go_at_call 17;(with_reducible refine(CX.i _ S23.i).g ?_);rintro r w14 ⟨rfl,hb⟩;have A24:=ah (A23.i.go hb);clear hb))
 go_ret;exact⟨rfl,A24.i.R⟩
theorem Xa(a:fE)(w:au):aQ aj 67 #[.d a.aA] w (gy w (.e (qN a))):=by
 have Z:=ah ((Bx.start w).new a.aA 27);go_enter Tryz.func67,Tryz.ntmps67;go_upto_region 1 with fail
 generalize w.alloc (.D a.aA 27)=w2 at *;obtain⟨y1,y2,y3,y4⟩:=Z.i.X.M;have CA:=ah (aiy a w2);have a0:=fE.qG a;have HO:=ah (show qN a=(a.h||a.mU)from rfl);cases h6:a.h
 all_goals
  rw[h6]at a0 CA HO
  first
   | (go_wp2
      go_ret;exact⟨by rw[HO.i];rfl,Z.i.R⟩)
   | (rw[vO,Bool.and_true]at CA
      go_wp2_with (go_at_call 133;(with_reducible refine CA.i.g ?_);rintro e w3 ⟨rfl,hb⟩;have Z3:=ah (Z.i.go hb);clear hb);go_ret;exact⟨by rw[HO.i];rfl,Z3.i.R⟩)
theorem aeD(n a b:Int)(w:au):aQ aj 68 #[.b .a n,.b .a a,.b .a b] w fun e w'=>e=.a (.e (JC n a b))/\w=w':=by
 go_enter Tryz.func68,Tryz.ntmps68;by_cases h1:a<=n<;>by_cases h2:n<=b
 all_goals
  go_wp2;go_ret;exact⟨by simp[JC,h1,h2],rfl⟩
theorem Cn.awg(x:Cn)(k:Nat)(hk:k<6):x.aA[3+k]? = some (.b .a (x.kD.a.c k 0)):=by
 rw[<-aar x.kD k hk];have h:=Cn.Tv x;rw[<-h,dz];simp[Cn.I];omega
theorem aie(a b:Int):(a==b)=(b==a):=by rw[cB,beq_iff_eq,beq_iff_eq];exact eq_comm
theorem agZ(a b:fE):decide (a=b)=decide (b=a):=decide_eq_decide.2 eq_comm
theorem akF(l:List Vp)(i:Nat):Ea l i=(adw (l.c i og) && !(l.d i).any (yt (l.c i og).h (l.c i og).aR (l.c i og).nu)):=rfl
theorem aeE{p:Vp->Bool}{l:List Vp}{i:Nat}(hi:i<=l.a)(h:∀k,k<i->p (l.c k og)=false):(l.d i).any p=false:=by
 rw[List.any_eq_false];intro x hx;obtain⟨k,hk,rfl⟩:=List.getElem_of_mem hx;have hk2:k<i:=by simp at hk;omega
 have:=h k hk2;rw[av,aD (by omega)]at this;simpa using this
theorem abX{p:Vp->Bool}{l:List Vp}{i k:Nat}(hi:i<=l.a)(hk:k<i)(h:p (l.c k og)=true):(l.d i).any p=true:=by
 rw[tH];refine⟨l[k],?_,?_⟩
 ·rw[List.mem_take_iff_getElem]
  exact⟨k,by omega,rfl⟩
 ·rw[av,aD (by omega)]at h
  exact h
theorem Xb(x:Cn)(l:List Vp)(w:au)(hR:RdV w w.a.j x.qj x.Y l)(hn:x.Y<=100000):
 aQ aj 22 #[.d x.aA] w (gy w (.e (yu x l))):=by
 have Z:=ah ((Bx.start w).new x.aA 29);have HR:=ah hR;have HO:=ah (ah1 x l);have HI:=ah (WK x.kD);have HN:=ah hR.1;have HS:=ah (Zq l x.Y hR.1);have LI:=ah (Cn.awg x);have FA:=ah (fun(w':au) (h:Bx [(w.a.j,x.aA)] w w')=>show w'.b ⟨w.a.j,0,none⟩=some (.a x.qj x.Y x.ql)from(h.X.M.1 0).trans (Cn.AQ x));have CS:=ah (fun a W=>Xa a W);have CW:=ah (fun n a b W=>aeD n a b W);have NOV:=ah (show yV l=false->yu x l=false from fun h=>by rw[HO.i,h];simp);have NOI:=ah (show Ca x.kD=false->yu x l=false from fun h=>by rw[HO.i,h];simp);clear hR;go_enter Tryz.func22,Tryz.ntmps22;go_upto_region 1 with fail
 generalize w.alloc (.D x.aA 29)=w2 at *;have f0:=FA.i _ Z.i;by_cases h64:64<x.Y
 ·have q:decide ((64:Int)<x.Y)=true:=by simp;omega
  have HF:=ah (show yu x l=false from NOV.i (by cases h:yV l;rfl;have:=(HS.i.1 h).1;omega));go_wp2;go_ret;exact⟨by rw[HF.i];rfl,Z.i.R⟩
 have q:decide ((64:Int)<x.Y)=false:=by simp;omega
 go_wp2;go_loopw [3] (fun s3 wr=>∃i:Nat,i<=x.Y/\s3=.b .a i/\(∀k,k<i->Ea l k=true)/\Bx [(w.a.j,x.aA)] w wr) (fun s3 _=>x.Y-(intOf s3).e)
 case atStart=>exact⟨0,by omega,rfl,fun k hk=>by omega,Z.i⟩
 case round=>
  clear f0 q;obtain⟨i,hin,rfl,hok,hz⟩:=hrel;have FW:=ah hok;have ZR:=ah hz;clear hok hz;have f0:=FA.i _ ZR.i;by_cases hlt:i<x.Y
  ·have hi:(i:Int)<x.Y:=by omega
   obtain⟨b,o,hA,hbb,hh,hcl⟩:=iF.fG Vp.I og (ZR.i.rdR HR.i) hlt;obtain⟨v,hv⟩:=dw (l.c i og);rw[<-hv]at hcl;have HX:=ah (show Ea l i=(adw v && !(l.d i).any (yt v.h v.aR v.nu))by rw[akF,<-hv]);clear hv;rw[hA]at f0;have HAA:=ah hA;clear hA;have Z1:=ah (ZR.i.new v.aA 98);go_upto_region 7 with fail
   clear hh hcl f0;generalize wr.alloc (.D v.aA 98)=w3 at Z1 ⊢;have hy4:=ZR.i.X.lt;generalize wr.a.j=y4 at Z1 hy4 ⊢;obtain⟨y1,y2,y3,y5⟩:=Z1.i.X.M;have CSV:=ah (CS.i v.h w3);have HV:=ah (show adw v=(qN v.h&&(v.aR==6||v.aR==17)&&JC v.nu 1 65535)from rfl);cases hv:adw v
   ·have FD:=ah (show yu x l=false from NOV.i (by
     cases h:yV l;rfl;have:=(HS.i.1 h).2 i hlt;rw[HX.i,hv]at this;simp at this))
    rw[hv]at HV;have HZ:=ah HV.i.symm;clear hv HV HX;cases h1:qN v.h
    ·rw[h1]at CSV
     go_wp2_with (first|(go_at_call 67;(with_reducible refine CSV.i.g ?_);rintro e w4 ⟨rfl,hb⟩;have Z3:=ah (Z1.i.go hb);clear y1 y2 y3 y5;obtain⟨y1,y2,y3,y5⟩:=Z3.i.X.M;clear hb));go_ret;exact⟨by rw[FD.i];rfl,Z3.i.R⟩
    ·rw[h1]at CSV HZ
     have HZ2:=ah (show((v.aR==6||v.aR==17)&&JC v.nu 1 65535)=false by have:=HZ.i;simpa using this);cases h2:(v.aR==6)<;>cases h3:(v.aR==17)<;>cases h4:JC v.nu 1 65535
     all_goals
      rw[h2,h3,h4]at HZ2
      first
       | (exact absurd HZ2.i (by decide))
       | (have h2':(v.aR != 6) = !(v.aR==6):=rfl
          have h3':(v.aR != 17) = !(v.aR==17):=rfl;rw[h2]at h2';rw[h3]at h3';have CWV:=ah (fun W=>CW.i v.nu 1 65535 W);rw[h4]at CWV;go_wp2_with (first|(go_at_call 67;(with_reducible refine CSV.i.g ?_);rintro e w4 ⟨rfl,hb⟩;have Z3:=ah (Z1.i.go hb);clear y1 y2 y3 y5;obtain⟨y1,y2,y3,y5⟩:=Z3.i.X.M;clear hb)|(go_at_call 68;(with_reducible refine(CWV.i _).g ?_);rintro e w5 ⟨rfl,rfl⟩));go_ret;exact⟨by rw[FD.i];rfl,Z3.i.R⟩)
   ·rw[hv,Am]at HX
    rw[hv]at HV;have HZ:=ah HV.i.symm;clear hv HV;have h1:qN v.h=true:=by have:=HZ.i;simp at this;exact this.1.1
    have h4:JC v.nu 1 65535=true:=by have:=HZ.i;simp at this;exact this.2
    have h23:(v.aR==6||v.aR==17)=true:=by have:=HZ.i;simp at this;simpa using this.1.2
    have CWV:=ah (fun W=>CW.i v.nu 1 65535 W);rw[h4]at CWV;rw[h1]at CSV;clear h1 h4;cases h2:(v.aR==6)<;>cases h3:(v.aR==17)
    all_goals
     rw[h2,h3]at h23
     first
      | (exact absurd h23 (by decide))
      | skip
    all_goals
     clear h23;have h2':(v.aR != 6) = !(v.aR==6):=rfl;have h3':(v.aR != 17) = !(v.aR==17):=rfl;rw[h2]at h2';rw[h3]at h3';go_upto_region 9 with(first|(go_at_call 67;(with_reducible refine CSV.i.g ?_);rintro e w4 ⟨rfl,hb⟩;have Z3:=ah (Z1.i.go hb);clear y1 y2 y3 y5;obtain⟨y1,y2,y3,y5⟩:=Z3.i.X.M;clear hb)|(go_at_call 68;(with_reducible refine(CWV.i _).g ?_);rintro e w5 ⟨rfl,rfl⟩))
     clear h2 h3 h2' h3' y1 y2 y3 y5 CSV CWV;go_wp2;go_loopw [5] (fun s5 wx=>∃k:Nat,k<=i/\s5=.b .a k/\(∀j,j<k->yt v.h v.aR v.nu (l.c j og)=false)/\Bx [(y4,v.aA),(w.a.j,x.aA)] w wx) (fun s5 _=>i-(intOf s5).e)
     case atStart=>exact⟨0,by omega,rfl,fun j hj=>by omega,Z3.i⟩
     case round=>
      obtain⟨k,hki,rfl,hno,hz⟩:=hrel;have HNK:=ah hno;have ZK:=ah hz;clear hno hz;have f0:=FA.i _ ZK.i.Vu;by_cases hkl:k<i
      ·have hk2:(k:Int)<i:=by omega
       have hk3:(k:Int)<x.Y:=by omega
       obtain⟨b2,o2,hA2,MZ,hh,hcl⟩:=iF.fG Vp.I og (ZK.i.Vu.rdR HR.i) (Nat.lt_trans hkl hlt);obtain⟨u,hu⟩:=dw (l.c k og);rw[<-hu]at hcl;have HU:=ah hu;clear hu;rw[hA2]at f0;have HAB:=ah hA2;clear hA2;have Z5:=ah (ZK.i.new u.aA 98);go_upto_region 13 with fail
       clear hh hcl f0;have hy6:=ZK.i.X.lt;generalize wr.alloc (.D u.aA 98)=w7 at Z5 ⊢;generalize wr.a.j=y7 at Z5 hy6 ⊢;obtain⟨a1,a2,a3,a4⟩:=Z5.i.X.M;obtain⟨b1,b2,b3,b4⟩:=Z5.i.b1.M;have c1:=Vp.Dr u;have c2:=Vp.Dr v;obtain⟨b5,hb5⟩:∃b,decide (v.h=u.h)=b:=⟨_,rfl⟩
       obtain⟨b6,hb6⟩:∃b,(v.aR==u.aR)=b:=⟨_,rfl⟩
       obtain⟨b7,hb7⟩:∃b,(v.nu==u.nu)=b:=⟨_,rfl⟩
       have HL:=ah (show yt v.h v.aR v.nu u=(b5&&b6&&b7)by
        rw[<-hb5,<-hb6,<-hb7];unfold yt;rw[aie u.aR,aie u.nu,agZ u.h])
       have FD:=ah (show yt v.h v.aR v.nu u=true->yu x l=false from fun hl=>NOV.i (by
        cases h:yV l;rfl;have:=(HS.i.1 h).2 i hlt;rw[HX.i,abX (by rw[HN.i];omega) hkl (by rw[<-HU.i];exact hl)]at this;simp at this))
       go_wp2
       all_goals
        first
        | (go_roundw
           case rel=>exact⟨k+1,by omega,by go_num,fun j hj=>by
            by_cases hjk:j=k
            ·rw[hjk,<-HU.i,HL.i];simp[*]
            ·exact HNK.i j (by omega),Z5.i.Vu⟩
           case measure=>simp[intOf]<;>omega)
        | (go_ret
           exact⟨by rw[FD.i (by rw[HL.i];simp[*])];rfl,Z5.i.R⟩)
      ·obtain rfl:k=i:=by omega
       have HYY:=ah (show Ea l k=true by rw[HX.i,aeE (by rw[HN.i];omega) HNK.i];rfl);have hd:decide ((k:Int)<k)=false:=by simp
       go_wp2;go_roundw
       case rel=>exact⟨k+1,by omega,by go_num,fun j hj=>by
        by_cases hjk:j=k
        ·rw[hjk];exact HYY.i
        ·exact FW.i j (by omega),ZK.i.Vu⟩
       case measure=>simp[intOf]<;>omega
  ·obtain rfl:i=x.Y:=by omega
   have HVS:=ah (show yV l=true from HS.i.2 ⟨by omega,FW.i⟩);have hd:decide ((x.Y:Int)<x.Y)=false:=by simp
   rw[HVS.i,Bool.and_true]at HO;have fi0:=(ZR.i.X.M.1 3).trans (LI.i 0 (by omega));obtain⟨z0,hz0⟩:∃z,z=x.kD.a.c 0 0:=⟨_,rfl⟩
   have HZ0:=ah hz0;rw[<-hz0]at fi0;clear hz0;by_cases hz:z0=0
   ·have qz:(z0 != 0)=false:=by simp[hz]
    have aAM:=ah (show x.kD.a.c 0 0=0 by rw[<-HZ0.i];exact hz);clear hz FW HS HN;go_upto_region 17 with fail
    clear f0 fi0 qz hd;go_wp2;go_loop [7] (fun s7=>∃k:Nat,1<=k/\k<=6/\s7=.b .a k/\(∀j,j<k->Ch x.kD j=true)) (fun s7=>6-(intOf s7).e)
    case atStart=>exact⟨1,by omega,by omega,rfl,fun j hj=>by obtain rfl:j=0:=by omega
                                                             unfold Ch;rw[aAM.i];rfl⟩
    case round=>
     obtain⟨k,hk1,hk6,rfl,hok⟩:=hrel;have HNK:=ah hok;clear hok;by_cases hlt:k<6
     ·have hk2:(k:Int)<6:=by omega
      have hk3:(0:Int)<=k:=by omega
      have fi:=(ZR.i.X.M.1 (3+k)).trans (LI.i k hlt);obtain⟨z,hz⟩:=dw (x.kD.a.c k 0);have HK:=ah (show Ch x.kD k=JC z 0 1000000 by unfold Ch;rw[<-hz,show(k==0)=false by simp;omega];simp);rw[<-hz]at fi;have CZ:=ah (fun W=>CW.i z 0 1000000 W);clear hz;cases hb:JC z 0 1000000
      ·have FD:=ah (show yu x l=false from NOI.i (by
        cases h:Ca x.kD;rfl;have:=HI.i.1 h k hlt;rw[HK.i,hb]at this;cases this))
       rw[hb]at CZ;clear hb;go_wp2_with (first|(go_at_call 68;(with_reducible refine(CZ.i _).g ?_);rintro e w5 ⟨rfl,rfl⟩));go_ret;exact⟨by rw[FD.i];rfl,ZR.i.R⟩
      ·rw[hb]at CZ HK
       clear hb;go_wp2_with (first|(go_at_call 68;(with_reducible refine(CZ.i _).g ?_);rintro e w5 ⟨rfl,rfl⟩));go_round
       case rel=>exact⟨k+1,by omega,by omega,by go_num,fun j hj=>by
        by_cases hjk:j=k
        ·rw[hjk];exact HK.i
        ·exact HNK.i j (by omega)⟩
       case measure=>simp[intOf]<;>omega
     ·obtain rfl:k=6:=by omega
      have HID:=ah (show Ca x.kD=true from HI.i.2 HNK.i);rw[HID.i,Am]at HO;obtain⟨y1,y2,y3,y4⟩:=ZR.i.X.M;have CS4:=ah (fun W=>CS.i x.Cz W);obtain⟨sf,hsf⟩:∃b,qN x.Cz=b:=⟨_,rfl⟩
      rw[hsf]at CS4 HO;clear hsf hlt hk1 hk6 HID HNK NOI NOV HI LI HZ0 aAM HVS;cases hsz:JC x.j 2 65537
      ·rw[hsz,Dy]at HO
       simp only[Dy]at HO;go_wp2_with (first|(go_at_call 68;(with_reducible refine(CW.i _ _ _ _).g ?_);rintro e w5 ⟨rfl,rfl⟩))
       all_goals
        go_ret;exact⟨by rw[HO.i];rfl,ZR.i.R⟩
      ·have PR:=ah (show∀W,aQ aj 69 #[.b .a x.j] W fun e W'=>e=.a (.e (lK x.j.e))/\W=W' from fun W=>by
        have h1:2<=x.j/\x.j<=65537:=by unfold JC at hsz;simpa using hsz
        have:=aas (W:=W) x.j.e (by omega)
        rwa [Int.toNat_of_nonneg (by omega)]at this)
       obtain⟨pn,hpn⟩:∃b,lK x.j.e=b:=⟨_,rfl⟩
       rw[hsz,Am]at HO;simp only[hpn]at HO PR;clear hpn;go_wp2_with (first|(go_at_call 68;(with_reducible refine(CW.i _ _ _ _).g ?_);rintro e w5 ⟨rfl,rfl⟩)|(go_at_call 69;(with_reducible refine(PR.i _).g ?_);rintro e w5 ⟨rfl,rfl⟩)|(go_at_call 67;(with_reducible refine(CS4.i _).g ?_);rintro e w6 ⟨rfl,hb⟩;have Z4:=ah (ZR.i.go hb);clear y1 y2 y3 y4;obtain⟨y1,y2,y3,y4⟩:=Z4.i.X.M;clear hb))
       all_goals
        go_ret;refine⟨?_,by first|exact Z4.i.R|exact ZR.i.R⟩;rw[HO.i];clear HO PR CW CS CS4 y1 y2 y3 y4;simp_all
   ·have qz:(z0 != 0)=true:=by simp[hz]
    have FD:=ah (show yu x l=false from NOI.i (by
     cases h:Ca x.kD;rfl;have:=HI.i.1 h 0 (by omega);unfold Ch at this;rw[<-HZ0.i]at this;simp[hz]at this))
    clear hz;go_wp2;go_ret;exact⟨by rw[FD.i];rfl,ZR.i.R⟩
theorem Qn(k:Vector UInt8 16)(c:Cn)(vs:List Vp)(A:Option aU)(na ca:Nat)(la:List At)(ua:List Ac)(W:au)(hV:iF Vp.aA 20 W W.a.j c.qj c.Y vs)(hvc:c.Y<=c.ql)(hcc:c.ql<=9223372036854775807)
 (hRa:iF At.aA 34 W W.a.j A na la) (hla:ua.a=na) (hOa:∀i,i<na->AtO W (la.c i qo) (ua.c i aob)) (hna:na<=9223372036854775807) :
 aQ aj 10 #[.d (jg k),.d c.aA,.a A na ca] W (gy W (.e true)):=by
 have z0:=((Bx.start W).new (jg k) 22).new c.aA 29;rw[show(W.alloc (.D (jg k) 22)).a.j=W.a.j+1 by simp]at z0;have Z0:=ah z0;clear z0;have V0:=ah hV;have RA:=ah hRa;have OA:=ah hOa;have LN:=ah (show ua.a=na/\na<=9223372036854775807/\c.Y<=c.ql/\c.ql<=9223372036854775807 from⟨hla,hna,hvc,hcc⟩);have CMa:=ah (fun(w:au) (hb:aM W.a.j W w)=>arq c la A na ca w (RA.i.go hb) hna);clear hV hRa hOa hla hna hvc hcc;go_enter Tryz.func10,Tryz.ntmps10;go_upto_region 1 with fail
 have SZ0:=ah (show W.a.j+1<((W.alloc (.D (jg k) 22)).alloc (.D c.aA 29)).a.j by simp);generalize(W.alloc (.D (jg k) 22)).alloc (.D c.aA 29)=w1 at Z0 SZ0 ⊢;obtain⟨K1,hK1⟩:∃K,agX c la=K:=⟨_,rfl⟩
 obtain⟨K3,hK3⟩:∃K,yu c vs=K:=⟨_,rfl⟩
 rw[hK1]at CMa;have CK:=ah (fun(w:au) (hb:aM W.a.j W w) (hn:c.Y<=100000)=>Xb c vs w (V0.i.go hb) hn);rw[hK3]at CK;have HK1:=ah hK1;have HK3:=ah hK3;clear hK1 hK3;cases K1
 ·go_upto_region 2 with(first
   | (go_at_call 12;(with_reducible refine(zV _).g ?_);rintro r w2 ⟨rfl,hb⟩;have Z2:=ah (Z0.i.go hb);have l2:=TD.mW Z2.i.X (Cn.I _);clear hb)
   | (go_at_call 21;(with_reducible refine(CMa.i _ Z2.i.R).g ?_);rintro r w3 ⟨rfl,hb⟩;have Z3:=ah (Z2.i.go hb);have l3:=TD.mW Z3.i.X (Cn.I _);clear hb))
  go_wp2_with (go_at_call 12;(with_reducible refine(zV _).g ?_);rintro r w9 ⟨rfl,hb⟩;have Z9:=ah (Z3.i.go hb);clear hb);go_ret;exact⟨rfl,Z9.i.R⟩
 have VN:=ah (show c.Y<=20/\la.a<=60 by
  have h1:=HK1.i;unfold agX OB at h1;simp only[bB,decide_eq_true_eq]at h1;exact⟨h1.1.1,h1.2.1⟩)
 cases K3
 ·go_upto_region 2 with(first
   | (go_at_call 12;(with_reducible refine(zV _).g ?_);rintro r w2 ⟨rfl,hb⟩;have Z2:=ah (Z0.i.go hb);have l2:=TD.mW Z2.i.X (Cn.I _);clear hb)
   | (go_at_call 21;(with_reducible refine(CMa.i _ Z2.i.R).g ?_);rintro r w3 ⟨rfl,hb⟩;have Z3:=ah (Z2.i.go hb);have l3:=TD.mW Z3.i.X (Cn.I _);clear hb)
   | (go_at_call 22;(with_reducible refine(CK.i _ Z3.i.R (by have:=VN.i;omega)).g ?_);rintro r w4 ⟨rfl,hb⟩;have Z4:=ah (Z3.i.go hb);have l4:=TD.mW Z4.i.X (Cn.I _);clear hb))
  go_wp2_with (go_at_call 12;(with_reducible refine(zV _).g ?_);rintro r w9 ⟨rfl,hb⟩;have Z9:=ah (Z4.i.go hb);clear hb);go_ret;exact⟨rfl,Z9.i.R⟩
 go_upto_region 3 with(first
  | (go_at_call 12;(with_reducible refine(zV _).g ?_);rintro r w2 ⟨rfl,hb⟩;have Z2:=ah (Z0.i.go hb);have l2:=TD.mW Z2.i.X (Cn.I _);clear hb)
  | (go_at_call 21;(with_reducible refine(CMa.i _ Z2.i.R).g ?_);rintro r w3 ⟨rfl,hb⟩;have Z3:=ah (Z2.i.go hb);have l3:=TD.mW Z3.i.X (Cn.I _);clear hb)
  | (go_at_call 22;(with_reducible refine(CK.i _ Z3.i.R (by have:=VN.i;omega)).g ?_);rintro r w4 ⟨rfl,hb⟩;have Z4:=ah (Z3.i.go hb);have l4:=TD.mW Z4.i.X (Cn.I _);clear hb))
 have N5:=ah (show c.Y<=100000 by have:=VN.i;omega);clear CMa CK l2 l3;go_upto_region 4 with fail
 have Y5:=ah ((Bx.start w4).new c.aA 29);have S5:=ah (show(w4.alloc (.D c.aA 29)).a.j=w4.a.j+1 by simp);generalize w4.alloc (.D c.aA 29)=w5 at Y5 S5 ⊢;obtain⟨p7,hp7⟩:∃p,p=w4.a.j:=⟨_,rfl⟩
 rw[<-hp7]at Y5 S5 ⊢;have P7:=ah hp7;clear hp7 l4;obtain⟨i0,hi0,hz0,hz1,hzb⟩:=abP;have hz2:(Value.agg og.aA).D.j=20:=by simp[bZ,Vp.I]
 have O1:=ah (show(w5.alloc (.D #[] 98)).c w5.a.j 98 20 (.a (some ⟨w5.a.j,0,none⟩) 0 0) 0 []from World.ownsRow_lit w5 #[] 0 (ay _) (by unfold maxLen;omega) rfl);have V5:=ah (V0.i.go (Z4.i.go Y5.i.R).R);have O2:=ah (V5.i.alloc (ay _) (.D #[] 98)).2.1;have ME:=ah (show 0+c.Y<=maxLen by unfold maxLen;have:=N5.i;omega);have Kw:=ah (show(0+c.Y)*i0.bytes<=140737488355328 from aP (Nat.mul_le_mul (show 0+c.Y<=100000 by have:=N5.i;omega) hzb) (by omega));have O3:=ah (show w5.a.j<=(w5.alloc (.D #[] 98)).a.j by simp);have ON:=ah (Bu Vp.aA Vp.cO vs);have x0:=((Z4.i.go (Y5.i.alloc (.D #[] 98)).R).X.M.1 0).trans (Cn.AQ c);go_upto_region 5 with(at_builtin;refine iT _ rfl (.a 41) (.a 43) _ rfl w5.a.j 98 i0 (.d og.aA) 20 i0.bytes vC hi0 hz0 hz1 rfl hz2 (kX _) (.a (some ⟨w5.a.j,0,none⟩) 0 0) 0 [] rfl O1.i w5.a.j c.qj c.Y c.ql (vs.h fun x=>(Vp.aA x).a) rfl O2.i ON.i ME.i Kw.i O3.i ?_;intro v1 w6 hown1 hg1 uN;obtain⟨A6,c6,hv,_,_⟩:=jw hown1;subst hv;simp only[bl,dG]at hown1⊢;have OW:=ah hown1;have B6:=ah (qM ((aH w5.a.j w5).alloc (ay _) (.D #[] 98)) hg1 (ay _) O3.i);have Y6:=ah (Y5.i.go B6.i);have x7:=Y6.i.X.M.2.1 0;have x8:=(Y6.i.X.M.1 0).trans (Cn.AQ c);clear hown1 hg1 uN x0)
 have Y8:=ah (Y6.i.set (fun p hp=>by cases hp) 0 (.a A6 c.Y c6));rw[Cn.Ji]at Y8;have OW8:=ah (jD OW.i (p:=⟨p7,0,none⟩) (show p7<w5.a.j by have:=S5.i;have:=P7.i;omega) (.a A6 c.Y c6));clear hi0 hz0 hz1 hzb hz2 O1 V5 O2 ME Kw O3 ON x7 x8 Y6 B6 OW Y5;have CAP:=ah (AV OW8.i);have NB:=ah (show∀b∈bz A6 c.Y,p7<b/\b<(w6.G ⟨p7,0,none⟩ (.a A6 c.Y c6)).a.j from fun b hb=>by have:=gW OW8.i b (tQ hb);have:=S5.i;have:=P7.i;omega);generalize w6.G ⟨p7,0,none⟩ (.a A6 c.Y c6)=w8 at Y8 OW8 NB ⊢;have CN:=ah (Qm k {c with qj:=A6,Y:=c.Y,ql:=c6} vs w8 (iF.gV V0.i.1 OW8.i) CAP.i.1 N5.i (by rw[abV];exact HK3.i));unfold Ll at CN;have lk:=Sr.mW (Z4.i.go Y8.i.R).b1 (dL _);have lc:=TD.mW Y8.i.X (Cn.I _);go_upto_region 6 with(go_at_call 23;(with_reducible refine CN.i.g ?_);rintro r w9 ⟨q,x,q2,g,sl,rfl,hE,hb,hq,hr⟩;have U9:=ah (Xc.start hE.aAB Y8.i.R hb hq hr);have Y9:=ah (Y8.i.go hb);have OW9:=ah (fQ OW8.i hb);have S9:=ah hb.j;have HQ:=ah hq;have HR:=ah hr;clear hE hb hq hr)
 clear lk lc CN Y8 OW8;have CN:=ah (Qm k c vs w9 (V0.i.go (Z4.i.go Y9.i.R).R) LN.i.2.2.1 N5.i HK3.i);unfold Ll at CN;have lk:=Sr.mW (Z4.i.go Y9.i.R).b1 (dL _);have lc:=TD.mW (Z4.i.go Y9.i.R).X (Cn.I _);go_upto_region 7 with(go_at_call 23;(with_reducible refine CN.i.g ?_);rintro r wa ⟨q',y,r2,g2,sm,rfl,hE,hb,hq,hr⟩;have DA:=ah (ZI.start U9.i hb hE hq hr);have YA:=ah (Y9.i.go hb);have OWA:=ah (fQ OW9.i hb);have HQ2:=ah hq;have HR2:=ah hr;clear hE hb hq hr)
 clear lk lc CN Y9 OW9;go_upto_region 9 with fail
 have FE:=ah (show∀i,i<na->(la.c i qo).yG<=1000000 by
  have h1:=HK1.i;unfold agX OB WY at h1;simp only[bB,decide_eq_true_eq,fV,eG]at h1;have e1:=RA.i.1;exact fun i hi=>by have:=(h1.2.2 i (by omega)).1;omega)
 have FE2:=ah (show∀i,i<na->(la.c i qo).yG<=1500 by
  have h1:=HK1.i;unfold agX OB WY at h1;simp only[bB,decide_eq_true_eq,fV,eG]at h1;have e1:=RA.i.1;exact fun i hi=>(h1.2.2 i (by omega)).1)
 have GA:=ah (show∀u∈ua,u.op.bk.qg/\u.op.w<18446744073709551616 from fun u hu=>by
  obtain⟨i,hi,rfl⟩:=List.mem_iff_getElem.1 hu;have h:=(OA.i i (by have:=LN.i.1;omega)).OU;rw[av,aD hi]at h;exact⟨h.1.1,h.2.1⟩)
 go_wp2;go_loopw [12] (fun s12 wr=>∃j:Nat,j<=c.Y/\s12=.b .a j/\XP wa wr A6 c.Y 20) (fun s12 _=>c.Y-(intOf s12).e)
 case atStart=>exact⟨0,by omega,rfl,XP.start OWA.i⟩
 case round=>
  obtain⟨j,hj,rfl,hz⟩:=hrel;have BO:=ah (hz.Ko.box YA.i.X (fun hm=>by have:=(NB.i p7 hm).1;omega));have x0:=(BO.i.M.1 0).trans (Cn.AQ _);by_cases hjt:j<c.Y
  ·have ag0:(j:Int)<c.Y:=by omega
   have hjm:j<100000:=by have:=N5.i;omega
   obtain⟨g0,cur,rfl,hB,hs,hset⟩:=hz.dB hjt;have th:=hB.O (j*20) 20 hs;have HS:=ah hset;clear hB hs hset hz;go_wp2;go_roundw
   case rel=>exact⟨j+1,by omega,by go_num,HS.i _ _⟩
   case measure=>simp[intOf]<;>omega
  obtain rfl:j=c.Y:=by omega
  have hnl:¬((c.Y:Nat):Int)<c.Y:=by omega
  have DB:=ah (DA.i.Ko hz.Ko (fun b hb=>by
   have h1:=NB.i b hb;have h2:=HQ.i;have h3:=HQ2.i;have h4:=S9.i;have h5:=P7.i;refine⟨by omega,⟨by simp;omega,fun hm=>?_⟩,⟨by simp;omega,fun hm=>?_⟩⟩
   ·have:=HR.i b hm;omega
   ·have:=HR2.i b hm;omega))
  clear hz hjt BO YA OWA U9 NB HQ HQ2 HR HR2 S9 DA CAP;go_wp2;clear x0;generalize wr=wb at DB ⊢;go_loopw [13] (fun s13 wt=>∃(i:Nat)(xx:Eg)(sl2:List (Option Fw))(yy:Eg) (sm2:List (Option Fw)),i<=na/\s13=.b .a i/\ZI w4 wt q ⟨k,c,vs⟩ (W9 ⟨k,c,vs⟩ uO (ua.d i)) xx q2 g sl2 q' (W9 ⟨k,c,vs⟩ uO (ua.d i)) yy r2 g2 sm2) (fun s13 _=>na-(intOf s13).e)
  case atStart=>exact⟨0,x,sl,y,sm,by omega,rfl,DB.i⟩
  case round=>
   obtain⟨i,xx,sl2,yy,sm2,hin,rfl,hd⟩:=hrel;have HD:=ah hd;have ZR:=ah (Z4.i.go HD.i.a.R);clear hd hnl;have HI:=ah (aoq (Qe k HK3.i) (ua.d i) (fun u hu=>GA.i u (List.mem_of_mem_take hu)));have HM:=ah (show(0:Int)+(ua.d i).a<=100 by have:=LN.i.1;have:=VN.i;have:=RA.i.1;simp;omega);generalize(0:Int)+(ua.d i).a=M at HI HM;by_cases wW:i<na;rotate_left
   ·obtain rfl:i=na:=by omega
    have hnl:¬((i:Nat):Int)<i:=by omega
    generalize W9 ⟨k,c,vs⟩ uO (ua.d i)=s at HI HD;have TF:=ah (aic HI.i);have CT1:=ah (Dx HD.i.a.r HI.i);unfold an6 at CT1;go_wp2_with (first
     | (go_at_call 20;(with_reducible refine CT1.i.g ?_);rintro r w14 ⟨X1,rfl,ho,hb⟩;have D14:=ah (HD.i.go hb);have S14:=ah (ho.r HI.i);have CT2:=ah (Dx D14.i.b.r HI.i);unfold an6 at CT2;clear ho hb)
     | (go_at_call 20;(with_reducible refine CT2.i.g ?_);rintro r w15 ⟨X2,rfl,ho,hb⟩;have D15:=ah (D14.i.go hb);have S15:=ah (S14.i.go hb);have T15:=ah (ho.r HI.i);clear ho hb)
     | (go_at_call 18;(with_reducible refine(Xy _ _ s s _ S15.i T15.i true (QG _)).g ?_);rintro r w16 ⟨rfl,hb⟩;have D16:=ah (D15.i.go hb);have CT3:=ah (JH D16.i.a.r TF.i.1 TF.i.2);unfold aku at CT3;clear hb)
     | (go_at_call 31;(with_reducible refine CT3.i.g ?_);rintro r w17 ⟨X3,rfl,ho,hb⟩;have D17:=ah (D16.i.go hb);have H17:=ah ho;have CT4:=ah (JH D17.i.b.r TF.i.1 TF.i.2);unfold aku at CT4;clear ho hb)
     | (go_at_call 31;(with_reducible refine CT4.i.g ?_);rintro r w18 ⟨X4,rfl,ho,hb⟩;have D18:=ah (D17.i.go hb);have CSM:=ah (aeC (wF ⟨k,c,vs⟩ s) X3.qF X3.mM X3.zA X3.oP X3.lM X3.vY X4.qF X4.mM X4.zA X4.oP X4.lM X4.vY w18 ((iF.gV H17.i.nn H17.i.n).go hb) ((iF.gV H17.i.sn H17.i.s).go hb) (iF.gV ho.nn ho.n) (iF.gV ho.sn ho.s) (by have h1:=H17.i.nn;have h2:=TF.i.1;omega) (by have h1:=H17.i.sn;have h2:=TF.i.2;omega));clear ho hb)
     | (go_at_call 30;(with_reducible refine CSM.i.g ?_);rintro r w19 ⟨rfl,hb⟩;have D19:=ah (D18.i.go hb);clear hb))
    go_ret;exact⟨rfl,(Z4.i.go D19.i.a.R).R⟩
   have hlt2:(i:Int)<na:=by omega
   have aFB:i<60:=by have:=VN.i;have:=RA.i.1;omega
   have RT:=ah (akD (e:=⟨k,c,vs⟩) (s:=uO) (us:=ua) (k:=i) (by have:=LN.i.1;omega));generalize W9 ⟨k,c,vs⟩ uO (ua.d i)=s at HI RT HD;obtain⟨b,off,hA,hbl,hh,hcl⟩:=iF.fG At.I qo RA.i wW;obtain⟨a,ha⟩:=sQ (la.c i qo);obtain⟨u,hu⟩:=sQ (ua.c i aob);have OI:=ah ((OA.i i wW).r (FE.i i wW));have OG:=ah (OA.i i wW).OU;have KB:=ah (fun(w':au) (hb:aM W.a.j W w')=>show(xK 66 (.c (some ⟨b,off+i*34,none⟩))).J aj w'=.ok (.d a.aA) w' by
    obtain⟨b2,o2,hA2,_,h3,h4⟩:=iF.fG At.I qo (RA.i.go hb) wW;rw[hA]at hA2;injection hA2 with hA2
    injection hA2 with e1 e2
    subst e1;subst e2;rw[aAy _ _ _ h3,h4,ha])
   have KC:=ah (fun(w':au) (hb:aM W.a.j W w')=>show w'.b ⟨b,off+i*34,none⟩=some (.b .a a.kind)by
    obtain⟨b2,o2,hA2,_,h3⟩:=iF.cell At.I qo (RA.i.go hb) wW;rw[hA]at hA2;injection hA2 with hA2
    injection hA2 with e1 e2
    subst e1;subst e2;have h4:=h3 0 (by omega);rw[ha]at h4;exact h4.trans (At.zG a))
   have KF:=ah (fun(w':au) (hb:aM W.a.j W w')=>show w'.b ⟨b,off+i*34+1,none⟩=some (.a a.Oy a.yG a.FJ)by
    obtain⟨b2,o2,hA2,_,h3⟩:=iF.cell At.I qo (RA.i.go hb) wW;rw[hA]at hA2;injection hA2 with hA2
    injection hA2 with e1 e2
    subst e1;subst e2;have h4:=h3 1 (by omega);rw[ha]at h4;exact h4.trans (At.aeo a))
   have FA2:=ah (show a.yG<=1500 by have h:=FE2.i i wW;rw[ha]at h;exact h);rw[ha]at OI;rw[hu]at OI OG RT;clear hh hcl hbl ha hu hin;rw[hA];clear KC;have kb:=KB.i _ ZR.i.R;go_upto_region 17 with fail
   have Y0:=ah ((Bx.start wr).new a.aA 66);have S0:=ah (show(wr.alloc (.D a.aA 66)).a.j=wr.a.j+1 by simp);generalize wr.alloc (.D a.aA 66)=v1 at Y0 S0 ⊢;obtain⟨p14,awi⟩:∃p,p=wr.a.j:=⟨_,rfl⟩
   rw[<-awi]at Y0 S0 ⊢;have P14:=ah awi;clear awi kb;obtain⟨i1,hi1,hy0,hy1,hyb⟩:=info_parts FM;have hy2:(aJ .b 0).D.j=1:=rfl;have O1:=ah (show(v1.alloc (.D #[] 5)).c v1.a.j 5 1 (.a (some ⟨v1.a.j,0,none⟩) 0 0) 0 []from World.ownsRow_lit v1 #[] 0 (ay _) (by unfold maxLen;omega) rfl);have O2:=ah ((OI.i.go (ZR.i.go Y0.i.R).R).fr.alloc (ay _) (.D #[] 5));have ME:=ah (show 0+a.yG<=maxLen by unfold maxLen;have:=FA2.i;omega);have Kw:=ah (show(0+a.yG)*1<=140737488355328 by have:=FA2.i;omega);have O3:=ah (show v1.a.j<=(v1.alloc (.D #[] 5)).a.j by simp);have ON:=ah (Di u.frame);have kf:=KF.i _ (ZR.i.go (Y0.i.alloc (.D #[] 5)).R).R;go_upto_region 18 with(at_builtin;refine iT _ rfl (.a 86) (.a 91) _ rfl v1.a.j 5 i1 (.b .b 0) 1 1 cu hi1 hy0 hy1 hyb hy2 (kX _) (.a (some ⟨v1.a.j,0,none⟩) 0 0) 0 [] rfl O1.i v1.a.j a.Oy a.yG a.FJ (u.frame.map bv) rfl O2.i ON.i ME.i Kw.i O3.i ?_;intro v2 w2 hown1 hg1 uN;obtain⟨A2,c2,hv,_,_⟩:=jw hown1;subst hv;simp only[bl,dG]at hown1⊢;have OF:=ah hown1;have B2:=ah (qM ((aH v1.a.j v1).alloc (ay _) (.D #[] 5)) hg1 (ay _) O3.i);have Y2:=ah (Y0.i.go B2.i);have x1:=Y2.i.X.M.2.1 1;have x2:=(Y2.i.X.M.1 1).trans (At.aeo a);clear hown1 hg1 uN kf)
   have Y3:=ah (Y2.i.set (fun p hp=>by cases hp) 1 (.a A2 a.yG c2));rw[At.aoo]at Y3;have OF3:=ah (jD OF.i (p:=⟨p14,1,none⟩) (show p14<v1.a.j by have:=S0.i;have:=P14.i;omega) (.a A2 a.yG c2));clear hi1 hy0 hy1 hyb hy2 O1 O2 ME Kw O3 ON x1 x2 Y2 B2 OF Y0;have D3:=ah (HD.i.go Y3.i.R);have CAP:=ah (AV OF3.i);generalize w2.G ⟨p14,1,none⟩ (.a A2 a.yG c2)=v3 at Y3 OF3 D3 ⊢;have A3:=ah (show AtR v3 {a with Oy:=A2,yG:=a.yG,FJ:=c2} u from⟨OI.i.kind,fZ.gV OF3.i,⟨CAP.i.1,CAP.i.2,OI.i.FJ.2.2⟩,OI.i.op,OI.i.E,OI.i.h⟩);have CK:=ah (ZJ D3.i HI.i (by have:=HM.i;omega) _ u A3.i OG.i.1.1 OG.i.2.1);unfold av7 at CK;have BA3:=ah Y3.i.X;have FR3:=ah (show∀k∈uf A2,p14<k/\k<v3.a.j from fun k hk=>by have:=gW OF3.i k hk;have:=S0.i;have:=P14.i;omega);have P3:=ah (show p14<v3.a.j from BA3.i.lt);have QL:=ah (show(∀k∈[q,q2,g],k<p14)/\∀k∈[q',r2,g2],k<p14 by
    have h1:=HD.i.a.lt;have h2:=HD.i.b.lt;have:=P14.i;exact⟨fun k hk=>by simp at hk;omega,fun k hk=>by simp at hk;omega⟩)
   obtain⟨a2,ha2⟩:∃x,x=({a with Oy:=A2,yG:=a.yG,FJ:=c2}:At):=⟨_,rfl⟩
   have FA:=ah (show a2.aA[1]? = some (.a A2 a.yG c2)by rw[ha2];exact At.aeo _);rw[<-ha2]at BA3 CK;have NXX:=ah (show∀b∈mD xx,b<p14 from fun b hb=>by have:=HD.i.a.r.b.Af b hb;have:=P14.i;omega);have NYY:=ah (show∀b∈mD yy,b<p14 from fun b hb=>by have:=HD.i.b.r.b.Af b hb;have:=P14.i;omega);have W4:=ah (show w4.a.j<=p14 by have:=HD.i.a.R.j;have:=P14.i;omega);clear ha2 A3 Y3 HD D3 CAP;have l14:=kAt.mW BA3.i (At.I _);go_upto_region 19 with(go_at_call 25;(with_reducible refine CK.i.g ?_);rintro r v4 ⟨o1,x1,sl1,rfl,h1,h2,h3,h4⟩;have R4:=ah h1;have D4:=ah h2;have F4:=ah h3;have N4:=ah h4;clear h1 h2 h3 h4)
   have NX:=ah (show∀b∈mD x1,b<p14\/(v3.a.j<=b/\b∉uf o1.Im)from fun b hb=>(N4.i b hb).imp (fun h=>NXX.i b h) id);have SZ4:=ah (show v3.a.j<=v4.a.j from F4.i.j);have BX5:=ah ((aH v4.a.j v4).alloc (ay _) (.D o1.aA 58));have S5:=ah (show v4.a.j<=(v4.alloc (.D o1.aA 58)).a.j by simp);have B15:=ah (dN.new v4 o1.aA 58);have BA5:=ah ((F4.i.box BA3.i (fun hm=>by have:=QL.i.1 _ hm;omega)).go BX5.i);have OX5:=ah (fQ R4.i.vD BX5.i);have OF5:=ah (fQ (Cj OF3.i F4.i (fun b hb=>by have:=QL.i.1 b hb;have:=S0.i;have:=P14.i;omega)) BX5.i);have D5:=ah (D4.i.go BX5.i);have OXF:=ah (gW R4.i.vD);generalize v4.alloc (.D o1.aA 58)=v5 at B15 BA5 OX5 OF5 D5 S5 ⊢;obtain⟨p15,aAR⟩:∃p,p=v4.a.j:=⟨_,rfl⟩
   rw[<-aAR]at B15 SZ4 S5 OXF ⊢;clear aAR BX5 BA3 CK l14 N4 F4 D4 OF3;have CK:=ah (ZJ D5.i.swap HI.i (by have:=HM.i;omega) a u (OI.i.go (Z4.i.go D5.i.a.R).R) OG.i.1.1 OG.i.2.1);unfold av7 at CK;have kb:=KB.i _ (Z4.i.go D5.i.a.R).R;go_upto_region 20 with(go_at_call 25;(with_reducible refine CK.i.g ?_);rintro r v6 ⟨o2,y1,sm1,rfl,h1,h2,h3,h4⟩;have R6:=ah h1.rd;have D6:=ah h2.swap;have F6:=ah h3;have N6:=ah h4;clear h1 h2 h3 h4)
   have BX7:=ah ((aH v6.a.j v6).alloc (ay _) (.D o2.aA 58));have B16:=ah (dN.new v6 o2.aA 58);have B15:=ah ((F6.i.box B15.i (fun hm=>by have:=QL.i.2 _ hm;have:=P3.i;have:=SZ4.i;omega)).go BX7.i);have BA7:=ah ((F6.i.box BA5.i (fun hm=>by have:=QL.i.2 _ hm;omega)).go BX7.i);have OX7:=ah (fQ (Cj OX5.i F6.i (fun b hb=>by have:=QL.i.2 b hb;have:=P3.i;omega)) BX7.i);have OF7:=ah (fQ (Cj OF5.i F6.i (fun b hb=>by have:=QL.i.2 b hb;have:=S0.i;have:=P14.i;omega)) BX7.i);have R6:=ah (R6.i.go BX7.i);have D7:=ah (D6.i.go BX7.i);have OFO:=ah (show∀k∈bz o1.Im o1.Fj,Off w4 q q2 g x1 q' r2 g2 y1 k from fun k hk=>by
    have h1:=OXF.i k (tQ hk);have h2:=P3.i;have h3:=W4.i;refine⟨by omega,⟨fun hm=>by have:=QL.i.1 k hm;omega,fun hm=>?_⟩,⟨fun hm=>by have:=QL.i.2 k hm;omega,fun hm=>?_⟩⟩
    ·rcases NX.i k hm with h4|h4
     ·omega
     ·exact h4.2 (tQ hk)
    ·rcases N6.i k hm with h4|h4
     ·have:=NYY.i k h4;omega
     ·have:=S5.i;omega)
   have OFA:=ah (show∀k∈bz A2 a.yG,Off w4 q q2 g x1 q' r2 g2 y1 k from fun k hk=>by
    have h1:=FR3.i k (tQ hk);have h2:=P3.i;have h3:=W4.i;refine⟨by omega,⟨fun hm=>by have:=QL.i.1 k hm;omega,fun hm=>?_⟩,⟨fun hm=>by have:=QL.i.2 k hm;omega,fun hm=>?_⟩⟩
    ·rcases NX.i k hm with h4|h4<;>omega
    ·rcases N6.i k hm with h4|h4
     ·have:=NYY.i k h4;omega
     ·have:=S5.i;have:=SZ4.i;omega)
   generalize v6.alloc (.D o2.aA 58)=v7 at B16 B15 BA7 OX7 OF7 R6 D7 ⊢;generalize v6.a.j=p16 at B16 ⊢;clear CK kb BX7 BA5 OX5 OF5 D5 D6 F6 N6 NX NXX NYY KB;have R4:=ah (show OcR v7 o1 (yA ⟨k,c,vs⟩ s u).2 from⟨R4.i.err,R4.i.jh,R4.i.wW,R4.i.Y,R4.i.E,fZ.gV OX7.i⟩);have CX:=ah (fun(w:au) (hb:aM v7.a.j v7 w)=>agW o1 o2 _ _ w (R4.i.go hb) (R6.i.go hb) true (by simp));have T1:=ah ((wU (fZ.gV OF7.i) c2).1);have T2:=ah ((wU (OI.i.go (Z4.i.go D7.i.a.R).R).fr a.FJ).1);have KS:=ah (fun(w':au) (hb:aM v7.a.j v7 w')=>show w'.b ⟨p14,1,none⟩=some (.a A2 a.yG c2)/\w'.b ⟨b,off+i*34+1,none⟩=some (.a a.Oy a.yG a.FJ)/\(convert 56 9 (.a A2 a.yG c2)).J aj w'=.ok (.g (bP u.frame)) w'/\(convert 56 9 (.a a.Oy a.yG a.FJ)).J aj w'=.ok (.g (bP u.frame)) w'/\(xK 58 (.c (some ⟨p15,0,none⟩))).J aj w'=.ok (.d o1.aA) w'/\(xK 58 (.c (some ⟨p16,0,none⟩))).J aj w'=.ok (.d o2.aA) w' from
    ⟨((BA7.i.go hb).M.1 1).trans FA.i,KF.i _ (Z4.i.go (D7.i.go hb).a.R).R,T1.i _ hb,T2.i _ hb,ZB.mW (B15.i.go hb) (Oc.I _),ZB.mW (B16.i.go hb) (Oc.I _)⟩)
   clear T1 T2 R4 R6;have BD:=ah (iD v7);go_region_held_law (fun w'=>w'.b ⟨p14,1,none⟩=some (.a A2 a.yG c2)/\w'.b ⟨b,off+i*34+1,none⟩=some (.a a.Oy a.yG a.FJ)/\(convert 56 9 (.a A2 a.yG c2)).J aj w'=.ok (.g (bP u.frame)) w'/\(convert 56 9 (.a a.Oy a.yG a.FJ)).J aj w'=.ok (.g (bP u.frame)) w'/\(xK 58 (.c (some ⟨p15,0,none⟩))).J aj w'=.ok (.d o1.aA) w'/\(xK 58 (.c (some ⟨p16,0,none⟩))).J aj w'=.ok (.d o2.aA) w')
    (first|exact KS.i _ BD.i|exact KS.i _ B8.i|go_keep)
    (first
    | (go_at_call 24;(with_reducible refine(CX.i _ BD.i).g ?_);rintro r v8 ⟨rfl,hb⟩;have B8:=ah (BD.i.trans hb);clear hb))
   have D8:=ah (D7.i.go B8.i);have B15:=ah (B15.i.go B8.i);have BA8:=ah (BA7.i.go B8.i);have OX8:=ah (fQ OX7.i B8.i);have OF8:=ah (fQ OF7.i B8.i);clear KS CX BD B8 D7 BA7 OX7 OF7 B16;go_wp2;go_loopw [17] (fun s17 wr=>∃j:Nat,j<=a.yG/\s17=.b .a j/\XP v8 wr A2 a.yG 1) (fun s17 _=>a.yG-(intOf s17).e)
   case atStart=>exact⟨0,by omega,rfl,XP.start OF8.i⟩
   case round=>
    obtain⟨j,hj,rfl,hz⟩:=hrel;have BO:=ah (hz.Ko.box BA8.i (fun hm=>by have:=FR3.i p14 (tQ hm);omega));have x0:=(BO.i.M.1 1).trans FA.i;by_cases hjt:j<a.yG
    ·have ag0:(j:Int)<a.yG:=by omega
     have hjm:j<9223372036854775807:=by have:=AV OF8.i;omega
     obtain⟨g0,cur,hA,hB,hs,hset⟩:=hz.dB hjt;rw[hA]at x0;have hjc:j<cur.j:=by omega
     obtain⟨z1,z2,z3,z4⟩:=hB.M;have z5:cur[j]? = some cur[j]:=dK hjc;clear hB hs;have HS:=ah hset;clear hset hz hA;go_wp2;go_roundw
     case rel=>exact⟨j+1,by omega,by go_num,HS.i _ [_]⟩
     case measure=>simp[intOf]<;>omega
    obtain rfl:j=a.yG:=by omega
    have hnl:¬((a.yG:Nat):Int)<a.yG:=by omega
    have HZ:=ah hz.Ko;clear hz hjt hj BO;go_wp2;clear x0 hnl;generalize wr=v9 at HZ ⊢;have D9:=ah (D8.i.Ko HZ.i OFA.i);have B15:=ah (HZ.i.box B15.i (fun hm=>by have:=FR3.i _ (tQ hm);have:=SZ4.i;omega));have OX9:=ah (yC OX8.i HZ.i (fun k hk hm=>by have h1:=FR3.i k (tQ hm);have h2:=(gW OX8.i k (arD hk)).1;omega));clear HZ BA8 OF8 OX8 D8 OFA FR3;go_loopw [18] (fun s18 wr=>∃j:Nat,j<=o1.Fj/\s18=.b .a j/\XP v9 wr o1.Im o1.Fj 1) (fun s18 _=>o1.Fj-(intOf s18).e)
    case atStart=>exact⟨0,by omega,rfl,XP.start OX9.i⟩
    case round=>
     obtain⟨j,hj,rfl,hz⟩:=hrel;have BO:=ah (hz.Ko.box B15.i (fun hm=>by have:=OXF.i _ (tQ hm);omega));have x0:=(BO.i.M.1 5).trans (Oc.avI o1);by_cases hjt:j<o1.Fj
     ·have ag0:(j:Int)<o1.Fj:=by omega
      have hjm:j<9223372036854775807:=by have:=AV OX9.i;omega
      obtain⟨g0,cur,hA,hB,hs,hset⟩:=hz.dB hjt;rw[hA]at x0;have hjc:j<cur.j:=by omega
      obtain⟨z1,z2,z3,z4⟩:=hB.M;have z5:cur[j]? = some cur[j]:=dK hjc;clear hB hs;have HS:=ah hset;clear hset hz hA;go_wp2;go_roundw
      case rel=>exact⟨j+1,by omega,by go_num,HS.i _ [_]⟩
      case measure=>simp[intOf]<;>omega
     obtain rfl:j=o1.Fj:=by omega
     have hnl:¬((o1.Fj:Nat):Int)<o1.Fj:=by omega
     have HZ:=ah hz.Ko;clear hz hjt hj BO;go_upto_region 30 with fail
     clear x0 hnl;generalize wr=v10 at HZ ⊢;have D10:=ah (D9.i.Ko HZ.i OFO.i);clear HZ B15 OX9 D9 OFO OXF;have IT:=ah (uX HI.i u OG.i.1.1 OG.i.2.1);have CT:=ah (Dx D10.i.a.r IT.i);unfold an6 at CT;go_upto_region 31 with(go_at_call 20;(with_reducible refine CT.i.g ?_);rintro r va ⟨X,rfl,ho,hb⟩;have HO:=ah ho;have HB:=ah hb;clear ho hb)
     have BXB:=ah ((aH va.a.j va).alloc (ay _) (.D X.aA 37));have B19:=ah (dN.new va X.aA 37);have DB:=ah ((D10.i.go HB.i).go BXB.i);have SB:=ah (fQ HO.i.b BXB.i);have SH:=ah (fQ HO.i.h BXB.i);have SF:=ah (fQ HO.i.f BXB.i);have FS:=ah (show(∀k∈bz X.b.A X.b.n,k<va.a.j/\Off w4 q q2 g x1 q' r2 g2 y1 k)/\(∀k∈bz X.h.A X.h.n,k<va.a.j/\Off w4 q q2 g x1 q' r2 g2 y1 k)/\∀k∈bz X.f.A X.f.n,k<va.a.j/\Off w4 q q2 g x1 q' r2 g2 y1 k from
      ⟨fun k hk=>⟨(gW HO.i.b k (tQ hk)).2,D10.i.off (gW HO.i.b k (tQ hk)).1⟩,fun k hk=>⟨(gW HO.i.h k (tQ hk)).2,D10.i.off (gW HO.i.h k (tQ hk)).1⟩,fun k hk=>⟨(gW HO.i.f k (tQ hk)).2,D10.i.off (gW HO.i.f k (tQ hk)).1⟩⟩)
     generalize va.alloc (.D X.aA 37)=vb at B19 DB SB SH SF ⊢;obtain⟨p19,aAS⟩:∃p,p=va.a.j:=⟨_,rfl⟩
     rw[<-aAS]at B19 FS ⊢;clear aAS CT HO HB BXB D10;go_wp2;go_loopw [20] (fun s20 wr=>∃j:Nat,j<=X.b.n/\s20=.b .a j/\XP vb wr X.b.A X.b.n 27) (fun s20 _=>X.b.n-(intOf s20).e)
     case atStart=>exact⟨0,by omega,rfl,XP.start SB.i⟩
     case round=>
      obtain⟨j,hj,rfl,hz⟩:=hrel;have BO:=ah (hz.Ko.box B19.i (fun hm=>by have:=(FS.i.1 _ hm).1;omega));have x0:=(BO.i.M.1 1).trans (Sh.Ev X);by_cases hjt:j<X.b.n
      ·have ag0:(j:Int)<X.b.n:=by omega
       have hjm:j<9223372036854775807:=by have:=AV SB.i;omega
       obtain⟨g0,cur,hA,hB,hs,hset⟩:=hz.dB hjt;rw[hA]at x0;have th:=hB.O (j*27) 27 hs;clear hB hs;have HS:=ah hset;clear hset hz hA;go_wp2;go_roundw
       case rel=>exact⟨j+1,by omega,by go_num,HS.i _ _⟩
       case measure=>simp[intOf]<;>omega
      obtain rfl:j=X.b.n:=by omega
      have hnl:¬((X.b.n:Nat):Int)<X.b.n:=by omega
      have HZ:=ah hz.Ko;clear hz hjt hj BO;go_wp2;clear x0 hnl;generalize wr=vc at HZ ⊢;have DC:=ah (DB.i.Ko HZ.i (fun k hk=>(FS.i.1 k hk).2));have B19:=ah (HZ.i.box B19.i (fun hm=>by have:=(FS.i.1 _ hm).1;omega));have SH:=ah (OE SH.i HZ.i (Kr SH.i SB.i (by decide)));have SF:=ah (OE SF.i HZ.i (Kr SF.i SB.i (by decide)));clear HZ SB DB;go_loopw [21] (fun s21 wr=>∃j:Nat,j<=X.h.n/\s21=.b .a j/\XP vc wr X.h.A X.h.n 3) (fun s21 _=>X.h.n-(intOf s21).e)
      case atStart=>exact⟨0,by omega,rfl,XP.start SH.i⟩
      case round=>
       obtain⟨j,hj,rfl,hz⟩:=hrel;have BO:=ah (hz.Ko.box B19.i (fun hm=>by have:=(FS.i.2.1 _ hm).1;omega));have x0:=(BO.i.M.1 2).trans (Sh.Uj X);by_cases hjt:j<X.h.n
       ·have ag0:(j:Int)<X.h.n:=by omega
        have hjm:j<9223372036854775807:=by have:=AV SH.i;omega
        obtain⟨g0,cur,hA,hB,hs,hset⟩:=hz.dB hjt;rw[hA]at x0;have th:=hB.O (j*3) 3 hs;clear hB hs;have HS:=ah hset;clear hset hz hA;go_wp2;go_roundw
        case rel=>exact⟨j+1,by omega,by go_num,HS.i _ _⟩
        case measure=>simp[intOf]<;>omega
       obtain rfl:j=X.h.n:=by omega
       have hnl:¬((X.h.n:Nat):Int)<X.h.n:=by omega
       have HZ:=ah hz.Ko;clear hz hjt hj BO;go_wp2;clear x0 hnl;generalize wr=vd at HZ ⊢;have DD:=ah (DC.i.Ko HZ.i (fun k hk=>(FS.i.2.1 k hk).2));have B19:=ah (HZ.i.box B19.i (fun hm=>by have:=(FS.i.2.1 _ hm).1;omega));have SF:=ah (OE SF.i HZ.i (Kr SF.i SH.i (by decide)));clear HZ SH DC;go_loopw [22] (fun s22 wr=>∃j:Nat,j<=X.f.n/\s22=.b .a j/\XP vd wr X.f.A X.f.n 41) (fun s22 _=>X.f.n-(intOf s22).e)
       case atStart=>exact⟨0,by omega,rfl,XP.start SF.i⟩
       case round=>
        obtain⟨j,hj,rfl,hz⟩:=hrel;have BO:=ah (hz.Ko.box B19.i (fun hm=>by have:=(FS.i.2.2 _ hm).1;omega));have x0:=(BO.i.M.1 3).trans (Sh.acY X);by_cases hjt:j<X.f.n
        ·have ag0:(j:Int)<X.f.n:=by omega
         have hjm:j<9223372036854775807:=by have:=AV SF.i;omega
         obtain⟨g0,cur,hA,hB,hs,hset⟩:=hz.dB hjt;rw[hA]at x0;have th:=hB.O (j*41) 41 hs;clear hB hs;have HS:=ah hset;clear hset hz hA;go_wp2;go_roundw
         case rel=>exact⟨j+1,by omega,by go_num,HS.i _ _⟩
         case measure=>simp[intOf]<;>omega
        obtain rfl:j=X.f.n:=by omega
        have hnl:¬((X.f.n:Nat):Int)<X.f.n:=by omega
        have HZ:=ah hz.Ko;clear hz hjt hj BO;go_upto_region 43 with fail
        clear x0 hnl;generalize wr=ve at HZ ⊢;have DE:=ah (DD.i.Ko HZ.i (fun k hk=>(FS.i.2.2 k hk).2));clear HZ SF DD B19 FS;have TF:=ah (aic IT.i);have CT:=ah (JH DE.i.a.r TF.i.1 TF.i.2);unfold aku at CT;go_upto_region 44 with(go_at_call 31;(with_reducible refine CT.i.g ?_);rintro r vf ⟨X2,rfl,ho,hb⟩;have HO:=ah ho;have HB:=ah hb;clear ho hb)
        have BXB:=ah ((aH vf.a.j vf).alloc (ay _) (.D X2.aA 72));have B23:=ah (dN.new vf X2.aA 72);have DG:=ah ((DE.i.go HB.i).go BXB.i);have SN:=ah (fQ HO.i.n BXB.i);have SS:=ah (fQ HO.i.s BXB.i);have FT:=ah (show(∀k∈bz X2.oP X2.lM,k<vf.a.j/\Off w4 q q2 g x1 q' r2 g2 y1 k)/\∀k∈bz X2.qF X2.mM,k<vf.a.j/\Off w4 q q2 g x1 q' r2 g2 y1 k from
         ⟨fun k hk=>⟨(gW HO.i.s k (tQ hk)).2,DE.i.off (gW HO.i.s k (tQ hk)).1⟩,fun k hk=>⟨(gW HO.i.n k (tQ hk)).2,DE.i.off (gW HO.i.n k (tQ hk)).1⟩⟩)
        generalize vf.alloc (.D X2.aA 72)=vg at B23 DG SN SS ⊢;obtain⟨p23,aAT⟩:∃p,p=vf.a.j:=⟨_,rfl⟩
        rw[<-aAT]at B23 FT ⊢;clear aAT CT HO HB BXB DE TF;go_wp2;go_loopw [24] (fun s24 wr=>∃j:Nat,j<=X2.lM/\s24=.b .a j/\XP vg wr X2.oP X2.lM 1) (fun s24 _=>X2.lM-(intOf s24).e)
        case atStart=>exact⟨0,by omega,rfl,XP.start SS.i⟩
        case round=>
         obtain⟨j,hj,rfl,hz⟩:=hrel;have BO:=ah (hz.Ko.box B23.i (fun hm=>by have:=(FT.i.1 _ hm).1;omega));have x0:=(BO.i.M.1 1).trans (Tc.wG X2);by_cases hjt:j<X2.lM
         ·have ag0:(j:Int)<X2.lM:=by omega
          have hjm:j<9223372036854775807:=by have:=AV SS.i;omega
          obtain⟨g0,cur,hA,hB,hs,hset⟩:=hz.dB hjt;rw[hA]at x0;have hjc:j<cur.j:=by omega
          obtain⟨z1,z2,z3,z4⟩:=hB.M;have z5:cur[j]? = some cur[j]:=dK hjc;clear hB hs;have HS:=ah hset;clear hset hz hA;go_wp2;go_roundw
          case rel=>exact⟨j+1,by omega,by go_num,HS.i _ [_]⟩
          case measure=>simp[intOf]<;>omega
         obtain rfl:j=X2.lM:=by omega
         have hnl:¬((X2.lM:Nat):Int)<X2.lM:=by omega
         have HZ:=ah hz.Ko;clear hz hjt hj BO;go_wp2;clear x0 hnl;generalize wr=vh at HZ ⊢;have DH:=ah (DG.i.Ko HZ.i (fun k hk=>(FT.i.1 k hk).2));have B23:=ah (HZ.i.box B23.i (fun hm=>by have:=(FT.i.1 _ hm).1;omega));have SN:=ah (OE SN.i HZ.i (Kr SN.i SS.i (by decide)));clear HZ SS DG;go_loopw [25] (fun s25 wr=>∃j:Nat,j<=X2.mM/\s25=.b .a j/\XP vh wr X2.qF X2.mM 1) (fun s25 _=>X2.mM-(intOf s25).e)
         case atStart=>exact⟨0,by omega,rfl,XP.start SN.i⟩
         case round=>
          obtain⟨j,hj,rfl,hz⟩:=hrel;have BO:=ah (hz.Ko.box B23.i (fun hm=>by have:=(FT.i.2 _ hm).1;omega));have x0:=(BO.i.M.1 0).trans (Tc.Ci X2);by_cases hjt:j<X2.mM
          ·have ag0:(j:Int)<X2.mM:=by omega
           have hjm:j<9223372036854775807:=by have:=AV SN.i;omega
           obtain⟨g0,cur,hA,hB,hs,hset⟩:=hz.dB hjt;rw[hA]at x0;have hjc:j<cur.j:=by omega
           obtain⟨z1,z2,z3,z4⟩:=hB.M;have z5:cur[j]? = some cur[j]:=dK hjc;clear hB hs;have HS:=ah hset;clear hset hz hA;go_wp2;go_roundw
           case rel=>exact⟨j+1,by omega,by go_num,HS.i _ [_]⟩
           case measure=>simp[intOf]<;>omega
          obtain rfl:j=X2.mM:=by omega
          have hnl:¬((X2.mM:Nat):Int)<X2.mM:=by omega
          have HZ:=ah hz.Ko;clear hz hjt hj BO;go_wp2;clear x0 hnl;generalize wr=vi at HZ ⊢;have DI:=ah (DH.i.Ko HZ.i (fun k hk=>(FT.i.2 k hk).2));clear HZ SN DH B23 FT;go_roundw
          case rel=>exact⟨i+1,_,_,_,_,by omega,by go_num,by have:=DI.i;rw[<-RT.i]at this;exact this⟩
          case measure=>simp[intOf]<;>omega
end Go.Proofs.YtkjojjopamaoiaaGreat
