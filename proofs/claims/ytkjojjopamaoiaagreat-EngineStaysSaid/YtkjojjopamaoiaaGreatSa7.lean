/- Parts. -/
import Derived.Test.YtkjojjopamaoiaaGreatSa6
import Derived.Lib.SlBytesConst
set_option linter.unusedSimpArgs false
set_option linter.unusedVariables false
set_option linter.unusedSectionVars false
set_option maxRecDepth 100000
set_option maxHeartbeats 8000000
open Array renaming getElem?_extract->dx,setIfInBounds_append->aL,getElem?_append->aD,toList_inj->Gf,mapM->iA,getElem?_toList->dD,size->Array.j,toList->Array.a,getD->Array.c,setIfInBounds->Array.b
open Bool renaming eq_iff_iff->bZ,not_false->lW,not_true->nV,and_eq_true->bf,not_eq_true'->nZ,true_and->zZ,false_and->Dj
open ByteArray renaming size->ByteArray.j,toList->ByteArray.a
open Go renaming Value->aB,World->ak,Calls->aQ,wpQuiet_nil->gW,TypeId->bK,Addr->aT,Ending->kZ,bodyPost_ret->aN,wpAnyH_take->oZ
open Go.Act renaming put->lJ
open Go.Addr renaming add->qX,add_mid->iD
open Go.BoundsCode renaming toNat->Go.BoundsCode.e
open Go.Calls renaming mono->Go.Calls.g
open Go.DataW renaming trod->lT,trod_struct->uM,trod_bool->GZ,agg->Go.DataW.d
open Go.Ending renaming returned->Go.Ending.a
open Go.Field renaming offset->Go.Field.Z
open Go.FloatKind renaming f64->jV
open Go.Instr renaming buildSlice->bI,storeAt->eF,build->fI,slice->Go.Instr.a
open Go.IntKind renaming u8->aW,i64->bR,i64->Go.IntKind.a,u8->Go.IntKind.b
open Go.Lib renaming hid->ab
open Go.Lit renaming bool->Go.Lit.e
open Go.Obj renaming cells->Go.Obj.D
open Go.Op renaming slice->Go.Op.a
open Go.Oper renaming dst->Go.Oper.Y
open Go.Operand renaming tmp->Go.Operand.a
open Go.Proofs.Tryz renaming prog->ah,underlying37->rX,underlying35->EH,underlying22->qg,underlying98->rY,underlying29->mW,underlying56->cB,underlying5->lq,underlying66->lI,underlying27->eY,underlying64->vk,underlying62->nY
open Go.RowKit renaming Below->aM
open Go.RowKit.Below renaming refl->aG,size->Go.RowKit.Below.j,mono->Go.RowKit.Below.g
open Go.RowKit.Hid renaming out->Go.RowKit.Hid.i
open Go.Sem renaming run->Go.Sem.I
open Go.Shut renaming out->Go.Shut.i
open Go.TypeDesc renaming slice->Go.TypeDesc.a,int->Go.TypeDesc.b,pointer->Go.TypeDesc.c,bool->Go.TypeDesc.e,string->Go.TypeDesc.g
open Go.TypeInfo renaming size->Go.TypeInfo.j
open Go.Value renaming int->aI,cells->bW,okWide->yO,ownBlock->jW,oneCell'->cO,string->iC,bool->bL,float->vJ,cells->Go.Value.D,slice->Go.Value.a,int->Go.Value.b,pointer->Go.Value.c,agg->Go.Value.d,tuple->Go.Value.J,bool->Go.Value.e,string->Go.Value.g
open Go.World renaming heap->Go.World.a,cell?->Go.World.b,setCell->Go.World.F,ownsRow->Go.World.c,there->Go.World.O
open Int renaming toNat->Int.e
open List renaming mem_map->gT,any_eq_true->qR,range->dV,all_eq_true->gF,mem_range->eu,getElem?_eq_none->aS,getElem?_toArray->dZ,length_map->bT,mem_singleton->fM,getD_eq_getElem?_getD->au,setIfInBounds_toArray->bH,set_cons_zero->bM,set_cons_succ->bG,eq_nil_of_length_eq_zero->bE,map_cons->kI,drop_of_length_le->iQ,getElem?_eq_getElem->aC,length_append->aR,length_set->aV,mem_cons->bC,length->List.a,toArray->List.b,getD->List.c,take->List.d,drop->List.f,flatMap->List.h
open Nat renaming zero_add->bl,add_zero->nE,le_refl->av,lt_or_ge->aZ,le_of_eq->aX,lt_of_lt_of_le->eO,zero_le->gQ,below->Nat.S
open Option renaming toList->Option.a,getD->Option.c
open Or renaming inl->BU,inl->Or.a
open UInt8 renaming ofNat->aJ,toNat->UInt8.e
open Vector renaming length_toList->nI,replicate->bF,ofFn->DK,toList->Vector.a
namespace Go.Proofs.YtkjojjopamaoiaaGreat
open Go.RowKit
theorem Bx.abS{L:List (Nat×Array aB)}{W0 W W':ak}{M:Nat}(h:Bx L W0 W)(hg:W.grownBy W' (some M))(hM:W0.a.j<=M)(hL:∀p∈L,p.1≠M):Bx L W0 W':=
 ⟨tT h.1 hg hM h.1.j,fun p hp=>⟨(h.2 p hp).1,(h.2 p hp).2.grown hg (fun e=>hL p hp (by injection e))⟩⟩
def DJ(l:List Fw)(k:Nat):List Tu:=((l.d k).map (·.key)).reverse
theorem adH{l:List Fw}{k:Nat}(hk:k<l.a):(l.c k kN).key::DJ l k=DJ l (k+1):=by
 unfold DJ;rw[List.take_succ_eq_append_getElem hk,List.map_append,List.reverse_append,uJ hk];rfl
theorem aga(l:List Fw)(k:Nat):decide ((l.c k kN).key∈DJ l k)=Yl l k:=by
 unfold DJ Yl;rw[bZ];simp only[List.mem_reverse,gT,decide_eq_true_eq,qR,rV]
theorem Ph{W:ak}{b:Nat}{x:Fw}(h:dL W b x.ay):(wW (.c (some ⟨b,0,none⟩))).I ah W=.ok (.d x.key.ay) W:=by
 have hs:eD x.ay=41:=Fw.G x;rw[Rq W b 0 (of_eq_true (h.K.2.2.1 0 37 (by omega))),h.K.2.2.2 0 37 (by omega),bl,Fw.P5]
theorem Jc(x:Cn)(vs:List Vp)(X:Sh)(s:oM)(w:ak)(hV:iR Vp.ay 20 w w.a.j x.qH x.iI vs)(hvc:x.iI<=x.qI)(hvn:x.iI<=100000)(hS:StR w w.a.j X s)(hbl:s.rZ.a<=100000)(hhl:s.h.a<=100000)(hfl:s.G.a<=100000)(J:Bool)(hJ:zm x vs s=J):
 aQ ah 15 #[.d x.ay,.d X.ay] w (gU w (.e J)):=by
 obtain⟨vv,⟨bA,bn,bc⟩,⟨gA,gn,gc⟩,⟨fA,fn,fc⟩,tk,nn,ct⟩:=X;obtain rfl:vv=s.mQ:=hS.mQ;obtain rfl:tk=s.gL:=hS.gL;obtain rfl:nn=s.no:=hS.no;obtain rfl:ct=s.Y:=hS.Y;have hbn:s.rZ.a=bn:=hS.b.1;have hgn:s.h.a=gn:=hS.h.1;have hfn:s.G.a=fn:=hS.f.1;have HBN:=ab hbn;have HGN:=ab hgn;have HFN:=ab hfn;have HS:=ab hS;have HLS:=ab (show bn<=100000/\gn<=100000/\fn<=100000 by omega);obtain⟨K1,hK1⟩:∃K,xZ x vs=K:=⟨_,rfl⟩
 obtain⟨K2,hK2⟩:∃K,xQ s.mQ s.rZ=K:=⟨_,rfl⟩
 obtain⟨K3,hK3⟩:∃K,decide (gn=bn)=K:=⟨_,rfl⟩
 obtain⟨K4,hK4⟩:∃K,decide ((fn:Int)<=x.Y)=K:=⟨_,rfl⟩
 obtain⟨KN,hKN⟩:∃K,ac' s=K:=⟨_,rfl⟩
 obtain⟨KH,hKH⟩:∃K,(dV gn).all (I4 x s)=K:=⟨_,rfl⟩
 obtain⟨KF,hKF⟩:∃K,(dV fn).all (QZ s)=K:=⟨_,rfl⟩
 have HJ:=ab (show J=((K1&&(K2&&(K3&&K4)))&&(KN&&(KH&&KF)))by rw[<-hJ,<-hK1,<-hK2,<-hK3,<-hK4,<-hKN,<-hKH,<-hKF,<-hbn,<-hgn,<-hfn];rfl);have HKN:=ab hKN;have HKH:=ab hKH;have HKF:=ab hKF;have q3:((gn:Int) != (bn:Int)) = !K3:=by rw[<-hK3];by_cases h:gn=bn<;>simp[h];omega
 have q4:decide (x.Y<(fn:Int)) = !K4:=by rw[<-hK4];by_cases h:(fn:Int)<=x.Y<;>simp[h]<;>omega
 have HK3:=ab hK3;clear hJ hK4 hKN hKH hKF hbn hgn hfn hbl hhl hfl hK3;have h0:=((Bx.start w).new x.ay 29).new (Sh.mk s.mQ ⟨bA,bn,bc⟩ ⟨gA,gn,gc⟩ ⟨fA,fn,fc⟩ s.gL s.no s.Y).ay 37;rw[show(w.alloc (.D x.ay 29)).a.j=w.a.j+1 by simp]at h0;have Z0:=ab h0;clear h0;obtain⟨XA,hXA⟩:∃A,A=(Sh.mk s.mQ ⟨bA,bn,bc⟩ ⟨gA,gn,gc⟩ ⟨fA,fn,fc⟩ s.gL s.no s.Y).ay:=⟨_,rfl⟩
 have XF:=ab (show XA.extract 0 2 = #[.b .a s.mQ,.a bA bn bc]/\XA[0]? = some (.b .a s.mQ)/\XA[1]? = some (.a bA bn bc)/\XA[2]? = some (.a gA gn gc)/\XA[3]? = some (.a fA fn fc)/\XA[4]? = some (.b .a s.gL)/\XA[5]? = some (.b .a s.no)/\∀j,j<11->XA[6+j]? = some (.b .a (s.Y.a.c j 0))by
  rw[hXA];exact⟨Sh.Mv _,Sh.pX _,Sh.DY _,Sh.Xd _,Sh.agz _,Sh.alB _,Sh.alC _,fun j hj=>Sh.agV _ j hj⟩)
 have CC:=ab (fun w1 (hb:aM w.a.j w w1)=>WX x vs w1 (hV.go hb) hvc hvn);have CP:=ab (fun w1 (hb:aM w.a.j w w1)=>ae5 s.rZ HS.i.rE s.mQ bA bn bc w1 (HS.i.b.go hb) (by have:=HLS.i;omega) K2 hK2);rw[hK1]at CC;have XS:=ab (show XA.j=17 by rw[hXA];exact Sh.G _);clear hK1 hK2 hV hS;go_enter Tryz.func15,Tryz.ntmps15;go_upto_region 1 with fail
 generalize(w.alloc (.D x.ay 29)).alloc (.D (Sh.mk s.mQ ⟨bA,bn,bc⟩ ⟨gA,gn,gc⟩ ⟨fA,fn,fc⟩ s.gL s.no s.Y).ay 37)=w0 at Z0 ⊢;rw[<-hXA]at Z0;clear hXA;obtain⟨x1,x2,x3,x4⟩:=Z0.i.b1.K;go_wp2_with fail
 (with_reducible refine(CC.i _ Z0.i.R).g ?_)
 rintro e w1 ⟨rfl,hb1⟩;have Z1:=ab (Z0.i.go hb1);clear hb1 x1 x2 x3 x4;cases K1
 ·skip
  go_wp2;go_ret;exact⟨by rw[HJ.i];rfl,Z1.i.R⟩
 obtain⟨e0,e1,e2,e3,e4,e5,e6,e7⟩:=XF.i;obtain⟨y1,y2,y3,y4⟩:=Z1.i.X.K;have hys:eD XA=17:=by have:=Z1.i.X;unfold eD;exact XS.i
 go_wp2_with fail
 (with_reducible refine(CP.i _ Z1.i.R).g ?_)
 rintro e w2 ⟨rfl,hb2⟩;have Z2:=ab (Z1.i.go hb2);clear hb2 y1 y2 y3 y4;cases K2
 ·skip
  go_wp2;go_ret;exact⟨by rw[HJ.i];rfl,Z2.i.R⟩
 obtain⟨x1,x2,x3,x4⟩:=Z2.i.b1.K;obtain⟨y1,y2,y3,y4⟩:=Z2.i.X.K;have z2:=Cn.Rw x;cases K3
 ·simp only[lW]at q3
  go_wp2;go_ret;exact⟨by rw[HJ.i];rfl,Z2.i.R⟩
 cases K4
 ·simp only[lW]at q4
  go_wp2;go_ret;exact⟨by rw[HJ.i];rfl,Z2.i.R⟩
 simp only[nV]at q3 q4;obtain⟨a1,ha1⟩:∃a,decide (s.gL<0)=a:=⟨_,rfl⟩
 obtain⟨a2,ha2⟩:∃a,decide (1099511627776<s.gL)=a:=⟨_,rfl⟩
 obtain⟨a3,ha3⟩:∃a,decide (s.no<0)=a:=⟨_,rfl⟩
 obtain⟨a4,ha4⟩:∃a,decide (1152921504606846976<s.no)=a:=⟨_,rfl⟩
 obtain⟨a5,ha5⟩:∃a,s.Y.a.any zV=a:=⟨_,rfl⟩
 have agb:=ab (show KN=(!a1&&(!a2&&(!a3&&(!a4 && !a5))))by
  rw[<-HKN.i,<-ha1,<-ha2,<-ha3,<-ha4,<-ha5,apO];unfold ac' Wx;rw[bZ];simp only[bf,decide_eq_true_eq,nZ,decide_eq_false_iff_not,Bool.not_not];constructor
  ·rintro⟨h1,h2,h3⟩;exact⟨by omega,by omega,by omega,by omega,h3⟩
  ·rintro⟨h1,h2,h3,h4,h5⟩;exact⟨by omega,by omega,h5⟩)
 have CA:=ab (aue (some ⟨w.a.j+1,6,none⟩) 11 11 w2.a.j w2 s.Y.a (by omega) (by have:=RdI.box (l:=s.Y.a) (o:=6) Z2.i.X (fun j hj=>e7 j (by simpa using hj));rw[nI]at this;exact this));rw[ha5]at CA;clear ha5;cases a1;rotate_left
 ·skip
  go_wp2;go_ret;exact⟨by rw[HJ.i,agb.i];rfl,Z2.i.R⟩
 cases a2;rotate_left
 ·skip
  go_wp2;go_ret;exact⟨by rw[HJ.i,agb.i];rfl,Z2.i.R⟩
 cases a3;rotate_left
 ·skip
  go_wp2;go_ret;exact⟨by rw[HJ.i,agb.i];rfl,Z2.i.R⟩
 cases a4;rotate_left
 ·skip
  go_wp2;go_ret;exact⟨by rw[HJ.i,agb.i];rfl,Z2.i.R⟩
 go_wp2_with fail
 (with_reducible refine CA.i.g ?_)
 rintro e w3 ⟨rfl,rfl⟩;cases a5;rotate_left
 ·skip
  go_wp2;go_ret;exact⟨by rw[HJ.i,agb.i];rfl,Z2.i.R⟩
 have HJ:=ab (show J=(KH&&KF)by rw[HJ.i,agb.i];simp);have hgb:=of_decide_eq_true HK3.i;subst hgb;clear ha1 ha2 ha3 ha4 q3 q4 agb HKN CA HK3;go_wp2;clear x1 x2 x3 x4 y1 y2 y3 y4 z2;go_loopw [64] (fun s64 wr=>∃i:Nat,i<=gn/\s64=.b .a i/\Bx [(w.a.j+1,XA),(w.a.j,x.ay)] w wr/\∀k,k<i->I4 x s k=true) (fun s64 _=>gn-(intOf s64).e)
 case atStart=>exact⟨0,by omega,rfl,Z2.i,fun k hk=>by omega⟩
 case round=>
  obtain⟨i,hin,rfl,hz,hall⟩:=hrel;have ZR:=ab hz;have HA:=ab hall;clear hz hall;by_cases hlt:i<gn
  ·have hlt2:(i:Int)<gn:=by omega
   have hgs:gn<=100000:=HLS.i.2.1;obtain⟨y,hy⟩:=tV (s.h.c i lC);obtain⟨b,o,rfl,_,hh,hcl,_,_⟩:=iR.hl (show RdH wr wr.a.j gA gn s.h from HS.i.h.go ZR.i.R) hlt;rw[hy]at hcl;have ZY:=ab (ZR.i.new y.ay 100);go_upto_region 8 with fail
   generalize wr.alloc (.D y.ay 100)=w5 at ZY ⊢;generalize wr.a.j=py at ZY ⊢;clear hh hcl;obtain⟨b2,o2,rfl,_,hc2⟩:=iR.cell Bk.G jk (show iR Bk.ay 27 w5 w5.a.j bA gn s.rZ from HS.i.b.go ZY.i.R) hlt;have n0:=(hc2 0 (by omega)).trans (Bk.pX _);rw[nE]at n0;clear hc2;obtain⟨nm,hnm⟩:∃n,(s.rZ.c i jk).E=n:=⟨_,rfl⟩
   rw[hnm]at n0;obtain⟨x1,x2,x3,x4⟩:=ZY.i.b2.K;obtain⟨y1,y2,y3,y4⟩:=ZY.i.b1.K;obtain⟨u1,u2,u3,u4⟩:=ZY.i.X.K;have d0:=Hl.pX y;have d1:=Hl.DY y;have d2:=Hl.Xd y;obtain⟨t1,ht1⟩:∃a,(y.E==nm)=a:=⟨_,rfl⟩
   obtain⟨t2,ht2⟩:∃a,decide (y.I<0)=a:=⟨_,rfl⟩
   have T1:(y.E != nm) = !t1:=by rw[<-ht1];rfl
   have T2:decide (y.E=nm)=t1:=by rw[<-ht1];rw[bZ];simp
   have T3:decide (y.E≠nm) = !t1:=by rw[<-ht1];rw[bZ];simp
   have T4:(!decide (y.E=nm)) = !t1:=by rw[T2]
   cases hd:y.down
   ·obtain⟨t3,ht3⟩:∃a,decide (x.fall<=y.I)=a:=⟨_,rfl⟩
    have HI:=ab (show I4 x s i=(t1&&(!t2 && !t3))by
     unfold I4 amv;rw[hy,hnm,hd,ht1,<-ht2,<-ht3];congr 1;congr 1<;>(rw[bZ];simp))
    have c1:=Cn.RJ x;rw[hd]at d1;clear hy hnm;go_upto_region 11 with fail
    cases t1
    ·have HF:=ab (show KH=false by rw[<-HKH.i];exact jc _ i _ hlt (by rw[HI.i];simp))
     simp only[nV,lW]at T1 T3 T4;go_quiet (fail);go_wp2;go_ret;exact⟨by rw[HJ.i,HF.i];rfl,ZY.i.R.trans (fH (aG _ _) _)⟩
    simp only[nV,lW]at T1 T3 T4;cases t2;rotate_left
    ·have HF:=ab (show KH=false by rw[<-HKH.i];exact jc _ i _ hlt (by rw[HI.i];simp))
     go_quiet (fail);go_wp2;go_ret;exact⟨by rw[HJ.i,HF.i];rfl,ZY.i.R.trans (fH (aG _ _) _)⟩
    cases t3;rotate_left
    ·have HF:=ab (show KH=false by rw[<-HKH.i];exact jc _ i _ hlt (by rw[HI.i];simp))
     go_quiet (fail);go_wp2;go_ret;exact⟨by rw[HJ.i,HF.i];rfl,ZY.i.R.trans (fH (aG _ _) _)⟩
    have HK:=ab (show I4 x s i=true by rw[HI.i];rfl);go_quiet (fail);go_wp2;go_roundw
    case rel=>exact⟨i+1,by omega,by go_num,ZY.i.NH.drewN _,fun k hk=>by
     by_cases hki:k=i
     ·rw[hki];exact HK.i
     ·exact HA.i k (by omega)⟩
    case measure=>simp[intOf]<;>omega
   ·obtain⟨t3,ht3⟩:∃a,decide (x.kg<=y.I)=a:=⟨_,rfl⟩
    have HI:=ab (show I4 x s i=(t1&&(!t2 && !t3))by
     unfold I4 amv;rw[hy,hnm,hd,ht1,<-ht2,<-ht3];congr 1;congr 1<;>(rw[bZ];simp))
    have c1:=Cn.Ry x;rw[hd]at d1;clear hy hnm;go_upto_region 11 with fail
    cases t1
    ·have HF:=ab (show KH=false by rw[<-HKH.i];exact jc _ i _ hlt (by rw[HI.i];simp))
     simp only[nV,lW]at T1 T3 T4;go_quiet (fail);go_wp2;go_ret;exact⟨by rw[HJ.i,HF.i];rfl,ZY.i.R.trans (fH (aG _ _) _)⟩
    simp only[nV,lW]at T1 T3 T4;cases t2;rotate_left
    ·have HF:=ab (show KH=false by rw[<-HKH.i];exact jc _ i _ hlt (by rw[HI.i];simp))
     go_quiet (fail);go_wp2;go_ret;exact⟨by rw[HJ.i,HF.i];rfl,ZY.i.R.trans (fH (aG _ _) _)⟩
    cases t3;rotate_left
    ·have HF:=ab (show KH=false by rw[<-HKH.i];exact jc _ i _ hlt (by rw[HI.i];simp))
     go_quiet (fail);go_wp2;go_ret;exact⟨by rw[HJ.i,HF.i];rfl,ZY.i.R.trans (fH (aG _ _) _)⟩
    have HK:=ab (show I4 x s i=true by rw[HI.i];rfl);go_quiet (fail);go_wp2;go_roundw
    case rel=>exact⟨i+1,by omega,by go_num,ZY.i.NH.drewN _,fun k hk=>by
     by_cases hki:k=i
     ·rw[hki];exact HK.i
     ·exact HA.i k (by omega)⟩
    case measure=>simp[intOf]<;>omega
  ·obtain rfl:i=gn:=by omega
   have HF:=ab (show KH=true by rw[<-HKH.i,gF];exact fun k hk=>HA.i k (eu.1 hk));have HJ:=ab (show J=KF by rw[HJ.i,HF.i];rfl);have hnl:¬(i:Int)<i:=by omega
   clear hlt HA HF HKH;obtain⟨y1,y2,y3,y4⟩:=ZR.i.X.K;have hmm:=fun n w=>Gp (P:=ah) Tryz.underlying114 n w
   go_upto_region 15 with fail
   have M0:=ab (J9.new wr);have ZM:=ab (ZR.i.alloc (.map #[] 0));have HM:=ab (show w.a.j<=wr.a.j/\∀p∈[(w.a.j+1,XA),(w.a.j,x.ay)],p.1≠wr.a.j from⟨ZR.i.R.j,fun p hp=>by have:=(ZR.i.2 p hp).2.lt;omega⟩);generalize wr.alloc (.map #[] 0)=w6 at M0 ZM ⊢;generalize wr.a.j=M at M0 HM ⊢;clear y1 y2 y3 y4 hmm;obtain⟨y1,y2,y3,y4⟩:=ZM.i.X.K;go_wp2;clear y1 y2 y3 y4;go_loopw [104] (fun au1 wr=>∃k:Nat,k<=fn/\au1=.b .a k/\Bx [(w.a.j+1,XA),(w.a.j,x.ay)] w wr/\J9 wr M k (DJ s.G k)/\∀j,j<k->QZ s j=true) (fun au1 _=>fn-(intOf au1).e)
   case atStart=>exact⟨0,by omega,rfl,ZM.i,M0.i,fun k hk=>by omega⟩
   case round=>
    obtain⟨k,hkn,rfl,hz,hm,hall⟩:=hrel;have ZR:=ab hz;have MR:=ab hm;have HA:=ab hall;clear hz hm hall;by_cases hkt:k<fn;rotate_left
    ·obtain rfl:k=fn:=by omega
     have HF:=ab (show KF=true by rw[<-HKF.i,gF];exact fun j hj=>HA.i j (eu.1 hj));have hnl:¬(k:Int)<k:=by omega
     go_wp2;go_ret;exact⟨by rw[HJ.i,HF.i];rfl,ZR.i.R⟩
    have hlt2:(k:Int)<fn:=by omega
    obtain⟨b,o,rfl,hbl,hh,hcl⟩:=iR.fw (show iR Fw.ay 41 wr wr.a.j fA fn s.G from HS.i.f.go ZR.i.R) hkt;obtain⟨y,hy⟩:=tV (s.G.c k kN);rw[hy]at hcl;have HYN:=ab (HS.i.alF _ (AX kN s.G k (by rw[HFN.i];exact hkt)));rw[hy]at HYN;have ZY:=ab (ZR.i.new y.ay 86);have MY:=ab (MR.i.go ((aG _ _).alloc (av _) (.D y.ay 86)));go_upto_region 18 with fail
    generalize wr.alloc (.D y.ay 86)=w7 at ZY MY ⊢;generalize wr.a.j=py at ZY ⊢;clear hh hcl hbl;have hfs:fn<=100000:=HLS.i.2.2;obtain⟨c1,hc1⟩:∃c,zR y=c:=⟨_,rfl⟩
    obtain⟨c2,hc2⟩:∃c,decide (s.gL<y.seen)=c:=⟨_,rfl⟩
    obtain⟨c3,hc3⟩:∃c,decide (y.no<1)=c:=⟨_,rfl⟩
    obtain⟨c4,hc4⟩:∃c,decide (s.no<y.no)=c:=⟨_,rfl⟩
    obtain⟨c5,hc5⟩:∃c,decide (y.key∈DJ s.G k)=c:=⟨_,rfl⟩
    obtain⟨pv,hpv⟩:∃p,s.G.c (k-1) kN=p:=⟨_,rfl⟩
    have HI:=ab (show QZ s k=(c1&&(!c2&&(!c3&&(!c4&&(!c5&&(decide (k=0)||kP pv y))))))by
     unfold QZ;have hkk:=aga s.G k;rw[hy]at hkk ⊢;rw[<-hkk,hc5,hc1,hpv,<-hc2,<-hc3,<-hc4];have g1:decide (y.seen<=s.gL) = !decide (s.gL<y.seen):=by rw[bZ];simp
     have g2:decide (1<=y.no) = !decide (y.no<1):=by rw[bZ];simp
     have g3:decide (y.no<=s.no) = !decide (s.no<y.no):=by rw[bZ];simp
     rw[g1,g2,g3])
    have FR:=ab (fun W=>Kr y W HYN.i);rw[hc1]at FR;have HC1:=ab hc1;have HPV:=ab hpv;have HYY:=ab hy;have KEY:=ab (adH (l:=s.G) (k:=k) (by rw[HFN.i];exact hkt));clear hy hc1 hpv;obtain⟨T,f,n0,E0,es,ew⟩:=xH (w7);have hT:Nonempty T:=⟨n0⟩
    have ES:=ab es;have EW:=ab ew;clear es ew;have l1:=fun m=>kH (ZY.i.go (ES.i m)).X
    have l3:∀m,(f m).b ⟨py,39,none⟩=some (.b .a y.seen):=fun m=>((ZY.i.go (ES.i m)).X.K.1 39).trans (Fw.ae2 y)
    have l4:∀m,(f m).b ⟨py,40,none⟩=some (.b .a y.no):=fun m=>((ZY.i.go (ES.i m)).X.K.1 40).trans (Fw.ZV y)
    have l5:∀m,(f m).b ⟨w.a.j+1,4,none⟩=some (.b .a s.gL):=fun m=>((ZY.i.go (ES.i m)).b1.K.1 4).trans XF.i.2.2.2.2.2.1
    have l6:∀m,(f m).b ⟨w.a.j+1,5,none⟩=some (.b .a s.no):=fun m=>((ZY.i.go (ES.i m)).b1.K.1 5).trans XF.i.2.2.2.2.2.2.1
    have l7:∀m,(f m).b ⟨w.a.j+1,3,none⟩=some (.a (some ⟨b,o,none⟩) fn fc):=fun m=>((ZY.i.go (ES.i m)).b1.K.1 3).trans XF.i.2.2.2.2.1
    have l8:∀m,(wW (.c (some ⟨py,0,none⟩))).I ah (f m)=.ok (.d y.key.ay) (f m):=fun m=>Ph (ZY.i.go (ES.i m)).X
    cases c1;rotate_left;have L9:=ab (fun W (h:J9 W M k (DJ s.G k))=>show(Instr.lookup 114 (.map (some M)) (.d y.key.ay) false).I ah W=.ok (.e c5) W by rw[ajP h y.key (wK HC1.i),hc5]);have l9:=fun m=>L9.i (f m) (MY.i.go (ES.i m))
    clear hc5;cases c2;cases c3;cases c4;cases c5
    all_goals try(
     have HF:=ab (show KF=false by rw[<-HKF.i];exact jc _ k _ hkt (by rw[HI.i];simp));refine pE f (by kernel_rfl) (by kernel_rfl) n0 E0 ?_
     repeat(go_big_quiet_step ((first|(go_at_call 48;(with_reducible refine(FR.i _).g ?_);rintro e w2 ⟨rfl,hb⟩;exact⟨rfl,EW.i _ ((ES.i _).trans (hb.g (ES.i _).j))⟩))))
     refine gW ?_;rintro _ ⟨m',rfl⟩;have HB:=ab (ES.i m');generalize f m'=wN at *;clear ES EW E0 hT n0;go_wp2;go_ret;exact⟨by rw[HJ.i,HF.i];rfl,(ZY.i.go HB.i).R⟩)
    have Jt:=ab (JR HC1.i);by_cases hk0:k=0
    ·have t0:decide (0<(k:Int))=false:=by simp;omega
     have HI:=ab (show QZ s k=true by rw[HI.i];simp[hk0]);have HG:=ab (show QZ s k=true by exact HI.i);refine pE f (by kernel_rfl) (by kernel_rfl) n0 E0 ?_
     repeat(go_big_quiet_step ((first|(go_at_call 48;(with_reducible refine(FR.i _).g ?_);rintro e w2 ⟨rfl,hb⟩;exact⟨rfl,EW.i _ ((ES.i _).trans (hb.g (ES.i _).j))⟩))))
     refine gW ?_;rintro _ ⟨m',rfl⟩;have HB:=ab (ES.i m');generalize f m'=wN at *;clear ES EW E0 hT n0;clear l1 l3 l4 l5 l6 l7 l8 l9;have ZN:=ab (ZY.i.go HB.i);have MN:=ab (MY.i.go HB.i);have l8:=Ph ZN.i.X;have TK:=ab (wK HC1.i);have HK1:=ab (show k<=1000000 by omega);go_wp2_with (refine Qq rfl (.a 152) (.a 154) (.const (.e true)) rfl M k (DJ s.G k) rfl MN.i HK1.i y.key TK.i rfl rfl ?_;intro w9 h1 h2;have M9:=ab h1;have Z9:=ab (ZN.i.NH.abS h2 HM.i.1 HM.i.2);clear h1 h2);go_roundw
     case rel=>exact⟨k+1,by omega,by go_num,Z9.i,by rw[<-KEY.i,HYY.i];exact M9.i,fun j hj=>by
      by_cases hjk:j=k
      ·rw[hjk];exact HG.i
      ·exact HA.i j (by omega)⟩
     case measure=>simp[intOf]<;>omega
    have t0:decide (0<(k:Int))=true:=by simp;omega
    have t00:decide (0<k)=true:=decide_eq_true (by omega);have hkp:0<k:=by omega
    have HOP:=ab (show zR pv=true by
     have:=HA.i (k-1) (by omega);unfold QZ at this;rw[HPV.i]at this;simp only[bf]at this;exact this.1)
    have HON:=ab (JR HOP.i);have CO:=ab (fun W=>Qk pv y HON.i.1 Jt.i.1 HON.i.2 Jt.i.2 W);obtain⟨j,hj⟩:∃j:Nat,j=k-1:=⟨_,rfl⟩
    have i1:(k:Int)-1=(j:Int):=by omega
    have i2:(j:Int)<fn:=by omega
    rw[<-hj]at HPV;have HJK:=ab (show j<fn by omega);clear hj;have la:∀m,(Oy (.c (some ⟨b,o+j*41,none⟩))).I ah (f m)=.ok (.d pv.ay) (f m):=fun m=>by
     obtain⟨b',o',e,_,hh,hcl⟩:=iR.fw (show iR Fw.ay 41 (f m) (f m).a.j (some ⟨b,o,none⟩) fn s.G from HS.i.f.go (ZY.i.go (ES.i m)).R) HJK.i;injection e with e
     injection e with e1 e2
     subst e1 e2;rw[HPV.i]at hcl;rw[agU _ _ _ hh,hcl]
    obtain⟨c7,hc7⟩:∃c,kP pv y=c:=⟨_,rfl⟩
    rw[hc7]at CO HI;have HOL:=ab hc7;clear hc7;cases c7
    ·have hk9:=hk0
     have HF:=ab (show KF=false by rw[<-HKF.i];exact jc _ k _ hkt (by rw[HI.i];simp[hk9]));refine pE f (by kernel_rfl) (by kernel_rfl) n0 E0 ?_
     repeat(go_big_quiet_step ((first|(go_at_call 48;(with_reducible refine(FR.i _).g ?_);rintro e w2 ⟨rfl,hb⟩;exact⟨rfl,EW.i _ ((ES.i _).trans (hb.g (ES.i _).j))⟩)|(go_at_call 49;(with_reducible refine(CO.i _).g ?_);rintro e w2 ⟨rfl,hb⟩;exact⟨rfl,EW.i _ ((ES.i _).trans (hb.g (ES.i _).j))⟩))))
     refine gW ?_;rintro _ ⟨m',rfl⟩;have HB:=ab (ES.i m');generalize f m'=wN at *;clear ES EW E0 hT n0;go_wp2;go_ret;exact⟨by rw[HJ.i,HF.i];rfl,(ZY.i.go HB.i).R⟩
    have HG:=ab (show QZ s k=true by rw[HI.i];simp[HOL.i]);refine pE f (by kernel_rfl) (by kernel_rfl) n0 E0 ?_
    repeat(go_big_quiet_step ((first|(go_at_call 48;(with_reducible refine(FR.i _).g ?_);rintro e w2 ⟨rfl,hb⟩;exact⟨rfl,EW.i _ ((ES.i _).trans (hb.g (ES.i _).j))⟩)|(go_at_call 49;(with_reducible refine(CO.i _).g ?_);rintro e w2 ⟨rfl,hb⟩;exact⟨rfl,EW.i _ ((ES.i _).trans (hb.g (ES.i _).j))⟩))))
    refine gW ?_;rintro _ ⟨m',rfl⟩;have HB:=ab (ES.i m');generalize f m'=wN at *;clear ES EW E0 hT n0;clear l1 l3 l4 l5 l6 l7 l8 l9;have ZN:=ab (ZY.i.go HB.i);have MN:=ab (MY.i.go HB.i);have l8:=Ph ZN.i.X;have TK:=ab (wK HC1.i);have HK1:=ab (show k<=1000000 by omega);go_wp2_with (refine Qq rfl (.a 152) (.a 154) (.const (.e true)) rfl M k (DJ s.G k) rfl MN.i HK1.i y.key TK.i rfl rfl ?_;intro w9 h1 h2;have M9:=ab h1;have Z9:=ab (ZN.i.NH.abS h2 HM.i.1 HM.i.2);clear h1 h2);go_roundw
    case rel=>exact⟨k+1,by omega,by go_num,Z9.i,by rw[<-KEY.i,HYY.i];exact M9.i,fun j hj=>by
     by_cases hjk:j=k
     ·rw[hjk];exact HG.i
     ·exact HA.i j (by omega)⟩
    case measure=>simp[intOf]<;>omega
section
variable {W W':ak} {q:Nat} {e:En} {s:oM} {x:Eg} {q2 g:Nat} {sl:List (Option Fw)}
theorem Gb{B sz n c p:Nat}{T:bK}{A:Option aT}{xs:List aB}(h:W.c B T sz (.a A n c) n xs)(hf:jD [p] W W')(hp:p<B):W'.c B T sz (.a A n c) n xs:=Ay h hf (fun k hk hm=>by simp at hm;subst hm;have:=h.lt _ hk;omega)
structure StO(B:Nat)(W:ak)(X:Sh)(s:oM):Prop where
 mQ:X.mQ=s.mQ
 bn:s.rZ.a=X.b.n
 b:W.c B 62 27 (.a X.b.A X.b.n X.b.c) X.b.n (s.rZ.h fun y=>y.ay.a)
 hn:s.h.a=X.h.n
 h:W.c B 100 3 (.a X.h.A X.h.n X.h.c) X.h.n (s.h.h fun y=>y.ay.a)
 fn:s.G.a=X.f.n
 f:W.c B 86 41 (.a X.f.A X.f.n X.f.c) X.f.n (s.G.h fun y=>y.ay.a)
 gL:X.gL=s.gL
 no:X.no=s.no
 Y:X.Y=s.Y
def azk(W:ak)(s:oM)(r:kZ)(W':ak):Prop:=∃X:Sh,r=.a (.d X.ay)/\StO W.a.j W' X s/\aM W.a.j W W'
theorem kSh:oN 37 17 IC.ay:=⟨⟨_,rX,rfl⟩,by kernel_rfl,by kernel_rfl,Sh.G _⟩
@[go_sem]theorem azl(W:ak)(mQ:Int)(A1:Option aT)(n1 c1:Nat)(A2:Option aT)(n2 c2:Nat)(A3:Option aT)(n3 c3:Nat)(t n:Int)(v:Vector Int 11):(as4 #[(0,.d (Pc.mk mQ A1 n1 c1).ay),(1,.a A2 n2 c2),(2,.a A3 n3 c3),(3,.b .a t),(4,.b .a n),(5,.d (v.a.map (aI .a)).b)]).I ah W=.ok (.d (Sh.mk mQ ⟨A1,n1,c1⟩ ⟨A2,n2,c2⟩ ⟨A3,n3,c3⟩ t n v).ay) W:=kSh.bd W _ _ _ _ rX (XI W _ rX) (by
 refine uU (Sh.G _) ?_ ?_
 ·simp[rF,bW,Pc.G]
 ·simp[qO,bW,Pc.ay,Sh.ay,shT,yE])
theorem Eg.ajQ{x:Eg}(h:dL W q x.ay):W.rangeAt q 79 (x.Y.a.map (aI .a)):=by
 intro j v hj;have hj6:j<11:=by
  rcases aZ j 11 with h1|h1
  ·exact h1
  ·rw[aS (by simpa using h1)]at hj;cases hj
 have h2:(x.ay.extract 79 90)[j]? = (yE x.Y)[j]?:=by rw[Eg.am1]
 rw[dx,if_pos (by rw[Eg.G];omega)]at h2;rw[h.K.1,h2];unfold yE;rw[dZ];exact hj
theorem adI{M:Int}(h:yU W q e s x q2 g sl)(hi:mE M e s):aQ ah 20 #[.c (some ⟨q,0,none⟩)] W (azk W s):=by
 have Z0:=ab ((Bx.start W).new IC.ay 37);have H:=ab h;have HI:=ab hi;have HN:=ab (show s.rZ.a=x.pl.rN/\s.h.a=x.DI from⟨h.b.h.1,h.b.hl.1⟩);have HF:=ab hi.few;have SZ:=ab (show W.a.j<(W.alloc (.D IC.ay 37)).a.j by simp);clear h hi;go_enter Tryz.func20,Tryz.ntmps20;go_upto_region 1 with fail
 generalize W.alloc (.D IC.ay 37)=w0 at Z0 SZ ⊢;have l1:=kPc.Di (H.i.b.eg.go Z0.i.R) 70 (Eg.ahp _) (by rw[Eg.G];omega);go_upto_region 2 with fail
 have Z1:=ab (Z0.i.new x.pl.ay 32);have SZ1:=ab (show w0.a.j<(w0.alloc (.D x.pl.ay 32)).a.j by simp);generalize w0.alloc (.D x.pl.ay 32)=w1 at Z1 SZ1 ⊢;have NP:=ab (show w0.a.j≠W.a.j by have:=SZ.i;omega);generalize w0.a.j=p at Z1 SZ SZ1 NP ⊢;clear l1;have f1:=(Z1.i.X.K.1 1).trans (Pc.amX x.pl);have CB:=ab (xC s.rZ x.pl.rA x.pl.rC w1 (by have h1:=H.i.b.h.go Z1.i.R;rw[HN.i.1];exact h1) (by have:=HF.i;omega));unfold Zx at CB;rw[HN.i.1]at CB;go_upto_region 3 with(go_at_call 61;(with_reducible refine CB.i.g ?_);rintro r w2 ⟨A1,c1,rfl,ho,hb⟩;have g1:=(Z1.i.X.go hb).K.2.1 1;have f1:=((Z1.i.X.go hb).K.1 1).trans (Pc.amX x.pl);have Z2:=ab (Z1.i.go hb);have O1:=ab ho;have SZ2:=ab hb.j;clear ho hb)
 have Z3:=ab (Z2.i.set (fun r hr=>by simp at hr;subst hr;have:=SZ.i;simp;omega) 1 (.a A1 x.pl.rN c1));rw[Pc.aho]at Z3;have O3:=ab (Ay O1.i ((jD.refl [p] w2).set ⟨p,1,none⟩ (.a A1 x.pl.rN c1) (.a (by simp))) (fun k hk hm=>by have:=kK O1.i;simp at hm;subst hm;have:=O1.i.lt _ hk;have:=SZ1.i;omega));have SZ3:=ab (show w1.a.j<=(w2.F ⟨p,1,none⟩ (.a A1 x.pl.rN c1)).a.j by have:=SZ2.i;simp[World.setCell];exact this);generalize w2.F ⟨p,1,none⟩ (.a A1 x.pl.rN c1)=w3 at Z3 O3 SZ3 ⊢;clear f1 g1;have KS:=ab (fun(w':ak) (h0:dL w' p ({x.pl with rA:=A1,rN:=x.pl.rN,rC:=c1}:Pc).ay) (h1:dL w' q x.ay)=>show(yH 32 (.c (some ⟨p,0,none⟩))).I ah w'=.ok (.d (Pc.mk x.pl.mQ A1 x.pl.rN c1).ay) w'/\w'.b ⟨q,72,none⟩=some (.a x.NM x.DI x.Rf)/\w'.b ⟨q,74,none⟩=some (.c (some ⟨q2,0,none⟩))/\w'.b ⟨q,77,none⟩=some (.b .a x.gL)/\w'.b ⟨q,78,none⟩=some (.b .a x.no)/\w'.rangeAt q 79 (x.Y.a.map (aI .a))from
  ⟨kPc.Di h0 0 (Pc.all _) (by rw[Pc.G];omega),(h1.K.1 72).trans (Eg.YC _),by rw[h1.K.1 74,Eg.YD,H.i.b.fl];rfl,(h1.K.1 77).trans (Eg.Sd _),(h1.K.1 78).trans (Eg.am0 _),Eg.ajQ h1⟩)
 have CH:=ab (fun(w:ak) (hb:aM W.a.j W w)=>KT s.h x.NM x.DI x.Rf w (H.i.b.hl.go hb) (by have:=HF.i;have:=HN.i;omega));have CL:=ab (fun(w:ak) (hb:aM W.a.j W w)=>afP (H.i.b.tb.go hb));unfold ClP at CH;have hU:=EH;have hI:(ah.info? 35).map (·.j)=some (x.Y.a.map (aI .a)).a:=by rw[bT,nI];kernel_rfl
 go_region_held_law (fun w'=>(yH 32 (.c (some ⟨p,0,none⟩))).I ah w'=.ok (.d (Pc.mk x.pl.mQ A1 x.pl.rN c1).ay) w'/\w'.b ⟨q,72,none⟩=some (.a x.NM x.DI x.Rf)/\w'.b ⟨q,74,none⟩=some (.c (some ⟨q2,0,none⟩))/\w'.b ⟨q,77,none⟩=some (.b .a x.gL)/\w'.b ⟨q,78,none⟩=some (.b .a x.no)/\w'.rangeAt q 79 (x.Y.a.map (aI .a)))
  (first|exact KS.i _ Z3.i.drew.X (H.i.b.eg.go Z3.i.drew.R)|exact KS.i _ Z4.i.X (H.i.b.eg.go Z4.i.R)|exact KS.i _ Z5.i.X (H.i.b.eg.go Z5.i.R)|exact KS.i _ Z6.i.b1 (H.i.b.eg.go Z6.i.R)|go_keep)
  (first
  | (go_at_call 59;(with_reducible refine(CH.i _ Z3.i.drew.R).g ?_);rintro r w4 ⟨A2,c2,rfl,ho,hb⟩;have Z4:=ab (Z3.i.drew.go hb);have O2:=ab ho;have S4:=ab (show w3.a.j<=w4.a.j from hb.j);have B4:=ab (show aM w3.a.j w3 w4 from(iB w3).trans hb);clear ho hb)
  | (go_at_call 65;(with_reducible refine(CL.i _ Z4.i.R).g ?_);rintro r w5 ⟨A3,c3,rfl,ho,hb⟩;have Z5:=ab (Z4.i.go hb);have O5:=ab ho;have B5:=ab hb;have th:=Z5.i.b1.O 0 17 (aX (Sh.G IC).symm);have Z6:=ab (show Bx [(W.a.j,(Sh.mk x.pl.mQ ⟨A1,x.pl.rN,c1⟩ ⟨A2,x.DI,c2⟩ ⟨A3,s.G.a,c3⟩ x.gL x.no x.Y).ay),(p,({x.pl with rA:=A1,rN:=x.pl.rN,rC:=c1}:Pc).ay)] W (alE w5 W.a.j 0 (Sh.mk x.pl.mQ ⟨A1,x.pl.rN,c1⟩ ⟨A2,x.DI,c2⟩ ⟨A3,s.G.a,c3⟩ x.gL x.no x.Y))from Z5.i.swap.put (fun r hr=>by rw[fM.1 hr];exact NP.i) _ (by rw[Sh.G,Sh.G]));clear ho hb))
 have FS:=ab (show jD [W.a.j] w5 (alE w5 W.a.j 0 (Sh.mk x.pl.mQ ⟨A1,x.pl.rN,c1⟩ ⟨A2,x.DI,c2⟩ ⟨A3,s.G.a,c3⟩ x.gL x.no x.Y))from yx w5 W.a.j 0 _);have hs:=SZ.i;have hs1:=SZ1.i;have hs3:=SZ3.i;have hs4:=S4.i;have hw:=Z3.i.R.j;go_wp2_with fail;refine aN (kSh.zh rfl _ rfl Z6.i.X (Sh.G _)) rfl ?_;refine⟨_,rfl,⟨H.i.b.mQ,HN.i.1,?_,HN.i.2,?_,rfl,?_,H.i.b.gL,H.i.b.no,H.i.b.Y⟩,Z6.i.R⟩
 ·exact iH (Gb (jq (jq O3.i B4.i) B5.i) FS.i (by omega)) (by omega)
 ·exact iH (Gb (jq O2.i B5.i) FS.i (by simp;omega)) (by simp;omega)
 ·exact iH (Gb O5.i FS.i (by omega)) (by omega)
theorem StO.r{M:Int}{B:Nat}{X:Sh}(h:StO B W X s)(hi:mE M e s):StR W W.a.j X s:=by
 have hf:=hi.few;have hl:=hi.fl.len;obtain⟨_,⟨r1,r2⟩,_⟩:=sP hi.cn;have h1:=h.bn;have h2:=h.hn;have h3:=h.fn;refine⟨h.mQ,iR.iY h.bn h.b,iR.iY h.hn h.h,iR.iY h.fn h.f,h.gL,h.no,h.Y,hi.fi,fun y hy=>?_,fun y hy=>?_,by omega,by omega,by omega⟩
 ·have hm:y.E∈s.rZ.map (·.E):=by rw[<-hi.nm];exact gT.2 ⟨y,hy,rfl⟩
  obtain⟨b,hb,e⟩:=gT.1 hm;have:=hf.2.2 b hb;rw[<-e];omega
 ·have:=hi.fl.ok y hy
  unfold zR uO at this;simp only[bf,decide_eq_true_eq]at this;omega
end
theorem Eg.MI(x:Eg)(A:Option aT)(n c:Nat):x.ay.b 16 (.a A n c)=({x with cf:={x.cf with qH:=A,iI:=n,qI:=c}}:Eg).ay:=by simp[Eg.ay,aL,Cn.G,Pc.G,Tc.G,dK,jZ,Cn.MI]
theorem Eg.aho(x:Eg)(A:Option aT)(n c:Nat):x.ay.b 71 (.a A n c)=({x with pl:={x.pl with rA:=A,rN:=n,rC:=c}}:Eg).ay:=by simp[Eg.ay,aL,Cn.G,Pc.G,Tc.G,dK,jZ,Pc.aho]
theorem Eg.amX(x:Eg):x.ay[71]? = some (.a x.pl.rA x.pl.rN x.pl.rC):=by simp[Eg.ay,aD,Cn.G,Pc.G,Tc.G,dK,jZ,Pc.ay]
theorem Lj.qU{W W':ak}{q:Nat}{e:En}{s:oM}{x:Eg}{q2 g:Nat}{sl sl':List (Option Fw)}{l':List Fw}(h:Lj W q e s x q2 g sl)(hf:jD [q2,g] W W')(ht:J8 W' q2 g e.key e.c.Y sl' l')(hl:sl'.a=sl.a):Lj W' q e {s with G:=l'} x q2 g sl':=by
 have o:∀b,b∈qA x->b∉[q2,g]:=fun b hm=>by have:=h.GU b hm;simp;omega
 have hs:=hf.j;have hq:=h.nq;exact⟨hf.box h.eg (by simp;omega),h.key,h.cf,h.mQ,h.vs.keep hf (fun b hm=>o b (dR.2 (.a hm))),h.h.keep hf (fun b hm=>o b (dR.2 (.inr (.a hm)))),h.hl.keep hf (fun b hm=>o b (dR.2 (.inr (.inr (.a hm))))),h.fl,ht,by rw[hl];exact h.rm,h.nq,fun b hm=>by have:=h.GU b hm;omega,h.gL,h.no,h.Y⟩
theorem adJ{W:ak}{b o:Nat}{c:Array aB}{xs:List aB}(h:dL W b c)(hc:∀j,j<xs.a->c[o+j]? = xs[j]?):W.rangeAt b o xs:=by
 intro j v hj;have hlt:j<xs.a:=by
  rcases aZ j xs.a with h1|h1
  ·exact h1
  ·rw[aS h1]at hj;cases hj
 rw[h.K.1,hc j hlt,hj]
theorem anv{W:ak}{b:Nat}{xs:List aB}(h:dL W b xs.b):W.rangeAt b 0 xs:=adJ h (fun j _=>by rw[bl,dZ])
@[go_sem]theorem azm(W:ak)(key:Vector UInt8 16)(cf:Cn)(pl:Pc)(A:Option aT)(n c:Nat)(ti no:Int)(ct:Vector Int 11):(uL 123 #[(0,.d (key.a.map bv).b),(1,.d cf.ay),(2,.d pl.ay),(3,.a A n c),(7,.b .a ti),(8,.b .a no),(9,.d (ct.a.map (aI .a)).b)]).I ah W=.ok (.d (Eg.mk key cf pl A n c none 0 0 none Co ti no ct).ay) W:=am4 W key cf pl A n c ti no ct
theorem anw(X:Sh)(j:Nat)(h:j<11):X.ay[6+j]? = (X.Y.a.map (aI .a))[j]?:=by
 rw[Sh.agV X j h];simp[au,h]
def NC(W:ak)(key:Vector UInt8 16)(c:Cn)(vs:List Vp)(s:oM)(r:kZ)(W':ak):Prop:=
 ∃q x q2 g sl,r=.a (.J #[.c (some ⟨q,0,none⟩),.b .a 0])/\yU W' q ⟨key,c,vs⟩ s x q2 g sl/\aM W.a.j W W'/\(W.a.j<=q/\W.a.j<=q2/\W.a.j<=g)/\∀b∈qA x,W.a.j<=b
theorem aa8(key:Vector UInt8 16)(c:Cn)(vs:List Vp)(X:Sh)(s:oM)(w:ak)(hV:iR Vp.ay 20 w w.a.j c.qH c.iI vs)(hvc:c.iI<=c.qI)(hvn:c.iI<=100000)(hS:StR w w.a.j X s)(hbl:s.rZ.a<=100000)(hhl:s.h.a<=100000)(hfl:s.G.a<=100000)(hJ:zm c vs s=false):
 aQ ah 19 #[.d (iZ key),.d c.ay,.d X.ay] w (gU w (.J #[.c none,.b .a 1])):=by
 have h0:=(((Bx.start w).new (iZ key) 22).new c.ay 29).new X.ay 37;rw[show((w.alloc (.D (iZ key) 22)).alloc (.D c.ay 29)).a.j=w.a.j+2 by simp,show(w.alloc (.D (iZ key) 22)).a.j=w.a.j+1 by simp]at h0;have Z0:=ab h0;have CR:=ab (fun w1 (hb:aM w.a.j w w1)=>Jc c vs X s w1 (hV.go hb) hvc hvn (hS.go hb) hbl hhl hfl false hJ);clear h0 hV hvc hvn hS hbl hhl hfl hJ;go_enter Tryz.func19,Tryz.ntmps19;go_upto_region 1 with fail
 generalize((w.alloc (.D (iZ key) 22)).alloc (.D c.ay 29)).alloc (.D X.ay 37)=w0 at Z0 ⊢;obtain⟨x1,x2,x3,x4⟩:=Z0.i.b1.K;obtain⟨y1,y2,y3,y4⟩:=Z0.i.X.K;go_wp2_with (go_at_call 15;(with_reducible refine(CR.i _ Z0.i.R).g ?_);rintro e w1 ⟨rfl,hb1⟩;have Z1:=ab (Z0.i.go hb1);clear hb1);go_ret2;exact⟨rfl,Z1.i.R⟩
theorem Xa(key:Vector UInt8 16)(c:Cn)(vs:List Vp)(X:Sh)(s:oM)(w:ak)(hV:iR Vp.ay 20 w w.a.j c.qH c.iI vs)(hvc:c.iI<=c.qI)(hvn:c.iI<=100000)(hS:StR w w.a.j X s)(hJ:zm c vs s=true):
 aQ ah 19 #[.d (iZ key),.d c.ay,.d X.ay] w (NC w key c vs s):=by
 have hi:=afB key hJ hS.rE;have ajF:=hi.few;have hlen:=hi.fl.len;obtain⟨_,⟨hr1,hr2⟩,_⟩:=sP hi.cn;simp only at hlen hr1 hr2;have h0:=(((Bx.start w).new (iZ key) 22).new c.ay 29).new X.ay 37;rw[show((w.alloc (.D (iZ key) 22)).alloc (.D c.ay 29)).a.j=w.a.j+2 by simp,show(w.alloc (.D (iZ key) 22)).a.j=w.a.j+1 by simp]at h0;have Z0:=ab h0;have CR:=ab (fun w1 (hb:aM w.a.j w w1)=>Jc c vs X s w1 (hV.go hb) hvc hvn (hS.go hb) (by omega) (by omega) (by omega) true hJ);have HI:=ab hi;have HS:=ab hS;have HV:=ab hV;have HVN:=ab hvn;have HFW:=ab ajF;have HRM:=ab (show(1<=c.Y/\c.Y<=4096)/\s.G.a<=4096 by omega);clear h0 hV hvc hvn hS hJ hi ajF hlen hr1 hr2;go_enter Tryz.func19,Tryz.ntmps19;go_upto_region 1 with fail
 have SZ0:=ab (show w.a.j+2<(((w.alloc (.D (iZ key) 22)).alloc (.D c.ay 29)).alloc (.D X.ay 37)).a.j by simp);generalize((w.alloc (.D (iZ key) 22)).alloc (.D c.ay 29)).alloc (.D X.ay 37)=w0 at Z0 SZ0 ⊢;rw[show w.a.j+1+1=w.a.j+2 from rfl];obtain⟨x1,x2,x3,x4⟩:=Z0.i.b1.K;obtain⟨y1,y2,y3,y4⟩:=Z0.i.X.K;go_upto_region 3 with(go_at_call 15;(with_reducible refine(CR.i _ Z0.i.R).g ?_);rintro e w1 ⟨rfl,hb1⟩;have Z1:=ab (Z0.i.go hb1);have SZ1:=ab (eO SZ0.i hb1.j);clear hb1)
 clear x1 x2 x3 x4 y1 y2 y3 y4;have KS:=ab (fun(w':ak) (h:Bx [(w.a.j+2,X.ay),(w.a.j+1,c.ay),(w.a.j,iZ key)] w w')=>show w'.rangeAt w.a.j 0 (key.a.map bv)/\(yH 29 (.c (some ⟨w.a.j+1,0,none⟩))).I ah w'=.ok (.d c.ay) w'/\(yH 32 (.c (some ⟨w.a.j+2,0,none⟩))).I ah w'=.ok (.d (Pc.mk X.mQ X.b.A X.b.n X.b.c).ay) w'/\w'.b ⟨w.a.j+2,2,none⟩=some (.a X.h.A X.h.n X.h.c)/\w'.b ⟨w.a.j+2,4,none⟩=some (.b .a X.gL)/\w'.b ⟨w.a.j+2,5,none⟩=some (.b .a X.no)/\w'.rangeAt (w.a.j+2) 6 (X.Y.a.map (aI .a))by
  refine⟨anv h.b2,NI.lU h.b1 (Cn.G _),kPc.Di h.X 0 (Sh.Mv X) (by rw[Sh.G];omega),(h.X.K.1 2).trans (Sh.Xd X),(h.X.K.1 4).trans (Sh.alB X),(h.X.K.1 5).trans (Sh.alC X),?_⟩;exact adJ (o:=6) h.X (fun j hj=>anw X j (by simpa using hj)))
 have CH:=ab (fun(w1:ak) (hb:aM w.a.j w w1)=>KT s.h X.h.A X.h.n X.h.c w1 (HS.i.h.go hb) (by have:=HS.i.h.1;have:=HFW.i;omega));unfold ClP at CH;have hU:=qg;have hI:(ah.info? 22).map (·.j)=some (key.a.map bv).a:=by rw[bT,nI];kernel_rfl
 have hU2:=EH;have hI2:(ah.info? 35).map (·.j)=some (X.Y.a.map (aI .a)).a:=by rw[bT,nI];kernel_rfl
 refine wp_region_held_drew (S:=(fun w'=>w'.rangeAt w.a.j 0 (key.a.map bv)/\(yH 29 (.c (some ⟨w.a.j+1,0,none⟩))).I ah w'=.ok (.d c.ay) w'/\(yH 32 (.c (some ⟨w.a.j+2,0,none⟩))).I ah w'=.ok (.d (Pc.mk X.mQ X.b.A X.b.n X.b.c).ay) w'/\w'.b ⟨w.a.j+2,2,none⟩=some (.a X.h.A X.h.n X.h.c)/\w'.b ⟨w.a.j+2,4,none⟩=some (.b .a X.gL)/\w'.b ⟨w.a.j+2,5,none⟩=some (.b .a X.no)/\w'.rangeAt (w.a.j+2) 6 (X.Y.a.map (aI .a)))) (by kernel_rfl) ?_ (fun hHeld=>?_)
 ·exact KS.i _ Z1.i.drew
 refine oZ (i:=0) rfl (by kernel_rfl) (by kernel_rfl) (by kernel_rfl) (fun _ _ _ h=>h) (yieldsIf_load_mid (by rfl) 22 (.a 3) rfl (w.a.j) 0 rfl (key.a.map bv) _ (fun w' h=>h.1) hU rfl hI) (by assumption) ?_
 try simp only[lJ,bH,bM,bG]
 refine oZ (i:=11) (v:=?_) rfl (by kernel_rfl) (by kernel_rfl) (by kernel_rfl) (fun _ _ _ h=>h) (BU ⟨by rfl,?_⟩) (by assumption) ?_;rotate_left
 ·intro w' hSw
  try dsimp only at hSw
  go_simp
  try with_reducible rfl
 try simp only[lJ,bH,bM,bG]
 refine oZ (i:=12) rfl (by kernel_rfl) (by kernel_rfl) (by kernel_rfl) (fun _ _ _ h=>h) (yieldsIf_load_mid (by rfl) 35 (.a 26) rfl (w.a.j+2) 6 rfl (X.Y.a.map (aI .a)) _ (fun w' h=>h.2.2.2.2.2.2) hU2 rfl hI2) (by assumption) ?_
 try simp only[lJ,bH,bM,bG]
 refine oZ (i:=4) (v:=?_) rfl (by kernel_rfl) (by kernel_rfl) (by kernel_rfl) (fun _ _ _ h=>h) (BU ⟨by rfl,?_⟩) (by assumption) ?_;rotate_left
 ·intro w' hSw
  try dsimp only at hSw
  go_simp
  try with_reducible rfl
 try simp only[lJ,bH,bM,bG]
 refine oZ (i:=5) (v:=?_) rfl (by kernel_rfl) (by kernel_rfl) (by kernel_rfl) (fun _ _ _ h=>h) (BU ⟨by rfl,?_⟩) (by assumption) ?_;rotate_left
 ·intro w' hSw
  try dsimp only at hSw
  go_simp
  try with_reducible rfl
 try simp only[lJ,bH,bM,bG]
 refine oZ (i:=7) (v:=?_) rfl (by kernel_rfl) (by kernel_rfl) (by kernel_rfl) (fun _ _ _ h=>h) (BU ⟨by rfl,?_⟩) (by assumption) ?_;rotate_left
 ·intro w' hSw
  try dsimp only at hSw
  go_simp
  try with_reducible rfl
 try simp only[lJ,bH,bM,bG]
 refine oZ (i:=8) (v:=?_) rfl (by kernel_rfl) (by kernel_rfl) (by kernel_rfl) (fun _ _ _ h=>h) (BU ⟨by rfl,?_⟩) (by assumption) ?_;rotate_left
 ·intro w' hSw
  try dsimp only at hSw
  go_simp
  try with_reducible rfl
 try simp only[lJ,bH,bM,bG]
 refine oZ (i:=9) (v:=?_) rfl (by kernel_rfl) (by kernel_rfl) (by kernel_rfl) (fun _ _ _ h=>h) (BU ⟨by rfl,?_⟩) (by assumption) ?_;rotate_left
 ·intro w' hSw
  try dsimp only at hSw
  go_simp
  try with_reducible rfl
 try simp only[lJ,bH,bM,bG]
 refine oZ (i:=10) (v:=?_) rfl (by kernel_rfl) (by kernel_rfl) (by kernel_rfl) (fun _ _ _ h=>h) (BU ⟨by rfl,?_⟩) (by assumption) ?_;rotate_left
 ·intro w' hSw
  try dsimp only at hSw
  go_simp
  try with_reducible rfl
 try simp only[lJ,bH,bM,bG]
 refine oZ (i:=2) (v:=?_) rfl (by kernel_rfl) (by kernel_rfl) (by kernel_rfl) (fun _ _ _ h=>h) (BU ⟨by rfl,?_⟩) (by assumption) ?_;rotate_left
 ·intro w' hSw
  try dsimp only at hSw
  go_simp
  try with_reducible rfl
 try simp only[lJ,bH,bM,bG]
 refine oZ (i:=1) (v:=.d c.ay) rfl (by kernel_rfl) (by kernel_rfl) (by kernel_rfl) (fun _ _ _ h=>h) (BU ⟨by rfl,fun w' hSw=>?_⟩) (by assumption) ?_
 ·have hrun:=hSw.2.1
  clear hSw;go_simp
 try simp only[lJ,bH,bM,bG]
 refine oZ (i:=3) (v:=.d (Pc.mk X.mQ X.b.A X.b.n X.b.c).ay) rfl (by kernel_rfl) (by kernel_rfl) (by kernel_rfl) (fun _ _ _ h=>h) (BU ⟨by rfl,fun w' hSw=>?_⟩) (by assumption) ?_
 ·have hrun:=hSw.2.2.1
  clear hSw;go_simp
 try simp only[lJ,bH,bM,bG]
 refine wpAnyH_ready (rs:=[6]) (by kernel_rfl) (by simp) ?_;refine AllReadyH.cons rfl (fun K hK=>?_) AllReadyH.nil;go_simp;go_wp2_with (go_at_call 59;(with_reducible refine(CH.i _ Z1.i.drew.R).g ?_);rintro r w2 ⟨A1,c1,rfl,ho,hb⟩;have Z2:=ab (Z1.i.drew.go hb);have O2:=ab ho;have SZ2:=ab (show w1.a.j<=w2.a.j from hb.j);clear ho hb);clear hHeld;refine hK.i _ _ (KS.i _ Z2.i) (fun hHeld=>?_);clear hK K
 try simp only[lJ,bH,bM,bG]
 refine oZ (i:=13) (v:=?_) rfl (by kernel_rfl) (by kernel_rfl) (by kernel_rfl) (fun _ _ _ h=>h) (BU ⟨by rfl,?_⟩) (by assumption) ?_;rotate_left
 ·intro w' hSw
  try dsimp only at hSw
  go_simp
  try with_reducible rfl
 try simp only[lJ,bH,bM,bG]
 refine wpAnyH_ready (rs:=[14]) (by kernel_rfl) (by simp) ?_;refine AllReadyH.cons rfl (fun K hK=>?_) AllReadyH.nil;go_simp;clear hHeld;refine hK.i _ _ (KS.i _ (Z2.i.alloc _)) (fun hHeld=>?_);clear hK K;refine oZ (i:=15) (v:=?_) rfl (by kernel_rfl) (by kernel_rfl) (by kernel_rfl) (fun _ _ _ h=>h) (BU ⟨by rfl,?_⟩) (by assumption) ?_;rotate_left
 ·intro w' hSw
  try dsimp only at hSw
  go_simp
  try with_reducible rfl
 try simp only[lJ,bH,bM,bG]
 refine wpAnyH_done (by kernel_rfl) ?_ _;have ZE:=ab (Z2.i.new (Eg.mk key c ⟨X.mQ,X.b.A,X.b.n,X.b.c⟩ A1 X.h.n c1 none 0 0 none Co X.gL X.no X.Y).ay 123);have O3:=ab (vD O2.i (.D (Eg.mk key c ⟨X.mQ,X.b.A,X.b.n,X.b.c⟩ A1 X.h.n c1 none 0 0 none Co X.gL X.no X.Y).ay 123));have SZ3:=ab (show w2.a.j<(w2.alloc (.D (Eg.mk key c ⟨X.mQ,X.b.A,X.b.n,X.b.c⟩ A1 X.h.n c1 none 0 0 none Co X.gL X.no X.Y).ay 123)).a.j by simp);clear hHeld;go_upto_region 4 with fail
 generalize w2.alloc (.D (Eg.mk key c ⟨X.mQ,X.b.A,X.b.n,X.b.c⟩ A1 X.h.n c1 none 0 0 none Co X.gL X.no X.Y).ay 123)=w3 at ZE O3 SZ3 ⊢;have HQ:=ab (show w1.a.j<=w2.a.j from SZ2.i);have HF1:=ab (kK O2.i);have Rp:=ab (show w.a.j<=w1.a.j from Z1.i.R.j);clear SZ2 O2 Z2;generalize w2.a.j=q at ZE SZ3 HQ HF1 ⊢;clear KS CH hU hI hU2 hI2;have HNE:=ab (show∀p∈[(w.a.j+2,X.ay),(w.a.j+1,c.ay),(w.a.j,iZ key)],p.1≠q from fun p hp=>by
  have h1:=SZ1.i;have h2:=HQ.i;simp at hp;rcases hp with rfl|rfl|rfl<;>simp<;>omega)
 have CV:=ab (adG vs c.qH c.iI c.qI w3 (HV.i.go ZE.i.R) HVN.i);unfold auY at CV;have fv:=(ZE.i.b2.K.1 0).trans (Cn.JI c);go_upto_region 5 with(go_at_call 60;(with_reducible refine CV.i.g ?_);rintro r w4 ⟨A2,c2,rfl,ho,hb⟩;have g16:=(ZE.i.X.go hb).K.2.1 16;have f16:=((ZE.i.X.go hb).K.1 16).trans (Eg.JI _);have Z4:=ab (ZE.i.go hb);have O4:=ab ho;have B4:=ab hb;clear ho hb)
 have Z5:=ab (Z4.i.set HNE.i 16 (.a A2 c.iI c2));rw[Eg.MI]at Z5;have F5:=ab (show jD [q] w3 (w4.F ⟨q,16,none⟩ (.a A2 c.iI c2))from(jD.jm (F:=[q]) B4.i).set ⟨q,16,none⟩ _ (.a (by simp)));have F45:=ab (show jD [q] w4 (w4.F ⟨q,16,none⟩ (.a A2 c.iI c2))from(jD.refl [q] w4).set ⟨q,16,none⟩ _ (.a (by simp)));generalize w4.F ⟨q,16,none⟩ (.a A2 c.iI c2)=w5 at Z5 F5 F45 ⊢;clear g16 f16 fv CV;have O5:=ab (Gb O4.i F45.i SZ3.i);have HBN:=ab (show s.rZ.a=X.b.n from HS.i.b.1);have CB:=ab (xC s.rZ X.b.A X.b.c w5 (by have h1:=HS.i.b.go Z5.i.R;rw[<-HBN.i]at h1;exact h1) (by have:=HFW.i;omega));unfold Zx at CB;rw[HBN.i]at CB;have fb:=(Z5.i.b1.K.1 1).trans (Sh.DY X);go_upto_region 6 with(go_at_call 61;(with_reducible refine CB.i.g ?_);rintro r w6 ⟨A3,c3,rfl,ho,hb⟩;have g71:=(Z5.i.X.go hb).K.2.1 71;have f71:=((Z5.i.X.go hb).K.1 71).trans (Eg.amX _);have Z6:=ab (Z5.i.go hb);have O6:=ab ho;have B6:=ab hb;clear ho hb)
 have Z7:=ab (Z6.i.set HNE.i 71 (.a A3 X.b.n c3));rw[Eg.aho]at Z7;have F7:=ab (show jD [q] w5 (w6.F ⟨q,71,none⟩ (.a A3 X.b.n c3))from(jD.jm (F:=[q]) B6.i).set ⟨q,71,none⟩ _ (.a (by simp)));have F67:=ab (show jD [q] w6 (w6.F ⟨q,71,none⟩ (.a A3 X.b.n c3))from(jD.refl [q] w6).set ⟨q,71,none⟩ _ (.a (by simp)));generalize w6.F ⟨q,71,none⟩ (.a A3 X.b.n c3)=w7 at Z7 F7 F67 ⊢;clear g71 f71 fb CB;have O7:=ab (Gb O6.i F67.i (eO SZ3.i F5.i.j));have CF:=ab (ajq key c.Y.e (by have:=HRM.i;omega) (by have:=HRM.i;omega) w7);rw[show((c.Y.e:Nat):Int)=c.Y from Int.toNat_of_nonneg (by have:=HRM.i;omega)]at CF;unfold arK at CF;have lk:=VE.lU Z7.i.b3 (dK _);have fr:=(Z7.i.b2.K.1 2).trans (Cn.Rw c);go_upto_region 7 with(go_at_call 62;(with_reducible refine CF.i.g ?_);rintro r w8 ⟨q2,g,sl,rfl,ht,hrm,hq2,hg,hb⟩;have g74:=(Z7.i.X.go hb).K.2.1 74;have f74:=((Z7.i.X.go hb).K.1 74).trans (Eg.YD _);have Z8:=ab (Z7.i.go hb);have T8:=ab ht;have HQ2:=ab hq2;have HG:=ab hg;have RM:=ab hrm;have B8:=ab hb;clear ht hq2 hg hrm hb)
 have Z9:=ab (Z8.i.set HNE.i 74 (adw (some q2)));rw[Eg.auG]at Z9;change Hid (Bx _ w (w8.F ⟨q,74,none⟩ (.c (some ⟨q2,0,none⟩))))at Z9;have F9:=ab (show jD [q] w8 (w8.F ⟨q,74,none⟩ (.c (some ⟨q2,0,none⟩)))from(jD.refl [q] w8).set ⟨q,74,none⟩ _ (.a (by simp)));generalize w8.F ⟨q,74,none⟩ (.c (some ⟨q2,0,none⟩))=w9 at Z9 F9 ⊢;clear g74 f74 fr lk CF;obtain⟨x9,hx9,zx⟩:∃x9:Eg,x9=Eg.mk key {c with qH:=A2,iI:=c.iI,qI:=c2} ⟨X.mQ,A3,X.b.n,c3⟩ A1 X.h.n c1 none 0 0 (some q2) Co X.gL X.no X.Y/\Bx ((q,x9.ay)::[(w.a.j+2,X.ay),(w.a.j+1,c.ay),(w.a.j,iZ key)]) w w9:=⟨_,rfl,Z9.i⟩
 have HX9:=ab hx9;have ZX:=ab zx;clear hx9 zx Z9;have G79:=ab (show jD [q] w7 w9 from(jD.jm (F:=[q]) B8.i).pQ F9.i);have G59:=ab (F7.i.pQ G79.i);have G39:=ab (F5.i.pQ G59.i);have SS:=ab (show w.a.j<=w1.a.j/\w1.a.j<=q/\q<w3.a.j/\w3.a.j<=w4.a.j/\w4.a.j<=w5.a.j/\w5.a.j<=w6.a.j/\w6.a.j<=w7.a.j/\w7.a.j<=w8.a.j/\w8.a.j<=w9.a.j/\w7.a.j<=q2/\w7.a.j<=g/\q2<w8.a.j/\g<w8.a.j from⟨Rp.i,HQ.i,SZ3.i,B4.i.j,F45.i.j,B6.i.j,F67.i.j,B8.i.j,F9.i.j,HQ2.i,HG.i,T8.i.w.lt.1,T8.i.w.lt.2⟩);have HR9:=ab (show∀b∈qA x9,(w.a.j<=b/\b<w9.a.j)/\b≠q/\b≠q2/\b≠g from fun b hb=>by
  have hss:=SS.i;rw[HX9.i]at hb;rcases dR.1 hb with hb|hb|hb|hb|hb|hb
  ·have:=kK O4.i b hb;omega
  ·have:=kK O6.i b hb;omega
  ·have:=HF1.i b hb;have h2:w1.drew.a.j=w1.a.j:=rfl;omega
  ·cases hb
  ·cases hb
  ·cases hb)
 have E9:=ab (show Lj w9 q ⟨key,c,vs⟩ {s with G:=[]} x9 q2 g sl by
  have hss:=SS.i;have h4:=kK O4.i;have h6:=kK O6.i;have h1:=HF1.i;have h2:w1.drew.a.j=w1.a.j:=rfl;refine⟨ZX.i.X,by rw[HX9.i],by rw[HX9.i],by rw[HX9.i];exact HS.i.mQ,?_,?_,?_,by rw[HX9.i],T8.i.keep F9.i (by simp;omega) (by simp;omega),RM.i,by omega,fun b hb=>by have:=HR9.i b hb;omega,by rw[HX9.i];exact HS.i.gL,by rw[HX9.i];exact HS.i.no,by rw[HX9.i];exact HS.i.Y⟩
  ·rw[HX9.i]
   exact(iR.iY HV.i.1 O5.i).keep G59.i (fun b hb=>by have:=h4 b hb;simp;omega)
  ·rw[HX9.i]
   exact(iR.iY HBN.i O7.i).keep G79.i (fun b hb=>by have:=h6 b hb;simp;omega)
  ·rw[HX9.i]
   exact(iR.iY HS.i.h.1 O3.i).keep G39.i (fun b hb=>by have:=h1 b hb;simp;omega))
 clear O3 O5 O7 O4 O6 G39 G59 G79 F5 F45 F7 F67 F9 B4 B6 B8 HF1 Rp HQ HQ2 HG RM T8 Z7 Z8 Z6 Z5 Z4 ZE;have ff:=(ZX.i.b1.K.1 3).trans (Sh.agz X);have HFN:=ab (show s.G.a=X.f.n from HS.i.f.1);go_wp2;clear ff;go_loopw [58] (fun s58 wr=>∃(k:Nat)(sl':List (Option Fw)),k<=X.f.n/\s58=.b .a k/\J8 wr q2 g key c.Y sl' (s.G.d k)/\sl'.a=sl.a/\jD [q2,g] w9 wr) (fun s58 _=>X.f.n-(intOf s58).e)
 case atStart=>exact⟨0,sl,by omega,rfl,by have:=E9.i.tb;exact this,rfl,jD.refl _ _⟩
 case round=>
  obtain⟨k,sl',hkn,rfl,ht,hsl,hf⟩:=hrel;have HT:=ab ht;have HSL:=ab hsl;have HF:=ab hf;have BW:=ab (show aM w.a.j w wr from ZX.i.R.trans (hf.sK (fun b hb=>by have:=SS.i;simp at hb;omega) ZX.i.R.j));have EB:=ab (show Lj wr q ⟨key,c,vs⟩ {s with G:=s.G.d k} x9 q2 g sl' from E9.i.qU hf ht hsl);clear ht hsl hf;have hfs:X.f.n<=4096:=by have:=HRM.i;have:=HFN.i;omega
  by_cases hkt:k<X.f.n
  ·have hlt2:(k:Int)<X.f.n:=by omega
   have RF:=ab (show iR Fw.ay 41 wr wr.a.j X.f.A X.f.n s.G from HS.i.f.go BW.i);obtain⟨b,o,hA,hbl,hh,hcl⟩:=iR.fw RF.i hkt;have HPN:=ab (amw (k:=k) HI.i.fl (show k<s.G.a by rw[HFN.i];exact hkt));simp only at HPN;obtain⟨y,hy⟩:=tV (s.G.c k kN);have HYN:=ab (show y.E.a<=1000000 by
    have:=HI.i.fl.ok y (by rw[<-hy];exact AX kN s.G k (by rw[HFN.i];exact hkt));unfold zR uO at this;simp only[bf,decide_eq_true_eq]at this;omega)
   rw[hy]at hcl HPN;have EY:=ab (EB.i.go ((aG _ _).alloc (av _) (.D y.ay 86)));have BY:=ab (dL.new wr y.ay 86);have FY:=ab (HF.i.alloc (.D y.ay 86));have SY:=ab (show w9.a.j<=wr.a.j from HF.i.j);rw[hA];go_upto_region 10 with fail
   generalize wr.alloc (.D y.ay 86)=w11 at EY BY FY ⊢;have HPY:=ab (show wr.a.j∉[q2,g]by have:=SS.i;have:=SY.i;simp;omega);have KP:=ab (fun(w':ak) (h0:dL w' wr.a.j y.ay) (h1:dL w' q x9.ay)=>show(Oy (.c (some ⟨wr.a.j,0,none⟩))).I ah w'=.ok (.d y.ay) w'/\w'.b ⟨q,74,none⟩=some (.c (some ⟨q2,0,none⟩))from⟨kH h0,by rw[h1.K.1 74,Eg.YD,E9.i.fl];rfl⟩);have CU:=ab (Yy (EY.i.go (iB _)).tb (by have:=HRM.i;exact this.1.1) (EY.i.go (iB _)).rm y HYN.i);unfold afR at CU;have HQN:=ab (show q∉[q2,g]by have:=SS.i;simp;omega);clear hh hcl hbl hy;go_region_held_law (fun w'=>(Oy (.c (some ⟨wr.a.j,0,none⟩))).I ah w'=.ok (.d y.ay) w'/\w'.b ⟨q,74,none⟩=some (.c (some ⟨q2,0,none⟩)))
    (first|exact KP.i _ BY.i.drew (EY.i.go (iB _)).eg|exact KP.i _ (F12.i.box BY.i.drew HPY.i) (F12.i.box (EY.i.go (iB _)).eg HQN.i)|go_keep)
    (first|(go_at_call 63;(with_reducible refine CU.i.g ?_);rintro r w12 ⟨rfl,⟨sl2,ht2,hl2⟩,hf2⟩;have F12:=ab hf2;have T12:=ab ht2;have L12:=ab hl2;clear hf2 ht2 hl2))
   go_wp2;go_roundw
   case rel=>exact⟨k+1,sl2,by omega,by go_num,by have:=T12.i;rw[HPN.i]at this;exact this,by rw[L12.i];exact HSL.i,(FY.i.drewN 1).pQ F12.i⟩
   case measure=>simp[intOf]<;>omega
  ·obtain rfl:k=X.f.n:=by omega
   have hnl:¬((X.f.n:Nat):Int)<X.f.n:=by omega
   have EB2:=ab (show Lj wr q ⟨key,c,vs⟩ s x9 q2 g sl' by
    have:=EB.i;rw[List.take_of_length_le (by have:=HFN.i;omega)]at this;exact this)
   have CB:=ab (Ja EB2.i HI.i);unfold aa0 at CB;clear hkt;go_wp2_with (go_at_call 64;(with_reducible refine CB.i.g ?_);rintro r w13 ⟨rfl,⟨x',hE,hrw⟩,hf⟩;have HE:=ab hE;have HRW:=ab hrw;have HFB:=ab hf;clear hE hrw hf);go_ret2;have hss:=SS.i;have hsw:=BW.i.j;exact⟨q,x',q2,g,sl',rfl,HE.i,BW.i.trans (HFB.i.sK (fun b hb=>by simp at hb;omega) hsw),by omega,fun b hb=>by
    rcases HRW.i b hb with h|h
    ·exact(HR9.i b h).1.1
    ·omega⟩
section
theorem aht(W:ak):StR W W.a.j IC xB:=⟨rfl,iR.nil _ _,iR.nil _ _,iR.nil _ _,rfl,rfl,rfl,(fun y hy=>by cases hy),(fun y hy=>by cases hy),(fun y hy=>by cases hy),by simp[IC,C9],by simp[IC,C9],by simp[IC,C9]⟩
theorem NC.aEr{w w1:ak}{key:Vector UInt8 16}{c:Cn}{vs:List Vp}{s:oM}{r:kZ}{W':ak}(h:NC w1 key c vs s r W')(hb:aM w.a.j w w1):NC w key c vs s r W':=by
 obtain⟨q,x,q2,g,sl,h1,h2,h3,h4,h5⟩:=h;have:=hb.j;exact⟨q,x,q2,g,sl,h1,h2,hb.trans (h3.g hb.j),by omega,fun b hm=>by have:=h5 b hm;omega⟩
theorem ajR{c:Cn}{vs:List Vp}(h:xZ c vs=true):zm c vs xB=true:=(JN (bF 16 0) h).right (by omega)
theorem YJ(key:Vector UInt8 16)(c:Cn)(vs:List Vp)(w:ak)(hV:iR Vp.ay 20 w w.a.j c.qH c.iI vs)(hvc:c.iI<=c.qI)(hvn:c.iI<=100000)(hJ:xZ c vs=true):
 aQ ah 23 #[.d (iZ key),.d c.ay] w (NC w key c vs xB):=by
 have h0:=((Bx.start w).new (iZ key) 22).new c.ay 29;rw[show(w.alloc (.D (iZ key) 22)).a.j=w.a.j+1 by simp]at h0;have Z0:=ab h0;have CR:=ab (fun w1 (hb:aM w.a.j w w1)=>Xa key c vs IC xB w1 (hV.go hb) hvc hvn (aht w1) (ajR hJ));clear h0 hV hvc hvn hJ;go_enter Tryz.func23,Tryz.ntmps23;go_upto_region 1 with fail
 generalize(w.alloc (.D (iZ key) 22)).alloc (.D c.ay 29)=w0 at Z0 ⊢;have l1:=VE.lU Z0.i.b1 (dK _);have l2:=NI.lU Z0.i.X (Cn.G _);go_wp2_with (go_at_call 19;(with_reducible refine(CR.i _ Z0.i.R).g ?_);rintro e w1 ⟨q,x,q2,g,sl,rfl,h2,h3,h4,h5⟩;have H:=ab (show NC w key c vs xB (.a (.J #[.c (some ⟨q,0,none⟩),.b .a 0])) w1 from NC.aEr ⟨q,x,q2,g,sl,rfl,h2,h3,h4,h5⟩ Z0.i.R);clear h2 h3 h4 h5);go_ret2;exact H.i
theorem anA(key:Vector UInt8 16)(c:Cn)(vs:List Vp)(w:ak)(hV:iR Vp.ay 20 w w.a.j c.qH c.iI vs)(hvc:c.iI<=c.qI)(hvn:c.iI<=100000)(hJ:xZ c vs=false):
 aQ ah 23 #[.d (iZ key),.d c.ay] w (gU w (.J #[.c none,.b .a 1])):=by
 have h0:=((Bx.start w).new (iZ key) 22).new c.ay 29;rw[show(w.alloc (.D (iZ key) 22)).a.j=w.a.j+1 by simp]at h0;have Z0:=ab h0;have CR:=ab (fun w1 (hb:aM w.a.j w w1)=>aa8 key c vs IC xB w1 (hV.go hb) hvc hvn (aht w1) (by simp[xB]) (by simp[xB]) (by simp[xB]) (by unfold zm Vu;rw[hJ];rfl));clear h0 hV hvc hvn hJ;go_enter Tryz.func23,Tryz.ntmps23;go_upto_region 1 with fail
 generalize(w.alloc (.D (iZ key) 22)).alloc (.D c.ay 29)=w0 at Z0 ⊢;have l1:=VE.lU Z0.i.b1 (dK _);have l2:=NI.lU Z0.i.X (Cn.G _);go_wp2_with (go_at_call 19;(with_reducible refine(CR.i _ Z0.i.R).g ?_);rintro e w1 ⟨rfl,hb1⟩;have Z1:=ab (Z0.i.go hb1);clear hb1);go_ret2;exact⟨rfl,Z1.i.R⟩
structure TbO(B:Nat)(W:ak)(X:Tc)(t:Tl):Prop where
 nn:t.h.a=X.ru
 n:W.c B 9 1 (.a X.sS X.ru X.BI) X.ru (t.h.h fun y=>(txA y).a)
 sn:t.uG.a=X.pU
 s:W.c B 3 1 (.a X.qM X.pU X.yh) X.pU (t.uG.h fun y=>(FC y).a)
def azo(W:ak)(t:Tl)(r:kZ)(W':ak):Prop:=∃X:Tc,r=.a (.d X.ay)/\TbO W.a.j W' X t/\aM W.a.j W W'
theorem TlR.aEs{W:ak}{A1 A2:Option aT}{n1 n2:Nat}{t:Tl}(h:TlR W A1 n1 A2 n2 t):RdI W W.a.j A2 n2 t.uG:=by
 obtain⟨_,h2,h3⟩:=h;subst h2;rcases h3 with⟨h4,rfl⟩|⟨g,d,rfl,h4,h5⟩
 ·rw[bE h4];exact iR.nil _ _
 ·exact RdI.box h4 (fun j hj=>by rw[bl];exact h5 j hj)
theorem TlR.texts{W:ak}{A1 A2:Option aT}{n1 n2:Nat}{t:Tl}(h:TlR W A1 n1 A2 n2 t):RdT W W.a.j A1 n1 t.h:=h.1
variable {W W':ak} {q:Nat} {e:En} {s:oM} {x:Eg} {q2 g:Nat} {sl:List (Option Fw)}
theorem agc(t:Tl)(hE:dL W q x.ay)(hT:RdT W W.a.j x.tb.sS x.tb.ru t.h)(hI:RdI W W.a.j x.tb.qM x.tb.pU t.uG)(hn:t.h.a<=100000)(hs:t.uG.a<=100000):aQ ah 31 #[.c (some ⟨q,0,none⟩)] W (azo W t):=by
 have Z0:=ab ((Bx.start W).new Co.ay 72);have HE:=ab hE;have HT:=ab hT;have HI:=ab hI;have HN:=ab (show t.h.a=x.tb.ru/\t.uG.a=x.tb.pU from⟨hT.1,hI.1⟩);have HS:=ab (show x.tb.ru<=100000/\x.tb.pU<=100000 by rw[<-HN.i.1,<-HN.i.2];exact⟨hn,hs⟩);clear hE hT hI hn hs;go_enter Tryz.func31,Tryz.ntmps31;go_upto_region 1 with fail
 have SZ0:=ab (show W.a.j<(W.alloc (.D Co.ay 72)).a.j by simp);generalize W.alloc (.D Co.ay 72)=w0 at Z0 SZ0 ⊢;have KS:=ab (fun(w':ak) (h1:dL w' q x.ay)=>show w'.b ⟨q,75,none⟩=some (.a x.tb.sS x.tb.ru x.tb.BI)/\w'.b ⟨q,76,none⟩=some (.a x.tb.qM x.tb.pU x.tb.yh)from⟨(h1.K.1 75).trans (Eg.Ez x),(h1.K.1 76).trans (Eg.yj x)⟩);have CN:=ab (fun(w:ak) (hb:aM W.a.j W w)=>adF t.h x.tb.sS x.tb.ru x.tb.BI w (HT.i.go hb) HS.i.1);have CI:=ab (fun(w:ak) (hb:aM W.a.j W w)=>af9 t.uG x.tb.qM x.tb.pU x.tb.yh w (HI.i.go hb) HS.i.2);unfold anq at CN;unfold auX at CI;go_region_held_law (fun w'=>w'.b ⟨q,75,none⟩=some (.a x.tb.sS x.tb.ru x.tb.BI)/\w'.b ⟨q,76,none⟩=some (.a x.tb.qM x.tb.pU x.tb.yh))
  (first|exact KS.i _ (HE.i.go Z0.i.drew.R)|exact KS.i _ (HE.i.go Z1.i.R)|exact KS.i _ (HE.i.go Z2.i.R)|exact KS.i _ (HE.i.go Z3.i.R)|go_keep)
  (first
  | (go_at_call 88;(with_reducible refine(CN.i _ Z0.i.drew.R).g ?_);rintro r w1 ⟨A1,c1,rfl,ho,hb⟩;have Z1:=ab (Z0.i.drew.go hb);have O1:=ab ho;have S1:=ab (show w0.a.j<=w1.a.j from hb.j);clear ho hb)
  | (go_at_call 89;(with_reducible refine(CI.i _ Z1.i.R).g ?_);rintro r w2 ⟨A2,c2,rfl,ho,hb⟩;have Z2:=ab (Z1.i.go hb);have O2:=ab ho;have B2:=ab hb;have th:=Z2.i.X.O 0 2 (aX (Tc.G Co).symm);have Z3:=ab (show Bx [(W.a.j,(Tc.mk A1 x.tb.ru c1 A2 x.tb.pU c2).ay)] W (gN w2 W.a.j 0 (Tc.mk A1 x.tb.ru c1 A2 x.tb.pU c2).ay)from Z2.i.put (fun r hr=>by cases hr) _ (by rw[Tc.G,Tc.G]));clear ho hb))
 have FS:=ab (show jD [W.a.j] w2 (gN w2 W.a.j 0 (Tc.mk A1 x.tb.ru c1 A2 x.tb.pU c2).ay)from yx w2 W.a.j 0 _);have hs0:=SZ0.i;have hs1:=S1.i;go_wp2_with fail;refine aN (kTc.zh rfl _ rfl Z3.i.X (Tc.G _)) rfl ?_;refine⟨_,rfl,⟨HN.i.1,?_,HN.i.2,?_⟩,Z3.i.R⟩
 ·exact iH (Gb (jq O1.i B2.i) FS.i (by simp;omega)) (by simp;omega)
 ·exact iH (Gb O2.i FS.i (by omega)) (by omega)
end
section
open Go.ChangeShapes Go.WideShapes Go.ChangeAt Go.RowKit Go.Deep
def bA(b:UInt8):Array aB:=#[bv b]
theorem au3(l:List UInt8):(l.h fun x=>(bA x).a)=l.map bv:=by
 induction l with
 | nil=>rfl
 | cons a l ih=>rw[List.flatMap_cons,kI,ih];rfl
def anB:Ac:=⟨0,[],⟨0,jk,[],0⟩,[],false⟩
def qd:At:=⟨0,none,0,0,⟨0,jk,[],0⟩,[],false⟩
theorem Qr{α:Type}(d:α)(P:Nat->α->Prop):∀n:Nat,(∀i,i<n->∃u,P i u)->∃us:List α,us.a=n/\∀i,i<n->P i (us.c i d)
 | 0,_=>⟨[],rfl,fun i h=>by omega⟩
 | n+1,h=>by
   obtain⟨us,h1,h2⟩:=Qr d P n (fun i hi=>h i (by omega));obtain⟨u,hu⟩:=h n (by omega);refine⟨us++[u],by simp[h1],fun i hi=>?_⟩;rcases aZ i n with h3|h3
   ·rw[au,List.getElem?_append_left (by omega),<-au];exact h2 i h3
   ·obtain rfl:i=n:=by omega
    rw[au,List.getElem?_append_right (by omega),h1,Nat.sub_self];exact hu
structure AtO(W:ak)(a:At)(u:Ac):Prop where
 kind:a.kind=u.kind
 fr:fP W W.a.j a.Wn a.NA u.frame
 Ll:a.NA<=a.Ll/\a.Ll<=9223372036854775807
 op:a.op=u.op
 E:a.E=u.E
 h:a.h=u.h
 GH:u.op.GH
theorem AtO.r{W:ak}{a:At}{u:Ac}(h:AtO W a u)(hn:a.NA<=1000000):AtR W a u:=⟨h.kind,h.fr,⟨h.Ll.1,h.Ll.2,hn⟩,h.op,h.E,h.h⟩
theorem AtR.go{W W':ak}{a:At}{u:Ac}(h:AtR W a u)(hb:aM W.a.j W W'):AtR W' a u:=⟨h.kind,h.fr.upon hb,h.Ll,h.op,h.E,h.h⟩
section
variable {H:Type} {enc:bK×aB->H} {w:ak} {base:Nat} {held:Bool} {fuel:Nat} {cs:List aB} {x:DataW H×List MemPlace}
theorem aqB(h:lT enc ah w base (fun _=>true) held fuel 98 cs=some x):∃v:Vp,cs=v.ay.a/\True:=by
 obtain⟨xs,n,_,_,hl,hxl,hf⟩:=uM rY h;rw[show ah.cellsOf 98=20 by kernel_rfl]at hl;obtain⟨y0,h0⟩:=JY hxl hf 0 _ rfl;obtain⟨y1,h1⟩:=JY hxl hf 1 _ rfl;obtain⟨y2,h2⟩:=JY hxl hf 2 _ rfl;obtain⟨y3,h3⟩:=JY hxl hf 3 _ rfl;obtain⟨a,ha⟩:=Ml h0;obtain⟨p,hp,_,_⟩:=sG (by kernel_rfl) h1;obtain⟨q,hq,_,_⟩:=sG (by kernel_rfl) h2;obtain⟨t,ht,_⟩:=GZ (by kernel_rfl) h3;have c0:(cs.f 0).d 17=a.ay.a:=ha;have c1:(cs.f 17).d 1=[.b .a p]:=hp;have c2:(cs.f 18).d 1=[.b .a q]:=hq;have c3:(cs.f 19).d 1=[.e t]:=ht;refine⟨⟨a,p,q,t⟩,?_,trivial⟩;have e:=tu cs 0 17;rw[c0,tu cs (0+17) 1,c1,tu cs (0+17+1) 1,c2,tu cs (0+17+1+1) 1,c3,iQ (i:=0+17+1+1+1) (by omega)]at e;simpa[Vp.ay]using e
theorem aqC(h:lT enc ah w base (fun _=>true) held fuel 29 cs=some x):∃(c:Cn)(l:List Vp),cs=c.ay.a/\iR Vp.ay 20 w w.a.j c.qH c.iI l/\c.iI<=c.qI/\c.qI<=9223372036854775807:=by
 obtain⟨xs,n,_,_,hl,hxl,hf⟩:=uM mW h;rw[show ah.cellsOf 29=54 by kernel_rfl]at hl;obtain⟨y0,h0⟩:=JY hxl hf 0 _ rfl;obtain⟨y1,h1⟩:=JY hxl hf 1 _ rfl;obtain⟨y2,h2⟩:=JY hxl hf 2 _ rfl;obtain⟨y3,h3⟩:=JY hxl hf 3 _ rfl;obtain⟨y4,h4⟩:=JY hxl hf 4 _ rfl;obtain⟨y5,h5⟩:=JY hxl hf 5 _ rfl;obtain⟨y6,h6⟩:=JY hxl hf 6 _ rfl;obtain⟨y7,h7⟩:=JY hxl hf 7 _ rfl;obtain⟨y8,h8⟩:=JY hxl hf 8 _ rfl;obtain⟨y9,h9⟩:=JY hxl hf 9 _ rfl;obtain⟨y10,h10⟩:=JY hxl hf 10 _ rfl;obtain⟨y11,h11⟩:=JY hxl hf 11 _ rfl;obtain⟨A,k,c,l,hs,hnc,hc,hll,hrd,hsp,_⟩:=Js Vp.ay (fun _=>True) 20 Vp.G (by kernel_rfl:ah.underlying _=some (.a 98)) (by kernel_rfl) (by omega) (fun n cs y hy=>aqB hy) h0;obtain⟨z1,e1,_,_⟩:=sG (by kernel_rfl) h1;obtain⟨z2,e2,_,_⟩:=sG (by kernel_rfl) h2;obtain⟨z3,e3⟩:=aiT (k:=6) (e:=3) (by kernel_rfl) (by kernel_rfl) (by kernel_rfl) (by kernel_rfl) h3;obtain⟨z4,e4,_,_⟩:=sG (by kernel_rfl) h4;obtain⟨z5,e5,_,_⟩:=sG (by kernel_rfl) h5;obtain⟨z6,e6⟩:=LH (k:=6) (e:=5) (by kernel_rfl) (by kernel_rfl) (by kernel_rfl) (by kernel_rfl) h6;obtain⟨z7,e7⟩:=Ml h7;obtain⟨z8,e8⟩:=Ml h8;obtain⟨z9,e9,_,_⟩:=sG (by kernel_rfl) h9;obtain⟨za,ea,_,_⟩:=sG (by kernel_rfl) h10;obtain⟨zb,eb,_,_⟩:=sG (by kernel_rfl) h11;have c0:(cs.f 0).d 1=[.a A k c]:=hs;have c1:(cs.f 1).d 1=[.b .a z1]:=e1;have c2:(cs.f 2).d 1=[.b .a z2]:=e2;have c3:(cs.f 3).d 6=z3.a.map (aI .a):=e3;have c4:(cs.f 9).d 1=[.b .a z4]:=e4;have c5:(cs.f 10).d 1=[.b .a z5]:=e5;have c6:(cs.f 11).d 6=z6.a.map bv:=e6;have c7:(cs.f 17).d 17=z7.ay.a:=e7;have c8:(cs.f 34).d 17=z8.ay.a:=e8;have c9:(cs.f 51).d 1=[.b .a z9]:=e9;have ca:(cs.f 52).d 1=[.b .a za]:=ea;have cb:(cs.f 53).d 1=[.b .a zb]:=eb;refine⟨⟨A,k,c,z1,z2,z3,z4,z5,z6,z7,z8,z9,za,zb⟩,l,?_,⟨hll,hrd,hsp⟩,hnc,hc⟩;have e:=tu cs 0 1;rw[c0,tu cs (0+1) 1,c1,tu cs (0+1+1) 1,c2,tu cs (0+1+1+1) 6,c3,tu cs (0+1+1+1+6) 1,c4,tu cs (0+1+1+1+6+1) 1,c5,tu cs (0+1+1+1+6+1+1) 6,c6,tu cs (0+1+1+1+6+1+1+6) 17,c7,tu cs (0+1+1+1+6+1+1+6+17) 17,c8,tu cs (0+1+1+1+6+1+1+6+17+17) 1,c9,tu cs (0+1+1+1+6+1+1+6+17+17+1) 1,ca,tu cs (0+1+1+1+6+1+1+6+17+17+1+1) 1,cb,iQ (i:=0+1+1+1+6+1+1+6+17+17+1+1+1) (by omega)]at e;simpa[Cn.ay,J4,Ar]using e
theorem adK(h:lT enc ah w base (fun _=>true) held fuel 56 cs=some x):∃(A:Option aT)(n c:Nat)(l:List UInt8),cs=[.a A n c]/\fP w w.a.j A n l/\n<=c/\c<=9223372036854775807:=by
 obtain⟨A,n,c,l,hs,hnc,hc,hll,hrd,hsp,_⟩:=Js bA (fun _=>True) 1 (fun _=>rfl) cB (by kernel_rfl) (by omega) (fun n cs y hy=>by
  obtain⟨b,hb⟩:=agm lq hy;exact⟨b,hb,trivial⟩) h
 rw[au3]at hrd;exact⟨A,n,c,l,hs,hrd,hnc,hc⟩
theorem aqD(h:lT enc ah w base (fun _=>true) held fuel 66 cs=some x):∃a:At,cs=a.ay.a/\∃u:Ac,AtO w a u:=by
 obtain⟨xs,n,_,_,hl,hxl,hf⟩:=uM lI h;rw[show ah.cellsOf 66=34 by kernel_rfl]at hl;obtain⟨y0,h0⟩:=JY hxl hf 0 _ rfl;obtain⟨y1,h1⟩:=JY hxl hf 1 _ rfl;obtain⟨y2,h2⟩:=JY hxl hf 2 _ rfl;obtain⟨y3,h3⟩:=JY hxl hf 3 _ rfl;obtain⟨y4,h4⟩:=JY hxl hf 4 _ rfl;obtain⟨z0,e0,_,_⟩:=sG (by kernel_rfl) h0;obtain⟨A,k,c,l,e1,hR,hnc,hc⟩:=adK h1;obtain⟨z2,e2,hg⟩:=ace h2;obtain⟨z3,e3,_⟩:=Sv (by kernel_rfl) h3;obtain⟨z4,e4,_⟩:=GZ (by kernel_rfl) h4;have c0:(cs.f 0).d 1=[.b .a z0]:=e0;have c1:(cs.f 1).d 1=[.a A k c]:=e1;have c2:(cs.f 2).d 30=z2.ay.a:=e2;have c3:(cs.f 32).d 1=[.g (bU z3)]:=e3;have c4:(cs.f 33).d 1=[.e z4]:=e4;refine⟨⟨z0,A,k,c,z2,z3,z4⟩,?_,⟨z0,l,z2,z3,z4⟩,rfl,hR,⟨hnc,hc⟩,rfl,rfl,rfl,hg⟩;have e:=tu cs 0 1;rw[c0,tu cs (0+1) 1,c1,tu cs (0+1+1) 30,c2,tu cs (0+1+1+30) 1,c3,tu cs (0+1+1+30+1) 1,c4,iQ (i:=0+1+1+30+1+1) (by omega)]at e;simpa[At.ay]using e
end
section
variable {H:Type} {enc:bK×aB->H} {W:ak} {base:Nat} {v:aB} {d:DataW H} {ps:List MemPlace} {held:Bool}
theorem anC(hval:yO ah W .any base 22 v)(h:DataW.Trod enc ah W 0 (fun _=>true) held 22 v d ps):∃k:Vector UInt8 16,v=.d (iZ k):=by
 obtain⟨cs,rfl⟩:∃cs,v=.d cs:=by
  simp only[yO,qg]at hval;obtain⟨cs,h1,_⟩:=hval;exact⟨cs,h1⟩
 obtain⟨fuel,hf⟩:=h;obtain⟨k,hk⟩:=LH (k:=16) (e:=5) (by kernel_rfl) (by kernel_rfl) (by kernel_rfl) (by kernel_rfl) hf;have hc:cs.a=k.a.map bv:=hk;exact⟨k,by unfold iZ;rw[<-hc]⟩
theorem aqE(hval:yO ah W .any base 29 v)(h:DataW.Trod enc ah W 0 (fun _=>true) held 29 v d ps):∃(c:Cn)(l:List Vp),v=.d c.ay/\iR Vp.ay 20 W W.a.j c.qH c.iI l/\c.iI<=c.qI/\c.qI<=9223372036854775807:=by
 obtain⟨cs,rfl,_⟩:=okWide_struct mW hval;obtain⟨fuel,hf⟩:=h;obtain⟨c,l,hcs,hr⟩:=aqC hf;have hc:cs.a=c.ay.a:=hcs;exact⟨c,l,by rw[Gf.1 hc],hr⟩
theorem agd(hval:yO ah W .any base 56 v)(h:DataW.Trod enc ah W 0 (fun _=>true) held 56 v d ps):∃(A:Option aT)(n c:Nat)(l:List UInt8),v=.a A n c/\fP W W.a.j A n l/\n<=c/\c<=9223372036854775807:=by
 obtain⟨a0,len,cap,rfl⟩:=okWide_slice cB hval;obtain⟨fuel,hf⟩:=h;obtain⟨A,n,c,l,hs,hr⟩:=adK hf;simp only[bW,List.cons.injEq,Value.slice.injEq,and_true]at hs;obtain⟨rfl,rfl,rfl⟩:=hs;exact⟨a0,len,cap,l,rfl,hr⟩
theorem ajS(hval:yO ah W .any base 49 v)(h:DataW.Trod enc ah W 0 (fun _=>true) held 49 v d ps):
 ∃(A:Option aT)(n c:Nat)(l:List At)(us:List Ac),v=.a A n c/\iR At.ay 34 W W.a.j A n l/\us.a=n/\(∀i,i<n->AtO W (l.c i qd) (us.c i anB))/\n<=9223372036854775807:=by
 obtain⟨a0,len,cap,rfl⟩:=okWide_slice Tryz.underlying49 hval;obtain⟨fuel,hf⟩:=h;obtain⟨A,n,c,l,hs,hnc,hc,hll,hrd,hsp,hgd⟩:=Js At.ay (fun a=>∃u,AtO W a u) 34 At.G Tryz.underlying49 (by kernel_rfl) (by omega) (fun n cs y hy=>aqD hy) hf;simp only[bW,List.cons.injEq,Value.slice.injEq,and_true]at hs;obtain⟨rfl,rfl,rfl⟩:=hs;obtain⟨us,h1,h2⟩:=Qr anB (fun i u=>AtO W (l.c i qd) u) len (fun i hi=>hgd _ (by rw[au,aC (by omega),Option.getD_some];exact List.getElem_mem _));exact⟨a0,len,cap,l,us,rfl,⟨hll,hrd,hsp⟩,h1,h2,by omega⟩
end
end
structure OcR(W:ak)(o:Oc)(u:Ou):Prop where
 err:o.err=u.err
 gJ:o.gJ=u.gJ
 xS:o.xS=u.xS
 mQ:o.mQ=u.mQ
 E:o.E=u.E
 i:fP W W.a.j o.Ny o.V8 u.i
theorem OuR.rd{B:Nat}{W:ak}{o:Oc}{u:Ou}(h:OuR B W o u):OcR W o u:=⟨h.err,h.gJ,h.xS,h.mQ,h.E,fP.iY h.vC⟩
theorem OcR.go{W W':ak}{o:Oc}{u:Ou}(h:OcR W o u)(hb:aM W.a.j W W'):OcR W' o u:=⟨h.err,h.gJ,h.xS,h.mQ,h.E,h.i.upon hb⟩
theorem ajT(c:Cn)(w:ak):aQ ah 13 #[.d c.ay] w (gU w (.e (decide (c.iI<=20)&&decide (c.j<=260)))):=by
 have Z0:=ab ((Bx.start w).new c.ay 29);obtain⟨k1,h1⟩:∃k,decide (c.iI<=20)=k:=⟨_,rfl⟩
 obtain⟨k2,h2⟩:∃k,decide (c.j<=260)=k:=⟨_,rfl⟩
 have h1':decide ((c.iI:Int)<=20)=k1:=by rw[<-h1,decide_eq_decide];omega
 go_enter Tryz.func13,Tryz.ntmps13;go_upto_region 1 with fail
 generalize w.alloc (.D c.ay 29)=w1 at Z0 ⊢;obtain⟨x1,x2,x3,x4⟩:=Z0.i.X.K;cases k1
 ·go_wp2
  go_ret;exact⟨by rw[h1];rfl,Z0.i.R⟩
 cases k2
 ·go_wp2
  go_ret;exact⟨by rw[h1,h2];rfl,Z0.i.R⟩
 go_wp2;go_ret;exact⟨by rw[h1,h2];rfl,Z0.i.R⟩
def YK(a:At):Bool:=decide (a.NA<=1500)&&(decide (a.E.a<=60)&&(decide (a.op.E.a<=60)&&decide (a.op.h.E.a<=60)))
def Pj(l:List At):Bool:=decide (l.a<=60)&&(dV l.a).all fun i=>YK (l.c i qd)
theorem At.ar1(x:At)(j:Nat)(hj:j<30):x.ay[2+j]? = x.op.ay[j]?:=by
 have h:=At.arV x;have h2:(x.ay.extract 2 32)[j]? = x.op.ay[j]?:=by rw[h]
 rw[dx,if_pos (by rw[At.G];omega)]at h2;exact h2
theorem At.D{W:ak}{B n i:Nat}{A:Option aT}{l:List At}(h:iR At.ay 34 W B A n l)(hi:i<n):∃b o,A=some ⟨b,o,none⟩/\W.b ⟨b,o+i*34,none⟩=some (.b .a (l.c i qd).kind)/\W.b ⟨b,o+i*34+1,none⟩=some (.a (l.c i qd).Wn (l.c i qd).NA (l.c i qd).Ll)/\W.b ⟨b,o+i*34+32,none⟩=some (.g (bU (l.c i qd).E))/\W.b ⟨b,o+i*34+30,none⟩=some (.g (bU (l.c i qd).op.E))/\W.b ⟨b,o+i*34+3,none⟩=some (.g (bU (l.c i qd).op.h.E)):=by
 obtain⟨b,o,hA,_,hc⟩:=iR.cell At.G qd h hi;refine⟨b,o,hA,?_,(hc 1 (by omega)).trans (At.arU _),(hc 32 (by omega)).trans (At.yt _),?_,?_⟩
 ·have:=(hc 0 (by omega)).trans (At.Au _);rw[nE]at this;exact this
 ·rw[hc 30 (by omega),At.ar1 _ 28 (by omega)];simp[nK.ay,Bk.G]
 ·rw[hc 3 (by omega),At.ar1 _ 1 (by omega)];simp[nK.ay];rfl
theorem adL(l:List At)(A:Option aT)(n c:Nat)(w:ak)(hR:iR At.ay 34 w w.a.j A n l)(hn:n<=9223372036854775807):
 aQ ah 66 #[.a A n c] w fun e w'=>e=.a (.e (Pj l))/\w=w':=by
 have HR:=ab hR;have HN:=ab hR.1;clear hR;have HFW:=ab (show Pj l=(decide (n<=60)&&(dV n).all (fun i=>YK (l.c i qd)))by unfold Pj;rw[HN.i]);go_enter Tryz.func66,Tryz.ntmps66;go_wp2;go_loop [3] (fun s3=>∃i:Nat,i<=n/\i<=100/\s3=.b .a i/\∀k,k<i->YK (l.c k qd)=true) (fun s3=>n-(intOf s3).e)
 case atStart=>exact⟨0,by omega,by omega,rfl,fun k hk=>by omega⟩
 case round=>
  obtain⟨i,hin,aEt,rfl,hall⟩:=hrel;have HA:=ab hall;clear hall;by_cases hlt:i<n
  ·have hi:(i:Int)<n:=by omega
   by_cases h6:i<100
   ·have hi6:(i:Int)<100:=by omega
    obtain⟨b,o,rfl,c0,c1,c2,c3,c4⟩:=At.D HR.i hlt;obtain⟨a,ha⟩:=dw (l.c i qd);rw[<-ha]at c0 c1 c2 c3 c4;have HX:=ab ha;clear ha c0;obtain⟨m1,hm1⟩:∃m,m=a.NA:=⟨_,rfl⟩
    obtain⟨m2,hm2⟩:∃m,m=a.E:=⟨_,rfl⟩
    obtain⟨m3,hm3⟩:∃m,m=a.op.E:=⟨_,rfl⟩
    obtain⟨m4,hm4⟩:∃m,m=a.op.h.E:=⟨_,rfl⟩
    have HFA:=ab (show YK a=(decide (m1<=1500)&&(decide (m2.a<=60)&&(decide (m3.a<=60)&&decide (m4.a<=60))))by rw[hm1,hm2,hm3,hm4];rfl);rw[<-hm1]at c1;rw[<-hm2]at c2;rw[<-hm3]at c3;rw[<-hm4]at c4;clear hm1 hm2 hm3 hm4;obtain⟨k1,e1⟩:∃k,decide ((1500:Int)<m1)=k:=⟨_,rfl⟩
    obtain⟨k2,e2⟩:∃k,decide ((60:Int)<m2.a)=k:=⟨_,rfl⟩
    obtain⟨k3,e3⟩:∃k,decide ((60:Int)<m3.a)=k:=⟨_,rfl⟩
    obtain⟨k4,e4⟩:∃k,decide ((60:Int)<m4.a)=k:=⟨_,rfl⟩
    have HB:=ab (show YK a=(!k1&&(!k2&&(!k3 && !k4)))by
     rw[HFA.i,<-e1,<-e2,<-e3,<-e4];rw[bZ];simp only[bf,decide_eq_true_eq,nZ,decide_eq_false_iff_not];omega)
    cases k1;rotate_left
    ·have HF:=ab (show Pj l=false by rw[HFW.i,jc _ i _ hlt (by rw[<-HX.i,HB.i];rfl)];simp)
     go_wp2;go_ret;exact⟨by rw[HF.i];rfl,rfl⟩
    cases k2;rotate_left
    ·have HF:=ab (show Pj l=false by rw[HFW.i,jc _ i _ hlt (by rw[<-HX.i,HB.i];rfl)];simp)
     go_wp2;go_ret;exact⟨by rw[HF.i];rfl,rfl⟩
    cases k3;rotate_left
    ·have HF:=ab (show Pj l=false by rw[HFW.i,jc _ i _ hlt (by rw[<-HX.i,HB.i];rfl)];simp)
     go_wp2;go_ret;exact⟨by rw[HF.i];rfl,rfl⟩
    cases k4;rotate_left
    ·have HF:=ab (show Pj l=false by rw[HFW.i,jc _ i _ hlt (by rw[<-HX.i,HB.i];rfl)];simp)
     go_wp2;go_ret;exact⟨by rw[HF.i];rfl,rfl⟩
    go_wp2;go_round
    case rel=>exact⟨i+1,by omega,by omega,by go_num,fun k hk=>by
     by_cases hki:k=i
     ·rw[hki,<-HX.i,HB.i];rfl
     ·exact HA.i k (by omega)⟩
    case measure=>simp[intOf]<;>omega
   ·have hd:decide ((i:Int)<100)=false:=by simp;omega
    have HF:=ab (show Pj l=decide ((n:Int)<=60)by
     rw[HFW.i,show decide (n<=60)=false from decide_eq_false (by omega),show decide ((n:Int)<=60)=false from decide_eq_false (by omega)];rfl)
    go_wp2;go_ret;exact⟨by rw[HF.i];rfl,rfl⟩
  ·obtain rfl:i=n:=by omega
   have hd:decide ((i:Int)<i)=false:=by simp
   have HF:=ab (show Pj l=decide ((i:Int)<=60)by
    rw[HFW.i,gF.2 (fun k hk=>HA.i k (eu.1 hk)),Bool.and_true];rw[decide_eq_decide];omega)
   go_wp2;go_ret;exact⟨by rw[HF.i];rfl,rfl⟩
def ajU(c:Cn)(l:List At):Bool:=(decide (c.iI<=20)&&decide (c.j<=260))&&Pj l
theorem aqF(c:Cn)(l:List At)(A:Option aT)(n k:Nat)(w:ak)(hR:iR At.ay 34 w w.a.j A n l)(hn:n<=9223372036854775807):
 aQ ah 21 #[.d c.ay,.a A n k] w (gU w (.e (ajU c l))):=by
 have Z0:=ab ((Bx.start w).new c.ay 29);obtain⟨k1,h1⟩:∃k,(decide (c.iI<=20)&&decide (c.j<=260))=k:=⟨_,rfl⟩
 have HJ:=ab (show ajU c l=(k1&&Pj l)by unfold ajU;rw[h1]);have CS:=ab (fun w=>ajT c w);rw[h1]at CS;have CF:=ab (fun w1 (hb:aM w.a.j w w1)=>adL l A n k w1 (hR.go hb) hn);clear h1 hR;go_enter Tryz.func21,Tryz.ntmps21;go_upto_region 1 with fail
 generalize w.alloc (.D c.ay 29)=w1 at Z0 ⊢;have l1:=NI.lU Z0.i.X (Cn.G _);go_wp2_with fail
 (with_reducible refine(CS.i _).g ?_)
 rintro e w2 ⟨rfl,hb⟩;have Z2:=ab (Z0.i.go hb);clear hb l1;cases k1
 ·go_wp2
  go_ret;exact⟨by rw[HJ.i];rfl,Z2.i.R⟩
 go_wp2_with (go_at_call 66;(with_reducible refine(CF.i _ Z2.i.R).g ?_);rintro e w3 ⟨rfl,rfl⟩);go_ret;exact⟨by rw[HJ.i];rfl,Z2.i.R⟩
def vg(l:List UInt8):fq:=⟨false,pY 16 l⟩
def anE:Cn:=⟨none,1,1,7,9,DK fun i=>if i.val=0 then 0 else 5,1,1,bF 6 0,mY,⟨true,bF 16 0⟩,1000,2,5⟩
def GV:Vp:=⟨vg [5,6,7,8],6,80,false⟩
def yK:En:=⟨pY 16 [1],anE,[GV]⟩
def ajV:Bk:=⟨[97],vg [10,0,0,9],8080,bF 6 0,4607182418800017408,false⟩
def awF:List UInt8:=[0,0,0,0,0,0,0,0,0,0,0,0,8,0,69,0,0,42,0,0,64,0,64,6,42,187,1,2,3,4,5,6,7,8,3,232,0,80,0,0,0,0,0,0,0,0,80,2,0,0,51,44,0,0,104,105]
def awW:List UInt8:=[0,0,0,0,0,0,0,0,0,0,0,0,8,0,69,0,0,42,0,0,64,0,64,6,44,192,1,2,3,4,10,0,0,9,3,232,31,144,0,0,0,0,0,0,0,0,80,2,0,0,21,241,0,0,104,105]
def acF:Ac:=⟨1,awF,⟨0,jk,[],0⟩,[],false⟩
def acA:Ac:=⟨2,[],⟨1,ajV,[],0⟩,[],false⟩
def acH(n:List UInt8):Ac:=⟨3,[],⟨0,jk,[],0⟩,n,false⟩
def acK(k:Int):Ac:=⟨k,[],⟨0,jk,[],0⟩,[],false⟩
def aw0:oM×Ou:=xG yK xB acF
def aw1:oM×Ou:=xG yK aw0.1 acA
def aw2:oM×Ou:=xG yK aw1.1 acF
def aw3:oM×Ou:=xG yK aw2.1 acF
def aw4:oM×Ou:=xG yK aw3.1 (acH [98])
def aw5:oM×Ou:=xG yK aw4.1 (acH [97])
def aw6:oM×Ou:=xG yK aw5.1 acF
def aw7:oM×Ou:=xG yK aw6.1 (acK 4)
def Sk:oM×Ou:=xG yK aw7.1 (acK 9)
theorem ar2:xZ anE [GV]=true:=by decide +kernel
theorem aEw:aw0.2={FU with gJ:=8}:=by decide +kernel
theorem aEx:aw1.2.mQ=1:=by decide +kernel
theorem anF:aw2.2=⟨0,0,false,1,[97],awW⟩:=by decide +kernel
theorem aEy:aw3.2.xS=true:=by decide +kernel
theorem aEz:aw4.2.err=5:=by decide +kernel
theorem aEA:aw5.2.err=0:=by decide +kernel
theorem aEB:aw6.2.gJ=8:=by decide +kernel
theorem aEC:aw7.2.err=0:=by decide +kernel
theorem aED:Sk.2.err=1:=by decide +kernel
theorem ajW:Sk.1.no=2/\Sk.1.gL=1/\Sk.1.Y[8]=2/\Sk.1.G.a=1/\(zN yK Sk.1).uG.a=0:=by decide +kernel
theorem Ow.rd{B n c:Nat}{g0:Option Nat}{w w':ak}{A:Option aT}{bs:List UInt8}(h:Ow B g0 w (.a A n c) bs w'):fP w' w'.a.j A n bs:=by
 obtain⟨A',c',e,_,_⟩:=jS h.vC;injection e with e1 e2 e3
 have:=h.vC;rw[<-e2]at this;exact fP.iY this
theorem adM(s d:fq)(p:Nat)(hp:p<=255)(w:ak)(A:Option aT)(n c:Nat)(l:List UInt8)(hnn:n<=65535)(hnc:n<=c)(hr:fP w w.a.j A n l)(hT:(IU p l).1.dz=(n:Int))(lp:List UInt8)(hlp:psB s d p n=lp)(hpl:lp.a<=1000):
 aQ ah 188 #[.d s.ay,.d d.ay,.b .a p,.a A n c] w (gU w (.b .a (wU (lp++l):Nat))):=by
 have HR:=ab hr;have hl:=ab hr.len;have HLP:=ab hlp;have HPL:=ab hpl;clear hr hlp hpl;have h0:=((Bx.start w).new s.ay 27).new d.ay 27;rw[show(w.alloc (.D s.ay 27)).a.j=w.a.j+1 by simp]at h0;have Z0:=ab h0;clear h0;obtain⟨r,hrr⟩:=dw (IU p l);rw[<-hrr]at hT;have CP:=ab (fun w1 (hr:fP w1 w1.a.j A n l)=>acW w1 p A n c l (by omega) hr);unfold PtP at CP;rw[<-hrr]at CP;clear hrr;obtain⟨k,er⟩:=r;simp only at hT CP;go_enter Tryz.func188,Tryz.ntmps188;go_upto_region 1 with fail
 generalize(w.alloc (.D s.ay 27)).alloc (.D d.ay 27)=w0 at Z0 ⊢;go_upto_region 2 with(go_at_call 227;(with_reducible refine(CP.i _ (Z0.i.MX HR.i)).g ?_);rintro e w1 ⟨rfl,hb1⟩;have Z1:=ab ((Z0.i.go hb1).new k.ay 172);clear hb1)
 generalize w1.alloc (.D k.ay 172)=w2 at Z1 ⊢;generalize w1.a.j=y at Z1 ⊢;have KS:=ab (fun(W':ak) (h:Bx [(y,k.ay),(w.a.j+1,d.ay),(w.a.j,s.ay)] w W')=>show W'.b ⟨y,4,none⟩=some (.b .a n)/\(rD (.c (some ⟨w.a.j,0,none⟩))).I ah W'=.ok (.d s.ay) W'/\(rD (.c (some ⟨w.a.j+1,0,none⟩))).I ah W'=.ok (.d d.ay) W' by
  refine⟨by rw[h.X.K.1 4,Pt.yc,hT],?_,?_⟩
  ·obtain⟨x1,x2,x3,x4⟩:=h.b2.K;go_simp
  ·obtain⟨x1,x2,x3,x4⟩:=h.b1.K;go_simp)
 have CS:=ab (fun W'=>WQ s d p n hp hnn W');rw[HLP.i]at CS;unfold J7 at CS;have i1:(0:Int)<=n:=by omega
 have i2:(n:Int)<=c:=by omega
 have i3:n<=c:=hnc;clear hT;go_region_held_law (fun W'=>W'.b ⟨y,4,none⟩=some (.b .a n)/\(rD (.c (some ⟨w.a.j,0,none⟩))).I ah W'=.ok (.d s.ay) W'/\(rD (.c (some ⟨w.a.j+1,0,none⟩))).I ah W'=.ok (.d d.ay) W')
  (first|exact KS.i _ Z1.i.drew|exact KS.i _ Z6.i|exact KS.i _ Z8.i|go_keep)
  (first
  | (go_at_call 259;(with_reducible refine(CS.i _).g ?_);rintro e w6 ⟨A6,n6,c6,rfl,hn6,ho6,hb6⟩;have Z6:=ab (Z1.i.drew.go hb6);have P6:=ab (Ow.iY ho6 hb6.j);have R6:=ab (Z6.i.MX HR.i);have LN:=ab (show lp.a+n<=1000000000 by have:=HPL.i;omega);have HB6:=ab (show w.a.j<=w2.a.j from Z1.i.R.j);clear hn6 ho6 hb6)
  | (refine Mx (o:=⟨some 28,_,_,_,_,_⟩) rfl (.a 23) (.a 27) rfl (.a A6 n6 c6) A n c rfl P6.i rfl R6.i LN.i ?_;intro A8 n8 c8 w8 h8 h9;have O8:=ab h8;have Z8:=ab (Z6.i.ow h9 (fun p hp=>eO ((Z1.i.drew.2 p hp).2.lt) (av _)) HB6.i);clear h8 h9))
 go_upto_region 3 with fail
 have R8:=ab O8.i.rd;have CU:=ab (Ve w8 A8 n8 c8 (lp++l) (by have h1:=R8.i.len;have:=HPL.i;have:=hl.i;rw[aR]at h1;omega) R8.i);go_wp2_with (go_at_call 186;(with_reducible refine CU.i.g ?_);rintro e w9 ⟨rfl,hb9⟩;have HB9:=ab hb9;clear hb9);go_ret;exact⟨rfl,Z8.i.R.trans (HB9.i.g Z8.i.R.j)⟩
def xg(l:List UInt8):List UInt8:=(l.set 16 0).set 17 0
def Wh(s d:fq)(l:List UInt8):List UInt8:=((xg l).set 16 (aJ (wU (psB s d 6 l.a++xg l)/256))).set 17 (aJ (wU (psB s d 6 l.a++xg l)%256))
theorem ajX(w:ak):aQ ah 187 #[.b .a 6] w fun e w'=>e=.a (.b .a 16)/\w=w':=by
 go_enter Tryz.func187,Tryz.ntmps187;go_wp2;go_ret;exact⟨rfl,rfl⟩
theorem aa9(s d:fq)(w:ak)(A:Option aT)(n c:Nat)(l:List UInt8)(h18:18<=n)(hnn:n<=65535)(hr:fP w w.a.j A n l)(hT:(IU 6 (xg l)).1.dz=(n:Int)):
 aQ ah 107 #[.d s.ay,.d d.ay,.b .a 6,.a A n c] w (J7 w (Wh s d l)):=by
 have HR:=ab hr;have hl:=ab hr.len;have HT:=ab hT;have HP:=ab (show Wh s d l=((xg l).set 16 (aJ (wU (psB s d 6 l.a++xg l)/256))).set 17 (aJ (wU (psB s d 6 l.a++xg l)%256))from rfl);clear hr hT;have h0:=((Bx.start w).new s.ay 27).new d.ay 27;rw[show(w.alloc (.D s.ay 27)).a.j=w.a.j+1 by simp]at h0;have Z0:=ab h0;clear h0;go_enter Tryz.func107,Tryz.ntmps107;go_upto_region 1 with fail
 generalize(w.alloc (.D s.ay 27)).alloc (.D d.ay 27)=w0 at Z0 ⊢;have L0:=ab (((Ly.amb w w0 Z0.i.R #[] [] 0 rfl (by omega) rfl).add (q:=w.a.j) (c:=s.ay) (Z0.i.b1.alloc _) (by have:=Z0.i.b1.lt;simp[jW];omega)).add (q:=w.a.j+1) (c:=d.ay) (Z0.i.X.alloc _) (by have:=Z0.i.X.lt;simp[jW];omega));have R0:=ab ((Z0.i.MX HR.i).S ((aG w0.a.j w0).alloc (av _) (.D #[] 5)));have H0:=ab (show([]:List UInt8).a+n<=1000000000 by simp;omega);go_upto_region 2 with(at_builtin;refine ko rfl (.a 12) (.a 13) rfl rfl L0.i.o rfl R0.i H0.i ?_;intro A1 n1 c1 w1 h2 h3;have L1:=ab (L0.i.step h3);clear h2 h3)
 rw[List.nil_append]at L1;go_upto_region 3 with(go_at_call 187;(with_reducible refine(ajX _).g ?_);rintro e w2 ⟨rfl,rfl⟩)
 obtain⟨hm1,hm2,g,rfl,k1,k2⟩:=L1.i.at0 (by rw[hl.i];omega);rw[hl.i]at hm1;have HM:=ab hm1;have m1:(16:Int)<n1:=by omega
 have m2:(17:Int)<n1:=by omega
 have k16:=k1 16 (by rw[hl.i];omega);have M2:=ab (L1.i.afr 16 0);rw[show bv 0=.b .b 0 from rfl]at M2;clear k1 hm1 hm2 L0 R0 H0;go_upto_region 4 with fail
 generalize w1.F ⟨g,16,none⟩ (.b .b 0)=w3 at *;obtain⟨-,-,g',eg,k3,k4⟩:=M2.i.at0 (by rw[aV,hl.i];omega);injection eg with eg
 injection eg with eg
 subst eg;have k17:=k3 17 (by rw[aV,hl.i];omega);have M3:=ab (M2.i.afr 17 0);rw[show bv 0=.b .b 0 from rfl]at M3;clear k3 k2 k16;go_upto_region 5 with fail
 generalize w3.F ⟨g,17,none⟩ (.b .b 0)=w4 at *;clear k4 k17 M2 L1;have M3:=ab (show Ly w.a.j [(w.a.j+1,d.ay),(w.a.j,s.ay)] w w4 (.a (some ⟨g,0,none⟩) n1 c1) (xg l)from M3.i);have HZL:=ab (show(xg l).a=n by unfold xg;rw[aV,aV,hl.i]);obtain⟨zl,hzl⟩:∃z,z=xg l:=⟨_,rfl⟩
 obtain⟨lp,hlp⟩:∃z,psB s d 6 n=z:=⟨_,rfl⟩
 rw[hl.i]at HP;rw[<-hzl]at M3 HZL HT HP;rw[hlp]at HP;have CQ:=ab (adM s d 6 (by omega) w4 (some ⟨g,0,none⟩) n1 c1 zl (by rw[HM.i];omega) (by have:=M3.i.at0 (by rw[HZL.i];omega);exact this.2.1) (Da M3.i.o (aG _ _)) (by rw[HM.i];exact HT.i) lp (by rw[HM.i];exact hlp) (by rw[<-hlp];have:=apB s d 6 n;omega));rw[show((6:Nat):Int)=6 from rfl]at CQ;clear hzl hlp HT;have HSL:=ab (show wU (lp++zl)<=65535 by unfold wU;omega);generalize wU (lp++zl)=z at *;have z0:(0:Int)<=z:=by omega
 have z1:(z:Int)<=65535:=by have:=HSL.i;omega
 obtain⟨x1,x2,x3,x4⟩:=M3.i.b1.K;obtain⟨y1,y2,y3,y4⟩:=M3.i.X.K;go_upto_region 6 with(go_at_call 188;(with_reducible refine CQ.i.g ?_);rintro e w6 ⟨rfl,hb⟩;have M4:=ab (M3.i.go hb);clear hb)
 clear x1 x2 x3 x4 y1 y2 y3 y4;obtain⟨hm1,hm2,g',eg,k1,k2⟩:=M4.i.at0 (by rw[HZL.i];omega);injection eg with eg
 injection eg with eg
 subst eg;have k16:=k1 16 (by rw[HZL.i];omega);have M5:=ab (M4.i.afr 16 (aJ (z/256)));have e1:((aJ (z/256)).e:Int)=(z:Int)/256:=by rw[yT _ (by have:=HSL.i;omega)];omega
 unfold bv at M5;rw[e1]at M5;clear k1 e1 hm1 hm2;obtain⟨bz,hbz⟩:∃b,((z:Int)==0)=b:=⟨_,rfl⟩
 cases bz
 all_goals
  go_upto_region 8 with fail
  go_upto_region 9 with fail
  generalize w6.F ⟨g,16,none⟩ (.b .b ((z:Int)/256))=w7 at *;obtain⟨-,-,g',eg,k3,k4⟩:=M5.i.at0 (by rw[aV,HZL.i];omega);injection eg with eg
  injection eg with eg
  subst eg;have k17:=k3 17 (by rw[aV,HZL.i];omega);have M6:=ab (M5.i.afr 17 (aJ (z%256)));have e2:((aJ (z%256)).e:Int)=(z:Int)%256:=by rw[yT _ (by omega)];omega
  unfold bv at M6;rw[e2]at M6;clear k3 e2 k2 k16;go_wp2;go_ret;rw[<-HP.i]at M6;have ho:=M6.i.o;obtain⟨A9,c9,e9⟩:=ho.Ch;injection e9 with e9 e10 e11
  subst e10;exact⟨_,_,_,rfl,rfl,ho.vC,ho.R⟩
def aa'(t:Tu)(load:List UInt8):List UInt8:=[aJ (t.kT.e/256),aJ (t.kT.e%256),aJ (t.jP.e/256),aJ (t.jP.e%256)]++[0,0,0,0,0,0,0,0,80,2,0,0,0,0,0,0]++load
def azp(t:Tu)(n:Nat):Fo:=⟨20,20+(n:Int),0,0,false,true,64,6,t.h,t.Y⟩
def mk6(t:Tu)(load:List UInt8):List UInt8:=qw (bF 6 0) (bF 6 0) [] 2048++tN (azp t (aa' t load).a)++Wh t.h t.Y (aa' t load)
@[go_sem]theorem ar3(w:ak)(b:Int):(Bt 16 #[(0,.b .b 0),(1,.b .b 0),(2,.b .b 0),(3,.b .b 0),(4,.b .b 0),(5,.b .b 0),(6,.b .b 0),(7,.b .b 0),(8,.b .b 80),(9,.b .b b),(10,.b .b 0),(11,.b .b 0),(12,.b .b 0),(13,.b .b 0),(14,.b .b 0),(15,.b .b 0)]).I ah w=.ok (.a (some ⟨w.a.j,0,none⟩) 16 16) (w.alloc (.D #[.b .b 0,.b .b 0,.b .b 0,.b .b 0,.b .b 0,.b .b 0,.b .b 0,.b .b 0,.b .b 80,.b .b b,.b .b 0,.b .b 0,.b .b 0,.b .b 0,.b .b 0,.b .b 0] 5)):=by
 obtain⟨i0,hi0,hz0,hz1,hz2⟩:=zy;have hr:Array.range 16 = #[0,1,2,3,4,5,6,7,8,9,10,11,12,13,14,15]:=by apply Array.ext';rw[Array.toList_range];rfl
 simp[Bt,bI,run_underlying cB,zeroValue,sizeOf,typeInfo,hi0,hz0,hz1,Instr.fill,newRow,bW,hr]
theorem ND(t:Tu)(h6:t.h.h=false)(hp:t.aP=6)(s0:0<=t.kT)(s1:t.kT<=65535)(d0:0<=t.jP)(d1:t.jP<=65535)(w:ak)(A:Option aT)(m c:Nat)(load:List UInt8)(hm:m<=1000)(hr:fP w w.a.j A m load)(hT:(IU 6 (xg (aa' t load))).1.dz=((20+m:Nat):Int)):
 aQ ah 40 #[.d qK.ay,.d t.ay,.b .a 2,.a A m c] w (J7 w (mk6 t load)):=by
 have HR:=ab hr;have hl:=ab hr.len;have HT:=ab hT;have HM:=ab (show mk6 t load=qw (bF 6 0) (bF 6 0) [] 2048++tN (azp t (aa' t load).a)++Wh t.h t.Y (aa' t load)from rfl);have HSB:=ab (show aa' t load=[aJ (t.kT.e/256),aJ (t.kT.e%256),aJ (t.jP.e/256),aJ (t.jP.e%256)]++[0,0,0,0,0,0,0,0,80,2,0,0,0,0,0,0]++load from rfl);clear hr hT;have h0:=((Bx.start w).new qK.ay 108).new t.ay 81;rw[show(w.alloc (.D qK.ay 108)).a.j=w.a.j+1 by simp]at h0;have Z0:=ab h0;clear h0;have hty:afs qK t=Lc.mk (bF 6 0) (bF 6 0) none 0 0 2048 0:=by unfold afs qK;rw[h6];rfl
 have CT:=ab (fun w1=>aaE qK t w1);rw[hty]at CT;have CP:=ab (fun w1=>Vk (Lc.mk (bF 6 0) (bF 6 0) none 0 0 2048 0) [] (by simp) (by simp) (by simp) (by simp) w1 (iR.nil _ _));unfold J7 at CP;obtain⟨lb,hlb⟩:∃l,l=qw (bF 6 0) (bF 6 0) [] 2048:=⟨_,rfl⟩
 have LB:=ab (show lb.a<=100 by rw[hlb];simp[qw,qc]);simp only at CP;rw[<-hlb]at CP HM;clear hlb hty;go_enter Tryz.func40,Tryz.ntmps40;go_upto_region 1 with fail
 generalize(w.alloc (.D qK.ay 108)).alloc (.D t.ay 81)=w0 at Z0 ⊢;obtain⟨x1,x2,x3,x4⟩:=Z0.i.b1.K;obtain⟨y1,y2,y3,y4⟩:=Z0.i.X.K;go_upto_region 2 with(first
  | (go_at_call 104;(with_reducible refine(CT.i _).g ?_);rintro e w1 ⟨rfl,hb1⟩;have Z1:=ab (Z0.i.go hb1);clear hb1)
  | (go_at_call 103;(with_reducible refine(CP.i _).g ?_);rintro e w2 ⟨A2,n2,c2,rfl,hn2,ho2,hb2⟩;have Z2:=ab (Z1.i.go hb2);have O2:=ab ho2;have N2:=ab hn2;have S2:=ab hb2.j;have S1:=ab Z1.i.R.j;clear hb2 ho2 hn2))
 clear x1 x2 x3 x4 y1 y2 y3 y4;obtain⟨y1,y2,y3,y4⟩:=Z2.i.X.K;have b34:=Tu.Uy t;rw[hp]at b34;have b35:=Tu.aeZ t;have b36:=Tu.ZO t;have b0:t.ay[0]? = some (.e false):=by rw[<-h6];exact Tu.pX t
 obtain⟨sp,hsp⟩:∃k,k=t.kT:=⟨_,rfl⟩
 obtain⟨dp,hdp⟩:∃k,k=t.jP:=⟨_,rfl⟩
 rw[<-hsp]at b35 s0 s1 HSB;rw[<-hdp]at b36 d0 d1 HSB;clear hsp hdp hp h6;have B0:=ab (((Ly.amb w2 w2 (aG _ _) #[.b .b (sp/256),.b .b (sp%256),.b .b (dp/256),.b .b (dp%256)] [aJ (sp.e/256),aJ (sp.e%256),aJ (dp.e/256),aJ (dp.e%256)] 4 rfl (by omega) (by
  obtain⟨e1,e2⟩:=Vj sp s0 s1;obtain⟨e3,e4⟩:=Vj dp d0 d1;simp only[kI,List.map_nil,bv];rw[e1,e2,e3,e4])).add (q:=w.a.j) (c:=qK.ay) (Z2.i.b1.alloc _) (by have:=Z2.i.b1.lt;simp[jW];omega)).add (q:=w.a.j+1) (c:=t.ay) (Z2.i.X.alloc _) (by have:=Z2.i.X.lt;simp[jW];omega))
 go_upto_region 3 with fail
 have O3:=ab (vD O2.i (.D #[.b .b (sp/256),.b .b (sp%256),.b .b (dp/256),.b .b (dp%256)] 5));have S3:=ab (show w2.a.j<(w2.alloc (.D #[.b .b (sp/256),.b .b (sp%256),.b .b (dp/256),.b .b (dp%256)] 5)).a.j by simp);have F3:=ab (show aM w2.a.j w2 (w2.alloc (.D #[.b .b (sp/256),.b .b (sp%256),.b .b (dp/256),.b .b (dp%256)] 5))from(aG _ _).alloc (av _) _);generalize w2.alloc (.D #[.b .b (sp/256),.b .b (sp%256),.b .b (dp/256),.b .b (dp%256)] 5)=w3 at B0 O3 S3 F3 ⊢;clear y1 y2 y3 y4;obtain⟨y1,y2,y3,y4⟩:=B0.i.X.K;have B1:=ab (B0.i.alloc (.D #[.b .b 0,.b .b 0,.b .b 0,.b .b 0,.b .b 0,.b .b 0,.b .b 0,.b .b 0,.b .b 80,.b .b 2,.b .b 0,.b .b 0,.b .b 0,.b .b 0,.b .b 0,.b .b 0] 5));have R1:=ab (Vg w3 #[.b .b 0,.b .b 0,.b .b 0,.b .b 0,.b .b 0,.b .b 0,.b .b 0,.b .b 0,.b .b 80,.b .b 2,.b .b 0,.b .b 0,.b .b 0,.b .b 0,.b .b 0,.b .b 0] [0,0,0,0,0,0,0,0,80,2,0,0,0,0,0,0] rfl);have L1:=ab (show([aJ (sp.e/256),aJ (sp.e%256),aJ (dp.e/256),aJ (dp.e%256)]:List UInt8).a+16<=1000000000 by simp);go_upto_region 7 with(at_builtin;refine ko rfl (.a 48) (.a 51) rfl rfl B1.i.o rfl R1.i L1.i ?_;intro A4 n4 c4 w4 h2 h3;have B4:=ab (B1.i.step h3);clear h2 h3)
 clear y1 y2 y3 y4 B1 R1 L1;have BW:=ab (Z2.i.R.trans (B4.i.o.R.g Z2.i.R.j));have R4:=ab (HR.i.upon BW.i);have L4:=ab (show(([aJ (sp.e/256),aJ (sp.e%256),aJ (dp.e/256),aJ (dp.e%256)]:List UInt8)++[0,0,0,0,0,0,0,0,80,2,0,0,0,0,0,0]).a+m<=1000000000 by simp;omega);go_upto_region 8 with(at_builtin;refine ko rfl (.a 53) (.a 54) rfl rfl B4.i.o rfl R4.i L4.i ?_;intro A5 n5 c5 w5 h2 h3;have B5:=ab (B4.i.step h3);clear h2 h3)
 obtain⟨sb,hsb⟩:∃l,l=aa' t load:=⟨_,rfl⟩
 have SBL:=ab (show sb.a=20+m by rw[hsb,HSB.i];simp[hl.i];omega);rw[<-hsb]at HM HT HSB;rw[<-HSB.i]at B5;clear hsb HSB L4 R4 B4 BW;have N5:=ab (show n5=20+m by
  obtain⟨A9,c9,e9⟩:=B5.i.o.Ch;injection e9 with e9 e10 e11
  rw[e10];exact SBL.i)
 have hn5:n5<=2000:=by have:=N5.i;omega
 have HM:=ab (show mk6 t load=lb++tN (Fo.mk 20 (20+(n5:Int)) 0 0 false true 64 6 t.h t.Y)++Wh t.h t.Y sb by rw[HM.i,SBL.i,N5.i];rfl);have O5:=ab (jq O2.i B5.i.o.R);have BW:=ab (Z2.i.R.trans (B5.i.o.R.g Z2.i.R.j));have CF:=ab (Vl (Fo.mk 20 (20+(n5:Int)) 0 0 false true 64 6 t.h t.Y) (by simp) (by simp) (by simp;omega) (by simp;omega) (by simp) (by simp) (by simp) (by simp) (by simp) (by simp) w5);unfold J7 at CF;obtain⟨fb,hfb⟩:∃l,l=tN (Fo.mk 20 (20+(n5:Int)) 0 0 false true 64 6 t.h t.Y):=⟨_,rfl⟩
 have LF:=ab (show fb.a=20 by rw[hfb,Vq]);rw[<-hfb]at CF HM;clear hfb;have S5:=ab B5.i.o.R.j;obtain⟨y1,y2,y3,y4⟩:=B5.i.X.K;go_upto_region 11 with(first
  | (go_at_call 106;(with_reducible refine CF.i.g ?_);rintro e w6 ⟨A6,n6,c6,rfl,hn6,ho6,hb6⟩;have B6:=ab (B5.i.go hb6);have R6:=ab (fP.iY ho6);have P6:=ab (Ow.iY (jq O5.i hb6) (by have:=S1.i;have:=S2.i;have:=S5.i;have:=hb6.j;omega));have LN:=ab (show lb.a+n6<=1000000000 by have:=LB.i;have:=LF.i;omega);have W6:=ab (BW.i.trans (hb6.g BW.i.j));have O6:=ab (jq O5.i hb6);clear hn6 ho6 hb6)
  | (at_builtin;refine ko rfl (.a 72) (.a 83) rfl rfl P6.i rfl R6.i LN.i ?_;intro A7 n7 c7 w7 h8 h9;have O7:=ab h8;clear h8 h9))
 clear y1 y2 y3 y4;have FA:=ab (kK O2.i);have F7:=ab (show jD (vY A2) w6 w7 from jD.Uq O7.i.gr (fun k hk=>.a (by
  cases A2 with
  | none=>cases hk
  | some a=>exact Dh.2 ⟨a,rfl,by simpa[jW]using hk⟩)))
 have FB:=ab (fun b (hb:b∈vY A5)=>show b∉vY A2 from fun h=>by
  have h1:=FA.i b h;have h2:=kK (by have:=B6.i.o.vC;rw[SBL.i,<-N5.i]at this;exact this) b hb;omega)
 have R7:=ab (show fP w7 w7.a.j A5 n5 sb from Nw (Da B6.i.o (aG _ _)) (av _) F7.i FB.i);have X7:=ab (F7.i.box B6.i.X (fun h=>by have h1:=FA.i _ h;have:=Z0.i.X.lt;have:=S1.i;have h3:=Z1.i.X.lt;omega));have CL:=ab (aa9 t.h t.Y w7 A5 n5 c5 sb (by have:=N5.i;omega) (by omega) R7.i (by rw[HT.i,N5.i]));unfold J7 at CL;obtain⟨lf,hlf⟩:∃l,l=Wh t.h t.Y sb:=⟨_,rfl⟩
 have LL:=ab (show lf.a<=2000 by rw[hlf];unfold Wh xg;simp only[aV];have:=SBL.i;omega);rw[<-hlf]at CL HM;clear hlf;obtain⟨y1,y2,y3,y4⟩:=X7.i.K;go_wp2_with (first
  | (go_at_call 107;(with_reducible refine CL.i.g ?_);rintro e w8 ⟨A8,n8,c8,rfl,hn8,ho8,Xb⟩;have R8:=ab (fP.iY ho8);have P8:=ab (O7.i.go Xb);have LN:=ab (show(lb++fb).a+n8<=1000000000 by rw[aR];have:=LB.i;have:=LF.i;have:=LL.i;omega);clear hn8 ho8 Xb)
  | (at_builtin;refine ko rfl (.a 85) (.a 93) rfl rfl P8.i rfl R8.i LN.i ?_;intro A9 n9 c9 w9 h8 h9;have O9:=ab h8;clear h8 h9))
 go_ret;rw[HM.i];have ho:=O9.i;obtain⟨A',c',e9⟩:=jS ho.vC;obtain⟨e9,_⟩:=e9;injection e9 with e9 e10 e11
 refine⟨_,_,_,rfl,e10,?_,W6.i.trans (ho.S.g (by have:=S1.i;omega))⟩;have h:=iH ho.vC (show w.a.j<=w1.a.j by have:=S1.i;omega);rw[<-e10]at h;exact h
def Ka(b:Nat):Cn:={anE with qH:=some ⟨b,0,none⟩,iI:=1,qI:=1}
theorem aqG(w:ak)(fs:Array Field)(h:ah.underlying 27=some (.struct fs)):(iA (fun f=>Prod.mk f.Z <$> sizeOf f.type) fs:Sem (Array (Nat×Nat))).I ah w=.ok #[(0,1),(1,16)] w:=by
 have e:=eY;rw[h]at e;cases e;show _=_
 kernel_rfl
theorem aqH(W:ak):(uL 27 #[(1,.d #[aI aW 5,aI aW 6,aI aW 7,aI aW 8,aI aW 0,aI aW 0,aI aW 0,aI aW 0,aI aW 0,aI aW 0,aI aW 0,aI aW 0,aI aW 0,aI aW 0,aI aW 0,aI aW 0])]).I ah W=.ok (.d (vg [5,6,7,8]).ay) W:=aaj.bd W _ _ _ _ eY (aqG W _ eY) (by kernel_rfl)
theorem aqI(W:ak):(uL 27 #[(1,.d #[aI aW 1,aI aW 2,aI aW 3,aI aW 4,aI aW 0,aI aW 0,aI aW 0,aI aW 0,aI aW 0,aI aW 0,aI aW 0,aI aW 0,aI aW 0,aI aW 0,aI aW 0,aI aW 0])]).I ah W=.ok (.d (vg [1,2,3,4]).ay) W:=aaj.bd W _ _ _ _ eY (aqG W _ eY) (by kernel_rfl)
theorem aqJ(W:ak):(uL 27 #[(1,.d #[aI aW 10,aI aW 0,aI aW 0,aI aW 9,aI aW 0,aI aW 0,aI aW 0,aI aW 0,aI aW 0,aI aW 0,aI aW 0,aI aW 0,aI aW 0,aI aW 0,aI aW 0,aI aW 0])]).I ah W=.ok (.d (vg [10,0,0,9]).ay) W:=aaj.bd W _ _ _ _ eY (aqG W _ eY) (by kernel_rfl)
def ar4(n:Nat)(ps:Array (Nat×aB)):Sem aB:=bI 23 n ps
@[go_sem ↓]theorem azr(n:Nat)(ps:Array (Nat×aB)):bI 23 n ps=ar4 n ps:=rfl
@[go_sem]theorem au5(W:ak)(v:Vp):(ar4 1 #[(0,.d v.ay)]).I ah W=.ok (.a (some ⟨W.a.j,0,none⟩) 1 1) (W.alloc (.D v.ay 98)):=by
 obtain⟨i0,hi0,hz0,hz1,hzb⟩:=anr;exact rO W _ _ i0 (.d nD.ay) 20 Tryz.underlying23 hi0 hz0 hz1 (Vp.G nD) (by omega) (by omega) v.ay (Vp.G v)
theorem azs(W:ak):(uL 98 #[(0,.d (vg [5,6,7,8]).ay),(1,.b .a 6),(2,.b .a 80)]).I ah W=.ok (.d GV.ay) W:=kVp.bd W _ _ _ _ rY (axg W _ rY) (by kernel_rfl)
theorem azt(W:ak):(uL 27 #[(0,.e true)]).I ah W=.ok (.d (fq.mk true (bF 16 0)).ay) W:=aaj.bd W _ _ _ _ eY (aqG W _ eY) (by kernel_rfl)
theorem Cn.anG(x:Cn)(v:Int):x.ay.b 1 (.b .a v)=({x with j:=v}:Cn).ay:=by simp[Cn.ay,aL,fq.G,gD,jH]
theorem Cn.anH(x:Cn)(v:Int):x.ay.b 2 (.b .a v)=({x with Y:=v}:Cn).ay:=by simp[Cn.ay,aL,fq.G,gD,jH]
theorem Cn.anI(x:Cn)(v:Int):x.ay.b 9 (.b .a v)=({x with kg:=v}:Cn).ay:=by simp[Cn.ay,aL,fq.G,gD,jH]
theorem Cn.anJ(x:Cn)(v:Int):x.ay.b 10 (.b .a v)=({x with fall:=v}:Cn).ay:=by simp[Cn.ay,aL,fq.G,gD,jH]
theorem Cn.anK(x:Cn)(v:Int):x.ay.b 51 (.b .a v)=({x with afe:=v}:Cn).ay:=by simp[Cn.ay,aL,fq.G,gD,jH]
theorem Cn.anL(x:Cn)(v:Int):x.ay.b 52 (.b .a v)=({x with keep:=v}:Cn).ay:=by simp[Cn.ay,aL,fq.G,gD,jH]
theorem Cn.ajY(x:Cn)(v:Int):x.ay.b 53 (.b .a v)=({x with UM:=v}:Cn).ay:=by simp[Cn.ay,aL,fq.G,gD,jH]
theorem Cn.anM(x:Cn)(v:Vector Int 6):sF x.ay 3 (J4 v)=({x with kr:=v}:Cn).ay:=by
 unfold Cn.ay;exact qL (by rw[jH,jH]) 3 rfl
theorem Cn.aqK(x:Cn)(v:fq):sF x.ay 34 v.ay=({x with h:=v}:Cn).ay:=by
 unfold Cn.ay;have:=qL (p:=#[.a x.qH x.iI x.qI,.b .a x.j,.b .a x.Y]++J4 x.kr ++ #[.b .a x.kg,.b .a x.fall]++Ar x.Cg++x.Ci.ay) (q:=x.h.ay) (r:=#[.b .a x.afe,.b .a x.keep,.b .a x.UM]) (v:=v.ay) (by rw[fq.G,fq.G]) 34 (by simp[fq.G,gD,jH]);simpa[Array.append_assoc]using this
def au6:Vector Int 6:=DK fun i=>if i.val=0 then 0 else 5
theorem anN:J4 au6 = #[aI bR 0,aI bR 5,aI bR 5,aI bR 5,aI bR 5,aI bR 5]:=by kernel_rfl
theorem azu(W:ak)(b:Nat):(uL 29 #[(0,.a (some ⟨b,0,none⟩) 1 1),(1,.b .a 7),(2,.b .a 9),(3,.d #[aI bR 0,aI bR 5,aI bR 5,aI bR 5,aI bR 5,aI bR 5]),(4,.b .a 1),(5,.b .a 1),(8,.d (fq.mk true (bF 16 0)).ay),(9,.b .a 1000),(10,.b .a 2),(11,.b .a 5)]).I ah W=.ok (.d (Ka b).ay) W:=NI.bd W _ _ _ _ mW (atg W _ mW) (by
 rw[<-anN];refine(iw rfl rfl (by rw[Cn.G];omega) (Cn.MI OH _ _ _)).trans ?_;refine(iw rfl rfl (by rw[Cn.G];omega) (Cn.anG _ _)).trans ?_;refine(iw rfl rfl (by rw[Cn.G];omega) (Cn.anH _ _)).trans ?_;refine(sO rfl (jH _) (by rw[Cn.G];omega) (Cn.anM _ _)).trans ?_;refine(iw rfl rfl (by rw[Cn.G];omega) (Cn.anI _ _)).trans ?_;refine(iw rfl rfl (by rw[Cn.G];omega) (Cn.anJ _ _)).trans ?_;refine(sO rfl (fq.G _) (by rw[Cn.G];omega) (Cn.aqK _ _)).trans ?_;refine(iw rfl rfl (by rw[Cn.G];omega) (Cn.anK _ _)).trans ?_;refine(iw rfl rfl (by rw[Cn.G];omega) (Cn.anL _ _)).trans ?_;refine(iw rfl rfl (by rw[Cn.G];omega) (Cn.ajY _ _)).trans ?_;rfl)
theorem adN(w:ak):aQ ah 39 #[] w fun e w'=>∃b,e=.a (.d (Ka b).ay)/\iR Vp.ay 20 w' w'.a.j (some ⟨b,0,none⟩) 1 [GV]/\dL w' b GV.ay/\w.a.j<=b/\aM w.a.j w w':=by
 have b1:=aqH;have b2:=azs;have b5:=azt;have b6:=azu;obtain⟨V,hV⟩:=tV GV;obtain⟨C,hC⟩:=tV Ka;obtain⟨D,hD⟩:=tV (vg [5,6,7,8]);obtain⟨X6,hX⟩:∃D,(fq.mk true (bF 16 0))=D:=⟨_,rfl⟩
 rw[hV]at b2 ⊢;rw[hC]at b6 ⊢;rw[hD]at b1 b2;rw[hX]at b5 b6;clear hV hC hD hX;have Z0:=ab ((Bx.start w).new OH.ay 29);go_enter Tryz.func39,Tryz.ntmps39;go_upto_region 1 with fail
 generalize w.alloc (.D OH.ay 29)=w0 at Z0 ⊢;have Z1:=ab (Z0.i.new V.ay 98);go_upto_region 2 with fail
 generalize w0.alloc (.D V.ay 98)=w1 at Z1 ⊢;have NP:=ab (show w0.a.j≠w.a.j by have:=Z0.i.X.lt;omega);have SZ1:=ab Z1.i.b1.lt;generalize w0.a.j=p at Z1 NP ⊢;have Z2:=ab (Z1.i.alloc (.D V.ay 98));have R2:=ab (iR.one V Vp.G w1 98);obtain⟨x1,x2,x3,x4⟩:=Z1.i.X.K;have th:=Z2.i.b1.O 0 54 (aX (Cn.G OH).symm);have Z3:=ab (Z2.i.swap.put (fun r hr=>by rw[fM.1 hr];exact NP.i) (C w1.a.j).ay (by rw[Cn.G,Cn.G]));have R3:=ab (R2.i.keep (yx _ w.a.j 0 (C w1.a.j).ay) (fun b hb=>by have:=SZ1.i;simp[vY]at hb;subst hb;simp;omega));go_wp2_with fail;refine aN (NI.zh rfl _ rfl Z3.i.X (Cn.G _)) rfl ?_;exact⟨_,rfl,R3.i,(yx _ w.a.j 0 (C w1.a.j).ay).box (dL.new w1 V.ay 98) (by have:=SZ1.i;simp;omega),by have:=SZ1.i;omega,Z3.i.R⟩
theorem kAt:oN 66 34 qd.ay:=⟨⟨_,lI,rfl⟩,by kernel_rfl,by kernel_rfl,At.G _⟩
theorem nK.abb(k:Int)(y:Bk)(s:List UInt8)(v:Nat):(nK.mk k y s v).ay = #[.b .a k]++(y.ay ++ #[.g (bU s),fv v]):=by apply Gf.1;simp[nK.ay]
theorem nK.cK(x:nK):x.ay.all (·.oneCell')=true:=by
 obtain⟨k,y,s,v⟩:=x;rw[nK.abb];exact gX (by simp[cO]) (gX (Bk.cK _) (by simp[cO,fv]))
theorem At.cK(x:At):x.ay.all (·.oneCell')=true:=gX (by simp[cO]) (gX (nK.cK _) (by simp[cO]))
@[go_sem]theorem At.all(x:At):x.ay.extract 0 34=x.ay:=by have:=At.G x;rw[<-this];simp
@[go_sem ↓]theorem aK2(v:aB):Instr.loadAt 66 v=yH 66 v:=rfl
@[go_sem ↓]theorem aK3(v x:aB):eF 66 v x=yR 66 v x:=rfl
@[go_sem]theorem aG9(W:ak)(b o:Nat)(h:xA W b o 34):(yH 66 (.c (some ⟨b,o,none⟩))).I ah W=.ok (.d (dY W b o 34)) W:=kAt.ld W b o h
@[go_sem]theorem aEF(W:ak)(c:Array aB)(x:At)(b:Nat)(hb:b=W.a.j)(hc:eD c=34):(yR 66 (.c (some ⟨b,0,none⟩)) (.d x.ay)).I ah (W.alloc (.D c 66))=.ok () (W.alloc (.D x.ay 66)):=kAt.stN W c x.ay b hb hc (At.G x) (At.cK x)
@[go_sem ↓]theorem aK4(ps:Array (Nat×aB)):fI 66 ps=uL 66 ps:=rfl
theorem aqL(w:ak)(fs:Array Field)(h:ah.underlying 66=some (.struct fs)):(iA (fun f=>Prod.mk f.Z <$> sizeOf f.type) fs:Sem (Array (Nat×Nat))).I ah w=.ok #[(0,1),(1,1),(2,30),(32,1),(33,1)] w:=by
 have e:=lI;rw[h]at e;cases e;show _=_
 kernel_rfl
theorem At.Er(x:At)(v:Int):x.ay.b 0 (.b .a v)=({x with kind:=v}:At).ay:=by simp[At.ay,aL]
theorem At.au7(x:At)(A:Option aT)(n c:Nat):x.ay.b 1 (.a A n c)=({x with Wn:=A,NA:=n,Ll:=c}:At).ay:=by simp[At.ay,aL]
theorem At.anO(x:At)(s:List UInt8):x.ay.b 32 (.g (bU s))=({x with E:=s}:At).ay:=by simp[At.ay,aL,nK.G]
theorem At.au8(x:At)(v:nK):sF x.ay 2 v.ay=({x with op:=v}:At).ay:=by
 unfold At.ay;exact qL (by rw[nK.G,nK.G]) 2 rfl
@[go_sem]theorem aEG(W:ak)(k:Int):(uL 66 #[(0,.b .a k)]).I ah W=.ok (.d ({qd with kind:=k}:At).ay) W:=kAt.bd W _ _ _ _ lI (aqL W _ lI) (by
 refine(iw rfl rfl (by rw[At.G];omega) (At.Er qd _)).trans ?_;rfl)
@[go_sem]theorem au9(W:ak)(k:Int)(A:Option aT)(n c:Nat):(uL 66 #[(0,.b .a k),(1,.a A n c)]).I ah W=.ok (.d ({qd with kind:=k,Wn:=A,NA:=n,Ll:=c}:At).ay) W:=kAt.bd W _ _ _ _ lI (aqL W _ lI) (by
 refine(iw rfl rfl (by rw[At.G];omega) (At.Er qd _)).trans ?_;refine(iw rfl rfl (by rw[At.G];omega) (At.au7 _ _ _ _)).trans ?_;rfl)
@[go_sem]theorem anP(W:ak)(k:Int)(o:nK):(uL 66 #[(0,.b .a k),(2,.d o.ay)]).I ah W=.ok (.d ({qd with kind:=k,op:=o}:At).ay) W:=kAt.bd W _ _ _ _ lI (aqL W _ lI) (by
 refine(iw rfl rfl (by rw[At.G];omega) (At.Er qd _)).trans ?_;refine(sO rfl (nK.G _) (by rw[At.G];omega) (At.au8 _ _)).trans ?_;rfl)
@[go_sem]theorem aEH(W:ak)(k:Int)(s:List UInt8):(uL 66 #[(0,.b .a k),(3,.g (bU s))]).I ah W=.ok (.d ({qd with kind:=k,E:=s}:At).ay) W:=kAt.bd W _ _ _ _ lI (aqL W _ lI) (by
 refine(iw rfl rfl (by rw[At.G];omega) (At.Er qd _)).trans ?_;refine(iw rfl rfl (by rw[At.G];omega) (At.anO _ _)).trans ?_;rfl)
def YM:nK:=⟨0,jk,[],0⟩
theorem azv:oN 64 30 YM.ay:=⟨⟨_,vk,rfl⟩,by kernel_rfl,by kernel_rfl,nK.G _⟩
theorem azw(w:ak)(fs:Array Field)(h:ah.underlying 64=some (.struct fs)):(iA (fun f=>Prod.mk f.Z <$> sizeOf f.type) fs:Sem (Array (Nat×Nat))).I ah w=.ok #[(0,1),(1,27),(28,1),(29,1)] w:=by
 have e:=vk;rw[h]at e;cases e;show _=_
 kernel_rfl
theorem azx(W:ak):(awL #[(0,.g ⟨#[97]⟩),(1,.d (vg [10,0,0,9]).ay),(2,.b .a 8080),(4,.float .f64 4607182418800017408)]).I ah W=.ok (.d ajV.ay) W:=kBk.bd W _ _ _ _ nY (ais W _ nY) (by kernel_rfl)
@[go_sem ↓]theorem aG'(ps:Array (Nat×aB)):fI 64 ps=uL 64 ps:=rfl
@[go_sem]theorem aAZ(W:ak)(k:Int)(x:Bk):(uL 64 #[(0,.b .a k),(1,.d x.ay)]).I ah W=.ok (.d (nK.mk k x [] 0).ay) W:=azv.bd W _ _ _ _ vk (azw W _ vk) (by
 refine(iw rfl rfl (by rw[nK.G];omega) (show YM.ay.b 0 (.b .a k)=({YM with kind:=k}:nK).ay by simp[nK.ay,YM])).trans ?_;refine(sO rfl (Bk.G _) (by rw[nK.G];omega) (show sF ({YM with kind:=k}:nK).ay 1 x.ay=(nK.mk k x [] 0).ay by
  have:=qL (p:=#[.b .a k]) (q:=jk.ay) (r:=#[.g (bU []),fv 0]) (v:=x.ay) (by rw[Bk.G,Bk.G]) 1 rfl;show sF (nK.mk k jk [] 0).ay 1 x.ay=_;rw[nK.abb,nK.abb];exact this)).trans ?_
 rfl)
structure Aw(w0 W:ak)(q q2 g:Nat)(L:List (Nat×Array aB)):Prop where
 R:aM w0.a.j w0 W
 new:w0.a.j<=q/\w0.a.j<=q2/\w0.a.j<=g
 lt:q<W.a.j/\q2<W.a.j/\g<W.a.j
 G:∀p∈L,w0.a.j<=p.1/\p.1∉[q,q2,g]/\dL W p.1 p.2
section
variable {w0 W W':ak} {q q2 g:Nat} {L:List (Nat×Array aB)}
theorem Aw.go(h:Aw w0 W q q2 g L)(hb:aM W.a.j W W'):Aw w0 W' q q2 g L:=⟨h.R.trans (hb.g h.R.j),h.new,by have:=h.lt;have:=hb.j;omega,fun p hp=>⟨(h.G p hp).1,(h.G p hp).2.1,(h.G p hp).2.2.go hb⟩⟩
theorem Aw.step(h:Aw w0 W q q2 g L)(hf:jD [q,q2,g] W W'):Aw w0 W' q q2 g L:=⟨h.R.trans (hf.sK (fun b hb=>by have:=h.new;simp at hb;omega) h.R.j),h.new,by have:=h.lt;have:=hf.j;omega,fun p hp=>⟨(h.G p hp).1,(h.G p hp).2.1,hf.box (h.G p hp).2.2 (h.G p hp).2.1⟩⟩
theorem Aw.add(h:Aw w0 W q q2 g L)(c:Array aB)(t:bK):Aw w0 (W.alloc (.D c t)) q q2 g ((W.a.j,c)::L):=by
 have h1:=h.go ((aG W.a.j W).alloc (av _) (.D c t));refine⟨h1.R,h1.new,h1.lt,fun p hp=>?_⟩;rcases bC.1 hp with rfl|hp
 ·exact⟨h.R.j,by have:=h.lt;simp;omega,dL.new W c t⟩
 ·exact h1.G p hp
theorem Aw.box(h:Aw w0 W q q2 g L){p:Nat×Array aB}(hp:p∈L):dL W p.1 p.2:=(h.G p hp).2.2
def AwP(w0 W:ak)(q q2 g:Nat)(L:List (Nat×Array aB))(R:oM×Ou)(r:kZ)(W':ak):Prop:=
 ∃o x' sl',r=.a (.d (Oc.ay o))/\Aw w0 W' q q2 g L/\yU W' q yK R.1 x' q2 g sl'/\OcR W' o R.2/\(∀b∈vY o.Ny,b∉[q,q2,g])/\jD [q,q2,g] W W'
theorem AB{s:oM}{x:Eg}{sl:List (Option Fw)}{M:Int}(A:Aw w0 W q q2 g L)(h:yU W q yK s x q2 g sl)(hi:mE M yK s)(hM:M<1152921504606846976)(a:At)(u:Ac)(ha:AtR W a u)(hof:u.op.h.rE)(how:u.op.w<18446744073709551616)(R:oM×Ou)(hR:xG yK s u=R):
 aQ ah 25 #[.c (some ⟨q,0,none⟩),.d a.ay] W (AwP w0 W q q2 g L R):=by
 subst hR;refine(V9 h hi hM a u ha hof how).g ?_;rintro r W' ⟨o,x',sl',rfl,hou,hE,_,_,hf⟩;exact⟨o,x',sl',rfl,A.step hf,hE,hou.rd,fun b hb=>by have:=(kK hou.vC b hb).1;have:=A.lt;simp;omega,hf⟩
theorem yU.aEI{key:Vector UInt8 16}{c:Cn}{vs:List Vp}{s:oM}{x:Eg}{sl:List (Option Fw)}{A:Option aT}{n k:Nat}(h:yU W q ⟨key,{c with qH:=A,iI:=n,qI:=k},vs⟩ s x q2 g sl):yU W q ⟨key,c,vs⟩ s x q2 g sl:=
 ⟨⟨h.b.eg,h.b.key,h.b.cf,h.b.mQ,h.b.vs,h.b.h,h.b.hl,h.b.fl,h.b.tb,h.b.rm,h.b.nq,h.b.GU,h.b.gL,h.b.no,h.b.Y⟩,h.dn,h.tt⟩
end
theorem ahu(c:Cn)(vs:List Vp)(A:Option aT)(n k:Nat):xZ {c with qH:=A,iI:=n,qI:=k} vs=xZ c vs:=by unfold xZ;rfl
theorem adO(c:Cn)(vs:List Vp)(s:oM)(A:Option aT)(n k:Nat):zm {c with qH:=A,iI:=n,qI:=k} vs s=zm c vs s:=by unfold zm Vu;rw[ahu];rfl
theorem ajZ:xZ OH []=false:=by decide +kernel
theorem qy:jk.rE:=by unfold Bk.rE;simp[jk]
theorem ahv:ajV.rE:=by unfold Bk.rE;simp[ajV]
theorem azy:mk6 (Tu.mk (vg [1,2,3,4]) (vg [5,6,7,8]) 6 1000 80) [104,105]=awF:=by decide +kernel
theorem au':mk6 (Tu.mk (vg [1,2,3,4]) (vg [10,0,0,9]) 6 1000 8080) [104,105]=awW:=by decide +kernel
theorem ava:(IU 6 (xg (aa' (Tu.mk (vg [1,2,3,4]) (vg [5,6,7,8]) 6 1000 80) [104,105]))).1.dz=((20+2:Nat):Int):=by decide +kernel
theorem aqM:(IU 6 (xg (aa' (Tu.mk (vg [1,2,3,4]) (vg [10,0,0,9]) 6 1000 8080) [104,105]))).1.dz=((20+2:Nat):Int):=by decide +kernel
theorem avb:iZ (pY 16 [1]) = #[aI aW 1,aI aW 0,aI aW 0,aI aW 0,aI aW 0,aI aW 0,aI aW 0,aI aW 0,aI aW 0,aI aW 0,aI aW 0,aI aW 0,aI aW 0,aI aW 0,aI aW 0,aI aW 0]:=by kernel_rfl
theorem ar6:mE 0 yK xB:=JN _ ar2
theorem ar7:mE 1 yK aw0.1:=sQ ar6 acF qy (by decide)
theorem ar8:mE 2 yK aw1.1:=sQ ar7 acA ahv (by decide)
theorem ar9:mE 3 yK aw2.1:=sQ ar8 acF qy (by decide)
theorem ar':mE 4 yK aw3.1:=sQ ar9 acF qy (by decide)
theorem asa:mE 5 yK aw4.1:=sQ ar' (acH [98]) qy (by decide)
theorem asb:mE 6 yK aw5.1:=sQ asa (acH [97]) qy (by decide)
theorem ase:mE 7 yK aw6.1:=sQ asb acF qy (by decide)
theorem asf:mE 8 yK aw7.1:=sQ ase (acK 4) qy (by decide)
theorem asg:mE 9 yK Sk.1:=sQ asf (acK 9) qy (by decide)
section
variable {w0 W W':ak} {q q2 g b b' p n B:Nat} {c c':Array aB} {A:Option aT} {l:List UInt8} {L L':List (Nat×Array aB)}
theorem dL.azz(h:dL W b c)(k:dL W b c'):c=c':=by
 obtain⟨t,h⟩:=h;obtain⟨t',k⟩:=k;rw[h]at k;injection k with k
 injection k
theorem dL.ne(h:dL W b c)(k:dL W b' c')(hs:c.j≠c'.j):b≠b':=by
 rintro rfl;exact hs (by rw[h.azz k])
theorem fP.far(h:fP W B A n l)(k:dL W p c)(hn:c.j<n):∀y∈vY A,y∉[p]:=by
 intro y hy hp;obtain⟨a,rfl,_,hc⟩:=fP.fD h (k:=n-1) (by omega);obtain⟨t,hk⟩:=k;simp[vY]at hy hp;subst hp;rw[hy]at hk;unfold World.cell? at hc;rw[show(a.add (n-1)).block=a.block by unfold qX;split<;>rfl,hk]at hc;simp only at hc;split at hc
 ·cases hc
 ·have h1:=(Array.getElem?_eq_some_iff.1 hc).1
  have h2:n-1<=(a.add (n-1)).off:=by
   unfold qX;split<;>simp<;>omega
  omega
theorem Aw.put(h:Aw w0 W q q2 g L)(hf:jD [p] W W')(hb:dL W' p c')(hc:(p,c)∈L)(hL:∀y∈L',y∈L/\y.2.j≠c.j):Aw w0 W' q q2 g ((p,c')::L'):=by
 refine⟨h.R.trans (hf.sK (fun y hy=>by rw[fM.1 hy];exact(h.G _ hc).1) h.R.j),h.new,by have:=h.lt;have:=hf.j;omega,fun y hy=>?_⟩;rcases bC.1 hy with rfl|hy
 ·exact⟨(h.G _ hc).1,(h.G _ hc).2.1,hb⟩
 ·obtain⟨h1,h2⟩:=hL y hy
  refine⟨(h.G _ h1).1,(h.G _ h1).2.1,hf.box (h.G _ h1).2.2 (fun e=>h2 ?_)⟩;rw[fM]at e;obtain⟨y1,y2⟩:=y;simp only at e;subst e;rw[dL.azz (h.G _ h1).2.2 (h.G _ hc).2.2]
theorem iR.azA{α:Type}{f:α->Array aB}{sz:Nat}{A:Option aT}{W W':ak}{B B':Nat}{l:List α}(h:iR f sz W B A n l)(hl:l.a=0):iR f sz W' B' A n l:=by
 have e:=bE hl;subst e;have h1:=h.1;have h2:=h.2.1.1;refine⟨h.1,⟨h2,fun hn=>?_⟩,fun a ha hn=>?_⟩
 ·simp at h1;omega
 ·simp at h1;omega
theorem iR.aqN{α:Type}{f:α->Array aB}{sz:Nat}{x:α}{W:ak}{b:Nat}(h:dL W b (f x))(hs:(f x).j=sz):iR f sz W W.a.j (some ⟨b,0,none⟩) 1 [x]:=by
 refine⟨rfl,⟨by simp[hs],fun _=>⟨_,rfl,h.lt,fun j u hu=>?_⟩⟩,fun a ha _=>by injection ha with ha;subst ha;rfl⟩;rw[iD,bl,h.K.1];simpa[dD]using hu
structure TbQ(W:ak)(q:Nat)(x:Eg)(t:Tl):Prop where
 b:dL W q x.ay
 n:RdT W W.a.j x.tb.sS x.tb.ru t.h
 s:RdI W W.a.j x.tb.qM x.tb.pU t.uG
theorem TbQ.go{x:Eg}{t:Tl}(h:TbQ W q x t)(hb:aM W.a.j W W'):TbQ W' q x t:=⟨h.b.go hb,h.n.go hb,h.s.go hb⟩
end
@[go_sem]theorem aob(W:ak)(A1:Option aT)(n1 c1:Nat)(A2:Option aT)(n2 c2:Nat):(Instr.field 72 (.d (Tc.mk A1 n1 c1 A2 n2 c2).ay) 1).I ah W=.ok (.a A2 n2 c2) W:=by
 show _=_
 kernel_rfl
theorem adP{W:ak}{b:Nat}{x:Sh}(h:dL W b x.ay):(ae4 (.c (some ⟨b,0,none⟩))).I ah W=.ok (.d x.ay) W:=kSh.lU h (Sh.G _)
theorem aEJ:Sk.1.Y.a.c 8 0=2:=by decide +kernel
theorem avc:Sk.1.rZ.a<=9/\Sk.1.h.a<=9/\Sk.1.G.a<=9:=by decide +kernel
theorem aEK:zm anE [GV] Sk.1=true:=by decide +kernel
theorem azC:(zN yK Sk.1).h.a=0:=by decide +kernel
@[go_sem]theorem avd:Obj.cells #[aI bR 0,Value.slice none 0 0,aI bR 0,iC {data:=#[]},bL false,aI aW 0,aI aW 0,aI aW 0,aI aW 0,aI aW 0,aI aW 0,aI aW 0,aI aW 0,aI aW 0,aI aW 0,aI aW 0,aI aW 0,aI aW 0,aI aW 0,aI aW 0,aI aW 0,aI bR 0,aI aW 0,aI aW 0,aI aW 0,aI aW 0,aI aW 0,aI aW 0,vJ jV 0,bL false,iC {data:=#[]},vJ jV 0,iC {data:=#[]},bL false] 66=Obj.cells qd.ay 66:=by kernel_rfl
theorem fP.ku{W W' W2:ak}{A:Option aT}{n:Nat}{l:List UInt8}{F:List Nat}(h:fP W W.a.j A n l)(hf:jD F W W')(hn:∀b∈vY A,b∉F)(hb:aM W'.a.j W' W2):fP W2 W2.a.j A n l:=fP.upon (Nw h (av _) hf hn:fP W' W'.a.j A n l) hb
theorem OcR.all{W:ak}{o:Oc}{u:Ou}(h:OcR W o u):o.err=u.err/\o.gJ=u.gJ/\o.xS=u.xS/\o.mQ=u.mQ/\o.E=u.E:=⟨h.err,h.gJ,h.xS,h.mQ,h.E⟩
theorem anQ(w:ak)(c:Array aB)(l:List UInt8)(h:c.a=l.map bv)(m:Nat×Nat):fP (w.alloc (.D c 5 m)) (w.alloc (.D c 5 m)).a.j (some ⟨w.a.j,0,none⟩) l.a l:=by
 refine⟨by simp,fun _=>⟨_,rfl,by simp,fun j u hu=>?_⟩⟩;rw[iD,bl,cell_of_row _ _ _ _ _ _ (heap_alloc_new w (.D c 5 m)),<-hu,<-h,dD]
theorem ash(w:ak):(convert 56 56 (.a (some ⟨w.a.j,0,none⟩) 2 2)).I ah (w.alloc (.D #[.b .b 104,.b .b 105] 5))=.ok (.a (some ⟨w.a.j,0,none⟩) 2 2) (w.alloc (.D #[.b .b 104,.b .b 105] 5 (2,3))):=Lib.run_convert_bytes_const (P:=ah) w 56 5 #[.b .b 104,.b .b 105] 2 2 cB lq
theorem rG(w:ak):aQ ah 12 #[] w (gU w (.e true)):=by
 have CPL:=ab (adN w);have CN:=ab (fun(W:ak) (b:Nat) (hV:iR Vp.ay 20 W W.a.j (some ⟨b,0,none⟩) 1 [GV])=>YJ (pY 16 [1]) (Ka b) [GV] W hV (show 1<=1 by omega) (show 1<=100000 by omega) (by unfold Ka;rw[ahu];exact ar2));have C0:=ab (fun(W:ak)=>anA (pY 16 [1]) OH [] W (iR.nil _ _) (show 0<=0 by omega) (show 0<=100000 by omega) ajZ);have CM:=ab (fun(W:ak) (A:Option aT) (c:Nat) (hr:fP W W.a.j A 2 [104,105])=>ND (Tu.mk (vg [1,2,3,4]) (vg [5,6,7,8]) 6 1000 80) rfl rfl (by simp) (by simp) (by simp) (by simp) W A 2 c [104,105] (by omega) hr ava);have CM2:=ab (fun(W:ak) (A:Option aT) (c:Nat) (hr:fP W W.a.j A 2 [104,105])=>ND (Tu.mk (vg [1,2,3,4]) (vg [10,0,0,9]) 6 1000 8080) rfl rfl (by simp) (by simp) (by simp) (by simp) W A 2 c [104,105] (by omega) hr aqM);have NF0:=ab (show awF.a=56 from rfl);obtain⟨FF,hFF⟩:∃x,awF=x:=⟨_,rfl⟩
 obtain⟨WW,hWW⟩:∃x,awW=x:=⟨_,rfl⟩
 have JV:=ab hFF;have HWW:=ab hWW;rw[azy,hFF]at CM;rw[au',hWW]at CM2;rw[hFF]at NF0;clear hFF hWW;rw[avb]at CN C0;have b1:=aqI;have b9:=aqJ;have bk:=azx;obtain⟨D1,hD1⟩:∃d,vg [1,2,3,4]=d:=⟨_,rfl⟩
 obtain⟨D9,hD9⟩:∃d,vg [10,0,0,9]=d:=⟨_,rfl⟩
 obtain⟨D5,hD5⟩:∃d,vg [5,6,7,8]=d:=⟨_,rfl⟩
 rw[hD1]at b1 CM CM2;rw[hD9]at b9 bk CM2;rw[hD5]at CM;have HV5:=ab (show GV.ay.extract 0 17=D5.ay by rw[<-hD5];rfl);clear hD1 hD9 hD5;go_enter Tryz.func12,Tryz.ntmps12;go_upto_region 2 with(go_at_call 39;(with_reducible refine CPL.i.g ?_);rintro e w1 ⟨b,rfl,hv,hvb,hb0,hb⟩;have HV:=ab hv;have VB:=ab hvb;have HB0:=ab hb0;have Z1:=ab ((Bx.start w).go hb);clear hv hvb hb hb0)
 have Z2:=ab (Z1.i.new (Ka b).ay 29);have V2:=ab (HV.i.go ((aG w1.a.j w1).alloc (av _) (.D (Ka b).ay 29)));have VB2:=ab (VB.i.alloc (.D (Ka b).ay 29));have SB:=ab VB.i.lt;generalize w1.alloc (.D (Ka b).ay 29)=w2 at Z2 V2 VB2 ⊢;have HP1:=ab (show w.a.j<=w1.a.j from Z1.i.R.j);generalize w1.a.j=p1 at Z2 SB HP1 ⊢;clear CPL HV VB Z1;have l1:=NI.lU Z2.i.X (Cn.G _);unfold NC at CN;go_upto_region 3 with(go_at_call 23;(with_reducible refine(CN.i _ b V2.i).g ?_);rintro e w3 ⟨q,x,q2,g,sl,rfl,hE,hb3,hq,hrw⟩;have E3:=ab (yU.aEI hE);have Z3:=ab (Z2.i.go hb3);have V3:=ab (V2.i.go hb3);have VB3:=ab (VB2.i.go hb3);have HQ:=ab hq;have S3:=ab hb3.j;clear hE hb3 hq hrw)
 clear l1;go_upto_region 4 with(go_at_call 23;(with_reducible refine(C0.i _).g ?_);rintro e w4 ⟨rfl,hb4⟩;have E4:=ab (E3.i.go hb4);have Z4:=ab (Z3.i.go hb4);have V4:=ab (V3.i.go hb4);have VB4:=ab (VB3.i.go hb4);have S4:=ab hb4.j;clear hb4)
 have A4:=ab (show Aw w w4 q q2 g [(p1,(Ka b).ay),(b,GV.ay)]from⟨Z4.i.R,by have:=HQ.i;have:=Z2.i.R.j;omega,E4.i.b.lt,fun p hp=>by
  have hq:=HQ.i;have h1:=Z2.i.X.lt;have h2:=VB2.i.lt;have h3:=HP1.i;have h4:=HB0.i;simp at hp;rcases hp with rfl|rfl
  ·exact⟨h3,by simp;omega,Z4.i.X⟩
  ·exact⟨h4,by simp;omega,VB4.i⟩⟩)
 clear Z2 Z3 Z4 V2 V3 VB2 VB3 VB4 E3 HB0 SB CN C0;go_upto_region 6 with fail
 have fv:=((A4.i.box (p:=(p1,(Ka b).ay)) (by simp)).K.1 0).trans (Cn.JI (Ka b));change w4.b ⟨p1,0,none⟩=some (.a (some ⟨b,0,none⟩) 1 1)at fv;have la:=(A4.i.box (p:=(b,GV.ay)) (by simp)).Qp (o:=0) HV5.i (by rw[Vp.G];omega);go_upto_region 7 with fail
 have A5:=ab (A4.i.add (Tu.mk D1 D5 6 1000 80).ay 81);have E5:=ab (E4.i.go ((aG w4.a.j w4).alloc (av _) (.D (Tu.mk D1 D5 6 1000 80).ay 81)));generalize w4.alloc (.D (Tu.mk D1 D5 6 1000 80).ay 81)=w5 at A5 E5 ⊢;generalize w4.a.j=p6 at A5 ⊢;clear fv la A4 E4;have lt5:=pF (A5.i.box (p:=(p6,(Tu.mk D1 D5 6 1000 80).ay)) (by simp));have R5:=ab (anQ w5 #[.b .b 104,.b .b 105] [104,105] rfl (2,3));have B5:=ab ((aG w5.a.j w5).alloc (av _) (.D #[.b .b 104,.b .b 105] 5 (2,3)));have kc:=ash;unfold J7 at CM CM2;go_upto_region 8 with(go_at_call 40;(with_reducible refine(CM.i _ _ 2 R5.i).g ?_);rintro e w6 ⟨FA,fn,fc,rfl,hn,ho,hb⟩;have A6:=ab ((A5.i.go B5.i).go hb);have E6:=ab ((E5.i.go B5.i).go hb);have HN:=ab hn;have HO:=ab ho;clear hn ho hb)
 have RF:=ab (fP.iY HO.i);have NF:=ab (show∀k∈vY FA,k∉[q,q2,g]from fun k hk=>by have h1:=(kK HO.i k hk).1;have h2:=(A5.i.go B5.i).lt;simp;omega);have LF:=ab (show fn<=fc/\fc<=9223372036854775807/\fn<=1000000 by obtain⟨A9,c9,e9,l1,l2⟩:=jS HO.i;injection e9 with e1 e2 e3;subst e3;refine⟨l1,by unfold maxLen at l2;omega,by have h3:=HN.i;have h4:=NF0.i;omega⟩);clear HN HO;have A7:=ab (A6.i.add ({qd with kind:=1,Wn:=FA,NA:=fn,Ll:=fc}:At).ay 66);have B7:=ab ((aG w6.a.j w6).alloc (av _) (.D ({qd with kind:=1,Wn:=FA,NA:=fn,Ll:=fc}:At).ay 66));have E7:=ab (E6.i.go B7.i);have R7:=ab (RF.i.upon B7.i);generalize w6.alloc (.D ({qd with kind:=1,Wn:=FA,NA:=fn,Ll:=fc}:At).ay 66)=w7 at A7 E7 R7 B7 ⊢;generalize w6.a.j=p7 at A7 ⊢;cases JV.i;clear A5 E5 R5 B5 A6 E6 RF B7 lt5 CM kc;obtain⟨fy1,fy2,fy3,fy4⟩:=(A7.i.box (p:=(p7,({qd with kind:=1,Wn:=FA,NA:=fn,Ll:=fc}:At).ay)) (by simp)).K;have CS:=ab (AB A7.i E7.i ar6 (by omega) ({qd with kind:=1,Wn:=FA,NA:=fn,Ll:=fc}:At) acF ⟨rfl,R7.i,LF.i,rfl,rfl,rfl⟩ qy (by decide) aw0 rfl);unfold AwP at CS;go_upto_region 9 with(go_at_call 25;(with_reducible refine CS.i.g ?_);rintro r v0 ⟨o0,x0,sl0,rfl,h1,h2,h3,h4,h5⟩;have HA:=ab h1;have HE:=ab h2;have HO:=ab h3;have HN0:=ab h4;have HF:=ab h5;clear h1 h2 h3 h4 h5)
 have A8:=ab (HA.i.add o0.ay 58);have BB:=ab ((aG v0.a.j v0).alloc (av _) (.D o0.ay 58));have E8:=ab (HE.i.go BB.i);have R8:=ab (fP.ku R7.i HF.i NF.i BB.i);have O0:=ab (HO.i.go BB.i);generalize v0.alloc (.D o0.ay 58)=u0 at A8 E8 R8 O0 ⊢;generalize v0.a.j=p8 at A8 ⊢;have H0:=ab O0.i.all;clear CS HA HE HO HF BB A7 E7 R7 O0 fy1 fy2 fy3 fy4;have CS:=ab (AB A8.i E8.i ar7 (by omega) ({qd with kind:=2,op:=⟨1,ajV,[],0⟩}:At) acA ⟨rfl,GN _,⟨av _,gQ _,gQ _⟩,rfl,rfl,rfl⟩ ahv (by decide) aw1 rfl);unfold AwP at CS;obtain⟨BK,hBK⟩:∃x,ajV=x:=⟨_,rfl⟩
 rw[hBK]at CS bk;clear hBK;go_upto_region 10 with(go_at_call 25;(with_reducible refine CS.i.g ?_);rintro r v1 ⟨o1,x1,sl1,rfl,h1,h2,h3,h4,h5⟩;have HA:=ab h1;have HE:=ab h2;have HO:=ab h3;have HN1:=ab h4;have HF:=ab h5;clear h1 h2 h3 h4 h5)
 have A9:=ab (HA.i.add o1.ay 58);have BB:=ab ((aG v1.a.j v1).alloc (av _) (.D o1.ay 58));have E9:=ab (HE.i.go BB.i);have R9:=ab (fP.ku R8.i HF.i NF.i BB.i);have O1:=ab (HO.i.go BB.i);generalize v1.alloc (.D o1.ay 58)=u1 at A9 E9 R9 O1 ⊢;generalize v1.a.j=p9 at A9 ⊢;have H1:=ab O1.i.all;clear CS HA HE HO HF BB A8 E8 R8 O1 bk;obtain⟨fy1,fy2,fy3,fy4⟩:=(A9.i.box (p:=(p7,({qd with kind:=1,Wn:=FA,NA:=fn,Ll:=fc}:At).ay)) (by simp)).K;have CS:=ab (AB A9.i E9.i ar8 (by omega) ({qd with kind:=1,Wn:=FA,NA:=fn,Ll:=fc}:At) acF ⟨rfl,R9.i,LF.i,rfl,rfl,rfl⟩ qy (by decide) aw2 rfl);unfold AwP at CS;go_upto_region 11 with(go_at_call 25;(with_reducible refine CS.i.g ?_);rintro r v2 ⟨o2,x2,sl2,rfl,h1,h2,h3,h4,h5⟩;have HA:=ab h1;have HE:=ab h2;have HO:=ab h3;have Pb:=ab h4;have HF:=ab h5;clear h1 h2 h3 h4 h5)
 have A10:=ab (HA.i.add o2.ay 58);have BB:=ab ((aG v2.a.j v2).alloc (av _) (.D o2.ay 58));have E10:=ab (HE.i.go BB.i);have R10:=ab (fP.ku R9.i HF.i NF.i BB.i);have O2:=ab (HO.i.go BB.i);generalize v2.alloc (.D o2.ay 58)=u2 at A10 E10 R10 O2 ⊢;generalize v2.a.j=p10 at A10 ⊢;have H2:=ab O2.i.all;have Q10:=ab (show fP u2 u2.a.j o2.Ny o2.V8 awW by have:=O2.i.i;rw[anF]at this;exact this);clear CS HA HE HO HF BB A9 E9 R9 O2 fy1 fy2 fy3 fy4;obtain⟨fy1,fy2,fy3,fy4⟩:=(A10.i.box (p:=(p7,({qd with kind:=1,Wn:=FA,NA:=fn,Ll:=fc}:At).ay)) (by simp)).K;have CS:=ab (AB A10.i E10.i ar9 (by omega) ({qd with kind:=1,Wn:=FA,NA:=fn,Ll:=fc}:At) acF ⟨rfl,R10.i,LF.i,rfl,rfl,rfl⟩ qy (by decide) aw3 rfl);unfold AwP at CS;go_upto_region 12 with(go_at_call 25;(with_reducible refine CS.i.g ?_);rintro r v3 ⟨o3,x3,sl3,rfl,h1,h2,h3,h4,h5⟩;have HA:=ab h1;have HE:=ab h2;have HO:=ab h3;have HN3:=ab h4;have HF:=ab h5;clear h1 h2 h3 h4 h5)
 have A11:=ab (HA.i.add o3.ay 58);have BB:=ab ((aG v3.a.j v3).alloc (av _) (.D o3.ay 58));have E11:=ab (HE.i.go BB.i);have R11:=ab (fP.ku R10.i HF.i NF.i BB.i);have O3:=ab (HO.i.go BB.i);have Q11:=ab (fP.ku Q10.i HF.i Pb.i BB.i);generalize v3.alloc (.D o3.ay 58)=u3 at A11 E11 R11 O3 Q11 ⊢;generalize v3.a.j=p11 at A11 ⊢;have H3:=ab O3.i.all;clear CS HA HE HO HF BB A10 E10 R10 O3 fy1 fy2 fy3 fy4 Q10;have CS:=ab (AB A11.i E11.i ar' (by omega) ({qd with kind:=3,E:=[98]}:At) (acH [98]) ⟨rfl,GN _,⟨av _,gQ _,gQ _⟩,rfl,rfl,rfl⟩ qy (by decide) aw4 rfl);unfold AwP at CS;have es:(⟨#[98]⟩:ByteArray)=bU [98]:=rfl;go_upto_region 13 with(go_at_call 25;(with_reducible refine CS.i.g ?_);rintro r v4 ⟨o4,x4,sl4,rfl,h1,h2,h3,h4,h5⟩;have HA:=ab h1;have HE:=ab h2;have HO:=ab h3;have HN4:=ab h4;have HF:=ab h5;clear h1 h2 h3 h4 h5)
 have A12:=ab (HA.i.add o4.ay 58);have BB:=ab ((aG v4.a.j v4).alloc (av _) (.D o4.ay 58));have E12:=ab (HE.i.go BB.i);have R12:=ab (fP.ku R11.i HF.i NF.i BB.i);have O4:=ab (HO.i.go BB.i);have Q12:=ab (fP.ku Q11.i HF.i Pb.i BB.i);generalize v4.alloc (.D o4.ay 58)=u4 at A12 E12 R12 O4 Q12 ⊢;generalize v4.a.j=p12 at A12 ⊢;have H4:=ab O4.i.all;clear CS HA HE HO HF BB A11 E11 R11 O4 es Q11;have CS:=ab (AB A12.i E12.i asa (by omega) ({qd with kind:=3,E:=[97]}:At) (acH [97]) ⟨rfl,GN _,⟨av _,gQ _,gQ _⟩,rfl,rfl,rfl⟩ qy (by decide) aw5 rfl);unfold AwP at CS;have es:(⟨#[97]⟩:ByteArray)=bU [97]:=rfl;go_upto_region 14 with(go_at_call 25;(with_reducible refine CS.i.g ?_);rintro r v5 ⟨o5,x5,sl5,rfl,h1,h2,h3,h4,h5⟩;have HA:=ab h1;have HE:=ab h2;have HO:=ab h3;have HN5:=ab h4;have HF:=ab h5;clear h1 h2 h3 h4 h5)
 have A13:=ab (HA.i.add o5.ay 58);have BB:=ab ((aG v5.a.j v5).alloc (av _) (.D o5.ay 58));have E13:=ab (HE.i.go BB.i);have R13:=ab (fP.ku R12.i HF.i NF.i BB.i);have O5:=ab (HO.i.go BB.i);have Q13:=ab (fP.ku Q12.i HF.i Pb.i BB.i);generalize v5.alloc (.D o5.ay 58)=u5 at A13 E13 R13 O5 Q13 ⊢;generalize v5.a.j=p13 at A13 ⊢;have H5:=ab O5.i.all;clear CS HA HE HO HF BB A12 E12 R12 O5 es Q12;obtain⟨fy1,fy2,fy3,fy4⟩:=(A13.i.box (p:=(p7,({qd with kind:=1,Wn:=FA,NA:=fn,Ll:=fc}:At).ay)) (by simp)).K;have CS:=ab (AB A13.i E13.i asb (by omega) ({qd with kind:=1,Wn:=FA,NA:=fn,Ll:=fc}:At) acF ⟨rfl,R13.i,LF.i,rfl,rfl,rfl⟩ qy (by decide) aw6 rfl);unfold AwP at CS;go_upto_region 15 with(go_at_call 25;(with_reducible refine CS.i.g ?_);rintro r v6 ⟨o6,x6,sl6,rfl,h1,h2,h3,h4,h5⟩;have HA:=ab h1;have HE:=ab h2;have HO:=ab h3;have HN6:=ab h4;have HF:=ab h5;clear h1 h2 h3 h4 h5)
 have A14:=ab (HA.i.add o6.ay 58);have BB:=ab ((aG v6.a.j v6).alloc (av _) (.D o6.ay 58));have E14:=ab (HE.i.go BB.i);have R14:=ab (fP.ku R13.i HF.i NF.i BB.i);have O6:=ab (HO.i.go BB.i);have Q14:=ab (fP.ku Q13.i HF.i Pb.i BB.i);generalize v6.alloc (.D o6.ay 58)=u6 at A14 E14 R14 O6 Q14 ⊢;generalize v6.a.j=p14 at A14 ⊢;have H6:=ab O6.i.all;clear CS HA HE HO HF BB A13 E13 R13 O6 fy1 fy2 fy3 fy4 Q13;have CS:=ab (AB A14.i E14.i ase (by omega) ({qd with kind:=4}:At) (acK 4) ⟨rfl,GN _,⟨av _,gQ _,gQ _⟩,rfl,rfl,rfl⟩ qy (by decide) aw7 rfl);unfold AwP at CS;go_upto_region 16 with(go_at_call 25;(with_reducible refine CS.i.g ?_);rintro r v7 ⟨o7,x7,sl7,rfl,h1,h2,h3,h4,h5⟩;have HA:=ab h1;have HE:=ab h2;have HO:=ab h3;have HN7:=ab h4;have HF:=ab h5;clear h1 h2 h3 h4 h5)
 have A15:=ab (HA.i.add o7.ay 58);have BB:=ab ((aG v7.a.j v7).alloc (av _) (.D o7.ay 58));have E15:=ab (HE.i.go BB.i);have R15:=ab (fP.ku R14.i HF.i NF.i BB.i);have O7:=ab (HO.i.go BB.i);have Q15:=ab (fP.ku Q14.i HF.i Pb.i BB.i);generalize v7.alloc (.D o7.ay 58)=u7 at A15 E15 R15 O7 Q15 ⊢;generalize v7.a.j=p15 at A15 ⊢;have H7:=ab O7.i.all;clear CS HA HE HO HF BB A14 E14 R14 O7 Q14;have CS:=ab (AB A15.i E15.i asf (by omega) ({qd with kind:=9}:At) (acK 9) ⟨rfl,GN _,⟨av _,gQ _,gQ _⟩,rfl,rfl,rfl⟩ qy (by decide) Sk rfl);unfold AwP at CS;go_upto_region 17 with(go_at_call 25;(with_reducible refine CS.i.g ?_);rintro r v8 ⟨o8,x8,sl8,rfl,h1,h2,h3,h4,h5⟩;have HA:=ab h1;have HE:=ab h2;have HO:=ab h3;have HN8:=ab h4;have HF:=ab h5;clear h1 h2 h3 h4 h5)
 have A16:=ab (HA.i.add o8.ay 58);have BB:=ab ((aG v8.a.j v8).alloc (av _) (.D o8.ay 58));have E16:=ab (HE.i.go BB.i);have R16:=ab (fP.ku R15.i HF.i NF.i BB.i);have O8:=ab (HO.i.go BB.i);have Q16:=ab (fP.ku Q15.i HF.i Pb.i BB.i);generalize v8.alloc (.D o8.ay 58)=u8 at A16 E16 R16 O8 Q16 ⊢;generalize v8.a.j=p16 at A16 ⊢;have H8:=ab O8.i.all;clear CS HA HE HO HF BB A15 E15 R15 O8 Q15;have CS:=ab (adI E16.i asg);unfold azk at CS;go_upto_region 18 with(go_at_call 20;(with_reducible refine CS.i.g ?_);rintro r v9 ⟨X,rfl,ho,hb⟩;have HO:=ab ho;have HB:=ab hb;clear ho hb)
 have NS:=ab (show∀y,(y∈vY X.b.A\/y∈vY X.h.A\/y∈vY X.f.A)->y∉[p6]from fun y hy=>by have h1:=(A16.i.box (p:=(p6,(Tu.mk D1 D5 6 1000 80).ay)) (by simp)).lt;rcases hy with hy|hy|hy;(have h2:=(kK HO.i.b y hy).1;simp;omega);(have h2:=(kK HO.i.h y hy).1;simp;omega);(have h2:=(kK HO.i.f y hy).1;simp;omega));have B17:=ab ((aG v9.a.j v9).alloc (av _) (.D X.ay 37));have A17:=ab ((A16.i.go HB.i).add X.ay 37);have E17:=ab ((E16.i.go HB.i).go B17.i);have S17:=ab ((HO.i.r asg).go B17.i);have Q17:=ab (fP.upon (fP.upon Q16.i HB.i) B17.i);generalize v9.alloc (.D X.ay 37)=u9 at A17 E17 S17 Q17 ⊢;generalize v9.a.j=p17 at A17 ⊢;clear CS HO HB B17 A16 E16 R16 Q16 NF LF;have BT:=ab (A17.i.box (p:=(p6,(Tu.mk D1 D5 6 1000 80).ay)) (by simp));have th:=BT.i.O 17 17 (by rw[Tu.G];omega);have BX:=ab (show dL (gN u9 p6 17 D9.ay) p6 (Tu.mk D1 D9 6 1000 80).ay by have h1:=BT.i.setCells 17 D9.ay.a;have h2:=Tu.RY (Tu.mk D1 D5 6 1000 80) D9;rw[<-h2];simpa[gN]using h1);obtain⟨fx1,fx2,-,-⟩:=BX.i.K;have fx3:=(fx1 36).trans (show(Tu.mk D1 D9 6 1000 80).ay[36]? = some (.b .a 80)by simp[Tu.ay,tuT,aD,fq.G]);have fx4:=fx2 36;clear fx1 fx2;go_upto_region 20 with fail
 have F12:=ab (show jD [p6] u9 ((gN u9 p6 17 D9.ay).F ⟨p6,36,none⟩ (.b .a 8080))from(yx u9 p6 17 D9.ay).set ⟨p6,36,none⟩ _ (.a (by simp)));have B2:=ab (show dL ((gN u9 p6 17 D9.ay).F ⟨p6,36,none⟩ (.b .a 8080)) p6 (Tu.mk D1 D9 6 1000 8080).ay by have h:=BX.i.eH 36 (.b .a 8080);rw[Tu.aq9]at h;exact h);have A20:=ab (show Aw w ((gN u9 p6 17 D9.ay).F ⟨p6,36,none⟩ (.b .a 8080)) q q2 g [(p6,(Tu.mk D1 D9 6 1000 8080).ay),(p17,X.ay),(p16,o8.ay),(p15,o7.ay),(p14,o6.ay),(p13,o5.ay),(p12,o4.ay),(p11,o3.ay),(p10,o2.ay),(p9,o1.ay),(p8,o0.ay),(p7,({qd with kind:=1,Wn:=FA,NA:=fn,Ll:=fc}:At).ay),(p1,(Ka b).ay),(b,GV.ay)]from A17.i.put (c:=(Tu.mk D1 D5 6 1000 80).ay) F12.i B2.i (by simp) (by intro y hy;simp only[bC,List.not_mem_nil,or_false]at hy⊢;rcases hy with rfl|rfl|rfl|rfl|rfl|rfl|rfl|rfl|rfl|rfl|rfl|rfl|rfl;all_goals exact⟨by simp,by simp[Oc.G,At.G,Sh.G,Cn.G,Vp.G,Tu.G]⟩));have EG:=ab (show TbQ ((gN u9 p6 17 D9.ay).F ⟨p6,36,none⟩ (.b .a 8080)) q x8 (zN yK Sk.1)from⟨F12.i.box E17.i.b.eg (by have:=dL.ne E17.i.b.eg BT.i (by rw[Eg.G,Tu.G];omega);simp;exact this),iR.azA E17.i.tt.texts azC,iR.azA E17.i.tt.aEs ajW.2.2.2.2⟩);have S20:=ab (show StR ((gN u9 p6 17 D9.ay).F ⟨p6,36,none⟩ (.b .a 8080)) ((gN u9 p6 17 D9.ay).F ⟨p6,36,none⟩ (.b .a 8080)).a.j X Sk.1 from⟨S17.i.mQ,S17.i.b.keep F12.i (fun y hy=>NS.i y (.a hy)),S17.i.h.keep F12.i (fun y hy=>NS.i y (.inr (.a hy))),S17.i.f.keep F12.i (fun y hy=>NS.i y (.inr (.inr hy))),S17.i.gL,S17.i.no,S17.i.Y,S17.i.rE,S17.i.ard,S17.i.alF,S17.i.nb,S17.i.nh,S17.i.nf⟩);have Q20:=ab (show fP ((gN u9 p6 17 D9.ay).F ⟨p6,36,none⟩ (.b .a 8080)) ((gN u9 p6 17 D9.ay).F ⟨p6,36,none⟩ (.b .a 8080)).a.j o2.Ny o2.V8 awW from Nw Q17.i (av _) F12.i (fP.far Q17.i BT.i (by have h1:=fP.len Q17.i;have h2:awW.a=56:=rfl;rw[Tu.G];omega)));generalize((gN u9 p6 17 D9.ay).F ⟨p6,36,none⟩ (.b .a 8080))=u10 at A20 EG S20 Q20 ⊢;clear F12 B2 BX BT A17 E17 S17 Q17 NS th fx3 fx4;have FX:=ab (fun(W':ak) (h:Aw w W' q q2 g [(p6,(Tu.mk D1 D9 6 1000 8080).ay),(p17,X.ay),(p16,o8.ay),(p15,o7.ay),(p14,o6.ay),(p13,o5.ay),(p12,o4.ay),(p11,o3.ay),(p10,o2.ay),(p9,o1.ay),(p8,o0.ay),(p7,({qd with kind:=1,Wn:=FA,NA:=fn,Ll:=fc}:At).ay),(p1,(Ka b).ay),(b,GV.ay)])=>show W'.b ⟨p8,1,none⟩=some (.b .a 8)/\W'.b ⟨p9,3,none⟩=some (.b .a 1)/\W'.b ⟨p10,1,none⟩=some (.b .a 0)/\W'.b ⟨p10,4,none⟩=some (.g ⟨#[97]⟩)/\W'.b ⟨p10,2,none⟩=some (.e false)/\W'.b ⟨p10,3,none⟩=some (.b .a 1)/\W'.b ⟨p10,5,none⟩=some (.a o2.Ny o2.V8 o2.aa3)/\W'.b ⟨p11,2,none⟩=some (.e true)/\W'.b ⟨p12,0,none⟩=some (.b .a 5)/\W'.b ⟨p13,0,none⟩=some (.b .a 0)/\W'.b ⟨p14,1,none⟩=some (.b .a 8)/\W'.b ⟨p15,0,none⟩=some (.b .a 0)/\W'.b ⟨p16,0,none⟩=some (.b .a 1)/\W'.b ⟨p17,5,none⟩=some (.b .a 2)/\W'.b ⟨p17,4,none⟩=some (.b .a 1)/\W'.b ⟨p17,3,none⟩=some (.a X.f.A 1 X.f.c)/\W'.b ⟨p17,14,none⟩=some (.b .a 2)from⟨((h.box (p:=(p8,o0.ay)) (by simp)).K.1 1).trans (by rw[show o0.ay[1]? = some (.b .a o0.gJ)from rfl,H0.i.2.1,aEw]<;>rfl),
  ((h.box (p:=(p9,o1.ay)) (by simp)).K.1 3).trans (by rw[show o1.ay[3]? = some (.b .a o1.mQ)from rfl,H1.i.2.2.2.1,aEx]<;>rfl),
  ((h.box (p:=(p10,o2.ay)) (by simp)).K.1 1).trans (by rw[show o2.ay[1]? = some (.b .a o2.gJ)from rfl,H2.i.2.1,anF]<;>rfl),
  ((h.box (p:=(p10,o2.ay)) (by simp)).K.1 4).trans (by rw[show o2.ay[4]? = some (.g (bU o2.E))from rfl,H2.i.2.2.2.2,anF]<;>rfl),
  ((h.box (p:=(p10,o2.ay)) (by simp)).K.1 2).trans (by rw[show o2.ay[2]? = some (.e o2.xS)from rfl,H2.i.2.2.1,anF]<;>rfl),
  ((h.box (p:=(p10,o2.ay)) (by simp)).K.1 3).trans (by rw[show o2.ay[3]? = some (.b .a o2.mQ)from rfl,H2.i.2.2.2.1,anF]<;>rfl),
  ((h.box (p:=(p10,o2.ay)) (by simp)).K.1 5).trans (by rw[show o2.ay[5]? = some (.a o2.Ny o2.V8 o2.aa3)from rfl]<;>rfl),
  ((h.box (p:=(p11,o3.ay)) (by simp)).K.1 2).trans (by rw[show o3.ay[2]? = some (.e o3.xS)from rfl,H3.i.2.2.1,aEy]<;>rfl),
  ((h.box (p:=(p12,o4.ay)) (by simp)).K.1 0).trans (by rw[show o4.ay[0]? = some (.b .a o4.err)from rfl,H4.i.1,aEz]<;>rfl),
  ((h.box (p:=(p13,o5.ay)) (by simp)).K.1 0).trans (by rw[show o5.ay[0]? = some (.b .a o5.err)from rfl,H5.i.1,aEA]<;>rfl),
  ((h.box (p:=(p14,o6.ay)) (by simp)).K.1 1).trans (by rw[show o6.ay[1]? = some (.b .a o6.gJ)from rfl,H6.i.2.1,aEB]<;>rfl),
  ((h.box (p:=(p15,o7.ay)) (by simp)).K.1 0).trans (by rw[show o7.ay[0]? = some (.b .a o7.err)from rfl,H7.i.1,aEC]<;>rfl),
  ((h.box (p:=(p16,o8.ay)) (by simp)).K.1 0).trans (by rw[show o8.ay[0]? = some (.b .a o8.err)from rfl,H8.i.1,aED]<;>rfl),
  ((h.box (p:=(p17,X.ay)) (by simp)).K.1 5).trans (by rw[show X.ay[5]? = some (.b .a X.no)from Sh.alC X,S20.i.no,ajW.1]<;>rfl),
  ((h.box (p:=(p17,X.ay)) (by simp)).K.1 4).trans (by rw[show X.ay[4]? = some (.b .a X.gL)from Sh.alB X,S20.i.gL,ajW.2.1]<;>rfl),
  ((h.box (p:=(p17,X.ay)) (by simp)).K.1 3).trans (by rw[show X.ay[3]? = some (.a X.f.A X.f.n X.f.c)from Sh.agz X,<-S20.i.f.len,ajW.2.2.2.1]<;>rfl),
  ((h.box (p:=(p17,X.ay)) (by simp)).K.1 14).trans ((Sh.agV X 8 (by omega)).trans (by rw[S20.i.Y,aEJ]))⟩)
 clear H0 H1 H2 H3 H4 H5 H6 H7 H8 Pb HN0 HN1 HN3 HN4 HN5 HN6 HN7 HN8;have lt:=pF (A20.i.box (p:=(p6,(Tu.mk D1 D9 6 1000 8080).ay)) (by simp));have RQ:=ab (anQ u10 #[.b .b 104,.b .b 105] [104,105] rfl (2,3));have BQ:=ab ((aG u10.a.j u10).alloc (av _) (.D #[.b .b 104,.b .b 105] 5 (2,3)));have kc:=ash;cases HWW.i;have CR:=ab (fun(W:ak) (h:iR Vp.ay 20 W W.a.j (some ⟨b,0,none⟩) 1 [GV]) (hs:StR W W.a.j X Sk.1)=>Jc (Ka b) [GV] X Sk.1 W h (show 1<=1 by omega) (show 1<=100000 by omega) hs (by have:=avc;omega) (by have:=avc;omega) (by have:=avc;omega) true ((adO anE [GV] Sk.1 _ _ _).trans aEK));have CT:=ab (fun(W:ak) (h:TbQ W q x8 (zN yK Sk.1))=>agc (zN yK Sk.1) h.b h.n h.s (by have:=azC;omega) (by have:=ajW.2.2.2.2;omega));have CX:=ab (fun(W:ak) (hs:StR W W.a.j X Sk.1)=>afb X X Sk.1 Sk.1 W hs hs true (acI _));unfold azo at CT;go_wp2_with (first
  | (go_at_call 40;(with_reducible refine(CM2.i _ _ 2 RQ.i).g ?_);rintro r w11 ⟨A2,n2,c2,rfl,hn,ho,hb⟩;have A21:=ab ((A20.i.go BQ.i).go hb);have EG1:=ab ((EG.i.go BQ.i).go hb);have S21:=ab ((S20.i.go BQ.i).go hb);have Q21:=ab (fP.upon (fP.upon Q20.i BQ.i) hb);have R21:=ab (fP.iY ho);have T1:=(EX Q21.i o2.aa3).2;have T2:=(EX R21.i c2).2;obtain⟨f0,f1,f2,f3,f4,f5,f6,f7,f8,f9,f10,f11,f12,f13,f14,f15,f16⟩:=FX.i w11 A21.i;clear hn ho hb)
  | (go_at_call 31;(with_reducible refine(CT.i _ EG1.i).g ?_);rintro r w12 ⟨⟨nA,nn,nc,sA,sn,sc⟩,rfl,ht,hb⟩;obtain rfl:sn=0:=(ht.sn.symm.trans ajW.2.2.2.2);have A22:=ab (A21.i.go hb);have S22:=ab (S21.i.go hb);have lc:=NI.lU (A22.i.box (p:=(p1,(Ka b).ay)) (by simp)) (Cn.G _);have ls:=adP (A22.i.box (p:=(p17,X.ay)) (by simp));have V22:=ab (iR.aqN (f:=Vp.ay) (sz:=20) (A22.i.box (p:=(b,GV.ay)) (by simp)) (Vp.G _));clear ht hb)
  | (go_at_call 15;(with_reducible refine(CR.i _ V22.i S22.i).g ?_);rintro r w13 ⟨rfl,hb⟩;have A23:=ab (A22.i.go hb);have S23:=ab (S22.i.go hb);have l3:=adP (A23.i.box (p:=(p17,X.ay)) (by simp));clear hb)
  | (go_at_call 17;(with_reducible refine(CX.i _ S23.i).g ?_);rintro r w14 ⟨rfl,hb⟩;have A24:=ab (A23.i.go hb);clear hb))
 go_ret;exact⟨rfl,A24.i.R⟩
structure Uno(W0 W:ak)(q:Nat)(e:En)(s:oM)(x:Eg)(q2 g:Nat)(sl:List (Option Fw)):Prop where
 r:yU W q e s x q2 g sl
 R:aM W0.a.j W0 W
 new:W0.a.j<=q/\W0.a.j<=q2/\W0.a.j<=g
 GU:∀k∈qA x,W0.a.j<=k
section
variable {W0 W W':ak} {q q2 g r r2 g2:Nat} {e:En} {s t:oM} {x y x':Eg} {sl sm sl':List (Option Fw)}
theorem Uno.go(h:Uno W0 W q e s x q2 g sl)(hb:aM W.a.j W W'):Uno W0 W' q e s x q2 g sl:=⟨h.r.go hb,h.R.trans (hb.g h.R.j),h.new,h.GU⟩
theorem Uno.lt(h:Uno W0 W q e s x q2 g sl):q<W.a.j/\q2<W.a.j/\g<W.a.j:=h.r.b.lt
theorem Uno.start(h:yU W' q e s x q2 g sl)(h0:aM W0.a.j W0 W)(hb:aM W.a.j W W')(hq:W.a.j<=q/\W.a.j<=q2/\W.a.j<=g)(hr:∀k∈qA x,W.a.j<=k):Uno W0 W' q e s x q2 g sl:=by
 have:=h0.j;exact⟨h,h0.trans (hb.g h0.j),by omega,fun k hk=>by have:=hr k hk;omega⟩
theorem Uno.abS(h:Uno W0 W q e s x q2 g sl)(h':yU W' q e t x' q2 g sl')(hf:jD [q,q2,g] W W')(hr:∀k∈qA x',k∈qA x\/W.a.j<=k):Uno W0 W' q e t x' q2 g sl':=
 ⟨h',h.R.trans (hf.sK (fun k hk=>by have:=h.new;simp at hk;omega) h.R.j),h.new,fun k hk=>(hr k hk).elim (h.GU k) (fun h1=>Nat.le_trans h.R.j h1)⟩
end
def aj0(W0 W:ak)(q:Nat)(e:En)(q2 g:Nat)(R:oM×Ou)(z:kZ)(W':ak):Prop:=
 ∃o x' sl',z=.a (.d (Oc.ay o))/\OuR W.a.j W' o R.2/\Uno W0 W' q e R.1 x' q2 g sl'/\jD [q,q2,g] W W'
section
variable {W0 W W':ak} {q q2 g r r2 g2:Nat} {e:En} {s t:oM} {x y x':Eg} {sl sm sl':List (Option Fw)} {M:Int}
theorem Jd(h:Uno W0 W q e s x q2 g sl)(hi:mE M e s)(hM:M<1152921504606846976)(a:At)(u:Ac)(ha:AtR W a u)(hof:u.op.h.rE)(how:u.op.w<18446744073709551616):
 aQ ah 25 #[.c (some ⟨q,0,none⟩),.d a.ay] W (aj0 W0 W q e q2 g (xG e s u)):=
 (V9 h.r hi hM a u ha hof how).g (by
  rintro z W' ⟨o,x',sl',rfl,ho,hE,hl,hr,hf⟩;exact⟨o,x',sl',rfl,ho,h.abS hE hf hr,hf⟩)
end
def abd(e:En)(s:oM)(us:List Ac):oM:=us.foldl (fun s u=>(xG e s u).1) s
theorem aj1(e:En)(s:oM)(us:List Ac)(u:Ac):abd e s (us++[u])=(xG e (abd e s us) u).1:=by simp[abd]
theorem aj2{e:En}{s:oM}{us:List Ac}{k:Nat}(h:k<us.a):abd e s (us.d (k+1))=(xG e (abd e s (us.d k)) (us.c k anB)).1:=by
 rw[List.take_add_one,aC h,au,aC h];exact aj1 _ _ _ _
theorem adQ{e:En}{s:oM}{M:Int}(h:mE M e s)(us:List Ac)(hu:∀u∈us,u.op.h.rE/\u.op.w<18446744073709551616):mE (M+us.a) e (abd e s us):=by
 induction us generalizing s M with
 | nil=>simpa[abd]using h
 | cons u us ih=>
   have h1:=sQ h u (hu u (by simp)).1 (hu u (by simp)).2;have h2:=ih h1 (fun v hv=>hu v (by simp[hv]));have e1:M+((u::us).a:Int)=M+1+(us.a:Int):=by simp only[List.length_cons];omega
   rw[e1];exact h2
theorem Wi(a:fq)(w:ak):aQ ah 67 #[.d a.ay] w (gU w (.e (qG a))):=by
 have Z:=ab ((Bx.start w).new a.ay 27);go_enter Tryz.func67,Tryz.ntmps67;go_upto_region 1 with fail
 generalize w.alloc (.D a.ay 27)=w2 at *;obtain⟨y1,y2,y3,y4⟩:=Z.i.X.K;have CA:=ab (ahQ a w2);have a0:=fq.pX a;have HO:=ab (show qG a=(a.h||a.mK)from rfl);cases h6:a.h
 all_goals
  rw[h6]at a0 CA HO
  first
   | (go_wp2
      go_ret;exact⟨by rw[HO.i];rfl,Z.i.R⟩)
   | (rw[lW,Bool.and_true]at CA
      go_wp2_with (go_at_call 133;(with_reducible refine CA.i.g ?_);rintro e w3 ⟨rfl,hb⟩;have Z3:=ab (Z.i.go hb);clear hb);go_ret;exact⟨by rw[HO.i];rfl,Z3.i.R⟩)
theorem adR(n a b:Int)(w:ak):aQ ah 68 #[.b .a n,.b .a a,.b .a b] w fun e w'=>e=.a (.e (I8 n a b))/\w=w':=by
 go_enter Tryz.func68,Tryz.ntmps68;by_cases h1:a<=n<;>by_cases h2:n<=b
 all_goals
  go_wp2;go_ret;exact⟨by simp[I8,h1,h2],rfl⟩
theorem Cn.avi(x:Cn)(k:Nat)(hk:k<6):x.ay[3+k]? = some (.b .a (x.kr.a.c k 0)):=by
 rw[<-Zg x.kr k hk];have h:=Cn.Rx x;rw[<-h,dx];simp[Cn.G];omega
theorem ahw(a b:Int):(a==b)=(b==a):=by rw[bZ,beq_iff_eq,beq_iff_eq];exact eq_comm
theorem agi(a b:fq):decide (a=b)=decide (b=a):=decide_eq_decide.2 eq_comm
theorem aj3(l:List Vp)(i:Nat):Dy l i=(acL (l.c i nD) && !(l.d i).any (xY (l.c i nD).h (l.c i nD).aP (l.c i nD).Y)):=rfl
theorem adS{p:Vp->Bool}{l:List Vp}{i:Nat}(hi:i<=l.a)(h:∀k,k<i->p (l.c k nD)=false):(l.d i).any p=false:=by
 rw[List.any_eq_false];intro x hx;obtain⟨k,hk,rfl⟩:=List.getElem_of_mem hx;have hk2:k<i:=by simp at hk;omega
 have:=h k hk2;rw[au,aC (by omega)]at this;simpa using this
theorem abe{p:Vp->Bool}{l:List Vp}{i k:Nat}(hi:i<=l.a)(hk:k<i)(h:p (l.c k nD)=true):(l.d i).any p=true:=by
 rw[qR];refine⟨l[k],?_,?_⟩
 ·rw[List.mem_take_iff_getElem]
  exact⟨k,by omega,rfl⟩
 ·rw[au,aC (by omega)]at h
  exact h
theorem Wj(x:Cn)(l:List Vp)(w:ak)(hR:RdV w w.a.j x.qH x.iI l)(hn:x.iI<=100000):
 aQ ah 22 #[.d x.ay] w (gU w (.e (xZ x l))):=by
 have Z:=ab ((Bx.start w).new x.ay 29);have HR:=ab hR;have HO:=ab (ahk x l);have HI:=ab (VW x.kr);have HN:=ab hR.1;have HS:=ab (Yz l x.iI hR.1);have LI:=ab (Cn.avi x);have FA:=ab (fun(w':ak) (h:Bx [(w.a.j,x.ay)] w w')=>show w'.b ⟨w.a.j,0,none⟩=some (.a x.qH x.iI x.qI)from(h.X.K.1 0).trans (Cn.JI x));have CS:=ab (fun a W=>Wi a W);have CW:=ab (fun n a b W=>adR n a b W);have NOV:=ab (show yS l=false->xZ x l=false from fun h=>by rw[HO.i,h];simp);have NOI:=ab (show Bw x.kr=false->xZ x l=false from fun h=>by rw[HO.i,h];simp);clear hR;go_enter Tryz.func22,Tryz.ntmps22;go_upto_region 1 with fail
 generalize w.alloc (.D x.ay 29)=w2 at *;have f0:=FA.i _ Z.i;by_cases h64:64<x.iI
 ·have q:decide ((64:Int)<x.iI)=true:=by simp;omega
  have HF:=ab (show xZ x l=false from NOV.i (by cases h:yS l;rfl;have:=(HS.i.1 h).1;omega));go_wp2;go_ret;exact⟨by rw[HF.i];rfl,Z.i.R⟩
 have q:decide ((64:Int)<x.iI)=false:=by simp;omega
 go_wp2;go_loopw [3] (fun s3 wr=>∃i:Nat,i<=x.iI/\s3=.b .a i/\(∀k,k<i->Dy l k=true)/\Bx [(w.a.j,x.ay)] w wr) (fun s3 _=>x.iI-(intOf s3).e)
 case atStart=>exact⟨0,by omega,rfl,fun k hk=>by omega,Z.i⟩
 case round=>
  clear f0 q;obtain⟨i,hin,rfl,hok,hz⟩:=hrel;have EZ:=ab hok;have ZR:=ab hz;clear hok hz;have f0:=FA.i _ ZR.i;by_cases hlt:i<x.iI
  ·have hi:(i:Int)<x.iI:=by omega
   obtain⟨b,o,hA,hbb,hh,hcl⟩:=iR.fD Vp.G nD (ZR.i.rdR HR.i) hlt;obtain⟨v,hv⟩:=dw (l.c i nD);rw[<-hv]at hcl;have HX:=ab (show Dy l i=(acL v && !(l.d i).any (xY v.h v.aP v.Y))by rw[aj3,<-hv]);clear hv;rw[hA]at f0;have HAA:=ab hA;clear hA;have Z1:=ab (ZR.i.new v.ay 98);go_upto_region 7 with fail
   clear hh hcl f0;generalize wr.alloc (.D v.ay 98)=w3 at Z1 ⊢;have hy4:=ZR.i.X.lt;generalize wr.a.j=y4 at Z1 hy4 ⊢;obtain⟨y1,y2,y3,y5⟩:=Z1.i.X.K;have CSV:=ab (CS.i v.h w3);have HV:=ab (show acL v=(qG v.h&&(v.aP==6||v.aP==17)&&I8 v.Y 1 65535)from rfl);cases hv:acL v
   ·have JV:=ab (show xZ x l=false from NOV.i (by
     cases h:yS l;rfl;have:=(HS.i.1 h).2 i hlt;rw[HX.i,hv]at this;simp at this))
    rw[hv]at HV;have HZ:=ab HV.i.symm;clear hv HV HX;cases h1:qG v.h
    ·rw[h1]at CSV
     go_wp2_with (first|(go_at_call 67;(with_reducible refine CSV.i.g ?_);rintro e w4 ⟨rfl,hb⟩;have Z3:=ab (Z1.i.go hb);clear y1 y2 y3 y5;obtain⟨y1,y2,y3,y5⟩:=Z3.i.X.K;clear hb));go_ret;exact⟨by rw[JV.i];rfl,Z3.i.R⟩
    ·rw[h1]at CSV HZ
     have HZ2:=ab (show((v.aP==6||v.aP==17)&&I8 v.Y 1 65535)=false by have:=HZ.i;simpa using this);cases h2:(v.aP==6)<;>cases h3:(v.aP==17)<;>cases h4:I8 v.Y 1 65535
     all_goals
      rw[h2,h3,h4]at HZ2
      first
       | (exact absurd HZ2.i (by decide))
       | (have h2':(v.aP != 6) = !(v.aP==6):=rfl
          have h3':(v.aP != 17) = !(v.aP==17):=rfl;rw[h2]at h2';rw[h3]at h3';have CWV:=ab (fun W=>CW.i v.Y 1 65535 W);rw[h4]at CWV;go_wp2_with (first|(go_at_call 67;(with_reducible refine CSV.i.g ?_);rintro e w4 ⟨rfl,hb⟩;have Z3:=ab (Z1.i.go hb);clear y1 y2 y3 y5;obtain⟨y1,y2,y3,y5⟩:=Z3.i.X.K;clear hb)|(go_at_call 68;(with_reducible refine(CWV.i _).g ?_);rintro e w5 ⟨rfl,rfl⟩));go_ret;exact⟨by rw[JV.i];rfl,Z3.i.R⟩)
   ·rw[hv,zZ]at HX
    rw[hv]at HV;have HZ:=ab HV.i.symm;clear hv HV;have h1:qG v.h=true:=by have:=HZ.i;simp at this;exact this.1.1
    have h4:I8 v.Y 1 65535=true:=by have:=HZ.i;simp at this;exact this.2
    have h23:(v.aP==6||v.aP==17)=true:=by have:=HZ.i;simp at this;simpa using this.1.2
    have CWV:=ab (fun W=>CW.i v.Y 1 65535 W);rw[h4]at CWV;rw[h1]at CSV;clear h1 h4;cases h2:(v.aP==6)<;>cases h3:(v.aP==17)
    all_goals
     rw[h2,h3]at h23
     first
      | (exact absurd h23 (by decide))
      | skip
    all_goals
     clear h23;have h2':(v.aP != 6) = !(v.aP==6):=rfl;have h3':(v.aP != 17) = !(v.aP==17):=rfl;rw[h2]at h2';rw[h3]at h3';go_upto_region 9 with(first|(go_at_call 67;(with_reducible refine CSV.i.g ?_);rintro e w4 ⟨rfl,hb⟩;have Z3:=ab (Z1.i.go hb);clear y1 y2 y3 y5;obtain⟨y1,y2,y3,y5⟩:=Z3.i.X.K;clear hb)|(go_at_call 68;(with_reducible refine(CWV.i _).g ?_);rintro e w5 ⟨rfl,rfl⟩))
     clear h2 h3 h2' h3' y1 y2 y3 y5 CSV CWV;go_wp2;go_loopw [5] (fun s5 wx=>∃k:Nat,k<=i/\s5=.b .a k/\(∀j,j<k->xY v.h v.aP v.Y (l.c j nD)=false)/\Bx [(y4,v.ay),(w.a.j,x.ay)] w wx) (fun s5 _=>i-(intOf s5).e)
     case atStart=>exact⟨0,by omega,rfl,fun j hj=>by omega,Z3.i⟩
     case round=>
      obtain⟨k,hki,rfl,hno,hz⟩:=hrel;have HNK:=ab hno;have ZK:=ab hz;clear hno hz;have f0:=FA.i _ ZK.i.NH;by_cases hkl:k<i
      ·have hk2:(k:Int)<i:=by omega
       have hk3:(k:Int)<x.iI:=by omega
       obtain⟨b2,o2,hA2,abM,hh,hcl⟩:=iR.fD Vp.G nD (ZK.i.NH.rdR HR.i) (Nat.lt_trans hkl hlt);obtain⟨u,hu⟩:=dw (l.c k nD);rw[<-hu]at hcl;have HU:=ab hu;clear hu;rw[hA2]at f0;have HAB:=ab hA2;clear hA2;have Z5:=ab (ZK.i.new u.ay 98);go_upto_region 13 with fail
       clear hh hcl f0;have hy6:=ZK.i.X.lt;generalize wr.alloc (.D u.ay 98)=w7 at Z5 ⊢;generalize wr.a.j=y7 at Z5 hy6 ⊢;obtain⟨a1,a2,a3,a4⟩:=Z5.i.X.K;obtain⟨b1,b2,b3,b4⟩:=Z5.i.b1.K;have c1:=Vp.Db u;have c2:=Vp.Db v;obtain⟨b5,hb5⟩:∃b,decide (v.h=u.h)=b:=⟨_,rfl⟩
       obtain⟨b6,hb6⟩:∃b,(v.aP==u.aP)=b:=⟨_,rfl⟩
       obtain⟨b7,hb7⟩:∃b,(v.Y==u.Y)=b:=⟨_,rfl⟩
       have HL:=ab (show xY v.h v.aP v.Y u=(b5&&b6&&b7)by
        rw[<-hb5,<-hb6,<-hb7];unfold xY;rw[ahw u.aP,ahw u.Y,agi u.h])
       have JV:=ab (show xY v.h v.aP v.Y u=true->xZ x l=false from fun hl=>NOV.i (by
        cases h:yS l;rfl;have:=(HS.i.1 h).2 i hlt;rw[HX.i,abe (by rw[HN.i];omega) hkl (by rw[<-HU.i];exact hl)]at this;simp at this))
       go_wp2
       all_goals
        first
        | (go_roundw
           case rel=>exact⟨k+1,by omega,by go_num,fun j hj=>by
            by_cases hjk:j=k
            ·rw[hjk,<-HU.i,HL.i];simp[*]
            ·exact HNK.i j (by omega),Z5.i.NH⟩
           case measure=>simp[intOf]<;>omega)
        | (go_ret
           exact⟨by rw[JV.i (by rw[HL.i];simp[*])];rfl,Z5.i.R⟩)
      ·obtain rfl:k=i:=by omega
       have HYY:=ab (show Dy l k=true by rw[HX.i,adS (by rw[HN.i];omega) HNK.i];rfl);have hd:decide ((k:Int)<k)=false:=by simp
       go_wp2;go_roundw
       case rel=>exact⟨k+1,by omega,by go_num,fun j hj=>by
        by_cases hjk:j=k
        ·rw[hjk];exact HYY.i
        ·exact EZ.i j (by omega),ZK.i.NH⟩
       case measure=>simp[intOf]<;>omega
  ·obtain rfl:i=x.iI:=by omega
   have HVS:=ab (show yS l=true from HS.i.2 ⟨by omega,EZ.i⟩);have hd:decide ((x.iI:Int)<x.iI)=false:=by simp
   rw[HVS.i,Bool.and_true]at HO;have fi0:=(ZR.i.X.K.1 3).trans (LI.i 0 (by omega));obtain⟨z0,hz0⟩:∃z,z=x.kr.a.c 0 0:=⟨_,rfl⟩
   have HZ0:=ab hz0;rw[<-hz0]at fi0;clear hz0;by_cases hz:z0=0
   ·have qz:(z0 != 0)=false:=by simp[hz]
    have azI:=ab (show x.kr.a.c 0 0=0 by rw[<-HZ0.i];exact hz);clear hz EZ HS HN;go_upto_region 17 with fail
    clear f0 fi0 qz hd;go_wp2;go_loop [7] (fun s7=>∃k:Nat,1<=k/\k<=6/\s7=.b .a k/\(∀j,j<k->BH x.kr j=true)) (fun s7=>6-(intOf s7).e)
    case atStart=>exact⟨1,by omega,by omega,rfl,fun j hj=>by obtain rfl:j=0:=by omega
                                                             unfold BH;rw[azI.i];rfl⟩
    case round=>
     obtain⟨k,hk1,hk6,rfl,hok⟩:=hrel;have HNK:=ab hok;clear hok;by_cases hlt:k<6
     ·have hk2:(k:Int)<6:=by omega
      have hk3:(0:Int)<=k:=by omega
      have fi:=(ZR.i.X.K.1 (3+k)).trans (LI.i k hlt);obtain⟨z,hz⟩:=dw (x.kr.a.c k 0);have HK:=ab (show BH x.kr k=I8 z 0 1000000 by unfold BH;rw[<-hz,show(k==0)=false by simp;omega];simp);rw[<-hz]at fi;have CZ:=ab (fun W=>CW.i z 0 1000000 W);clear hz;cases hb:I8 z 0 1000000
      ·have JV:=ab (show xZ x l=false from NOI.i (by
        cases h:Bw x.kr;rfl;have:=HI.i.1 h k hlt;rw[HK.i,hb]at this;cases this))
       rw[hb]at CZ;clear hb;go_wp2_with (first|(go_at_call 68;(with_reducible refine(CZ.i _).g ?_);rintro e w5 ⟨rfl,rfl⟩));go_ret;exact⟨by rw[JV.i];rfl,ZR.i.R⟩
      ·rw[hb]at CZ HK
       clear hb;go_wp2_with (first|(go_at_call 68;(with_reducible refine(CZ.i _).g ?_);rintro e w5 ⟨rfl,rfl⟩));go_round
       case rel=>exact⟨k+1,by omega,by omega,by go_num,fun j hj=>by
        by_cases hjk:j=k
        ·rw[hjk];exact HK.i
        ·exact HNK.i j (by omega)⟩
       case measure=>simp[intOf]<;>omega
     ·obtain rfl:k=6:=by omega
      have HID:=ab (show Bw x.kr=true from HI.i.2 HNK.i);rw[HID.i,zZ]at HO;obtain⟨y1,y2,y3,y4⟩:=ZR.i.X.K;have CS4:=ab (fun W=>CS.i x.Ci W);obtain⟨sf,hsf⟩:∃b,qG x.Ci=b:=⟨_,rfl⟩
      rw[hsf]at CS4 HO;clear hsf hlt hk1 hk6 HID HNK NOI NOV HI LI HZ0 azI HVS;cases hsz:I8 x.j 2 65537
      ·rw[hsz,Dj]at HO
       simp only[Dj]at HO;go_wp2_with (first|(go_at_call 68;(with_reducible refine(CW.i _ _ _ _).g ?_);rintro e w5 ⟨rfl,rfl⟩))
       all_goals
        go_ret;exact⟨by rw[HO.i];rfl,ZR.i.R⟩
      ·have PR:=ab (show∀W,aQ ah 69 #[.b .a x.j] W fun e W'=>e=.a (.e (lG x.j.e))/\W=W' from fun W=>by
        have h1:2<=x.j/\x.j<=65537:=by unfold I8 at hsz;simpa using hsz
        have:=Zh (W:=W) x.j.e (by omega)
        rwa [Int.toNat_of_nonneg (by omega)]at this)
       obtain⟨pn,hpn⟩:∃b,lG x.j.e=b:=⟨_,rfl⟩
       rw[hsz,zZ]at HO;simp only[hpn]at HO PR;clear hpn;go_wp2_with (first|(go_at_call 68;(with_reducible refine(CW.i _ _ _ _).g ?_);rintro e w5 ⟨rfl,rfl⟩)|(go_at_call 69;(with_reducible refine(PR.i _).g ?_);rintro e w5 ⟨rfl,rfl⟩)|(go_at_call 67;(with_reducible refine(CS4.i _).g ?_);rintro e w6 ⟨rfl,hb⟩;have Z4:=ab (ZR.i.go hb);clear y1 y2 y3 y4;obtain⟨y1,y2,y3,y4⟩:=Z4.i.X.K;clear hb))
       all_goals
        go_ret;refine⟨?_,by first|exact Z4.i.R|exact ZR.i.R⟩;rw[HO.i];clear HO PR CW CS CS4 y1 y2 y3 y4;simp_all
   ·have qz:(z0 != 0)=true:=by simp[hz]
    have JV:=ab (show xZ x l=false from NOI.i (by
     cases h:Bw x.kr;rfl;have:=HI.i.1 h 0 (by omega);unfold BH at this;rw[<-HZ0.i]at this;simp[hz]at this))
    clear hz;go_wp2;go_ret;exact⟨by rw[JV.i];rfl,ZR.i.R⟩
def aqO(l:List UInt8):Ac:=⟨1,l,⟨0,jk,[],0⟩,[],false⟩
def anR(o:nK):Ac:=⟨2,[],o,[],false⟩
theorem ahx(e:En)(s:oM)(l:List UInt8):xG e s (aqO l)=lZ e s l:=rfl
theorem aj4(e:En)(s:oM)(l:List UInt8):(lZ e s l).2.gJ=(nS e s l).gJ:=by
 unfold lZ;split
 ·rename_i h;exact h.symm
 ·rfl
def anS(o u:Ou):Bool:=!(o.gJ==0)||((u.gJ==0)&&(u.xS&&((u.E==o.E)&&(u.i==o.i))))
def adT(e:En)(s0 s:oM)(l:List UInt8):Prop:=(nS e s0 l).gJ=0->aaL e s (qF l).J (nS e s0 l).h
theorem agj{M:Int}{e:En}{s:oM}(h:mE M e s)(hM:M<1152921504606846976)(l:List UInt8):adT e s (lZ e s l).1 l:=fun hw=>aaL.aC5 h hM hw
theorem adU{M:Int}{e:En}{s0 s:oM}{l:List UInt8}(k:adT e s0 s l)(h:mE M e s)(o:nK)(hn:o.kind=2->o.E≠(lZ e s0 l).2.E):adT e s0 (xG e s (anR o)).1 l:=by
 intro hw;have e1:(lZ e s0 l).2.E=(nS e s0 l).h.E:=by unfold lZ;rw[if_pos hw]
 rw[e1]at hn;exact(k hw).op h o hn
theorem aj5{M:Int}{e:En}{s0 s:oM}{l:List UInt8}(k:adT e s0 s l)(h:mE M e s):anS (lZ e s0 l).2 (lZ e s l).2=true:=by
 unfold anS;by_cases hw:(nS e s0 l).gJ=0
 ·obtain⟨h1,h2,h3,h4⟩:=(k hw).again h hw
  have e1:(lZ e s0 l).2=⟨0,0,(nS e s0 l).xS,s0.mQ,(nS e s0 l).h.E,(nS e s0 l).i⟩:=by unfold lZ;rw[if_pos hw]
  have e2:(lZ e s l).2=⟨0,0,(nS e s l).xS,s.mQ,(nS e s l).h.E,(nS e s l).i⟩:=by unfold lZ;rw[if_pos h1]
  rw[e1,e2,h2,h3,h4];simp
 ·have e1:=aj4 e s0 l
  rw[e1];simp[hw]
@[go_sem]theorem asi:Obj.cells #[bg,iC {data:=#[]},bL false,aA,aA,aA,aA,aA,aA,aA,aA,aA,aA,aA,aA,aA,aA,aA,aA,bg,aA,aA,aA,aA,aA,aA,vJ jV 0,bL false,iC {data:=#[]},vJ jV 0] 64=Obj.cells YM.ay 64:=rfl
@[go_sem ↓]theorem aHr(v x:aB):eF 64 v x=yR 64 v x:=rfl
@[go_sem]theorem aBg(W:ak)(c:Array aB)(x:nK)(b:Nat)(hb:b=W.a.j)(hc:eD c=30):(yR 64 (.c (some ⟨b,0,none⟩)) (.d x.ay)).I ah (W.alloc (.D c 64))=.ok () (W.alloc (.D x.ay 64)):=azv.stN W c x.ay b hb hc (nK.G x) (nK.cK x)
theorem RdO.row{W:ak}{B:Nat}{A:Option aT}{n:Nat}{l:List nK}(h:RdO W B A n l):iR nK.ay 30 W B A n l:=h
theorem OcR.keep{W W':ak}{o:Oc}{u:Ou}{F:List Nat}(h:OcR W o u)(hf:jD F W W')(hn:∀b∈vY o.Ny,b∉F):OcR W' o u:=
 ⟨h.err,h.gJ,h.xS,h.mQ,h.E,Nw h.i (av _) hf hn⟩
theorem Aw.NH{w0 W:ak}{q q2 g:Nat}{p:Nat×Array aB}{L:List (Nat×Array aB)}(h:Aw w0 W q q2 g (p::L)):Aw w0 W q q2 g L:=⟨h.R,h.new,h.lt,fun x hx=>h.G x (List.mem_cons_of_mem _ hx)⟩
theorem Pm(k:Vector UInt8 16)(c:Cn)(vs:List Vp)(A F B:Option aT)(na ca nf cf nb cb:Nat)(la:List At)(ua:List Ac)(fr:List UInt8)(lb:List nK)(W:ak)(hV:iR Vp.ay 20 W W.a.j c.qH c.iI vs)(hvc:c.iI<=c.qI)(hcc:c.qI<=9223372036854775807)
 (hRa:iR At.ay 34 W W.a.j A na la) (hla:ua.a=na) (hOa:∀i,i<na->AtO W (la.c i qd) (ua.c i anB)) (hna:na<=9223372036854775807)
 (hRf:fP W W.a.j F nf fr) (hnf:nf<=cf) (hcf:cf<=9223372036854775807)
 (hRb:RdO W W.a.j B nb lb) (hgb:∀o∈lb,o.GH) (hnb:nb<=9223372036854775807) :
 aQ ah 8 #[.d (iZ k),.d c.ay,.a A na ca,.a F nf cf,.a B nb cb] W (gU W (.e true)):=by
 have z0:=((Bx.start W).new (iZ k) 22).new c.ay 29;rw[show(W.alloc (.D (iZ k) 22)).a.j=W.a.j+1 by simp]at z0;have Z0:=ab z0;clear z0;have V0:=ab hV;have RA:=ab hRa;have RF:=ab hRf;have RB:=ab hRb.row;have OA:=ab hOa;have GB:=ab hgb;have LN:=ab (show ua.a=na/\lb.a=nb/\na<=9223372036854775807/\nb<=9223372036854775807/\c.iI<=c.qI/\c.qI<=9223372036854775807/\nf<=cf/\cf<=9223372036854775807 from⟨hla,hRb.1,hna,hnb,hvc,hcc,hnf,hcf⟩);have CMa:=ab (fun(w:ak) (hb:aM W.a.j W w)=>aqF c la A na ca w (RA.i.go hb) hna);clear hV hRa hRf hRb hOa hgb hla hna hnb hvc hcc hnf hcf;go_enter Tryz.func8,Tryz.ntmps8;go_upto_region 1 with fail
 have SZ0:=ab (show W.a.j+1<((W.alloc (.D (iZ k) 22)).alloc (.D c.ay 29)).a.j by simp);generalize(W.alloc (.D (iZ k) 22)).alloc (.D c.ay 29)=w1 at Z0 SZ0 ⊢;obtain⟨K1,hK1⟩:∃K,ajU c la=K:=⟨_,rfl⟩
 obtain⟨K3,hK3⟩:∃K,xZ c vs=K:=⟨_,rfl⟩
 obtain⟨K4,hK4⟩:∃K,decide ((1500:Int)<(nf:Int))=K:=⟨_,rfl⟩
 obtain⟨K5,hK5⟩:∃K,decide ((20:Int)<(nb:Int))=K:=⟨_,rfl⟩
 rw[hK1]at CMa;have CK:=ab (fun(w:ak) (hb:aM W.a.j W w) (hn:c.iI<=100000)=>Wj c vs w (V0.i.go hb) hn);rw[hK3]at CK;have HK1:=ab hK1;have HK3:=ab hK3;have HK4:=ab hK4;have HK5:=ab hK5;clear hK1 hK3;cases K1
 ·clear hK4 hK5
  go_upto_region 2 with(first
   | (go_at_call 12;(with_reducible refine(rG _).g ?_);rintro r w2 ⟨rfl,hb⟩;have Z2:=ab (Z0.i.go hb);have l2:=NI.lU Z2.i.X (Cn.G _);clear hb)
   | (go_at_call 21;(with_reducible refine(CMa.i _ Z2.i.R).g ?_);rintro r w3 ⟨rfl,hb⟩;have Z3:=ab (Z2.i.go hb);have l3:=NI.lU Z3.i.X (Cn.G _);clear hb))
  go_wp2_with (go_at_call 12;(with_reducible refine(rG _).g ?_);rintro r w9 ⟨rfl,hb⟩;have Z9:=ab (Z3.i.go hb);clear hb);go_ret;exact⟨rfl,Z9.i.R⟩
 have VN:=ab (show c.iI<=20/\la.a<=60 by
  have h1:=HK1.i;unfold ajU Pj at h1;simp only[bf,decide_eq_true_eq]at h1;exact⟨h1.1.1,h1.2.1⟩)
 cases K3
 ·clear hK4 hK5
  go_upto_region 2 with(first
   | (go_at_call 12;(with_reducible refine(rG _).g ?_);rintro r w2 ⟨rfl,hb⟩;have Z2:=ab (Z0.i.go hb);have l2:=NI.lU Z2.i.X (Cn.G _);clear hb)
   | (go_at_call 21;(with_reducible refine(CMa.i _ Z2.i.R).g ?_);rintro r w3 ⟨rfl,hb⟩;have Z3:=ab (Z2.i.go hb);have l3:=NI.lU Z3.i.X (Cn.G _);clear hb)
   | (go_at_call 22;(with_reducible refine(CK.i _ Z3.i.R (by have:=VN.i;omega)).g ?_);rintro r w4 ⟨rfl,hb⟩;have Z4:=ab (Z3.i.go hb);have l4:=NI.lU Z4.i.X (Cn.G _);clear hb))
  go_wp2_with (go_at_call 12;(with_reducible refine(rG _).g ?_);rintro r w9 ⟨rfl,hb⟩;have Z9:=ab (Z4.i.go hb);clear hb);go_ret;exact⟨rfl,Z9.i.R⟩
 cases K4;rotate_left
 ·clear hK5
  go_upto_region 2 with(first
   | (go_at_call 12;(with_reducible refine(rG _).g ?_);rintro r w2 ⟨rfl,hb⟩;have Z2:=ab (Z0.i.go hb);have l2:=NI.lU Z2.i.X (Cn.G _);clear hb)
   | (go_at_call 21;(with_reducible refine(CMa.i _ Z2.i.R).g ?_);rintro r w3 ⟨rfl,hb⟩;have Z3:=ab (Z2.i.go hb);have l3:=NI.lU Z3.i.X (Cn.G _);clear hb)
   | (go_at_call 22;(with_reducible refine(CK.i _ Z3.i.R (by have:=VN.i;omega)).g ?_);rintro r w4 ⟨rfl,hb⟩;have Z4:=ab (Z3.i.go hb);have l4:=NI.lU Z4.i.X (Cn.G _);clear hb))
  go_wp2_with (go_at_call 12;(with_reducible refine(rG _).g ?_);rintro r w9 ⟨rfl,hb⟩;have Z9:=ab (Z4.i.go hb);clear hb);go_ret;exact⟨rfl,Z9.i.R⟩
 cases K5;rotate_left
 ·go_upto_region 2 with(first
   | (go_at_call 12;(with_reducible refine(rG _).g ?_);rintro r w2 ⟨rfl,hb⟩;have Z2:=ab (Z0.i.go hb);have l2:=NI.lU Z2.i.X (Cn.G _);clear hb)
   | (go_at_call 21;(with_reducible refine(CMa.i _ Z2.i.R).g ?_);rintro r w3 ⟨rfl,hb⟩;have Z3:=ab (Z2.i.go hb);have l3:=NI.lU Z3.i.X (Cn.G _);clear hb)
   | (go_at_call 22;(with_reducible refine(CK.i _ Z3.i.R (by have:=VN.i;omega)).g ?_);rintro r w4 ⟨rfl,hb⟩;have Z4:=ab (Z3.i.go hb);have l4:=NI.lU Z4.i.X (Cn.G _);clear hb))
  go_wp2_with (go_at_call 12;(with_reducible refine(rG _).g ?_);rintro r w9 ⟨rfl,hb⟩;have Z9:=ab (Z4.i.go hb);clear hb);go_ret;exact⟨rfl,Z9.i.R⟩
 go_upto_region 3 with(first
  | (go_at_call 12;(with_reducible refine(rG _).g ?_);rintro r w2 ⟨rfl,hb⟩;have Z2:=ab (Z0.i.go hb);have l2:=NI.lU Z2.i.X (Cn.G _);clear hb)
  | (go_at_call 21;(with_reducible refine(CMa.i _ Z2.i.R).g ?_);rintro r w3 ⟨rfl,hb⟩;have Z3:=ab (Z2.i.go hb);have l3:=NI.lU Z3.i.X (Cn.G _);clear hb)
  | (go_at_call 22;(with_reducible refine(CK.i _ Z3.i.R (by have:=VN.i;omega)).g ?_);rintro r w4 ⟨rfl,hb⟩;have Z4:=ab (Z3.i.go hb);have l4:=NI.lU Z4.i.X (Cn.G _);clear hb))
 have FN:=ab (show nf<=1500/\nb<=20 by
  have h4:=of_decide_eq_false HK4.i;have h5:=of_decide_eq_false HK5.i;omega)
 clear hK4 hK5;have N5:=ab (show c.iI<=100000 by have:=VN.i;omega);have CN:=ab (YJ k c vs w4 (V0.i.go Z4.i.R) LN.i.2.2.2.2.1 N5.i HK3.i);unfold NC at CN;have lk5:=VE.lU Z4.i.b1 (dK _);clear CMa CK;go_upto_region 4 with(go_at_call 23;(with_reducible refine CN.i.g ?_);rintro r w6 ⟨q,x,q2,g,sl,rfl,hE,hb,hq,hr⟩;have U6:=ab (Uno.start hE (aG _ _) hb hq hr);clear hE hb hq hr)
 go_upto_region 6 with fail
 have FE:=ab (show∀i,i<na->(la.c i qd).NA<=1000000 by
  have h1:=HK1.i;unfold ajU Pj YK at h1;simp only[bf,decide_eq_true_eq,gF,eu]at h1;have e1:=RA.i.1;exact fun i hi=>by have:=(h1.2.2 i (by omega)).1;omega)
 have GA:=ab (show∀u∈ua,u.op.h.rE/\u.op.w<18446744073709551616 from fun u hu=>by
  obtain⟨i,hi,rfl⟩:=List.mem_iff_getElem.1 hu;have h:=(OA.i i (by have:=LN.i.1;omega)).GH;rw[au,aC hi]at h;exact⟨h.1.1,h.2.1⟩)
 clear lk5 l2 l3 l4;go_wp2;go_loopw [13] (fun s13 wr=>∃(i:Nat)(x':Eg)(sl':List (Option Fw)),i<=na/\s13=.b .a i/\Uno w4 wr q ⟨k,c,vs⟩ (abd ⟨k,c,vs⟩ xB (ua.d i)) x' q2 g sl') (fun s13 _=>na-(intOf s13).e)
 case atStart=>exact⟨0,x,sl,by omega,rfl,U6.i⟩
 case round=>
  obtain⟨i,x',sl',hin,rfl,hu⟩:=hrel;have HU:=ab hu;have ZR:=ab (Z4.i.go (HU.i.R));clear hu;by_cases xS:i<na
  ·have hlt2:(i:Int)<na:=by omega
   have aEt:i<60:=by have:=VN.i;have:=RA.i.1;omega
   obtain⟨b,o,hA,hbl,hh,hcl⟩:=iR.fD At.G qd (RA.i.go ZR.i.R) xS;have HI:=ab (adQ (JN k HK3.i) (ua.d i) (fun u hu=>GA.i u (List.mem_of_mem_take hu)));have CS:=ab (Jd HU.i HI.i (by have:=VN.i;have:=LN.i;have:=RA.i.1;simp;omega) (la.c i qd) (ua.c i anB) (((OA.i i xS).r (FE.i i xS)).go ZR.i.R) (OA.i i xS).GH.1.1 (OA.i i xS).GH.2.1);unfold aj0 at CS;obtain⟨a,ha⟩:=tV (la.c i qd);rw[ha]at hcl CS;rw[hA];go_wp2_with (go_at_call 25;(with_reducible refine CS.i.g ?_);rintro r w7 ⟨oc,x7,sl7,rfl,ho,hu,hf⟩;have U7:=ab hu;clear ho hu hf);go_roundw
   case rel=>exact⟨i+1,x7,sl7,by omega,by go_num,by have:=U7.i;rw[<-aj2 (by have:=LN.i.1;omega)]at this;exact this⟩
   case measure=>simp[intOf]<;>omega
  ·obtain rfl:i=na:=by omega
   have hnl:¬((i:Nat):Int)<i:=by omega
   have HI:=ab (adQ (JN k HK3.i) (ua.d i) (fun u hu=>GA.i u (List.mem_of_mem_take hu)));have HM:=ab (show(0:Int)+(ua.d i).a<=100 by have:=VN.i;have:=RA.i.1;have:=LN.i.1;simp;omega);generalize(0:Int)+(ua.d i).a=M at HI HM;generalize abd ⟨k,c,vs⟩ xB (ua.d i)=sA at HI HU;have A0:=ab (show Aw W wr q q2 g []from⟨ZR.i.R,by have:=HU.i.new;have:=Z4.i.R.j;omega,HU.i.lt,fun p hp=>by cases hp⟩);have RG:=ab (fP.upon RF.i ZR.i.R);clear xS hin;obtain⟨af,haf⟩:∃a:At,{qd with kind:=1,Wn:=F,NA:=nf,Ll:=cf}=a:=⟨_,rfl⟩
   have kb:=fun W=>au9 W 1 F nf cf
   rw[haf]at kb;have HAF:=ab haf;clear haf;go_upto_region 11 with fail
   have A1:=ab (A0.i.add af.ay 66);have B1:=ab ((aG wr.a.j wr).alloc (av _) (.D af.ay 66));have U1:=ab (HU.i.go B1.i);have R1:=ab (fP.upon RG.i B1.i);generalize wr.alloc (.D af.ay 66)=v1 at A1 B1 U1 R1 ⊢;generalize wr.a.j=p1 at A1 ⊢;clear A0 B1 RG kb hnl HU ZR;have la1:=kAt.lU (A1.i.box (p:=(p1,af.ay)) (by simp)) (At.G _);have CS:=ab (Jd U1.i HI.i (by have:=HM.i;omega) af (aqO fr) (by rw[<-HAF.i];exact⟨rfl,R1.i,⟨LN.i.2.2.2.2.2.2.1,LN.i.2.2.2.2.2.2.2,by have:=FN.i;simp;omega⟩,rfl,rfl,rfl⟩) qy (by show 0<18446744073709551616;omega));rw[ahx]at CS;unfold aj0 at CS;go_upto_region 12 with(go_at_call 25;(with_reducible refine CS.i.g ?_);rintro r v2 ⟨o,x2,sl2,rfl,h1,h2,h3⟩;have HO:=ab h1;have U2:=ab h2;have HF:=ab h3;clear h1 h2 h3)
   have HN:=ab (show∀b∈vY o.Ny,b∉[q,q2,g]from fun b hb=>by have:=(kK HO.i.vC b hb).1;have:=A1.i.lt;simp;omega);have BB:=ab ((aG v2.a.j v2).alloc (av _) (.D o.ay 58));have A3:=ab ((A1.i.step HF.i).add o.ay 58);have U3:=ab (U2.i.go BB.i);have O3:=ab (HO.i.rd.go BB.i);have I3:=ab (show mE (M+1) ⟨k,c,vs⟩ (lZ ⟨k,c,vs⟩ sA fr).1 from sQ HI.i (aqO fr) qy (by show 0<18446744073709551616;omega));have S3:=ab (agj HI.i (by have:=HM.i;omega) fr);generalize v2.alloc (.D o.ay 58)=v3 at A3 U3 O3 ⊢;generalize v2.a.j=p3 at A3 ⊢;clear la1 CS HO HF BB A1 U1 R1 U2;go_wp2;go_loopw [16] (fun s16 wt=>∃(j:Nat)(s:oM)(y:Eg)(sm:List (Option Fw)) (N:Int),N<=M+1+j/\j<=nb/\s16=.b .a j/\Uno w4 wt q ⟨k,c,vs⟩ s y q2 g sm/\Aw W wt q q2 g [(p3,o.ay),(p1,af.ay)]/\OcR wt o (lZ ⟨k,c,vs⟩ sA fr).2/\mE N ⟨k,c,vs⟩ s/\adT ⟨k,c,vs⟩ sA s fr) (fun s16 _=>nb-(intOf s16).e)
   case atStart=>exact⟨0,_,_,_,M+1,by omega,by omega,rfl,U3.i,A3.i,O3.i,I3.i,S3.i⟩
   case round=>
    obtain⟨j,s,y,sm,N,hNj,hjn,rfl,hu,ha,ho,hi,hs⟩:=hrel;have NJ:=ab hNj;have UR:=ab hu;have AR:=ab ha;have OR:=ab ho;have IR:=ab hi;have SR:=ab hs;clear hu ha ho hi hs hNj A3 U3 O3 I3 S3;by_cases hjt:j<nb;rotate_left
    ·obtain rfl:j=nb:=by omega
     have hnl:¬((j:Nat):Int)<j:=by omega
     have la1:=kAt.lU (AR.i.box (p:=(p1,af.ay)) (by simp)) (At.G _);have R6:=ab (fP.upon RF.i AR.i.R);have CS:=ab (Jd UR.i IR.i (by have:=NJ.i;have:=HM.i;have:=FN.i;omega) af (aqO fr) (by rw[<-HAF.i];exact⟨rfl,R6.i,⟨LN.i.2.2.2.2.2.2.1,LN.i.2.2.2.2.2.2.2,by have:=FN.i;simp;omega⟩,rfl,rfl,rfl⟩) qy (by show 0<18446744073709551616;omega));rw[ahx]at CS;unfold aj0 at CS;go_upto_region 21 with(go_at_call 25;(with_reducible refine CS.i.g ?_);rintro r v6 ⟨u,y6,sm6,rfl,h1,h2,h3⟩;have HU:=ab h1;have HF:=ab h3;clear h1 h2 h3)
     have BB:=ab ((aG v6.a.j v6).alloc (av _) (.D u.ay 58));have A7:=ab ((AR.i.step HF.i).add u.ay 58);have O7:=ab ((OR.i.keep HF.i HN.i).go BB.i);have Q7:=ab (HU.i.rd.go BB.i);generalize v6.alloc (.D u.ay 58)=v7 at A7 O7 Q7 ⊢;generalize v6.a.j=p7 at A7 ⊢;clear la1 CS HU HF BB UR AR OR R6;have SE:=ab (aj5 SR.i IR.i);obtain⟨f1,f2,f3,f4⟩:=(A7.i.box (p:=(p7,u.ay)) (by simp)).K;obtain⟨g1,g2,g3,g4⟩:=(A7.i.box (p:=(p3,o.ay)) (by simp)).K;have t1:=(EX O7.i.i o.aa3).2;have t2:=(EX Q7.i.i u.aa3).2;obtain⟨k1,e1⟩:∃k,(o.gJ==0)=k:=⟨_,rfl⟩
     obtain⟨k2,e2⟩:∃k,(u.gJ==0)=k:=⟨_,rfl⟩
     obtain⟨k3,e3⟩:∃k,u.xS=k:=⟨_,rfl⟩
     obtain⟨k4,e4⟩:∃k,(u.E==o.E)=k:=⟨_,rfl⟩
     obtain⟨k5,e5⟩:∃z,((lZ ⟨k,c,vs⟩ s fr).2.i==(lZ ⟨k,c,vs⟩ sA fr).2.i)=z:=⟨_,rfl⟩
     have HJ:=ab (show(!k1||(k2&&(k3&&(k4&&k5))))=true by
      have:=SE.i;unfold anS at this;rw[<-O7.i.gJ,<-Q7.i.gJ,<-Q7.i.xS,<-Q7.i.E,<-O7.i.E,e1,e2,e3,e4,e5]at this;exact this)
     have T1:(o.gJ != 0) = !k1:=by rw[<-e1];rfl
     have T2:decide (o.gJ≠0) = !k1:=by rw[<-e1];by_cases h:o.gJ=0<;>simp[h]
     have T3:(!decide (o.gJ=0)) = !k1:=by rw[<-e1];by_cases h:o.gJ=0<;>simp[h]
     have T4:decide (u.gJ=0)=k2:=by rw[<-e2];by_cases h:u.gJ=0<;>simp[h]
     clear SE;cases k1
     ·simp only[lW]at T1 T2 T3
      go_wp2;go_ret;exact⟨rfl,A7.i.R⟩
     obtain⟨rfl,rfl,rfl,rfl⟩:k2=true/\k3=true/\k4=true/\k5=true:=by simpa using HJ.i
     simp only[nV]at T1 T2 T3;go_wp2;go_ret;exact⟨rfl,A7.i.R⟩
    have hlt3:(j:Int)<nb:=by omega
    have aLm:j<20:=by have:=FN.i;omega
    obtain⟨op,Ei⟩:=tV (lb.c j asQ);have HG:=ab (show op.GH by rw[<-Ei];exact GB.i _ (AX asQ lb j (by have:=LN.i.2.1;omega)));obtain⟨b,off,hA,hbl,hh,hcl⟩:=iR.fD nK.G asQ (RB.i.go AR.i.R) hjt;rw[Ei]at hcl;rw[hA];clear Ei hjt;have A4:=ab (AR.i.add op.ay 64);have B4:=ab ((aG wr.a.j wr).alloc (av _) (.D op.ay 64));have U4:=ab (UR.i.go B4.i);have O4:=ab (OR.i.go B4.i);go_upto_region 16 with fail
    generalize wr.alloc (.D op.ay 64)=v4 at A4 B4 U4 O4 ⊢;generalize wr.a.j=p4 at A4 ⊢;clear hh hcl hbl AR UR OR B4;obtain⟨f1,f2,f3,f4⟩:=(A4.i.box (p:=(p4,op.ay)) (by simp)).K;obtain⟨g1,g2,g3,g4⟩:=(A4.i.box (p:=(p3,o.ay)) (by simp)).K;obtain⟨m1,hm1⟩:∃m,op.E=m:=⟨_,rfl⟩
    obtain⟨m2,hm2⟩:∃m,op.h.E=m:=⟨_,rfl⟩
    obtain⟨m3,hm3⟩:∃m,o.E=m:=⟨_,rfl⟩
    obtain⟨kd,hkd⟩:∃m,op.kind=m:=⟨_,rfl⟩
    have a0:=nK.pX op;have a1:=nK.DY op;have a2:=nK.asH op;have b4:=Oc.yt o;rw[hkd]at a0;rw[hm2]at a1;rw[hm1]at a2;rw[hm3]at b4;obtain⟨k2,e2⟩:∃k,decide ((60:Int)<m1.a)=k:=⟨_,rfl⟩
    obtain⟨k3,e3⟩:∃k,decide ((60:Int)<m2.a)=k:=⟨_,rfl⟩
    obtain⟨k4,e4⟩:∃k,decide (kd=2)=k:=⟨_,rfl⟩
    obtain⟨k5,e5⟩:∃k,(m1==m3)=k:=⟨_,rfl⟩
    have HS:=ab (show(k4&&k5)=false->op.kind=2->op.E≠(lZ ⟨k,c,vs⟩ sA fr).2.E from fun h h1 h2=>by
     rw[hkd]at h1;rw[hm1,<-O4.i.E,hm3]at h2;rw[<-e4,<-e5,h1,h2]at h;simp at h)
    have T1:(kd != 2) = !k4:=by rw[<-e4];by_cases h:kd=2<;>simp[h]
    have T2:(kd==2)=k4:=by rw[<-e4];by_cases h:kd=2<;>simp[h]
    have T3:decide (kd≠2) = !k4:=by rw[<-e4];by_cases h:kd=2<;>simp[h]
    have T4:(!decide (kd=2)) = !k4:=by rw[<-e4]
    have S1:(m1 != m3) = !k5:=by rw[<-e5];rfl
    have S2:decide (m1=m3)=k5:=by rw[<-e5];rw[bZ];simp
    have S3:decide (m1≠m3) = !k5:=by rw[<-e5];rw[bZ];simp
    have S4:(!decide (m1=m3)) = !k5:=by rw[S2]
    clear hm1 hm2 hm3 hkd;cases k2;rotate_left
    ·go_wp2
     go_ret;exact⟨rfl,A4.i.R⟩
    cases k3;rotate_left
    ·go_wp2
     go_ret;exact⟨rfl,A4.i.R⟩
    go_upto_region 18 with fail
    cases k4
    ·simp only[lW,nV]at T1 T2 T3 T4
     have kb:=fun W=>anP W 2 op
     have lo:=(A4.i.box (p:=(p4,op.ay)) (by simp)).af8 (o:=0) (by rw[bl];exact nK.jC op) (by rw[nK.G];omega);have CS:=ab (Jd U4.i IR.i (by have:=NJ.i;have:=HM.i;omega) ({qd with kind:=2,op:=op}:At) (anR op) ⟨rfl,GN _,⟨av _,gQ _,gQ _⟩,rfl,rfl,rfl⟩ HG.i.1.1 HG.i.2.1);unfold aj0 at CS;go_wp2_with (go_at_call 25;(with_reducible refine CS.i.g ?_);rintro r v5 ⟨oc,y5,sm5,rfl,h1,h2,h3⟩;have U5:=ab h2;have HF:=ab h3;clear h1 h2 h3);go_roundw
     case rel=>exact⟨j+1,_,_,_,N+1,by have:=NJ.i;omega,by omega,by go_num,U5.i,(A4.i.step HF.i).NH,O4.i.keep HF.i HN.i,sQ IR.i (anR op) HG.i.1.1 HG.i.2.1,adU SR.i IR.i op (HS.i rfl)⟩
     case measure=>simp[intOf]<;>omega
    cases k5
    ·simp only[lW,nV]at T1 T2 T3 T4 S1 S2 S3 S4
     have kb:=fun W=>anP W 2 op
     have lo:=(A4.i.box (p:=(p4,op.ay)) (by simp)).af8 (o:=0) (by rw[bl];exact nK.jC op) (by rw[nK.G];omega);have CS:=ab (Jd U4.i IR.i (by have:=NJ.i;have:=HM.i;omega) ({qd with kind:=2,op:=op}:At) (anR op) ⟨rfl,GN _,⟨av _,gQ _,gQ _⟩,rfl,rfl,rfl⟩ HG.i.1.1 HG.i.2.1);unfold aj0 at CS;go_wp2_with (go_at_call 25;(with_reducible refine CS.i.g ?_);rintro r v5 ⟨oc,y5,sm5,rfl,h1,h2,h3⟩;have U5:=ab h2;have HF:=ab h3;clear h1 h2 h3);go_roundw
     case rel=>exact⟨j+1,_,_,_,N+1,by have:=NJ.i;omega,by omega,by go_num,U5.i,(A4.i.step HF.i).NH,O4.i.keep HF.i HN.i,sQ IR.i (anR op) HG.i.1.1 HG.i.2.1,adU SR.i IR.i op (HS.i rfl)⟩
     case measure=>simp[intOf]<;>omega
    simp only[lW,nV]at T1 T2 T3 T4 S1 S2 S3 S4;go_wp2;go_roundw
    case rel=>exact⟨j+1,_,_,_,N,by have:=NJ.i;omega,by omega,by go_num,U4.i,A4.i.NH,O4.i,IR.i,SR.i⟩
    case measure=>simp[intOf]<;>omega
end Go.Proofs.YtkjojjopamaoiaaGreat
