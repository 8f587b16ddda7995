/- Parts. -/
import Derived.Test.YtkjojjopamaoiaaGreatSb7
import Derived.Lib.SlBytesConst
set_option linter.unusedSimpArgs false
set_option linter.unusedVariables false
set_option linter.unusedSectionVars false
set_option maxRecDepth 100000
set_option maxHeartbeats 8000000
open Array renaming getElem?_extract->dx,setIfInBounds_append->aM,getElem?_append->aD,toList_inj->Gn,mapM->iy,getElem?_toList->dD,size->Array.j,toList->Array.a,getD->Array.c,setIfInBounds->Array.b
open Bool renaming eq_iff_iff->bV,not_false->ra,not_true->uG,and_eq_true->bl,not_eq_true'->nZ,true_and->zZ,false_and->Dl
open ByteArray renaming size->ByteArray.j,toList->ByteArray.a
open Go renaming Value->aB,World->ak,Calls->aP,wpQuiet_nil->gK,TypeId->bF,Addr->aT,Ending->lq,bodyPost_ret->aN,wpAnyH_take->o9
open Go.Act renaming put->lD
open Go.Addr renaming add->qy,add_mid->iC
open Go.BoundsCode renaming toNat->Go.BoundsCode.e
open Go.Calls renaming mono->Go.Calls.g
open Go.DataW renaming trod->lX,trod_struct->uI,trod_bool->Hr,agg->Go.DataW.d
open Go.Ending renaming returned->Go.Ending.a
open Go.Field renaming offset->Go.Field.Y
open Go.FloatKind renaming f64->jX
open Go.Instr renaming buildSlice->bJ,storeAt->eD,build->fM,slice->Go.Instr.a
open Go.IntKind renaming u8->aW,i64->bR,i64->Go.IntKind.a,u8->Go.IntKind.b
open Go.Lib renaming hid->ab
open Go.Lit renaming bool->Go.Lit.e
open Go.Obj renaming cells->Go.Obj.D
open Go.Op renaming slice->Go.Op.a
open Go.Oper renaming dst->Go.Oper.X
open Go.Operand renaming tmp->Go.Operand.a
open Go.Proofs.Tryz renaming prog->ah,underlying37->rV,underlying35->EL,underlying22->qh,underlying98->rW,underlying29->mW,underlying56->cu,underlying5->lC,underlying66->lK,underlying27->fB,underlying64->uZ,underlying62->nY
open Go.Result renaming ok->Go.Result.Z
open Go.RowKit renaming Below->aL
open Go.RowKit.Below renaming refl->aG,size->Go.RowKit.Below.j,mono->Go.RowKit.Below.g
open Go.RowKit.Hid renaming out->Go.RowKit.Hid.i
open Go.Sem renaming run->Go.Sem.I
open Go.Shut renaming out->Go.Shut.i
open Go.TypeDesc renaming slice->Go.TypeDesc.a,int->Go.TypeDesc.b,pointer->Go.TypeDesc.c,bool->Go.TypeDesc.e,string->Go.TypeDesc.g
open Go.TypeInfo renaming size->Go.TypeInfo.j
open Go.Value renaming int->aI,cells->cK,okWide->Ho,ownBlock->jY,oneCell'->cZ,string->iB,bool->bM,float->vH,cells->Go.Value.D,slice->Go.Value.a,int->Go.Value.b,pointer->Go.Value.c,agg->Go.Value.d,bool->Go.Value.e,tuple->Go.Value.J,string->Go.Value.g
open Go.World renaming heap->Go.World.a,cell?->Go.World.b,setCell->Go.World.F,ownsRow->Go.World.c,there->Go.World.M
open Int renaming toNat->Int.e
open List renaming mem_map->iV,any_eq_true->tq,range->dP,all_eq_true->gJ,mem_range->eO,getElem?_eq_none->aS,getElem?_toArray->dV,length_map->bU,mem_singleton->fG,getD_eq_getElem?_getD->au,setIfInBounds_toArray->bI,set_cons_zero->bP,set_cons_succ->bH,eq_nil_of_length_eq_zero->bE,map_cons->kL,drop_of_length_le->iW,getElem?_eq_getElem->aC,length_append->aR,length_set->aV,mem_cons->bg,length->List.a,toArray->List.b,getD->List.c,take->List.d,drop->List.f,flatMap->List.h
open Nat renaming zero_add->bB,add_zero->nD,le_refl->av,lt_or_ge->aY,le_of_eq->aX,lt_of_lt_of_le->eY,zero_le->je,below->Nat.O
open Option renaming toList->Option.a,getD->Option.c
open Or renaming inl->BZ,inl->Or.a,inr->Or.b
open UInt8 renaming ofNat->aJ,toNat->UInt8.e
open Vector renaming length_toList->nH,replicate->bG,ofFn->DT,toList->Vector.a
namespace Go.Proofs.YtkjojjopamaoiaaGreat
open Go.RowKit
theorem Bx.RG{L:List (Nat×Array aB)}{W0 W W':ak}{M:Nat}(h:Bx L W0 W)(hg:W.grownBy W' (some M))(hM:W0.a.j<=M)(hL:∀p∈L,p.1≠M):Bx L W0 W':=
 ⟨sj h.1 hg hM h.1.j,fun p hp=>⟨(h.2 p hp).1,(h.2 p hp).2.grown hg (fun e=>hL p hp (by injection e))⟩⟩
def DR(l:List Fw)(k:Nat):List Tu:=((l.d k).map (·.key)).reverse
theorem aed{l:List Fw}{k:Nat}(hk:k<l.a):(l.c k kD).key::DR l k=DR l (k+1):=by
 unfold DR;rw[List.take_succ_eq_append_getElem hk,List.map_append,List.reverse_append,uE hk];rfl
theorem agB(l:List Fw)(k:Nat):decide ((l.c k kD).key∈DR l k)=YS l k:=by
 unfold DR YS;rw[bV];simp only[List.mem_reverse,iV,decide_eq_true_eq,tq,tO]
theorem QC{W:ak}{b:Nat}{x:Fw}(h:dK W b x.ay):(wS (.c (some ⟨b,0,none⟩))).I ah W = .Z (.d x.key.ay) W:=by
 have hs:dY x.ay=41:=Fw.G x;rw[Ti W b 0 (of_eq_true (h.K.2.2.1 0 37 (by omega))),h.K.2.2.2 0 37 (by omega),bB,Fw.QY]
theorem Dk(x:Cn)(vs:List Vp)(X:Sh)(s:pY)(w:ak)(hV:iJ Vp.ay 20 w w.a.j x.qH x.iK vs)(hvc:x.iK<=x.qI)(hvn:x.iK<=100000)(hS:Qg w w.a.j X s)(hbl:s.X.a<=100000)(hhl:s.h.a<=100000)(hfl:s.G.a<=100000)(J:Bool)(hJ:ze x vs s=J):
 aP ah 15 #[.d x.ay,.d X.ay] w (gD w (.e J)):=by
 obtain⟨vv,⟨bA,bn,bc⟩,⟨gA,gn,gc⟩,⟨fA,fn,fc⟩,tk,nn,ct⟩:=X;obtain rfl:vv=s.kT:=hS.kT;obtain rfl:tk=s.fQ:=hS.fQ;obtain rfl:nn=s.no:=hS.no;obtain rfl:ct=s.ji:=hS.ji;have hbn:s.X.a=bn:=hS.b.1;have hgn:s.h.a=gn:=hS.h.1;have hfn:s.G.a=fn:=hS.f.1;have HBN:=ab hbn;have HGN:=ab hgn;have HFN:=ab hfn;have HS:=ab hS;have HLS:=ab (show bn<=100000/\gn<=100000/\fn<=100000 by omega);obtain⟨K1,hK1⟩:∃K,xX x vs=K:=⟨_,rfl⟩
 obtain⟨K2,hK2⟩:∃K,xO s.kT s.X=K:=⟨_,rfl⟩
 obtain⟨K3,hK3⟩:∃K,decide (gn=bn)=K:=⟨_,rfl⟩
 obtain⟨K4,hK4⟩:∃K,decide ((fn:Int)<=x.dU)=K:=⟨_,rfl⟩
 obtain⟨KN,hKN⟩:∃K,adG s=K:=⟨_,rfl⟩
 obtain⟨KH,hKH⟩:∃K,(dP gn).all (Jd x s)=K:=⟨_,rfl⟩
 obtain⟨KF,hKF⟩:∃K,(dP fn).all (Sq s)=K:=⟨_,rfl⟩
 have HJ:=ab (show J=((K1&&(K2&&(K3&&K4)))&&(KN&&(KH&&KF)))by rw[<-hJ,<-hK1,<-hK2,<-hK3,<-hK4,<-hKN,<-hKH,<-hKF,<-hbn,<-hgn,<-hfn];rfl);have HKN:=ab hKN;have HKH:=ab hKH;have HKF:=ab hKF;have q3:((gn:Int) != (bn:Int)) = !K3:=by rw[<-hK3];by_cases h:gn=bn<;>simp[h];omega
 have q4:decide (x.dU<(fn:Int)) = !K4:=by rw[<-hK4];by_cases h:(fn:Int)<=x.dU<;>simp[h]<;>omega
 have HK3:=ab hK3;clear hJ hK4 hKN hKH hKF hbn hgn hfn hbl hhl hfl hK3;have h0:=((Bx.start w).new x.ay 29).new (Sh.mk s.kT ⟨bA,bn,bc⟩ ⟨gA,gn,gc⟩ ⟨fA,fn,fc⟩ s.fQ s.no s.ji).ay 37;rw[show(w.alloc (.D x.ay 29)).a.j=w.a.j+1 by simp]at h0;have Z0:=ab h0;clear h0;obtain⟨XA,hXA⟩:∃A,A=(Sh.mk s.kT ⟨bA,bn,bc⟩ ⟨gA,gn,gc⟩ ⟨fA,fn,fc⟩ s.fQ s.no s.ji).ay:=⟨_,rfl⟩
 have XF:=ab (show XA.extract 0 2 = #[.b .a s.kT,.a bA bn bc]/\XA[0]? = some (.b .a s.kT)/\XA[1]? = some (.a bA bn bc)/\XA[2]? = some (.a gA gn gc)/\XA[3]? = some (.a fA fn fc)/\XA[4]? = some (.b .a s.fQ)/\XA[5]? = some (.b .a s.no)/\∀j,j<11->XA[6+j]? = some (.b .a (s.ji.a.c j 0))by
  rw[hXA];exact⟨Sh.MX _,Sh.qw _,Sh.Gu _,Sh.XL _,Sh.agU _,Sh.al0 _,Sh.al1 _,fun j hj=>Sh.Yu _ j hj⟩)
 have CC:=ab (fun w1 (hb:aL w.a.j w w1)=>XC x vs w1 (hV.go hb) hvc hvn);have CP:=ab (fun w1 (hb:aL w.a.j w w1)=>aft s.X HS.i.pJ s.kT bA bn bc w1 (HS.i.b.go hb) (by have:=HLS.i;omega) K2 hK2);rw[hK1]at CC;have XS:=ab (show XA.j=17 by rw[hXA];exact Sh.G _);clear hK1 hK2 hV hS;go_enter Tryz.func15,Tryz.ntmps15;go_upto_region 1 with fail
 generalize(w.alloc (.D x.ay 29)).alloc (.D (Sh.mk s.kT ⟨bA,bn,bc⟩ ⟨gA,gn,gc⟩ ⟨fA,fn,fc⟩ s.fQ s.no s.ji).ay 37)=w0 at Z0 ⊢;rw[<-hXA]at Z0;clear hXA;obtain⟨x1,x2,x3,x4⟩:=Z0.i.b1.K;go_wp2_with fail
 (with_reducible refine(CC.i _ Z0.i.R).g ?_)
 rintro e w1 ⟨rfl,hb1⟩;have Z1:=ab (Z0.i.go hb1);clear hb1 x1 x2 x3 x4;cases K1
 ·skip
  go_wp2;go_ret;exact⟨by rw[HJ.i];rfl,Z1.i.R⟩
 obtain⟨e0,e1,e2,e3,e4,e5,e6,e7⟩:=XF.i;obtain⟨y1,y2,y3,y4⟩:=Z1.i.S.K;have hys:dY XA=17:=by have:=Z1.i.S;unfold dY;exact XS.i
 go_wp2_with fail
 (with_reducible refine(CP.i _ Z1.i.R).g ?_)
 rintro e w2 ⟨rfl,hb2⟩;have Z2:=ab (Z1.i.go hb2);clear hb2 y1 y2 y3 y4;cases K2
 ·skip
  go_wp2;go_ret;exact⟨by rw[HJ.i];rfl,Z2.i.R⟩
 obtain⟨x1,x2,x3,x4⟩:=Z2.i.b1.K;obtain⟨y1,y2,y3,y4⟩:=Z2.i.S.K;have z2:=Cn.Ng x;cases K3
 ·simp only[ra]at q3
  go_wp2;go_ret;exact⟨by rw[HJ.i];rfl,Z2.i.R⟩
 cases K4
 ·simp only[ra]at q4
  go_wp2;go_ret;exact⟨by rw[HJ.i];rfl,Z2.i.R⟩
 simp only[uG]at q3 q4;obtain⟨a1,ha1⟩:∃a,decide (s.fQ<0)=a:=⟨_,rfl⟩
 obtain⟨a2,ha2⟩:∃a,decide (1099511627776<s.fQ)=a:=⟨_,rfl⟩
 obtain⟨a3,ha3⟩:∃a,decide (s.no<0)=a:=⟨_,rfl⟩
 obtain⟨a4,ha4⟩:∃a,decide (1152921504606846976<s.no)=a:=⟨_,rfl⟩
 obtain⟨a5,ha5⟩:∃a,s.ji.a.any zU=a:=⟨_,rfl⟩
 have agC:=ab (show KN=(!a1&&(!a2&&(!a3&&(!a4 && !a5))))by
  rw[<-HKN.i,<-ha1,<-ha2,<-ha3,<-ha4,<-ha5,ap8];unfold adG XT;rw[bV];simp only[bl,decide_eq_true_eq,nZ,decide_eq_false_iff_not,Bool.not_not];constructor
  ·rintro⟨h1,h2,h3⟩;exact⟨by omega,by omega,by omega,by omega,h3⟩
  ·rintro⟨h1,h2,h3,h4,h5⟩;exact⟨by omega,by omega,h5⟩)
 have CA:=ab (auH (some ⟨w.a.j+1,6,none⟩) 11 11 w2.a.j w2 s.ji.a (by omega) (by have:=RdI.box (l:=s.ji.a) (o:=6) Z2.i.S (fun j hj=>e7 j (by simpa using hj));rw[nH]at this;exact this));rw[ha5]at CA;clear ha5;cases a1;rotate_left
 ·skip
  go_wp2;go_ret;exact⟨by rw[HJ.i,agC.i];rfl,Z2.i.R⟩
 cases a2;rotate_left
 ·skip
  go_wp2;go_ret;exact⟨by rw[HJ.i,agC.i];rfl,Z2.i.R⟩
 cases a3;rotate_left
 ·skip
  go_wp2;go_ret;exact⟨by rw[HJ.i,agC.i];rfl,Z2.i.R⟩
 cases a4;rotate_left
 ·skip
  go_wp2;go_ret;exact⟨by rw[HJ.i,agC.i];rfl,Z2.i.R⟩
 go_wp2_with fail
 (with_reducible refine CA.i.g ?_)
 rintro e w3 ⟨rfl,rfl⟩;cases a5;rotate_left
 ·skip
  go_wp2;go_ret;exact⟨by rw[HJ.i,agC.i];rfl,Z2.i.R⟩
 have HJ:=ab (show J=(KH&&KF)by rw[HJ.i,agC.i];simp);have hgb:=of_decide_eq_true HK3.i;subst hgb;clear ha1 ha2 ha3 ha4 q3 q4 agC HKN CA HK3;go_wp2;clear x1 x2 x3 x4 y1 y2 y3 y4 z2;go_loopw [64] (fun s64 wr=>∃i:Nat,i<=gn/\s64=.b .a i/\Bx [(w.a.j+1,XA),(w.a.j,x.ay)] w wr/\∀k,k<i->Jd x s k=true) (fun s64 _=>gn-(intOf s64).e)
 case atStart=>exact⟨0,by omega,rfl,Z2.i,fun k hk=>by omega⟩
 case round=>
  obtain⟨i,hin,rfl,hz,hall⟩:=hrel;have ZR:=ab hz;have HA:=ab hall;clear hz hall;by_cases hlt:i<gn
  ·have hlt2:(i:Int)<gn:=by omega
   have hgs:gn<=100000:=HLS.i.2.1;obtain⟨y,hy⟩:=tN (s.h.c i kS);obtain⟨b,o,rfl,_,hh,hcl,_,_⟩:=iJ.hl (show RdH wr wr.a.j gA gn s.h from HS.i.h.go ZR.i.R) hlt;rw[hy]at hcl;have ZY:=ab (ZR.i.new y.ay 100);go_upto_region 8 with fail
   generalize wr.alloc (.D y.ay 100)=w5 at ZY ⊢;generalize wr.a.j=py at ZY ⊢;clear hh hcl;obtain⟨b2,o2,rfl,_,hc2⟩:=iJ.cell Bk.G jg (show iJ Bk.ay 27 w5 w5.a.j bA gn s.X from HS.i.b.go ZY.i.R) hlt;have n0:=(hc2 0 (by omega)).trans (Bk.qw _);rw[nD]at n0;clear hc2;obtain⟨nm,hnm⟩:∃n,(s.X.c i jg).E=n:=⟨_,rfl⟩
   rw[hnm]at n0;obtain⟨x1,x2,x3,x4⟩:=ZY.i.b2.K;obtain⟨y1,y2,y3,y4⟩:=ZY.i.b1.K;obtain⟨u1,u2,u3,u4⟩:=ZY.i.S.K;have d0:=Hl.qw y;have d1:=Hl.Gu y;have d2:=Hl.XL y;obtain⟨t1,ht1⟩:∃a,(y.E==nm)=a:=⟨_,rfl⟩
   obtain⟨t2,ht2⟩:∃a,decide (y.I<0)=a:=⟨_,rfl⟩
   have T1:(y.E != nm) = !t1:=by rw[<-ht1];rfl
   have T2:decide (y.E=nm)=t1:=by rw[<-ht1];rw[bV];simp
   have T3:decide (y.E≠nm) = !t1:=by rw[<-ht1];rw[bV];simp
   have T4:(!decide (y.E=nm)) = !t1:=by rw[T2]
   cases hd:y.down
   ·obtain⟨t3,ht3⟩:∃a,decide (x.X<=y.I)=a:=⟨_,rfl⟩
    have HI:=ab (show Jd x s i=(t1&&(!t2 && !t3))by
     unfold Jd amR;rw[hy,hnm,hd,ht1,<-ht2,<-ht3];congr 1;congr 1<;>(rw[bV];simp))
    have c1:=Cn.Tx x;rw[hd]at d1;clear hy hnm;go_upto_region 11 with fail
    cases t1
    ·have HF:=ab (show KH=false by rw[<-HKH.i];exact jh _ i _ hlt (by rw[HI.i];simp))
     simp only[uG,ra]at T1 T3 T4;go_quiet (fail);go_wp2;go_ret;exact⟨by rw[HJ.i,HF.i];rfl,ZY.i.R.trans (eH (aG _ _) _)⟩
    simp only[uG,ra]at T1 T3 T4;cases t2;rotate_left
    ·have HF:=ab (show KH=false by rw[<-HKH.i];exact jh _ i _ hlt (by rw[HI.i];simp))
     go_quiet (fail);go_wp2;go_ret;exact⟨by rw[HJ.i,HF.i];rfl,ZY.i.R.trans (eH (aG _ _) _)⟩
    cases t3;rotate_left
    ·have HF:=ab (show KH=false by rw[<-HKH.i];exact jh _ i _ hlt (by rw[HI.i];simp))
     go_quiet (fail);go_wp2;go_ret;exact⟨by rw[HJ.i,HF.i];rfl,ZY.i.R.trans (eH (aG _ _) _)⟩
    have HK:=ab (show Jd x s i=true by rw[HI.i];rfl);go_quiet (fail);go_wp2;go_roundw
    case rel=>exact⟨i+1,by omega,by go_num,ZY.i.Tq.drewN _,fun k hk=>by
     by_cases hki:k=i
     ·rw[hki];exact HK.i
     ·exact HA.i k (by omega)⟩
    case measure=>simp[intOf]<;>omega
   ·obtain⟨t3,ht3⟩:∃a,decide (x.kC<=y.I)=a:=⟨_,rfl⟩
    have HI:=ab (show Jd x s i=(t1&&(!t2 && !t3))by
     unfold Jd amR;rw[hy,hnm,hd,ht1,<-ht2,<-ht3];congr 1;congr 1<;>(rw[bV];simp))
    have c1:=Cn.Tw x;rw[hd]at d1;clear hy hnm;go_upto_region 11 with fail
    cases t1
    ·have HF:=ab (show KH=false by rw[<-HKH.i];exact jh _ i _ hlt (by rw[HI.i];simp))
     simp only[uG,ra]at T1 T3 T4;go_quiet (fail);go_wp2;go_ret;exact⟨by rw[HJ.i,HF.i];rfl,ZY.i.R.trans (eH (aG _ _) _)⟩
    simp only[uG,ra]at T1 T3 T4;cases t2;rotate_left
    ·have HF:=ab (show KH=false by rw[<-HKH.i];exact jh _ i _ hlt (by rw[HI.i];simp))
     go_quiet (fail);go_wp2;go_ret;exact⟨by rw[HJ.i,HF.i];rfl,ZY.i.R.trans (eH (aG _ _) _)⟩
    cases t3;rotate_left
    ·have HF:=ab (show KH=false by rw[<-HKH.i];exact jh _ i _ hlt (by rw[HI.i];simp))
     go_quiet (fail);go_wp2;go_ret;exact⟨by rw[HJ.i,HF.i];rfl,ZY.i.R.trans (eH (aG _ _) _)⟩
    have HK:=ab (show Jd x s i=true by rw[HI.i];rfl);go_quiet (fail);go_wp2;go_roundw
    case rel=>exact⟨i+1,by omega,by go_num,ZY.i.Tq.drewN _,fun k hk=>by
     by_cases hki:k=i
     ·rw[hki];exact HK.i
     ·exact HA.i k (by omega)⟩
    case measure=>simp[intOf]<;>omega
  ·obtain rfl:i=gn:=by omega
   have HF:=ab (show KH=true by rw[<-HKH.i,gJ];exact fun k hk=>HA.i k (eO.1 hk));have HJ:=ab (show J=KF by rw[HJ.i,HF.i];rfl);have hnl:¬(i:Int)<i:=by omega
   clear hlt HA HF HKH;obtain⟨y1,y2,y3,y4⟩:=ZR.i.S.K;have hmm:=fun n w=>Gy (P:=ah) Tryz.underlying114 n w
   go_upto_region 15 with fail
   have M0:=ab (Kh.new wr);have ZM:=ab (ZR.i.alloc (.map #[] 0));have HM:=ab (show w.a.j<=wr.a.j/\∀p∈[(w.a.j+1,XA),(w.a.j,x.ay)],p.1≠wr.a.j from⟨ZR.i.R.j,fun p hp=>by have:=(ZR.i.2 p hp).2.lt;omega⟩);generalize wr.alloc (.map #[] 0)=w6 at M0 ZM ⊢;generalize wr.a.j=M at M0 HM ⊢;clear y1 y2 y3 y4 hmm;obtain⟨y1,y2,y3,y4⟩:=ZM.i.S.K;go_wp2;clear y1 y2 y3 y4;go_loopw [104] (fun avu wr=>∃k:Nat,k<=fn/\avu=.b .a k/\Bx [(w.a.j+1,XA),(w.a.j,x.ay)] w wr/\Kh wr M k (DR s.G k)/\∀j,j<k->Sq s j=true) (fun avu _=>fn-(intOf avu).e)
   case atStart=>exact⟨0,by omega,rfl,ZM.i,M0.i,fun k hk=>by omega⟩
   case round=>
    obtain⟨k,hkn,rfl,hz,hm,hall⟩:=hrel;have ZR:=ab hz;have MR:=ab hm;have HA:=ab hall;clear hz hm hall;by_cases hkt:k<fn;rotate_left
    ·obtain rfl:k=fn:=by omega
     have HF:=ab (show KF=true by rw[<-HKF.i,gJ];exact fun j hj=>HA.i j (eO.1 hj));have hnl:¬(k:Int)<k:=by omega
     go_wp2;go_ret;exact⟨by rw[HJ.i,HF.i];rfl,ZR.i.R⟩
    have hlt2:(k:Int)<fn:=by omega
    obtain⟨b,o,rfl,hbl,hh,hcl⟩:=iJ.fw (show iJ Fw.ay 41 wr wr.a.j fA fn s.G from HS.i.f.go ZR.i.R) hkt;obtain⟨y,hy⟩:=tN (s.G.c k kD);rw[hy]at hcl;have HYN:=ab (HS.i.ac' _ (AY kD s.G k (by rw[HFN.i];exact hkt)));rw[hy]at HYN;have ZY:=ab (ZR.i.new y.ay 86);have MY:=ab (MR.i.go ((aG _ _).alloc (av _) (.D y.ay 86)));go_upto_region 18 with fail
    generalize wr.alloc (.D y.ay 86)=w7 at ZY MY ⊢;generalize wr.a.j=py at ZY ⊢;clear hh hcl hbl;have hfs:fn<=100000:=HLS.i.2.2;obtain⟨c1,hc1⟩:∃c,Dz y=c:=⟨_,rfl⟩
    obtain⟨c2,hc2⟩:∃c,decide (s.fQ<y.seen)=c:=⟨_,rfl⟩
    obtain⟨c3,hc3⟩:∃c,decide (y.no<1)=c:=⟨_,rfl⟩
    obtain⟨c4,hc4⟩:∃c,decide (s.no<y.no)=c:=⟨_,rfl⟩
    obtain⟨c5,hc5⟩:∃c,decide (y.key∈DR s.G k)=c:=⟨_,rfl⟩
    obtain⟨pv,hpv⟩:∃p,s.G.c (k-1) kD=p:=⟨_,rfl⟩
    have HI:=ab (show Sq s k=(c1&&(!c2&&(!c3&&(!c4&&(!c5&&(decide (k=0)||lI pv y))))))by
     unfold Sq;have hkk:=agB s.G k;rw[hy]at hkk ⊢;rw[<-hkk,hc5,hc1,hpv,<-hc2,<-hc3,<-hc4];have g1:decide (y.seen<=s.fQ) = !decide (s.fQ<y.seen):=by rw[bV];simp
     have g2:decide (1<=y.no) = !decide (y.no<1):=by rw[bV];simp
     have g3:decide (y.no<=s.no) = !decide (s.no<y.no):=by rw[bV];simp
     rw[g1,g2,g3])
    have FR:=ab (fun W=>KE y W HYN.i);rw[hc1]at FR;have HC1:=ab hc1;have HPV:=ab hpv;have HYY:=ab hy;have KEY:=ab (aed (l:=s.G) (k:=k) (by rw[HFN.i];exact hkt));clear hy hc1 hpv;obtain⟨T,f,n0,E0,es,ew⟩:=xC (w7);have hT:Nonempty T:=⟨n0⟩
    have ES:=ab es;have EW:=ab ew;clear es ew;have l1:=fun m=>kK (ZY.i.go (ES.i m)).S
    have l3:∀m,(f m).b ⟨py,39,none⟩=some (.b .a y.seen):=fun m=>((ZY.i.go (ES.i m)).S.K.1 39).trans (Fw.afr y)
    have l4:∀m,(f m).b ⟨py,40,none⟩=some (.b .a y.no):=fun m=>((ZY.i.go (ES.i m)).S.K.1 40).trans (Fw.aaG y)
    have l5:∀m,(f m).b ⟨w.a.j+1,4,none⟩=some (.b .a s.fQ):=fun m=>((ZY.i.go (ES.i m)).b1.K.1 4).trans XF.i.2.2.2.2.2.1
    have l6:∀m,(f m).b ⟨w.a.j+1,5,none⟩=some (.b .a s.no):=fun m=>((ZY.i.go (ES.i m)).b1.K.1 5).trans XF.i.2.2.2.2.2.2.1
    have l7:∀m,(f m).b ⟨w.a.j+1,3,none⟩=some (.a (some ⟨b,o,none⟩) fn fc):=fun m=>((ZY.i.go (ES.i m)).b1.K.1 3).trans XF.i.2.2.2.2.1
    have l8:∀m,(wS (.c (some ⟨py,0,none⟩))).I ah (f m) = .Z (.d y.key.ay) (f m):=fun m=>QC (ZY.i.go (ES.i m)).S
    cases c1;rotate_left;have L9:=ab (fun W (h:Kh W M k (DR s.G k))=>show(Instr.lookup 114 (.map (some M)) (.d y.key.ay) false).I ah W = .Z (.e c5) W by rw[akc h y.key (wF HC1.i),hc5]);have l9:=fun m=>L9.i (f m) (MY.i.go (ES.i m))
    clear hc5;cases c2;cases c3;cases c4;cases c5
    all_goals try(
     have HF:=ab (show KF=false by rw[<-HKF.i];exact jh _ k _ hkt (by rw[HI.i];simp));refine nL f (by kernel_rfl) (by kernel_rfl) n0 E0 ?_
     repeat(go_big_quiet_step ((first|(go_at_call 48;(with_reducible refine(FR.i _).g ?_);rintro e w2 ⟨rfl,hb⟩;exact⟨rfl,EW.i _ ((ES.i _).trans (hb.g (ES.i _).j))⟩))))
     refine gK ?_;rintro _ ⟨m',rfl⟩;have HB:=ab (ES.i m');generalize f m'=wN at *;clear ES EW E0 hT n0;go_wp2;go_ret;exact⟨by rw[HJ.i,HF.i];rfl,(ZY.i.go HB.i).R⟩)
    have JA:=ab (JX HC1.i);by_cases hk0:k=0
    ·have t0:decide (0<(k:Int))=false:=by simp;omega
     have HI:=ab (show Sq s k=true by rw[HI.i];simp[hk0]);have HG:=ab (show Sq s k=true by exact HI.i);refine nL f (by kernel_rfl) (by kernel_rfl) n0 E0 ?_
     repeat(go_big_quiet_step ((first|(go_at_call 48;(with_reducible refine(FR.i _).g ?_);rintro e w2 ⟨rfl,hb⟩;exact⟨rfl,EW.i _ ((ES.i _).trans (hb.g (ES.i _).j))⟩))))
     refine gK ?_;rintro _ ⟨m',rfl⟩;have HB:=ab (ES.i m');generalize f m'=wN at *;clear ES EW E0 hT n0;clear l1 l3 l4 l5 l6 l7 l8 l9;have ZN:=ab (ZY.i.go HB.i);have MN:=ab (MY.i.go HB.i);have l8:=QC ZN.i.S;have TK:=ab (wF HC1.i);have HK1:=ab (show k<=1000000 by omega);go_wp2_with (refine Rs rfl (.a 152) (.a 154) (.const (.e true)) rfl M k (DR s.G k) rfl MN.i HK1.i y.key TK.i rfl rfl ?_;intro w9 h1 h2;have M9:=ab h1;have Z9:=ab (ZN.i.Tq.RG h2 HM.i.1 HM.i.2);clear h1 h2);go_roundw
     case rel=>exact⟨k+1,by omega,by go_num,Z9.i,by rw[<-KEY.i,HYY.i];exact M9.i,fun j hj=>by
      by_cases hjk:j=k
      ·rw[hjk];exact HG.i
      ·exact HA.i j (by omega)⟩
     case measure=>simp[intOf]<;>omega
    have t0:decide (0<(k:Int))=true:=by simp;omega
    have t00:decide (0<k)=true:=decide_eq_true (by omega);have hkp:0<k:=by omega
    have HOP:=ab (show Dz pv=true by
     have:=HA.i (k-1) (by omega);unfold Sq at this;rw[HPV.i]at this;simp only[bl]at this;exact this.1)
    have HON:=ab (JX HOP.i);have CO:=ab (fun W=>Rl pv y HON.i.1 JA.i.1 HON.i.2 JA.i.2 W);obtain⟨j,hj⟩:∃j:Nat,j=k-1:=⟨_,rfl⟩
    have i1:(k:Int)-1=(j:Int):=by omega
    have i2:(j:Int)<fn:=by omega
    rw[<-hj]at HPV;have HJK:=ab (show j<fn by omega);clear hj;have la:∀m,(Qf (.c (some ⟨b,o+j*41,none⟩))).I ah (f m) = .Z (.d pv.ay) (f m):=fun m=>by
     obtain⟨b',o',e,_,hh,hcl⟩:=iJ.fw (show iJ Fw.ay 41 (f m) (f m).a.j (some ⟨b,o,none⟩) fn s.G from HS.i.f.go (ZY.i.go (ES.i m)).R) HJK.i;injection e with e
     injection e with e1 e2
     subst e1 e2;rw[HPV.i]at hcl;rw[ahg _ _ _ hh,hcl]
    obtain⟨c7,hc7⟩:∃c,lI pv y=c:=⟨_,rfl⟩
    rw[hc7]at CO HI;have HOL:=ab hc7;clear hc7;cases c7
    ·have hk9:=hk0
     have HF:=ab (show KF=false by rw[<-HKF.i];exact jh _ k _ hkt (by rw[HI.i];simp[hk9]));refine nL f (by kernel_rfl) (by kernel_rfl) n0 E0 ?_
     repeat(go_big_quiet_step ((first|(go_at_call 48;(with_reducible refine(FR.i _).g ?_);rintro e w2 ⟨rfl,hb⟩;exact⟨rfl,EW.i _ ((ES.i _).trans (hb.g (ES.i _).j))⟩)|(go_at_call 49;(with_reducible refine(CO.i _).g ?_);rintro e w2 ⟨rfl,hb⟩;exact⟨rfl,EW.i _ ((ES.i _).trans (hb.g (ES.i _).j))⟩))))
     refine gK ?_;rintro _ ⟨m',rfl⟩;have HB:=ab (ES.i m');generalize f m'=wN at *;clear ES EW E0 hT n0;go_wp2;go_ret;exact⟨by rw[HJ.i,HF.i];rfl,(ZY.i.go HB.i).R⟩
    have HG:=ab (show Sq s k=true by rw[HI.i];simp[HOL.i]);refine nL f (by kernel_rfl) (by kernel_rfl) n0 E0 ?_
    repeat(go_big_quiet_step ((first|(go_at_call 48;(with_reducible refine(FR.i _).g ?_);rintro e w2 ⟨rfl,hb⟩;exact⟨rfl,EW.i _ ((ES.i _).trans (hb.g (ES.i _).j))⟩)|(go_at_call 49;(with_reducible refine(CO.i _).g ?_);rintro e w2 ⟨rfl,hb⟩;exact⟨rfl,EW.i _ ((ES.i _).trans (hb.g (ES.i _).j))⟩))))
    refine gK ?_;rintro _ ⟨m',rfl⟩;have HB:=ab (ES.i m');generalize f m'=wN at *;clear ES EW E0 hT n0;clear l1 l3 l4 l5 l6 l7 l8 l9;have ZN:=ab (ZY.i.go HB.i);have MN:=ab (MY.i.go HB.i);have l8:=QC ZN.i.S;have TK:=ab (wF HC1.i);have HK1:=ab (show k<=1000000 by omega);go_wp2_with (refine Rs rfl (.a 152) (.a 154) (.const (.e true)) rfl M k (DR s.G k) rfl MN.i HK1.i y.key TK.i rfl rfl ?_;intro w9 h1 h2;have M9:=ab h1;have Z9:=ab (ZN.i.Tq.RG h2 HM.i.1 HM.i.2);clear h1 h2);go_roundw
    case rel=>exact⟨k+1,by omega,by go_num,Z9.i,by rw[<-KEY.i,HYY.i];exact M9.i,fun j hj=>by
     by_cases hjk:j=k
     ·rw[hjk];exact HG.i
     ·exact HA.i j (by omega)⟩
    case measure=>simp[intOf]<;>omega
section
variable {W W':ak} {q:Nat} {e:En} {s:pY} {x:Eg} {q2 g:Nat} {sl:List (Option Fw)}
theorem Gj{B sz n c p:Nat}{T:bF}{A:Option aT}{xs:List aB}(h:W.c B T sz (.a A n c) n xs)(hf:jC [p] W W')(hp:p<B):W'.c B T sz (.a A n c) n xs:=Ar h hf (fun k hk hm=>by simp at hm;subst hm;have:=h.lt _ hk;omega)
structure StO(B:Nat)(W:ak)(X:Sh)(s:pY):Prop where
 kT:X.kT=s.kT
 bn:s.X.a=X.b.n
 b:W.c B 62 27 (.a X.b.A X.b.n X.b.c) X.b.n (s.X.h fun y=>y.ay.a)
 hn:s.h.a=X.h.n
 h:W.c B 100 3 (.a X.h.A X.h.n X.h.c) X.h.n (s.h.h fun y=>y.ay.a)
 fn:s.G.a=X.f.n
 f:W.c B 86 41 (.a X.f.A X.f.n X.f.c) X.f.n (s.G.h fun y=>y.ay.a)
 fQ:X.fQ=s.fQ
 no:X.no=s.no
 ji:X.ji=s.ji
def aqT(W:ak)(s:pY)(r:lq)(W':ak):Prop:=∃X:Sh,r=.a (.d X.ay)/\StO W.a.j W' X s/\aL W.a.j W W'
theorem kSh:oO 37 17 IL.ay:=⟨⟨_,rV,rfl⟩,by kernel_rfl,by kernel_rfl,Sh.G _⟩
@[go_sem]theorem azQ(W:ak)(kT:Int)(A1:Option aT)(n1 c1:Nat)(A2:Option aT)(n2 c2:Nat)(A3:Option aT)(n3 c3:Nat)(t n:Int)(v:Vector Int 11):(atp #[(0,.d (Pc.mk kT A1 n1 c1).ay),(1,.a A2 n2 c2),(2,.a A3 n3 c3),(3,.b .a t),(4,.b .a n),(5,.d (v.a.map (aI .a)).b)]).I ah W = .Z (.d (Sh.mk kT ⟨A1,n1,c1⟩ ⟨A2,n2,c2⟩ ⟨A3,n3,c3⟩ t n v).ay) W:=kSh.bd W _ _ _ _ rV (Yv W _ rV) (by
 refine uQ (Sh.G _) ?_ ?_
 ·simp[rF,cK,Pc.G]
 ·simp[qP,cK,Pc.ay,Sh.ay,shT,yB])
theorem Eg.akd{x:Eg}(h:dK W q x.ay):W.rangeAt q 79 (x.ji.a.map (aI .a)):=by
 intro j v hj;have hj6:j<11:=by
  rcases aY j 11 with h1|h1
  ·exact h1
  ·rw[aS (by simpa using h1)]at hj;cases hj
 have h2:(x.ay.extract 79 90)[j]? = (yB x.ji)[j]?:=by rw[Eg.anm]
 rw[dx,if_pos (by rw[Eg.G];omega)]at h2;rw[h.K.1,h2];unfold yB;rw[dV];exact hj
theorem Jl{M:Int}(h:yN W q e s x q2 g sl)(hi:nR M e s):aP ah 20 #[.c (some ⟨q,0,none⟩)] W (aqT W s):=by
 have Z0:=ab ((Bx.start W).new IL.ay 37);have H:=ab h;have HI:=ab hi;have HN:=ab (show s.X.a=x.pl.rN/\s.h.a=x.DN from⟨h.b.X.1,h.b.hl.1⟩);have HF:=ab hi.few;have SZ:=ab (show W.a.j<(W.alloc (.D IL.ay 37)).a.j by simp);clear h hi;go_enter Tryz.func20,Tryz.ntmps20;go_upto_region 1 with fail
 generalize W.alloc (.D IL.ay 37)=w0 at Z0 SZ ⊢;have l1:=kPc.Dj (H.i.b.eg.go Z0.i.R) 70 (Eg.ahO _) (by rw[Eg.G];omega);go_upto_region 2 with fail
 have Z1:=ab (Z0.i.new x.pl.ay 32);have SZ1:=ab (show w0.a.j<(w0.alloc (.D x.pl.ay 32)).a.j by simp);generalize w0.alloc (.D x.pl.ay 32)=w1 at Z1 SZ1 ⊢;have NP:=ab (show w0.a.j≠W.a.j by have:=SZ.i;omega);generalize w0.a.j=p at Z1 SZ SZ1 NP ⊢;clear l1;have f1:=(Z1.i.S.K.1 1).trans (Pc.ani x.pl);have CB:=ab (xu s.X x.pl.rA x.pl.rC w1 (by have h1:=H.i.b.X.go Z1.i.R;rw[HN.i.1];exact h1) (by have:=HF.i;omega));unfold aav at CB;rw[HN.i.1]at CB;go_upto_region 3 with(go_at_call 61;(with_reducible refine CB.i.g ?_);rintro r w2 ⟨A1,c1,rfl,ho,hb⟩;have g1:=(Z1.i.S.go hb).K.2.1 1;have f1:=((Z1.i.S.go hb).K.1 1).trans (Pc.ani x.pl);have Z2:=ab (Z1.i.go hb);have O1:=ab ho;have SZ2:=ab hb.j;clear ho hb)
 have Z3:=ab (Z2.i.set (fun r hr=>by simp at hr;subst hr;have:=SZ.i;simp;omega) 1 (.a A1 x.pl.rN c1));rw[Pc.ahN]at Z3;have O3:=ab (Ar O1.i ((jC.refl [p] w2).set ⟨p,1,none⟩ (.a A1 x.pl.rN c1) (.a (by simp))) (fun k hk hm=>by have:=iH O1.i;simp at hm;subst hm;have:=O1.i.lt _ hk;have:=SZ1.i;omega));have SZ3:=ab (show w1.a.j<=(w2.F ⟨p,1,none⟩ (.a A1 x.pl.rN c1)).a.j by have:=SZ2.i;simp[World.setCell];exact this);generalize w2.F ⟨p,1,none⟩ (.a A1 x.pl.rN c1)=w3 at Z3 O3 SZ3 ⊢;clear f1 g1;have KS:=ab (fun(w':ak) (h0:dK w' p ({x.pl with rA:=A1,rN:=x.pl.rN,rC:=c1}:Pc).ay) (h1:dK w' q x.ay)=>show(xI 32 (.c (some ⟨p,0,none⟩))).I ah w' = .Z (.d (Pc.mk x.pl.kT A1 x.pl.rN c1).ay) w'/\w'.b ⟨q,72,none⟩=some (.a x.Ot x.DN x.Sz)/\w'.b ⟨q,74,none⟩=some (.c (some ⟨q2,0,none⟩))/\w'.b ⟨q,77,none⟩=some (.b .a x.fQ)/\w'.b ⟨q,78,none⟩=some (.b .a x.no)/\w'.rangeAt q 79 (x.ji.a.map (aI .a))from
  ⟨kPc.Dj h0 0 (Pc.all _) (by rw[Pc.G];omega),(h1.K.1 72).trans (Eg.Zi _),by rw[h1.K.1 74,Eg.Zj,H.i.b.fl];rfl,(h1.K.1 77).trans (Eg.TS _),(h1.K.1 78).trans (Eg.anl _),Eg.akd h1⟩)
 have CH:=ab (fun(w:ak) (hb:aL W.a.j W w)=>Le s.h x.Ot x.DN x.Sz w (H.i.b.hl.go hb) (by have:=HF.i;have:=HN.i;omega));have CL:=ab (fun(w:ak) (hb:aL W.a.j W w)=>agc (H.i.b.h.go hb));unfold ClP at CH;have hU:=EL;have hI:(ah.info? 35).map (·.j)=some (x.ji.a.map (aI .a)).a:=by rw[bU,nH];kernel_rfl
 go_region_held_law (fun w'=>(xI 32 (.c (some ⟨p,0,none⟩))).I ah w' = .Z (.d (Pc.mk x.pl.kT A1 x.pl.rN c1).ay) w'/\w'.b ⟨q,72,none⟩=some (.a x.Ot x.DN x.Sz)/\w'.b ⟨q,74,none⟩=some (.c (some ⟨q2,0,none⟩))/\w'.b ⟨q,77,none⟩=some (.b .a x.fQ)/\w'.b ⟨q,78,none⟩=some (.b .a x.no)/\w'.rangeAt q 79 (x.ji.a.map (aI .a)))
  (first|exact KS.i _ Z3.i.drew.S (H.i.b.eg.go Z3.i.drew.R)|exact KS.i _ Z4.i.S (H.i.b.eg.go Z4.i.R)|exact KS.i _ Z5.i.S (H.i.b.eg.go Z5.i.R)|exact KS.i _ Z6.i.b1 (H.i.b.eg.go Z6.i.R)|go_keep)
  (first
  | (go_at_call 59;(with_reducible refine(CH.i _ Z3.i.drew.R).g ?_);rintro r w4 ⟨A2,c2,rfl,ho,hb⟩;have Z4:=ab (Z3.i.drew.go hb);have O2:=ab ho;have S4:=ab (show w3.a.j<=w4.a.j from hb.j);have B4:=ab (show aL w3.a.j w3 w4 from(iA w3).trans hb);clear ho hb)
  | (go_at_call 65;(with_reducible refine(CL.i _ Z4.i.R).g ?_);rintro r w5 ⟨A3,c3,rfl,ho,hb⟩;have Z5:=ab (Z4.i.go hb);have O5:=ab ho;have B5:=ab hb;have th:=Z5.i.b1.M 0 17 (aX (Sh.G IL).symm);have Z6:=ab (show Bx [(W.a.j,(Sh.mk x.pl.kT ⟨A1,x.pl.rN,c1⟩ ⟨A2,x.DN,c2⟩ ⟨A3,s.G.a,c3⟩ x.fQ x.no x.ji).ay),(p,({x.pl with rA:=A1,rN:=x.pl.rN,rC:=c1}:Pc).ay)] W (al3 w5 W.a.j 0 (Sh.mk x.pl.kT ⟨A1,x.pl.rN,c1⟩ ⟨A2,x.DN,c2⟩ ⟨A3,s.G.a,c3⟩ x.fQ x.no x.ji))from Z5.i.swap.put (fun r hr=>by rw[fG.1 hr];exact NP.i) _ (by rw[Sh.G,Sh.G]));clear ho hb))
 have FS:=ab (show jC [W.a.j] w5 (al3 w5 W.a.j 0 (Sh.mk x.pl.kT ⟨A1,x.pl.rN,c1⟩ ⟨A2,x.DN,c2⟩ ⟨A3,s.G.a,c3⟩ x.fQ x.no x.ji))from yt w5 W.a.j 0 _);have hs:=SZ.i;have hs1:=SZ1.i;have hs3:=SZ3.i;have hs4:=S4.i;have hw:=Z3.i.R.j;go_wp2_with fail;refine aN (kSh.yV rfl _ rfl Z6.i.S (Sh.G _)) rfl ?_;refine⟨_,rfl,⟨H.i.b.kT,HN.i.1,?_,HN.i.2,?_,rfl,?_,H.i.b.fQ,H.i.b.no,H.i.b.ji⟩,Z6.i.R⟩
 ·exact iI (Gj (jA (jA O3.i B4.i) B5.i) FS.i (by omega)) (by omega)
 ·exact iI (Gj (jA O2.i B5.i) FS.i (by simp;omega)) (by simp;omega)
 ·exact iI (Gj O5.i FS.i (by omega)) (by omega)
theorem StO.r{M:Int}{B:Nat}{X:Sh}(h:StO B W X s)(hi:nR M e s):Qg W W.a.j X s:=by
 have hf:=hi.few;have hl:=hi.fl.len;obtain⟨_,⟨r1,r2⟩,_⟩:=rz hi.cn;have h1:=h.bn;have h2:=h.hn;have h3:=h.fn;refine⟨h.kT,iJ.iQ h.bn h.b,iJ.iQ h.hn h.h,iJ.iQ h.fn h.f,h.fQ,h.no,h.ji,hi.fi,fun y hy=>?_,fun y hy=>?_,by omega,by omega,by omega⟩
 ·have hm:y.E∈s.X.map (·.E):=by rw[<-hi.nm];exact iV.2 ⟨y,hy,rfl⟩
  obtain⟨b,hb,e⟩:=iV.1 hm;have:=hf.2.2 b hb;rw[<-e];omega
 ·have:=hi.fl.Z y hy
  unfold Dz vQ at this;simp only[bl,decide_eq_true_eq]at this;omega
end
theorem Eg.Nh(x:Eg)(A:Option aT)(n c:Nat):x.ay.b 16 (.a A n c)=({x with cf:={x.cf with qH:=A,iK:=n,qI:=c}}:Eg).ay:=by simp[Eg.ay,aM,Cn.G,Pc.G,Tc.G,dL,j5,Cn.Nh]
theorem Eg.ahN(x:Eg)(A:Option aT)(n c:Nat):x.ay.b 71 (.a A n c)=({x with pl:={x.pl with rA:=A,rN:=n,rC:=c}}:Eg).ay:=by simp[Eg.ay,aM,Cn.G,Pc.G,Tc.G,dL,j5,Pc.ahN]
theorem Eg.ani(x:Eg):x.ay[71]? = some (.a x.pl.rA x.pl.rN x.pl.rC):=by simp[Eg.ay,aD,Cn.G,Pc.G,Tc.G,dL,j5,Pc.ay]
theorem LM.qU{W W':ak}{q:Nat}{e:En}{s:pY}{x:Eg}{q2 g:Nat}{sl sl':List (Option Fw)}{l':List Fw}(h:LM W q e s x q2 g sl)(hf:jC [q2,g] W W')(ht:Ke W' q2 g e.key e.c.dU sl' l')(hl:sl'.a=sl.a):LM W' q e {s with G:=l'} x q2 g sl':=by
 have o:∀b,b∈oz x->b∉[q2,g]:=fun b hm=>by have:=h.EF b hm;simp;omega
 have hs:=hf.j;have hq:=h.nq;exact⟨hf.box h.eg (by simp;omega),h.key,h.cf,h.kT,h.vs.keep hf (fun b hm=>o b (dW.2 (.a hm))),h.X.keep hf (fun b hm=>o b (dW.2 (.b (.a hm)))),h.hl.keep hf (fun b hm=>o b (dW.2 (.b (.b (.a hm))))),h.fl,ht,by rw[hl];exact h.rm,h.nq,fun b hm=>by have:=h.EF b hm;omega,h.fQ,h.no,h.ji⟩
theorem aee{W:ak}{b o:Nat}{c:Array aB}{xs:List aB}(h:dK W b c)(hc:∀j,j<xs.a->c[o+j]? = xs[j]?):W.rangeAt b o xs:=by
 intro j v hj;have hlt:j<xs.a:=by
  rcases aY j xs.a with h1|h1
  ·exact h1
  ·rw[aS h1]at hj;cases hj
 rw[h.K.1,hc j hlt,hj]
theorem anQ{W:ak}{b:Nat}{xs:List aB}(h:dK W b xs.b):W.rangeAt b 0 xs:=aee h (fun j _=>by rw[bB,dV])
@[go_sem]theorem azR(W:ak)(key:Vector UInt8 16)(cf:Cn)(pl:Pc)(A:Option aT)(n c:Nat)(ti no:Int)(ct:Vector Int 11):(uH 123 #[(0,.d (key.a.map bv).b),(1,.d cf.ay),(2,.d pl.ay),(3,.a A n c),(7,.b .a ti),(8,.b .a no),(9,.d (ct.a.map (aI .a)).b)]).I ah W = .Z (.d (Eg.mk key cf pl A n c none 0 0 none Cr ti no ct).ay) W:=anq W key cf pl A n c ti no ct
theorem anR(X:Sh)(j:Nat)(h:j<11):X.ay[6+j]? = (X.ji.a.map (aI .a))[j]?:=by
 rw[Sh.Yu X j h];simp[au,h]
def Oh(W:ak)(key:Vector UInt8 16)(c:Cn)(vs:List Vp)(s:pY)(r:lq)(W':ak):Prop:=
 ∃q x q2 g sl,r=.a (.J #[.c (some ⟨q,0,none⟩),.b .a 0])/\yN W' q ⟨key,c,vs⟩ s x q2 g sl/\aL W.a.j W W'/\(W.a.j<=q/\W.a.j<=q2/\W.a.j<=g)/\∀b∈oz x,W.a.j<=b
theorem abE(key:Vector UInt8 16)(c:Cn)(vs:List Vp)(X:Sh)(s:pY)(w:ak)(hV:iJ Vp.ay 20 w w.a.j c.qH c.iK vs)(hvc:c.iK<=c.qI)(hvn:c.iK<=100000)(hS:Qg w w.a.j X s)(hbl:s.X.a<=100000)(hhl:s.h.a<=100000)(hfl:s.G.a<=100000)(hJ:ze c vs s=false):
 aP ah 19 #[.d (jd key),.d c.ay,.d X.ay] w (gD w (.J #[.c none,.b .a 1])):=by
 have h0:=(((Bx.start w).new (jd key) 22).new c.ay 29).new X.ay 37;rw[show((w.alloc (.D (jd key) 22)).alloc (.D c.ay 29)).a.j=w.a.j+2 by simp,show(w.alloc (.D (jd key) 22)).a.j=w.a.j+1 by simp]at h0;have Z0:=ab h0;have CR:=ab (fun w1 (hb:aL w.a.j w w1)=>Dk c vs X s w1 (hV.go hb) hvc hvn (hS.go hb) hbl hhl hfl false hJ);clear h0 hV hvc hvn hS hbl hhl hfl hJ;go_enter Tryz.func19,Tryz.ntmps19;go_upto_region 1 with fail
 generalize((w.alloc (.D (jd key) 22)).alloc (.D c.ay 29)).alloc (.D X.ay 37)=w0 at Z0 ⊢;obtain⟨x1,x2,x3,x4⟩:=Z0.i.b1.K;obtain⟨y1,y2,y3,y4⟩:=Z0.i.S.K;go_wp2_with (go_at_call 15;(with_reducible refine(CR.i _ Z0.i.R).g ?_);rintro e w1 ⟨rfl,hb1⟩;have Z1:=ab (Z0.i.go hb1);clear hb1);go_ret2;exact⟨rfl,Z1.i.R⟩
theorem XI(key:Vector UInt8 16)(c:Cn)(vs:List Vp)(X:Sh)(s:pY)(w:ak)(hV:iJ Vp.ay 20 w w.a.j c.qH c.iK vs)(hvc:c.iK<=c.qI)(hvn:c.iK<=100000)(hS:Qg w w.a.j X s)(hJ:ze c vs s=true):
 aP ah 19 #[.d (jd key),.d c.ay,.d X.ay] w (Oh w key c vs s):=by
 have hi:=afY key hJ hS.pJ;have aj2:=hi.few;have hlen:=hi.fl.len;obtain⟨_,⟨hr1,hr2⟩,_⟩:=rz hi.cn;simp only at hlen hr1 hr2;have h0:=(((Bx.start w).new (jd key) 22).new c.ay 29).new X.ay 37;rw[show((w.alloc (.D (jd key) 22)).alloc (.D c.ay 29)).a.j=w.a.j+2 by simp,show(w.alloc (.D (jd key) 22)).a.j=w.a.j+1 by simp]at h0;have Z0:=ab h0;have CR:=ab (fun w1 (hb:aL w.a.j w w1)=>Dk c vs X s w1 (hV.go hb) hvc hvn (hS.go hb) (by omega) (by omega) (by omega) true hJ);have HI:=ab hi;have HS:=ab hS;have HV:=ab hV;have HVN:=ab hvn;have HFW:=ab aj2;have HRM:=ab (show(1<=c.dU/\c.dU<=4096)/\s.G.a<=4096 by omega);clear h0 hV hvc hvn hS hJ hi aj2 hlen hr1 hr2;go_enter Tryz.func19,Tryz.ntmps19;go_upto_region 1 with fail
 have SZ0:=ab (show w.a.j+2<(((w.alloc (.D (jd key) 22)).alloc (.D c.ay 29)).alloc (.D X.ay 37)).a.j by simp);generalize((w.alloc (.D (jd key) 22)).alloc (.D c.ay 29)).alloc (.D X.ay 37)=w0 at Z0 SZ0 ⊢;rw[show w.a.j+1+1=w.a.j+2 from rfl];obtain⟨x1,x2,x3,x4⟩:=Z0.i.b1.K;obtain⟨y1,y2,y3,y4⟩:=Z0.i.S.K;go_upto_region 3 with(go_at_call 15;(with_reducible refine(CR.i _ Z0.i.R).g ?_);rintro e w1 ⟨rfl,hb1⟩;have Z1:=ab (Z0.i.go hb1);have SZ1:=ab (eY SZ0.i hb1.j);clear hb1)
 clear x1 x2 x3 x4 y1 y2 y3 y4;have KS:=ab (fun(w':ak) (h:Bx [(w.a.j+2,X.ay),(w.a.j+1,c.ay),(w.a.j,jd key)] w w')=>show w'.rangeAt w.a.j 0 (key.a.map bv)/\(xI 29 (.c (some ⟨w.a.j+1,0,none⟩))).I ah w' = .Z (.d c.ay) w'/\(xI 32 (.c (some ⟨w.a.j+2,0,none⟩))).I ah w' = .Z (.d (Pc.mk X.kT X.b.A X.b.n X.b.c).ay) w'/\w'.b ⟨w.a.j+2,2,none⟩=some (.a X.h.A X.h.n X.h.c)/\w'.b ⟨w.a.j+2,4,none⟩=some (.b .a X.fQ)/\w'.b ⟨w.a.j+2,5,none⟩=some (.b .a X.no)/\w'.rangeAt (w.a.j+2) 6 (X.ji.a.map (aI .a))by
  refine⟨anQ h.b2,Vw.nC h.b1 (Cn.G _),kPc.Dj h.S 0 (Sh.MX X) (by rw[Sh.G];omega),(h.S.K.1 2).trans (Sh.XL X),(h.S.K.1 4).trans (Sh.al0 X),(h.S.K.1 5).trans (Sh.al1 X),?_⟩;exact aee (o:=6) h.S (fun j hj=>anR X j (by simpa using hj)))
 have CH:=ab (fun(w1:ak) (hb:aL w.a.j w w1)=>Le s.h X.h.A X.h.n X.h.c w1 (HS.i.h.go hb) (by have:=HS.i.h.1;have:=HFW.i;omega));unfold ClP at CH;have hU:=qh;have hI:(ah.info? 22).map (·.j)=some (key.a.map bv).a:=by rw[bU,nH];kernel_rfl
 have hU2:=EL;have hI2:(ah.info? 35).map (·.j)=some (X.ji.a.map (aI .a)).a:=by rw[bU,nH];kernel_rfl
 refine wp_region_held_drew (S:=(fun w'=>w'.rangeAt w.a.j 0 (key.a.map bv)/\(xI 29 (.c (some ⟨w.a.j+1,0,none⟩))).I ah w' = .Z (.d c.ay) w'/\(xI 32 (.c (some ⟨w.a.j+2,0,none⟩))).I ah w' = .Z (.d (Pc.mk X.kT X.b.A X.b.n X.b.c).ay) w'/\w'.b ⟨w.a.j+2,2,none⟩=some (.a X.h.A X.h.n X.h.c)/\w'.b ⟨w.a.j+2,4,none⟩=some (.b .a X.fQ)/\w'.b ⟨w.a.j+2,5,none⟩=some (.b .a X.no)/\w'.rangeAt (w.a.j+2) 6 (X.ji.a.map (aI .a)))) (by kernel_rfl) ?_ (fun hHeld=>?_)
 ·exact KS.i _ Z1.i.drew
 refine o9 (i:=0) rfl (by kernel_rfl) (by kernel_rfl) (by kernel_rfl) (fun _ _ _ h=>h) (yieldsIf_load_mid (by rfl) 22 (.a 3) rfl (w.a.j) 0 rfl (key.a.map bv) _ (fun w' h=>h.1) hU rfl hI) (by assumption) ?_
 try simp only[lD,bI,bP,bH]
 refine o9 (i:=11) (v:=?_) rfl (by kernel_rfl) (by kernel_rfl) (by kernel_rfl) (fun _ _ _ h=>h) (BZ ⟨by rfl,?_⟩) (by assumption) ?_;rotate_left
 ·intro w' hSw
  try dsimp only at hSw
  go_simp
  try with_reducible rfl
 try simp only[lD,bI,bP,bH]
 refine o9 (i:=12) rfl (by kernel_rfl) (by kernel_rfl) (by kernel_rfl) (fun _ _ _ h=>h) (yieldsIf_load_mid (by rfl) 35 (.a 26) rfl (w.a.j+2) 6 rfl (X.ji.a.map (aI .a)) _ (fun w' h=>h.2.2.2.2.2.2) hU2 rfl hI2) (by assumption) ?_
 try simp only[lD,bI,bP,bH]
 refine o9 (i:=4) (v:=?_) rfl (by kernel_rfl) (by kernel_rfl) (by kernel_rfl) (fun _ _ _ h=>h) (BZ ⟨by rfl,?_⟩) (by assumption) ?_;rotate_left
 ·intro w' hSw
  try dsimp only at hSw
  go_simp
  try with_reducible rfl
 try simp only[lD,bI,bP,bH]
 refine o9 (i:=5) (v:=?_) rfl (by kernel_rfl) (by kernel_rfl) (by kernel_rfl) (fun _ _ _ h=>h) (BZ ⟨by rfl,?_⟩) (by assumption) ?_;rotate_left
 ·intro w' hSw
  try dsimp only at hSw
  go_simp
  try with_reducible rfl
 try simp only[lD,bI,bP,bH]
 refine o9 (i:=7) (v:=?_) rfl (by kernel_rfl) (by kernel_rfl) (by kernel_rfl) (fun _ _ _ h=>h) (BZ ⟨by rfl,?_⟩) (by assumption) ?_;rotate_left
 ·intro w' hSw
  try dsimp only at hSw
  go_simp
  try with_reducible rfl
 try simp only[lD,bI,bP,bH]
 refine o9 (i:=8) (v:=?_) rfl (by kernel_rfl) (by kernel_rfl) (by kernel_rfl) (fun _ _ _ h=>h) (BZ ⟨by rfl,?_⟩) (by assumption) ?_;rotate_left
 ·intro w' hSw
  try dsimp only at hSw
  go_simp
  try with_reducible rfl
 try simp only[lD,bI,bP,bH]
 refine o9 (i:=9) (v:=?_) rfl (by kernel_rfl) (by kernel_rfl) (by kernel_rfl) (fun _ _ _ h=>h) (BZ ⟨by rfl,?_⟩) (by assumption) ?_;rotate_left
 ·intro w' hSw
  try dsimp only at hSw
  go_simp
  try with_reducible rfl
 try simp only[lD,bI,bP,bH]
 refine o9 (i:=10) (v:=?_) rfl (by kernel_rfl) (by kernel_rfl) (by kernel_rfl) (fun _ _ _ h=>h) (BZ ⟨by rfl,?_⟩) (by assumption) ?_;rotate_left
 ·intro w' hSw
  try dsimp only at hSw
  go_simp
  try with_reducible rfl
 try simp only[lD,bI,bP,bH]
 refine o9 (i:=2) (v:=?_) rfl (by kernel_rfl) (by kernel_rfl) (by kernel_rfl) (fun _ _ _ h=>h) (BZ ⟨by rfl,?_⟩) (by assumption) ?_;rotate_left
 ·intro w' hSw
  try dsimp only at hSw
  go_simp
  try with_reducible rfl
 try simp only[lD,bI,bP,bH]
 refine o9 (i:=1) (v:=.d c.ay) rfl (by kernel_rfl) (by kernel_rfl) (by kernel_rfl) (fun _ _ _ h=>h) (BZ ⟨by rfl,fun w' hSw=>?_⟩) (by assumption) ?_
 ·have hrun:=hSw.2.1
  clear hSw;go_simp
 try simp only[lD,bI,bP,bH]
 refine o9 (i:=3) (v:=.d (Pc.mk X.kT X.b.A X.b.n X.b.c).ay) rfl (by kernel_rfl) (by kernel_rfl) (by kernel_rfl) (fun _ _ _ h=>h) (BZ ⟨by rfl,fun w' hSw=>?_⟩) (by assumption) ?_
 ·have hrun:=hSw.2.2.1
  clear hSw;go_simp
 try simp only[lD,bI,bP,bH]
 refine wpAnyH_ready (rs:=[6]) (by kernel_rfl) (by simp) ?_;refine AllReadyH.cons rfl (fun K hK=>?_) AllReadyH.nil;go_simp;go_wp2_with (go_at_call 59;(with_reducible refine(CH.i _ Z1.i.drew.R).g ?_);rintro r w2 ⟨A1,c1,rfl,ho,hb⟩;have Z2:=ab (Z1.i.drew.go hb);have O2:=ab ho;have SZ2:=ab (show w1.a.j<=w2.a.j from hb.j);clear ho hb);clear hHeld;refine hK.i _ _ (KS.i _ Z2.i) (fun hHeld=>?_);clear hK K
 try simp only[lD,bI,bP,bH]
 refine o9 (i:=13) (v:=?_) rfl (by kernel_rfl) (by kernel_rfl) (by kernel_rfl) (fun _ _ _ h=>h) (BZ ⟨by rfl,?_⟩) (by assumption) ?_;rotate_left
 ·intro w' hSw
  try dsimp only at hSw
  go_simp
  try with_reducible rfl
 try simp only[lD,bI,bP,bH]
 refine wpAnyH_ready (rs:=[14]) (by kernel_rfl) (by simp) ?_;refine AllReadyH.cons rfl (fun K hK=>?_) AllReadyH.nil;go_simp;clear hHeld;refine hK.i _ _ (KS.i _ (Z2.i.alloc _)) (fun hHeld=>?_);clear hK K;refine o9 (i:=15) (v:=?_) rfl (by kernel_rfl) (by kernel_rfl) (by kernel_rfl) (fun _ _ _ h=>h) (BZ ⟨by rfl,?_⟩) (by assumption) ?_;rotate_left
 ·intro w' hSw
  try dsimp only at hSw
  go_simp
  try with_reducible rfl
 try simp only[lD,bI,bP,bH]
 refine wpAnyH_done (by kernel_rfl) ?_ _;have ZE:=ab (Z2.i.new (Eg.mk key c ⟨X.kT,X.b.A,X.b.n,X.b.c⟩ A1 X.h.n c1 none 0 0 none Cr X.fQ X.no X.ji).ay 123);have O3:=ab (vC O2.i (.D (Eg.mk key c ⟨X.kT,X.b.A,X.b.n,X.b.c⟩ A1 X.h.n c1 none 0 0 none Cr X.fQ X.no X.ji).ay 123));have SZ3:=ab (show w2.a.j<(w2.alloc (.D (Eg.mk key c ⟨X.kT,X.b.A,X.b.n,X.b.c⟩ A1 X.h.n c1 none 0 0 none Cr X.fQ X.no X.ji).ay 123)).a.j by simp);clear hHeld;go_upto_region 4 with fail
 generalize w2.alloc (.D (Eg.mk key c ⟨X.kT,X.b.A,X.b.n,X.b.c⟩ A1 X.h.n c1 none 0 0 none Cr X.fQ X.no X.ji).ay 123)=w3 at ZE O3 SZ3 ⊢;have HQ:=ab (show w1.a.j<=w2.a.j from SZ2.i);have HF1:=ab (iH O2.i);have Te:=ab (show w.a.j<=w1.a.j from Z1.i.R.j);clear SZ2 O2 Z2;generalize w2.a.j=q at ZE SZ3 HQ HF1 ⊢;clear KS CH hU hI hU2 hI2;have HNE:=ab (show∀p∈[(w.a.j+2,X.ay),(w.a.j+1,c.ay),(w.a.j,jd key)],p.1≠q from fun p hp=>by
  have h1:=SZ1.i;have h2:=HQ.i;simp at hp;rcases hp with rfl|rfl|rfl<;>simp<;>omega)
 have CV:=ab (aec vs c.qH c.iK c.qI w3 (HV.i.go ZE.i.R) HVN.i);unfold avr at CV;have fv:=(ZE.i.b2.K.1 0).trans (Cn.JN c);go_upto_region 5 with(go_at_call 60;(with_reducible refine CV.i.g ?_);rintro r w4 ⟨A2,c2,rfl,ho,hb⟩;have g16:=(ZE.i.S.go hb).K.2.1 16;have f16:=((ZE.i.S.go hb).K.1 16).trans (Eg.JN _);have Z4:=ab (ZE.i.go hb);have O4:=ab ho;have B4:=ab hb;clear ho hb)
 have Z5:=ab (Z4.i.set HNE.i 16 (.a A2 c.iK c2));rw[Eg.Nh]at Z5;have F5:=ab (show jC [q] w3 (w4.F ⟨q,16,none⟩ (.a A2 c.iK c2))from(jC.jw (F:=[q]) B4.i).set ⟨q,16,none⟩ _ (.a (by simp)));have F45:=ab (show jC [q] w4 (w4.F ⟨q,16,none⟩ (.a A2 c.iK c2))from(jC.refl [q] w4).set ⟨q,16,none⟩ _ (.a (by simp)));generalize w4.F ⟨q,16,none⟩ (.a A2 c.iK c2)=w5 at Z5 F5 F45 ⊢;clear g16 f16 fv CV;have O5:=ab (Gj O4.i F45.i SZ3.i);have HBN:=ab (show s.X.a=X.b.n from HS.i.b.1);have CB:=ab (xu s.X X.b.A X.b.c w5 (by have h1:=HS.i.b.go Z5.i.R;rw[<-HBN.i]at h1;exact h1) (by have:=HFW.i;omega));unfold aav at CB;rw[HBN.i]at CB;have fb:=(Z5.i.b1.K.1 1).trans (Sh.Gu X);go_upto_region 6 with(go_at_call 61;(with_reducible refine CB.i.g ?_);rintro r w6 ⟨A3,c3,rfl,ho,hb⟩;have g71:=(Z5.i.S.go hb).K.2.1 71;have f71:=((Z5.i.S.go hb).K.1 71).trans (Eg.ani _);have Z6:=ab (Z5.i.go hb);have O6:=ab ho;have B6:=ab hb;clear ho hb)
 have Z7:=ab (Z6.i.set HNE.i 71 (.a A3 X.b.n c3));rw[Eg.ahN]at Z7;have F7:=ab (show jC [q] w5 (w6.F ⟨q,71,none⟩ (.a A3 X.b.n c3))from(jC.jw (F:=[q]) B6.i).set ⟨q,71,none⟩ _ (.a (by simp)));have F67:=ab (show jC [q] w6 (w6.F ⟨q,71,none⟩ (.a A3 X.b.n c3))from(jC.refl [q] w6).set ⟨q,71,none⟩ _ (.a (by simp)));generalize w6.F ⟨q,71,none⟩ (.a A3 X.b.n c3)=w7 at Z7 F7 F67 ⊢;clear g71 f71 fb CB;have O7:=ab (Gj O6.i F67.i (eY SZ3.i F5.i.j));have CF:=ab (ajN key c.dU.e (by have:=HRM.i;omega) (by have:=HRM.i;omega) w7);rw[show((c.dU.e:Nat):Int)=c.dU from Int.toNat_of_nonneg (by have:=HRM.i;omega)]at CF;unfold ar6 at CF;have lk:=Wq.nC Z7.i.b3 (dL _);have fr:=(Z7.i.b2.K.1 2).trans (Cn.Ng c);go_upto_region 7 with(go_at_call 62;(with_reducible refine CF.i.g ?_);rintro r w8 ⟨q2,g,sl,rfl,ht,hrm,hq2,hg,hb⟩;have g74:=(Z7.i.S.go hb).K.2.1 74;have f74:=((Z7.i.S.go hb).K.1 74).trans (Eg.Zj _);have Z8:=ab (Z7.i.go hb);have T8:=ab ht;have HQ2:=ab hq2;have HG:=ab hg;have RM:=ab hrm;have B8:=ab hb;clear ht hq2 hg hrm hb)
 have Z9:=ab (Z8.i.set HNE.i 74 (ad1 (some q2)));rw[Eg.au9]at Z9;change Hid (Bx _ w (w8.F ⟨q,74,none⟩ (.c (some ⟨q2,0,none⟩))))at Z9;have F9:=ab (show jC [q] w8 (w8.F ⟨q,74,none⟩ (.c (some ⟨q2,0,none⟩)))from(jC.refl [q] w8).set ⟨q,74,none⟩ _ (.a (by simp)));generalize w8.F ⟨q,74,none⟩ (.c (some ⟨q2,0,none⟩))=w9 at Z9 F9 ⊢;clear g74 f74 fr lk CF;obtain⟨x9,hx9,zx⟩:∃x9:Eg,x9=Eg.mk key {c with qH:=A2,iK:=c.iK,qI:=c2} ⟨X.kT,A3,X.b.n,c3⟩ A1 X.h.n c1 none 0 0 (some q2) Cr X.fQ X.no X.ji/\Bx ((q,x9.ay)::[(w.a.j+2,X.ay),(w.a.j+1,c.ay),(w.a.j,jd key)]) w w9:=⟨_,rfl,Z9.i⟩
 have HX9:=ab hx9;have ZX:=ab zx;clear hx9 zx Z9;have G79:=ab (show jC [q] w7 w9 from(jC.jw (F:=[q]) B8.i).pV F9.i);have G59:=ab (F7.i.pV G79.i);have G39:=ab (F5.i.pV G59.i);have SS:=ab (show w.a.j<=w1.a.j/\w1.a.j<=q/\q<w3.a.j/\w3.a.j<=w4.a.j/\w4.a.j<=w5.a.j/\w5.a.j<=w6.a.j/\w6.a.j<=w7.a.j/\w7.a.j<=w8.a.j/\w8.a.j<=w9.a.j/\w7.a.j<=q2/\w7.a.j<=g/\q2<w8.a.j/\g<w8.a.j from⟨Te.i,HQ.i,SZ3.i,B4.i.j,F45.i.j,B6.i.j,F67.i.j,B8.i.j,F9.i.j,HQ2.i,HG.i,T8.i.w.lt.1,T8.i.w.lt.2⟩);have HR9:=ab (show∀b∈oz x9,(w.a.j<=b/\b<w9.a.j)/\b≠q/\b≠q2/\b≠g from fun b hb=>by
  have hss:=SS.i;rw[HX9.i]at hb;rcases dW.1 hb with hb|hb|hb|hb|hb|hb
  ·have:=iH O4.i b hb;omega
  ·have:=iH O6.i b hb;omega
  ·have:=HF1.i b hb;have h2:w1.drew.a.j=w1.a.j:=rfl;omega
  ·cases hb
  ·cases hb
  ·cases hb)
 have E9:=ab (show LM w9 q ⟨key,c,vs⟩ {s with G:=[]} x9 q2 g sl by
  have hss:=SS.i;have h4:=iH O4.i;have h6:=iH O6.i;have h1:=HF1.i;have h2:w1.drew.a.j=w1.a.j:=rfl;refine⟨ZX.i.S,by rw[HX9.i],by rw[HX9.i],by rw[HX9.i];exact HS.i.kT,?_,?_,?_,by rw[HX9.i],T8.i.keep F9.i (by simp;omega) (by simp;omega),RM.i,by omega,fun b hb=>by have:=HR9.i b hb;omega,by rw[HX9.i];exact HS.i.fQ,by rw[HX9.i];exact HS.i.no,by rw[HX9.i];exact HS.i.ji⟩
  ·rw[HX9.i]
   exact(iJ.iQ HV.i.1 O5.i).keep G59.i (fun b hb=>by have:=h4 b hb;simp;omega)
  ·rw[HX9.i]
   exact(iJ.iQ HBN.i O7.i).keep G79.i (fun b hb=>by have:=h6 b hb;simp;omega)
  ·rw[HX9.i]
   exact(iJ.iQ HS.i.h.1 O3.i).keep G39.i (fun b hb=>by have:=h1 b hb;simp;omega))
 clear O3 O5 O7 O4 O6 G39 G59 G79 F5 F45 F7 F67 F9 B4 B6 B8 HF1 Te HQ HQ2 HG RM T8 Z7 Z8 Z6 Z5 Z4 ZE;have ff:=(ZX.i.b1.K.1 3).trans (Sh.agU X);have HFN:=ab (show s.G.a=X.f.n from HS.i.f.1);go_wp2;clear ff;go_loopw [58] (fun s58 wr=>∃(k:Nat)(sl':List (Option Fw)),k<=X.f.n/\s58=.b .a k/\Ke wr q2 g key c.dU sl' (s.G.d k)/\sl'.a=sl.a/\jC [q2,g] w9 wr) (fun s58 _=>X.f.n-(intOf s58).e)
 case atStart=>exact⟨0,sl,by omega,rfl,by have:=E9.i.h;exact this,rfl,jC.refl _ _⟩
 case round=>
  obtain⟨k,sl',hkn,rfl,ht,hsl,hf⟩:=hrel;have HT:=ab ht;have HSL:=ab hsl;have HF:=ab hf;have BW:=ab (show aL w.a.j w wr from ZX.i.R.trans (hf.qG (fun b hb=>by have:=SS.i;simp at hb;omega) ZX.i.R.j));have EB:=ab (show LM wr q ⟨key,c,vs⟩ {s with G:=s.G.d k} x9 q2 g sl' from E9.i.qU hf ht hsl);clear ht hsl hf;have hfs:X.f.n<=4096:=by have:=HRM.i;have:=HFN.i;omega
  by_cases hkt:k<X.f.n
  ·have hlt2:(k:Int)<X.f.n:=by omega
   have RF:=ab (show iJ Fw.ay 41 wr wr.a.j X.f.A X.f.n s.G from HS.i.f.go BW.i);obtain⟨b,o,hA,hbl,hh,hcl⟩:=iJ.fw RF.i hkt;have HPN:=ab (amS (k:=k) HI.i.fl (show k<s.G.a by rw[HFN.i];exact hkt));simp only at HPN;obtain⟨y,hy⟩:=tN (s.G.c k kD);have HYN:=ab (show y.E.a<=1000000 by
    have:=HI.i.fl.Z y (by rw[<-hy];exact AY kD s.G k (by rw[HFN.i];exact hkt));unfold Dz vQ at this;simp only[bl,decide_eq_true_eq]at this;omega)
   rw[hy]at hcl HPN;have EY:=ab (EB.i.go ((aG _ _).alloc (av _) (.D y.ay 86)));have BY:=ab (dK.new wr y.ay 86);have FY:=ab (HF.i.alloc (.D y.ay 86));have SY:=ab (show w9.a.j<=wr.a.j from HF.i.j);rw[hA];go_upto_region 10 with fail
   generalize wr.alloc (.D y.ay 86)=w11 at EY BY FY ⊢;have HPY:=ab (show wr.a.j∉[q2,g]by have:=SS.i;have:=SY.i;simp;omega);have KP:=ab (fun(w':ak) (h0:dK w' wr.a.j y.ay) (h1:dK w' q x9.ay)=>show(Qf (.c (some ⟨wr.a.j,0,none⟩))).I ah w' = .Z (.d y.ay) w'/\w'.b ⟨q,74,none⟩=some (.c (some ⟨q2,0,none⟩))from⟨kK h0,by rw[h1.K.1 74,Eg.Zj,E9.i.fl];rfl⟩);have CU:=ab (Ze (EY.i.go (iA _)).h (by have:=HRM.i;exact this.1.1) (EY.i.go (iA _)).rm y HYN.i);unfold agf at CU;have HQN:=ab (show q∉[q2,g]by have:=SS.i;simp;omega);clear hh hcl hbl hy;go_region_held_law (fun w'=>(Qf (.c (some ⟨wr.a.j,0,none⟩))).I ah w' = .Z (.d y.ay) w'/\w'.b ⟨q,74,none⟩=some (.c (some ⟨q2,0,none⟩)))
    (first|exact KP.i _ BY.i.drew (EY.i.go (iA _)).eg|exact KP.i _ (F12.i.box BY.i.drew HPY.i) (F12.i.box (EY.i.go (iA _)).eg HQN.i)|go_keep)
    (first|(go_at_call 63;(with_reducible refine CU.i.g ?_);rintro r w12 ⟨rfl,⟨sl2,ht2,hl2⟩,hf2⟩;have F12:=ab hf2;have T12:=ab ht2;have L12:=ab hl2;clear hf2 ht2 hl2))
   go_wp2;go_roundw
   case rel=>exact⟨k+1,sl2,by omega,by go_num,by have:=T12.i;rw[HPN.i]at this;exact this,by rw[L12.i];exact HSL.i,(FY.i.drewN 1).pV F12.i⟩
   case measure=>simp[intOf]<;>omega
  ·obtain rfl:k=X.f.n:=by omega
   have hnl:¬((X.f.n:Nat):Int)<X.f.n:=by omega
   have EB2:=ab (show LM wr q ⟨key,c,vs⟩ s x9 q2 g sl' by
    have:=EB.i;rw[List.take_of_length_le (by have:=HFN.i;omega)]at this;exact this)
   have CB:=ab (Jj EB2.i HI.i);unfold abx at CB;clear hkt;go_wp2_with (go_at_call 64;(with_reducible refine CB.i.g ?_);rintro r w13 ⟨rfl,⟨x',hE,hrw⟩,hf⟩;have HE:=ab hE;have HRW:=ab hrw;have HFB:=ab hf;clear hE hrw hf);go_ret2;have hss:=SS.i;have hsw:=BW.i.j;exact⟨q,x',q2,g,sl',rfl,HE.i,BW.i.trans (HFB.i.qG (fun b hb=>by simp at hb;omega) hsw),by omega,fun b hb=>by
    rcases HRW.i b hb with h|h
    ·exact(HR9.i b h).1.1
    ·omega⟩
section
theorem ahT(W:ak):Qg W W.a.j IL uL:=⟨rfl,iJ.nil _ _,iJ.nil _ _,iJ.nil _ _,rfl,rfl,rfl,(fun y hy=>by cases hy),(fun y hy=>by cases hy),(fun y hy=>by cases hy),by simp[IL,Da],by simp[IL,Da],by simp[IL,Da]⟩
theorem Oh.aEU{w w1:ak}{key:Vector UInt8 16}{c:Cn}{vs:List Vp}{s:pY}{r:lq}{W':ak}(h:Oh w1 key c vs s r W')(hb:aL w.a.j w w1):Oh w key c vs s r W':=by
 obtain⟨q,x,q2,g,sl,h1,h2,h3,h4,h5⟩:=h;have:=hb.j;exact⟨q,x,q2,g,sl,h1,h2,hb.trans (h3.g hb.j),by omega,fun b hm=>by have:=h5 b hm;omega⟩
theorem ake{c:Cn}{vs:List Vp}(h:xX c vs=true):ze c vs uL=true:=(Qv (bG 16 0) h).right (by omega)
theorem Zp(key:Vector UInt8 16)(c:Cn)(vs:List Vp)(w:ak)(hV:iJ Vp.ay 20 w w.a.j c.qH c.iK vs)(hvc:c.iK<=c.qI)(hvn:c.iK<=100000)(hJ:xX c vs=true):
 aP ah 23 #[.d (jd key),.d c.ay] w (Oh w key c vs uL):=by
 have h0:=((Bx.start w).new (jd key) 22).new c.ay 29;rw[show(w.alloc (.D (jd key) 22)).a.j=w.a.j+1 by simp]at h0;have Z0:=ab h0;have CR:=ab (fun w1 (hb:aL w.a.j w w1)=>XI key c vs IL uL w1 (hV.go hb) hvc hvn (ahT w1) (ake hJ));clear h0 hV hvc hvn hJ;go_enter Tryz.func23,Tryz.ntmps23;go_upto_region 1 with fail
 generalize(w.alloc (.D (jd key) 22)).alloc (.D c.ay 29)=w0 at Z0 ⊢;have l1:=Wq.nC Z0.i.b1 (dL _);have l2:=Vw.nC Z0.i.S (Cn.G _);go_wp2_with (go_at_call 19;(with_reducible refine(CR.i _ Z0.i.R).g ?_);rintro e w1 ⟨q,x,q2,g,sl,rfl,h2,h3,h4,h5⟩;have H:=ab (show Oh w key c vs uL (.a (.J #[.c (some ⟨q,0,none⟩),.b .a 0])) w1 from Oh.aEU ⟨q,x,q2,g,sl,rfl,h2,h3,h4,h5⟩ Z0.i.R);clear h2 h3 h4 h5);go_ret2;exact H.i
theorem anU(key:Vector UInt8 16)(c:Cn)(vs:List Vp)(w:ak)(hV:iJ Vp.ay 20 w w.a.j c.qH c.iK vs)(hvc:c.iK<=c.qI)(hvn:c.iK<=100000)(hJ:xX c vs=false):
 aP ah 23 #[.d (jd key),.d c.ay] w (gD w (.J #[.c none,.b .a 1])):=by
 have h0:=((Bx.start w).new (jd key) 22).new c.ay 29;rw[show(w.alloc (.D (jd key) 22)).a.j=w.a.j+1 by simp]at h0;have Z0:=ab h0;have CR:=ab (fun w1 (hb:aL w.a.j w w1)=>abE key c vs IL uL w1 (hV.go hb) hvc hvn (ahT w1) (by simp[uL]) (by simp[uL]) (by simp[uL]) (by unfold ze Wh;rw[hJ];rfl));clear h0 hV hvc hvn hJ;go_enter Tryz.func23,Tryz.ntmps23;go_upto_region 1 with fail
 generalize(w.alloc (.D (jd key) 22)).alloc (.D c.ay 29)=w0 at Z0 ⊢;have l1:=Wq.nC Z0.i.b1 (dL _);have l2:=Vw.nC Z0.i.S (Cn.G _);go_wp2_with (go_at_call 19;(with_reducible refine(CR.i _ Z0.i.R).g ?_);rintro e w1 ⟨rfl,hb1⟩;have Z1:=ab (Z0.i.go hb1);clear hb1);go_ret2;exact⟨rfl,Z1.i.R⟩
structure TbO(B:Nat)(W:ak)(X:Tc)(t:Tl):Prop where
 nn:t.h.a=X.ru
 n:W.c B 9 1 (.a X.sJ X.ru X.BJ) X.ru (t.h.h fun y=>(txA y).a)
 sn:t.uy.a=X.pX
 s:W.c B 3 1 (.a X.qM X.pX X.yc) X.pX (t.uy.h fun y=>(FP y).a)
def azT(W:ak)(t:Tl)(r:lq)(W':ak):Prop:=∃X:Tc,r=.a (.d X.ay)/\TbO W.a.j W' X t/\aL W.a.j W W'
theorem TlR.aEV{W:ak}{A1 A2:Option aT}{n1 n2:Nat}{t:Tl}(h:TlR W A1 n1 A2 n2 t):RdI W W.a.j A2 n2 t.uy:=by
 obtain⟨_,h2,h3⟩:=h;subst h2;rcases h3 with⟨h4,rfl⟩|⟨g,d,rfl,h4,h5⟩
 ·rw[bE h4];exact iJ.nil _ _
 ·exact RdI.box h4 (fun j hj=>by rw[bB];exact h5 j hj)
theorem TlR.texts{W:ak}{A1 A2:Option aT}{n1 n2:Nat}{t:Tl}(h:TlR W A1 n1 A2 n2 t):RdT W W.a.j A1 n1 t.h:=h.1
variable {W W':ak} {q:Nat} {e:En} {s:pY} {x:Eg} {q2 g:Nat} {sl:List (Option Fw)}
theorem agD(t:Tl)(hE:dK W q x.ay)(hT:RdT W W.a.j x.h.sJ x.h.ru t.h)(hI:RdI W W.a.j x.h.qM x.h.pX t.uy)(hn:t.h.a<=100000)(hs:t.uy.a<=100000):aP ah 31 #[.c (some ⟨q,0,none⟩)] W (azT W t):=by
 have Z0:=ab ((Bx.start W).new Cr.ay 72);have HE:=ab hE;have HT:=ab hT;have HI:=ab hI;have HN:=ab (show t.h.a=x.h.ru/\t.uy.a=x.h.pX from⟨hT.1,hI.1⟩);have HS:=ab (show x.h.ru<=100000/\x.h.pX<=100000 by rw[<-HN.i.1,<-HN.i.2];exact⟨hn,hs⟩);clear hE hT hI hn hs;go_enter Tryz.func31,Tryz.ntmps31;go_upto_region 1 with fail
 have SZ0:=ab (show W.a.j<(W.alloc (.D Cr.ay 72)).a.j by simp);generalize W.alloc (.D Cr.ay 72)=w0 at Z0 SZ0 ⊢;have KS:=ab (fun(w':ak) (h1:dK w' q x.ay)=>show w'.b ⟨q,75,none⟩=some (.a x.h.sJ x.h.ru x.h.BJ)/\w'.b ⟨q,76,none⟩=some (.a x.h.qM x.h.pX x.h.yc)from⟨(h1.K.1 75).trans (Eg.ED x),(h1.K.1 76).trans (Eg.yg x)⟩);have CN:=ab (fun(w:ak) (hb:aL W.a.j W w)=>aeb t.h x.h.sJ x.h.ru x.h.BJ w (HT.i.go hb) HS.i.1);have CI:=ab (fun(w:ak) (hb:aL W.a.j W w)=>agz t.uy x.h.qM x.h.pX x.h.yc w (HI.i.go hb) HS.i.2);unfold anM at CN;unfold avq at CI;go_region_held_law (fun w'=>w'.b ⟨q,75,none⟩=some (.a x.h.sJ x.h.ru x.h.BJ)/\w'.b ⟨q,76,none⟩=some (.a x.h.qM x.h.pX x.h.yc))
  (first|exact KS.i _ (HE.i.go Z0.i.drew.R)|exact KS.i _ (HE.i.go Z1.i.R)|exact KS.i _ (HE.i.go Z2.i.R)|exact KS.i _ (HE.i.go Z3.i.R)|go_keep)
  (first
  | (go_at_call 88;(with_reducible refine(CN.i _ Z0.i.drew.R).g ?_);rintro r w1 ⟨A1,c1,rfl,ho,hb⟩;have Z1:=ab (Z0.i.drew.go hb);have O1:=ab ho;have S1:=ab (show w0.a.j<=w1.a.j from hb.j);clear ho hb)
  | (go_at_call 89;(with_reducible refine(CI.i _ Z1.i.R).g ?_);rintro r w2 ⟨A2,c2,rfl,ho,hb⟩;have Z2:=ab (Z1.i.go hb);have O2:=ab ho;have B2:=ab hb;have th:=Z2.i.S.M 0 2 (aX (Tc.G Cr).symm);have Z3:=ab (show Bx [(W.a.j,(Tc.mk A1 x.h.ru c1 A2 x.h.pX c2).ay)] W (gT w2 W.a.j 0 (Tc.mk A1 x.h.ru c1 A2 x.h.pX c2).ay)from Z2.i.put (fun r hr=>by cases hr) _ (by rw[Tc.G,Tc.G]));clear ho hb))
 have FS:=ab (show jC [W.a.j] w2 (gT w2 W.a.j 0 (Tc.mk A1 x.h.ru c1 A2 x.h.pX c2).ay)from yt w2 W.a.j 0 _);have hs0:=SZ0.i;have hs1:=S1.i;go_wp2_with fail;refine aN (kTc.yV rfl _ rfl Z3.i.S (Tc.G _)) rfl ?_;refine⟨_,rfl,⟨HN.i.1,?_,HN.i.2,?_⟩,Z3.i.R⟩
 ·exact iI (Gj (jA O1.i B2.i) FS.i (by simp;omega)) (by simp;omega)
 ·exact iI (Gj O2.i FS.i (by omega)) (by omega)
end
section
open Go.ChangeShapes Go.WideShapes Go.ChangeAt Go.RowKit Go.Deep
def bA(b:UInt8):Array aB:=#[bv b]
theorem avw(l:List UInt8):(l.h fun x=>(bA x).a)=l.map bv:=by
 induction l with
 | nil=>rfl
 | cons a l ih=>rw[List.flatMap_cons,kL,ih];rfl
def anV:Ac:=⟨0,[],⟨0,jg,[],0⟩,[],false⟩
def qE:At:=⟨0,none,0,0,⟨0,jg,[],0⟩,[],false⟩
theorem Rt{α:Type}(d:α)(P:Nat->α->Prop):∀n:Nat,(∀i,i<n->∃u,P i u)->∃us:List α,us.a=n/\∀i,i<n->P i (us.c i d)
 | 0,_=>⟨[],rfl,fun i h=>by omega⟩
 | n+1,h=>by
   obtain⟨us,h1,h2⟩:=Rt d P n (fun i hi=>h i (by omega));obtain⟨u,hu⟩:=h n (by omega);refine⟨us++[u],by simp[h1],fun i hi=>?_⟩;rcases aY i n with h3|h3
   ·rw[au,List.getElem?_append_left (by omega),<-au];exact h2 i h3
   ·obtain rfl:i=n:=by omega
    rw[au,List.getElem?_append_right (by omega),h1,Nat.sub_self];exact hu
structure AtO(W:ak)(a:At)(u:Ac):Prop where
 kind:a.kind=u.kind
 fr:fU W W.a.j a.XH a.Ov u.frame
 LZ:a.Ov<=a.LZ/\a.LZ<=9223372036854775807
 op:a.op=u.op
 E:a.E=u.E
 h:a.h=u.h
 OH:u.op.OH
theorem AtO.r{W:ak}{a:At}{u:Ac}(h:AtO W a u)(hn:a.Ov<=1000000):AtR W a u:=⟨h.kind,h.fr,⟨h.LZ.1,h.LZ.2,hn⟩,h.op,h.E,h.h⟩
theorem AtR.go{W W':ak}{a:At}{u:Ac}(h:AtR W a u)(hb:aL W.a.j W W'):AtR W' a u:=⟨h.kind,h.fr.upon hb,h.LZ,h.op,h.E,h.h⟩
section
variable {H:Type} {enc:bF×aB->H} {w:ak} {base:Nat} {held:Bool} {fuel:Nat} {cs:List aB} {x:DataW H×List MemPlace}
theorem aqV(h:lX enc ah w base (fun _=>true) held fuel 98 cs=some x):∃v:Vp,cs=v.ay.a/\True:=by
 obtain⟨xs,n,_,_,hl,hxl,hf⟩:=uI rW h;rw[show ah.cellsOf 98=20 by kernel_rfl]at hl;obtain⟨y0,h0⟩:=J6 hxl hf 0 _ rfl;obtain⟨y1,h1⟩:=J6 hxl hf 1 _ rfl;obtain⟨y2,h2⟩:=J6 hxl hf 2 _ rfl;obtain⟨y3,h3⟩:=J6 hxl hf 3 _ rfl;obtain⟨a,ha⟩:=MP h0;obtain⟨p,hp,_,_⟩:=sD (by kernel_rfl) h1;obtain⟨q,hq,_,_⟩:=sD (by kernel_rfl) h2;obtain⟨t,ht,_⟩:=Hr (by kernel_rfl) h3;have c0:(cs.f 0).d 17=a.ay.a:=ha;have c1:(cs.f 17).d 1=[.b .a p]:=hp;have c2:(cs.f 18).d 1=[.b .a q]:=hq;have c3:(cs.f 19).d 1=[.e t]:=ht;refine⟨⟨a,p,q,t⟩,?_,trivial⟩;have e:=sV cs 0 17;rw[c0,sV cs (0+17) 1,c1,sV cs (0+17+1) 1,c2,sV cs (0+17+1+1) 1,c3,iW (i:=0+17+1+1+1) (by omega)]at e;simpa[Vp.ay]using e
theorem aqW(h:lX enc ah w base (fun _=>true) held fuel 29 cs=some x):∃(c:Cn)(l:List Vp),cs=c.ay.a/\iJ Vp.ay 20 w w.a.j c.qH c.iK l/\c.iK<=c.qI/\c.qI<=9223372036854775807:=by
 obtain⟨xs,n,_,_,hl,hxl,hf⟩:=uI mW h;rw[show ah.cellsOf 29=54 by kernel_rfl]at hl;obtain⟨y0,h0⟩:=J6 hxl hf 0 _ rfl;obtain⟨y1,h1⟩:=J6 hxl hf 1 _ rfl;obtain⟨y2,h2⟩:=J6 hxl hf 2 _ rfl;obtain⟨y3,h3⟩:=J6 hxl hf 3 _ rfl;obtain⟨y4,h4⟩:=J6 hxl hf 4 _ rfl;obtain⟨y5,h5⟩:=J6 hxl hf 5 _ rfl;obtain⟨y6,h6⟩:=J6 hxl hf 6 _ rfl;obtain⟨y7,h7⟩:=J6 hxl hf 7 _ rfl;obtain⟨y8,h8⟩:=J6 hxl hf 8 _ rfl;obtain⟨y9,h9⟩:=J6 hxl hf 9 _ rfl;obtain⟨y10,h10⟩:=J6 hxl hf 10 _ rfl;obtain⟨y11,h11⟩:=J6 hxl hf 11 _ rfl;obtain⟨A,k,c,l,hs,hnc,hc,hll,hrd,hsp,_⟩:=OD Vp.ay (fun _=>True) 20 Vp.G (by kernel_rfl:ah.underlying _=some (.a 98)) (by kernel_rfl) (by omega) (fun n cs y hy=>aqV hy) h0;obtain⟨z1,e1,_,_⟩:=sD (by kernel_rfl) h1;obtain⟨z2,e2,_,_⟩:=sD (by kernel_rfl) h2;obtain⟨z3,e3⟩:=aji (k:=6) (e:=3) (by kernel_rfl) (by kernel_rfl) (by kernel_rfl) (by kernel_rfl) h3;obtain⟨z4,e4,_,_⟩:=sD (by kernel_rfl) h4;obtain⟨z5,e5,_,_⟩:=sD (by kernel_rfl) h5;obtain⟨z6,e6⟩:=Me (k:=6) (e:=5) (by kernel_rfl) (by kernel_rfl) (by kernel_rfl) (by kernel_rfl) h6;obtain⟨z7,e7⟩:=MP h7;obtain⟨z8,e8⟩:=MP h8;obtain⟨z9,e9,_,_⟩:=sD (by kernel_rfl) h9;obtain⟨za,ea,_,_⟩:=sD (by kernel_rfl) h10;obtain⟨zb,eb,_,_⟩:=sD (by kernel_rfl) h11;have c0:(cs.f 0).d 1=[.a A k c]:=hs;have c1:(cs.f 1).d 1=[.b .a z1]:=e1;have c2:(cs.f 2).d 1=[.b .a z2]:=e2;have c3:(cs.f 3).d 6=z3.a.map (aI .a):=e3;have c4:(cs.f 9).d 1=[.b .a z4]:=e4;have c5:(cs.f 10).d 1=[.b .a z5]:=e5;have c6:(cs.f 11).d 6=z6.a.map bv:=e6;have c7:(cs.f 17).d 17=z7.ay.a:=e7;have c8:(cs.f 34).d 17=z8.ay.a:=e8;have c9:(cs.f 51).d 1=[.b .a z9]:=e9;have ca:(cs.f 52).d 1=[.b .a za]:=ea;have cb:(cs.f 53).d 1=[.b .a zb]:=eb;refine⟨⟨A,k,c,z1,z2,z3,z4,z5,z6,z7,z8,z9,za,zb⟩,l,?_,⟨hll,hrd,hsp⟩,hnc,hc⟩;have e:=sV cs 0 1;rw[c0,sV cs (0+1) 1,c1,sV cs (0+1+1) 1,c2,sV cs (0+1+1+1) 6,c3,sV cs (0+1+1+1+6) 1,c4,sV cs (0+1+1+1+6+1) 1,c5,sV cs (0+1+1+1+6+1+1) 6,c6,sV cs (0+1+1+1+6+1+1+6) 17,c7,sV cs (0+1+1+1+6+1+1+6+17) 17,c8,sV cs (0+1+1+1+6+1+1+6+17+17) 1,c9,sV cs (0+1+1+1+6+1+1+6+17+17+1) 1,ca,sV cs (0+1+1+1+6+1+1+6+17+17+1+1) 1,cb,iW (i:=0+1+1+1+6+1+1+6+17+17+1+1+1) (by omega)]at e;simpa[Cn.ay,J8,Ap]using e
theorem anW(h:lX enc ah w base (fun _=>true) held fuel 56 cs=some x):∃(A:Option aT)(n c:Nat)(l:List UInt8),cs=[.a A n c]/\fU w w.a.j A n l/\n<=c/\c<=9223372036854775807:=by
 obtain⟨A,n,c,l,hs,hnc,hc,hll,hrd,hsp,_⟩:=OD bA (fun _=>True) 1 (fun _=>rfl) cu (by kernel_rfl) (by omega) (fun n cs y hy=>by
  obtain⟨b,hb⟩:=agJ lC hy;exact⟨b,hb,trivial⟩) h
 rw[avw]at hrd;exact⟨A,n,c,l,hs,hrd,hnc,hc⟩
theorem aqX(h:lX enc ah w base (fun _=>true) held fuel 66 cs=some x):∃a:At,cs=a.ay.a/\∃u:Ac,AtO w a u:=by
 obtain⟨xs,n,_,_,hl,hxl,hf⟩:=uI lK h;rw[show ah.cellsOf 66=34 by kernel_rfl]at hl;obtain⟨y0,h0⟩:=J6 hxl hf 0 _ rfl;obtain⟨y1,h1⟩:=J6 hxl hf 1 _ rfl;obtain⟨y2,h2⟩:=J6 hxl hf 2 _ rfl;obtain⟨y3,h3⟩:=J6 hxl hf 3 _ rfl;obtain⟨y4,h4⟩:=J6 hxl hf 4 _ rfl;obtain⟨z0,e0,_,_⟩:=sD (by kernel_rfl) h0;obtain⟨A,k,c,l,e1,hR,hnc,hc⟩:=anW h1;obtain⟨z2,e2,hg⟩:=alJ h2;obtain⟨z3,e3,_⟩:=Ue (by kernel_rfl) h3;obtain⟨z4,e4,_⟩:=Hr (by kernel_rfl) h4;have c0:(cs.f 0).d 1=[.b .a z0]:=e0;have c1:(cs.f 1).d 1=[.a A k c]:=e1;have c2:(cs.f 2).d 30=z2.ay.a:=e2;have c3:(cs.f 32).d 1=[.g (bT z3)]:=e3;have c4:(cs.f 33).d 1=[.e z4]:=e4;refine⟨⟨z0,A,k,c,z2,z3,z4⟩,?_,⟨z0,l,z2,z3,z4⟩,rfl,hR,⟨hnc,hc⟩,rfl,rfl,rfl,hg⟩;have e:=sV cs 0 1;rw[c0,sV cs (0+1) 1,c1,sV cs (0+1+1) 30,c2,sV cs (0+1+1+30) 1,c3,sV cs (0+1+1+30+1) 1,c4,iW (i:=0+1+1+30+1+1) (by omega)]at e;simpa[At.ay]using e
end
section
variable {H:Type} {enc:bF×aB->H} {W:ak} {base:Nat} {v:aB} {d:DataW H} {ps:List MemPlace} {held:Bool}
theorem anX(hval:Ho ah W .any base 22 v)(h:DataW.Trod enc ah W 0 (fun _=>true) held 22 v d ps):∃k:Vector UInt8 16,v=.d (jd k):=by
 obtain⟨cs,rfl⟩:∃cs,v=.d cs:=by
  simp only[Ho,qh]at hval;obtain⟨cs,h1,_⟩:=hval;exact⟨cs,h1⟩
 obtain⟨fuel,hf⟩:=h;obtain⟨k,hk⟩:=Me (k:=16) (e:=5) (by kernel_rfl) (by kernel_rfl) (by kernel_rfl) (by kernel_rfl) hf;have hc:cs.a=k.a.map bv:=hk;exact⟨k,by unfold jd;rw[<-hc]⟩
theorem aqY(hval:Ho ah W .any base 29 v)(h:DataW.Trod enc ah W 0 (fun _=>true) held 29 v d ps):∃(c:Cn)(l:List Vp),v=.d c.ay/\iJ Vp.ay 20 W W.a.j c.qH c.iK l/\c.iK<=c.qI/\c.qI<=9223372036854775807:=by
 obtain⟨cs,rfl,_⟩:=okWide_struct mW hval;obtain⟨fuel,hf⟩:=h;obtain⟨c,l,hcs,hr⟩:=aqW hf;have hc:cs.a=c.ay.a:=hcs;exact⟨c,l,by rw[Gn.1 hc],hr⟩
theorem akf(hval:Ho ah W .any base 49 v)(h:DataW.Trod enc ah W 0 (fun _=>true) held 49 v d ps):
 ∃(A:Option aT)(n c:Nat)(l:List At)(us:List Ac),v=.a A n c/\iJ At.ay 34 W W.a.j A n l/\us.a=n/\(∀i,i<n->AtO W (l.c i qE) (us.c i anV))/\n<=9223372036854775807:=by
 obtain⟨a0,len,cap,rfl⟩:=okWide_slice Tryz.underlying49 hval;obtain⟨fuel,hf⟩:=h;obtain⟨A,n,c,l,hs,hnc,hc,hll,hrd,hsp,hgd⟩:=OD At.ay (fun a=>∃u,AtO W a u) 34 At.G Tryz.underlying49 (by kernel_rfl) (by omega) (fun n cs y hy=>aqX hy) hf;simp only[cK,List.cons.injEq,Value.slice.injEq,and_true]at hs;obtain⟨rfl,rfl,rfl⟩:=hs;obtain⟨us,h1,h2⟩:=Rt anV (fun i u=>AtO W (l.c i qE) u) len (fun i hi=>hgd _ (by rw[au,aC (by omega),Option.getD_some];exact List.getElem_mem _));exact⟨a0,len,cap,l,us,rfl,⟨hll,hrd,hsp⟩,h1,h2,by omega⟩
end
end
structure OcR(W:ak)(o:Oc)(u:Ou):Prop where
 err:o.err=u.err
 h:o.h=u.h
 xE:o.xE=u.xE
 kT:o.kT=u.kT
 E:o.E=u.E
 i:fU W W.a.j o.Oe o.WR u.i
theorem OuR.rd{B:Nat}{W:ak}{o:Oc}{u:Ou}(h:OuR B W o u):OcR W o u:=⟨h.err,h.h,h.xE,h.kT,h.E,fU.iQ h.vB⟩
theorem OcR.go{W W':ak}{o:Oc}{u:Ou}(h:OcR W o u)(hb:aL W.a.j W W'):OcR W' o u:=⟨h.err,h.h,h.xE,h.kT,h.E,h.i.upon hb⟩
theorem ahU(W:ak)(k r:Int):OcR W ⟨k,r,false,0,[],none,0,0⟩ {uV with err:=k,h:=r}:=⟨rfl,rfl,rfl,rfl,rfl,Jb W⟩
theorem aqZ(u v:Ou):decide (u=v)=((u.err==v.err)&&((u.h==v.h)&&((u.xE==v.xE)&&((u.kT==v.kT)&&((u.E==v.E)&&(u.i==v.i)))))):=by
 rw[bV];cases u;cases v;simp
theorem WU(a b:Oc)(u v:Ou)(w:ak)(ha:OcR w a u)(hb:OcR w b v)(K:Bool)(hK:decide (u=v)=K):
 aP ah 24 #[.d a.ay,.d b.ay] w (gD w (.e K)):=by
 obtain⟨a1,a2,a3,a4,a5,A,n,c⟩:=a;obtain⟨b1,b2,b3,b4,b5,B,m,d⟩:=b;obtain rfl:a1=u.err:=ha.err;obtain rfl:a2=u.h:=ha.h;obtain rfl:a3=u.xE:=ha.xE;obtain rfl:a4=u.kT:=ha.kT;obtain rfl:a5=u.E:=ha.E;obtain rfl:b1=v.err:=hb.err;obtain rfl:b2=v.h:=hb.h;obtain rfl:b3=v.xE:=hb.xE;obtain rfl:b4=v.kT:=hb.kT;obtain rfl:b5=v.E:=hb.E;obtain⟨k1,h1⟩:∃k,(u.err==v.err)=k:=⟨_,rfl⟩
 obtain⟨k2,h2⟩:∃k,(u.h==v.h)=k:=⟨_,rfl⟩
 obtain⟨k3,h3⟩:∃k,(u.xE==v.xE)=k:=⟨_,rfl⟩
 obtain⟨k4,h4⟩:∃k,(u.kT==v.kT)=k:=⟨_,rfl⟩
 obtain⟨k5,h5⟩:∃k,(u.E==v.E)=k:=⟨_,rfl⟩
 obtain⟨k6,h6⟩:∃k,(u.i==v.i)=k:=⟨_,rfl⟩
 have HJ:=ab (show K=(k1&&(k2&&(k3&&(k4&&(k5&&k6)))))by rw[<-hK,aqZ,h1,h2,h3,h4,h5,h6]);clear hK;have z0:=((Bx.start w).new (Oc.mk u.err u.h u.xE u.kT u.E A n c).ay 58).new (Oc.mk v.err v.h v.xE v.kT v.E B m d).ay 58;rw[show(w.alloc (.D (Oc.mk u.err u.h u.xE u.kT u.E A n c).ay 58)).a.j=w.a.j+1 by simp]at z0;have Z0:=ab z0;have RA:=ab (Z0.i.Lv ha.i);have RB:=ab (Z0.i.Lv hb.i);clear ha hb z0;go_enter Tryz.func24,Tryz.ntmps24;go_upto_region 1 with fail
 generalize(w.alloc (.D (Oc.mk u.err u.h u.xE u.kT u.E A n c).ay 58)).alloc (.D (Oc.mk v.err v.h v.xE v.kT v.E B m d).ay 58)=w1 at Z0 RA RB ⊢;obtain⟨x1,x2,x3,x4⟩:=Z0.i.b1.K;obtain⟨y1,y2,y3,y4⟩:=Z0.i.S.K;have t1:=(AZ RA.i c).2;have t2:=(AZ RB.i d).2;cases k1
 ·skip
  go_wp2;go_ret;exact⟨by rw[HJ.i];rfl,Z0.i.R⟩
 cases k2
 ·skip
  go_wp2;go_ret;exact⟨by rw[HJ.i];rfl,Z0.i.R⟩
 cases k3
 ·skip
  go_wp2;go_ret;exact⟨by rw[HJ.i];rfl,Z0.i.R⟩
 cases k4
 ·skip
  go_wp2;go_ret;exact⟨by rw[HJ.i];rfl,Z0.i.R⟩
 cases k5
 ·skip
  go_wp2;go_ret;exact⟨by rw[HJ.i];rfl,Z0.i.R⟩
 cases k6
 ·skip
  go_wp2;go_ret;exact⟨by rw[HJ.i];rfl,Z0.i.R⟩
 go_wp2;go_ret;exact⟨by rw[HJ.i];rfl,Z0.i.R⟩
theorem akg(c:Cn)(w:ak):aP ah 13 #[.d c.ay] w (gD w (.e (decide (c.iK<=20)&&decide (c.j<=260)))):=by
 have Z0:=ab ((Bx.start w).new c.ay 29);obtain⟨k1,h1⟩:∃k,decide (c.iK<=20)=k:=⟨_,rfl⟩
 obtain⟨k2,h2⟩:∃k,decide (c.j<=260)=k:=⟨_,rfl⟩
 have h1':decide ((c.iK:Int)<=20)=k1:=by rw[<-h1,decide_eq_decide];omega
 go_enter Tryz.func13,Tryz.ntmps13;go_upto_region 1 with fail
 generalize w.alloc (.D c.ay 29)=w1 at Z0 ⊢;obtain⟨x1,x2,x3,x4⟩:=Z0.i.S.K;cases k1
 ·go_wp2
  go_ret;exact⟨by rw[h1];rfl,Z0.i.R⟩
 cases k2
 ·go_wp2
  go_ret;exact⟨by rw[h1,h2];rfl,Z0.i.R⟩
 go_wp2;go_ret;exact⟨by rw[h1,h2];rfl,Z0.i.R⟩
def Zq(a:At):Bool:=decide (a.Ov<=1500)&&(decide (a.E.a<=60)&&(decide (a.op.E.a<=60)&&decide (a.op.X.E.a<=60)))
def QD(l:List At):Bool:=decide (l.a<=60)&&(dP l.a).all fun i=>Zq (l.c i qE)
theorem At.asr(x:At)(j:Nat)(hj:j<30):x.ay[2+j]? = x.op.ay[j]?:=by
 have h:=At.asi x;have h2:(x.ay.extract 2 32)[j]? = x.op.ay[j]?:=by rw[h]
 rw[dx,if_pos (by rw[At.G];omega)]at h2;exact h2
theorem At.D{W:ak}{B n i:Nat}{A:Option aT}{l:List At}(h:iJ At.ay 34 W B A n l)(hi:i<n):∃b o,A=some ⟨b,o,none⟩/\W.b ⟨b,o+i*34,none⟩=some (.b .a (l.c i qE).kind)/\W.b ⟨b,o+i*34+1,none⟩=some (.a (l.c i qE).XH (l.c i qE).Ov (l.c i qE).LZ)/\W.b ⟨b,o+i*34+32,none⟩=some (.g (bT (l.c i qE).E))/\W.b ⟨b,o+i*34+30,none⟩=some (.g (bT (l.c i qE).op.E))/\W.b ⟨b,o+i*34+3,none⟩=some (.g (bT (l.c i qE).op.X.E)):=by
 obtain⟨b,o,hA,_,hc⟩:=iJ.cell At.G qE h hi;refine⟨b,o,hA,?_,(hc 1 (by omega)).trans (At.ash _),(hc 32 (by omega)).trans (At.zu _),?_,?_⟩
 ·have:=(hc 0 (by omega)).trans (At.zq _);rw[nD]at this;exact this
 ·rw[hc 30 (by omega),At.asr _ 28 (by omega)];simp[qO.ay,Bk.G]
 ·rw[hc 3 (by omega),At.asr _ 1 (by omega)];simp[qO.ay];rfl
theorem aef(l:List At)(A:Option aT)(n c:Nat)(w:ak)(hR:iJ At.ay 34 w w.a.j A n l)(hn:n<=9223372036854775807):
 aP ah 66 #[.a A n c] w fun e w'=>e=.a (.e (QD l))/\w=w':=by
 have HR:=ab hR;have HN:=ab hR.1;clear hR;have HFW:=ab (show QD l=(decide (n<=60)&&(dP n).all (fun i=>Zq (l.c i qE)))by unfold QD;rw[HN.i]);go_enter Tryz.func66,Tryz.ntmps66;go_wp2;go_loop [3] (fun s3=>∃i:Nat,i<=n/\i<=100/\s3=.b .a i/\∀k,k<i->Zq (l.c k qE)=true) (fun s3=>n-(intOf s3).e)
 case atStart=>exact⟨0,by omega,by omega,rfl,fun k hk=>by omega⟩
 case round=>
  obtain⟨i,hin,aEW,rfl,hall⟩:=hrel;have HA:=ab hall;clear hall;by_cases hlt:i<n
  ·have hi:(i:Int)<n:=by omega
   by_cases h6:i<100
   ·have hi6:(i:Int)<100:=by omega
    obtain⟨b,o,rfl,c0,c1,c2,c3,c4⟩:=At.D HR.i hlt;obtain⟨a,ha⟩:=cB (l.c i qE);rw[<-ha]at c0 c1 c2 c3 c4;have HX:=ab ha;clear ha c0;obtain⟨m1,hm1⟩:∃m,m=a.Ov:=⟨_,rfl⟩
    obtain⟨m2,hm2⟩:∃m,m=a.E:=⟨_,rfl⟩
    obtain⟨m3,hm3⟩:∃m,m=a.op.E:=⟨_,rfl⟩
    obtain⟨m4,hm4⟩:∃m,m=a.op.X.E:=⟨_,rfl⟩
    have HFA:=ab (show Zq a=(decide (m1<=1500)&&(decide (m2.a<=60)&&(decide (m3.a<=60)&&decide (m4.a<=60))))by rw[hm1,hm2,hm3,hm4];rfl);rw[<-hm1]at c1;rw[<-hm2]at c2;rw[<-hm3]at c3;rw[<-hm4]at c4;clear hm1 hm2 hm3 hm4;obtain⟨k1,e1⟩:∃k,decide ((1500:Int)<m1)=k:=⟨_,rfl⟩
    obtain⟨k2,e2⟩:∃k,decide ((60:Int)<m2.a)=k:=⟨_,rfl⟩
    obtain⟨k3,e3⟩:∃k,decide ((60:Int)<m3.a)=k:=⟨_,rfl⟩
    obtain⟨k4,e4⟩:∃k,decide ((60:Int)<m4.a)=k:=⟨_,rfl⟩
    have HB:=ab (show Zq a=(!k1&&(!k2&&(!k3 && !k4)))by
     rw[HFA.i,<-e1,<-e2,<-e3,<-e4];rw[bV];simp only[bl,decide_eq_true_eq,nZ,decide_eq_false_iff_not];omega)
    cases k1;rotate_left
    ·have HF:=ab (show QD l=false by rw[HFW.i,jh _ i _ hlt (by rw[<-HX.i,HB.i];rfl)];simp)
     go_wp2;go_ret;exact⟨by rw[HF.i];rfl,rfl⟩
    cases k2;rotate_left
    ·have HF:=ab (show QD l=false by rw[HFW.i,jh _ i _ hlt (by rw[<-HX.i,HB.i];rfl)];simp)
     go_wp2;go_ret;exact⟨by rw[HF.i];rfl,rfl⟩
    cases k3;rotate_left
    ·have HF:=ab (show QD l=false by rw[HFW.i,jh _ i _ hlt (by rw[<-HX.i,HB.i];rfl)];simp)
     go_wp2;go_ret;exact⟨by rw[HF.i];rfl,rfl⟩
    cases k4;rotate_left
    ·have HF:=ab (show QD l=false by rw[HFW.i,jh _ i _ hlt (by rw[<-HX.i,HB.i];rfl)];simp)
     go_wp2;go_ret;exact⟨by rw[HF.i];rfl,rfl⟩
    go_wp2;go_round
    case rel=>exact⟨i+1,by omega,by omega,by go_num,fun k hk=>by
     by_cases hki:k=i
     ·rw[hki,<-HX.i,HB.i];rfl
     ·exact HA.i k (by omega)⟩
    case measure=>simp[intOf]<;>omega
   ·have hd:decide ((i:Int)<100)=false:=by simp;omega
    have HF:=ab (show QD l=decide ((n:Int)<=60)by
     rw[HFW.i,show decide (n<=60)=false from decide_eq_false (by omega),show decide ((n:Int)<=60)=false from decide_eq_false (by omega)];rfl)
    go_wp2;go_ret;exact⟨by rw[HF.i];rfl,rfl⟩
  ·obtain rfl:i=n:=by omega
   have hd:decide ((i:Int)<i)=false:=by simp
   have HF:=ab (show QD l=decide ((i:Int)<=60)by
    rw[HFW.i,gJ.2 (fun k hk=>HA.i k (eO.1 hk)),Bool.and_true];rw[decide_eq_decide];omega)
   go_wp2;go_ret;exact⟨by rw[HF.i];rfl,rfl⟩
def akh(c:Cn)(l:List At):Bool:=(decide (c.iK<=20)&&decide (c.j<=260))&&QD l
theorem aq0(c:Cn)(l:List At)(A:Option aT)(n k:Nat)(w:ak)(hR:iJ At.ay 34 w w.a.j A n l)(hn:n<=9223372036854775807):
 aP ah 21 #[.d c.ay,.a A n k] w (gD w (.e (akh c l))):=by
 have Z0:=ab ((Bx.start w).new c.ay 29);obtain⟨k1,h1⟩:∃k,(decide (c.iK<=20)&&decide (c.j<=260))=k:=⟨_,rfl⟩
 have HJ:=ab (show akh c l=(k1&&QD l)by unfold akh;rw[h1]);have CS:=ab (fun w=>akg c w);rw[h1]at CS;have CF:=ab (fun w1 (hb:aL w.a.j w w1)=>aef l A n k w1 (hR.go hb) hn);clear h1 hR;go_enter Tryz.func21,Tryz.ntmps21;go_upto_region 1 with fail
 generalize w.alloc (.D c.ay 29)=w1 at Z0 ⊢;have l1:=Vw.nC Z0.i.S (Cn.G _);go_wp2_with fail
 (with_reducible refine(CS.i _).g ?_)
 rintro e w2 ⟨rfl,hb⟩;have Z2:=ab (Z0.i.go hb);clear hb l1;cases k1
 ·go_wp2
  go_ret;exact⟨by rw[HJ.i];rfl,Z2.i.R⟩
 go_wp2_with (go_at_call 66;(with_reducible refine(CF.i _ Z2.i.R).g ?_);rintro e w3 ⟨rfl,rfl⟩);go_ret;exact⟨by rw[HJ.i];rfl,Z2.i.R⟩
def uY(l:List UInt8):fC:=⟨false,qd 16 l⟩
def anY:Cn:=⟨none,1,1,7,9,DT fun i=>if i.val=0 then 0 else 5,1,1,bG 6 0,mX,⟨true,bG 16 0⟩,1000,2,5⟩
def Hf:Vp:=⟨uY [5,6,7,8],6,80,false⟩
def yG:En:=⟨qd 16 [1],anY,[Hf]⟩
def aki:Bk:=⟨[97],uY [10,0,0,9],8080,bG 6 0,4607182418800017408,false⟩
def awF:List UInt8:=[0,0,0,0,0,0,0,0,0,0,0,0,8,0,69,0,0,42,0,0,64,0,64,6,42,187,1,2,3,4,5,6,7,8,3,232,0,80,0,0,0,0,0,0,0,0,80,2,0,0,51,44,0,0,104,105]
def awW:List UInt8:=[0,0,0,0,0,0,0,0,0,0,0,0,8,0,69,0,0,42,0,0,64,0,64,6,44,192,1,2,3,4,10,0,0,9,3,232,31,144,0,0,0,0,0,0,0,0,80,2,0,0,21,241,0,0,104,105]
def acF:Ac:=⟨1,awF,⟨0,jg,[],0⟩,[],false⟩
def acA:Ac:=⟨2,[],⟨1,aki,[],0⟩,[],false⟩
def acH(n:List UInt8):Ac:=⟨3,[],⟨0,jg,[],0⟩,n,false⟩
def acK(k:Int):Ac:=⟨k,[],⟨0,jg,[],0⟩,[],false⟩
def aw0:pY×Ou:=nO yG uL acF
def aw1:pY×Ou:=nO yG aw0.1 acA
def aw2:pY×Ou:=nO yG aw1.1 acF
def aw3:pY×Ou:=nO yG aw2.1 acF
def aw4:pY×Ou:=nO yG aw3.1 (acH [98])
def aw5:pY×Ou:=nO yG aw4.1 (acH [97])
def aw6:pY×Ou:=nO yG aw5.1 acF
def aw7:pY×Ou:=nO yG aw6.1 (acK 4)
def Ua:pY×Ou:=nO yG aw7.1 (acK 9)
theorem asu:xX anY [Hf]=true:=by decide +kernel
theorem aEZ:aw0.2={uV with h:=8}:=by decide +kernel
theorem aE0:aw1.2.kT=1:=by decide +kernel
theorem anZ:aw2.2=⟨0,0,false,1,[97],awW⟩:=by decide +kernel
theorem aE1:aw3.2.xE=true:=by decide +kernel
theorem aE2:aw4.2.err=5:=by decide +kernel
theorem aE3:aw5.2.err=0:=by decide +kernel
theorem aE4:aw6.2.h=8:=by decide +kernel
theorem aE5:aw7.2.err=0:=by decide +kernel
theorem aE6:Ua.2.err=1:=by decide +kernel
theorem akj:Ua.1.no=2/\Ua.1.fQ=1/\Ua.1.ji[8]=2/\Ua.1.G.a=1/\(zM yG Ua.1).uy.a=0:=by decide +kernel
theorem Ow.rd{B n c:Nat}{g0:Option Nat}{w w':ak}{A:Option aT}{bs:List UInt8}(h:Ow B g0 w (.a A n c) bs w'):fU w' w'.a.j A n bs:=by
 obtain⟨A',c',e,_,_⟩:=jE h.vB;injection e with e1 e2 e3
 have:=h.vB;rw[<-e2]at this;exact fU.iQ this
theorem aeg(s d:fC)(p:Nat)(hp:p<=255)(w:ak)(A:Option aT)(n c:Nat)(l:List UInt8)(hnn:n<=65535)(hnc:n<=c)(hr:fU w w.a.j A n l)(hT:(I5 p l).1.dz=(n:Int))(lp:List UInt8)(hlp:psB s d p n=lp)(hpl:lp.a<=1000):
 aP ah 188 #[.d s.ay,.d d.ay,.b .a p,.a A n c] w (gD w (.b .a (wP (lp++l):Nat))):=by
 have HR:=ab hr;have hl:=ab hr.len;have HLP:=ab hlp;have HPL:=ab hpl;clear hr hlp hpl;have h0:=((Bx.start w).new s.ay 27).new d.ay 27;rw[show(w.alloc (.D s.ay 27)).a.j=w.a.j+1 by simp]at h0;have Z0:=ab h0;clear h0;obtain⟨r,hrr⟩:=cB (I5 p l);rw[<-hrr]at hT;have CP:=ab (fun w1 (hr:fU w1 w1.a.j A n l)=>adr w1 p A n c l (by omega) hr);unfold PtP at CP;rw[<-hrr]at CP;clear hrr;obtain⟨k,er⟩:=r;simp only at hT CP;go_enter Tryz.func188,Tryz.ntmps188;go_upto_region 1 with fail
 generalize(w.alloc (.D s.ay 27)).alloc (.D d.ay 27)=w0 at Z0 ⊢;go_upto_region 2 with(go_at_call 227;(with_reducible refine(CP.i _ (Z0.i.Lv HR.i)).g ?_);rintro e w1 ⟨rfl,hb1⟩;have Z1:=ab ((Z0.i.go hb1).new k.ay 172);clear hb1)
 generalize w1.alloc (.D k.ay 172)=w2 at Z1 ⊢;generalize w1.a.j=y at Z1 ⊢;have KS:=ab (fun(W':ak) (h:Bx [(y,k.ay),(w.a.j+1,d.ay),(w.a.j,s.ay)] w W')=>show W'.b ⟨y,4,none⟩=some (.b .a n)/\(rE (.c (some ⟨w.a.j,0,none⟩))).I ah W' = .Z (.d s.ay) W'/\(rE (.c (some ⟨w.a.j+1,0,none⟩))).I ah W' = .Z (.d d.ay) W' by
  refine⟨by rw[h.S.K.1 4,Pt.xY,hT],?_,?_⟩
  ·obtain⟨x1,x2,x3,x4⟩:=h.b2.K;go_simp
  ·obtain⟨x1,x2,x3,x4⟩:=h.b1.K;go_simp)
 have CS:=ab (fun W'=>Xv s d p n hp hnn W');rw[HLP.i]at CS;unfold Kc at CS;have i1:(0:Int)<=n:=by omega
 have i2:(n:Int)<=c:=by omega
 have i3:n<=c:=hnc;clear hT;go_region_held_law (fun W'=>W'.b ⟨y,4,none⟩=some (.b .a n)/\(rE (.c (some ⟨w.a.j,0,none⟩))).I ah W' = .Z (.d s.ay) W'/\(rE (.c (some ⟨w.a.j+1,0,none⟩))).I ah W' = .Z (.d d.ay) W')
  (first|exact KS.i _ Z1.i.drew|exact KS.i _ Z6.i|exact KS.i _ Z8.i|go_keep)
  (first
  | (go_at_call 259;(with_reducible refine(CS.i _).g ?_);rintro e w6 ⟨A6,n6,c6,rfl,hn6,ho6,hb6⟩;have Z6:=ab (Z1.i.drew.go hb6);have P6:=ab (Ow.iQ ho6 hb6.j);have R6:=ab (Z6.i.Lv HR.i);have LN:=ab (show lp.a+n<=1000000000 by have:=HPL.i;omega);have HB6:=ab (show w.a.j<=w2.a.j from Z1.i.R.j);clear hn6 ho6 hb6)
  | (refine M7 (o:=⟨some 28,_,_,_,_,_⟩) rfl (.a 23) (.a 27) rfl (.a A6 n6 c6) A n c rfl P6.i rfl R6.i LN.i ?_;intro A8 n8 c8 w8 h8 h9;have O8:=ab h8;have Z8:=ab (Z6.i.ow h9 (fun p hp=>eY ((Z1.i.drew.2 p hp).2.lt) (av _)) HB6.i);clear h8 h9))
 go_upto_region 3 with fail
 have R8:=ab O8.i.rd;have CU:=ab (VQ w8 A8 n8 c8 (lp++l) (by have h1:=R8.i.len;have:=HPL.i;have:=hl.i;rw[aR]at h1;omega) R8.i);go_wp2_with (go_at_call 186;(with_reducible refine CU.i.g ?_);rintro e w9 ⟨rfl,hb9⟩;have HB9:=ab hb9;clear hb9);go_ret;exact⟨rfl,Z8.i.R.trans (HB9.i.g Z8.i.R.j)⟩
def wW(l:List UInt8):List UInt8:=(l.set 16 0).set 17 0
def WV(s d:fC)(l:List UInt8):List UInt8:=((wW l).set 16 (aJ (wP (psB s d 6 l.a++wW l)/256))).set 17 (aJ (wP (psB s d 6 l.a++wW l)%256))
theorem akk(w:ak):aP ah 187 #[.b .a 6] w fun e w'=>e=.a (.b .a 16)/\w=w':=by
 go_enter Tryz.func187,Tryz.ntmps187;go_wp2;go_ret;exact⟨rfl,rfl⟩
theorem abF(s d:fC)(w:ak)(A:Option aT)(n c:Nat)(l:List UInt8)(h18:18<=n)(hnn:n<=65535)(hr:fU w w.a.j A n l)(hT:(I5 6 (wW l)).1.dz=(n:Int)):
 aP ah 107 #[.d s.ay,.d d.ay,.b .a 6,.a A n c] w (Kc w (WV s d l)):=by
 have HR:=ab hr;have hl:=ab hr.len;have HT:=ab hT;have HP:=ab (show WV s d l=((wW l).set 16 (aJ (wP (psB s d 6 l.a++wW l)/256))).set 17 (aJ (wP (psB s d 6 l.a++wW l)%256))from rfl);clear hr hT;have h0:=((Bx.start w).new s.ay 27).new d.ay 27;rw[show(w.alloc (.D s.ay 27)).a.j=w.a.j+1 by simp]at h0;have Z0:=ab h0;clear h0;go_enter Tryz.func107,Tryz.ntmps107;go_upto_region 1 with fail
 generalize(w.alloc (.D s.ay 27)).alloc (.D d.ay 27)=w0 at Z0 ⊢;have L0:=ab (((Ly.amA w w0 Z0.i.R #[] [] 0 rfl (by omega) rfl).add (q:=w.a.j) (c:=s.ay) (Z0.i.b1.alloc _) (by have:=Z0.i.b1.lt;simp[jY];omega)).add (q:=w.a.j+1) (c:=d.ay) (Z0.i.S.alloc _) (by have:=Z0.i.S.lt;simp[jY];omega));have R0:=ab ((Z0.i.Lv HR.i).O ((aG w0.a.j w0).alloc (av _) (.D #[] 5)));have H0:=ab (show([]:List UInt8).a+n<=1000000000 by simp;omega);go_upto_region 2 with(at_builtin;refine kE rfl (.a 12) (.a 13) rfl rfl L0.i.o rfl R0.i H0.i ?_;intro A1 n1 c1 w1 h2 h3;have L1:=ab (L0.i.step h3);clear h2 h3)
 rw[List.nil_append]at L1;go_upto_region 3 with(go_at_call 187;(with_reducible refine(akk _).g ?_);rintro e w2 ⟨rfl,rfl⟩)
 obtain⟨hm1,hm2,g,rfl,k1,k2⟩:=L1.i.at0 (by rw[hl.i];omega);rw[hl.i]at hm1;have HM:=ab hm1;have m1:(16:Int)<n1:=by omega
 have m2:(17:Int)<n1:=by omega
 have k16:=k1 16 (by rw[hl.i];omega);have M2:=ab (L1.i.afP 16 0);rw[show bv 0=.b .b 0 from rfl]at M2;clear k1 hm1 hm2 L0 R0 H0;go_upto_region 4 with fail
 generalize w1.F ⟨g,16,none⟩ (.b .b 0)=w3 at *;obtain⟨-,-,g',eg,k3,k4⟩:=M2.i.at0 (by rw[aV,hl.i];omega);injection eg with eg
 injection eg with eg
 subst eg;have k17:=k3 17 (by rw[aV,hl.i];omega);have M3:=ab (M2.i.afP 17 0);rw[show bv 0=.b .b 0 from rfl]at M3;clear k3 k2 k16;go_upto_region 5 with fail
 generalize w3.F ⟨g,17,none⟩ (.b .b 0)=w4 at *;clear k4 k17 M2 L1;have M3:=ab (show Ly w.a.j [(w.a.j+1,d.ay),(w.a.j,s.ay)] w w4 (.a (some ⟨g,0,none⟩) n1 c1) (wW l)from M3.i);have HZL:=ab (show(wW l).a=n by unfold wW;rw[aV,aV,hl.i]);obtain⟨zl,hzl⟩:∃z,z=wW l:=⟨_,rfl⟩
 obtain⟨lp,hlp⟩:∃z,psB s d 6 n=z:=⟨_,rfl⟩
 rw[hl.i]at HP;rw[<-hzl]at M3 HZL HT HP;rw[hlp]at HP;have CQ:=ab (aeg s d 6 (by omega) w4 (some ⟨g,0,none⟩) n1 c1 zl (by rw[HM.i];omega) (by have:=M3.i.at0 (by rw[HZL.i];omega);exact this.2.1) (Db M3.i.o (aG _ _)) (by rw[HM.i];exact HT.i) lp (by rw[HM.i];exact hlp) (by rw[<-hlp];have:=apW s d 6 n;omega));rw[show((6:Nat):Int)=6 from rfl]at CQ;clear hzl hlp HT;have HSL:=ab (show wP (lp++zl)<=65535 by unfold wP;omega);generalize wP (lp++zl)=z at *;have z0:(0:Int)<=z:=by omega
 have z1:(z:Int)<=65535:=by have:=HSL.i;omega
 obtain⟨x1,x2,x3,x4⟩:=M3.i.b1.K;obtain⟨y1,y2,y3,y4⟩:=M3.i.S.K;go_upto_region 6 with(go_at_call 188;(with_reducible refine CQ.i.g ?_);rintro e w6 ⟨rfl,hb⟩;have M4:=ab (M3.i.go hb);clear hb)
 clear x1 x2 x3 x4 y1 y2 y3 y4;obtain⟨hm1,hm2,g',eg,k1,k2⟩:=M4.i.at0 (by rw[HZL.i];omega);injection eg with eg
 injection eg with eg
 subst eg;have k16:=k1 16 (by rw[HZL.i];omega);have M5:=ab (M4.i.afP 16 (aJ (z/256)));have e1:((aJ (z/256)).e:Int)=(z:Int)/256:=by rw[yM _ (by have:=HSL.i;omega)];omega
 unfold bv at M5;rw[e1]at M5;clear k1 e1 hm1 hm2;obtain⟨bz,hbz⟩:∃b,((z:Int)==0)=b:=⟨_,rfl⟩
 cases bz
 all_goals
  go_upto_region 8 with fail
  go_upto_region 9 with fail
  generalize w6.F ⟨g,16,none⟩ (.b .b ((z:Int)/256))=w7 at *;obtain⟨-,-,g',eg,k3,k4⟩:=M5.i.at0 (by rw[aV,HZL.i];omega);injection eg with eg
  injection eg with eg
  subst eg;have k17:=k3 17 (by rw[aV,HZL.i];omega);have M6:=ab (M5.i.afP 17 (aJ (z%256)));have e2:((aJ (z%256)).e:Int)=(z:Int)%256:=by rw[yM _ (by omega)];omega
  unfold bv at M6;rw[e2]at M6;clear k3 e2 k2 k16;go_wp2;go_ret;rw[<-HP.i]at M6;have ho:=M6.i.o;obtain⟨A9,c9,e9⟩:=ho.Cj;injection e9 with e9 e10 e11
  subst e10;exact⟨_,_,_,rfl,rfl,ho.vB,ho.R⟩
def abG(t:Tu)(load:List UInt8):List UInt8:=[aJ (t.kV.e/256),aJ (t.kV.e%256),aJ (t.j6.e/256),aJ (t.j6.e%256)]++[0,0,0,0,0,0,0,0,80,2,0,0,0,0,0,0]++load
def azU(t:Tu)(n:Nat):Fo:=⟨20,20+(n:Int),0,0,false,true,64,6,t.h,t.X⟩
def mk6(t:Tu)(load:List UInt8):List UInt8:=qv (bG 6 0) (bG 6 0) [] 2048++tK (azU t (abG t load).a)++WV t.h t.X (abG t load)
@[go_sem]theorem asv(w:ak)(b:Int):(Bu 16 #[(0,.b .b 0),(1,.b .b 0),(2,.b .b 0),(3,.b .b 0),(4,.b .b 0),(5,.b .b 0),(6,.b .b 0),(7,.b .b 0),(8,.b .b 80),(9,.b .b b),(10,.b .b 0),(11,.b .b 0),(12,.b .b 0),(13,.b .b 0),(14,.b .b 0),(15,.b .b 0)]).I ah w = .Z (.a (some ⟨w.a.j,0,none⟩) 16 16) (w.alloc (.D #[.b .b 0,.b .b 0,.b .b 0,.b .b 0,.b .b 0,.b .b 0,.b .b 0,.b .b 0,.b .b 80,.b .b b,.b .b 0,.b .b 0,.b .b 0,.b .b 0,.b .b 0,.b .b 0] 5)):=by
 obtain⟨i0,hi0,hz0,hz1,hz2⟩:=zo;have hr:Array.range 16 = #[0,1,2,3,4,5,6,7,8,9,10,11,12,13,14,15]:=by apply Array.ext';rw[Array.toList_range];rfl
 simp[Bu,bJ,run_underlying cu,zeroValue,sizeOf,typeInfo,hi0,hz0,hz1,Instr.fill,newRow,cK,hr]
theorem Oi(t:Tu)(h6:t.h.h=false)(hp:t.aQ=6)(s0:0<=t.kV)(s1:t.kV<=65535)(d0:0<=t.j6)(d1:t.j6<=65535)(w:ak)(A:Option aT)(m c:Nat)(load:List UInt8)(hm:m<=1000)(hr:fU w w.a.j A m load)(hT:(I5 6 (wW (abG t load))).1.dz=((20+m:Nat):Int)):
 aP ah 40 #[.d qK.ay,.d t.ay,.b .a 2,.a A m c] w (Kc w (mk6 t load)):=by
 have HR:=ab hr;have hl:=ab hr.len;have HT:=ab hT;have HM:=ab (show mk6 t load=qv (bG 6 0) (bG 6 0) [] 2048++tK (azU t (abG t load).a)++WV t.h t.X (abG t load)from rfl);have HSB:=ab (show abG t load=[aJ (t.kV.e/256),aJ (t.kV.e%256),aJ (t.j6.e/256),aJ (t.j6.e%256)]++[0,0,0,0,0,0,0,0,80,2,0,0,0,0,0,0]++load from rfl);clear hr hT;have h0:=((Bx.start w).new qK.ay 108).new t.ay 81;rw[show(w.alloc (.D qK.ay 108)).a.j=w.a.j+1 by simp]at h0;have Z0:=ab h0;clear h0;have hty:afQ qK t=Lc.mk (bG 6 0) (bG 6 0) none 0 0 2048 0:=by unfold afQ qK;rw[h6];rfl
 have CT:=ab (fun w1=>abb qK t w1);rw[hty]at CT;have CP:=ab (fun w1=>VY (Lc.mk (bG 6 0) (bG 6 0) none 0 0 2048 0) [] (by simp) (by simp) (by simp) (by simp) w1 (iJ.nil _ _));unfold Kc at CP;obtain⟨lb,hlb⟩:∃l,l=qv (bG 6 0) (bG 6 0) [] 2048:=⟨_,rfl⟩
 have LB:=ab (show lb.a<=100 by rw[hlb];simp[qv,qg]);simp only at CP;rw[<-hlb]at CP HM;clear hlb hty;go_enter Tryz.func40,Tryz.ntmps40;go_upto_region 1 with fail
 generalize(w.alloc (.D qK.ay 108)).alloc (.D t.ay 81)=w0 at Z0 ⊢;obtain⟨x1,x2,x3,x4⟩:=Z0.i.b1.K;obtain⟨y1,y2,y3,y4⟩:=Z0.i.S.K;go_upto_region 2 with(first
  | (go_at_call 104;(with_reducible refine(CT.i _).g ?_);rintro e w1 ⟨rfl,hb1⟩;have Z1:=ab (Z0.i.go hb1);clear hb1)
  | (go_at_call 103;(with_reducible refine(CP.i _).g ?_);rintro e w2 ⟨A2,n2,c2,rfl,hn2,ho2,hb2⟩;have Z2:=ab (Z1.i.go hb2);have O2:=ab ho2;have N2:=ab hn2;have S2:=ab hb2.j;have S1:=ab Z1.i.R.j;clear hb2 ho2 hn2))
 clear x1 x2 x3 x4 y1 y2 y3 y4;obtain⟨y1,y2,y3,y4⟩:=Z2.i.S.K;have b34:=Tu.Vi t;rw[hp]at b34;have b35:=Tu.afo t;have b36:=Tu.aaE t;have b0:t.ay[0]? = some (.e false):=by rw[<-h6];exact Tu.qw t
 obtain⟨sp,hsp⟩:∃k,k=t.kV:=⟨_,rfl⟩
 obtain⟨dp,hdp⟩:∃k,k=t.j6:=⟨_,rfl⟩
 rw[<-hsp]at b35 s0 s1 HSB;rw[<-hdp]at b36 d0 d1 HSB;clear hsp hdp hp h6;have B0:=ab (((Ly.amA w2 w2 (aG _ _) #[.b .b (sp/256),.b .b (sp%256),.b .b (dp/256),.b .b (dp%256)] [aJ (sp.e/256),aJ (sp.e%256),aJ (dp.e/256),aJ (dp.e%256)] 4 rfl (by omega) (by
  obtain⟨e1,e2⟩:=VX sp s0 s1;obtain⟨e3,e4⟩:=VX dp d0 d1;simp only[kL,List.map_nil,bv];rw[e1,e2,e3,e4])).add (q:=w.a.j) (c:=qK.ay) (Z2.i.b1.alloc _) (by have:=Z2.i.b1.lt;simp[jY];omega)).add (q:=w.a.j+1) (c:=t.ay) (Z2.i.S.alloc _) (by have:=Z2.i.S.lt;simp[jY];omega))
 go_upto_region 3 with fail
 have O3:=ab (vC O2.i (.D #[.b .b (sp/256),.b .b (sp%256),.b .b (dp/256),.b .b (dp%256)] 5));have S3:=ab (show w2.a.j<(w2.alloc (.D #[.b .b (sp/256),.b .b (sp%256),.b .b (dp/256),.b .b (dp%256)] 5)).a.j by simp);have F3:=ab (show aL w2.a.j w2 (w2.alloc (.D #[.b .b (sp/256),.b .b (sp%256),.b .b (dp/256),.b .b (dp%256)] 5))from(aG _ _).alloc (av _) _);generalize w2.alloc (.D #[.b .b (sp/256),.b .b (sp%256),.b .b (dp/256),.b .b (dp%256)] 5)=w3 at B0 O3 S3 F3 ⊢;clear y1 y2 y3 y4;obtain⟨y1,y2,y3,y4⟩:=B0.i.S.K;have B1:=ab (B0.i.alloc (.D #[.b .b 0,.b .b 0,.b .b 0,.b .b 0,.b .b 0,.b .b 0,.b .b 0,.b .b 0,.b .b 80,.b .b 2,.b .b 0,.b .b 0,.b .b 0,.b .b 0,.b .b 0,.b .b 0] 5));have R1:=ab (VT w3 #[.b .b 0,.b .b 0,.b .b 0,.b .b 0,.b .b 0,.b .b 0,.b .b 0,.b .b 0,.b .b 80,.b .b 2,.b .b 0,.b .b 0,.b .b 0,.b .b 0,.b .b 0,.b .b 0] [0,0,0,0,0,0,0,0,80,2,0,0,0,0,0,0] rfl);have L1:=ab (show([aJ (sp.e/256),aJ (sp.e%256),aJ (dp.e/256),aJ (dp.e%256)]:List UInt8).a+16<=1000000000 by simp);go_upto_region 7 with(at_builtin;refine kE rfl (.a 48) (.a 51) rfl rfl B1.i.o rfl R1.i L1.i ?_;intro A4 n4 c4 w4 h2 h3;have B4:=ab (B1.i.step h3);clear h2 h3)
 clear y1 y2 y3 y4 B1 R1 L1;have BW:=ab (Z2.i.R.trans (B4.i.o.R.g Z2.i.R.j));have R4:=ab (HR.i.upon BW.i);have L4:=ab (show(([aJ (sp.e/256),aJ (sp.e%256),aJ (dp.e/256),aJ (dp.e%256)]:List UInt8)++[0,0,0,0,0,0,0,0,80,2,0,0,0,0,0,0]).a+m<=1000000000 by simp;omega);go_upto_region 8 with(at_builtin;refine kE rfl (.a 53) (.a 54) rfl rfl B4.i.o rfl R4.i L4.i ?_;intro A5 n5 c5 w5 h2 h3;have B5:=ab (B4.i.step h3);clear h2 h3)
 obtain⟨sb,hsb⟩:∃l,l=abG t load:=⟨_,rfl⟩
 have SBL:=ab (show sb.a=20+m by rw[hsb,HSB.i];simp[hl.i];omega);rw[<-hsb]at HM HT HSB;rw[<-HSB.i]at B5;clear hsb HSB L4 R4 B4 BW;have N5:=ab (show n5=20+m by
  obtain⟨A9,c9,e9⟩:=B5.i.o.Cj;injection e9 with e9 e10 e11
  rw[e10];exact SBL.i)
 have hn5:n5<=2000:=by have:=N5.i;omega
 have HM:=ab (show mk6 t load=lb++tK (Fo.mk 20 (20+(n5:Int)) 0 0 false true 64 6 t.h t.X)++WV t.h t.X sb by rw[HM.i,SBL.i,N5.i];rfl);have O5:=ab (jA O2.i B5.i.o.R);have BW:=ab (Z2.i.R.trans (B5.i.o.R.g Z2.i.R.j));have CF:=ab (VZ (Fo.mk 20 (20+(n5:Int)) 0 0 false true 64 6 t.h t.X) (by simp) (by simp) (by simp;omega) (by simp;omega) (by simp) (by simp) (by simp) (by simp) (by simp) (by simp) w5);unfold Kc at CF;obtain⟨fb,hfb⟩:∃l,l=tK (Fo.mk 20 (20+(n5:Int)) 0 0 false true 64 6 t.h t.X):=⟨_,rfl⟩
 have LF:=ab (show fb.a=20 by rw[hfb,V7]);rw[<-hfb]at CF HM;clear hfb;have S5:=ab B5.i.o.R.j;obtain⟨y1,y2,y3,y4⟩:=B5.i.S.K;go_upto_region 11 with(first
  | (go_at_call 106;(with_reducible refine CF.i.g ?_);rintro e w6 ⟨A6,n6,c6,rfl,hn6,ho6,hb6⟩;have B6:=ab (B5.i.go hb6);have R6:=ab (fU.iQ ho6);have P6:=ab (Ow.iQ (jA O5.i hb6) (by have:=S1.i;have:=S2.i;have:=S5.i;have:=hb6.j;omega));have LN:=ab (show lb.a+n6<=1000000000 by have:=LB.i;have:=LF.i;omega);have W6:=ab (BW.i.trans (hb6.g BW.i.j));have O6:=ab (jA O5.i hb6);clear hn6 ho6 hb6)
  | (at_builtin;refine kE rfl (.a 72) (.a 83) rfl rfl P6.i rfl R6.i LN.i ?_;intro A7 n7 c7 w7 h8 h9;have O7:=ab h8;clear h8 h9))
 clear y1 y2 y3 y4;have FA:=ab (iH O2.i);have F7:=ab (show jC (tF A2) w6 w7 from jC.U0 O7.i.gr (fun k hk=>.a (by
  cases A2 with
  | none=>cases hk
  | some a=>exact Di.2 ⟨a,rfl,by simpa[jY]using hk⟩)))
 have FB:=ab (fun b (hb:b∈tF A5)=>show b∉tF A2 from fun h=>by
  have h1:=FA.i b h;have h2:=iH (by have:=B6.i.o.vB;rw[SBL.i,<-N5.i]at this;exact this) b hb;omega)
 have R7:=ab (show fU w7 w7.a.j A5 n5 sb from Od (Db B6.i.o (aG _ _)) (av _) F7.i FB.i);have X7:=ab (F7.i.box B6.i.S (fun h=>by have h1:=FA.i _ h;have:=Z0.i.S.lt;have:=S1.i;have h3:=Z1.i.S.lt;omega));have CL:=ab (abF t.h t.X w7 A5 n5 c5 sb (by have:=N5.i;omega) (by omega) R7.i (by rw[HT.i,N5.i]));unfold Kc at CL;obtain⟨lf,hlf⟩:∃l,l=WV t.h t.X sb:=⟨_,rfl⟩
 have LL:=ab (show lf.a<=2000 by rw[hlf];unfold WV wW;simp only[aV];have:=SBL.i;omega);rw[<-hlf]at CL HM;clear hlf;obtain⟨y1,y2,y3,y4⟩:=X7.i.K;go_wp2_with (first
  | (go_at_call 107;(with_reducible refine CL.i.g ?_);rintro e w8 ⟨A8,n8,c8,rfl,hn8,ho8,XJ⟩;have R8:=ab (fU.iQ ho8);have P8:=ab (O7.i.go XJ);have LN:=ab (show(lb++fb).a+n8<=1000000000 by rw[aR];have:=LB.i;have:=LF.i;have:=LL.i;omega);clear hn8 ho8 XJ)
  | (at_builtin;refine kE rfl (.a 85) (.a 93) rfl rfl P8.i rfl R8.i LN.i ?_;intro A9 n9 c9 w9 h8 h9;have O9:=ab h8;clear h8 h9))
 go_ret;rw[HM.i];have ho:=O9.i;obtain⟨A',c',e9⟩:=jE ho.vB;obtain⟨e9,_⟩:=e9;injection e9 with e9 e10 e11
 refine⟨_,_,_,rfl,e10,?_,W6.i.trans (ho.O.g (by have:=S1.i;omega))⟩;have h:=iI ho.vB (show w.a.j<=w1.a.j by have:=S1.i;omega);rw[<-e10]at h;exact h
def Ki(b:Nat):Cn:={anY with qH:=some ⟨b,0,none⟩,iK:=1,qI:=1}
theorem aq1(w:ak)(fs:Array Field)(h:ah.underlying 27=some (.struct fs)):(iy (fun f=>Prod.mk f.Y <$> sizeOf f.type) fs:Sem (Array (Nat×Nat))).I ah w = .Z #[(0,1),(1,16)] w:=by
 have e:=fB;rw[h]at e;cases e;show _=_
 kernel_rfl
theorem aq2(W:ak):(uH 27 #[(1,.d #[aI aW 5,aI aW 6,aI aW 7,aI aW 8,aI aW 0,aI aW 0,aI aW 0,aI aW 0,aI aW 0,aI aW 0,aI aW 0,aI aW 0,aI aW 0,aI aW 0,aI aW 0,aI aW 0])]).I ah W = .Z (.d (uY [5,6,7,8]).ay) W:=aaQ.bd W _ _ _ _ fB (aq1 W _ fB) (by kernel_rfl)
theorem aq3(W:ak):(uH 27 #[(1,.d #[aI aW 1,aI aW 2,aI aW 3,aI aW 4,aI aW 0,aI aW 0,aI aW 0,aI aW 0,aI aW 0,aI aW 0,aI aW 0,aI aW 0,aI aW 0,aI aW 0,aI aW 0,aI aW 0])]).I ah W = .Z (.d (uY [1,2,3,4]).ay) W:=aaQ.bd W _ _ _ _ fB (aq1 W _ fB) (by kernel_rfl)
theorem aq4(W:ak):(uH 27 #[(1,.d #[aI aW 10,aI aW 0,aI aW 0,aI aW 9,aI aW 0,aI aW 0,aI aW 0,aI aW 0,aI aW 0,aI aW 0,aI aW 0,aI aW 0,aI aW 0,aI aW 0,aI aW 0,aI aW 0])]).I ah W = .Z (.d (uY [10,0,0,9]).ay) W:=aaQ.bd W _ _ _ _ fB (aq1 W _ fB) (by kernel_rfl)
def asw(n:Nat)(ps:Array (Nat×aB)):Sem aB:=bJ 23 n ps
@[go_sem ↓]theorem azW(n:Nat)(ps:Array (Nat×aB)):bJ 23 n ps=asw n ps:=rfl
@[go_sem]theorem avy(W:ak)(v:Vp):(asw 1 #[(0,.d v.ay)]).I ah W = .Z (.a (some ⟨W.a.j,0,none⟩) 1 1) (W.alloc (.D v.ay 98)):=by
 obtain⟨i0,hi0,hz0,hz1,hzb⟩:=anN;exact rP W _ _ i0 (.d oq.ay) 20 Tryz.underlying23 hi0 hz0 hz1 (Vp.G oq) (by omega) (by omega) v.ay (Vp.G v)
theorem azX(W:ak):(uH 98 #[(0,.d (uY [5,6,7,8]).ay),(1,.b .a 6),(2,.b .a 80)]).I ah W = .Z (.d Hf.ay) W:=kVp.bd W _ _ _ _ rW (axN W _ rW) (by kernel_rfl)
theorem azY(W:ak):(uH 27 #[(0,.e true)]).I ah W = .Z (.d (fC.mk true (bG 16 0)).ay) W:=aaQ.bd W _ _ _ _ fB (aq1 W _ fB) (by kernel_rfl)
theorem Cn.an0(x:Cn)(v:Int):x.ay.b 1 (.b .a v)=({x with j:=v}:Cn).ay:=by simp[Cn.ay,aM,fC.G,gI,jJ]
theorem Cn.an1(x:Cn)(v:Int):x.ay.b 2 (.b .a v)=({x with dU:=v}:Cn).ay:=by simp[Cn.ay,aM,fC.G,gI,jJ]
theorem Cn.an2(x:Cn)(v:Int):x.ay.b 9 (.b .a v)=({x with kC:=v}:Cn).ay:=by simp[Cn.ay,aM,fC.G,gI,jJ]
theorem Cn.an3(x:Cn)(v:Int):x.ay.b 10 (.b .a v)=({x with X:=v}:Cn).ay:=by simp[Cn.ay,aM,fC.G,gI,jJ]
theorem Cn.an4(x:Cn)(v:Int):x.ay.b 51 (.b .a v)=({x with afC:=v}:Cn).ay:=by simp[Cn.ay,aM,fC.G,gI,jJ]
theorem Cn.an5(x:Cn)(v:Int):x.ay.b 52 (.b .a v)=({x with keep:=v}:Cn).ay:=by simp[Cn.ay,aM,fC.G,gI,jJ]
theorem Cn.akl(x:Cn)(v:Int):x.ay.b 53 (.b .a v)=({x with Vv:=v}:Cn).ay:=by simp[Cn.ay,aM,fC.G,gI,jJ]
theorem Cn.an6(x:Cn)(v:Vector Int 6):sw x.ay 3 (J8 v)=({x with kF:=v}:Cn).ay:=by
 unfold Cn.ay;exact qL (by rw[jJ,jJ]) 3 rfl
theorem Cn.aq5(x:Cn)(v:fC):sw x.ay 34 v.ay=({x with h:=v}:Cn).ay:=by
 unfold Cn.ay;have:=qL (p:=#[.a x.qH x.iK x.qI,.b .a x.j,.b .a x.dU]++J8 x.kF ++ #[.b .a x.kC,.b .a x.X]++Ap x.AJ++x.Ck.ay) (q:=x.h.ay) (r:=#[.b .a x.afC,.b .a x.keep,.b .a x.Vv]) (v:=v.ay) (by rw[fC.G,fC.G]) 34 (by simp[fC.G,gI,jJ]);simpa[Array.append_assoc]using this
def avz:Vector Int 6:=DT fun i=>if i.val=0 then 0 else 5
theorem an7:J8 avz = #[aI bR 0,aI bR 5,aI bR 5,aI bR 5,aI bR 5,aI bR 5]:=by kernel_rfl
theorem azZ(W:ak)(b:Nat):(uH 29 #[(0,.a (some ⟨b,0,none⟩) 1 1),(1,.b .a 7),(2,.b .a 9),(3,.d #[aI bR 0,aI bR 5,aI bR 5,aI bR 5,aI bR 5,aI bR 5]),(4,.b .a 1),(5,.b .a 1),(8,.d (fC.mk true (bG 16 0)).ay),(9,.b .a 1000),(10,.b .a 2),(11,.b .a 5)]).I ah W = .Z (.d (Ki b).ay) W:=Vw.bd W _ _ _ _ mW (atL W _ mW) (by
 rw[<-an7];refine(iq rfl rfl (by rw[Cn.G];omega) (Cn.Nh Ql _ _ _)).trans ?_;refine(iq rfl rfl (by rw[Cn.G];omega) (Cn.an0 _ _)).trans ?_;refine(iq rfl rfl (by rw[Cn.G];omega) (Cn.an1 _ _)).trans ?_;refine(sI rfl (jJ _) (by rw[Cn.G];omega) (Cn.an6 _ _)).trans ?_;refine(iq rfl rfl (by rw[Cn.G];omega) (Cn.an2 _ _)).trans ?_;refine(iq rfl rfl (by rw[Cn.G];omega) (Cn.an3 _ _)).trans ?_;refine(sI rfl (fC.G _) (by rw[Cn.G];omega) (Cn.aq5 _ _)).trans ?_;refine(iq rfl rfl (by rw[Cn.G];omega) (Cn.an4 _ _)).trans ?_;refine(iq rfl rfl (by rw[Cn.G];omega) (Cn.an5 _ _)).trans ?_;refine(iq rfl rfl (by rw[Cn.G];omega) (Cn.akl _ _)).trans ?_;rfl)
theorem aeh(w:ak):aP ah 39 #[] w fun e w'=>∃b,e=.a (.d (Ki b).ay)/\iJ Vp.ay 20 w' w'.a.j (some ⟨b,0,none⟩) 1 [Hf]/\dK w' b Hf.ay/\w.a.j<=b/\aL w.a.j w w':=by
 have b1:=aq2;have b2:=azX;have b5:=azY;have b6:=azZ;obtain⟨V,hV⟩:=tN Hf;obtain⟨C,hC⟩:=tN Ki;obtain⟨D,hD⟩:=tN (uY [5,6,7,8]);obtain⟨X6,hX⟩:∃D,(fC.mk true (bG 16 0))=D:=⟨_,rfl⟩
 rw[hV]at b2 ⊢;rw[hC]at b6 ⊢;rw[hD]at b1 b2;rw[hX]at b5 b6;clear hV hC hD hX;have Z0:=ab ((Bx.start w).new Ql.ay 29);go_enter Tryz.func39,Tryz.ntmps39;go_upto_region 1 with fail
 generalize w.alloc (.D Ql.ay 29)=w0 at Z0 ⊢;have Z1:=ab (Z0.i.new V.ay 98);go_upto_region 2 with fail
 generalize w0.alloc (.D V.ay 98)=w1 at Z1 ⊢;have NP:=ab (show w0.a.j≠w.a.j by have:=Z0.i.S.lt;omega);have SZ1:=ab Z1.i.b1.lt;generalize w0.a.j=p at Z1 NP ⊢;have Z2:=ab (Z1.i.alloc (.D V.ay 98));have R2:=ab (iJ.one V Vp.G w1 98);obtain⟨x1,x2,x3,x4⟩:=Z1.i.S.K;have th:=Z2.i.b1.M 0 54 (aX (Cn.G Ql).symm);have Z3:=ab (Z2.i.swap.put (fun r hr=>by rw[fG.1 hr];exact NP.i) (C w1.a.j).ay (by rw[Cn.G,Cn.G]));have R3:=ab (R2.i.keep (yt _ w.a.j 0 (C w1.a.j).ay) (fun b hb=>by have:=SZ1.i;simp[tF]at hb;subst hb;simp;omega));go_wp2_with fail;refine aN (Vw.yV rfl _ rfl Z3.i.S (Cn.G _)) rfl ?_;exact⟨_,rfl,R3.i,(yt _ w.a.j 0 (C w1.a.j).ay).box (dK.new w1 V.ay 98) (by have:=SZ1.i;simp;omega),by have:=SZ1.i;omega,Z3.i.R⟩
theorem kAt:oO 66 34 qE.ay:=⟨⟨_,lK,rfl⟩,by kernel_rfl,by kernel_rfl,At.G _⟩
theorem qO.abH(k:Int)(y:Bk)(s:List UInt8)(v:Nat):(qO.mk k y s v).ay = #[.b .a k]++(y.ay ++ #[.g (bT s),fv v]):=by apply Gn.1;simp[qO.ay]
theorem qO.cO(x:qO):x.ay.all (·.oneCell')=true:=by
 obtain⟨k,y,s,v⟩:=x;rw[qO.abH];exact gW (by simp[cZ]) (gW (Bk.cO _) (by simp[cZ,fv]))
theorem At.cO(x:At):x.ay.all (·.oneCell')=true:=gW (by simp[cZ]) (gW (qO.cO _) (by simp[cZ]))
@[go_sem]theorem At.all(x:At):x.ay.extract 0 34=x.ay:=by have:=At.G x;rw[<-this];simp
@[go_sem ↓]theorem aLv(v:aB):Instr.loadAt 66 v=xI 66 v:=rfl
@[go_sem ↓]theorem aLw(v x:aB):eD 66 v x=yU 66 v x:=rfl
@[go_sem]theorem az0(W:ak)(b o:Nat)(h:vw W b o 34):(xI 66 (.c (some ⟨b,o,none⟩))).I ah W = .Z (.d (dM W b o 34)) W:=kAt.ld W b o h
@[go_sem]theorem aE8(W:ak)(c:Array aB)(x:At)(b:Nat)(hb:b=W.a.j)(hc:dY c=34):(yU 66 (.c (some ⟨b,0,none⟩)) (.d x.ay)).I ah (W.alloc (.D c 66)) = .Z () (W.alloc (.D x.ay 66)):=kAt.stN W c x.ay b hb hc (At.G x) (At.cO x)
@[go_sem ↓]theorem aLx(ps:Array (Nat×aB)):fM 66 ps=uH 66 ps:=rfl
theorem aq6(w:ak)(fs:Array Field)(h:ah.underlying 66=some (.struct fs)):(iy (fun f=>Prod.mk f.Y <$> sizeOf f.type) fs:Sem (Array (Nat×Nat))).I ah w = .Z #[(0,1),(1,1),(2,30),(32,1),(33,1)] w:=by
 have e:=lK;rw[h]at e;cases e;show _=_
 kernel_rfl
theorem At.Eu(x:At)(v:Int):x.ay.b 0 (.b .a v)=({x with kind:=v}:At).ay:=by simp[At.ay,aM]
theorem At.avA(x:At)(A:Option aT)(n c:Nat):x.ay.b 1 (.a A n c)=({x with XH:=A,Ov:=n,LZ:=c}:At).ay:=by simp[At.ay,aM]
theorem At.an8(x:At)(s:List UInt8):x.ay.b 32 (.g (bT s))=({x with E:=s}:At).ay:=by simp[At.ay,aM,qO.G]
theorem At.avB(x:At)(v:qO):sw x.ay 2 v.ay=({x with op:=v}:At).ay:=by
 unfold At.ay;exact qL (by rw[qO.G,qO.G]) 2 rfl
@[go_sem]theorem aE9(W:ak)(k:Int):(uH 66 #[(0,.b .a k)]).I ah W = .Z (.d ({qE with kind:=k}:At).ay) W:=kAt.bd W _ _ _ _ lK (aq6 W _ lK) (by
 refine(iq rfl rfl (by rw[At.G];omega) (At.Eu qE _)).trans ?_;rfl)
@[go_sem]theorem aE'(W:ak)(k:Int)(A:Option aT)(n c:Nat):(uH 66 #[(0,.b .a k),(1,.a A n c)]).I ah W = .Z (.d ({qE with kind:=k,XH:=A,Ov:=n,LZ:=c}:At).ay) W:=kAt.bd W _ _ _ _ lK (aq6 W _ lK) (by
 refine(iq rfl rfl (by rw[At.G];omega) (At.Eu qE _)).trans ?_;refine(iq rfl rfl (by rw[At.G];omega) (At.avA _ _ _ _)).trans ?_;rfl)
@[go_sem]theorem aFa(W:ak)(k:Int)(o:qO):(uH 66 #[(0,.b .a k),(2,.d o.ay)]).I ah W = .Z (.d ({qE with kind:=k,op:=o}:At).ay) W:=kAt.bd W _ _ _ _ lK (aq6 W _ lK) (by
 refine(iq rfl rfl (by rw[At.G];omega) (At.Eu qE _)).trans ?_;refine(sI rfl (qO.G _) (by rw[At.G];omega) (At.avB _ _)).trans ?_;rfl)
@[go_sem]theorem aFb(W:ak)(k:Int)(s:List UInt8):(uH 66 #[(0,.b .a k),(3,.g (bT s))]).I ah W = .Z (.d ({qE with kind:=k,E:=s}:At).ay) W:=kAt.bd W _ _ _ _ lK (aq6 W _ lK) (by
 refine(iq rfl rfl (by rw[At.G];omega) (At.Eu qE _)).trans ?_;refine(iq rfl rfl (by rw[At.G];omega) (At.an8 _ _)).trans ?_;rfl)
def Zr:qO:=⟨0,jg,[],0⟩
theorem aFc:oO 64 30 Zr.ay:=⟨⟨_,uZ,rfl⟩,by kernel_rfl,by kernel_rfl,qO.G _⟩
theorem az1(w:ak)(fs:Array Field)(h:ah.underlying 64=some (.struct fs)):(iy (fun f=>Prod.mk f.Y <$> sizeOf f.type) fs:Sem (Array (Nat×Nat))).I ah w = .Z #[(0,1),(1,27),(28,1),(29,1)] w:=by
 have e:=uZ;rw[h]at e;cases e;show _=_
 kernel_rfl
theorem az2(W:ak):(axr #[(0,.g ⟨#[97]⟩),(1,.d (uY [10,0,0,9]).ay),(2,.b .a 8080),(4,.float .f64 4607182418800017408)]).I ah W = .Z (.d aki.ay) W:=kBk.bd W _ _ _ _ nY (aiS W _ nY) (by kernel_rfl)
@[go_sem ↓]theorem aHI(ps:Array (Nat×aB)):fM 64 ps=uH 64 ps:=rfl
@[go_sem]theorem aBx(W:ak)(k:Int)(x:Bk):(uH 64 #[(0,.b .a k),(1,.d x.ay)]).I ah W = .Z (.d (qO.mk k x [] 0).ay) W:=aFc.bd W _ _ _ _ uZ (az1 W _ uZ) (by
 refine(iq rfl rfl (by rw[qO.G];omega) (show Zr.ay.b 0 (.b .a k)=({Zr with kind:=k}:qO).ay by simp[qO.ay,Zr])).trans ?_;refine(sI rfl (Bk.G _) (by rw[qO.G];omega) (show sw ({Zr with kind:=k}:qO).ay 1 x.ay=(qO.mk k x [] 0).ay by
  have:=qL (p:=#[.b .a k]) (q:=jg.ay) (r:=#[.g (bT []),fv 0]) (v:=x.ay) (by rw[Bk.G,Bk.G]) 1 rfl;show sw (qO.mk k jg [] 0).ay 1 x.ay=_;rw[qO.abH,qO.abH];exact this)).trans ?_
 rfl)
structure Aw(w0 W:ak)(q q2 g:Nat)(L:List (Nat×Array aB)):Prop where
 R:aL w0.a.j w0 W
 new:w0.a.j<=q/\w0.a.j<=q2/\w0.a.j<=g
 lt:q<W.a.j/\q2<W.a.j/\g<W.a.j
 G:∀p∈L,w0.a.j<=p.1/\p.1∉[q,q2,g]/\dK W p.1 p.2
section
variable {w0 W W':ak} {q q2 g:Nat} {L:List (Nat×Array aB)}
theorem Aw.go(h:Aw w0 W q q2 g L)(hb:aL W.a.j W W'):Aw w0 W' q q2 g L:=⟨h.R.trans (hb.g h.R.j),h.new,by have:=h.lt;have:=hb.j;omega,fun p hp=>⟨(h.G p hp).1,(h.G p hp).2.1,(h.G p hp).2.2.go hb⟩⟩
theorem Aw.step(h:Aw w0 W q q2 g L)(hf:jC [q,q2,g] W W'):Aw w0 W' q q2 g L:=⟨h.R.trans (hf.qG (fun b hb=>by have:=h.new;simp at hb;omega) h.R.j),h.new,by have:=h.lt;have:=hf.j;omega,fun p hp=>⟨(h.G p hp).1,(h.G p hp).2.1,hf.box (h.G p hp).2.2 (h.G p hp).2.1⟩⟩
theorem Aw.add(h:Aw w0 W q q2 g L)(c:Array aB)(t:bF):Aw w0 (W.alloc (.D c t)) q q2 g ((W.a.j,c)::L):=by
 have h1:=h.go ((aG W.a.j W).alloc (av _) (.D c t));refine⟨h1.R,h1.new,h1.lt,fun p hp=>?_⟩;rcases bg.1 hp with rfl|hp
 ·exact⟨h.R.j,by have:=h.lt;simp;omega,dK.new W c t⟩
 ·exact h1.G p hp
theorem Aw.box(h:Aw w0 W q q2 g L){p:Nat×Array aB}(hp:p∈L):dK W p.1 p.2:=(h.G p hp).2.2
def AwP(w0 W:ak)(q q2 g:Nat)(L:List (Nat×Array aB))(R:pY×Ou)(r:lq)(W':ak):Prop:=
 ∃o x' sl',r=.a (.d (Oc.ay o))/\Aw w0 W' q q2 g L/\yN W' q yG R.1 x' q2 g sl'/\OcR W' o R.2/\(∀b∈tF o.Oe,b∉[q,q2,g])/\jC [q,q2,g] W W'
theorem Ay{s:pY}{x:Eg}{sl:List (Option Fw)}{M:Int}(A:Aw w0 W q q2 g L)(h:yN W q yG s x q2 g sl)(hi:nR M yG s)(hM:M<1152921504606846976)(a:At)(u:Ac)(ha:AtR W a u)(hof:u.op.X.pJ)(how:u.op.w<18446744073709551616)(R:pY×Ou)(hR:nO yG s u=R):
 aP ah 25 #[.c (some ⟨q,0,none⟩),.d a.ay] W (AwP w0 W q q2 g L R):=by
 subst hR;refine(WS h hi hM a u ha hof how).g ?_;rintro r W' ⟨o,x',sl',rfl,hou,hE,_,_,hf⟩;exact⟨o,x',sl',rfl,A.step hf,hE,hou.rd,fun b hb=>by have:=(iH hou.vB b hb).1;have:=A.lt;simp;omega,hf⟩
theorem yN.aFd{key:Vector UInt8 16}{c:Cn}{vs:List Vp}{s:pY}{x:Eg}{sl:List (Option Fw)}{A:Option aT}{n k:Nat}(h:yN W q ⟨key,{c with qH:=A,iK:=n,qI:=k},vs⟩ s x q2 g sl):yN W q ⟨key,c,vs⟩ s x q2 g sl:=
 ⟨⟨h.b.eg,h.b.key,h.b.cf,h.b.kT,h.b.vs,h.b.X,h.b.hl,h.b.fl,h.b.h,h.b.rm,h.b.nq,h.b.EF,h.b.fQ,h.b.no,h.b.ji⟩,h.dn,h.tt⟩
end
theorem ahV(c:Cn)(vs:List Vp)(A:Option aT)(n k:Nat):xX {c with qH:=A,iK:=n,qI:=k} vs=xX c vs:=by unfold xX;rfl
theorem aei(c:Cn)(vs:List Vp)(s:pY)(A:Option aT)(n k:Nat):ze {c with qH:=A,iK:=n,qI:=k} vs s=ze c vs s:=by unfold ze Wh;rw[ahV];rfl
theorem akm:xX Ql []=false:=by decide +kernel
theorem r9:jg.pJ:=by unfold Bk.pJ;simp[jg]
theorem ahW:aki.pJ:=by unfold Bk.pJ;simp[aki]
theorem az3:mk6 (Tu.mk (uY [1,2,3,4]) (uY [5,6,7,8]) 6 1000 80) [104,105]=awF:=by decide +kernel
theorem avC:mk6 (Tu.mk (uY [1,2,3,4]) (uY [10,0,0,9]) 6 1000 8080) [104,105]=awW:=by decide +kernel
theorem avD:(I5 6 (wW (abG (Tu.mk (uY [1,2,3,4]) (uY [5,6,7,8]) 6 1000 80) [104,105]))).1.dz=((20+2:Nat):Int):=by decide +kernel
theorem aq7:(I5 6 (wW (abG (Tu.mk (uY [1,2,3,4]) (uY [10,0,0,9]) 6 1000 8080) [104,105]))).1.dz=((20+2:Nat):Int):=by decide +kernel
theorem avE:jd (qd 16 [1]) = #[aI aW 1,aI aW 0,aI aW 0,aI aW 0,aI aW 0,aI aW 0,aI aW 0,aI aW 0,aI aW 0,aI aW 0,aI aW 0,aI aW 0,aI aW 0,aI aW 0,aI aW 0,aI aW 0]:=by kernel_rfl
theorem asx:nR 0 yG uL:=Qv _ asu
theorem asz:nR 1 yG aw0.1:=uW asx acF r9 (by decide)
theorem asA:nR 2 yG aw1.1:=uW asz acA ahW (by decide)
theorem asB:nR 3 yG aw2.1:=uW asA acF r9 (by decide)
theorem asC:nR 4 yG aw3.1:=uW asB acF r9 (by decide)
theorem asD:nR 5 yG aw4.1:=uW asC (acH [98]) r9 (by decide)
theorem asE:nR 6 yG aw5.1:=uW asD (acH [97]) r9 (by decide)
theorem asF:nR 7 yG aw6.1:=uW asE acF r9 (by decide)
theorem asG:nR 8 yG aw7.1:=uW asF (acK 4) r9 (by decide)
theorem asH:nR 9 yG Ua.1:=uW asG (acK 9) r9 (by decide)
section
variable {w0 W W':ak} {q q2 g b b' p n B:Nat} {c c':Array aB} {A:Option aT} {l:List UInt8} {L L':List (Nat×Array aB)}
theorem dK.az4(h:dK W b c)(k:dK W b c'):c=c':=by
 obtain⟨t,h⟩:=h;obtain⟨t',k⟩:=k;rw[h]at k;injection k with k
 injection k
theorem dK.ne(h:dK W b c)(k:dK W b' c')(hs:c.j≠c'.j):b≠b':=by
 rintro rfl;exact hs (by rw[h.az4 k])
theorem fU.far(h:fU W B A n l)(k:dK W p c)(hn:c.j<n):∀y∈tF A,y∉[p]:=by
 intro y hy hp;obtain⟨a,rfl,_,hc⟩:=fU.fI h (k:=n-1) (by omega);obtain⟨t,hk⟩:=k;simp[tF]at hy hp;subst hp;rw[hy]at hk;unfold World.cell? at hc;rw[show(a.add (n-1)).block=a.block by unfold qy;split<;>rfl,hk]at hc;simp only at hc;split at hc
 ·cases hc
 ·have h1:=(Array.getElem?_eq_some_iff.1 hc).1
  have h2:n-1<=(a.add (n-1)).off:=by
   unfold qy;split<;>simp<;>omega
  omega
theorem Aw.put(h:Aw w0 W q q2 g L)(hf:jC [p] W W')(hb:dK W' p c')(hc:(p,c)∈L)(hL:∀y∈L',y∈L/\y.2.j≠c.j):Aw w0 W' q q2 g ((p,c')::L'):=by
 refine⟨h.R.trans (hf.qG (fun y hy=>by rw[fG.1 hy];exact(h.G _ hc).1) h.R.j),h.new,by have:=h.lt;have:=hf.j;omega,fun y hy=>?_⟩;rcases bg.1 hy with rfl|hy
 ·exact⟨(h.G _ hc).1,(h.G _ hc).2.1,hb⟩
 ·obtain⟨h1,h2⟩:=hL y hy
  refine⟨(h.G _ h1).1,(h.G _ h1).2.1,hf.box (h.G _ h1).2.2 (fun e=>h2 ?_)⟩;rw[fG]at e;obtain⟨y1,y2⟩:=y;simp only at e;subst e;rw[dK.az4 (h.G _ h1).2.2 (h.G _ hc).2.2]
theorem iJ.az5{α:Type}{f:α->Array aB}{sz:Nat}{A:Option aT}{W W':ak}{B B':Nat}{l:List α}(h:iJ f sz W B A n l)(hl:l.a=0):iJ f sz W' B' A n l:=by
 have e:=bE hl;subst e;have h1:=h.1;have h2:=h.2.1.1;refine⟨h.1,⟨h2,fun hn=>?_⟩,fun a ha hn=>?_⟩
 ·simp at h1;omega
 ·simp at h1;omega
theorem iJ.aq8{α:Type}{f:α->Array aB}{sz:Nat}{x:α}{W:ak}{b:Nat}(h:dK W b (f x))(hs:(f x).j=sz):iJ f sz W W.a.j (some ⟨b,0,none⟩) 1 [x]:=by
 refine⟨rfl,⟨by simp[hs],fun _=>⟨_,rfl,h.lt,fun j u hu=>?_⟩⟩,fun a ha _=>by injection ha with ha;subst ha;rfl⟩;rw[iC,bB,h.K.1];simpa[dD]using hu
structure TbQ(W:ak)(q:Nat)(x:Eg)(t:Tl):Prop where
 b:dK W q x.ay
 n:RdT W W.a.j x.h.sJ x.h.ru t.h
 s:RdI W W.a.j x.h.qM x.h.pX t.uy
theorem TbQ.go{x:Eg}{t:Tl}(h:TbQ W q x t)(hb:aL W.a.j W W'):TbQ W' q x t:=⟨h.b.go hb,h.n.go hb,h.s.go hb⟩
end
@[go_sem]theorem aou(W:ak)(A1:Option aT)(n1 c1:Nat)(A2:Option aT)(n2 c2:Nat):(Instr.field 72 (.d (Tc.mk A1 n1 c1 A2 n2 c2).ay) 1).I ah W = .Z (.a A2 n2 c2) W:=by
 show _=_
 kernel_rfl
theorem BM{W:ak}{b:Nat}{x:Sh}(h:dK W b x.ay):(Lh (.c (some ⟨b,0,none⟩))).I ah W = .Z (.d x.ay) W:=kSh.nC h (Sh.G _)
theorem aFe:Ua.1.ji.a.c 8 0=2:=by decide +kernel
theorem avF:Ua.1.X.a<=9/\Ua.1.h.a<=9/\Ua.1.G.a<=9:=by decide +kernel
theorem aFf:ze anY [Hf] Ua.1=true:=by decide +kernel
theorem az7:(zM yG Ua.1).h.a=0:=by decide +kernel
@[go_sem]theorem avG:Obj.cells #[aI bR 0,Value.slice none 0 0,aI bR 0,iB {data:=#[]},bM false,aI aW 0,aI aW 0,aI aW 0,aI aW 0,aI aW 0,aI aW 0,aI aW 0,aI aW 0,aI aW 0,aI aW 0,aI aW 0,aI aW 0,aI aW 0,aI aW 0,aI aW 0,aI aW 0,aI bR 0,aI aW 0,aI aW 0,aI aW 0,aI aW 0,aI aW 0,aI aW 0,vH jX 0,bM false,iB {data:=#[]},vH jX 0,iB {data:=#[]},bM false] 66=Obj.cells qE.ay 66:=by kernel_rfl
theorem fU.ku{W W' W2:ak}{A:Option aT}{n:Nat}{l:List UInt8}{F:List Nat}(h:fU W W.a.j A n l)(hf:jC F W W')(hn:∀b∈tF A,b∉F)(hb:aL W'.a.j W' W2):fU W2 W2.a.j A n l:=fU.upon (Od h (av _) hf hn:fU W' W'.a.j A n l) hb
theorem OcR.all{W:ak}{o:Oc}{u:Ou}(h:OcR W o u):o.err=u.err/\o.h=u.h/\o.xE=u.xE/\o.kT=u.kT/\o.E=u.E:=⟨h.err,h.h,h.xE,h.kT,h.E⟩
theorem an9(w:ak)(c:Array aB)(l:List UInt8)(h:c.a=l.map bv)(m:Nat×Nat):fU (w.alloc (.D c 5 m)) (w.alloc (.D c 5 m)).a.j (some ⟨w.a.j,0,none⟩) l.a l:=by
 refine⟨by simp,fun _=>⟨_,rfl,by simp,fun j u hu=>?_⟩⟩;rw[iC,bB,cell_of_row _ _ _ _ _ _ (heap_alloc_new w (.D c 5 m)),<-hu,<-h,dD]
theorem asI(w:ak):(convert 56 56 (.a (some ⟨w.a.j,0,none⟩) 2 2)).I ah (w.alloc (.D #[.b .b 104,.b .b 105] 5)) = .Z (.a (some ⟨w.a.j,0,none⟩) 2 2) (w.alloc (.D #[.b .b 104,.b .b 105] 5 (2,3))):=Lib.run_convert_bytes_const (P:=ah) w 56 5 #[.b .b 104,.b .b 105] 2 2 cu lC
theorem zN(w:ak):aP ah 12 #[] w (gD w (.e true)):=by
 have CPL:=ab (aeh w);have CN:=ab (fun(W:ak) (b:Nat) (hV:iJ Vp.ay 20 W W.a.j (some ⟨b,0,none⟩) 1 [Hf])=>Zp (qd 16 [1]) (Ki b) [Hf] W hV (show 1<=1 by omega) (show 1<=100000 by omega) (by unfold Ki;rw[ahV];exact asu));have C0:=ab (fun(W:ak)=>anU (qd 16 [1]) Ql [] W (iJ.nil _ _) (show 0<=0 by omega) (show 0<=100000 by omega) akm);have CM:=ab (fun(W:ak) (A:Option aT) (c:Nat) (hr:fU W W.a.j A 2 [104,105])=>Oi (Tu.mk (uY [1,2,3,4]) (uY [5,6,7,8]) 6 1000 80) rfl rfl (by simp) (by simp) (by simp) (by simp) W A 2 c [104,105] (by omega) hr avD);have CM2:=ab (fun(W:ak) (A:Option aT) (c:Nat) (hr:fU W W.a.j A 2 [104,105])=>Oi (Tu.mk (uY [1,2,3,4]) (uY [10,0,0,9]) 6 1000 8080) rfl rfl (by simp) (by simp) (by simp) (by simp) W A 2 c [104,105] (by omega) hr aq7);have NF0:=ab (show awF.a=56 from rfl);obtain⟨FF,hFF⟩:∃x,awF=x:=⟨_,rfl⟩
 obtain⟨WW,hWW⟩:∃x,awW=x:=⟨_,rfl⟩
 have ER:=ab hFF;have HWW:=ab hWW;rw[az3,hFF]at CM;rw[avC,hWW]at CM2;rw[hFF]at NF0;clear hFF hWW;rw[avE]at CN C0;have b1:=aq3;have b9:=aq4;have bk:=az2;obtain⟨D1,hD1⟩:∃d,uY [1,2,3,4]=d:=⟨_,rfl⟩
 obtain⟨D9,hD9⟩:∃d,uY [10,0,0,9]=d:=⟨_,rfl⟩
 obtain⟨D5,hD5⟩:∃d,uY [5,6,7,8]=d:=⟨_,rfl⟩
 rw[hD1]at b1 CM CM2;rw[hD9]at b9 bk CM2;rw[hD5]at CM;have HV5:=ab (show Hf.ay.extract 0 17=D5.ay by rw[<-hD5];rfl);clear hD1 hD9 hD5;go_enter Tryz.func12,Tryz.ntmps12;go_upto_region 2 with(go_at_call 39;(with_reducible refine CPL.i.g ?_);rintro e w1 ⟨b,rfl,hv,hvb,hb0,hb⟩;have HV:=ab hv;have VB:=ab hvb;have HB0:=ab hb0;have Z1:=ab ((Bx.start w).go hb);clear hv hvb hb hb0)
 have Z2:=ab (Z1.i.new (Ki b).ay 29);have V2:=ab (HV.i.go ((aG w1.a.j w1).alloc (av _) (.D (Ki b).ay 29)));have VB2:=ab (VB.i.alloc (.D (Ki b).ay 29));have SB:=ab VB.i.lt;generalize w1.alloc (.D (Ki b).ay 29)=w2 at Z2 V2 VB2 ⊢;have HP1:=ab (show w.a.j<=w1.a.j from Z1.i.R.j);generalize w1.a.j=p1 at Z2 SB HP1 ⊢;clear CPL HV VB Z1;have l1:=Vw.nC Z2.i.S (Cn.G _);unfold Oh at CN;go_upto_region 3 with(go_at_call 23;(with_reducible refine(CN.i _ b V2.i).g ?_);rintro e w3 ⟨q,x,q2,g,sl,rfl,hE,hb3,hq,hrw⟩;have E3:=ab (yN.aFd hE);have Z3:=ab (Z2.i.go hb3);have V3:=ab (V2.i.go hb3);have VB3:=ab (VB2.i.go hb3);have HQ:=ab hq;have S3:=ab hb3.j;clear hE hb3 hq hrw)
 clear l1;go_upto_region 4 with(go_at_call 23;(with_reducible refine(C0.i _).g ?_);rintro e w4 ⟨rfl,hb4⟩;have E4:=ab (E3.i.go hb4);have Z4:=ab (Z3.i.go hb4);have V4:=ab (V3.i.go hb4);have VB4:=ab (VB3.i.go hb4);have S4:=ab hb4.j;clear hb4)
 have A4:=ab (show Aw w w4 q q2 g [(p1,(Ki b).ay),(b,Hf.ay)]from⟨Z4.i.R,by have:=HQ.i;have:=Z2.i.R.j;omega,E4.i.b.lt,fun p hp=>by
  have hq:=HQ.i;have h1:=Z2.i.S.lt;have h2:=VB2.i.lt;have h3:=HP1.i;have h4:=HB0.i;simp at hp;rcases hp with rfl|rfl
  ·exact⟨h3,by simp;omega,Z4.i.S⟩
  ·exact⟨h4,by simp;omega,VB4.i⟩⟩)
 clear Z2 Z3 Z4 V2 V3 VB2 VB3 VB4 E3 HB0 SB CN C0;go_upto_region 6 with fail
 have fv:=((A4.i.box (p:=(p1,(Ki b).ay)) (by simp)).K.1 0).trans (Cn.JN (Ki b));change w4.b ⟨p1,0,none⟩=some (.a (some ⟨b,0,none⟩) 1 1)at fv;have la:=(A4.i.box (p:=(b,Hf.ay)) (by simp)).Rq (o:=0) HV5.i (by rw[Vp.G];omega);go_upto_region 7 with fail
 have A5:=ab (A4.i.add (Tu.mk D1 D5 6 1000 80).ay 81);have E5:=ab (E4.i.go ((aG w4.a.j w4).alloc (av _) (.D (Tu.mk D1 D5 6 1000 80).ay 81)));generalize w4.alloc (.D (Tu.mk D1 D5 6 1000 80).ay 81)=w5 at A5 E5 ⊢;generalize w4.a.j=p6 at A5 ⊢;clear fv la A4 E4;have lt5:=pF (A5.i.box (p:=(p6,(Tu.mk D1 D5 6 1000 80).ay)) (by simp));have R5:=ab (an9 w5 #[.b .b 104,.b .b 105] [104,105] rfl (2,3));have B5:=ab ((aG w5.a.j w5).alloc (av _) (.D #[.b .b 104,.b .b 105] 5 (2,3)));have kc:=asI;unfold Kc at CM CM2;go_upto_region 8 with(go_at_call 40;(with_reducible refine(CM.i _ _ 2 R5.i).g ?_);rintro e w6 ⟨FA,fn,fc,rfl,hn,ho,hb⟩;have A6:=ab ((A5.i.go B5.i).go hb);have E6:=ab ((E5.i.go B5.i).go hb);have HN:=ab hn;have HO:=ab ho;clear hn ho hb)
 have RF:=ab (fU.iQ HO.i);have NF:=ab (show∀k∈tF FA,k∉[q,q2,g]from fun k hk=>by have h1:=(iH HO.i k hk).1;have h2:=(A5.i.go B5.i).lt;simp;omega);have LF:=ab (show fn<=fc/\fc<=9223372036854775807/\fn<=1000000 by obtain⟨A9,c9,e9,l1,l2⟩:=jE HO.i;injection e9 with e1 e2 e3;subst e3;refine⟨l1,by unfold maxLen at l2;omega,by have h3:=HN.i;have h4:=NF0.i;omega⟩);clear HN HO;have A7:=ab (A6.i.add ({qE with kind:=1,XH:=FA,Ov:=fn,LZ:=fc}:At).ay 66);have B7:=ab ((aG w6.a.j w6).alloc (av _) (.D ({qE with kind:=1,XH:=FA,Ov:=fn,LZ:=fc}:At).ay 66));have E7:=ab (E6.i.go B7.i);have R7:=ab (RF.i.upon B7.i);generalize w6.alloc (.D ({qE with kind:=1,XH:=FA,Ov:=fn,LZ:=fc}:At).ay 66)=w7 at A7 E7 R7 B7 ⊢;generalize w6.a.j=p7 at A7 ⊢;cases ER.i;clear A5 E5 R5 B5 A6 E6 RF B7 lt5 CM kc;obtain⟨fy1,fy2,fy3,fy4⟩:=(A7.i.box (p:=(p7,({qE with kind:=1,XH:=FA,Ov:=fn,LZ:=fc}:At).ay)) (by simp)).K;have CS:=ab (Ay A7.i E7.i asx (by omega) ({qE with kind:=1,XH:=FA,Ov:=fn,LZ:=fc}:At) acF ⟨rfl,R7.i,LF.i,rfl,rfl,rfl⟩ r9 (by decide) aw0 rfl);unfold AwP at CS;go_upto_region 9 with(go_at_call 25;(with_reducible refine CS.i.g ?_);rintro r v0 ⟨o0,x0,sl0,rfl,h1,h2,h3,h4,h5⟩;have HA:=ab h1;have HE:=ab h2;have HO:=ab h3;have HN0:=ab h4;have HF:=ab h5;clear h1 h2 h3 h4 h5)
 have A8:=ab (HA.i.add o0.ay 58);have BB:=ab ((aG v0.a.j v0).alloc (av _) (.D o0.ay 58));have E8:=ab (HE.i.go BB.i);have R8:=ab (fU.ku R7.i HF.i NF.i BB.i);have O0:=ab (HO.i.go BB.i);generalize v0.alloc (.D o0.ay 58)=u0 at A8 E8 R8 O0 ⊢;generalize v0.a.j=p8 at A8 ⊢;have H0:=ab O0.i.all;clear CS HA HE HO HF BB A7 E7 R7 O0 fy1 fy2 fy3 fy4;have CS:=ab (Ay A8.i E8.i asz (by omega) ({qE with kind:=2,op:=⟨1,aki,[],0⟩}:At) acA ⟨rfl,Jb _,⟨av _,je _,je _⟩,rfl,rfl,rfl⟩ ahW (by decide) aw1 rfl);unfold AwP at CS;obtain⟨BK,hBK⟩:∃x,aki=x:=⟨_,rfl⟩
 rw[hBK]at CS bk;clear hBK;go_upto_region 10 with(go_at_call 25;(with_reducible refine CS.i.g ?_);rintro r v1 ⟨o1,x1,sl1,rfl,h1,h2,h3,h4,h5⟩;have HA:=ab h1;have HE:=ab h2;have HO:=ab h3;have HN1:=ab h4;have HF:=ab h5;clear h1 h2 h3 h4 h5)
 have A9:=ab (HA.i.add o1.ay 58);have BB:=ab ((aG v1.a.j v1).alloc (av _) (.D o1.ay 58));have E9:=ab (HE.i.go BB.i);have R9:=ab (fU.ku R8.i HF.i NF.i BB.i);have O1:=ab (HO.i.go BB.i);generalize v1.alloc (.D o1.ay 58)=u1 at A9 E9 R9 O1 ⊢;generalize v1.a.j=p9 at A9 ⊢;have H1:=ab O1.i.all;clear CS HA HE HO HF BB A8 E8 R8 O1 bk;obtain⟨fy1,fy2,fy3,fy4⟩:=(A9.i.box (p:=(p7,({qE with kind:=1,XH:=FA,Ov:=fn,LZ:=fc}:At).ay)) (by simp)).K;have CS:=ab (Ay A9.i E9.i asA (by omega) ({qE with kind:=1,XH:=FA,Ov:=fn,LZ:=fc}:At) acF ⟨rfl,R9.i,LF.i,rfl,rfl,rfl⟩ r9 (by decide) aw2 rfl);unfold AwP at CS;go_upto_region 11 with(go_at_call 25;(with_reducible refine CS.i.g ?_);rintro r v2 ⟨o2,x2,sl2,rfl,h1,h2,h3,h4,h5⟩;have HA:=ab h1;have HE:=ab h2;have HO:=ab h3;have Qz:=ab h4;have HF:=ab h5;clear h1 h2 h3 h4 h5)
 have A10:=ab (HA.i.add o2.ay 58);have BB:=ab ((aG v2.a.j v2).alloc (av _) (.D o2.ay 58));have E10:=ab (HE.i.go BB.i);have R10:=ab (fU.ku R9.i HF.i NF.i BB.i);have O2:=ab (HO.i.go BB.i);generalize v2.alloc (.D o2.ay 58)=u2 at A10 E10 R10 O2 ⊢;generalize v2.a.j=p10 at A10 ⊢;have H2:=ab O2.i.all;have Q10:=ab (show fU u2 u2.a.j o2.Oe o2.WR awW by have:=O2.i.i;rw[anZ]at this;exact this);clear CS HA HE HO HF BB A9 E9 R9 O2 fy1 fy2 fy3 fy4;obtain⟨fy1,fy2,fy3,fy4⟩:=(A10.i.box (p:=(p7,({qE with kind:=1,XH:=FA,Ov:=fn,LZ:=fc}:At).ay)) (by simp)).K;have CS:=ab (Ay A10.i E10.i asB (by omega) ({qE with kind:=1,XH:=FA,Ov:=fn,LZ:=fc}:At) acF ⟨rfl,R10.i,LF.i,rfl,rfl,rfl⟩ r9 (by decide) aw3 rfl);unfold AwP at CS;go_upto_region 12 with(go_at_call 25;(with_reducible refine CS.i.g ?_);rintro r v3 ⟨o3,x3,sl3,rfl,h1,h2,h3,h4,h5⟩;have HA:=ab h1;have HE:=ab h2;have HO:=ab h3;have HN3:=ab h4;have HF:=ab h5;clear h1 h2 h3 h4 h5)
 have A11:=ab (HA.i.add o3.ay 58);have BB:=ab ((aG v3.a.j v3).alloc (av _) (.D o3.ay 58));have E11:=ab (HE.i.go BB.i);have R11:=ab (fU.ku R10.i HF.i NF.i BB.i);have O3:=ab (HO.i.go BB.i);have Q11:=ab (fU.ku Q10.i HF.i Qz.i BB.i);generalize v3.alloc (.D o3.ay 58)=u3 at A11 E11 R11 O3 Q11 ⊢;generalize v3.a.j=p11 at A11 ⊢;have H3:=ab O3.i.all;clear CS HA HE HO HF BB A10 E10 R10 O3 fy1 fy2 fy3 fy4 Q10;have CS:=ab (Ay A11.i E11.i asC (by omega) ({qE with kind:=3,E:=[98]}:At) (acH [98]) ⟨rfl,Jb _,⟨av _,je _,je _⟩,rfl,rfl,rfl⟩ r9 (by decide) aw4 rfl);unfold AwP at CS;have es:(⟨#[98]⟩:ByteArray)=bT [98]:=rfl;go_upto_region 13 with(go_at_call 25;(with_reducible refine CS.i.g ?_);rintro r v4 ⟨o4,x4,sl4,rfl,h1,h2,h3,h4,h5⟩;have HA:=ab h1;have HE:=ab h2;have HO:=ab h3;have HN4:=ab h4;have HF:=ab h5;clear h1 h2 h3 h4 h5)
 have A12:=ab (HA.i.add o4.ay 58);have BB:=ab ((aG v4.a.j v4).alloc (av _) (.D o4.ay 58));have E12:=ab (HE.i.go BB.i);have R12:=ab (fU.ku R11.i HF.i NF.i BB.i);have O4:=ab (HO.i.go BB.i);have Q12:=ab (fU.ku Q11.i HF.i Qz.i BB.i);generalize v4.alloc (.D o4.ay 58)=u4 at A12 E12 R12 O4 Q12 ⊢;generalize v4.a.j=p12 at A12 ⊢;have H4:=ab O4.i.all;clear CS HA HE HO HF BB A11 E11 R11 O4 es Q11;have CS:=ab (Ay A12.i E12.i asD (by omega) ({qE with kind:=3,E:=[97]}:At) (acH [97]) ⟨rfl,Jb _,⟨av _,je _,je _⟩,rfl,rfl,rfl⟩ r9 (by decide) aw5 rfl);unfold AwP at CS;have es:(⟨#[97]⟩:ByteArray)=bT [97]:=rfl;go_upto_region 14 with(go_at_call 25;(with_reducible refine CS.i.g ?_);rintro r v5 ⟨o5,x5,sl5,rfl,h1,h2,h3,h4,h5⟩;have HA:=ab h1;have HE:=ab h2;have HO:=ab h3;have HN5:=ab h4;have HF:=ab h5;clear h1 h2 h3 h4 h5)
 have A13:=ab (HA.i.add o5.ay 58);have BB:=ab ((aG v5.a.j v5).alloc (av _) (.D o5.ay 58));have E13:=ab (HE.i.go BB.i);have R13:=ab (fU.ku R12.i HF.i NF.i BB.i);have O5:=ab (HO.i.go BB.i);have Q13:=ab (fU.ku Q12.i HF.i Qz.i BB.i);generalize v5.alloc (.D o5.ay 58)=u5 at A13 E13 R13 O5 Q13 ⊢;generalize v5.a.j=p13 at A13 ⊢;have H5:=ab O5.i.all;clear CS HA HE HO HF BB A12 E12 R12 O5 es Q12;obtain⟨fy1,fy2,fy3,fy4⟩:=(A13.i.box (p:=(p7,({qE with kind:=1,XH:=FA,Ov:=fn,LZ:=fc}:At).ay)) (by simp)).K;have CS:=ab (Ay A13.i E13.i asE (by omega) ({qE with kind:=1,XH:=FA,Ov:=fn,LZ:=fc}:At) acF ⟨rfl,R13.i,LF.i,rfl,rfl,rfl⟩ r9 (by decide) aw6 rfl);unfold AwP at CS;go_upto_region 15 with(go_at_call 25;(with_reducible refine CS.i.g ?_);rintro r v6 ⟨o6,x6,sl6,rfl,h1,h2,h3,h4,h5⟩;have HA:=ab h1;have HE:=ab h2;have HO:=ab h3;have HN6:=ab h4;have HF:=ab h5;clear h1 h2 h3 h4 h5)
 have A14:=ab (HA.i.add o6.ay 58);have BB:=ab ((aG v6.a.j v6).alloc (av _) (.D o6.ay 58));have E14:=ab (HE.i.go BB.i);have R14:=ab (fU.ku R13.i HF.i NF.i BB.i);have O6:=ab (HO.i.go BB.i);have Q14:=ab (fU.ku Q13.i HF.i Qz.i BB.i);generalize v6.alloc (.D o6.ay 58)=u6 at A14 E14 R14 O6 Q14 ⊢;generalize v6.a.j=p14 at A14 ⊢;have H6:=ab O6.i.all;clear CS HA HE HO HF BB A13 E13 R13 O6 fy1 fy2 fy3 fy4 Q13;have CS:=ab (Ay A14.i E14.i asF (by omega) ({qE with kind:=4}:At) (acK 4) ⟨rfl,Jb _,⟨av _,je _,je _⟩,rfl,rfl,rfl⟩ r9 (by decide) aw7 rfl);unfold AwP at CS;go_upto_region 16 with(go_at_call 25;(with_reducible refine CS.i.g ?_);rintro r v7 ⟨o7,x7,sl7,rfl,h1,h2,h3,h4,h5⟩;have HA:=ab h1;have HE:=ab h2;have HO:=ab h3;have HN7:=ab h4;have HF:=ab h5;clear h1 h2 h3 h4 h5)
 have A15:=ab (HA.i.add o7.ay 58);have BB:=ab ((aG v7.a.j v7).alloc (av _) (.D o7.ay 58));have E15:=ab (HE.i.go BB.i);have R15:=ab (fU.ku R14.i HF.i NF.i BB.i);have O7:=ab (HO.i.go BB.i);have Q15:=ab (fU.ku Q14.i HF.i Qz.i BB.i);generalize v7.alloc (.D o7.ay 58)=u7 at A15 E15 R15 O7 Q15 ⊢;generalize v7.a.j=p15 at A15 ⊢;have H7:=ab O7.i.all;clear CS HA HE HO HF BB A14 E14 R14 O7 Q14;have CS:=ab (Ay A15.i E15.i asG (by omega) ({qE with kind:=9}:At) (acK 9) ⟨rfl,Jb _,⟨av _,je _,je _⟩,rfl,rfl,rfl⟩ r9 (by decide) Ua rfl);unfold AwP at CS;go_upto_region 17 with(go_at_call 25;(with_reducible refine CS.i.g ?_);rintro r v8 ⟨o8,x8,sl8,rfl,h1,h2,h3,h4,h5⟩;have HA:=ab h1;have HE:=ab h2;have HO:=ab h3;have HN8:=ab h4;have HF:=ab h5;clear h1 h2 h3 h4 h5)
 have A16:=ab (HA.i.add o8.ay 58);have BB:=ab ((aG v8.a.j v8).alloc (av _) (.D o8.ay 58));have E16:=ab (HE.i.go BB.i);have R16:=ab (fU.ku R15.i HF.i NF.i BB.i);have O8:=ab (HO.i.go BB.i);have Q16:=ab (fU.ku Q15.i HF.i Qz.i BB.i);generalize v8.alloc (.D o8.ay 58)=u8 at A16 E16 R16 O8 Q16 ⊢;generalize v8.a.j=p16 at A16 ⊢;have H8:=ab O8.i.all;clear CS HA HE HO HF BB A15 E15 R15 O8 Q15;have CS:=ab (Jl E16.i asH);unfold aqT at CS;go_upto_region 18 with(go_at_call 20;(with_reducible refine CS.i.g ?_);rintro r v9 ⟨X,rfl,ho,hb⟩;have HO:=ab ho;have HB:=ab hb;clear ho hb)
 have NS:=ab (show∀y,(y∈tF X.b.A\/y∈tF X.h.A\/y∈tF X.f.A)->y∉[p6]from fun y hy=>by have h1:=(A16.i.box (p:=(p6,(Tu.mk D1 D5 6 1000 80).ay)) (by simp)).lt;rcases hy with hy|hy|hy;(have h2:=(iH HO.i.b y hy).1;simp;omega);(have h2:=(iH HO.i.h y hy).1;simp;omega);(have h2:=(iH HO.i.f y hy).1;simp;omega));have B17:=ab ((aG v9.a.j v9).alloc (av _) (.D X.ay 37));have A17:=ab ((A16.i.go HB.i).add X.ay 37);have E17:=ab ((E16.i.go HB.i).go B17.i);have S17:=ab ((HO.i.r asH).go B17.i);have Q17:=ab (fU.upon (fU.upon Q16.i HB.i) B17.i);generalize v9.alloc (.D X.ay 37)=u9 at A17 E17 S17 Q17 ⊢;generalize v9.a.j=p17 at A17 ⊢;clear CS HO HB B17 A16 E16 R16 Q16 NF LF;have BT:=ab (A17.i.box (p:=(p6,(Tu.mk D1 D5 6 1000 80).ay)) (by simp));have th:=BT.i.M 17 17 (by rw[Tu.G];omega);have BX:=ab (show dK (gT u9 p6 17 D9.ay) p6 (Tu.mk D1 D9 6 1000 80).ay by have h1:=BT.i.setCells 17 D9.ay.a;have h2:=Tu.TM (Tu.mk D1 D5 6 1000 80) D9;rw[<-h2];simpa[gT]using h1);obtain⟨fx1,fx2,-,-⟩:=BX.i.K;have fx3:=(fx1 36).trans (show(Tu.mk D1 D9 6 1000 80).ay[36]? = some (.b .a 80)by simp[Tu.ay,tuT,aD,fC.G]);have fx4:=fx2 36;clear fx1 fx2;go_upto_region 20 with fail
 have F12:=ab (show jC [p6] u9 ((gT u9 p6 17 D9.ay).F ⟨p6,36,none⟩ (.b .a 8080))from(yt u9 p6 17 D9.ay).set ⟨p6,36,none⟩ _ (.a (by simp)));have B2:=ab (show dK ((gT u9 p6 17 D9.ay).F ⟨p6,36,none⟩ (.b .a 8080)) p6 (Tu.mk D1 D9 6 1000 8080).ay by have h:=BX.i.eF 36 (.b .a 8080);rw[Tu.arF]at h;exact h);have A20:=ab (show Aw w ((gT u9 p6 17 D9.ay).F ⟨p6,36,none⟩ (.b .a 8080)) q q2 g [(p6,(Tu.mk D1 D9 6 1000 8080).ay),(p17,X.ay),(p16,o8.ay),(p15,o7.ay),(p14,o6.ay),(p13,o5.ay),(p12,o4.ay),(p11,o3.ay),(p10,o2.ay),(p9,o1.ay),(p8,o0.ay),(p7,({qE with kind:=1,XH:=FA,Ov:=fn,LZ:=fc}:At).ay),(p1,(Ki b).ay),(b,Hf.ay)]from A17.i.put (c:=(Tu.mk D1 D5 6 1000 80).ay) F12.i B2.i (by simp) (by intro y hy;simp only[bg,List.not_mem_nil,or_false]at hy⊢;rcases hy with rfl|rfl|rfl|rfl|rfl|rfl|rfl|rfl|rfl|rfl|rfl|rfl|rfl;all_goals exact⟨by simp,by simp[Oc.G,At.G,Sh.G,Cn.G,Vp.G,Tu.G]⟩));have EG:=ab (show TbQ ((gT u9 p6 17 D9.ay).F ⟨p6,36,none⟩ (.b .a 8080)) q x8 (zM yG Ua.1)from⟨F12.i.box E17.i.b.eg (by have:=dK.ne E17.i.b.eg BT.i (by rw[Eg.G,Tu.G];omega);simp;exact this),iJ.az5 E17.i.tt.texts az7,iJ.az5 E17.i.tt.aEV akj.2.2.2.2⟩);have S20:=ab (show Qg ((gT u9 p6 17 D9.ay).F ⟨p6,36,none⟩ (.b .a 8080)) ((gT u9 p6 17 D9.ay).F ⟨p6,36,none⟩ (.b .a 8080)).a.j X Ua.1 from⟨S17.i.kT,S17.i.b.keep F12.i (fun y hy=>NS.i y (.a hy)),S17.i.h.keep F12.i (fun y hy=>NS.i y (.b (.a hy))),S17.i.f.keep F12.i (fun y hy=>NS.i y (.b (.b hy))),S17.i.fQ,S17.i.no,S17.i.ji,S17.i.pJ,S17.i.ahh,S17.i.ac',S17.i.nb,S17.i.nh,S17.i.nf⟩);have Q20:=ab (show fU ((gT u9 p6 17 D9.ay).F ⟨p6,36,none⟩ (.b .a 8080)) ((gT u9 p6 17 D9.ay).F ⟨p6,36,none⟩ (.b .a 8080)).a.j o2.Oe o2.WR awW from Od Q17.i (av _) F12.i (fU.far Q17.i BT.i (by have h1:=fU.len Q17.i;have h2:awW.a=56:=rfl;rw[Tu.G];omega)));generalize((gT u9 p6 17 D9.ay).F ⟨p6,36,none⟩ (.b .a 8080))=u10 at A20 EG S20 Q20 ⊢;clear F12 B2 BX BT A17 E17 S17 Q17 NS th fx3 fx4;have FX:=ab (fun(W':ak) (h:Aw w W' q q2 g [(p6,(Tu.mk D1 D9 6 1000 8080).ay),(p17,X.ay),(p16,o8.ay),(p15,o7.ay),(p14,o6.ay),(p13,o5.ay),(p12,o4.ay),(p11,o3.ay),(p10,o2.ay),(p9,o1.ay),(p8,o0.ay),(p7,({qE with kind:=1,XH:=FA,Ov:=fn,LZ:=fc}:At).ay),(p1,(Ki b).ay),(b,Hf.ay)])=>show W'.b ⟨p8,1,none⟩=some (.b .a 8)/\W'.b ⟨p9,3,none⟩=some (.b .a 1)/\W'.b ⟨p10,1,none⟩=some (.b .a 0)/\W'.b ⟨p10,4,none⟩=some (.g ⟨#[97]⟩)/\W'.b ⟨p10,2,none⟩=some (.e false)/\W'.b ⟨p10,3,none⟩=some (.b .a 1)/\W'.b ⟨p10,5,none⟩=some (.a o2.Oe o2.WR o2.ags)/\W'.b ⟨p11,2,none⟩=some (.e true)/\W'.b ⟨p12,0,none⟩=some (.b .a 5)/\W'.b ⟨p13,0,none⟩=some (.b .a 0)/\W'.b ⟨p14,1,none⟩=some (.b .a 8)/\W'.b ⟨p15,0,none⟩=some (.b .a 0)/\W'.b ⟨p16,0,none⟩=some (.b .a 1)/\W'.b ⟨p17,5,none⟩=some (.b .a 2)/\W'.b ⟨p17,4,none⟩=some (.b .a 1)/\W'.b ⟨p17,3,none⟩=some (.a X.f.A 1 X.f.c)/\W'.b ⟨p17,14,none⟩=some (.b .a 2)from⟨((h.box (p:=(p8,o0.ay)) (by simp)).K.1 1).trans (by rw[show o0.ay[1]? = some (.b .a o0.h)from rfl,H0.i.2.1,aEZ]<;>rfl),
  ((h.box (p:=(p9,o1.ay)) (by simp)).K.1 3).trans (by rw[show o1.ay[3]? = some (.b .a o1.kT)from rfl,H1.i.2.2.2.1,aE0]<;>rfl),
  ((h.box (p:=(p10,o2.ay)) (by simp)).K.1 1).trans (by rw[show o2.ay[1]? = some (.b .a o2.h)from rfl,H2.i.2.1,anZ]<;>rfl),
  ((h.box (p:=(p10,o2.ay)) (by simp)).K.1 4).trans (by rw[show o2.ay[4]? = some (.g (bT o2.E))from rfl,H2.i.2.2.2.2,anZ]<;>rfl),
  ((h.box (p:=(p10,o2.ay)) (by simp)).K.1 2).trans (by rw[show o2.ay[2]? = some (.e o2.xE)from rfl,H2.i.2.2.1,anZ]<;>rfl),
  ((h.box (p:=(p10,o2.ay)) (by simp)).K.1 3).trans (by rw[show o2.ay[3]? = some (.b .a o2.kT)from rfl,H2.i.2.2.2.1,anZ]<;>rfl),
  ((h.box (p:=(p10,o2.ay)) (by simp)).K.1 5).trans (by rw[show o2.ay[5]? = some (.a o2.Oe o2.WR o2.ags)from rfl]<;>rfl),
  ((h.box (p:=(p11,o3.ay)) (by simp)).K.1 2).trans (by rw[show o3.ay[2]? = some (.e o3.xE)from rfl,H3.i.2.2.1,aE1]<;>rfl),
  ((h.box (p:=(p12,o4.ay)) (by simp)).K.1 0).trans (by rw[show o4.ay[0]? = some (.b .a o4.err)from rfl,H4.i.1,aE2]<;>rfl),
  ((h.box (p:=(p13,o5.ay)) (by simp)).K.1 0).trans (by rw[show o5.ay[0]? = some (.b .a o5.err)from rfl,H5.i.1,aE3]<;>rfl),
  ((h.box (p:=(p14,o6.ay)) (by simp)).K.1 1).trans (by rw[show o6.ay[1]? = some (.b .a o6.h)from rfl,H6.i.2.1,aE4]<;>rfl),
  ((h.box (p:=(p15,o7.ay)) (by simp)).K.1 0).trans (by rw[show o7.ay[0]? = some (.b .a o7.err)from rfl,H7.i.1,aE5]<;>rfl),
  ((h.box (p:=(p16,o8.ay)) (by simp)).K.1 0).trans (by rw[show o8.ay[0]? = some (.b .a o8.err)from rfl,H8.i.1,aE6]<;>rfl),
  ((h.box (p:=(p17,X.ay)) (by simp)).K.1 5).trans (by rw[show X.ay[5]? = some (.b .a X.no)from Sh.al1 X,S20.i.no,akj.1]<;>rfl),
  ((h.box (p:=(p17,X.ay)) (by simp)).K.1 4).trans (by rw[show X.ay[4]? = some (.b .a X.fQ)from Sh.al0 X,S20.i.fQ,akj.2.1]<;>rfl),
  ((h.box (p:=(p17,X.ay)) (by simp)).K.1 3).trans (by rw[show X.ay[3]? = some (.a X.f.A X.f.n X.f.c)from Sh.agU X,<-S20.i.f.len,akj.2.2.2.1]<;>rfl),
  ((h.box (p:=(p17,X.ay)) (by simp)).K.1 14).trans ((Sh.Yu X 8 (by omega)).trans (by rw[S20.i.ji,aFe]))⟩)
 clear H0 H1 H2 H3 H4 H5 H6 H7 H8 Qz HN0 HN1 HN3 HN4 HN5 HN6 HN7 HN8;have lt:=pF (A20.i.box (p:=(p6,(Tu.mk D1 D9 6 1000 8080).ay)) (by simp));have RQ:=ab (an9 u10 #[.b .b 104,.b .b 105] [104,105] rfl (2,3));have BQ:=ab ((aG u10.a.j u10).alloc (av _) (.D #[.b .b 104,.b .b 105] 5 (2,3)));have kc:=asI;cases HWW.i;have CR:=ab (fun(W:ak) (h:iJ Vp.ay 20 W W.a.j (some ⟨b,0,none⟩) 1 [Hf]) (hs:Qg W W.a.j X Ua.1)=>Dk (Ki b) [Hf] X Ua.1 W h (show 1<=1 by omega) (show 1<=100000 by omega) hs (by have:=avF;omega) (by have:=avF;omega) (by have:=avF;omega) true ((aei anY [Hf] Ua.1 _ _ _).trans aFf));have CT:=ab (fun(W:ak) (h:TbQ W q x8 (zM yG Ua.1))=>agD (zM yG Ua.1) h.b h.n h.s (by have:=az7;omega) (by have:=akj.2.2.2.2;omega));have CX:=ab (fun(W:ak) (hs:Qg W W.a.j X Ua.1)=>afz X X Ua.1 Ua.1 W hs hs true (QZ _));unfold azT at CT;go_wp2_with (first
  | (go_at_call 40;(with_reducible refine(CM2.i _ _ 2 RQ.i).g ?_);rintro r w11 ⟨A2,n2,c2,rfl,hn,ho,hb⟩;have A21:=ab ((A20.i.go BQ.i).go hb);have EG1:=ab ((EG.i.go BQ.i).go hb);have S21:=ab ((S20.i.go BQ.i).go hb);have Q21:=ab (fU.upon (fU.upon Q20.i BQ.i) hb);have R21:=ab (fU.iQ ho);have T1:=(AZ Q21.i o2.ags).2;have T2:=(AZ R21.i c2).2;obtain⟨f0,f1,f2,f3,f4,f5,f6,f7,f8,f9,f10,f11,f12,f13,f14,f15,f16⟩:=FX.i w11 A21.i;clear hn ho hb)
  | (go_at_call 31;(with_reducible refine(CT.i _ EG1.i).g ?_);rintro r w12 ⟨⟨nA,nn,nc,sA,sn,sc⟩,rfl,ht,hb⟩;obtain rfl:sn=0:=(ht.sn.symm.trans akj.2.2.2.2);have A22:=ab (A21.i.go hb);have S22:=ab (S21.i.go hb);have lc:=Vw.nC (A22.i.box (p:=(p1,(Ki b).ay)) (by simp)) (Cn.G _);have ls:=BM (A22.i.box (p:=(p17,X.ay)) (by simp));have V22:=ab (iJ.aq8 (f:=Vp.ay) (sz:=20) (A22.i.box (p:=(b,Hf.ay)) (by simp)) (Vp.G _));clear ht hb)
  | (go_at_call 15;(with_reducible refine(CR.i _ V22.i S22.i).g ?_);rintro r w13 ⟨rfl,hb⟩;have A23:=ab (A22.i.go hb);have S23:=ab (S22.i.go hb);have l3:=BM (A23.i.box (p:=(p17,X.ay)) (by simp));clear hb)
  | (go_at_call 17;(with_reducible refine(CX.i _ S23.i).g ?_);rintro r w14 ⟨rfl,hb⟩;have A24:=ab (A23.i.go hb);clear hb))
 go_ret;exact⟨rfl,A24.i.R⟩
structure Uno(W0 W:ak)(q:Nat)(e:En)(s:pY)(x:Eg)(q2 g:Nat)(sl:List (Option Fw)):Prop where
 r:yN W q e s x q2 g sl
 R:aL W0.a.j W0 W
 new:W0.a.j<=q/\W0.a.j<=q2/\W0.a.j<=g
 EF:∀k∈oz x,W0.a.j<=k
section
variable {W0 W W':ak} {q q2 g r r2 g2:Nat} {e:En} {s t:pY} {x y x':Eg} {sl sm sl':List (Option Fw)}
theorem Uno.go(h:Uno W0 W q e s x q2 g sl)(hb:aL W.a.j W W'):Uno W0 W' q e s x q2 g sl:=⟨h.r.go hb,h.R.trans (hb.g h.R.j),h.new,h.EF⟩
theorem Uno.lt(h:Uno W0 W q e s x q2 g sl):q<W.a.j/\q2<W.a.j/\g<W.a.j:=h.r.b.lt
theorem Uno.start(h:yN W' q e s x q2 g sl)(h0:aL W0.a.j W0 W)(hb:aL W.a.j W W')(hq:W.a.j<=q/\W.a.j<=q2/\W.a.j<=g)(hr:∀k∈oz x,W.a.j<=k):Uno W0 W' q e s x q2 g sl:=by
 have:=h0.j;exact⟨h,h0.trans (hb.g h0.j),by omega,fun k hk=>by have:=hr k hk;omega⟩
theorem Uno.RG(h:Uno W0 W q e s x q2 g sl)(h':yN W' q e t x' q2 g sl')(hf:jC [q,q2,g] W W')(hr:∀k∈oz x',k∈oz x\/W.a.j<=k):Uno W0 W' q e t x' q2 g sl':=
 ⟨h',h.R.trans (hf.qG (fun k hk=>by have:=h.new;simp at hk;omega) h.R.j),h.new,fun k hk=>(hr k hk).elim (h.EF k) (fun h1=>Nat.le_trans h.R.j h1)⟩
end
def WX(e:En)(s:pY)(us:List Ac):pY:=us.foldl (fun s u=>(nO e s u).1) s
theorem akn(e:En)(s:pY)(us:List Ac)(u:Ac):WX e s (us++[u])=(nO e (WX e s us) u).1:=by simp[WX]
theorem ako{e:En}{s:pY}{us:List Ac}{k:Nat}(h:k<us.a):WX e s (us.d (k+1))=(nO e (WX e s (us.d k)) (us.c k anV)).1:=by
 rw[List.take_add_one,aC h,au,aC h];exact akn _ _ _ _
theorem an'{e:En}{s:pY}{M:Int}(h:nR M e s)(us:List Ac)(hu:∀u∈us,u.op.X.pJ/\u.op.w<18446744073709551616):nR (M+us.a) e (WX e s us):=by
 induction us generalizing s M with
 | nil=>simpa[WX]using h
 | cons u us ih=>
   have h1:=uW h u (hu u (by simp)).1 (hu u (by simp)).2;have h2:=ih h1 (fun v hv=>hu v (by simp[hv]));have e1:M+((u::us).a:Int)=M+1+(us.a:Int):=by simp only[List.length_cons];omega
   rw[e1];exact h2
theorem WY(a:fC)(w:ak):aP ah 67 #[.d a.ay] w (gD w (.e (qF a))):=by
 have Z:=ab ((Bx.start w).new a.ay 27);go_enter Tryz.func67,Tryz.ntmps67;go_upto_region 1 with fail
 generalize w.alloc (.D a.ay 27)=w2 at *;obtain⟨y1,y2,y3,y4⟩:=Z.i.S.K;have CA:=ab (aif a w2);have a0:=fC.qw a;have HO:=ab (show qF a=(a.h||a.mJ)from rfl);cases h6:a.h
 all_goals
  rw[h6]at a0 CA HO
  first
   | (go_wp2
      go_ret;exact⟨by rw[HO.i];rfl,Z.i.R⟩)
   | (rw[ra,Bool.and_true]at CA
      go_wp2_with (go_at_call 133;(with_reducible refine CA.i.g ?_);rintro e w3 ⟨rfl,hb⟩;have Z3:=ab (Z.i.go hb);clear hb);go_ret;exact⟨by rw[HO.i];rfl,Z3.i.R⟩)
theorem aek(n a b:Int)(w:ak):aP ah 68 #[.b .a n,.b .a a,.b .a b] w fun e w'=>e=.a (.e (Jh n a b))/\w=w':=by
 go_enter Tryz.func68,Tryz.ntmps68;by_cases h1:a<=n<;>by_cases h2:n<=b
 all_goals
  go_wp2;go_ret;exact⟨by simp[Jh,h1,h2],rfl⟩
theorem Cn.avL(x:Cn)(k:Nat)(hk:k<6):x.ay[3+k]? = some (.b .a (x.kF.a.c k 0)):=by
 rw[<-aag x.kF k hk];have h:=Cn.Tv x;rw[<-h,dx];simp[Cn.G];omega
theorem ahX(a b:Int):(a==b)=(b==a):=by rw[bV,beq_iff_eq,beq_iff_eq];exact eq_comm
theorem agG(a b:fC):decide (a=b)=decide (b=a):=decide_eq_decide.2 eq_comm
theorem akp(l:List Vp)(i:Nat):DI l i=(adf (l.c i oq) && !(l.d i).any (xW (l.c i oq).h (l.c i oq).aQ (l.c i oq).mR)):=rfl
theorem ael{p:Vp->Bool}{l:List Vp}{i:Nat}(hi:i<=l.a)(h:∀k,k<i->p (l.c k oq)=false):(l.d i).any p=false:=by
 rw[List.any_eq_false];intro x hx;obtain⟨k,hk,rfl⟩:=List.getElem_of_mem hx;have hk2:k<i:=by simp at hk;omega
 have:=h k hk2;rw[au,aC (by omega)]at this;simpa using this
theorem abI{p:Vp->Bool}{l:List Vp}{i k:Nat}(hi:i<=l.a)(hk:k<i)(h:p (l.c k oq)=true):(l.d i).any p=true:=by
 rw[tq];refine⟨l[k],?_,?_⟩
 ·rw[List.mem_take_iff_getElem]
  exact⟨k,by omega,rfl⟩
 ·rw[au,aC (by omega)]at h
  exact h
theorem WZ(x:Cn)(l:List Vp)(w:ak)(hR:RdV w w.a.j x.qH x.iK l)(hn:x.iK<=100000):
 aP ah 22 #[.d x.ay] w (gD w (.e (xX x l))):=by
 have Z:=ab ((Bx.start w).new x.ay 29);have HR:=ab hR;have HO:=ab (ahJ x l);have HI:=ab (WH x.kF);have HN:=ab hR.1;have HS:=ab (Zf l x.iK hR.1);have LI:=ab (Cn.avL x);have FA:=ab (fun(w':ak) (h:Bx [(w.a.j,x.ay)] w w')=>show w'.b ⟨w.a.j,0,none⟩=some (.a x.qH x.iK x.qI)from(h.S.K.1 0).trans (Cn.JN x));have CS:=ab (fun a W=>WY a W);have CW:=ab (fun n a b W=>aek n a b W);have NOV:=ab (show yL l=false->xX x l=false from fun h=>by rw[HO.i,h];simp);have NOI:=ab (show Bw x.kF=false->xX x l=false from fun h=>by rw[HO.i,h];simp);clear hR;go_enter Tryz.func22,Tryz.ntmps22;go_upto_region 1 with fail
 generalize w.alloc (.D x.ay 29)=w2 at *;have f0:=FA.i _ Z.i;by_cases h64:64<x.iK
 ·have q:decide ((64:Int)<x.iK)=true:=by simp;omega
  have HF:=ab (show xX x l=false from NOV.i (by cases h:yL l;rfl;have:=(HS.i.1 h).1;omega));go_wp2;go_ret;exact⟨by rw[HF.i];rfl,Z.i.R⟩
 have q:decide ((64:Int)<x.iK)=false:=by simp;omega
 go_wp2;go_loopw [3] (fun s3 wr=>∃i:Nat,i<=x.iK/\s3=.b .a i/\(∀k,k<i->DI l k=true)/\Bx [(w.a.j,x.ay)] w wr) (fun s3 _=>x.iK-(intOf s3).e)
 case atStart=>exact⟨0,by omega,rfl,fun k hk=>by omega,Z.i⟩
 case round=>
  clear f0 q;obtain⟨i,hin,rfl,hok,hz⟩:=hrel;have Fh:=ab hok;have ZR:=ab hz;clear hok hz;have f0:=FA.i _ ZR.i;by_cases hlt:i<x.iK
  ·have hi:(i:Int)<x.iK:=by omega
   obtain⟨b,o,hA,hbb,hh,hcl⟩:=iJ.fI Vp.G oq (ZR.i.rdR HR.i) hlt;obtain⟨v,hv⟩:=cB (l.c i oq);rw[<-hv]at hcl;have HX:=ab (show DI l i=(adf v && !(l.d i).any (xW v.h v.aQ v.mR))by rw[akp,<-hv]);clear hv;rw[hA]at f0;have HAA:=ab hA;clear hA;have Z1:=ab (ZR.i.new v.ay 98);go_upto_region 7 with fail
   clear hh hcl f0;generalize wr.alloc (.D v.ay 98)=w3 at Z1 ⊢;have hy4:=ZR.i.S.lt;generalize wr.a.j=y4 at Z1 hy4 ⊢;obtain⟨y1,y2,y3,y5⟩:=Z1.i.S.K;have CSV:=ab (CS.i v.h w3);have HV:=ab (show adf v=(qF v.h&&(v.aQ==6||v.aQ==17)&&Jh v.mR 1 65535)from rfl);cases hv:adf v
   ·have ER:=ab (show xX x l=false from NOV.i (by
     cases h:yL l;rfl;have:=(HS.i.1 h).2 i hlt;rw[HX.i,hv]at this;simp at this))
    rw[hv]at HV;have HZ:=ab HV.i.symm;clear hv HV HX;cases h1:qF v.h
    ·rw[h1]at CSV
     go_wp2_with (first|(go_at_call 67;(with_reducible refine CSV.i.g ?_);rintro e w4 ⟨rfl,hb⟩;have Z3:=ab (Z1.i.go hb);clear y1 y2 y3 y5;obtain⟨y1,y2,y3,y5⟩:=Z3.i.S.K;clear hb));go_ret;exact⟨by rw[ER.i];rfl,Z3.i.R⟩
    ·rw[h1]at CSV HZ
     have HZ2:=ab (show((v.aQ==6||v.aQ==17)&&Jh v.mR 1 65535)=false by have:=HZ.i;simpa using this);cases h2:(v.aQ==6)<;>cases h3:(v.aQ==17)<;>cases h4:Jh v.mR 1 65535
     all_goals
      rw[h2,h3,h4]at HZ2
      first
       | (exact absurd HZ2.i (by decide))
       | (have h2':(v.aQ != 6) = !(v.aQ==6):=rfl
          have h3':(v.aQ != 17) = !(v.aQ==17):=rfl;rw[h2]at h2';rw[h3]at h3';have CWV:=ab (fun W=>CW.i v.mR 1 65535 W);rw[h4]at CWV;go_wp2_with (first|(go_at_call 67;(with_reducible refine CSV.i.g ?_);rintro e w4 ⟨rfl,hb⟩;have Z3:=ab (Z1.i.go hb);clear y1 y2 y3 y5;obtain⟨y1,y2,y3,y5⟩:=Z3.i.S.K;clear hb)|(go_at_call 68;(with_reducible refine(CWV.i _).g ?_);rintro e w5 ⟨rfl,rfl⟩));go_ret;exact⟨by rw[ER.i];rfl,Z3.i.R⟩)
   ·rw[hv,zZ]at HX
    rw[hv]at HV;have HZ:=ab HV.i.symm;clear hv HV;have h1:qF v.h=true:=by have:=HZ.i;simp at this;exact this.1.1
    have h4:Jh v.mR 1 65535=true:=by have:=HZ.i;simp at this;exact this.2
    have h23:(v.aQ==6||v.aQ==17)=true:=by have:=HZ.i;simp at this;simpa using this.1.2
    have CWV:=ab (fun W=>CW.i v.mR 1 65535 W);rw[h4]at CWV;rw[h1]at CSV;clear h1 h4;cases h2:(v.aQ==6)<;>cases h3:(v.aQ==17)
    all_goals
     rw[h2,h3]at h23
     first
      | (exact absurd h23 (by decide))
      | skip
    all_goals
     clear h23;have h2':(v.aQ != 6) = !(v.aQ==6):=rfl;have h3':(v.aQ != 17) = !(v.aQ==17):=rfl;rw[h2]at h2';rw[h3]at h3';go_upto_region 9 with(first|(go_at_call 67;(with_reducible refine CSV.i.g ?_);rintro e w4 ⟨rfl,hb⟩;have Z3:=ab (Z1.i.go hb);clear y1 y2 y3 y5;obtain⟨y1,y2,y3,y5⟩:=Z3.i.S.K;clear hb)|(go_at_call 68;(with_reducible refine(CWV.i _).g ?_);rintro e w5 ⟨rfl,rfl⟩))
     clear h2 h3 h2' h3' y1 y2 y3 y5 CSV CWV;go_wp2;go_loopw [5] (fun s5 wx=>∃k:Nat,k<=i/\s5=.b .a k/\(∀j,j<k->xW v.h v.aQ v.mR (l.c j oq)=false)/\Bx [(y4,v.ay),(w.a.j,x.ay)] w wx) (fun s5 _=>i-(intOf s5).e)
     case atStart=>exact⟨0,by omega,rfl,fun j hj=>by omega,Z3.i⟩
     case round=>
      obtain⟨k,hki,rfl,hno,hz⟩:=hrel;have HNK:=ab hno;have ZK:=ab hz;clear hno hz;have f0:=FA.i _ ZK.i.Tq;by_cases hkl:k<i
      ·have hk2:(k:Int)<i:=by omega
       have hk3:(k:Int)<x.iK:=by omega
       obtain⟨b2,o2,hA2,Ms,hh,hcl⟩:=iJ.fI Vp.G oq (ZK.i.Tq.rdR HR.i) (Nat.lt_trans hkl hlt);obtain⟨u,hu⟩:=cB (l.c k oq);rw[<-hu]at hcl;have HU:=ab hu;clear hu;rw[hA2]at f0;have HAB:=ab hA2;clear hA2;have Z5:=ab (ZK.i.new u.ay 98);go_upto_region 13 with fail
       clear hh hcl f0;have hy6:=ZK.i.S.lt;generalize wr.alloc (.D u.ay 98)=w7 at Z5 ⊢;generalize wr.a.j=y7 at Z5 hy6 ⊢;obtain⟨a1,a2,a3,a4⟩:=Z5.i.S.K;obtain⟨b1,b2,b3,b4⟩:=Z5.i.b1.K;have c1:=Vp.Dc u;have c2:=Vp.Dc v;obtain⟨b5,hb5⟩:∃b,decide (v.h=u.h)=b:=⟨_,rfl⟩
       obtain⟨b6,hb6⟩:∃b,(v.aQ==u.aQ)=b:=⟨_,rfl⟩
       obtain⟨b7,hb7⟩:∃b,(v.mR==u.mR)=b:=⟨_,rfl⟩
       have HL:=ab (show xW v.h v.aQ v.mR u=(b5&&b6&&b7)by
        rw[<-hb5,<-hb6,<-hb7];unfold xW;rw[ahX u.aQ,ahX u.mR,agG u.h])
       have ER:=ab (show xW v.h v.aQ v.mR u=true->xX x l=false from fun hl=>NOV.i (by
        cases h:yL l;rfl;have:=(HS.i.1 h).2 i hlt;rw[HX.i,abI (by rw[HN.i];omega) hkl (by rw[<-HU.i];exact hl)]at this;simp at this))
       go_wp2
       all_goals
        first
        | (go_roundw
           case rel=>exact⟨k+1,by omega,by go_num,fun j hj=>by
            by_cases hjk:j=k
            ·rw[hjk,<-HU.i,HL.i];simp[*]
            ·exact HNK.i j (by omega),Z5.i.Tq⟩
           case measure=>simp[intOf]<;>omega)
        | (go_ret
           exact⟨by rw[ER.i (by rw[HL.i];simp[*])];rfl,Z5.i.R⟩)
      ·obtain rfl:k=i:=by omega
       have HYY:=ab (show DI l k=true by rw[HX.i,ael (by rw[HN.i];omega) HNK.i];rfl);have hd:decide ((k:Int)<k)=false:=by simp
       go_wp2;go_roundw
       case rel=>exact⟨k+1,by omega,by go_num,fun j hj=>by
        by_cases hjk:j=k
        ·rw[hjk];exact HYY.i
        ·exact Fh.i j (by omega),ZK.i.Tq⟩
       case measure=>simp[intOf]<;>omega
  ·obtain rfl:i=x.iK:=by omega
   have HVS:=ab (show yL l=true from HS.i.2 ⟨by omega,Fh.i⟩);have hd:decide ((x.iK:Int)<x.iK)=false:=by simp
   rw[HVS.i,Bool.and_true]at HO;have fi0:=(ZR.i.S.K.1 3).trans (LI.i 0 (by omega));obtain⟨z0,hz0⟩:∃z,z=x.kF.a.c 0 0:=⟨_,rfl⟩
   have HZ0:=ab hz0;rw[<-hz0]at fi0;clear hz0;by_cases hz:z0=0
   ·have qz:(z0 != 0)=false:=by simp[hz]
    have aAc:=ab (show x.kF.a.c 0 0=0 by rw[<-HZ0.i];exact hz);clear hz Fh HS HN;go_upto_region 17 with fail
    clear f0 fi0 qz hd;go_wp2;go_loop [7] (fun s7=>∃k:Nat,1<=k/\k<=6/\s7=.b .a k/\(∀j,j<k->BI x.kF j=true)) (fun s7=>6-(intOf s7).e)
    case atStart=>exact⟨1,by omega,by omega,rfl,fun j hj=>by obtain rfl:j=0:=by omega
                                                             unfold BI;rw[aAc.i];rfl⟩
    case round=>
     obtain⟨k,hk1,hk6,rfl,hok⟩:=hrel;have HNK:=ab hok;clear hok;by_cases hlt:k<6
     ·have hk2:(k:Int)<6:=by omega
      have hk3:(0:Int)<=k:=by omega
      have fi:=(ZR.i.S.K.1 (3+k)).trans (LI.i k hlt);obtain⟨z,hz⟩:=cB (x.kF.a.c k 0);have HK:=ab (show BI x.kF k=Jh z 0 1000000 by unfold BI;rw[<-hz,show(k==0)=false by simp;omega];simp);rw[<-hz]at fi;have CZ:=ab (fun W=>CW.i z 0 1000000 W);clear hz;cases hb:Jh z 0 1000000
      ·have ER:=ab (show xX x l=false from NOI.i (by
        cases h:Bw x.kF;rfl;have:=HI.i.1 h k hlt;rw[HK.i,hb]at this;cases this))
       rw[hb]at CZ;clear hb;go_wp2_with (first|(go_at_call 68;(with_reducible refine(CZ.i _).g ?_);rintro e w5 ⟨rfl,rfl⟩));go_ret;exact⟨by rw[ER.i];rfl,ZR.i.R⟩
      ·rw[hb]at CZ HK
       clear hb;go_wp2_with (first|(go_at_call 68;(with_reducible refine(CZ.i _).g ?_);rintro e w5 ⟨rfl,rfl⟩));go_round
       case rel=>exact⟨k+1,by omega,by omega,by go_num,fun j hj=>by
        by_cases hjk:j=k
        ·rw[hjk];exact HK.i
        ·exact HNK.i j (by omega)⟩
       case measure=>simp[intOf]<;>omega
     ·obtain rfl:k=6:=by omega
      have HID:=ab (show Bw x.kF=true from HI.i.2 HNK.i);rw[HID.i,zZ]at HO;obtain⟨y1,y2,y3,y4⟩:=ZR.i.S.K;have CS4:=ab (fun W=>CS.i x.Ck W);obtain⟨sf,hsf⟩:∃b,qF x.Ck=b:=⟨_,rfl⟩
      rw[hsf]at CS4 HO;clear hsf hlt hk1 hk6 HID HNK NOI NOV HI LI HZ0 aAc HVS;cases hsz:Jh x.j 2 65537
      ·rw[hsz,Dl]at HO
       simp only[Dl]at HO;go_wp2_with (first|(go_at_call 68;(with_reducible refine(CW.i _ _ _ _).g ?_);rintro e w5 ⟨rfl,rfl⟩))
       all_goals
        go_ret;exact⟨by rw[HO.i];rfl,ZR.i.R⟩
      ·have PR:=ab (show∀W,aP ah 69 #[.b .a x.j] W fun e W'=>e=.a (.e (lH x.j.e))/\W=W' from fun W=>by
        have h1:2<=x.j/\x.j<=65537:=by unfold Jh at hsz;simpa using hsz
        have:=aah (W:=W) x.j.e (by omega)
        rwa [Int.toNat_of_nonneg (by omega)]at this)
       obtain⟨pn,hpn⟩:∃b,lH x.j.e=b:=⟨_,rfl⟩
       rw[hsz,zZ]at HO;simp only[hpn]at HO PR;clear hpn;go_wp2_with (first|(go_at_call 68;(with_reducible refine(CW.i _ _ _ _).g ?_);rintro e w5 ⟨rfl,rfl⟩)|(go_at_call 69;(with_reducible refine(PR.i _).g ?_);rintro e w5 ⟨rfl,rfl⟩)|(go_at_call 67;(with_reducible refine(CS4.i _).g ?_);rintro e w6 ⟨rfl,hb⟩;have Z4:=ab (ZR.i.go hb);clear y1 y2 y3 y4;obtain⟨y1,y2,y3,y4⟩:=Z4.i.S.K;clear hb))
       all_goals
        go_ret;refine⟨?_,by first|exact Z4.i.R|exact ZR.i.R⟩;rw[HO.i];clear HO PR CW CS CS4 y1 y2 y3 y4;simp_all
   ·have qz:(z0 != 0)=true:=by simp[hz]
    have ER:=ab (show xX x l=false from NOI.i (by
     cases h:Bw x.kF;rfl;have:=HI.i.1 h 0 (by omega);unfold BI at this;rw[<-HZ0.i]at this;simp[hz]at this))
    clear hz;go_wp2;go_ret;exact⟨by rw[ER.i];rfl,ZR.i.R⟩
@[go_sem]theorem asJ:Obj.cells #[bf,iB {data:=#[]},bM false,aA,aA,aA,aA,aA,aA,aA,aA,aA,aA,aA,aA,aA,aA,aA,aA,bf,aA,aA,aA,aA,aA,aA,vH jX 0,bM false,iB {data:=#[]},vH jX 0] 64=Obj.cells Zr.ay 64:=rfl
@[go_sem ↓]theorem aHZ(v x:aB):eD 64 v x=yU 64 v x:=rfl
theorem OcR.keep{W W':ak}{o:Oc}{u:Ou}{F:List Nat}(h:OcR W o u)(hf:jC F W W')(hn:∀b∈tF o.Oe,b∉F):OcR W' o u:=
 ⟨h.err,h.h,h.xE,h.kT,h.E,Od h.i (av _) hf hn⟩
theorem Ru(s:pY):IQ s s=true:=QZ s
theorem aem{e:En}{s:pY}(hc:s.ji[0]=s.no)(a:Ac){t:pY}{u:Ou}(h:nO e s a=(t,u)):
 t.ji[0]=t.no/\(0<=u.h/\u.h<=10)/\(u.err≠0->IQ s t=true/\u={uV with err:=u.err}) /\
 (a.kind=1->u.err=0/\t.ji=Oq s.ji u.h/\(u.h≠0->IQ {s with ji:=Oq s.ji u.h} t=true/\u={uV with h:=u.h})) /\
 (a.kind≠1->t.ji=s.ji/\t.no=s.no):=by
 have H:=Ri (e:=e) hc a;rw[h]at H;obtain⟨h1,h2,h3,h4,h5⟩:=H;refine⟨h1,h2,fun hn=>?_,fun hk=>?_,h5⟩
 ·obtain⟨e1,e2⟩:=h3 hn
  simp only at e1 e2;exact⟨by rw[e1];exact Ru s,e2⟩
 ·obtain⟨e1,e2,e3⟩:=h4 hk
  refine⟨e1,e2,fun hr=>?_⟩;obtain⟨e4,e5⟩:=e3 hr;simp only at e4 e5;exact⟨by rw[<-e4];exact Ru t,e5⟩
theorem aoa{e:En}{s:pY}(hc:s.ji[0]=s.no)(us:List Ac):(WX e s us).ji[0]=(WX e s us).no:=by
 induction us generalizing s with
 | nil=>exact hc
 | cons u us ih=>exact ih (Ri hc u).1
theorem nR.aFA{M:Int}{e:En}{s:pY}(h:nR M e s):s.X.a<=1024/\s.h.a<=1024/\(s.G.a:Int)<=4096:=by
 have h1:=(uO.1 h.pl).2.2.1;have h2:=congrArg List.length h.nm;have h3:=h.fl.len;have h4:=(rz h.cn).2.1;simp at h2;exact⟨h1,by omega,by omega⟩
theorem Qg.RG{W W':ak}{X:Sh}{s:pY}{F:List Nat}(h:Qg W W.a.j X s)(hf:jC F W W')(hn:∀y,(y∈tF X.b.A\/y∈tF X.h.A\/y∈tF X.f.A)->y∉F):Qg W' W'.a.j X s:=
 ⟨h.kT,h.b.keep hf (fun y hy=>hn y (.a hy)),h.h.keep hf (fun y hy=>hn y (.b (.a hy))),h.f.keep hf (fun y hy=>hn y (.b (.b hy))),h.fQ,h.no,h.ji,h.pJ,h.ahh,h.ac',h.nb,h.nh,h.nf⟩
theorem Aw.aFB{w0 W W':ak}{q q2 g p:Nat}{c c':Array aB}{L L':List (Nat×Array aB)}(h:Aw w0 W q q2 g L)(hf:jC [p] W W')(hb:dK W' p c')(hc:(p,c)∈L)(hL:∀y∈L',y∈L/\y.1≠p):Aw w0 W' q q2 g ((p,c')::L'):=by
 refine⟨h.R.trans (hf.qG (fun y hy=>by rw[fG.1 hy];exact(h.G _ hc).1) h.R.j),h.new,by have:=h.lt;have:=hf.j;omega,fun y hy=>?_⟩;rcases bg.1 hy with rfl|hy
 ·exact⟨(h.G _ hc).1,(h.G _ hc).2.1,hb⟩
 ·obtain⟨h1,h2⟩:=hL y hy
  exact⟨(h.G _ h1).1,(h.G _ h1).2.1,hf.box (h.G _ h1).2.2 (fun e=>h2 (fG.1 e))⟩
theorem Sh.aAd(x:Sh)(k:Nat)(hk:k<11):x.ay.b (6+k) (.b .a (x.ji.a.c k 0+1))=({x with ji:=Oq x.ji k}:Sh).ay:=by
 unfold Sh.ay;have h6:(shT x).j=6:=rfl;rw[aM,if_neg (by omega),h6,Nat.add_sub_cancel_left,ad8 _ _ hk,ahQ _ _ hk];rfl
theorem Qg.aq9{W:ak}{B:Nat}{X:Sh}{s:pY}(h:Qg W B X s){v:Vector Int 11}{z:Vector Int 11}(hv:v=z):Qg W B {X with ji:=v} {s with ji:=z}:=
 ⟨h.kT,h.b,h.h,h.f,h.fQ,h.no,hv,h.pJ,h.ahh,h.ac',h.nb,h.nh,h.nf⟩
theorem Uno.apart{W0 W W':ak}{q q2 g p:Nat}{e:En}{s:pY}{x:Eg}{sl:List (Option Fw)}(h:Uno W0 W q e s x q2 g sl)(hf:jC [p] W W')(hp:W0.a.j<=p)(h1:q≠p)(h2:q2≠p)(h3:g≠p)(o:∀k∈oz x,k≠p):Uno W0 W' q e s x q2 g sl:=
 ⟨h.r.frm hf (by simpa using h1) (by simpa using h2) (by simpa using h3) (fun k hk=>by simpa using o k hk),h.R.trans (hf.qG (fun k hk=>by simp at hk;omega) h.R.j),h.new,h.EF⟩
def aAe(W0 W:ak)(q:Nat)(e:En)(x:Eg)(q2 g:Nat)(R:pY×Ou)(z:lq)(W':ak):Prop:=
 ∃o x' sl',z=.a (.d (Oc.ay o))/\OuR W.a.j W' o R.2/\Uno W0 W' q e R.1 x' q2 g sl'/\jC [q,q2,g] W W'/\∀k∈oz x',k∈oz x\/W.a.j<=k
theorem akq{W0 W:ak}{q q2 g:Nat}{e:En}{s:pY}{x:Eg}{sl:List (Option Fw)}{M:Int}(h:Uno W0 W q e s x q2 g sl)(hi:nR M e s)(hM:M<1152921504606846976)(a:At)(u:Ac)(ha:AtR W a u)(hof:u.op.X.pJ)(how:u.op.w<18446744073709551616):
 aP ah 25 #[.c (some ⟨q,0,none⟩),.d a.ay] W (aAe W0 W q e x q2 g (nO e s u)):=
 (WS h.r hi hM a u ha hof how).g (by
  rintro z W' ⟨o,x',sl',rfl,ho,hE,hl,hr,hf⟩;exact⟨o,x',sl',rfl,ho,h.RG hE hf hr,hf,hr⟩)
theorem Oj(k:Vector UInt8 16)(c:Cn)(vs:List Vp)(A:Option aT)(na ca:Nat)(la:List At)(ua:List Ac)(W:ak)(hV:iJ Vp.ay 20 W W.a.j c.qH c.iK vs)(hvc:c.iK<=c.qI)(hcc:c.qI<=9223372036854775807)
 (hRa:iJ At.ay 34 W W.a.j A na la) (hla:ua.a=na) (hOa:∀i,i<na->AtO W (la.c i qE) (ua.c i anV)) (hna:na<=9223372036854775807) :
 aP ah 6 #[.d (jd k),.d c.ay,.a A na ca] W (gD W (.e true)):=by
 have z0:=((Bx.start W).new (jd k) 22).new c.ay 29;rw[show(W.alloc (.D (jd k) 22)).a.j=W.a.j+1 by simp]at z0;have Z0:=ab z0;clear z0;have V0:=ab hV;have RA:=ab hRa;have OA:=ab hOa;have LN:=ab (show ua.a=na/\na<=9223372036854775807/\c.iK<=c.qI/\c.qI<=9223372036854775807 from⟨hla,hna,hvc,hcc⟩);have CMa:=ab (fun(w:ak) (hb:aL W.a.j W w)=>aq0 c la A na ca w (RA.i.go hb) hna);clear hV hRa hOa hla hna hvc hcc;go_enter Tryz.func6,Tryz.ntmps6;go_upto_region 1 with fail
 have SZ0:=ab (show W.a.j+1<((W.alloc (.D (jd k) 22)).alloc (.D c.ay 29)).a.j by simp);generalize(W.alloc (.D (jd k) 22)).alloc (.D c.ay 29)=w1 at Z0 SZ0 ⊢;obtain⟨K1,hK1⟩:∃K,akh c la=K:=⟨_,rfl⟩
 obtain⟨K3,hK3⟩:∃K,xX c vs=K:=⟨_,rfl⟩
 rw[hK1]at CMa;have CK:=ab (fun(w:ak) (hb:aL W.a.j W w) (hn:c.iK<=100000)=>WZ c vs w (V0.i.go hb) hn);rw[hK3]at CK;have HK1:=ab hK1;have HK3:=ab hK3;clear hK1 hK3;cases K1
 ·go_upto_region 2 with(first
   | (go_at_call 12;(with_reducible refine(zN _).g ?_);rintro r w2 ⟨rfl,hb⟩;have Z2:=ab (Z0.i.go hb);have l2:=Vw.nC Z2.i.S (Cn.G _);clear hb)
   | (go_at_call 21;(with_reducible refine(CMa.i _ Z2.i.R).g ?_);rintro r w3 ⟨rfl,hb⟩;have Z3:=ab (Z2.i.go hb);have l3:=Vw.nC Z3.i.S (Cn.G _);clear hb))
  go_wp2_with (go_at_call 12;(with_reducible refine(zN _).g ?_);rintro r w9 ⟨rfl,hb⟩;have Z9:=ab (Z3.i.go hb);clear hb);go_ret;exact⟨rfl,Z9.i.R⟩
 have VN:=ab (show c.iK<=20/\la.a<=60 by
  have h1:=HK1.i;unfold akh QD at h1;simp only[bl,decide_eq_true_eq]at h1;exact⟨h1.1.1,h1.2.1⟩)
 cases K3
 ·go_upto_region 2 with(first
   | (go_at_call 12;(with_reducible refine(zN _).g ?_);rintro r w2 ⟨rfl,hb⟩;have Z2:=ab (Z0.i.go hb);have l2:=Vw.nC Z2.i.S (Cn.G _);clear hb)
   | (go_at_call 21;(with_reducible refine(CMa.i _ Z2.i.R).g ?_);rintro r w3 ⟨rfl,hb⟩;have Z3:=ab (Z2.i.go hb);have l3:=Vw.nC Z3.i.S (Cn.G _);clear hb)
   | (go_at_call 22;(with_reducible refine(CK.i _ Z3.i.R (by have:=VN.i;omega)).g ?_);rintro r w4 ⟨rfl,hb⟩;have Z4:=ab (Z3.i.go hb);have l4:=Vw.nC Z4.i.S (Cn.G _);clear hb))
  go_wp2_with (go_at_call 12;(with_reducible refine(zN _).g ?_);rintro r w9 ⟨rfl,hb⟩;have Z9:=ab (Z4.i.go hb);clear hb);go_ret;exact⟨rfl,Z9.i.R⟩
 go_upto_region 3 with(first
  | (go_at_call 12;(with_reducible refine(zN _).g ?_);rintro r w2 ⟨rfl,hb⟩;have Z2:=ab (Z0.i.go hb);have l2:=Vw.nC Z2.i.S (Cn.G _);clear hb)
  | (go_at_call 21;(with_reducible refine(CMa.i _ Z2.i.R).g ?_);rintro r w3 ⟨rfl,hb⟩;have Z3:=ab (Z2.i.go hb);have l3:=Vw.nC Z3.i.S (Cn.G _);clear hb)
  | (go_at_call 22;(with_reducible refine(CK.i _ Z3.i.R (by have:=VN.i;omega)).g ?_);rintro r w4 ⟨rfl,hb⟩;have Z4:=ab (Z3.i.go hb);have l4:=Vw.nC Z4.i.S (Cn.G _);clear hb))
 have N5:=ab (show c.iK<=100000 by have:=VN.i;omega);have CN:=ab (Zp k c vs w4 (V0.i.go Z4.i.R) LN.i.2.2.1 N5.i HK3.i);unfold Oh at CN;have lk5:=Wq.nC Z4.i.b1 (dL _);clear CMa CK;go_upto_region 4 with(go_at_call 23;(with_reducible refine CN.i.g ?_);rintro r w6 ⟨q,x,q2,g,sl,rfl,hE,hb,hq,hr⟩;have U6:=ab (Uno.start hE (aG _ _) hb hq hr);clear hE hb hq hr)
 go_upto_region 6 with fail
 have FE:=ab (show∀i,i<na->(la.c i qE).Ov<=1000000 by
  have h1:=HK1.i;unfold akh QD Zq at h1;simp only[bl,decide_eq_true_eq,gJ,eO]at h1;have e1:=RA.i.1;exact fun i hi=>by have:=(h1.2.2 i (by omega)).1;omega)
 have GA:=ab (show∀u∈ua,u.op.X.pJ/\u.op.w<18446744073709551616 from fun u hu=>by
  obtain⟨i,hi,rfl⟩:=List.mem_iff_getElem.1 hu;have h:=(OA.i i (by have:=LN.i.1;omega)).OH;rw[au,aC hi]at h;exact⟨h.1.1,h.2.1⟩)
 clear lk5 l2 l3 l4;go_wp2;go_loopw [9] (fun s9 wr=>∃(i:Nat)(x':Eg)(sl':List (Option Fw)),i<=na/\s9=.b .a i/\Uno w4 wr q ⟨k,c,vs⟩ (WX ⟨k,c,vs⟩ uL (ua.d i)) x' q2 g sl') (fun s9 _=>na-(intOf s9).e)
 case atStart=>exact⟨0,x,sl,by omega,rfl,U6.i⟩
 case round=>
  obtain⟨i,x',sl',hin,rfl,hu⟩:=hrel;have HU:=ab hu;have ZR:=ab (Z4.i.go (HU.i.R));clear hu;by_cases xE:i<na;rotate_left
  ·obtain rfl:i=na:=by omega
   have hnl:¬((i:Nat):Int)<i:=by omega
   go_wp2;go_ret;exact⟨rfl,ZR.i.R⟩
  have hlt2:(i:Int)<na:=by omega
  have aEW:i<60:=by have:=VN.i;have:=RA.i.1;omega
  have HI:=ab (an' (Qv k HK3.i) (ua.d i) (fun u hu=>GA.i u (List.mem_of_mem_take hu)));have HM:=ab (show(0:Int)+(ua.d i).a<=100 by have:=LN.i.1;simp;omega);have HC:=ab (aoa (e:=⟨k,c,vs⟩) (s:=uL) (by simp[uL]) (ua.d i));have RT:=ab (ako (e:=⟨k,c,vs⟩) (s:=uL) (us:=ua) (k:=i) (by have:=LN.i.1;omega));generalize(0:Int)+(ua.d i).a=M at HI HM;generalize WX ⟨k,c,vs⟩ uL (ua.d i)=s at HI HC RT HU;have A0:=ab (show Aw W wr q q2 g [(W.a.j+1,c.ay)]from⟨ZR.i.R,by have:=HU.i.new;have:=Z4.i.R.j;omega,HU.i.lt,fun p hp=>by simp at hp;subst hp;exact⟨by omega,by have:=HU.i.new;have:=Z4.i.S.lt;simp;omega,ZR.i.S⟩⟩);have CT:=ab (Jl HU.i.r HI.i);unfold aqT at CT;obtain⟨b,off,hA,hbl,hh,hcl⟩:=iJ.fI At.G qE RA.i xE;obtain⟨a,ha⟩:=tN (la.c i qE);obtain⟨u,hu⟩:=tN (ua.c i anV);have OI:=ab ((OA.i i xE).r (FE.i i xE));have OG:=ab (OA.i i xE).OH;have KB:=ab (fun(w':ak) (hb:aL W.a.j W w')=>show(xI 66 (.c (some ⟨b,off+i*34,none⟩))).I ah w' = .Z (.d a.ay) w' by
   obtain⟨b2,o2,hA2,_,h3,h4⟩:=iJ.fI At.G qE (RA.i.go hb) xE;rw[hA]at hA2;injection hA2 with hA2
   injection hA2 with e1 e2
   subst e1;subst e2;rw[az0 _ _ _ h3,h4,ha])
  have KC:=ab (fun(w':ak) (hb:aL W.a.j W w')=>show w'.b ⟨b,off+i*34,none⟩=some (.b .a a.kind)by
   obtain⟨b2,o2,hA2,_,h3⟩:=iJ.cell At.G qE (RA.i.go hb) xE;rw[hA]at hA2;injection hA2 with hA2
   injection hA2 with e1 e2
   subst e1;subst e2;have h4:=h3 0 (by omega);rw[ha]at h4;exact h4.trans (At.zq a))
  rw[ha]at OI;rw[hu]at OI OG RT;clear hh hcl hbl ha hu hin ZR;rw[hA];go_upto_region 10 with(go_at_call 20;(with_reducible refine CT.i.g ?_);rintro r v1 ⟨X,rfl,ho,hb⟩;have HO:=ab ho;have HB:=ab hb;clear ho hb)
  have B1:=ab ((aG v1.a.j v1).alloc (av _) (.D X.ay 37));have A1:=ab ((A0.i.go HB.i).add X.ay 37);have U1:=ab ((HU.i.go HB.i).go B1.i);have S1:=ab ((HO.i.r HI.i).go B1.i);have NS:=ab (show∀y,(y∈tF X.b.A\/y∈tF X.h.A\/y∈tF X.f.A)->y∉[q,q2,g]from fun y hy=>by have h1:=HU.i.lt;rcases hy with hy|hy|hy;(have h2:=(iH HO.i.b y hy).1;simp;omega);(have h2:=(iH HO.i.h y hy).1;simp;omega);(have h2:=(iH HO.i.f y hy).1;simp;omega));have NP:=ab (show∀y,(y∈tF X.b.A\/y∈tF X.h.A\/y∈tF X.f.A)->y∉[v1.a.j]from fun y hy=>by rcases hy with hy|hy|hy;(have h2:=(iH HO.i.b y hy).2;simp;omega);(have h2:=(iH HO.i.h y hy).2;simp;omega);(have h2:=(iH HO.i.f y hy).2;simp;omega));have PW:=ab (show wr.a.j<=v1.a.j/\W.a.j+1<v1.a.j/\w4.a.j<=v1.a.j/\q<v1.a.j/\q2<v1.a.j/\g<v1.a.j by
   have h1:=HB.i.j;have h2:=HU.i.lt;have h3:=HU.i.R.j;have h4:=Z4.i.S.lt;exact⟨h1,by omega,by omega,by omega,by omega,by omega⟩)
  have RX:=ab (show∀k∈oz x',k<wr.a.j from fun k hk=>(HU.i.r.b.EF k hk).1);generalize v1.alloc (.D X.ay 37)=v2 at A1 U1 S1 ⊢;generalize v1.a.j=p1 at A1 NP PW ⊢;have PA:=ab (show p1<v2.a.j from(A1.i.box (p:=(p1,X.ay)) (by simp)).lt);clear A0 CT HO HB B1 HU;have ka:=KB.i _ A1.i.R;have CS:=ab (akq U1.i HI.i (by have:=HM.i;omega) a u (OI.i.go A1.i.R) OG.i.1.1 OG.i.2.1);obtain⟨t,o',hst⟩:∃t o',nO ⟨k,c,vs⟩ s u=(t,o'):=⟨_,_,rfl⟩
  have HST:=ab hst;have IT:=ab (show nR (M+1) ⟨k,c,vs⟩ t by have:=uW HI.i u OG.i.1.1 OG.i.2.1;rw[hst]at this;exact this);rw[hst]at CS RT;unfold aAe at CS;clear hst;go_upto_region 11 with(go_at_call 25;(with_reducible refine CS.i.g ?_);rintro r v3 ⟨o,y,sm,rfl,h1,h2,h3,h4⟩;have HO:=ab h1;have HU:=ab h2;have HF:=ab h3;have HR:=ab h4;clear h1 h2 h3 h4)
  have NR:=ab (show∀k∈oz y,k≠p1 from fun k hk=>by
   have h0:=PW.i.1;have h1:=PA.i;rcases HR.i k hk with h|h
   ·have:=RX.i k h
    omega
   ·omega)
  have BB:=ab ((aG v3.a.j v3).alloc (av _) (.D o.ay 58));have A2:=ab ((A1.i.step HF.i).add o.ay 58);have U2:=ab (HU.i.go BB.i);have O2:=ab (HO.i.rd.go BB.i);have S2:=ab ((S1.i.RG HF.i NS.i).go BB.i);have NO:=ab (show∀b∈tF o.Oe,b∉[p1]from fun b hb=>by have h1:=PA.i;have h2:=(iH HO.i.vB b hb).1;simp;omega);have P12:=ab (show p1≠v3.a.j/\p1<(v3.alloc (.D o.ay 58)).a.j by have h1:=PA.i;have h2:=HF.i.j;simp;omega);generalize v3.alloc (.D o.ay 58)=v4 at A2 U2 O2 S2 P12 ⊢;generalize v3.a.j=p2 at A2 P12 ⊢;clear A1 U1 S1 CS HO HU HF BB ka NS;have CT:=ab (Jl U2.i.r IT.i);unfold aqT at CT;go_upto_region 12 with(go_at_call 20;(with_reducible refine CT.i.g ?_);rintro r v5 ⟨Y,rfl,ho,hb⟩;have HO:=ab ho;have HB:=ab hb;clear ho hb)
  have B1:=ab ((aG v5.a.j v5).alloc (av _) (.D Y.ay 37));have A3:=ab ((A2.i.go HB.i).add Y.ay 37);have U3:=ab ((U2.i.go HB.i).go B1.i);have O3:=ab ((O2.i.go HB.i).go B1.i);have S3:=ab ((S2.i.go HB.i).go B1.i);have T3:=ab ((HO.i.r IT.i).go B1.i);have NY:=ab (show∀y,(y∈tF Y.b.A\/y∈tF Y.h.A\/y∈tF Y.f.A)->y∉[p1]from fun y hy=>by have h1:=P12.i.2;rcases hy with hy|hy|hy;(have h2:=(iH HO.i.b y hy).1;simp;omega);(have h2:=(iH HO.i.h y hy).1;simp;omega);(have h2:=(iH HO.i.f y hy).1;simp;omega));have P13:=ab (show p1≠v5.a.j by have h1:=P12.i.2;have h2:=HB.i.j;omega);generalize v5.alloc (.D Y.ay 37)=v6 at A3 U3 O3 S3 T3 ⊢;generalize v5.a.j=p3 at A3 P13 ⊢;clear A2 U2 O2 S2 CT HO HB B1;have HL:=ab IT.i.aFA;have CR:=ab (fun(w:ak) (hb:aL W.a.j W w) (hS:Qg w w.a.j Y t)=>Dk c vs Y t w (V0.i.go hb) LN.i.2.2.1 N5.i hS (by have:=HL.i;omega) (by have:=HL.i;omega) (by have:=HL.i;omega) true (IT.i.right (by have:=HM.i;omega)));have ld1:=Vw.nC (A3.i.box (p:=(W.a.j+1,c.ay)) (by simp)) (Cn.G _);have ld2:=BM (A3.i.box (p:=(p3,Y.ay)) (by simp));go_wp2_with fail
  (with_reducible refine(CR.i _ A3.i.R T3.i).g ?_)
  rintro r v7 ⟨rfl,hb⟩;have A4:=ab (A3.i.go hb);have U4:=ab (U3.i.go hb);have O4:=ab (O3.i.go hb);have S4:=ab (S3.i.go hb);have T4:=ab (T3.i.go hb);clear hb ld1 ld2 A3 U3 O3 S3 T3 CR;have CP:=ab (aem HC.i u HST.i);obtain⟨c1,c2,c3,c4⟩:=(A4.i.box (p:=(W.a.j+1,c.ay)) (by simp)).K;obtain⟨x1,x2,x3,x4⟩:=(A4.i.box (p:=(p1,X.ay)) (by simp)).K;obtain⟨o1,o2,o3,o4⟩:=(A4.i.box (p:=(p2,o.ay)) (by simp)).K;obtain⟨y1,y2,y3,y4⟩:=(A4.i.box (p:=(p3,Y.ay)) (by simp)).K;have r0:=Cn.Ng c;have n0:Y.ay[6]? = some (.b .a Y.no):=(Sh.Yu Y 0 (by omega)).trans (by
   have h1:=CP.i.1;rw[T4.i.no,T4.i.ji,<-h1];simp[au])
  have q1:decide (c.dU<(Y.f.n:Int))=false:=decide_eq_false (by have h1:=IT.i.fl.len;have h2:=T4.i.f.1;simp only at h1;omega);have q2_:decide (o.h<0)=false:=decide_eq_false (by have h1:=CP.i.2.1;have h2:=O4.i.h;omega);have q3_:decide ((10:Int)<o.h)=false:=decide_eq_false (by have h1:=CP.i.2.1;have h2:=O4.i.h;omega);go_upto_region 14 with fail
  have OE:=ab O4.i.err;have AK:=ab OI.i.kind;have OE2:=ab O4.i.h;by_cases hk:u.kind=1
  ·have hz:o.err=0:=by rw[OE.i];exact(CP.i.2.2.2.1 hk).1
   have k1:(a.kind==1)=true:=by rw[AK.i,hk];rfl
   have k2:decide (a.kind=1)=true:=by rw[AK.i,hk];rfl
   have HKD:=ab (CP.i.2.2.2.1 hk).2;have E1:(o.err != 0)=false:=by rw[hz];rfl
   have E2:decide (o.err≠0)=false:=by simp[hz]
   have E3:decide (o.err=0)=true:=by simp[hz]
   have E4:(o.err==0)=true:=by simp[hz]
   have kc:=KC.i _ A4.i.R;clear hz hk;go_upto_region 16 with fail
   clear c1 c2 c3 c4 x1 x2 x3 x4 o1 o2 o3 o4 y1 y2 y3 y4 r0 n0 q1 q2_ q3_;obtain⟨r,hr⟩:∃r:Nat,o.h=(r:Int):=⟨o.h.e,by have h1:=CP.i.2.1;have h2:=O4.i.h;omega⟩
   have ara:r<11:=by have h1:=CP.i.2.1;have h2:=O4.i.h;omega
   have HR:=ab hr;have aFF:=ab ara;have o0:=((A4.i.box (p:=(p2,o.ay)) (by simp)).K.1 0).trans (Oc.agt o);have o1:=((A4.i.box (p:=(p2,o.ay)) (by simp)).K.1 1).trans ((Oc.JZ o).trans (by rw[hr]));obtain⟨d1,d2,d3,d4⟩:=(A4.i.box (p:=(p1,X.ay)) (by simp)).K;have b1:=(d1 (6+r)).trans (Sh.Yu X r ara);have b2:=d2 (6+r);have NB:=ab (show 0<=X.ji.a.c r 0/\X.ji.a.c r 0+1<=9223372036854775807 by
    have h1:=HI.i.ct (s.ji.a.c r 0) (AY 0 s.ji.a r (by simpa using ara));have h2:=HM.i;rw[S4.i.ji];omega)
   have hw:=jS (X.ji.a.c r 0+1) (by have:=NB.i;omega);have hk0:(0:Int)<=(r:Int):=by omega
   have hk1:(r:Int)<11:=by omega
   obtain⟨n,hn⟩:=cB (X.ji.a.c r 0);rw[<-hn]at b1 hw;have HN:=ab hn;clear hn hr d1 d2 d3 d4;go_upto_region 18 with fail
   have NE:=HN.i;have F8:=ab ((jC.refl [p1] v7).set ⟨p1,6+r,none⟩ (.b .a (n+1)) (by simp));have B8:=ab (show dK (v7.F ⟨p1,6+r,none⟩ (.b .a (n+1))) p1 ({X with ji:=Oq X.ji r}:Sh).ay by
    have h:=(A4.i.box (p:=(p1,X.ay)) (by simp)).eF (6+r) (.b .a (n+1));rw[HN.i,Sh.aAd X r aFF.i]at h;rw[HN.i];exact h)
   obtain⟨X',hX'⟩:∃X':Sh,X'={X with ji:=Oq X.ji r}:=⟨_,rfl⟩
   have S8:=ab (show Qg (v7.F ⟨p1,6+r,none⟩ (.b .a (n+1))) (v7.F ⟨p1,6+r,none⟩ (.b .a (n+1))).a.j X' {s with ji:=Oq s.ji r}by
    rw[hX'];exact(S4.i.RG F8.i NP.i).aq9 (by rw[S4.i.ji]))
   rw[<-hX']at B8;have HC:=ab (show Y.ji=X'.ji/\(o'.h≠0->IQ {s with ji:=Oq s.ji r} t=true/\o'={uV with h:=o'.h})by
    have h1:=HKD.i;have h2:=OE2.i;rw[HR.i]at h2;rw[<-h2]at h1;refine⟨?_,fun h=>?_⟩
    ·rw[T4.i.ji,hX',h1.1,S4.i.ji]
    ·have h3:=h1.2 (by rw[h2];exact h)
     rw[h2]at h3;rw[<-h2]at h3;exact⟨h3.1,by rw[<-h2];exact h3.2⟩)
   have T8:=ab (T4.i.RG F8.i NY.i);have O8:=ab (O4.i.keep F8.i NO.i);have U8:=ab (U4.i.apart F8.i PW.i.2.2.1 (by have:=PW.i;omega) (by have:=PW.i;omega) (by have:=PW.i;omega) NR.i);have A8:=ab (A4.i.aFB (c:=X.ay) (L':=[(p3,Y.ay),(p2,o.ay),(W.a.j+1,c.ay)]) F8.i B8.i (by simp) (fun z hz=>by
    have h1:=P12.i.1;have h2:=P13.i;have h3:=PW.i.2.1;simp only[bg,List.mem_nil_iff,or_false]at hz;rcases hz with rfl|rfl|rfl
    ·exact⟨by simp,by simp only;omega⟩
    ·exact⟨by simp,by simp only;omega⟩
    ·exact⟨by simp,by simp only;omega⟩))
   clear hX' hw b1 b2 o0 o1 kc hk0 hk1 ara NE;generalize v7.F ⟨p1,6+r,none⟩ (.b .a (n+1))=w8 at A8 S8 T8 O8 U8 ⊢;clear F8 B8;have KW:=ab (fun(w':ak) (h:Aw W w' q q2 g [(p1,X'.ay),(p3,Y.ay),(p2,o.ay),(W.a.j+1,c.ay)])=>show(Lh (.c (some ⟨p1,0,none⟩))).I ah w' = .Z (.d X'.ay) w'/\(Lh (.c (some ⟨p3,0,none⟩))).I ah w' = .Z (.d Y.ay) w'/\(xI 58 (.c (some ⟨p2,0,none⟩))).I ah w' = .Z (.d o.ay) w'/\w'.b ⟨p2,1,none⟩=some (.b .a (r:Nat))/\w'.b ⟨p2,0,none⟩=some (.b .a o.err)from⟨BM (h.box (p:=(p1,X'.ay)) (by simp)),BM (h.box (p:=(p3,Y.ay)) (by simp)),Zm.nC (h.box (p:=(p2,o.ay)) (by simp)) (Oc.G _),((h.box (p:=(p2,o.ay)) (by simp)).K.1 1).trans ((Oc.JZ _).trans (by rw[HR.i])),((h.box (p:=(p2,o.ay)) (by simp)).K.1 0).trans (Oc.agt _)⟩);obtain⟨x1,x2,x3,x4⟩:=(A8.i.box (p:=(p1,X'.ay)) (by simp)).K;obtain⟨y1,y2,y3,y4⟩:=(A8.i.box (p:=(p3,Y.ay)) (by simp)).K;have hx:dY X'.ay=17:=Sh.G X';have hy:dY Y.ay=17:=Sh.G Y;have e1:decide (Y.ji=X'.ji)=true:=decide_eq_true HC.i.1;obtain⟨z1,z2,z3,z4,z5⟩:=KW.i _ A8.i;by_cases h0:r=0
   ·have g1:((r:Int) != 0)=false:=by rw[h0];rfl
    have g2:decide ((r:Int)≠0)=false:=by simp[h0]
    have g3:decide ((r:Int)=0)=true:=by simp[h0]
    clear h0;go_wp2;exact⟨⟨i+1,y,sm,by omega,by rw[show((i+1:Nat):Int)=(i:Int)+1 by omega],by rw[RT.i];exact U8.i⟩,by simp only[intOf];omega⟩
   have g1:((r:Int) != 0)=true:=by simpa using h0
   have g2:decide ((r:Int)≠0)=true:=by simpa using h0
   have g3:decide ((r:Int)=0)=false:=by simpa using h0
   have SE:=ab (HC.i.2 (by rw[<-OE2.i,HR.i];omega));have CS1:=ab (fun(w:ak) (hS:Qg w w.a.j X' {s with ji:=Oq s.ji r}) (hT:Qg w w.a.j Y t)=>KI X' Y _ t w hS hT true SE.i.1);have CO:=ab (fun(w:ak) (h:OcR w o o')=>WU o (Oc.mk 0 (r:Nat) false 0 [] none 0 0) o' {uV with h:=((r:Nat):Int)} w h (ahU w 0 (r:Nat)) true (by have h1:=SE.i.2;have h2:=OE2.i;rw[<-h2,HR.i]at h1;exact decide_eq_true h1));clear h0;go_wp2_with (first
    | (go_at_call 18;(with_reducible refine(CS1.i _ S8.i T8.i).g ?_);rintro e w9 ⟨rfl,hb⟩;have A9:=ab (A8.i.go hb);have O9:=ab (O8.i.go hb);have U9:=ab (U8.i.go hb);obtain⟨z6,z7,z8,z9,z10⟩:=KW.i _ A9.i;clear hb z1 z2 z3 z4 z5 x1 x2 x3 x4 y1 y2 y3 y4)
    | (go_at_call 24;(with_reducible refine(CO.i _ O9.i).g ?_);rintro e w10 ⟨rfl,hb⟩;have U10:=ab (U9.i.go hb);clear hb z6 z7 z8 z9 z10))
   exact⟨⟨i+1,y,sm,by omega,by rw[show((i+1:Nat):Int)=(i:Int)+1 by omega],by rw[RT.i];exact U10.i⟩,by simp only[intOf];omega⟩
  have k1:(a.kind==1)=false:=by rw[AK.i];simpa using hk
  have k2:decide (a.kind=1)=false:=by rw[AK.i];simpa using hk
  have HKD:=ab (CP.i.2.2.2.2 hk);clear hk;by_cases hz:o.err=0
  ·have E1:(o.err != 0)=false:=by rw[hz];rfl
   have E2:decide (o.err≠0)=false:=by simp[hz]
   have E3:decide (o.err=0)=true:=by simp[hz]
   have E4:(o.err==0)=true:=by simp[hz]
   have kc:=KC.i _ A4.i.R;clear hz;go_upto_region 16 with fail
   clear c1 c2 c3 c4 x1 x2 x3 x4 o1 o2 o3 o4 y1 y2 y3 y4 r0 n0 q1 q2_ q3_ E1 E2 E3 E4;go_upto_region 20 with fail
   obtain⟨x1,x2,x3,x4⟩:=(A4.i.box (p:=(p1,X.ay)) (by simp)).K;obtain⟨y1,y2,y3,y4⟩:=(A4.i.box (p:=(p3,Y.ay)) (by simp)).K;have hx:dY X.ay=17:=Sh.G X;have hy:dY Y.ay=17:=Sh.G Y;have e1:decide (Y.ji=X.ji)=true:=decide_eq_true (by rw[T4.i.ji,S4.i.ji];exact HKD.i.1);have e2:(Y.no != X.no)=false:=by rw[T4.i.no,S4.i.no,HKD.i.2];simp
   have e3:decide (Y.no≠X.no)=false:=by simpa using e2
   have e4:decide (Y.no=X.no)=true:=by simpa using e2
   go_wp2;exact⟨⟨i+1,y,sm,by omega,by rw[show((i+1:Nat):Int)=(i:Int)+1 by omega],by rw[RT.i];exact U4.i⟩,by simp only[intOf];omega⟩
  have SE:=ab (CP.i.2.2.1 (by rw[<-OE.i];exact hz));have CS1:=ab (fun(w:ak) (hS:Qg w w.a.j X s) (hT:Qg w w.a.j Y t)=>KI X Y s t w hS hT true SE.i.1);have CO:=ab (fun(w:ak) (h:OcR w o o')=>WU o (Oc.mk o.err 0 false 0 [] none 0 0) o' {uV with err:=o.err} w h (ahU w o.err 0) true (by have h1:=SE.i.2;have h2:=OE.i;rw[h2];exact decide_eq_true h1));have KW:=ab (fun(w':ak) (h:Aw W w' q q2 g [(p3,Y.ay),(p2,o.ay),(p1,X.ay),(W.a.j+1,c.ay)])=>show(Lh (.c (some ⟨p1,0,none⟩))).I ah w' = .Z (.d X.ay) w'/\(Lh (.c (some ⟨p3,0,none⟩))).I ah w' = .Z (.d Y.ay) w'/\(xI 58 (.c (some ⟨p2,0,none⟩))).I ah w' = .Z (.d o.ay) w'/\w'.b ⟨p2,0,none⟩=some (.b .a o.err)from⟨BM (h.box (p:=(p1,X.ay)) (by simp)),BM (h.box (p:=(p3,Y.ay)) (by simp)),Zm.nC (h.box (p:=(p2,o.ay)) (by simp)) (Oc.G _),((h.box (p:=(p2,o.ay)) (by simp)).K.1 0).trans (Oc.agt _)⟩);have E1:(o.err != 0)=true:=by simpa using hz
  have E2:decide (o.err≠0)=true:=by simpa using hz
  have E3:decide (o.err=0)=false:=by simpa using hz
  have E4:(o.err==0)=false:=by simpa using hz
  clear c1 c2 c3 c4 x1 x2 x3 x4 o1 o2 o3 o4 y1 y2 y3 y4 r0 n0 q1 q2_ q3_;obtain⟨z1,z2,z3,z4⟩:=KW.i _ A4.i;go_upto_region 16 with(first
   | (go_at_call 18;(with_reducible refine(CS1.i _ S4.i T4.i).g ?_);rintro r w8 ⟨rfl,hb⟩;have A5:=ab (A4.i.go hb);have O5:=ab (O4.i.go hb);have U5:=ab (U4.i.go hb);obtain⟨z5,z6,z7,z8⟩:=KW.i _ A5.i;clear hb z1 z2 z3 z4)
   | (go_at_call 24;(with_reducible refine(CO.i _ O5.i).g ?_);rintro r w9 ⟨rfl,hb⟩;have A6:=ab (A5.i.go hb);have U6:=ab (U5.i.go hb);clear hb z5 z6 z7 z8))
  have kc:=KC.i _ A6.i.R;go_upto_region 20 with fail
  obtain⟨x1,x2,x3,x4⟩:=(A6.i.box (p:=(p1,X.ay)) (by simp)).K;obtain⟨y1,y2,y3,y4⟩:=(A6.i.box (p:=(p3,Y.ay)) (by simp)).K;have hx:dY X.ay=17:=Sh.G X;have hy:dY Y.ay=17:=Sh.G Y;have e1:decide (Y.ji=X.ji)=true:=decide_eq_true (by rw[T4.i.ji,S4.i.ji];exact HKD.i.1);have e2:(Y.no != X.no)=false:=by rw[T4.i.no,S4.i.no,HKD.i.2];simp
  have e3:decide (Y.no≠X.no)=false:=by simpa using e2
  have e4:decide (Y.no=X.no)=true:=by simpa using e2
  go_wp2;exact⟨⟨i+1,y,sm,by omega,by rw[show((i+1:Nat):Int)=(i:Int)+1 by omega],by rw[RT.i];exact U6.i⟩,by simp only[intOf];omega⟩
end Go.Proofs.YtkjojjopamaoiaaGreat
