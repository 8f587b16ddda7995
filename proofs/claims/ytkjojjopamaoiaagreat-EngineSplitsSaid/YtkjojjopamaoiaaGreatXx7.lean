/- Parts. -/
import Derived.Test.YtkjojjopamaoiaaGreatXx6
import Derived.Lib.SlBytesConst
set_option linter.unusedSimpArgs false
set_option linter.unusedVariables false
set_option linter.unusedSectionVars false
set_option maxRecDepth 100000
set_option maxHeartbeats 8000000
open Array renaming size->Array.z,getElem?_extract->dx,setIfInBounds_append->aM,toList_inj->Ig,mapM->iB,getElem?_toList->dD
open Bool renaming eq_iff_iff->cO
open Go renaming Value->aC,World->au,TypeId->bM,Addr->aU,Ending->kX,Calls->aR
open Go.Addr renaming add->rF,add_mid->iC
open Go.DataW renaming trod->lX,trod_struct->uX,trod_bool->I5
open Go.Instr renaming buildSlice->bJ,build->fJ
open Go.IntKind renaming i64->Go.IntKind.i,u8->aX,i64->bU
open Go.Lib renaming hid->ah
open Go.Proofs.Tryz renaming prog->aj,underlying37->su,underlying98->sw,underlying29->mY,underlying56->dw,underlying5->lD,underlying66->lM,underlying27->eZ,underlying64->vH,underlying62->og
open Go.RowKit renaming Below->aN
open Go.Value renaming slice->Go.Value.s,pointer->Go.Value.p,int->aJ,cells->cu,okWide->IZ,oneCell'->cK,string->jc,bool->bQ,float->AX
open List renaming length->List.n,mem_map->iQ,any_eq_true->tQ,getElem?_eq_none->aT,getElem?_toArray->dZ,getD_eq_getElem?_getD->av,eq_nil_of_length_eq_zero->bF,drop_of_length_le->iR,getElem?_eq_getElem->aD,mem_cons->bD,mem_singleton->fO
open Nat renaming zero_add->bB,lt_or_ge->bf,le_refl->ay
open UInt8 renaming ofNat->aK
open Vector renaming replicate->bG,ofFn->ED
open Go.World renaming heap->Go.World.h
open Go.Obj renaming cells->Go.Obj.c
namespace Go.Proofs.YtkjojjopamaoiaaGreat
open Go.RowKit
theorem Bx.V8{L:List (Nat×Array aC)}{W0 W W':au}{M:Nat}(h:Bx L W0 W)(hg:W.grownBy W' (some M))(hM:W0.h.z<=M)(hL:∀p∈L,p.1≠M):Bx L W0 W':=
 ⟨um h.1 hg hM h.1.size,fun p hp=>⟨(h.2 p hp).1,(h.2 p hp).2.grown hg (fun e=>hL p hp (by injection e))⟩⟩
def EC(l:List Fw)(k:Nat):List Tu:=((l.take k).map (·.key)).reverse
theorem afJ{l:List Fw}{k:Nat}(hk:k<l.n):(l.getD k kQ).key::EC l k=EC l (k+1):=by
 unfold EC;rw[List.take_succ_eq_append_getElem hk,List.map_append,List.reverse_append,uS hk];rfl
theorem aip(l:List Fw)(k:Nat):decide ((l.getD k kQ).key∈EC l k)=aaQ l k:=by
 unfold EC aaQ;rw[cO];simp only[List.mem_reverse,iQ,decide_eq_true_eq,tQ,uo]
theorem Sm{W:au}{b:Nat}{x:Fw}(h:dL W b x.aA):(xI (.p (some ⟨b,0,none⟩))).run aj W=.ok (.agg x.key.aA) W:=by
 have hs:eu x.aA=41:=Fw.ak x;rw[UW W b 0 (of_eq_true (h.aI.2.2.1 0 37 (by omega))),h.aI.2.2.2 0 37 (by omega),bB,Fw.Tj]
theorem Ka(x:Cn)(vs:List Vp)(X:Sh)(s:qK)(w:au)(hV:iO Vp.aA 20 w w.h.z x.qO x.iH vs)(hvc:x.iH<=x.qP)(hvn:x.iH<=100000)(hS:StR w w.h.z X s)(Jp:s.sW.n<=100000)(hhl:s.nP.n<=100000)(hfl:s.sN.n<=100000)(J:Bool)(hJ:zQ x vs s=J):
 aR aj 15 #[.agg x.aA,.agg X.aA] w (gP w (.bool J)):=by
 obtain⟨vv,⟨bA,bn,bc⟩,⟨gA,gn,gc⟩,⟨fA,fn,fc⟩,tk,nn,ct⟩:=X;obtain rfl:vv=s.mq:=hS.mq;obtain rfl:tk=s.gN:=hS.gN;obtain rfl:nn=s.no:=hS.no;obtain rfl:ct=s.mg:=hS.mg;have hbn:s.sW.n=bn:=hS.b.1;have hgn:s.nP.n=gn:=hS.h.1;have hfn:s.sN.n=fn:=hS.f.1;have HBN:=ah hbn;have HGN:=ah hgn;have HFN:=ah hfn;have HS:=ah hS;have HLS:=ah (show bn<=100000/\gn<=100000/\fn<=100000 by omega);obtain⟨K1,Od⟩:∃K,yM x vs=K:=⟨_,rfl⟩
 obtain⟨K2,Gd⟩:∃K,yD s.mq s.sW=K:=⟨_,rfl⟩
 obtain⟨K3,hK3⟩:∃K,decide (gn=bn)=K:=⟨_,rfl⟩
 obtain⟨K4,hK4⟩:∃K,decide ((fn:Int)<=x.dR)=K:=⟨_,rfl⟩
 obtain⟨KN,hKN⟩:∃K,afb s=K:=⟨_,rfl⟩
 obtain⟨KH,hKH⟩:∃K,(List.range gn).all (JZ x s)=K:=⟨_,rfl⟩
 obtain⟨KF,hKF⟩:∃K,(List.range fn).all (Uv s)=K:=⟨_,rfl⟩
 have HJ:=ah (show J=((K1&&(K2&&(K3&&K4)))&&(KN&&(KH&&KF)))by rw[<-hJ,<-Od,<-Gd,<-hK3,<-hK4,<-hKN,<-hKH,<-hKF,<-hbn,<-hgn,<-hfn];rfl);have HKN:=ah hKN;have HKH:=ah hKH;have HKF:=ah hKF;have q3:((gn:Int) != (bn:Int)) = !K3:=by rw[<-hK3];by_cases h:gn=bn<;>simp[h];omega
 have q4:decide (x.dR<(fn:Int)) = !K4:=by rw[<-hK4];by_cases h:(fn:Int)<=x.dR<;>simp[h]<;>omega
 have HK3:=ah hK3;clear hJ hK4 hKN hKH hKF hbn hgn hfn Jp hhl hfl hK3;have h0:=((Bx.start w).new x.aA 29).new (Sh.mk s.mq ⟨bA,bn,bc⟩ ⟨gA,gn,gc⟩ ⟨fA,fn,fc⟩ s.gN s.no s.mg).aA 37;rw[show(w.alloc (.c x.aA 29)).h.z=w.h.z+1 by simp]at h0;have Z0:=ah h0;clear h0;obtain⟨XA,hXA⟩:∃A,A=(Sh.mk s.mq ⟨bA,bn,bc⟩ ⟨gA,gn,gc⟩ ⟨fA,fn,fc⟩ s.gN s.no s.mg).aA:=⟨_,rfl⟩
 have XF:=ah (show XA.extract 0 2 = #[.int .i s.mq,.slice bA bn bc]/\XA[0]? = some (.int .i s.mq)/\XA[1]? = some (.s bA bn bc)/\XA[2]? = some (.s gA gn gc)/\XA[3]? = some (.s fA fn fc)/\XA[4]? = some (.int .i s.gN)/\XA[5]? = some (.int .i s.no)/\∀j,j<11->XA[6+j]? = some (.int .i (s.mg.toList.getD j 0))by
  rw[hXA];exact⟨Sh.OQ _,Sh.qH _,Sh.Il _,Sh.Zu _,Sh.aiM _,Sh.aok _,Sh.aol _,fun j hj=>Sh.ajd _ j hj⟩)
 have CC:=ah (fun w1 (hb:aN w.h.z w w1)=>Zm x vs w1 (hV.go hb) hvc hvn);have CP:=ah (fun w1 (hb:aN w.h.z w w1)=>ahg s.sW HS.out.ru s.mq bA bn bc w1 (HS.out.b.go hb) (by have:=HLS.out;omega) K2 Gd);rw[Od]at CC;have XS:=ah (show XA.size=17 by rw[hXA];exact Sh.ak _);clear Od Gd hV hS;go_enter Tryz.func15,Tryz.ntmps15;go_upto_region 1 with fail
 generalize(w.alloc (.c x.aA 29)).alloc (.c (Sh.mk s.mq ⟨bA,bn,bc⟩ ⟨gA,gn,gc⟩ ⟨fA,fn,fc⟩ s.gN s.no s.mg).aA 37)=w0 at Z0 ⊢;rw[<-hXA]at Z0;clear hXA;obtain⟨x1,x2,x3,x4⟩:=Z0.out.b1.aI;go_wp2_with fail
 (with_reducible refine(CC.out _ Z0.out.dF).mono ?_)
 rintro e w1 ⟨rfl,gI⟩;have Z1:=ah (Z0.out.go gI);clear gI x1 x2 x3 x4;cases K1
 ·skip
  go_wp2;go_ret;exact⟨by rw[HJ.out];rfl,Z1.out.dF⟩
 obtain⟨e0,e1,e2,e3,e4,e5,e6,e7⟩:=XF.out;obtain⟨y1,y2,y3,y4⟩:=Z1.out.b0.aI;have hys:eu XA=17:=by have:=Z1.out.b0;unfold eu;exact XS.out
 go_wp2_with fail
 (with_reducible refine(CP.out _ Z1.out.dF).mono ?_)
 rintro e w2 ⟨rfl,kF⟩;have Z2:=ah (Z1.out.go kF);clear kF y1 y2 y3 y4;cases K2
 ·skip
  go_wp2;go_ret;exact⟨by rw[HJ.out];rfl,Z2.out.dF⟩
 obtain⟨x1,x2,x3,x4⟩:=Z2.out.b1.aI;obtain⟨y1,y2,y3,y4⟩:=Z2.out.b0.aI;have z2:=Cn.U3 x;cases K3
 ·simp only[Bool.not_false]at q3
  go_wp2;go_ret;exact⟨by rw[HJ.out];rfl,Z2.out.dF⟩
 cases K4
 ·simp only[Bool.not_false]at q4
  go_wp2;go_ret;exact⟨by rw[HJ.out];rfl,Z2.out.dF⟩
 simp only[Bool.not_true]at q3 q4;obtain⟨a1,ha1⟩:∃a,decide (s.gN<0)=a:=⟨_,rfl⟩
 obtain⟨a2,ha2⟩:∃a,decide (1099511627776<s.gN)=a:=⟨_,rfl⟩
 obtain⟨a3,ha3⟩:∃a,decide (s.no<0)=a:=⟨_,rfl⟩
 obtain⟨a4,ha4⟩:∃a,decide (1152921504606846976<s.no)=a:=⟨_,rfl⟩
 obtain⟨a5,ha5⟩:∃a,s.mg.toList.any AO=a:=⟨_,rfl⟩
 have aiq:=ah (show KN=(!a1&&(!a2&&(!a3&&(!a4 && !a5))))by
  rw[<-HKN.out,<-ha1,<-ha2,<-ha3,<-ha4,<-ha5,as1];unfold afb ZC;rw[cO];simp only[Bool.and_eq_true,decide_eq_true_eq,Bool.not_eq_true',decide_eq_false_iff_not,Bool.not_not];constructor
  ·rintro⟨h1,h2,h3⟩;exact⟨by omega,by omega,by omega,by omega,h3⟩
  ·rintro⟨h1,h2,h3,h4,h5⟩;exact⟨by omega,by omega,h5⟩)
 have CA:=ah (axV (some ⟨w.h.z+1,6,none⟩) 11 11 w2.h.z w2 s.mg.toList (by omega) (by have:=RdI.box (l:=s.mg.toList) (o:=6) Z2.out.b0 (fun j hj=>e7 j (by simpa using hj));rw[Vector.length_toList]at this;exact this));rw[ha5]at CA;clear ha5;cases a1;rotate_left
 ·skip
  go_wp2;go_ret;exact⟨by rw[HJ.out,aiq.out];rfl,Z2.out.dF⟩
 cases a2;rotate_left
 ·skip
  go_wp2;go_ret;exact⟨by rw[HJ.out,aiq.out];rfl,Z2.out.dF⟩
 cases a3;rotate_left
 ·skip
  go_wp2;go_ret;exact⟨by rw[HJ.out,aiq.out];rfl,Z2.out.dF⟩
 cases a4;rotate_left
 ·skip
  go_wp2;go_ret;exact⟨by rw[HJ.out,aiq.out];rfl,Z2.out.dF⟩
 go_wp2_with fail
 (with_reducible refine CA.out.mono ?_)
 rintro e w3 ⟨rfl,rfl⟩;cases a5;rotate_left
 ·skip
  go_wp2;go_ret;exact⟨by rw[HJ.out,aiq.out];rfl,Z2.out.dF⟩
 have HJ:=ah (show J=(KH&&KF)by rw[HJ.out,aiq.out];simp);have hgb:=of_decide_eq_true HK3.out;subst hgb;clear ha1 ha2 ha3 ha4 q3 q4 aiq HKN CA HK3;go_wp2;clear x1 x2 x3 x4 y1 y2 y3 y4 z2;go_loopw [64] (fun s64 wr=>∃i:Nat,i<=gn/\s64=.int .i i/\Bx [(w.h.z+1,XA),(w.h.z,x.aA)] w wr/\∀k,k<i->JZ x s k=true) (fun s64 _=>gn-(intOf s64).toNat)
 case atStart=>exact⟨0,by omega,rfl,Z2.out,fun k hk=>by omega⟩
 case round=>
  obtain⟨i,wW,rfl,hz,mV⟩:=hrel;have ZR:=ah hz;have HA:=ah mV;clear hz mV;by_cases fP:i<gn
  ·have Cc:(i:Int)<gn:=by omega
   have hgs:gn<=100000:=HLS.out.2.1;obtain⟨y,hy⟩:∃y,s.nP.getD i lG=y:=⟨_,rfl⟩
   obtain⟨b,o,rfl,_,hh,uh,_,_⟩:=iO.hl (show RdH wr wr.h.z gA gn s.nP from HS.out.h.go ZR.out.dF) fP;rw[hy]at uh;have ZY:=ah (ZR.out.new y.aA 100);go_upto_region 8 with fail
   generalize wr.alloc (.c y.aA 100)=w5 at ZY ⊢;generalize wr.h.z=py at ZY ⊢;clear hh uh;obtain⟨b2,o2,rfl,_,VY⟩:=iO.cell Bk.ak jo (show iO Bk.aA 27 w5 w5.h.z bA gn s.sW from HS.out.b.go ZY.out.dF) fP;have n0:=(VY 0 (by omega)).trans (Bk.qH _);rw[Nat.add_zero]at n0;clear VY;obtain⟨nm,YQ⟩:∃n,(s.sW.getD i jo).name=n:=⟨_,rfl⟩
   rw[YQ]at n0;obtain⟨x1,x2,x3,x4⟩:=ZY.out.b2.aI;obtain⟨y1,y2,y3,y4⟩:=ZY.out.b1.aI;obtain⟨u1,u2,u3,u4⟩:=ZY.out.b0.aI;have d0:=Hl.qH y;have d1:=Hl.Il y;have d2:=Hl.Zu y;obtain⟨t1,ht1⟩:∃a,(y.name==nm)=a:=⟨_,rfl⟩
   obtain⟨t2,ht2⟩:∃a,decide (y.run<0)=a:=⟨_,rfl⟩
   have T1:(y.name != nm) = !t1:=by rw[<-ht1];rfl
   have T2:decide (y.name=nm)=t1:=by rw[<-ht1];rw[cO];simp
   have T3:decide (y.name≠nm) = !t1:=by rw[<-ht1];rw[cO];simp
   have T4:(!decide (y.name=nm)) = !t1:=by rw[T2]
   cases hd:y.down
   ·obtain⟨t3,ht3⟩:∃a,decide (x.fall<=y.run)=a:=⟨_,rfl⟩
    have HI:=ah (show JZ x s i=(t1&&(!t2 && !t3))by
     unfold JZ apf;rw[hy,YQ,hd,ht1,<-ht2,<-ht3];congr 1;congr 1<;>(rw[cO];simp))
    have c1:=Cn.Va x;rw[hd]at d1;clear hy YQ;go_upto_region 11 with fail
    cases t1
    ·have HF:=ah (show KH=false by rw[<-HKH.out];exact iZ _ i _ fP (by rw[HI.out];simp))
     simp only[Bool.not_true,Bool.not_false]at T1 T3 T4;go_quiet (fail);go_wp2;go_ret;exact⟨by rw[HJ.out,HF.out];rfl,ZY.out.dF.trans (fI (Below.refl _ _) _)⟩
    simp only[Bool.not_true,Bool.not_false]at T1 T3 T4;cases t2;rotate_left
    ·have HF:=ah (show KH=false by rw[<-HKH.out];exact iZ _ i _ fP (by rw[HI.out];simp))
     go_quiet (fail);go_wp2;go_ret;exact⟨by rw[HJ.out,HF.out];rfl,ZY.out.dF.trans (fI (Below.refl _ _) _)⟩
    cases t3;rotate_left
    ·have HF:=ah (show KH=false by rw[<-HKH.out];exact iZ _ i _ fP (by rw[HI.out];simp))
     go_quiet (fail);go_wp2;go_ret;exact⟨by rw[HJ.out,HF.out];rfl,ZY.out.dF.trans (fI (Below.refl _ _) _)⟩
    have HK:=ah (show JZ x s i=true by rw[HI.out];rfl);go_quiet (fail);go_wp2;go_roundw
    case rel=>exact⟨i+1,by omega,by go_num,ZY.out.U1.drewN _,fun k hk=>by
     by_cases KO:k=i
     ·rw[KO];exact HK.out
     ·exact HA.out k (by omega)⟩
    case measure=>simp[intOf]<;>omega
   ·obtain⟨t3,ht3⟩:∃a,decide (x.rise<=y.run)=a:=⟨_,rfl⟩
    have HI:=ah (show JZ x s i=(t1&&(!t2 && !t3))by
     unfold JZ apf;rw[hy,YQ,hd,ht1,<-ht2,<-ht3];congr 1;congr 1<;>(rw[cO];simp))
    have c1:=Cn.U9 x;rw[hd]at d1;clear hy YQ;go_upto_region 11 with fail
    cases t1
    ·have HF:=ah (show KH=false by rw[<-HKH.out];exact iZ _ i _ fP (by rw[HI.out];simp))
     simp only[Bool.not_true,Bool.not_false]at T1 T3 T4;go_quiet (fail);go_wp2;go_ret;exact⟨by rw[HJ.out,HF.out];rfl,ZY.out.dF.trans (fI (Below.refl _ _) _)⟩
    simp only[Bool.not_true,Bool.not_false]at T1 T3 T4;cases t2;rotate_left
    ·have HF:=ah (show KH=false by rw[<-HKH.out];exact iZ _ i _ fP (by rw[HI.out];simp))
     go_quiet (fail);go_wp2;go_ret;exact⟨by rw[HJ.out,HF.out];rfl,ZY.out.dF.trans (fI (Below.refl _ _) _)⟩
    cases t3;rotate_left
    ·have HF:=ah (show KH=false by rw[<-HKH.out];exact iZ _ i _ fP (by rw[HI.out];simp))
     go_quiet (fail);go_wp2;go_ret;exact⟨by rw[HJ.out,HF.out];rfl,ZY.out.dF.trans (fI (Below.refl _ _) _)⟩
    have HK:=ah (show JZ x s i=true by rw[HI.out];rfl);go_quiet (fail);go_wp2;go_roundw
    case rel=>exact⟨i+1,by omega,by go_num,ZY.out.U1.drewN _,fun k hk=>by
     by_cases KO:k=i
     ·rw[KO];exact HK.out
     ·exact HA.out k (by omega)⟩
    case measure=>simp[intOf]<;>omega
  ·obtain rfl:i=gn:=by omega
   have HF:=ah (show KH=true by rw[<-HKH.out,List.all_eq_true];exact fun k hk=>HA.out k (List.mem_range.1 hk));have HJ:=ah (show J=KF by rw[HJ.out,HF.out];rfl);have zC:¬(i:Int)<i:=by omega
   clear fP HA HF HKH;obtain⟨y1,y2,y3,y4⟩:=ZR.out.b0.aI;have hmm:=fun n w=>Ir (P:=aj) Tryz.underlying114 n w
   go_upto_region 15 with fail
   have M0:=ah (LJ.new wr);have ZM:=ah (ZR.out.alloc (.map #[] 0));have HM:=ah (show w.h.z<=wr.h.z/\∀p∈[(w.h.z+1,XA),(w.h.z,x.aA)],p.1≠wr.h.z from⟨ZR.out.dF.size,fun p hp=>by have:=(ZR.out.2 p hp).2.lt;omega⟩);generalize wr.alloc (.map #[] 0)=w6 at M0 ZM ⊢;generalize wr.h.z=M at M0 HM ⊢;clear y1 y2 y3 y4 hmm;obtain⟨y1,y2,y3,y4⟩:=ZM.out.b0.aI;go_wp2;clear y1 y2 y3 y4;go_loopw [104] (fun ayO wr=>∃k:Nat,k<=fn/\ayO=.int .i k/\Bx [(w.h.z+1,XA),(w.h.z,x.aA)] w wr/\LJ wr M k (EC s.sN k)/\∀j,j<k->Uv s j=true) (fun ayO _=>fn-(intOf ayO).toNat)
   case atStart=>exact⟨0,by omega,rfl,ZM.out,M0.out,fun k hk=>by omega⟩
   case round=>
    obtain⟨k,YB,rfl,hz,hm,mV⟩:=hrel;have ZR:=ah hz;have MR:=ah hm;have HA:=ah mV;clear hz hm mV;by_cases hkt:k<fn;rotate_left
    ·obtain rfl:k=fn:=by omega
     have HF:=ah (show KF=true by rw[<-HKF.out,List.all_eq_true];exact fun j hj=>HA.out j (List.mem_range.1 hj));have zC:¬(k:Int)<k:=by omega
     go_wp2;go_ret;exact⟨by rw[HJ.out,HF.out];rfl,ZR.out.dF⟩
    have Cc:(k:Int)<fn:=by omega
    obtain⟨b,o,rfl,Jp,hh,uh⟩:=iO.fw (show iO Fw.aA 41 wr wr.h.z fA fn s.sN from HS.out.f.go ZR.out.dF) hkt;obtain⟨y,hy⟩:∃y,s.sN.getD k kQ=y:=⟨_,rfl⟩
    rw[hy]at uh;have HYN:=ah (HS.out.aoo _ (ET kQ s.sN k (by rw[HFN.out];exact hkt)));rw[hy]at HYN;have ZY:=ah (ZR.out.new y.aA 86);have MY:=ah (MR.out.go ((Below.refl _ _).alloc (ay _) (.c y.aA 86)));go_upto_region 18 with fail
    generalize wr.alloc (.c y.aA 86)=w7 at ZY MY ⊢;generalize wr.h.z=py at ZY ⊢;clear hh uh Jp;have hfs:fn<=100000:=HLS.out.2.2;obtain⟨c1,Fg⟩:∃c,Eo y=c:=⟨_,rfl⟩
    obtain⟨c2,VY⟩:∃c,decide (s.gN<y.seen)=c:=⟨_,rfl⟩
    obtain⟨c3,hc3⟩:∃c,decide (y.no<1)=c:=⟨_,rfl⟩
    obtain⟨c4,hc4⟩:∃c,decide (s.no<y.no)=c:=⟨_,rfl⟩
    obtain⟨c5,hc5⟩:∃c,decide (y.key∈EC s.sN k)=c:=⟨_,rfl⟩
    obtain⟨pv,hpv⟩:∃p,s.sN.getD (k-1) kQ=p:=⟨_,rfl⟩
    have HI:=ah (show Uv s k=(c1&&(!c2&&(!c3&&(!c4&&(!c5&&(decide (k=0)||lJ pv y))))))by
     unfold Uv;have hkk:=aip s.sN k;rw[hy]at hkk ⊢;rw[<-hkk,hc5,Fg,hpv,<-VY,<-hc3,<-hc4];have g1:decide (y.seen<=s.gN) = !decide (s.gN<y.seen):=by rw[cO];simp
     have g2:decide (1<=y.no) = !decide (y.no<1):=by rw[cO];simp
     have g3:decide (y.no<=s.no) = !decide (s.no<y.no):=by rw[cO];simp
     rw[g1,g2,g3])
    have FR:=ah (fun W=>Mh y W HYN.out);rw[Fg]at FR;have HC1:=ah Fg;have HPV:=ah hpv;have HYY:=ah hy;have KEY:=ah (afJ (l:=s.sN) (k:=k) (by rw[HFN.out];exact hkt));clear hy Fg hpv;obtain⟨T,f,n0,E0,es,ew⟩:=yg (w7);have hT:Nonempty T:=⟨n0⟩
    have ES:=ah es;have EW:=ah ew;clear es ew;have l1:=fun m=>kK (ZY.out.go (ES.out m)).b0
    have l3:∀m,(f m).cell? ⟨py,39,none⟩=some (.int .i y.seen):=fun m=>((ZY.out.go (ES.out m)).b0.aI.1 39).trans (Fw.ahd y)
    have l4:∀m,(f m).cell? ⟨py,40,none⟩=some (.int .i y.no):=fun m=>((ZY.out.go (ES.out m)).b0.aI.1 40).trans (Fw.aca y)
    have l5:∀m,(f m).cell? ⟨w.h.z+1,4,none⟩=some (.int .i s.gN):=fun m=>((ZY.out.go (ES.out m)).b1.aI.1 4).trans XF.out.2.2.2.2.2.1
    have l6:∀m,(f m).cell? ⟨w.h.z+1,5,none⟩=some (.int .i s.no):=fun m=>((ZY.out.go (ES.out m)).b1.aI.1 5).trans XF.out.2.2.2.2.2.2.1
    have l7:∀m,(f m).cell? ⟨w.h.z+1,3,none⟩=some (.s (some ⟨b,o,none⟩) fn fc):=fun m=>((ZY.out.go (ES.out m)).b1.aI.1 3).trans XF.out.2.2.2.2.1
    have l8:∀m,(xI (.p (some ⟨py,0,none⟩))).run aj (f m)=.ok (.agg y.key.aA) (f m):=fun m=>Sm (ZY.out.go (ES.out m)).b0
    cases c1;rotate_left;have L9:=ah (fun W (h:LJ W M k (EC s.sN k))=>show(Instr.lookup 114 (.map (some M)) (.agg y.key.aA) false).run aj W=.ok (.bool c5) W by rw[amj h y.key (xg HC1.out),hc5]);have l9:=fun m=>L9.out (f m) (MY.out.go (ES.out m))
    clear hc5;cases c2;cases c3;cases c4;cases c5
    all_goals try(
     have HF:=ah (show KF=false by rw[<-HKF.out];exact iZ _ k _ hkt (by rw[HI.out];simp));refine pK f (by kernel_rfl) (by kernel_rfl) n0 E0 ?_
     repeat(go_big_quiet_step ((first|(go_at_call 48;(with_reducible refine(FR.out _).mono ?_);rintro e w2 ⟨rfl,hb⟩;exact⟨rfl,EW.out _ ((ES.out _).trans (hb.mono (ES.out _).size))⟩))))
     refine wpQuiet_nil ?_;rintro _ ⟨m',rfl⟩;have HB:=ah (ES.out m');generalize f m'=wN at *;clear ES EW E0 hT n0;go_wp2;go_ret;exact⟨by rw[HJ.out,HF.out];rfl,(ZY.out.go HB.out).dF⟩)
    have Kv:=ah (Ld HC1.out);by_cases Ny:k=0
    ·have t0:decide (0<(k:Int))=false:=by simp;omega
     have HI:=ah (show Uv s k=true by rw[HI.out];simp[Ny]);have HG:=ah (show Uv s k=true by exact HI.out);refine pK f (by kernel_rfl) (by kernel_rfl) n0 E0 ?_
     repeat(go_big_quiet_step ((first|(go_at_call 48;(with_reducible refine(FR.out _).mono ?_);rintro e w2 ⟨rfl,hb⟩;exact⟨rfl,EW.out _ ((ES.out _).trans (hb.mono (ES.out _).size))⟩))))
     refine wpQuiet_nil ?_;rintro _ ⟨m',rfl⟩;have HB:=ah (ES.out m');generalize f m'=wN at *;clear ES EW E0 hT n0;clear l1 l3 l4 l5 l6 l7 l8 l9;have ZN:=ah (ZY.out.go HB.out);have MN:=ah (MY.out.go HB.out);have l8:=Sm ZN.out.b0;have TK:=ah (xg HC1.out);have HK1:=ah (show k<=1000000 by omega);go_wp2_with (refine Ua rfl (.tmp 152) (.tmp 154) (.const (.bool true)) rfl M k (EC s.sN k) rfl MN.out HK1.out y.key TK.out rfl rfl ?_;intro w9 h1 h2;have M9:=ah h1;have Z9:=ah (ZN.out.U1.V8 h2 HM.out.1 HM.out.2);clear h1 h2);go_roundw
     case rel=>exact⟨k+1,by omega,by go_num,Z9.out,by rw[<-KEY.out,HYY.out];exact M9.out,fun j hj=>by
      by_cases hjk:j=k
      ·rw[hjk];exact HG.out
      ·exact HA.out j (by omega)⟩
     case measure=>simp[intOf]<;>omega
    have t0:decide (0<(k:Int))=true:=by simp;omega
    have t00:decide (0<k)=true:=decide_eq_true (by omega);have hkp:0<k:=by omega
    have HOP:=ah (show Eo pv=true by
     have:=HA.out (k-1) (by omega);unfold Uv at this;rw[HPV.out]at this;simp only[Bool.and_eq_true]at this;exact this.1)
    have HON:=ah (Ld HOP.out);have CO:=ah (fun W=>TP pv y HON.out.1 Kv.out.1 HON.out.2 Kv.out.2 W);obtain⟨j,hj⟩:∃j:Nat,j=k-1:=⟨_,rfl⟩
    have i1:(k:Int)-1=(j:Int):=by omega
    have i2:(j:Int)<fn:=by omega
    rw[<-hj]at HPV;have HJK:=ah (show j<fn by omega);clear hj;have la:∀m,(Rq (.p (some ⟨b,o+j*41,none⟩))).run aj (f m)=.ok (.agg pv.aA) (f m):=fun m=>by
     obtain⟨b',o',e,_,hh,uh⟩:=iO.fw (show iO Fw.aA 41 (f m) (f m).h.z (some ⟨b,o,none⟩) fn s.sN from HS.out.f.go (ZY.out.go (ES.out m)).dF) HJK.out;injection e with e
     injection e with e1 e2
     subst e1 e2;rw[HPV.out]at uh;rw[ajc _ _ _ hh,uh]
    obtain⟨c7,hc7⟩:∃c,lJ pv y=c:=⟨_,rfl⟩
    rw[hc7]at CO HI;have HOL:=ah hc7;clear hc7;cases c7
    ·have hk9:=Ny
     have HF:=ah (show KF=false by rw[<-HKF.out];exact iZ _ k _ hkt (by rw[HI.out];simp[hk9]));refine pK f (by kernel_rfl) (by kernel_rfl) n0 E0 ?_
     repeat(go_big_quiet_step ((first|(go_at_call 48;(with_reducible refine(FR.out _).mono ?_);rintro e w2 ⟨rfl,hb⟩;exact⟨rfl,EW.out _ ((ES.out _).trans (hb.mono (ES.out _).size))⟩)|(go_at_call 49;(with_reducible refine(CO.out _).mono ?_);rintro e w2 ⟨rfl,hb⟩;exact⟨rfl,EW.out _ ((ES.out _).trans (hb.mono (ES.out _).size))⟩))))
     refine wpQuiet_nil ?_;rintro _ ⟨m',rfl⟩;have HB:=ah (ES.out m');generalize f m'=wN at *;clear ES EW E0 hT n0;go_wp2;go_ret;exact⟨by rw[HJ.out,HF.out];rfl,(ZY.out.go HB.out).dF⟩
    have HG:=ah (show Uv s k=true by rw[HI.out];simp[HOL.out]);refine pK f (by kernel_rfl) (by kernel_rfl) n0 E0 ?_
    repeat(go_big_quiet_step ((first|(go_at_call 48;(with_reducible refine(FR.out _).mono ?_);rintro e w2 ⟨rfl,hb⟩;exact⟨rfl,EW.out _ ((ES.out _).trans (hb.mono (ES.out _).size))⟩)|(go_at_call 49;(with_reducible refine(CO.out _).mono ?_);rintro e w2 ⟨rfl,hb⟩;exact⟨rfl,EW.out _ ((ES.out _).trans (hb.mono (ES.out _).size))⟩))))
    refine wpQuiet_nil ?_;rintro _ ⟨m',rfl⟩;have HB:=ah (ES.out m');generalize f m'=wN at *;clear ES EW E0 hT n0;clear l1 l3 l4 l5 l6 l7 l8 l9;have ZN:=ah (ZY.out.go HB.out);have MN:=ah (MY.out.go HB.out);have l8:=Sm ZN.out.b0;have TK:=ah (xg HC1.out);have HK1:=ah (show k<=1000000 by omega);go_wp2_with (refine Ua rfl (.tmp 152) (.tmp 154) (.const (.bool true)) rfl M k (EC s.sN k) rfl MN.out HK1.out y.key TK.out rfl rfl ?_;intro w9 h1 h2;have M9:=ah h1;have Z9:=ah (ZN.out.U1.V8 h2 HM.out.1 HM.out.2);clear h1 h2);go_roundw
    case rel=>exact⟨k+1,by omega,by go_num,Z9.out,by rw[<-KEY.out,HYY.out];exact M9.out,fun j hj=>by
     by_cases hjk:j=k
     ·rw[hjk];exact HG.out
     ·exact HA.out j (by omega)⟩
    case measure=>simp[intOf]<;>omega
section
variable {W W':au} {q:Nat} {e:En} {s:qK} {x:Eg} {q2 g:Nat} {sl:List (Option Fw)}
theorem Ib{B sz n c p:Nat}{T:bM}{A:Option aU}{xs:List aC}(h:W.ownsRow B T sz (.s A n c) n xs)(hf:jE [p] W W')(hp:p<B):W'.ownsRow B T sz (.s A n c) n xs:=Bz h hf (fun k hk hm=>by simp at hm;subst hm;have:=h.lt _ hk;omega)
structure StO(B:Nat)(W:au)(X:Sh)(s:qK):Prop where
 mq:X.mq=s.mq
 bn:s.sW.n=X.b.n
 b:W.ownsRow B 62 27 (.s X.b.A X.b.n X.b.c) X.b.n (s.sW.flatMap fun y=>y.aA.toList)
 hn:s.nP.n=X.h.n
 h:W.ownsRow B 100 3 (.s X.h.A X.h.n X.h.c) X.h.n (s.nP.flatMap fun y=>y.aA.toList)
 fn:s.sN.n=X.f.n
 f:W.ownsRow B 86 41 (.s X.f.A X.f.n X.f.c) X.f.n (s.sN.flatMap fun y=>y.aA.toList)
 gN:X.gN=s.gN
 no:X.no=s.no
 mg:X.mg=s.mg
def aqf(W:au)(s:qK)(r:kX)(W':au):Prop:=∃X:Sh,r=.returned (.agg X.aA)/\StO W.h.z W' X s/\aN W.h.z W W'
theorem kSh:oV 37 17 JH.aA:=⟨⟨_,su,rfl⟩,by kernel_rfl,by kernel_rfl,Sh.ak _⟩
@[go_sem]theorem aDJ(W:au)(mq:Int)(A1:Option aU)(n1 c1:Nat)(A2:Option aU)(n2 c2:Nat)(A3:Option aU)(n3 c3:Nat)(t n:Int)(v:Vector Int 11):(awC #[(0,.agg (Pc.mk mq A1 n1 c1).aA),(1,.slice A2 n2 c2),(2,.slice A3 n3 c3),(3,.int .i t),(4,.int .i n),(5,.agg (v.toList.map (aJ .i)).toArray)]).run aj W=.ok (.agg (Sh.mk mq ⟨A1,n1,c1⟩ ⟨A2,n2,c2⟩ ⟨A3,n3,c3⟩ t n v).aA) W:=kSh.bd W _ _ _ _ su (aas W _ su) (by
 refine vw (Sh.ak _) ?_ ?_
 ·simp[rU,cu,Pc.ak]
 ·simp[qY,cu,Pc.aA,Sh.aA,shT,zk])
theorem Eg.amk{x:Eg}(h:dL W q x.aA):W.rangeAt q 79 (x.mg.toList.map (aJ .i)):=by
 intro j v hj;have hj6:j<11:=by
  rcases bf j 11 with h1|h1
  ·exact h1
  ·rw[aT (by simpa using h1)]at hj;cases hj
 have h2:(x.aA.extract 79 90)[j]? = (zk x.mg)[j]?:=by rw[Eg.apQ]
 rw[dx,if_pos (by rw[Eg.ak];omega)]at h2;rw[h.aI.1,h2];unfold zk;rw[dZ];exact hj
theorem D6{M:Int}(h:yY W q e s x q2 g sl)(hi:oG M e s):aR aj 20 #[.pointer (some ⟨q,0,none⟩)] W (aqf W s):=by
 have Z0:=ah ((Bx.start W).new JH.aA 37);have H:=ah h;have HI:=ah hi;have HN:=ah (show s.sW.n=x.pl.rN/\s.nP.n=x.EA from⟨h.b.bk.1,h.b.hl.1⟩);have HF:=ah hi.few;have SZ:=ah (show W.h.z<(W.alloc (.c JH.aA 37)).h.z by simp);clear h hi;go_enter Tryz.func20,Tryz.ntmps20;go_upto_region 1 with fail
 generalize W.alloc (.c JH.aA 37)=w0 at Z0 SZ ⊢;have l1:=kPc.DZ (H.out.b.eg.go Z0.out.dF) 70 (Eg.ajO _) (by rw[Eg.ak];omega);go_upto_region 2 with fail
 have Z1:=ah (Z0.out.new x.pl.aA 32);have SZ1:=ah (show w0.h.z<(w0.alloc (.c x.pl.aA 32)).h.z by simp);generalize w0.alloc (.c x.pl.aA 32)=w1 at Z1 SZ1 ⊢;have NP:=ah (show w0.h.z≠W.h.z by have:=SZ.out;omega);generalize w0.h.z=p at Z1 SZ SZ1 NP ⊢;clear l1;have f1:=(Z1.out.b0.aI.1 1).trans (Pc.apM x.pl);have CB:=ah (xX s.sW x.pl.rA x.pl.rC w1 (by have h1:=H.out.b.bk.go Z1.out.dF;rw[HN.out.1];exact h1) (by have:=HF.out;omega));unfold abY at CB;rw[HN.out.1]at CB;go_upto_region 3 with(go_at_call 61;(with_reducible refine CB.out.mono ?_);rintro r w2 ⟨A1,c1,rfl,ho,hb⟩;have g1:=(Z1.out.b0.go hb).aI.2.1 1;have f1:=((Z1.out.b0.go hb).aI.1 1).trans (Pc.apM x.pl);have Z2:=ah (Z1.out.go hb);have O1:=ah ho;have SZ2:=ah hb.size;clear ho hb)
 have Z3:=ah (Z2.out.set (fun r hr=>by simp at hr;subst hr;have:=SZ.out;simp;omega) 1 (.s A1 x.pl.rN c1));rw[Pc.ajN]at Z3;have O3:=ah (Bz O1.out ((jE.refl [p] w2).set ⟨p,1,none⟩ (.s A1 x.pl.rN c1) (.inl (by simp))) (fun k hk hm=>by have:=kZ O1.out;simp at hm;subst hm;have:=O1.out.lt _ hk;have:=SZ1.out;omega));have SZ3:=ah (show w1.h.z<=(w2.setCell ⟨p,1,none⟩ (.s A1 x.pl.rN c1)).h.z by have:=SZ2.out;simp[World.setCell];exact this);generalize w2.setCell ⟨p,1,none⟩ (.s A1 x.pl.rN c1)=w3 at Z3 O3 SZ3 ⊢;clear f1 g1;have KS:=ah (fun(w':au) (h0:dL w' p ({x.pl with rA:=A1,rN:=x.pl.rN,rC:=c1}:Pc).aA) (h1:dL w' q x.aA)=>show(yt 32 (.p (some ⟨p,0,none⟩))).run aj w'=.ok (.agg (Pc.mk x.pl.mq A1 x.pl.rN c1).aA) w'/\w'.cell? ⟨q,72,none⟩=some (.s x.Qq x.EA x.UA)/\w'.cell? ⟨q,74,none⟩=some (.p (some ⟨q2,0,none⟩))/\w'.cell? ⟨q,77,none⟩=some (.int .i x.gN)/\w'.cell? ⟨q,78,none⟩=some (.int .i x.no)/\w'.rangeAt q 79 (x.mg.toList.map (aJ .i))from
  ⟨kPc.DZ h0 0 (Pc.all _) (by rw[Pc.ak];omega),(h1.aI.1 72).trans (Eg.aa7 _),by rw[h1.aI.1 74,Eg.aa8,H.out.b.fl];rfl,(h1.aI.1 77).trans (Eg.Vk _),(h1.aI.1 78).trans (Eg.apP _),Eg.amk h1⟩)
 have CH:=ah (fun(w:au) (hb:aN W.h.z W w)=>ML s.nP x.Qq x.EA x.UA w (H.out.b.hl.go hb) (by have:=HF.out;have:=HN.out;omega));have CL:=ah (fun(w:au) (hb:aN W.h.z W w)=>ah2 (H.out.b.tb.go hb));unfold ClP at CH;have hU:=Tryz.underlying35;have hI:(aj.info? 35).map (·.size)=some (x.mg.toList.map (aJ .i)).n:=by rw[List.length_map,Vector.length_toList];kernel_rfl
 go_region_held_law (fun w'=>(yt 32 (.p (some ⟨p,0,none⟩))).run aj w'=.ok (.agg (Pc.mk x.pl.mq A1 x.pl.rN c1).aA) w'/\w'.cell? ⟨q,72,none⟩=some (.s x.Qq x.EA x.UA)/\w'.cell? ⟨q,74,none⟩=some (.p (some ⟨q2,0,none⟩))/\w'.cell? ⟨q,77,none⟩=some (.int .i x.gN)/\w'.cell? ⟨q,78,none⟩=some (.int .i x.no)/\w'.rangeAt q 79 (x.mg.toList.map (aJ .i)))
  (first|exact KS.out _ Z3.out.drew.b0 (H.out.b.eg.go Z3.out.drew.dF)|exact KS.out _ Z4.out.b0 (H.out.b.eg.go Z4.out.dF)|exact KS.out _ Z5.out.b0 (H.out.b.eg.go Z5.out.dF)|exact KS.out _ Z6.out.b1 (H.out.b.eg.go Z6.out.dF)|go_keep)
  (first
  | (go_at_call 59;(with_reducible refine(CH.out _ Z3.out.drew.dF).mono ?_);rintro r w4 ⟨A2,c2,rfl,ho,hb⟩;have Z4:=ah (Z3.out.drew.go hb);have O2:=ah ho;have S4:=ah (show w3.h.z<=w4.h.z from hb.size);have B4:=ah (show aN w3.h.z w3 w4 from(gY w3).trans hb);clear ho hb)
  | (go_at_call 65;(with_reducible refine(CL.out _ Z4.out.dF).mono ?_);rintro r w5 ⟨A3,c3,rfl,ho,hb⟩;have Z5:=ah (Z4.out.go hb);have O5:=ah ho;have B5:=ah hb;have th:=Z5.out.b1.there 0 17 (Nat.le_of_eq (Sh.ak JH).symm);have Z6:=ah (show Bx [(W.h.z,(Sh.mk x.pl.mq ⟨A1,x.pl.rN,c1⟩ ⟨A2,x.EA,c2⟩ ⟨A3,s.sN.n,c3⟩ x.gN x.no x.mg).aA),(p,({x.pl with rA:=A1,rN:=x.pl.rN,rC:=c1}:Pc).aA)] W (aon w5 W.h.z 0 (Sh.mk x.pl.mq ⟨A1,x.pl.rN,c1⟩ ⟨A2,x.EA,c2⟩ ⟨A3,s.sN.n,c3⟩ x.gN x.no x.mg))from Z5.out.swap.put (fun r hr=>by rw[fO.1 hr];exact NP.out) _ (by rw[Sh.ak,Sh.ak]));clear ho hb))
 have FS:=ah (show jE [W.h.z] w5 (aon w5 W.h.z 0 (Sh.mk x.pl.mq ⟨A1,x.pl.rN,c1⟩ ⟨A2,x.EA,c2⟩ ⟨A3,s.sN.n,c3⟩ x.gN x.no x.mg))from yT w5 W.h.z 0 _);have hs:=SZ.out;have Nw:=SZ1.out;have hs3:=SZ3.out;have hs4:=S4.out;have hw:=Z3.out.dF.size;go_wp2_with fail;refine bodyPost_ret (kSh.zM rfl _ rfl Z6.out.b0 (Sh.ak _)) rfl ?_;refine⟨_,rfl,⟨H.out.b.mq,HN.out.1,?_,HN.out.2,?_,rfl,?_,H.out.b.gN,H.out.b.no,H.out.b.mg⟩,Z6.out.dF⟩
 ·exact iG (Ib (jv (jv O3.out B4.out) B5.out) FS.out (by omega)) (by omega)
 ·exact iG (Ib (jv O2.out B5.out) FS.out (by simp;omega)) (by simp;omega)
 ·exact iG (Ib O5.out FS.out (by omega)) (by omega)
theorem StO.r{M:Int}{B:Nat}{X:Sh}(h:StO B W X s)(hi:oG M e s):StR W W.h.z X s:=by
 have hf:=hi.few;have hl:=hi.fl.len;obtain⟨_,⟨r1,r2⟩,_⟩:=sU hi.cn;have h1:=h.bn;have h2:=h.hn;have h3:=h.fn;refine⟨h.mq,iO.iX h.bn h.b,iO.iX h.hn h.h,iO.iX h.fn h.f,h.gN,h.no,h.mg,hi.fi,fun y hy=>?_,fun y hy=>?_,by omega,by omega,by omega⟩
 ·have hm:y.name∈s.sW.map (·.name):=by rw[<-hi.nm];exact iQ.2 ⟨y,hy,rfl⟩
  obtain⟨b,hb,e⟩:=iQ.1 hm;have:=hf.2.2 b hb;rw[<-e];omega
 ·have:=hi.fl.ok y hy
  unfold Eo wD at this;simp only[Bool.and_eq_true,decide_eq_true_eq]at this;omega
end
theorem Eg.Pg(x:Eg)(A:Option aU)(n c:Nat):x.aA.setIfInBounds 16 (.s A n c)=({x with cf:={x.cf with qO:=A,iH:=n,qP:=c}}:Eg).aA:=by simp[Eg.aA,aM,Cn.ak,Pc.ak,Tc.ak,dK,j3,Cn.Pg]
theorem Eg.ajN(x:Eg)(A:Option aU)(n c:Nat):x.aA.setIfInBounds 71 (.s A n c)=({x with pl:={x.pl with rA:=A,rN:=n,rC:=c}}:Eg).aA:=by simp[Eg.aA,aM,Cn.ak,Pc.ak,Tc.ak,dK,j3,Pc.ajN]
theorem Eg.apM(x:Eg):x.aA[71]? = some (.s x.pl.rA x.pl.rN x.pl.rC):=by simp[Eg.aA,Array.getElem?_append,Cn.ak,Pc.ak,Tc.ak,dK,j3,Pc.aA]
theorem Nn.rz{W W':au}{q:Nat}{e:En}{s:qK}{x:Eg}{q2 g:Nat}{sl sl':List (Option Fw)}{l':List Fw}(h:Nn W q e s x q2 g sl)(hf:jE [q2,g] W W')(ht:LH W' q2 g e.key e.c.dR sl' l')(hl:sl'.n=sl.n):Nn W' q e {s with sN:=l'} x q2 g sl':=by
 have o:∀b,b∈nZ x->b∉[q2,g]:=fun b hm=>by have:=h.FT b hm;simp;omega
 have hs:=hf.size;have hq:=h.nq;exact⟨hf.box h.eg (by simp;omega),h.key,h.cf,h.mq,h.vs.keep hf (fun b hm=>o b (dS.2 (.inl hm))),h.bk.keep hf (fun b hm=>o b (dS.2 (.inr (.inl hm)))),h.hl.keep hf (fun b hm=>o b (dS.2 (.inr (.inr (.inl hm))))),h.fl,ht,by rw[hl];exact h.rm,h.nq,fun b hm=>by have:=h.FT b hm;omega,h.gN,h.no,h.mg⟩
theorem afK{W:au}{b o:Nat}{c:Array aC}{xs:List aC}(h:dL W b c)(hc:∀j,j<xs.n->c[o+j]? = xs[j]?):W.rangeAt b o xs:=by
 intro j v hj;have fP:j<xs.n:=by
  rcases bf j xs.n with h1|h1
  ·exact h1
  ·rw[aT h1]at hj;cases hj
 rw[h.aI.1,hc j fP,hj]
theorem aqg{W:au}{b:Nat}{xs:List aC}(h:dL W b xs.toArray):W.rangeAt b 0 xs:=afK h (fun j _=>by rw[bB,dZ])
@[go_sem]theorem aDK(W:au)(key:Vector UInt8 16)(cf:Cn)(pl:Pc)(A:Option aU)(n c:Nat)(ti no:Int)(ct:Vector Int 11):(uW 123 #[(0,.agg (key.toList.map bv).toArray),(1,.agg cf.aA),(2,.agg pl.aA),(3,.slice A n c),(7,.int .i ti),(8,.int .i no),(9,.agg (ct.toList.map (aJ .i)).toArray)]).run aj W=.ok (.agg (Eg.mk key cf pl A n c none 0 0 none Dw ti no ct).aA) W:=apT W key cf pl A n c ti no ct
theorem aqh(X:Sh)(j:Nat)(h:j<11):X.aA[6+j]? = (X.mg.toList.map (aJ .i))[j]?:=by
 rw[Sh.ajd X j h];simp[av,h]
def Kc(W:au)(key:Vector UInt8 16)(c:Cn)(vs:List Vp)(s:qK)(r:kX)(W':au):Prop:=
 ∃q x q2 g sl,r=.returned (.tuple #[.pointer (some ⟨q,0,none⟩),.int .i 0])/\yY W' q ⟨key,c,vs⟩ s x q2 g sl/\aN W.h.z W W'/\(W.h.z<=q/\W.h.z<=q2/\W.h.z<=g)/\∀b∈nZ x,W.h.z<=b
theorem adi(key:Vector UInt8 16)(c:Cn)(vs:List Vp)(X:Sh)(s:qK)(w:au)(hV:iO Vp.aA 20 w w.h.z c.qO c.iH vs)(hvc:c.iH<=c.qP)(hvn:c.iH<=100000)(hS:StR w w.h.z X s)(Jp:s.sW.n<=100000)(hhl:s.nP.n<=100000)(hfl:s.sN.n<=100000)(hJ:zQ c vs s=false):
 aR aj 19 #[.agg (iU key),.agg c.aA,.agg X.aA] w (gP w (.tuple #[.pointer none,.int .i 1])):=by
 have h0:=(((Bx.start w).new (iU key) 22).new c.aA 29).new X.aA 37;rw[show((w.alloc (.c (iU key) 22)).alloc (.c c.aA 29)).h.z=w.h.z+2 by simp,show(w.alloc (.c (iU key) 22)).h.z=w.h.z+1 by simp]at h0;have Z0:=ah h0;have CR:=ah (fun w1 (hb:aN w.h.z w w1)=>Ka c vs X s w1 (hV.go hb) hvc hvn (hS.go hb) Jp hhl hfl false hJ);clear h0 hV hvc hvn hS Jp hhl hfl hJ;go_enter Tryz.func19,Tryz.ntmps19;go_upto_region 1 with fail
 generalize((w.alloc (.c (iU key) 22)).alloc (.c c.aA 29)).alloc (.c X.aA 37)=w0 at Z0 ⊢;obtain⟨x1,x2,x3,x4⟩:=Z0.out.b1.aI;obtain⟨y1,y2,y3,y4⟩:=Z0.out.b0.aI;go_wp2_with (go_at_call 15;(with_reducible refine(CR.out _ Z0.out.dF).mono ?_);rintro e w1 ⟨rfl,gI⟩;have Z1:=ah (Z0.out.go gI);clear gI);go_ret2;exact⟨rfl,Z1.out.dF⟩
theorem Mq(key:Vector UInt8 16)(c:Cn)(vs:List Vp)(X:Sh)(s:qK)(w:au)(hV:iO Vp.aA 20 w w.h.z c.qO c.iH vs)(hvc:c.iH<=c.qP)(hvn:c.iH<=100000)(hS:StR w w.h.z X s)(hJ:zQ c vs s=true):
 aR aj 19 #[.agg (iU key),.agg c.aA,.agg X.aA] w (Kc w key c vs s):=by
 have hi:=ahO key hJ hS.ru;have al9:=hi.few;have hlen:=hi.fl.len;obtain⟨_,⟨hr1,Mx⟩,_⟩:=sU hi.cn;simp only at hlen hr1 Mx;have h0:=(((Bx.start w).new (iU key) 22).new c.aA 29).new X.aA 37;rw[show((w.alloc (.c (iU key) 22)).alloc (.c c.aA 29)).h.z=w.h.z+2 by simp,show(w.alloc (.c (iU key) 22)).h.z=w.h.z+1 by simp]at h0;have Z0:=ah h0;have CR:=ah (fun w1 (hb:aN w.h.z w w1)=>Ka c vs X s w1 (hV.go hb) hvc hvn (hS.go hb) (by omega) (by omega) (by omega) true hJ);have HI:=ah hi;have HS:=ah hS;have HV:=ah hV;have HVN:=ah hvn;have HFW:=ah al9;have HRM:=ah (show(1<=c.dR/\c.dR<=4096)/\s.sN.n<=4096 by omega);clear h0 hV hvc hvn hS hJ hi al9 hlen hr1 Mx;go_enter Tryz.func19,Tryz.ntmps19;go_upto_region 1 with fail
 have SZ0:=ah (show w.h.z+2<(((w.alloc (.c (iU key) 22)).alloc (.c c.aA 29)).alloc (.c X.aA 37)).h.z by simp);generalize((w.alloc (.c (iU key) 22)).alloc (.c c.aA 29)).alloc (.c X.aA 37)=w0 at Z0 SZ0 ⊢;rw[show w.h.z+1+1=w.h.z+2 from rfl];obtain⟨x1,x2,x3,x4⟩:=Z0.out.b1.aI;obtain⟨y1,y2,y3,y4⟩:=Z0.out.b0.aI;go_upto_region 3 with(go_at_call 15;(with_reducible refine(CR.out _ Z0.out.dF).mono ?_);rintro e w1 ⟨rfl,gI⟩;have Z1:=ah (Z0.out.go gI);have SZ1:=ah (Nat.lt_of_lt_of_le SZ0.out gI.size);clear gI)
 clear x1 x2 x3 x4 y1 y2 y3 y4;have KS:=ah (fun(w':au) (h:Bx [(w.h.z+2,X.aA),(w.h.z+1,c.aA),(w.h.z,iU key)] w w')=>show w'.rangeAt w.h.z 0 (key.toList.map bv)/\(yt 29 (.p (some ⟨w.h.z+1,0,none⟩))).run aj w'=.ok (.agg c.aA) w'/\(yt 32 (.p (some ⟨w.h.z+2,0,none⟩))).run aj w'=.ok (.agg (Pc.mk X.mq X.b.A X.b.n X.b.c).aA) w'/\w'.cell? ⟨w.h.z+2,2,none⟩=some (.s X.h.A X.h.n X.h.c)/\w'.cell? ⟨w.h.z+2,4,none⟩=some (.int .i X.gN)/\w'.cell? ⟨w.h.z+2,5,none⟩=some (.int .i X.no)/\w'.rangeAt (w.h.z+2) 6 (X.mg.toList.map (aJ .i))by
  refine⟨aqg h.b2,Qo.mO h.b1 (Cn.ak _),kPc.DZ h.b0 0 (Sh.OQ X) (by rw[Sh.ak];omega),(h.b0.aI.1 2).trans (Sh.Zu X),(h.b0.aI.1 4).trans (Sh.aok X),(h.b0.aI.1 5).trans (Sh.aol X),?_⟩;exact afK (o:=6) h.b0 (fun j hj=>aqh X j (by simpa using hj)))
 have CH:=ah (fun(w1:au) (hb:aN w.h.z w w1)=>ML s.nP X.h.A X.h.n X.h.c w1 (HS.out.h.go hb) (by have:=HS.out.h.1;have:=HFW.out;omega));unfold ClP at CH;have hU:=Tryz.underlying22;have hI:(aj.info? 22).map (·.size)=some (key.toList.map bv).n:=by rw[List.length_map,Vector.length_toList];kernel_rfl
 have hU2:=Tryz.underlying35;have hI2:(aj.info? 35).map (·.size)=some (X.mg.toList.map (aJ .i)).n:=by rw[List.length_map,Vector.length_toList];kernel_rfl
 refine wp_region_held_drew (S:=(fun w'=>w'.rangeAt w.h.z 0 (key.toList.map bv)/\(yt 29 (.p (some ⟨w.h.z+1,0,none⟩))).run aj w'=.ok (.agg c.aA) w'/\(yt 32 (.p (some ⟨w.h.z+2,0,none⟩))).run aj w'=.ok (.agg (Pc.mk X.mq X.b.A X.b.n X.b.c).aA) w'/\w'.cell? ⟨w.h.z+2,2,none⟩=some (.s X.h.A X.h.n X.h.c)/\w'.cell? ⟨w.h.z+2,4,none⟩=some (.int .i X.gN)/\w'.cell? ⟨w.h.z+2,5,none⟩=some (.int .i X.no)/\w'.rangeAt (w.h.z+2) 6 (X.mg.toList.map (aJ .i)))) (by kernel_rfl) ?_ (fun hHeld=>?_)
 ·exact KS.out _ Z1.out.drew
 refine wpAnyH_take (i:=0) rfl (by kernel_rfl) (by kernel_rfl) (by kernel_rfl) (fun _ _ _ h=>h) (yieldsIf_load_mid (by rfl) 22 (.tmp 3) rfl (w.h.z) 0 rfl (key.toList.map bv) _ (fun w' h=>h.1) hU rfl hI) (by assumption) ?_
 try simp only[Act.put,List.setIfInBounds_toArray,List.set_cons_zero,List.set_cons_succ]
 refine wpAnyH_take (i:=11) (v:=?_) rfl (by kernel_rfl) (by kernel_rfl) (by kernel_rfl) (fun _ _ _ h=>h) (Or.inl ⟨by rfl,?_⟩) (by assumption) ?_;rotate_left
 ·intro w' hSw
  try dsimp only at hSw
  go_simp
  try with_reducible rfl
 try simp only[Act.put,List.setIfInBounds_toArray,List.set_cons_zero,List.set_cons_succ]
 refine wpAnyH_take (i:=12) rfl (by kernel_rfl) (by kernel_rfl) (by kernel_rfl) (fun _ _ _ h=>h) (yieldsIf_load_mid (by rfl) 35 (.tmp 26) rfl (w.h.z+2) 6 rfl (X.mg.toList.map (aJ .i)) _ (fun w' h=>h.2.2.2.2.2.2) hU2 rfl hI2) (by assumption) ?_
 try simp only[Act.put,List.setIfInBounds_toArray,List.set_cons_zero,List.set_cons_succ]
 refine wpAnyH_take (i:=4) (v:=?_) rfl (by kernel_rfl) (by kernel_rfl) (by kernel_rfl) (fun _ _ _ h=>h) (Or.inl ⟨by rfl,?_⟩) (by assumption) ?_;rotate_left
 ·intro w' hSw
  try dsimp only at hSw
  go_simp
  try with_reducible rfl
 try simp only[Act.put,List.setIfInBounds_toArray,List.set_cons_zero,List.set_cons_succ]
 refine wpAnyH_take (i:=5) (v:=?_) rfl (by kernel_rfl) (by kernel_rfl) (by kernel_rfl) (fun _ _ _ h=>h) (Or.inl ⟨by rfl,?_⟩) (by assumption) ?_;rotate_left
 ·intro w' hSw
  try dsimp only at hSw
  go_simp
  try with_reducible rfl
 try simp only[Act.put,List.setIfInBounds_toArray,List.set_cons_zero,List.set_cons_succ]
 refine wpAnyH_take (i:=7) (v:=?_) rfl (by kernel_rfl) (by kernel_rfl) (by kernel_rfl) (fun _ _ _ h=>h) (Or.inl ⟨by rfl,?_⟩) (by assumption) ?_;rotate_left
 ·intro w' hSw
  try dsimp only at hSw
  go_simp
  try with_reducible rfl
 try simp only[Act.put,List.setIfInBounds_toArray,List.set_cons_zero,List.set_cons_succ]
 refine wpAnyH_take (i:=8) (v:=?_) rfl (by kernel_rfl) (by kernel_rfl) (by kernel_rfl) (fun _ _ _ h=>h) (Or.inl ⟨by rfl,?_⟩) (by assumption) ?_;rotate_left
 ·intro w' hSw
  try dsimp only at hSw
  go_simp
  try with_reducible rfl
 try simp only[Act.put,List.setIfInBounds_toArray,List.set_cons_zero,List.set_cons_succ]
 refine wpAnyH_take (i:=9) (v:=?_) rfl (by kernel_rfl) (by kernel_rfl) (by kernel_rfl) (fun _ _ _ h=>h) (Or.inl ⟨by rfl,?_⟩) (by assumption) ?_;rotate_left
 ·intro w' hSw
  try dsimp only at hSw
  go_simp
  try with_reducible rfl
 try simp only[Act.put,List.setIfInBounds_toArray,List.set_cons_zero,List.set_cons_succ]
 refine wpAnyH_take (i:=10) (v:=?_) rfl (by kernel_rfl) (by kernel_rfl) (by kernel_rfl) (fun _ _ _ h=>h) (Or.inl ⟨by rfl,?_⟩) (by assumption) ?_;rotate_left
 ·intro w' hSw
  try dsimp only at hSw
  go_simp
  try with_reducible rfl
 try simp only[Act.put,List.setIfInBounds_toArray,List.set_cons_zero,List.set_cons_succ]
 refine wpAnyH_take (i:=2) (v:=?_) rfl (by kernel_rfl) (by kernel_rfl) (by kernel_rfl) (fun _ _ _ h=>h) (Or.inl ⟨by rfl,?_⟩) (by assumption) ?_;rotate_left
 ·intro w' hSw
  try dsimp only at hSw
  go_simp
  try with_reducible rfl
 try simp only[Act.put,List.setIfInBounds_toArray,List.set_cons_zero,List.set_cons_succ]
 refine wpAnyH_take (i:=1) (v:=.agg c.aA) rfl (by kernel_rfl) (by kernel_rfl) (by kernel_rfl) (fun _ _ _ h=>h) (Or.inl ⟨by rfl,fun w' hSw=>?_⟩) (by assumption) ?_
 ·have qc:=hSw.2.1
  clear hSw;go_simp
 try simp only[Act.put,List.setIfInBounds_toArray,List.set_cons_zero,List.set_cons_succ]
 refine wpAnyH_take (i:=3) (v:=.agg (Pc.mk X.mq X.b.A X.b.n X.b.c).aA) rfl (by kernel_rfl) (by kernel_rfl) (by kernel_rfl) (fun _ _ _ h=>h) (Or.inl ⟨by rfl,fun w' hSw=>?_⟩) (by assumption) ?_
 ·have qc:=hSw.2.2.1
  clear hSw;go_simp
 try simp only[Act.put,List.setIfInBounds_toArray,List.set_cons_zero,List.set_cons_succ]
 refine wpAnyH_ready (rs:=[6]) (by kernel_rfl) (by simp) ?_;refine AllReadyH.cons rfl (fun K hK=>?_) AllReadyH.nil;go_simp;go_wp2_with (go_at_call 59;(with_reducible refine(CH.out _ Z1.out.drew.dF).mono ?_);rintro r w2 ⟨A1,c1,rfl,ho,hb⟩;have Z2:=ah (Z1.out.drew.go hb);have O2:=ah ho;have SZ2:=ah (show w1.h.z<=w2.h.z from hb.size);clear ho hb);clear hHeld;refine hK.out _ _ (KS.out _ Z2.out) (fun hHeld=>?_);clear hK K
 try simp only[Act.put,List.setIfInBounds_toArray,List.set_cons_zero,List.set_cons_succ]
 refine wpAnyH_take (i:=13) (v:=?_) rfl (by kernel_rfl) (by kernel_rfl) (by kernel_rfl) (fun _ _ _ h=>h) (Or.inl ⟨by rfl,?_⟩) (by assumption) ?_;rotate_left
 ·intro w' hSw
  try dsimp only at hSw
  go_simp
  try with_reducible rfl
 try simp only[Act.put,List.setIfInBounds_toArray,List.set_cons_zero,List.set_cons_succ]
 refine wpAnyH_ready (rs:=[14]) (by kernel_rfl) (by simp) ?_;refine AllReadyH.cons rfl (fun K hK=>?_) AllReadyH.nil;go_simp;clear hHeld;refine hK.out _ _ (KS.out _ (Z2.out.alloc _)) (fun hHeld=>?_);clear hK K;refine wpAnyH_take (i:=15) (v:=?_) rfl (by kernel_rfl) (by kernel_rfl) (by kernel_rfl) (fun _ _ _ h=>h) (Or.inl ⟨by rfl,?_⟩) (by assumption) ?_;rotate_left
 ·intro w' hSw
  try dsimp only at hSw
  go_simp
  try with_reducible rfl
 try simp only[Act.put,List.setIfInBounds_toArray,List.set_cons_zero,List.set_cons_succ]
 refine wpAnyH_done (by kernel_rfl) ?_ _;have ZE:=ah (Z2.out.new (Eg.mk key c ⟨X.mq,X.b.A,X.b.n,X.b.c⟩ A1 X.h.n c1 none 0 0 none Dw X.gN X.no X.mg).aA 123);have O3:=ah (vM O2.out (.c (Eg.mk key c ⟨X.mq,X.b.A,X.b.n,X.b.c⟩ A1 X.h.n c1 none 0 0 none Dw X.gN X.no X.mg).aA 123));have SZ3:=ah (show w2.h.z<(w2.alloc (.c (Eg.mk key c ⟨X.mq,X.b.A,X.b.n,X.b.c⟩ A1 X.h.n c1 none 0 0 none Dw X.gN X.no X.mg).aA 123)).h.z by simp);clear hHeld;go_upto_region 4 with fail
 generalize w2.alloc (.c (Eg.mk key c ⟨X.mq,X.b.A,X.b.n,X.b.c⟩ A1 X.h.n c1 none 0 0 none Dw X.gN X.no X.mg).aA 123)=w3 at ZE O3 SZ3 ⊢;have HQ:=ah (show w1.h.z<=w2.h.z from SZ2.out);have HF1:=ah (kZ O2.out);have UQ:=ah (show w.h.z<=w1.h.z from Z1.out.dF.size);clear SZ2 O2 Z2;generalize w2.h.z=q at ZE SZ3 HQ HF1 ⊢;clear KS CH hU hI hU2 hI2;have HNE:=ah (show∀p∈[(w.h.z+2,X.aA),(w.h.z+1,c.aA),(w.h.z,iU key)],p.1≠q from fun p hp=>by
  have h1:=SZ1.out;have h2:=HQ.out;simp at hp;rcases hp with rfl|rfl|rfl<;>simp<;>omega)
 have CV:=ah (afI vs c.qO c.iH c.qP w3 (HV.out.go ZE.out.dF) HVN.out);unfold ayL at CV;have fv:=(ZE.out.b2.aI.1 0).trans (Cn.KW c);go_upto_region 5 with(go_at_call 60;(with_reducible refine CV.out.mono ?_);rintro r w4 ⟨A2,c2,rfl,ho,hb⟩;have g16:=(ZE.out.b0.go hb).aI.2.1 16;have f16:=((ZE.out.b0.go hb).aI.1 16).trans (Eg.KW _);have Z4:=ah (ZE.out.go hb);have O4:=ah ho;have B4:=ah hb;clear ho hb)
 have Z5:=ah (Z4.out.set HNE.out 16 (.s A2 c.iH c2));rw[Eg.Pg]at Z5;have F5:=ah (show jE [q] w3 (w4.setCell ⟨q,16,none⟩ (.s A2 c.iH c2))from(jE.jq (F:=[q]) B4.out).set ⟨q,16,none⟩ _ (.inl (by simp)));have F45:=ah (show jE [q] w4 (w4.setCell ⟨q,16,none⟩ (.s A2 c.iH c2))from(jE.refl [q] w4).set ⟨q,16,none⟩ _ (.inl (by simp)));generalize w4.setCell ⟨q,16,none⟩ (.s A2 c.iH c2)=w5 at Z5 F5 F45 ⊢;clear g16 f16 fv CV;have O5:=ah (Ib O4.out F45.out SZ3.out);have HBN:=ah (show s.sW.n=X.b.n from HS.out.b.1);have CB:=ah (xX s.sW X.b.A X.b.c w5 (by have h1:=HS.out.b.go Z5.out.dF;rw[<-HBN.out]at h1;exact h1) (by have:=HFW.out;omega));unfold abY at CB;rw[HBN.out]at CB;have fb:=(Z5.out.b1.aI.1 1).trans (Sh.Il X);go_upto_region 6 with(go_at_call 61;(with_reducible refine CB.out.mono ?_);rintro r w6 ⟨A3,c3,rfl,ho,hb⟩;have g71:=(Z5.out.b0.go hb).aI.2.1 71;have f71:=((Z5.out.b0.go hb).aI.1 71).trans (Eg.apM _);have Z6:=ah (Z5.out.go hb);have O6:=ah ho;have B6:=ah hb;clear ho hb)
 have Z7:=ah (Z6.out.set HNE.out 71 (.s A3 X.b.n c3));rw[Eg.ajN]at Z7;have F7:=ah (show jE [q] w5 (w6.setCell ⟨q,71,none⟩ (.s A3 X.b.n c3))from(jE.jq (F:=[q]) B6.out).set ⟨q,71,none⟩ _ (.inl (by simp)));have F67:=ah (show jE [q] w6 (w6.setCell ⟨q,71,none⟩ (.s A3 X.b.n c3))from(jE.refl [q] w6).set ⟨q,71,none⟩ _ (.inl (by simp)));generalize w6.setCell ⟨q,71,none⟩ (.s A3 X.b.n c3)=w7 at Z7 F7 F67 ⊢;clear g71 f71 fb CB;have O7:=ah (Ib O6.out F67.out (Nat.lt_of_lt_of_le SZ3.out F5.out.size));have CF:=ah (alT key c.dR.toNat (by have:=HRM.out;omega) (by have:=HRM.out;omega) w7);rw[show((c.dR.toNat:Nat):Int)=c.dR from Int.toNat_of_nonneg (by have:=HRM.out;omega)]at CF;unfold avc at CF;have lk:=XV.mO Z7.out.b3 (dK _);have fr:=(Z7.out.b2.aI.1 2).trans (Cn.U3 c);go_upto_region 7 with(go_at_call 62;(with_reducible refine CF.out.mono ?_);rintro r w8 ⟨q2,g,sl,rfl,ht,hrm,hq2,hg,hb⟩;have g74:=(Z7.out.b0.go hb).aI.2.1 74;have f74:=((Z7.out.b0.go hb).aI.1 74).trans (Eg.aa8 _);have Z8:=ah (Z7.out.go hb);have T8:=ah ht;have HQ2:=ah hq2;have HG:=ah hg;have RM:=ah hrm;have B8:=ah hb;clear ht hq2 hg hrm hb)
 have Z9:=ah (Z8.out.set HNE.out 74 (afy (some q2)));rw[Eg.ayr]at Z9;change Hid (Bx _ w (w8.setCell ⟨q,74,none⟩ (.p (some ⟨q2,0,none⟩))))at Z9;have F9:=ah (show jE [q] w8 (w8.setCell ⟨q,74,none⟩ (.p (some ⟨q2,0,none⟩)))from(jE.refl [q] w8).set ⟨q,74,none⟩ _ (.inl (by simp)));generalize w8.setCell ⟨q,74,none⟩ (.p (some ⟨q2,0,none⟩))=w9 at Z9 F9 ⊢;clear g74 f74 fr lk CF;obtain⟨x9,hx9,zx⟩:∃x9:Eg,x9=Eg.mk key {c with qO:=A2,iH:=c.iH,qP:=c2} ⟨X.mq,A3,X.b.n,c3⟩ A1 X.h.n c1 none 0 0 (some q2) Dw X.gN X.no X.mg/\Bx ((q,x9.aA)::[(w.h.z+2,X.aA),(w.h.z+1,c.aA),(w.h.z,iU key)]) w w9:=⟨_,rfl,Z9.out⟩
 have HX9:=ah hx9;have ZX:=ah zx;clear hx9 zx Z9;have G79:=ah (show jE [q] w7 w9 from(jE.jq (F:=[q]) B8.out).qh F9.out);have G59:=ah (F7.out.qh G79.out);have G39:=ah (F5.out.qh G59.out);have SS:=ah (show w.h.z<=w1.h.z/\w1.h.z<=q/\q<w3.h.z/\w3.h.z<=w4.h.z/\w4.h.z<=w5.h.z/\w5.h.z<=w6.h.z/\w6.h.z<=w7.h.z/\w7.h.z<=w8.h.z/\w8.h.z<=w9.h.z/\w7.h.z<=q2/\w7.h.z<=g/\q2<w8.h.z/\g<w8.h.z from⟨UQ.out,HQ.out,SZ3.out,B4.out.size,F45.out.size,B6.out.size,F67.out.size,B8.out.size,F9.out.size,HQ2.out,HG.out,T8.out.w.lt.1,T8.out.w.lt.2⟩);have HR9:=ah (show∀b∈nZ x9,(w.h.z<=b/\b<w9.h.z)/\b≠q/\b≠q2/\b≠g from fun b hb=>by
  have hss:=SS.out;rw[HX9.out]at hb;rcases dS.1 hb with hb|hb|hb|hb|hb|hb
  ·have:=kZ O4.out b hb;omega
  ·have:=kZ O6.out b hb;omega
  ·have:=HF1.out b hb;have h2:w1.drew.h.z=w1.h.z:=rfl;omega
  ·cases hb
  ·cases hb
  ·cases hb)
 have E9:=ah (show Nn w9 q ⟨key,c,vs⟩ {s with sN:=[]} x9 q2 g sl by
  have hss:=SS.out;have h4:=kZ O4.out;have h6:=kZ O6.out;have h1:=HF1.out;have h2:w1.drew.h.z=w1.h.z:=rfl;refine⟨ZX.out.b0,by rw[HX9.out],by rw[HX9.out],by rw[HX9.out];exact HS.out.mq,?_,?_,?_,by rw[HX9.out],T8.out.keep F9.out (by simp;omega) (by simp;omega),RM.out,by omega,fun b hb=>by have:=HR9.out b hb;omega,by rw[HX9.out];exact HS.out.gN,by rw[HX9.out];exact HS.out.no,by rw[HX9.out];exact HS.out.mg⟩
  ·rw[HX9.out]
   exact(iO.iX HV.out.1 O5.out).keep G59.out (fun b hb=>by have:=h4 b hb;simp;omega)
  ·rw[HX9.out]
   exact(iO.iX HBN.out O7.out).keep G79.out (fun b hb=>by have:=h6 b hb;simp;omega)
  ·rw[HX9.out]
   exact(iO.iX HS.out.h.1 O3.out).keep G39.out (fun b hb=>by have:=h1 b hb;simp;omega))
 clear O3 O5 O7 O4 O6 G39 G59 G79 F5 F45 F7 F67 F9 B4 B6 B8 HF1 UQ HQ HQ2 HG RM T8 Z7 Z8 Z6 Z5 Z4 ZE;have ff:=(ZX.out.b1.aI.1 3).trans (Sh.aiM X);have HFN:=ah (show s.sN.n=X.f.n from HS.out.f.1);go_wp2;clear ff;go_loopw [58] (fun s58 wr=>∃(k:Nat)(sl':List (Option Fw)),k<=X.f.n/\s58=.int .i k/\LH wr q2 g key c.dR sl' (s.sN.take k)/\sl'.n=sl.n/\jE [q2,g] w9 wr) (fun s58 _=>X.f.n-(intOf s58).toNat)
 case atStart=>exact⟨0,sl,by omega,rfl,by have:=E9.out.tb;exact this,rfl,jE.refl _ _⟩
 case round=>
  obtain⟨k,sl',YB,rfl,ht,hsl,hf⟩:=hrel;have HT:=ah ht;have ND:=ah hsl;have HF:=ah hf;have BW:=ah (show aN w.h.z w wr from ZX.out.dF.trans (hf.rT (fun b hb=>by have:=SS.out;simp at hb;omega) ZX.out.dF.size));have EB:=ah (show Nn wr q ⟨key,c,vs⟩ {s with sN:=s.sN.take k} x9 q2 g sl' from E9.out.rz hf ht hsl);clear ht hsl hf;have hfs:X.f.n<=4096:=by have:=HRM.out;have:=HFN.out;omega
  by_cases hkt:k<X.f.n
  ·have Cc:(k:Int)<X.f.n:=by omega
   have RF:=ah (show iO Fw.aA 41 wr wr.h.z X.f.A X.f.n s.sN from HS.out.f.go BW.out);obtain⟨b,o,hA,Jp,hh,uh⟩:=iO.fw RF.out hkt;have HPN:=ah (apg (k:=k) HI.out.fl (show k<s.sN.n by rw[HFN.out];exact hkt));simp only at HPN;obtain⟨y,hy⟩:∃y,s.sN.getD k kQ=y:=⟨_,rfl⟩
   have HYN:=ah (show y.name.n<=1000000 by
    have:=HI.out.fl.ok y (by rw[<-hy];exact ET kQ s.sN k (by rw[HFN.out];exact hkt));unfold Eo wD at this;simp only[Bool.and_eq_true,decide_eq_true_eq]at this;omega)
   rw[hy]at uh HPN;have EY:=ah (EB.out.go ((Below.refl _ _).alloc (ay _) (.c y.aA 86)));have BY:=ah (dL.new wr y.aA 86);have FY:=ah (HF.out.alloc (.c y.aA 86));have SY:=ah (show w9.h.z<=wr.h.z from HF.out.size);rw[hA];go_upto_region 10 with fail
   generalize wr.alloc (.c y.aA 86)=w11 at EY BY FY ⊢;have HPY:=ah (show wr.h.z∉[q2,g]by have:=SS.out;have:=SY.out;simp;omega);have KP:=ah (fun(w':au) (h0:dL w' wr.h.z y.aA) (h1:dL w' q x9.aA)=>show(Rq (.p (some ⟨wr.h.z,0,none⟩))).run aj w'=.ok (.agg y.aA) w'/\w'.cell? ⟨q,74,none⟩=some (.p (some ⟨q2,0,none⟩))from⟨kK h0,by rw[h1.aI.1 74,Eg.aa8,E9.out.fl];rfl⟩);have CU:=ah (aa3 (EY.out.go (gY _)).tb (by have:=HRM.out;exact this.1.1) (EY.out.go (gY _)).rm y HYN.out);unfold ah4 at CU;have HQN:=ah (show q∉[q2,g]by have:=SS.out;simp;omega);clear hh uh Jp hy;go_region_held_law (fun w'=>(Rq (.p (some ⟨wr.h.z,0,none⟩))).run aj w'=.ok (.agg y.aA) w'/\w'.cell? ⟨q,74,none⟩=some (.p (some ⟨q2,0,none⟩)))
    (first|exact KP.out _ BY.out.drew (EY.out.go (gY _)).eg|exact KP.out _ (F12.out.box BY.out.drew HPY.out) (F12.out.box (EY.out.go (gY _)).eg HQN.out)|go_keep)
    (first|(go_at_call 63;(with_reducible refine CU.out.mono ?_);rintro r w12 ⟨rfl,⟨sl2,ht2,hl2⟩,hf2⟩;have F12:=ah hf2;have T12:=ah ht2;have L12:=ah hl2;clear hf2 ht2 hl2))
   go_wp2;go_roundw
   case rel=>exact⟨k+1,sl2,by omega,by go_num,by have:=T12.out;rw[HPN.out]at this;exact this,by rw[L12.out];exact ND.out,(FY.out.drewN 1).qh F12.out⟩
   case measure=>simp[intOf]<;>omega
  ·obtain rfl:k=X.f.n:=by omega
   have zC:¬((X.f.n:Nat):Int)<X.f.n:=by omega
   have EB2:=ah (show Nn wr q ⟨key,c,vs⟩ s x9 q2 g sl' by
    have:=EB.out;rw[List.take_of_length_le (by have:=HFN.out;omega)]at this;exact this)
   have CB:=ah (J8 EB2.out HI.out);unfold ac' at CB;clear hkt;go_wp2_with (go_at_call 64;(with_reducible refine CB.out.mono ?_);rintro r w13 ⟨rfl,⟨x',hE,YE⟩,hf⟩;have HE:=ah hE;have HRW:=ah YE;have HFB:=ah hf;clear hE YE hf);go_ret2;have hss:=SS.out;have hsw:=BW.out.size;exact⟨q,x',q2,g,sl',rfl,HE.out,BW.out.trans (HFB.out.rT (fun b hb=>by simp at hb;omega) hsw),by omega,fun b hb=>by
    rcases HRW.out b hb with h|h
    ·exact(HR9.out b h).1.1
    ·omega⟩
section
theorem ajS(W:au):StR W W.h.z JH xV:=⟨rfl,iO.nil _ _,iO.nil _ _,iO.nil _ _,rfl,rfl,rfl,(fun y hy=>by cases hy),(fun y hy=>by cases hy),(fun y hy=>by cases hy),by simp[JH,DR],by simp[JH,DR],by simp[JH,DR]⟩
theorem Kc.aKm{w w1:au}{key:Vector UInt8 16}{c:Cn}{vs:List Vp}{s:qK}{r:kX}{W':au}(h:Kc w1 key c vs s r W')(hb:aN w.h.z w w1):Kc w key c vs s r W':=by
 obtain⟨q,x,q2,g,sl,h1,h2,h3,h4,h5⟩:=h;have:=hb.size;exact⟨q,x,q2,g,sl,h1,h2,hb.trans (h3.mono hb.size),by omega,fun b hm=>by have:=h5 b hm;omega⟩
theorem aml{c:Cn}{vs:List Vp}(h:yM c vs=true):zQ c vs xV=true:=(K8 (bG 16 0) h).right (by omega)
theorem abf(key:Vector UInt8 16)(c:Cn)(vs:List Vp)(w:au)(hV:iO Vp.aA 20 w w.h.z c.qO c.iH vs)(hvc:c.iH<=c.qP)(hvn:c.iH<=100000)(hJ:yM c vs=true):
 aR aj 23 #[.agg (iU key),.agg c.aA] w (Kc w key c vs xV):=by
 have h0:=((Bx.start w).new (iU key) 22).new c.aA 29;rw[show(w.alloc (.c (iU key) 22)).h.z=w.h.z+1 by simp]at h0;have Z0:=ah h0;have CR:=ah (fun w1 (hb:aN w.h.z w w1)=>Mq key c vs JH xV w1 (hV.go hb) hvc hvn (ajS w1) (aml hJ));clear h0 hV hvc hvn hJ;go_enter Tryz.func23,Tryz.ntmps23;go_upto_region 1 with fail
 generalize(w.alloc (.c (iU key) 22)).alloc (.c c.aA 29)=w0 at Z0 ⊢;have l1:=XV.mO Z0.out.b1 (dK _);have l2:=Qo.mO Z0.out.b0 (Cn.ak _);go_wp2_with (go_at_call 19;(with_reducible refine(CR.out _ Z0.out.dF).mono ?_);rintro e w1 ⟨q,x,q2,g,sl,rfl,h2,h3,h4,h5⟩;have H:=ah (show Kc w key c vs xV (.returned (.tuple #[.pointer (some ⟨q,0,none⟩),.int .i 0])) w1 from Kc.aKm ⟨q,x,q2,g,sl,rfl,h2,h3,h4,h5⟩ Z0.out.dF);clear h2 h3 h4 h5);go_ret2;exact H.out
theorem aqk(key:Vector UInt8 16)(c:Cn)(vs:List Vp)(w:au)(hV:iO Vp.aA 20 w w.h.z c.qO c.iH vs)(hvc:c.iH<=c.qP)(hvn:c.iH<=100000)(hJ:yM c vs=false):
 aR aj 23 #[.agg (iU key),.agg c.aA] w (gP w (.tuple #[.pointer none,.int .i 1])):=by
 have h0:=((Bx.start w).new (iU key) 22).new c.aA 29;rw[show(w.alloc (.c (iU key) 22)).h.z=w.h.z+1 by simp]at h0;have Z0:=ah h0;have CR:=ah (fun w1 (hb:aN w.h.z w w1)=>adi key c vs JH xV w1 (hV.go hb) hvc hvn (ajS w1) (by simp[xV]) (by simp[xV]) (by simp[xV]) (by unfold zQ XL;rw[hJ];rfl));clear h0 hV hvc hvn hJ;go_enter Tryz.func23,Tryz.ntmps23;go_upto_region 1 with fail
 generalize(w.alloc (.c (iU key) 22)).alloc (.c c.aA 29)=w0 at Z0 ⊢;have l1:=XV.mO Z0.out.b1 (dK _);have l2:=Qo.mO Z0.out.b0 (Cn.ak _);go_wp2_with (go_at_call 19;(with_reducible refine(CR.out _ Z0.out.dF).mono ?_);rintro e w1 ⟨rfl,gI⟩;have Z1:=ah (Z0.out.go gI);clear gI);go_ret2;exact⟨rfl,Z1.out.dF⟩
structure TbO(B:Nat)(W:au)(X:Tc)(t:Tl):Prop where
 nn:t.names.n=X.rP
 n:W.ownsRow B 9 1 (.s X.sV X.rP X.Da) X.rP (t.names.flatMap fun y=>(txA y).toList)
 sn:t.uP.n=X.ql
 s:W.ownsRow B 3 1 (.s X.qV X.ql X.yP) X.ql (t.uP.flatMap fun y=>(GY y).toList)
def aDN(W:au)(t:Tl)(r:kX)(W':au):Prop:=∃X:Tc,r=.returned (.agg X.aA)/\TbO W.h.z W' X t/\aN W.h.z W W'
theorem TlR.aKn{W:au}{A1 A2:Option aU}{n1 n2:Nat}{t:Tl}(h:TlR W A1 n1 A2 n2 t):RdI W W.h.z A2 n2 t.uP:=by
 obtain⟨_,h2,h3⟩:=h;subst h2;rcases h3 with⟨h4,rfl⟩|⟨g,d,rfl,h4,h5⟩
 ·rw[bF h4];exact iO.nil _ _
 ·exact RdI.box h4 (fun j hj=>by rw[bB];exact h5 j hj)
theorem TlR.texts{W:au}{A1 A2:Option aU}{n1 n2:Nat}{t:Tl}(h:TlR W A1 n1 A2 n2 t):RdT W W.h.z A1 n1 t.names:=h.1
variable {W W':au} {q:Nat} {e:En} {s:qK} {x:Eg} {q2 g:Nat} {sl:List (Option Fw)}
theorem air(t:Tl)(hE:dL W q x.aA)(hT:RdT W W.h.z x.tb.sV x.tb.rP t.names)(hI:RdI W W.h.z x.tb.qV x.tb.ql t.uP)(hn:t.names.n<=100000)(hs:t.uP.n<=100000):aR aj 31 #[.pointer (some ⟨q,0,none⟩)] W (aDN W t):=by
 have Z0:=ah ((Bx.start W).new Dw.aA 72);have HE:=ah hE;have HT:=ah hT;have HI:=ah hI;have HN:=ah (show t.names.n=x.tb.rP/\t.uP.n=x.tb.ql from⟨hT.1,hI.1⟩);have HS:=ah (show x.tb.rP<=100000/\x.tb.ql<=100000 by rw[<-HN.out.1,<-HN.out.2];exact⟨hn,hs⟩);clear hE hT hI hn hs;go_enter Tryz.func31,Tryz.ntmps31;go_upto_region 1 with fail
 have SZ0:=ah (show W.h.z<(W.alloc (.c Dw.aA 72)).h.z by simp);generalize W.alloc (.c Dw.aA 72)=w0 at Z0 SZ0 ⊢;have KS:=ah (fun(w':au) (h1:dL w' q x.aA)=>show w'.cell? ⟨q,75,none⟩=some (.s x.tb.sV x.tb.rP x.tb.Da)/\w'.cell? ⟨q,76,none⟩=some (.s x.tb.qV x.tb.ql x.tb.yP)from⟨(h1.aI.1 75).trans (Eg.FQ x),(h1.aI.1 76).trans (Eg.yQ x)⟩);have CN:=ah (fun(w:au) (hb:aN W.h.z W w)=>afH t.names x.tb.sV x.tb.rP x.tb.Da w (HT.out.go hb) HS.out.1);have CI:=ah (fun(w:au) (hb:aN W.h.z W w)=>ain t.uP x.tb.qV x.tb.ql x.tb.yP w (HI.out.go hb) HS.out.2);unfold aqb at CN;unfold ayK at CI;go_region_held_law (fun w'=>w'.cell? ⟨q,75,none⟩=some (.s x.tb.sV x.tb.rP x.tb.Da)/\w'.cell? ⟨q,76,none⟩=some (.s x.tb.qV x.tb.ql x.tb.yP))
  (first|exact KS.out _ (HE.out.go Z0.out.drew.dF)|exact KS.out _ (HE.out.go Z1.out.dF)|exact KS.out _ (HE.out.go Z2.out.dF)|exact KS.out _ (HE.out.go Z3.out.dF)|go_keep)
  (first
  | (go_at_call 88;(with_reducible refine(CN.out _ Z0.out.drew.dF).mono ?_);rintro r w1 ⟨A1,c1,rfl,ho,hb⟩;have Z1:=ah (Z0.out.drew.go hb);have O1:=ah ho;have S1:=ah (show w0.h.z<=w1.h.z from hb.size);clear ho hb)
  | (go_at_call 89;(with_reducible refine(CI.out _ Z1.out.dF).mono ?_);rintro r w2 ⟨A2,c2,rfl,ho,hb⟩;have Z2:=ah (Z1.out.go hb);have O2:=ah ho;have B2:=ah hb;have th:=Z2.out.b0.there 0 2 (Nat.le_of_eq (Tc.ak Dw).symm);have Z3:=ah (show Bx [(W.h.z,(Tc.mk A1 x.tb.rP c1 A2 x.tb.ql c2).aA)] W (gT w2 W.h.z 0 (Tc.mk A1 x.tb.rP c1 A2 x.tb.ql c2).aA)from Z2.out.put (fun r hr=>by cases hr) _ (by rw[Tc.ak,Tc.ak]));clear ho hb))
 have FS:=ah (show jE [W.h.z] w2 (gT w2 W.h.z 0 (Tc.mk A1 x.tb.rP c1 A2 x.tb.ql c2).aA)from yT w2 W.h.z 0 _);have hs0:=SZ0.out;have Nw:=S1.out;go_wp2_with fail;refine bodyPost_ret (kTc.zM rfl _ rfl Z3.out.b0 (Tc.ak _)) rfl ?_;refine⟨_,rfl,⟨HN.out.1,?_,HN.out.2,?_⟩,Z3.out.dF⟩
 ·exact iG (Ib (jv O1.out B2.out) FS.out (by simp;omega)) (by simp;omega)
 ·exact iG (Ib O2.out FS.out (by omega)) (by omega)
end
section
open Go.ChangeShapes Go.WideShapes Go.ChangeAt Go.RowKit Go.Deep
def bA(b:UInt8):Array aC:=#[bv b]
theorem ayQ(l:List UInt8):(l.flatMap fun x=>(bA x).toList)=l.map bv:=by
 induction l with
 | nil=>rfl
 | cons a l ih=>rw[List.flatMap_cons,List.map_cons,ih];rfl
def ais:Ac:=⟨0,[],⟨0,jo,[],0⟩,[],false⟩
def pU:At:=⟨0,none,0,0,⟨0,jo,[],0⟩,[],false⟩
theorem Ub{α:Type}(d:α)(P:Nat->α->Prop):∀n:Nat,(∀i,i<n->∃u,P i u)->∃us:List α,us.n=n/\∀i,i<n->P i (us.getD i d)
 | 0,_=>⟨[],rfl,fun i h=>by omega⟩
 | n+1,h=>by
   obtain⟨us,h1,h2⟩:=Ub d P n (fun i hi=>h i (by omega));obtain⟨u,hu⟩:=h n (by omega);refine⟨us++[u],by simp[h1],fun i hi=>?_⟩;rcases bf i n with h3|h3
   ·rw[av,List.getElem?_append_left (by omega),<-av];exact h2 i h3
   ·obtain rfl:i=n:=by omega
    rw[av,List.getElem?_append_right (by omega),h1,Nat.sub_self];exact hu
structure AtO(W:au)(a:At)(u:Ac):Prop where
 kind:a.kind=u.kind
 fr:gy W W.h.z a.Zq a.Qh u.frame
 NJ:a.Qh<=a.NJ/\a.NJ<=9223372036854775807
 op:a.op=u.op
 name:a.name=u.name
 well:a.well=u.well
 Lj:u.op.Lj
theorem AtO.r{W:au}{a:At}{u:Ac}(h:AtO W a u)(hn:a.Qh<=1000000):AtR W a u:=⟨h.kind,h.fr,⟨h.NJ.1,h.NJ.2,hn⟩,h.op,h.name,h.well⟩
theorem AtR.go{W W':au}{a:At}{u:Ac}(h:AtR W a u)(hb:aN W.h.z W W'):AtR W' a u:=⟨h.kind,h.fr.upon hb,h.NJ,h.op,h.name,h.well⟩
section
variable {H:Type} {enc:bM×aC->H} {w:au} {base:Nat} {held:Bool} {fuel:Nat} {cs:List aC} {x:DataW H×List MemPlace}
theorem atU(h:lX enc aj w base (fun _=>true) held fuel 98 cs=some x):∃v:Vp,cs=v.aA.toList/\True:=by
 obtain⟨xs,n,_,_,hl,Dh,hf⟩:=uX sw h;rw[show aj.cellsOf 98=20 by kernel_rfl]at hl;obtain⟨y0,h0⟩:=Li Dh hf 0 _ rfl;obtain⟨y1,h1⟩:=Li Dh hf 1 _ rfl;obtain⟨y2,h2⟩:=Li Dh hf 2 _ rfl;obtain⟨y3,h3⟩:=Li Dh hf 3 _ rfl;obtain⟨a,ha⟩:=OH h0;obtain⟨p,hp,_,_⟩:=sK (by kernel_rfl) h1;obtain⟨q,hq,_,_⟩:=sK (by kernel_rfl) h2;obtain⟨t,ht,_⟩:=I5 (by kernel_rfl) h3;have c0:(cs.drop 0).take 17=a.aA.toList:=ha;have c1:(cs.drop 17).take 1=[.int .i p]:=hp;have c2:(cs.drop 18).take 1=[.int .i q]:=hq;have c3:(cs.drop 19).take 1=[.bool t]:=ht;refine⟨⟨a,p,q,t⟩,?_,trivial⟩;have e:=tK cs 0 17;rw[c0,tK cs (0+17) 1,c1,tK cs (0+17+1) 1,c2,tK cs (0+17+1+1) 1,c3,iR (i:=0+17+1+1+1) (by omega)]at e;simpa[Vp.aA]using e
theorem atV(h:lX enc aj w base (fun _=>true) held fuel 29 cs=some x):∃(c:Cn)(l:List Vp),cs=c.aA.toList/\iO Vp.aA 20 w w.h.z c.qO c.iH l/\c.iH<=c.qP/\c.qP<=9223372036854775807:=by
 obtain⟨xs,n,_,_,hl,Dh,hf⟩:=uX mY h;rw[show aj.cellsOf 29=54 by kernel_rfl]at hl;obtain⟨y0,h0⟩:=Li Dh hf 0 _ rfl;obtain⟨y1,h1⟩:=Li Dh hf 1 _ rfl;obtain⟨y2,h2⟩:=Li Dh hf 2 _ rfl;obtain⟨y3,h3⟩:=Li Dh hf 3 _ rfl;obtain⟨y4,h4⟩:=Li Dh hf 4 _ rfl;obtain⟨y5,h5⟩:=Li Dh hf 5 _ rfl;obtain⟨y6,h6⟩:=Li Dh hf 6 _ rfl;obtain⟨y7,h7⟩:=Li Dh hf 7 _ rfl;obtain⟨y8,h8⟩:=Li Dh hf 8 _ rfl;obtain⟨y9,h9⟩:=Li Dh hf 9 _ rfl;obtain⟨y10,h10⟩:=Li Dh hf 10 _ rfl;obtain⟨y11,h11⟩:=Li Dh hf 11 _ rfl;obtain⟨A,k,c,l,hs,tX,hc,EI,Uc,hsp,_⟩:=Qv Vp.aA (fun _=>True) 20 Vp.ak (by kernel_rfl:aj.underlying _=some (.slice 98)) (by kernel_rfl) (by omega) (fun n cs y hy=>atU hy) h0;obtain⟨z1,e1,_,_⟩:=sK (by kernel_rfl) h1;obtain⟨z2,e2,_,_⟩:=sK (by kernel_rfl) h2;obtain⟨z3,e3⟩:=alk (k:=6) (e:=3) (by kernel_rfl) (by kernel_rfl) (by kernel_rfl) (by kernel_rfl) h3;obtain⟨z4,e4,_,_⟩:=sK (by kernel_rfl) h4;obtain⟨z5,e5,_,_⟩:=sK (by kernel_rfl) h5;obtain⟨z6,e6⟩:=NR (k:=6) (e:=5) (by kernel_rfl) (by kernel_rfl) (by kernel_rfl) (by kernel_rfl) h6;obtain⟨z7,e7⟩:=OH h7;obtain⟨z8,e8⟩:=OH h8;obtain⟨z9,e9,_,_⟩:=sK (by kernel_rfl) h9;obtain⟨za,ea,_,_⟩:=sK (by kernel_rfl) h10;obtain⟨zb,eb,_,_⟩:=sK (by kernel_rfl) h11;have c0:(cs.drop 0).take 1=[.slice A k c]:=hs;have c1:(cs.drop 1).take 1=[.int .i z1]:=e1;have c2:(cs.drop 2).take 1=[.int .i z2]:=e2;have c3:(cs.drop 3).take 6=z3.toList.map (aJ .i):=e3;have c4:(cs.drop 9).take 1=[.int .i z4]:=e4;have c5:(cs.drop 10).take 1=[.int .i z5]:=e5;have c6:(cs.drop 11).take 6=z6.toList.map bv:=e6;have c7:(cs.drop 17).take 17=z7.aA.toList:=e7;have c8:(cs.drop 34).take 17=z8.aA.toList:=e8;have c9:(cs.drop 51).take 1=[.int .i z9]:=e9;have ca:(cs.drop 52).take 1=[.int .i za]:=ea;have cb:(cs.drop 53).take 1=[.int .i zb]:=eb;refine⟨⟨A,k,c,z1,z2,z3,z4,z5,z6,z7,z8,z9,za,zb⟩,l,?_,⟨EI,Uc,hsp⟩,tX,hc⟩;have e:=tK cs 0 1;rw[c0,tK cs (0+1) 1,c1,tK cs (0+1+1) 1,c2,tK cs (0+1+1+1) 6,c3,tK cs (0+1+1+1+6) 1,c4,tK cs (0+1+1+1+6+1) 1,c5,tK cs (0+1+1+1+6+1+1) 6,c6,tK cs (0+1+1+1+6+1+1+6) 17,c7,tK cs (0+1+1+1+6+1+1+6+17) 17,c8,tK cs (0+1+1+1+6+1+1+6+17+17) 1,c9,tK cs (0+1+1+1+6+1+1+6+17+17+1) 1,ca,tK cs (0+1+1+1+6+1+1+6+17+17+1+1) 1,cb,iR (i:=0+1+1+1+6+1+1+6+17+17+1+1+1) (by omega)]at e;simpa[Cn.aA,Lp,Bv]using e
theorem aql(h:lX enc aj w base (fun _=>true) held fuel 56 cs=some x):∃(A:Option aU)(n c:Nat)(l:List UInt8),cs=[.slice A n c]/\gy w w.h.z A n l/\n<=c/\c<=9223372036854775807:=by
 obtain⟨A,n,c,l,hs,tX,hc,EI,Uc,hsp,_⟩:=Qv bA (fun _=>True) 1 (fun _=>rfl) dw (by kernel_rfl) (by omega) (fun n cs y hy=>by
  obtain⟨b,hb⟩:=aiz lD hy;exact⟨b,hb,trivial⟩) h
 rw[ayQ]at Uc;exact⟨A,n,c,l,hs,Uc,tX,hc⟩
theorem atW(h:lX enc aj w base (fun _=>true) held fuel 66 cs=some x):∃a:At,cs=a.aA.toList/\∃u:Ac,AtO w a u:=by
 obtain⟨xs,n,_,_,hl,Dh,hf⟩:=uX lM h;rw[show aj.cellsOf 66=34 by kernel_rfl]at hl;obtain⟨y0,h0⟩:=Li Dh hf 0 _ rfl;obtain⟨y1,h1⟩:=Li Dh hf 1 _ rfl;obtain⟨y2,h2⟩:=Li Dh hf 2 _ rfl;obtain⟨y3,h3⟩:=Li Dh hf 3 _ rfl;obtain⟨y4,h4⟩:=Li Dh hf 4 _ rfl;obtain⟨z0,e0,_,_⟩:=sK (by kernel_rfl) h0;obtain⟨A,k,c,l,e1,hR,tX,hc⟩:=aql h1;obtain⟨z2,e2,hg⟩:=an4 h2;obtain⟨z3,e3,_⟩:=Vx (by kernel_rfl) h3;obtain⟨z4,e4,_⟩:=I5 (by kernel_rfl) h4;have c0:(cs.drop 0).take 1=[.int .i z0]:=e0;have c1:(cs.drop 1).take 1=[.slice A k c]:=e1;have c2:(cs.drop 2).take 30=z2.aA.toList:=e2;have c3:(cs.drop 32).take 1=[.string (bV z3)]:=e3;have c4:(cs.drop 33).take 1=[.bool z4]:=e4;refine⟨⟨z0,A,k,c,z2,z3,z4⟩,?_,⟨z0,l,z2,z3,z4⟩,rfl,hR,⟨tX,hc⟩,rfl,rfl,rfl,hg⟩;have e:=tK cs 0 1;rw[c0,tK cs (0+1) 1,c1,tK cs (0+1+1) 30,c2,tK cs (0+1+1+30) 1,c3,tK cs (0+1+1+30+1) 1,c4,iR (i:=0+1+1+30+1+1) (by omega)]at e;simpa[At.aA]using e
end
section
variable {H:Type} {enc:bM×aC->H} {W:au} {base:Nat} {v:aC} {d:DataW H} {ps:List MemPlace} {held:Bool}
theorem aqm(hval:IZ aj W .any base 22 v)(h:DataW.Trod enc aj W 0 (fun _=>true) held 22 v d ps):∃k:Vector UInt8 16,v=.agg (iU k):=by
 obtain⟨cs,rfl⟩:∃cs,v=.agg cs:=by
  simp only[IZ,Tryz.underlying22]at hval;obtain⟨cs,h1,_⟩:=hval;exact⟨cs,h1⟩
 obtain⟨fuel,hf⟩:=h;obtain⟨k,hk⟩:=NR (k:=16) (e:=5) (by kernel_rfl) (by kernel_rfl) (by kernel_rfl) (by kernel_rfl) hf;have hc:cs.toList=k.toList.map bv:=hk;exact⟨k,by unfold iU;rw[<-hc]⟩
theorem atX(hval:IZ aj W .any base 29 v)(h:DataW.Trod enc aj W 0 (fun _=>true) held 29 v d ps):∃(c:Cn)(l:List Vp),v=.agg c.aA/\iO Vp.aA 20 W W.h.z c.qO c.iH l/\c.iH<=c.qP/\c.qP<=9223372036854775807:=by
 obtain⟨cs,rfl,_⟩:=okWide_struct mY hval;obtain⟨fuel,hf⟩:=h;obtain⟨c,l,hcs,hr⟩:=atV hf;have hc:cs.toList=c.aA.toList:=hcs;exact⟨c,l,by rw[Ig.1 hc],hr⟩
theorem abg(hval:IZ aj W .any base 49 v)(h:DataW.Trod enc aj W 0 (fun _=>true) held 49 v d ps):
 ∃(A:Option aU)(n c:Nat)(l:List At)(us:List Ac),v=.slice A n c/\iO At.aA 34 W W.h.z A n l/\us.n=n/\(∀i,i<n->AtO W (l.getD i pU) (us.getD i ais))/\n<=9223372036854775807:=by
 obtain⟨a0,len,cap,rfl⟩:=okWide_slice Tryz.underlying49 hval;obtain⟨fuel,hf⟩:=h;obtain⟨A,n,c,l,hs,tX,hc,EI,Uc,hsp,Gl⟩:=Qv At.aA (fun a=>∃u,AtO W a u) 34 At.ak Tryz.underlying49 (by kernel_rfl) (by omega) (fun n cs y hy=>atW hy) hf;simp only[cu,List.cons.injEq,Value.slice.injEq,and_true]at hs;obtain⟨rfl,rfl,rfl⟩:=hs;obtain⟨us,h1,h2⟩:=Ub ais (fun i u=>AtO W (l.getD i pU) u) len (fun i hi=>Gl _ (by rw[av,aD (by omega),Option.getD_some];exact List.getElem_mem _));exact⟨a0,len,cap,l,us,rfl,⟨EI,Uc,hsp⟩,h1,h2,by omega⟩
end
end
structure OcR(W:au)(o:Oc)(u:Ou):Prop where
 err:o.err=u.err
 jw:o.jw=u.jw
 zi:o.zi=u.zi
 mq:o.mq=u.mq
 name:o.name=u.name
 out:gy W W.h.z o.UC o.Yt u.out
theorem OuR.rd{B:Nat}{W:au}{o:Oc}{u:Ou}(h:OuR B W o u):OcR W o u:=⟨h.err,h.jw,h.zi,h.mq,h.name,gy.iX h.vU⟩
theorem OcR.go{W W':au}{o:Oc}{u:Ou}(h:OcR W o u)(hb:aN W.h.z W W'):OcR W' o u:=⟨h.err,h.jw,h.zi,h.mq,h.name,h.out.upon hb⟩
theorem OcR.all{W:au}{o:Oc}{u:Ou}(h:OcR W o u):o.err=u.err/\o.jw=u.jw/\o.zi=u.zi/\o.mq=u.mq/\o.name=u.name:=⟨h.err,h.jw,h.zi,h.mq,h.name⟩
theorem atZ(u v:Ou):decide (u=v)=((u.err==v.err)&&((u.jw==v.jw)&&((u.zi==v.zi)&&((u.mq==v.mq)&&((u.name==v.name)&&(u.out==v.out)))))):=by
 rw[cO];cases u;cases v;simp
theorem ait(a b:Oc)(u v:Ou)(w:au)(ha:OcR w a u)(hb:OcR w b v)(K:Bool)(hK:decide (u=v)=K):
 aR aj 24 #[.agg a.aA,.agg b.aA] w (gP w (.bool K)):=by
 obtain⟨a1,a2,a3,a4,a5,A,n,c⟩:=a;obtain⟨b1,b2,b3,b4,b5,B,m,d⟩:=b;obtain rfl:a1=u.err:=ha.err;obtain rfl:a2=u.jw:=ha.jw;obtain rfl:a3=u.zi:=ha.zi;obtain rfl:a4=u.mq:=ha.mq;obtain rfl:a5=u.name:=ha.name;obtain rfl:b1=v.err:=hb.err;obtain rfl:b2=v.jw:=hb.jw;obtain rfl:b3=v.zi:=hb.zi;obtain rfl:b4=v.mq:=hb.mq;obtain rfl:b5=v.name:=hb.name;obtain⟨k1,h1⟩:∃k,(u.err==v.err)=k:=⟨_,rfl⟩
 obtain⟨k2,h2⟩:∃k,(u.jw==v.jw)=k:=⟨_,rfl⟩
 obtain⟨k3,h3⟩:∃k,(u.zi==v.zi)=k:=⟨_,rfl⟩
 obtain⟨k4,h4⟩:∃k,(u.mq==v.mq)=k:=⟨_,rfl⟩
 obtain⟨k5,h5⟩:∃k,(u.name==v.name)=k:=⟨_,rfl⟩
 obtain⟨k6,h6⟩:∃k,(u.out==v.out)=k:=⟨_,rfl⟩
 have HJ:=ah (show K=(k1&&(k2&&(k3&&(k4&&(k5&&k6)))))by rw[<-hK,atZ,h1,h2,h3,h4,h5,h6]);clear hK;have z0:=((Bx.start w).new (Oc.mk u.err u.jw u.zi u.mq u.name A n c).aA 58).new (Oc.mk v.err v.jw v.zi v.mq v.name B m d).aA 58;rw[show(w.alloc (.c (Oc.mk u.err u.jw u.zi u.mq u.name A n c).aA 58)).h.z=w.h.z+1 by simp]at z0;have Z0:=ah z0;have RA:=ah (Z0.out.Nc ha.out);have RB:=ah (Z0.out.Nc hb.out);clear ha hb z0;go_enter Tryz.func24,Tryz.ntmps24;go_upto_region 1 with fail
 generalize(w.alloc (.c (Oc.mk u.err u.jw u.zi u.mq u.name A n c).aA 58)).alloc (.c (Oc.mk v.err v.jw v.zi v.mq v.name B m d).aA 58)=w1 at Z0 RA RB ⊢;obtain⟨x1,x2,x3,x4⟩:=Z0.out.b1.aI;obtain⟨y1,y2,y3,y4⟩:=Z0.out.b0.aI;have t1:=(Gt RA.out c).2;have t2:=(Gt RB.out d).2;cases k1
 ·skip
  go_wp2;go_ret;exact⟨by rw[HJ.out];rfl,Z0.out.dF⟩
 cases k2
 ·skip
  go_wp2;go_ret;exact⟨by rw[HJ.out];rfl,Z0.out.dF⟩
 cases k3
 ·skip
  go_wp2;go_ret;exact⟨by rw[HJ.out];rfl,Z0.out.dF⟩
 cases k4
 ·skip
  go_wp2;go_ret;exact⟨by rw[HJ.out];rfl,Z0.out.dF⟩
 cases k5
 ·skip
  go_wp2;go_ret;exact⟨by rw[HJ.out];rfl,Z0.out.dF⟩
 cases k6
 ·skip
  go_wp2;go_ret;exact⟨by rw[HJ.out];rfl,Z0.out.dF⟩
 go_wp2;go_ret;exact⟨by rw[HJ.out];rfl,Z0.out.dF⟩
theorem amm(c:Cn)(w:au):aR aj 13 #[.agg c.aA] w (gP w (.bool (decide (c.iH<=20)&&decide (c.size<=260)))):=by
 have Z0:=ah ((Bx.start w).new c.aA 29);obtain⟨k1,h1⟩:∃k,decide (c.iH<=20)=k:=⟨_,rfl⟩
 obtain⟨k2,h2⟩:∃k,decide (c.size<=260)=k:=⟨_,rfl⟩
 have h1':decide ((c.iH:Int)<=20)=k1:=by rw[<-h1,decide_eq_decide];omega
 go_enter Tryz.func13,Tryz.ntmps13;go_upto_region 1 with fail
 generalize w.alloc (.c c.aA 29)=w1 at Z0 ⊢;obtain⟨x1,x2,x3,x4⟩:=Z0.out.b0.aI;cases k1
 ·go_wp2
  go_ret;exact⟨by rw[h1];rfl,Z0.out.dF⟩
 cases k2
 ·go_wp2
  go_ret;exact⟨by rw[h1,h2];rfl,Z0.out.dF⟩
 go_wp2;go_ret;exact⟨by rw[h1,h2];rfl,Z0.out.dF⟩
def abh(a:At):Bool:=decide (a.Qh<=1500)&&(decide (a.name.n<=60)&&(decide (a.op.name.n<=60)&&decide (a.op.bk.name.n<=60)))
def Sn(l:List At):Bool:=decide (l.n<=60)&&(List.range l.n).all fun i=>abh (l.getD i pU)
theorem At.avw(x:At)(j:Nat)(hj:j<30):x.aA[2+j]? = x.op.aA[j]?:=by
 have h:=At.avp x;have h2:(x.aA.extract 2 32)[j]? = x.op.aA[j]?:=by rw[h]
 rw[dx,if_pos (by rw[At.ak];omega)]at h2;exact h2
theorem At.cells{W:au}{B n i:Nat}{A:Option aU}{l:List At}(h:iO At.aA 34 W B A n l)(hi:i<n):∃b o,A=some ⟨b,o,none⟩/\W.cell? ⟨b,o+i*34,none⟩=some (.int .i (l.getD i pU).kind)/\W.cell? ⟨b,o+i*34+1,none⟩=some (.s (l.getD i pU).Zq (l.getD i pU).Qh (l.getD i pU).NJ)/\W.cell? ⟨b,o+i*34+32,none⟩=some (.string (bV (l.getD i pU).name))/\W.cell? ⟨b,o+i*34+30,none⟩=some (.string (bV (l.getD i pU).op.name))/\W.cell? ⟨b,o+i*34+3,none⟩=some (.string (bV (l.getD i pU).op.bk.name)):=by
 obtain⟨b,o,hA,_,hc⟩:=iO.cell At.ak pU h hi;refine⟨b,o,hA,?_,(hc 1 (by omega)).trans (At.avo _),(hc 32 (by omega)).trans (At.zX _),?_,?_⟩
 ·have:=(hc 0 (by omega)).trans (At.Bw _);rw[Nat.add_zero]at this;exact this
 ·rw[hc 30 (by omega),At.avw _ 28 (by omega)];simp[qX.aA,Bk.ak]
 ·rw[hc 3 (by omega),At.avw _ 1 (by omega)];simp[qX.aA];rfl
theorem afL(l:List At)(A:Option aU)(n c:Nat)(w:au)(hR:iO At.aA 34 w w.h.z A n l)(hn:n<=9223372036854775807):
 aR aj 66 #[.slice A n c] w fun e w'=>e=.returned (.bool (Sn l))/\w=w':=by
 have HR:=ah hR;have HN:=ah hR.1;clear hR;have HFW:=ah (show Sn l=(decide (n<=60)&&(List.range n).all (fun i=>abh (l.getD i pU)))by unfold Sn;rw[HN.out]);go_enter Tryz.func66,Tryz.ntmps66;go_wp2;go_loop [3] (fun s3=>∃i:Nat,i<=n/\i<=100/\s3=.int .i i/\∀k,k<i->abh (l.getD k pU)=true) (fun s3=>n-(intOf s3).toNat)
 case atStart=>exact⟨0,by omega,by omega,rfl,fun k hk=>by omega⟩
 case round=>
  obtain⟨i,wW,aKo,rfl,mV⟩:=hrel;have HA:=ah mV;clear mV;by_cases fP:i<n
  ·have hi:(i:Int)<n:=by omega
   by_cases h6:i<100
   ·have hi6:(i:Int)<100:=by omega
    obtain⟨b,o,rfl,c0,c1,c2,c3,c4⟩:=At.cells HR.out fP;obtain⟨a,ha⟩:∃a,a=l.getD i pU:=⟨_,rfl⟩
    rw[<-ha]at c0 c1 c2 c3 c4;have HX:=ah ha;clear ha c0;obtain⟨m1,YG⟩:∃m,m=a.Qh:=⟨_,rfl⟩
    obtain⟨m2,Dg⟩:∃m,m=a.name:=⟨_,rfl⟩
    obtain⟨m3,hm3⟩:∃m,m=a.op.name:=⟨_,rfl⟩
    obtain⟨m4,hm4⟩:∃m,m=a.op.bk.name:=⟨_,rfl⟩
    have HFA:=ah (show abh a=(decide (m1<=1500)&&(decide (m2.n<=60)&&(decide (m3.n<=60)&&decide (m4.n<=60))))by rw[YG,Dg,hm3,hm4];rfl);rw[<-YG]at c1;rw[<-Dg]at c2;rw[<-hm3]at c3;rw[<-hm4]at c4;clear YG Dg hm3 hm4;obtain⟨k1,e1⟩:∃k,decide ((1500:Int)<m1)=k:=⟨_,rfl⟩
    obtain⟨k2,e2⟩:∃k,decide ((60:Int)<m2.n)=k:=⟨_,rfl⟩
    obtain⟨k3,e3⟩:∃k,decide ((60:Int)<m3.n)=k:=⟨_,rfl⟩
    obtain⟨k4,e4⟩:∃k,decide ((60:Int)<m4.n)=k:=⟨_,rfl⟩
    have HB:=ah (show abh a=(!k1&&(!k2&&(!k3 && !k4)))by
     rw[HFA.out,<-e1,<-e2,<-e3,<-e4];rw[cO];simp only[Bool.and_eq_true,decide_eq_true_eq,Bool.not_eq_true',decide_eq_false_iff_not];omega)
    cases k1;rotate_left
    ·have HF:=ah (show Sn l=false by rw[HFW.out,iZ _ i _ fP (by rw[<-HX.out,HB.out];rfl)];simp)
     go_wp2;go_ret;exact⟨by rw[HF.out];rfl,rfl⟩
    cases k2;rotate_left
    ·have HF:=ah (show Sn l=false by rw[HFW.out,iZ _ i _ fP (by rw[<-HX.out,HB.out];rfl)];simp)
     go_wp2;go_ret;exact⟨by rw[HF.out];rfl,rfl⟩
    cases k3;rotate_left
    ·have HF:=ah (show Sn l=false by rw[HFW.out,iZ _ i _ fP (by rw[<-HX.out,HB.out];rfl)];simp)
     go_wp2;go_ret;exact⟨by rw[HF.out];rfl,rfl⟩
    cases k4;rotate_left
    ·have HF:=ah (show Sn l=false by rw[HFW.out,iZ _ i _ fP (by rw[<-HX.out,HB.out];rfl)];simp)
     go_wp2;go_ret;exact⟨by rw[HF.out];rfl,rfl⟩
    go_wp2;go_round
    case rel=>exact⟨i+1,by omega,by omega,by go_num,fun k hk=>by
     by_cases KO:k=i
     ·rw[KO,<-HX.out,HB.out];rfl
     ·exact HA.out k (by omega)⟩
    case measure=>simp[intOf]<;>omega
   ·have hd:decide ((i:Int)<100)=false:=by simp;omega
    have HF:=ah (show Sn l=decide ((n:Int)<=60)by
     rw[HFW.out,show decide (n<=60)=false from decide_eq_false (by omega),show decide ((n:Int)<=60)=false from decide_eq_false (by omega)];rfl)
    go_wp2;go_ret;exact⟨by rw[HF.out];rfl,rfl⟩
  ·obtain rfl:i=n:=by omega
   have hd:decide ((i:Int)<i)=false:=by simp
   have HF:=ah (show Sn l=decide ((i:Int)<=60)by
    rw[HFW.out,List.all_eq_true.2 (fun k hk=>HA.out k (List.mem_range.1 hk)),Bool.and_true];rw[decide_eq_decide];omega)
   go_wp2;go_ret;exact⟨by rw[HF.out];rfl,rfl⟩
def aiu(c:Cn)(l:List At):Bool:=(decide (c.iH<=20)&&decide (c.size<=260))&&Sn l
theorem ajT(c:Cn)(l:List At)(A:Option aU)(n k:Nat)(w:au)(hR:iO At.aA 34 w w.h.z A n l)(hn:n<=9223372036854775807):
 aR aj 21 #[.agg c.aA,.slice A n k] w (gP w (.bool (aiu c l))):=by
 have Z0:=ah ((Bx.start w).new c.aA 29);obtain⟨k1,h1⟩:∃k,(decide (c.iH<=20)&&decide (c.size<=260))=k:=⟨_,rfl⟩
 have HJ:=ah (show aiu c l=(k1&&Sn l)by unfold aiu;rw[h1]);have CS:=ah (fun w=>amm c w);rw[h1]at CS;have CF:=ah (fun w1 (hb:aN w.h.z w w1)=>afL l A n k w1 (hR.go hb) hn);clear h1 hR;go_enter Tryz.func21,Tryz.ntmps21;go_upto_region 1 with fail
 generalize w.alloc (.c c.aA 29)=w1 at Z0 ⊢;have l1:=Qo.mO Z0.out.b0 (Cn.ak _);go_wp2_with fail
 (with_reducible refine(CS.out _).mono ?_)
 rintro e w2 ⟨rfl,hb⟩;have Z2:=ah (Z0.out.go hb);clear hb l1;cases k1
 ·go_wp2
  go_ret;exact⟨by rw[HJ.out];rfl,Z2.out.dF⟩
 go_wp2_with (go_at_call 66;(with_reducible refine(CF.out _ Z2.out.dF).mono ?_);rintro e w3 ⟨rfl,rfl⟩);go_ret;exact⟨by rw[HJ.out];rfl,Z2.out.dF⟩
def vG(l:List UInt8):fu:=⟨false,qv 16 l⟩
def aqn:Cn:=⟨none,1,1,7,9,ED fun i=>if i.val=0 then 0 else 5,1,1,bG 6 0,ng,⟨true,bG 16 0⟩,1000,2,5⟩
def IX:Vp:=⟨vG [5,6,7,8],6,80,false⟩
def zw:En:=⟨qv 16 [1],aqn,[IX]⟩
def amn:Bk:=⟨[97],vG [10,0,0,9],8080,bG 6 0,4607182418800017408,false⟩
def awF:List UInt8:=[0,0,0,0,0,0,0,0,0,0,0,0,8,0,69,0,0,42,0,0,64,0,64,6,42,187,1,2,3,4,5,6,7,8,3,232,0,80,0,0,0,0,0,0,0,0,80,2,0,0,51,44,0,0,104,105]
def awW:List UInt8:=[0,0,0,0,0,0,0,0,0,0,0,0,8,0,69,0,0,42,0,0,64,0,64,6,44,192,1,2,3,4,10,0,0,9,3,232,31,144,0,0,0,0,0,0,0,0,80,2,0,0,21,241,0,0,104,105]
def acF:Ac:=⟨1,awF,⟨0,jo,[],0⟩,[],false⟩
def acA:Ac:=⟨2,[],⟨1,amn,[],0⟩,[],false⟩
def acH(n:List UInt8):Ac:=⟨3,[],⟨0,jo,[],0⟩,n,false⟩
def acK(k:Int):Ac:=⟨k,[],⟨0,jo,[],0⟩,[],false⟩
def aw0:qK×Ou:=vW zw xV acF
def aw1:qK×Ou:=vW zw aw0.1 acA
def aw2:qK×Ou:=vW zw aw1.1 acF
def aw3:qK×Ou:=vW zw aw2.1 acF
def aw4:qK×Ou:=vW zw aw3.1 (acH [98])
def aw5:qK×Ou:=vW zw aw4.1 (acH [97])
def aw6:qK×Ou:=vW zw aw5.1 acF
def aw7:qK×Ou:=vW zw aw6.1 (acK 4)
def Vq:qK×Ou:=vW zw aw7.1 (acK 9)
theorem avx:yM aqn [IX]=true:=by decide +kernel
theorem aKr:aw0.2={Hw with jw:=8}:=by decide +kernel
theorem aKs:aw1.2.mq=1:=by decide +kernel
theorem aqo:aw2.2=⟨0,0,false,1,[97],awW⟩:=by decide +kernel
theorem aKt:aw3.2.zi=true:=by decide +kernel
theorem aKu:aw4.2.err=5:=by decide +kernel
theorem aKv:aw5.2.err=0:=by decide +kernel
theorem aKw:aw6.2.jw=8:=by decide +kernel
theorem aKx:aw7.2.err=0:=by decide +kernel
theorem aKy:Vq.2.err=1:=by decide +kernel
theorem amo:Vq.1.no=2/\Vq.1.gN=1/\Vq.1.mg[8]=2/\Vq.1.sN.n=1/\(Ap zw Vq.1).uP.n=0:=by decide +kernel
theorem Ow.rd{B n c:Nat}{g0:Option Nat}{w w':au}{A:Option aU}{bs:List UInt8}(h:Ow B g0 w (.s A n c) bs w'):gy w' w'.h.z A n bs:=by
 obtain⟨A',c',e,_,_⟩:=jT h.vU;injection e with e1 e2 e3
 have:=h.vU;rw[<-e2]at this;exact gy.iX this
theorem afM(s d:fu)(p:Nat)(hp:p<=255)(w:au)(A:Option aU)(n c:Nat)(l:List UInt8)(Ue:n<=65535)(tX:n<=c)(hr:gy w w.h.z A n l)(hT:(JQ p l).1.dz=(n:Int))(lp:List UInt8)(hlp:psB s d p n=lp)(hpl:lp.n<=1000):
 aR aj 188 #[.agg s.aA,.agg d.aA,.int .i p,.slice A n c] w (gP w (.int .i (xE (lp++l):Nat))):=by
 have HR:=ah hr;have hl:=ah hr.len;have HLP:=ah hlp;have HPL:=ah hpl;clear hr hlp hpl;have h0:=((Bx.start w).new s.aA 27).new d.aA 27;rw[show(w.alloc (.c s.aA 27)).h.z=w.h.z+1 by simp]at h0;have Z0:=ah h0;clear h0;obtain⟨r,hrr⟩:∃r,r=JQ p l:=⟨_,rfl⟩
 rw[<-hrr]at hT;have CP:=ah (fun w1 (hr:gy w1 w1.h.z A n l)=>aeW w1 p A n c l (by omega) hr);unfold PtP at CP;rw[<-hrr]at CP;clear hrr;obtain⟨k,er⟩:=r;simp only at hT CP;go_enter Tryz.func188,Tryz.ntmps188;go_upto_region 1 with fail
 generalize(w.alloc (.c s.aA 27)).alloc (.c d.aA 27)=w0 at Z0 ⊢;go_upto_region 2 with(go_at_call 227;(with_reducible refine(CP.out _ (Z0.out.Nc HR.out)).mono ?_);rintro e w1 ⟨rfl,gI⟩;have Z1:=ah ((Z0.out.go gI).new k.aA 172);clear gI)
 generalize w1.alloc (.c k.aA 172)=w2 at Z1 ⊢;generalize w1.h.z=y at Z1 ⊢;have KS:=ah (fun(W':au) (h:Bx [(y,k.aA),(w.h.z+1,d.aA),(w.h.z,s.aA)] w W')=>show W'.cell? ⟨y,4,none⟩=some (.int .i n)/\(rR (.p (some ⟨w.h.z,0,none⟩))).run aj W'=.ok (.agg s.aA) W'/\(rR (.p (some ⟨w.h.z+1,0,none⟩))).run aj W'=.ok (.agg d.aA) W' by
  refine⟨by rw[h.b0.aI.1 4,Pt.yN,hT],?_,?_⟩
  ·obtain⟨x1,x2,x3,x4⟩:=h.b2.aI;go_simp
  ·obtain⟨x1,x2,x3,x4⟩:=h.b1.aI;go_simp)
 have CS:=ah (fun W'=>Zg s d p n hp Ue W');rw[HLP.out]at CS;unfold LC at CS;have i1:(0:Int)<=n:=by omega
 have i2:(n:Int)<=c:=by omega
 have i3:n<=c:=tX;clear hT;go_region_held_law (fun W'=>W'.cell? ⟨y,4,none⟩=some (.int .i n)/\(rR (.p (some ⟨w.h.z,0,none⟩))).run aj W'=.ok (.agg s.aA) W'/\(rR (.p (some ⟨w.h.z+1,0,none⟩))).run aj W'=.ok (.agg d.aA) W')
  (first|exact KS.out _ Z1.out.drew|exact KS.out _ Z6.out|exact KS.out _ Z8.out|go_keep)
  (first
  | (go_at_call 259;(with_reducible refine(CS.out _).mono ?_);rintro e w6 ⟨A6,n6,c6,rfl,hn6,ho6,NH⟩;have Z6:=ah (Z1.out.drew.go NH);have P6:=ah (Ow.iX ho6 NH.size);have R6:=ah (Z6.out.Nc HR.out);have LN:=ah (show lp.n+n<=1000000000 by have:=HPL.out;omega);have HB6:=ah (show w.h.z<=w2.h.z from Z1.out.dF.size);clear hn6 ho6 NH)
  | (refine OU (o:=⟨some 28,_,_,_,_,_⟩) rfl (.tmp 23) (.tmp 27) rfl (.s A6 n6 c6) A n c rfl P6.out rfl R6.out LN.out ?_;intro A8 n8 c8 w8 h8 h9;have O8:=ah h8;have Z8:=ah (Z6.out.ow h9 (fun p hp=>Nat.lt_of_lt_of_le ((Z1.out.drew.2 p hp).2.lt) (ay _)) HB6.out);clear h8 h9))
 go_upto_region 3 with fail
 have R8:=ah O8.out.rd;have CU:=ah (Xv w8 A8 n8 c8 (lp++l) (by have h1:=R8.out.len;have:=HPL.out;have:=hl.out;rw[List.length_append]at h1;omega) R8.out);go_wp2_with (go_at_call 186;(with_reducible refine CU.out.mono ?_);rintro e w9 ⟨rfl,hb9⟩;have HB9:=ah hb9;clear hb9);go_ret;exact⟨rfl,Z8.out.dF.trans (HB9.out.mono Z8.out.dF.size)⟩
def xM(l:List UInt8):List UInt8:=(l.set 16 0).set 17 0
def Yv(s d:fu)(l:List UInt8):List UInt8:=((xM l).set 16 (aK (xE (psB s d 6 l.n++xM l)/256))).set 17 (aK (xE (psB s d 6 l.n++xM l)%256))
theorem amq(w:au):aR aj 187 #[.int .i 6] w fun e w'=>e=.returned (.int .i 16)/\w=w':=by
 go_enter Tryz.func187,Tryz.ntmps187;go_wp2;go_ret;exact⟨rfl,rfl⟩
theorem adj(s d:fu)(w:au)(A:Option aU)(n c:Nat)(l:List UInt8)(h18:18<=n)(Ue:n<=65535)(hr:gy w w.h.z A n l)(hT:(JQ 6 (xM l)).1.dz=(n:Int)):
 aR aj 107 #[.agg s.aA,.agg d.aA,.int .i 6,.slice A n c] w (LC w (Yv s d l)):=by
 have HR:=ah hr;have hl:=ah hr.len;have HT:=ah hT;have HP:=ah (show Yv s d l=((xM l).set 16 (aK (xE (psB s d 6 l.n++xM l)/256))).set 17 (aK (xE (psB s d 6 l.n++xM l)%256))from rfl);clear hr hT;have h0:=((Bx.start w).new s.aA 27).new d.aA 27;rw[show(w.alloc (.c s.aA 27)).h.z=w.h.z+1 by simp]at h0;have Z0:=ah h0;clear h0;go_enter Tryz.func107,Tryz.ntmps107;go_upto_region 1 with fail
 generalize(w.alloc (.c s.aA 27)).alloc (.c d.aA 27)=w0 at Z0 ⊢;have L0:=ah (((Ly.aoY w w0 Z0.out.dF #[] [] 0 rfl (by omega) rfl).add (q:=w.h.z) (c:=s.aA) (Z0.out.b1.alloc _) (by have:=Z0.out.b1.lt;simp[Value.ownBlock];omega)).add (q:=w.h.z+1) (c:=d.aA) (Z0.out.b0.alloc _) (by have:=Z0.out.b0.lt;simp[Value.ownBlock];omega));have R0:=ah ((Z0.out.Nc HR.out).below ((Below.refl w0.h.z w0).alloc (ay _) (.c #[] 5)));have H0:=ah (show([]:List UInt8).n+n<=1000000000 by simp;omega);go_upto_region 2 with(at_builtin;refine kr rfl (.tmp 12) (.tmp 13) rfl rfl L0.out.o rfl R0.out H0.out ?_;intro A1 n1 c1 w1 h2 h3;have L1:=ah (L0.out.step h3);clear h2 h3)
 rw[List.nil_append]at L1;go_upto_region 3 with(go_at_call 187;(with_reducible refine(amq _).mono ?_);rintro e w2 ⟨rfl,rfl⟩)
 obtain⟨YG,Dg,g,rfl,k1,k2⟩:=L1.out.at0 (by rw[hl.out];omega);rw[hl.out]at YG;have HM:=ah YG;have m1:(16:Int)<n1:=by omega
 have m2:(17:Int)<n1:=by omega
 have k16:=k1 16 (by rw[hl.out];omega);have M2:=ah (L1.out.ahD 16 0);rw[show bv 0=.int .u8 0 from rfl]at M2;clear k1 YG Dg L0 R0 H0;go_upto_region 4 with fail
 generalize w1.setCell ⟨g,16,none⟩ (.int .u8 0)=w3 at *;obtain⟨-,-,g',eg,k3,k4⟩:=M2.out.at0 (by rw[List.length_set,hl.out];omega);injection eg with eg
 injection eg with eg
 subst eg;have k17:=k3 17 (by rw[List.length_set,hl.out];omega);have M3:=ah (M2.out.ahD 17 0);rw[show bv 0=.int .u8 0 from rfl]at M3;clear k3 k2 k16;go_upto_region 5 with fail
 generalize w3.setCell ⟨g,17,none⟩ (.int .u8 0)=w4 at *;clear k4 k17 M2 L1;have M3:=ah (show Ly w.h.z [(w.h.z+1,d.aA),(w.h.z,s.aA)] w w4 (.s (some ⟨g,0,none⟩) n1 c1) (xM l)from M3.out);have HZL:=ah (show(xM l).n=n by unfold xM;rw[List.length_set,List.length_set,hl.out]);obtain⟨zl,hzl⟩:∃z,z=xM l:=⟨_,rfl⟩
 obtain⟨lp,hlp⟩:∃z,psB s d 6 n=z:=⟨_,rfl⟩
 rw[hl.out]at HP;rw[<-hzl]at M3 HZL HT HP;rw[hlp]at HP;have CQ:=ah (afM s d 6 (by omega) w4 (some ⟨g,0,none⟩) n1 c1 zl (by rw[HM.out];omega) (by have:=M3.out.at0 (by rw[HZL.out];omega);exact this.2.1) (DT M3.out.o (Below.refl _ _)) (by rw[HM.out];exact HT.out) lp (by rw[HM.out];exact hlp) (by rw[<-hlp];have:=asQ s d 6 n;omega));rw[show((6:Nat):Int)=6 from rfl]at CQ;clear hzl hlp HT;have ND:=ah (show xE (lp++zl)<=65535 by unfold xE;omega);generalize xE (lp++zl)=z at *;have z0:(0:Int)<=z:=by omega
 have z1:(z:Int)<=65535:=by have:=ND.out;omega
 obtain⟨x1,x2,x3,x4⟩:=M3.out.b1.aI;obtain⟨y1,y2,y3,y4⟩:=M3.out.b0.aI;go_upto_region 6 with(go_at_call 188;(with_reducible refine CQ.out.mono ?_);rintro e w6 ⟨rfl,hb⟩;have M4:=ah (M3.out.go hb);clear hb)
 clear x1 x2 x3 x4 y1 y2 y3 y4;obtain⟨YG,Dg,g',eg,k1,k2⟩:=M4.out.at0 (by rw[HZL.out];omega);injection eg with eg
 injection eg with eg
 subst eg;have k16:=k1 16 (by rw[HZL.out];omega);have M5:=ah (M4.out.ahD 16 (aK (z/256)));have e1:((aK (z/256)).toNat:Int)=(z:Int)/256:=by rw[zG _ (by have:=ND.out;omega)];omega
 unfold bv at M5;rw[e1]at M5;clear k1 e1 YG Dg;obtain⟨bz,hbz⟩:∃b,((z:Int)==0)=b:=⟨_,rfl⟩
 cases bz
 all_goals
  go_upto_region 8 with fail
  go_upto_region 9 with fail
  generalize w6.setCell ⟨g,16,none⟩ (.int .u8 ((z:Int)/256))=w7 at *;obtain⟨-,-,g',eg,k3,k4⟩:=M5.out.at0 (by rw[List.length_set,HZL.out];omega);injection eg with eg
  injection eg with eg
  subst eg;have k17:=k3 17 (by rw[List.length_set,HZL.out];omega);have M6:=ah (M5.out.ahD 17 (aK (z%256)));have e2:((aK (z%256)).toNat:Int)=(z:Int)%256:=by rw[zG _ (by omega)];omega
  unfold bv at M6;rw[e2]at M6;clear k3 e2 k2 k16;go_wp2;go_ret;rw[<-HP.out]at M6;have ho:=M6.out.o;obtain⟨A9,c9,e9⟩:=ho.Dr;injection e9 with e9 e10 e11
  subst e10;exact⟨_,_,_,rfl,rfl,ho.vU,ho.dF⟩
def adk(t:Tu)(load:List UInt8):List UInt8:=[aK (t.kU.toNat/256),aK (t.kU.toNat%256),aK (t.j4.toNat/256),aK (t.j4.toNat%256)]++[0,0,0,0,0,0,0,0,80,2,0,0,0,0,0,0]++load
def aDO(t:Tu)(n:Nat):Fo:=⟨20,20+(n:Int),0,0,false,true,64,6,t.src,t.dst⟩
def mk6(t:Tu)(load:List UInt8):List UInt8:=qG (bG 6 0) (bG 6 0) [] 2048++uf (aDO t (adk t load).n)++Yv t.src t.dst (adk t load)
@[go_sem]theorem avy(w:au)(b:Int):(Cu 16 #[(0,.int .u8 0),(1,.int .u8 0),(2,.int .u8 0),(3,.int .u8 0),(4,.int .u8 0),(5,.int .u8 0),(6,.int .u8 0),(7,.int .u8 0),(8,.int .u8 80),(9,.int .u8 b),(10,.int .u8 0),(11,.int .u8 0),(12,.int .u8 0),(13,.int .u8 0),(14,.int .u8 0),(15,.int .u8 0)]).run aj w=.ok (.s (some ⟨w.h.z,0,none⟩) 16 16) (w.alloc (.c #[.int .u8 0,.int .u8 0,.int .u8 0,.int .u8 0,.int .u8 0,.int .u8 0,.int .u8 0,.int .u8 0,.int .u8 80,.int .u8 b,.int .u8 0,.int .u8 0,.int .u8 0,.int .u8 0,.int .u8 0,.int .u8 0] 5)):=by
 obtain⟨i0,oz,mZ,nu,wX⟩:=zV;have hr:Array.range 16 = #[0,1,2,3,4,5,6,7,8,9,10,11,12,13,14,15]:=by apply Array.ext';rw[Array.toList_range];rfl
 simp[Cu,bJ,run_underlying dw,zeroValue,sizeOf,typeInfo,oz,mZ,nu,Instr.fill,newRow,cu,hr]
theorem Qi(t:Tu)(h6:t.src.j6=false)(hp:t.aQ=6)(s0:0<=t.kU)(s1:t.kU<=65535)(d0:0<=t.j4)(d1:t.j4<=65535)(w:au)(A:Option aU)(m c:Nat)(load:List UInt8)(hm:m<=1000)(hr:gy w w.h.z A m load)(hT:(JQ 6 (xM (adk t load))).1.dz=((20+m:Nat):Int)):
 aR aj 40 #[.agg qR.aA,.agg t.aA,.int .i 2,.slice A m c] w (LC w (mk6 t load)):=by
 have HR:=ah hr;have hl:=ah hr.len;have HT:=ah hT;have HM:=ah (show mk6 t load=qG (bG 6 0) (bG 6 0) [] 2048++uf (aDO t (adk t load).n)++Yv t.src t.dst (adk t load)from rfl);have HSB:=ah (show adk t load=[aK (t.kU.toNat/256),aK (t.kU.toNat%256),aK (t.j4.toNat/256),aK (t.j4.toNat%256)]++[0,0,0,0,0,0,0,0,80,2,0,0,0,0,0,0]++load from rfl);clear hr hT;have h0:=((Bx.start w).new qR.aA 108).new t.aA 81;rw[show(w.alloc (.c qR.aA 108)).h.z=w.h.z+1 by simp]at h0;have Z0:=ah h0;clear h0;have hty:ahE qR t=Lc.mk (bG 6 0) (bG 6 0) none 0 0 2048 0:=by unfold ahE qR;rw[h6];rfl
 have CT:=ah (fun w1=>acO qR t w1);rw[hty]at CT;have CP:=ah (fun w1=>XD (Lc.mk (bG 6 0) (bG 6 0) none 0 0 2048 0) [] (by simp) (by simp) (by simp) (by simp) w1 (iO.nil _ _));unfold LC at CP;obtain⟨lb,hlb⟩:∃l,l=qG (bG 6 0) (bG 6 0) [] 2048:=⟨_,rfl⟩
 have LB:=ah (show lb.n<=100 by rw[hlb];simp[qG,qw]);simp only at CP;rw[<-hlb]at CP HM;clear hlb hty;go_enter Tryz.func40,Tryz.ntmps40;go_upto_region 1 with fail
 generalize(w.alloc (.c qR.aA 108)).alloc (.c t.aA 81)=w0 at Z0 ⊢;obtain⟨x1,x2,x3,x4⟩:=Z0.out.b1.aI;obtain⟨y1,y2,y3,y4⟩:=Z0.out.b0.aI;go_upto_region 2 with(first
  | (go_at_call 104;(with_reducible refine(CT.out _).mono ?_);rintro e w1 ⟨rfl,gI⟩;have Z1:=ah (Z0.out.go gI);clear gI)
  | (go_at_call 103;(with_reducible refine(CP.out _).mono ?_);rintro e w2 ⟨A2,n2,c2,rfl,LA,NG,kF⟩;have Z2:=ah (Z1.out.go kF);have O2:=ah NG;have N2:=ah LA;have S2:=ah kF.size;have S1:=ah Z1.out.dF.size;clear kF NG LA))
 clear x1 x2 x3 x4 y1 y2 y3 y4;obtain⟨y1,y2,y3,y4⟩:=Z2.out.b0.aI;have b34:=Tu.WR t;rw[hp]at b34;have b35:=Tu.aha t;have b36:=Tu.ab9 t;have b0:t.aA[0]? = some (.bool false):=by rw[<-h6];exact Tu.qH t
 obtain⟨sp,hsp⟩:∃k,k=t.kU:=⟨_,rfl⟩
 obtain⟨dp,hdp⟩:∃k,k=t.j4:=⟨_,rfl⟩
 rw[<-hsp]at b35 s0 s1 HSB;rw[<-hdp]at b36 d0 d1 HSB;clear hsp hdp hp h6;have B0:=ah (((Ly.aoY w2 w2 (Below.refl _ _) #[.int .u8 (sp/256),.int .u8 (sp%256),.int .u8 (dp/256),.int .u8 (dp%256)] [aK (sp.toNat/256),aK (sp.toNat%256),aK (dp.toNat/256),aK (dp.toNat%256)] 4 rfl (by omega) (by
  obtain⟨e1,e2⟩:=XC sp s0 s1;obtain⟨e3,e4⟩:=XC dp d0 d1;simp only[List.map_cons,List.map_nil,bv];rw[e1,e2,e3,e4])).add (q:=w.h.z) (c:=qR.aA) (Z2.out.b1.alloc _) (by have:=Z2.out.b1.lt;simp[Value.ownBlock];omega)).add (q:=w.h.z+1) (c:=t.aA) (Z2.out.b0.alloc _) (by have:=Z2.out.b0.lt;simp[Value.ownBlock];omega))
 go_upto_region 3 with fail
 have O3:=ah (vM O2.out (.c #[.int .u8 (sp/256),.int .u8 (sp%256),.int .u8 (dp/256),.int .u8 (dp%256)] 5));have S3:=ah (show w2.h.z<(w2.alloc (.c #[.int .u8 (sp/256),.int .u8 (sp%256),.int .u8 (dp/256),.int .u8 (dp%256)] 5)).h.z by simp);have F3:=ah (show aN w2.h.z w2 (w2.alloc (.c #[.int .u8 (sp/256),.int .u8 (sp%256),.int .u8 (dp/256),.int .u8 (dp%256)] 5))from(Below.refl _ _).alloc (ay _) _);generalize w2.alloc (.c #[.int .u8 (sp/256),.int .u8 (sp%256),.int .u8 (dp/256),.int .u8 (dp%256)] 5)=w3 at B0 O3 S3 F3 ⊢;clear y1 y2 y3 y4;obtain⟨y1,y2,y3,y4⟩:=B0.out.b0.aI;have B1:=ah (B0.out.alloc (.c #[.int .u8 0,.int .u8 0,.int .u8 0,.int .u8 0,.int .u8 0,.int .u8 0,.int .u8 0,.int .u8 0,.int .u8 80,.int .u8 2,.int .u8 0,.int .u8 0,.int .u8 0,.int .u8 0,.int .u8 0,.int .u8 0] 5));have R1:=ah (Xy w3 #[.int .u8 0,.int .u8 0,.int .u8 0,.int .u8 0,.int .u8 0,.int .u8 0,.int .u8 0,.int .u8 0,.int .u8 80,.int .u8 2,.int .u8 0,.int .u8 0,.int .u8 0,.int .u8 0,.int .u8 0,.int .u8 0] [0,0,0,0,0,0,0,0,80,2,0,0,0,0,0,0] rfl);have L1:=ah (show([aK (sp.toNat/256),aK (sp.toNat%256),aK (dp.toNat/256),aK (dp.toNat%256)]:List UInt8).n+16<=1000000000 by simp);go_upto_region 7 with(at_builtin;refine kr rfl (.tmp 48) (.tmp 51) rfl rfl B1.out.o rfl R1.out L1.out ?_;intro A4 n4 c4 w4 h2 h3;have B4:=ah (B1.out.step h3);clear h2 h3)
 clear y1 y2 y3 y4 B1 R1 L1;have BW:=ah (Z2.out.dF.trans (B4.out.o.dF.mono Z2.out.dF.size));have R4:=ah (HR.out.upon BW.out);have L4:=ah (show(([aK (sp.toNat/256),aK (sp.toNat%256),aK (dp.toNat/256),aK (dp.toNat%256)]:List UInt8)++[0,0,0,0,0,0,0,0,80,2,0,0,0,0,0,0]).n+m<=1000000000 by simp;omega);go_upto_region 8 with(at_builtin;refine kr rfl (.tmp 53) (.tmp 54) rfl rfl B4.out.o rfl R4.out L4.out ?_;intro A5 n5 c5 w5 h2 h3;have B5:=ah (B4.out.step h3);clear h2 h3)
 obtain⟨sb,hsb⟩:∃l,l=adk t load:=⟨_,rfl⟩
 have SBL:=ah (show sb.n=20+m by rw[hsb,HSB.out];simp[hl.out];omega);rw[<-hsb]at HM HT HSB;rw[<-HSB.out]at B5;clear hsb HSB L4 R4 B4 BW;have N5:=ah (show n5=20+m by
  obtain⟨A9,c9,e9⟩:=B5.out.o.Dr;injection e9 with e9 e10 e11
  rw[e10];exact SBL.out)
 have hn5:n5<=2000:=by have:=N5.out;omega
 have HM:=ah (show mk6 t load=lb++uf (Fo.mk 20 (20+(n5:Int)) 0 0 false true 64 6 t.src t.dst)++Yv t.src t.dst sb by rw[HM.out,SBL.out,N5.out];rfl);have O5:=ah (jv O2.out B5.out.o.dF);have BW:=ah (Z2.out.dF.trans (B5.out.o.dF.mono Z2.out.dF.size));have CF:=ah (XE (Fo.mk 20 (20+(n5:Int)) 0 0 false true 64 6 t.src t.dst) (by simp) (by simp) (by simp;omega) (by simp;omega) (by simp) (by simp) (by simp) (by simp) (by simp) (by simp) w5);unfold LC at CF;obtain⟨fb,hfb⟩:∃l,l=uf (Fo.mk 20 (20+(n5:Int)) 0 0 false true 64 6 t.src t.dst):=⟨_,rfl⟩
 have LF:=ah (show fb.n=20 by rw[hfb,XI]);rw[<-hfb]at CF HM;clear hfb;have S5:=ah B5.out.o.dF.size;obtain⟨y1,y2,y3,y4⟩:=B5.out.b0.aI;go_upto_region 11 with(first
  | (go_at_call 106;(with_reducible refine CF.out.mono ?_);rintro e w6 ⟨A6,n6,c6,rfl,hn6,ho6,NH⟩;have B6:=ah (B5.out.go NH);have R6:=ah (gy.iX ho6);have P6:=ah (Ow.iX (jv O5.out NH) (by have:=S1.out;have:=S2.out;have:=S5.out;have:=NH.size;omega));have LN:=ah (show lb.n+n6<=1000000000 by have:=LB.out;have:=LF.out;omega);have W6:=ah (BW.out.trans (NH.mono BW.out.size));have O6:=ah (jv O5.out NH);clear hn6 ho6 NH)
  | (at_builtin;refine kr rfl (.tmp 72) (.tmp 83) rfl rfl P6.out rfl R6.out LN.out ?_;intro A7 n7 c7 w7 h8 h9;have O7:=ah h8;clear h8 h9))
 clear y1 y2 y3 y4;have FA:=ah (kZ O2.out);have F7:=ah (show jE (wP A2) w6 w7 from jE.WE O7.out.gr (fun k hk=>.inl (by
  cases A2 with
  | none=>cases hk
  | some a=>exact DY.2 ⟨a,rfl,by simpa[Value.ownBlock]using hk⟩)))
 have FB:=ah (fun b (hb:b∈wP A5)=>show b∉wP A2 from fun h=>by
  have h1:=FA.out b h;have h2:=kZ (by have:=B6.out.o.vU;rw[SBL.out,<-N5.out]at this;exact this) b hb;omega)
 have R7:=ah (show gy w7 w7.h.z A5 n5 sb from Vl (DT B6.out.o (Below.refl _ _)) (ay _) F7.out FB.out);have X7:=ah (F7.out.box B6.out.b0 (fun h=>by have h1:=FA.out _ h;have:=Z0.out.b0.lt;have:=S1.out;have h3:=Z1.out.b0.lt;omega));have CL:=ah (adj t.src t.dst w7 A5 n5 c5 sb (by have:=N5.out;omega) (by omega) R7.out (by rw[HT.out,N5.out]));unfold LC at CL;obtain⟨lf,hlf⟩:∃l,l=Yv t.src t.dst sb:=⟨_,rfl⟩
 have LL:=ah (show lf.n<=2000 by rw[hlf];unfold Yv xM;simp only[List.length_set];have:=SBL.out;omega);rw[<-hlf]at CL HM;clear hlf;obtain⟨y1,y2,y3,y4⟩:=X7.out.aI;go_wp2_with (first
  | (go_at_call 107;(with_reducible refine CL.out.mono ?_);rintro e w8 ⟨A8,n8,c8,rfl,hn8,ho8,Zr⟩;have R8:=ah (gy.iX ho8);have P8:=ah (O7.out.go Zr);have LN:=ah (show(lb++fb).n+n8<=1000000000 by rw[List.length_append];have:=LB.out;have:=LF.out;have:=LL.out;omega);clear hn8 ho8 Zr)
  | (at_builtin;refine kr rfl (.tmp 85) (.tmp 93) rfl rfl P8.out rfl R8.out LN.out ?_;intro A9 n9 c9 w9 h8 h9;have O9:=ah h8;clear h8 h9))
 go_ret;rw[HM.out];have ho:=O9.out;obtain⟨A',c',e9⟩:=jT ho.vU;obtain⟨e9,_⟩:=e9;injection e9 with e9 e10 e11
 refine⟨_,_,_,rfl,e10,?_,W6.out.trans (ho.below.mono (by have:=S1.out;omega))⟩;have h:=iG ho.vU (show w.h.z<=w1.h.z by have:=S1.out;omega);rw[<-e10]at h;exact h
def LK(b:Nat):Cn:={aqn with qO:=some ⟨b,0,none⟩,iH:=1,qP:=1}
theorem at1(w:au)(fs:Array Field)(h:aj.underlying 27=some (.struct fs)):(iB (fun f=>Prod.mk f.offset <$> sizeOf f.type) fs:Sem (Array (Nat×Nat))).run aj w=.ok #[(0,1),(1,16)] w:=by
 have e:=eZ;rw[h]at e;cases e;show _=_
 kernel_rfl
theorem at2(W:au):(uW 27 #[(1,.agg #[aJ aX 5,aJ aX 6,aJ aX 7,aJ aX 8,aJ aX 0,aJ aX 0,aJ aX 0,aJ aX 0,aJ aX 0,aJ aX 0,aJ aX 0,aJ aX 0,aJ aX 0,aJ aX 0,aJ aX 0,aJ aX 0])]).run aj W=.ok (.agg (vG [5,6,7,8]).aA) W:=aco.bd W _ _ _ _ eZ (at1 W _ eZ) (by kernel_rfl)
theorem at3(W:au):(uW 27 #[(1,.agg #[aJ aX 1,aJ aX 2,aJ aX 3,aJ aX 4,aJ aX 0,aJ aX 0,aJ aX 0,aJ aX 0,aJ aX 0,aJ aX 0,aJ aX 0,aJ aX 0,aJ aX 0,aJ aX 0,aJ aX 0,aJ aX 0])]).run aj W=.ok (.agg (vG [1,2,3,4]).aA) W:=aco.bd W _ _ _ _ eZ (at1 W _ eZ) (by kernel_rfl)
theorem at4(W:au):(uW 27 #[(1,.agg #[aJ aX 10,aJ aX 0,aJ aX 0,aJ aX 9,aJ aX 0,aJ aX 0,aJ aX 0,aJ aX 0,aJ aX 0,aJ aX 0,aJ aX 0,aJ aX 0,aJ aX 0,aJ aX 0,aJ aX 0,aJ aX 0])]).run aj W=.ok (.agg (vG [10,0,0,9]).aA) W:=aco.bd W _ _ _ _ eZ (at1 W _ eZ) (by kernel_rfl)
def avz(n:Nat)(ps:Array (Nat×aC)):Sem aC:=bJ 23 n ps
@[go_sem ↓]theorem aDQ(n:Nat)(ps:Array (Nat×aC)):bJ 23 n ps=avz n ps:=rfl
@[go_sem]theorem ayS(W:au)(v:Vp):(avz 1 #[(0,.agg v.aA)]).run aj W=.ok (.s (some ⟨W.h.z,0,none⟩) 1 1) (W.alloc (.c v.aA 98)):=by
 obtain⟨i0,oz,mZ,nu,Ar⟩:=aqc;exact rX W _ _ i0 (.agg oD.aA) 20 Tryz.underlying23 oz mZ nu (Vp.ak oD) (by omega) (by omega) v.aA (Vp.ak v)
theorem aDR(W:au):(uW 98 #[(0,.agg (vG [5,6,7,8]).aA),(1,.int .i 6),(2,.int .i 80)]).run aj W=.ok (.agg IX.aA) W:=kVp.bd W _ _ _ _ sw (aBq W _ sw) (by kernel_rfl)
theorem aDS(W:au):(uW 27 #[(0,.bool true)]).run aj W=.ok (.agg (fu.mk true (bG 16 0)).aA) W:=aco.bd W _ _ _ _ eZ (at1 W _ eZ) (by kernel_rfl)
theorem Cn.aqp(x:Cn)(v:Int):x.aA.setIfInBounds 1 (.int .i v)=({x with size:=v}:Cn).aA:=by simp[Cn.aA,aM,fu.ak,gG,jJ]
theorem Cn.aqq(x:Cn)(v:Int):x.aA.setIfInBounds 2 (.int .i v)=({x with dR:=v}:Cn).aA:=by simp[Cn.aA,aM,fu.ak,gG,jJ]
theorem Cn.aqr(x:Cn)(v:Int):x.aA.setIfInBounds 9 (.int .i v)=({x with rise:=v}:Cn).aA:=by simp[Cn.aA,aM,fu.ak,gG,jJ]
theorem Cn.aqs(x:Cn)(v:Int):x.aA.setIfInBounds 10 (.int .i v)=({x with fall:=v}:Cn).aA:=by simp[Cn.aA,aM,fu.ak,gG,jJ]
theorem Cn.aqt(x:Cn)(v:Int):x.aA.setIfInBounds 51 (.int .i v)=({x with ahq:=v}:Cn).aA:=by simp[Cn.aA,aM,fu.ak,gG,jJ]
theorem Cn.aqu(x:Cn)(v:Int):x.aA.setIfInBounds 52 (.int .i v)=({x with keep:=v}:Cn).aA:=by simp[Cn.aA,aM,fu.ak,gG,jJ]
theorem Cn.amr(x:Cn)(v:Int):x.aA.setIfInBounds 53 (.int .i v)=({x with Xe:=v}:Cn).aA:=by simp[Cn.aA,aM,fu.ak,gG,jJ]
theorem Cn.aqv(x:Cn)(v:Vector Int 6):sJ x.aA 3 (Lp v)=({x with kC:=v}:Cn).aA:=by
 unfold Cn.aA;exact qU (by rw[jJ,jJ]) 3 rfl
theorem Cn.at5(x:Cn)(v:fu):sJ x.aA 34 v.aA=({x with j6:=v}:Cn).aA:=by
 unfold Cn.aA;have:=qU (p:=#[.slice x.qO x.iH x.qP,.int .i x.size,.int .i x.dR]++Lp x.kC ++ #[.int .i x.rise,.int .i x.fall]++Bv x.Gq++x.Dt.aA) (q:=x.j6.aA) (r:=#[.int .i x.ahq,.int .i x.keep,.int .i x.Xe]) (v:=v.aA) (by rw[fu.ak,fu.ak]) 34 (by simp[fu.ak,gG,jJ]);simpa[Array.append_assoc]using this
def ayT:Vector Int 6:=ED fun i=>if i.val=0 then 0 else 5
theorem aqw:Lp ayT = #[aJ bU 0,aJ bU 5,aJ bU 5,aJ bU 5,aJ bU 5,aJ bU 5]:=by kernel_rfl
theorem aDT(W:au)(b:Nat):(uW 29 #[(0,.slice (some ⟨b,0,none⟩) 1 1),(1,.int .i 7),(2,.int .i 9),(3,.agg #[aJ bU 0,aJ bU 5,aJ bU 5,aJ bU 5,aJ bU 5,aJ bU 5]),(4,.int .i 1),(5,.int .i 1),(8,.agg (fu.mk true (bG 16 0)).aA),(9,.int .i 1000),(10,.int .i 2),(11,.int .i 5)]).run aj W=.ok (.agg (LK b).aA) W:=Qo.bd W _ _ _ _ mY (awP W _ mY) (by
 rw[<-aqw];refine(iy rfl rfl (by rw[Cn.ak];omega) (Cn.Pg Rw _ _ _)).trans ?_;refine(iy rfl rfl (by rw[Cn.ak];omega) (Cn.aqp _ _)).trans ?_;refine(iy rfl rfl (by rw[Cn.ak];omega) (Cn.aqq _ _)).trans ?_;refine(sS rfl (jJ _) (by rw[Cn.ak];omega) (Cn.aqv _ _)).trans ?_;refine(iy rfl rfl (by rw[Cn.ak];omega) (Cn.aqr _ _)).trans ?_;refine(iy rfl rfl (by rw[Cn.ak];omega) (Cn.aqs _ _)).trans ?_;refine(sS rfl (fu.ak _) (by rw[Cn.ak];omega) (Cn.at5 _ _)).trans ?_;refine(iy rfl rfl (by rw[Cn.ak];omega) (Cn.aqt _ _)).trans ?_;refine(iy rfl rfl (by rw[Cn.ak];omega) (Cn.aqu _ _)).trans ?_;refine(iy rfl rfl (by rw[Cn.ak];omega) (Cn.amr _ _)).trans ?_;rfl)
theorem afN(w:au):aR aj 39 #[] w fun e w'=>∃b,e=.returned (.agg (LK b).aA)/\iO Vp.aA 20 w' w'.h.z (some ⟨b,0,none⟩) 1 [IX]/\dL w' b IX.aA/\w.h.z<=b/\aN w.h.z w w':=by
 have b1:=at2;have b2:=aDR;have b5:=aDS;have b6:=aDT;obtain⟨V,hV⟩:∃V,IX=V:=⟨_,rfl⟩
 obtain⟨C,hC⟩:∃C,LK=C:=⟨_,rfl⟩
 obtain⟨D,hD⟩:∃D,vG [5,6,7,8]=D:=⟨_,rfl⟩
 obtain⟨X6,hX⟩:∃D,(fu.mk true (bG 16 0))=D:=⟨_,rfl⟩
 rw[hV]at b2 ⊢;rw[hC]at b6 ⊢;rw[hD]at b1 b2;rw[hX]at b5 b6;clear hV hC hD hX;have Z0:=ah ((Bx.start w).new Rw.aA 29);go_enter Tryz.func39,Tryz.ntmps39;go_upto_region 1 with fail
 generalize w.alloc (.c Rw.aA 29)=w0 at Z0 ⊢;have Z1:=ah (Z0.out.new V.aA 98);go_upto_region 2 with fail
 generalize w0.alloc (.c V.aA 98)=w1 at Z1 ⊢;have NP:=ah (show w0.h.z≠w.h.z by have:=Z0.out.b0.lt;omega);have SZ1:=ah Z1.out.b1.lt;generalize w0.h.z=p at Z1 NP ⊢;have Z2:=ah (Z1.out.alloc (.c V.aA 98));have R2:=ah (iO.one V Vp.ak w1 98);obtain⟨x1,x2,x3,x4⟩:=Z1.out.b0.aI;have th:=Z2.out.b1.there 0 54 (Nat.le_of_eq (Cn.ak Rw).symm);have Z3:=ah (Z2.out.swap.put (fun r hr=>by rw[fO.1 hr];exact NP.out) (C w1.h.z).aA (by rw[Cn.ak,Cn.ak]));have R3:=ah (R2.out.keep (yT _ w.h.z 0 (C w1.h.z).aA) (fun b hb=>by have:=SZ1.out;simp[wP]at hb;subst hb;simp;omega));go_wp2_with fail;refine bodyPost_ret (Qo.zM rfl _ rfl Z3.out.b0 (Cn.ak _)) rfl ?_;exact⟨_,rfl,R3.out,(yT _ w.h.z 0 (C w1.h.z).aA).box (dL.new w1 V.aA 98) (by have:=SZ1.out;simp;omega),by have:=SZ1.out;omega,Z3.out.dF⟩
theorem kAt:oV 66 34 pU.aA:=⟨⟨_,lM,rfl⟩,by kernel_rfl,by kernel_rfl,At.ak _⟩
theorem qX.adl(k:Int)(y:Bk)(s:List UInt8)(v:Nat):(qX.mk k y s v).aA = #[.int .i k]++(y.aA ++ #[.string (bV s),fv v]):=by apply Ig.1;simp[qX.aA]
theorem qX.cB(x:qX):x.aA.all (·.oneCell')=true:=by
 obtain⟨k,y,s,v⟩:=x;rw[qX.adl];exact gX (by simp[cK]) (gX (Bk.cB _) (by simp[cK,fv]))
theorem At.cB(x:At):x.aA.all (·.oneCell')=true:=gX (by simp[cK]) (gX (qX.cB _) (by simp[cK]))
@[go_sem]theorem At.all(x:At):x.aA.extract 0 34=x.aA:=by have:=At.ak x;rw[<-this];simp
@[go_sem ↓]theorem aSO(v:aC):Instr.loadAt 66 v=yt 66 v:=rfl
@[go_sem ↓]theorem aSP(v x:aC):Instr.storeAt 66 v x=zW 66 v x:=rfl
@[go_sem]theorem aDU(W:au)(b o:Nat)(h:xS W b o 34):(yt 66 (.p (some ⟨b,o,none⟩))).run aj W=.ok (.agg (dY W b o 34)) W:=kAt.ld W b o h
@[go_sem]theorem aKB(W:au)(c:Array aC)(x:At)(b:Nat)(hb:b=W.h.z)(hc:eu c=34):(zW 66 (.p (some ⟨b,0,none⟩)) (.agg x.aA)).run aj (W.alloc (.c c 66))=.ok () (W.alloc (.c x.aA 66)):=kAt.stN W c x.aA b hb hc (At.ak x) (At.cB x)
@[go_sem ↓]theorem aSQ(ps:Array (Nat×aC)):fJ 66 ps=uW 66 ps:=rfl
theorem at6(w:au)(fs:Array Field)(h:aj.underlying 66=some (.struct fs)):(iB (fun f=>Prod.mk f.offset <$> sizeOf f.type) fs:Sem (Array (Nat×Nat))).run aj w=.ok #[(0,1),(1,1),(2,30),(32,1),(33,1)] w:=by
 have e:=lM;rw[h]at e;cases e;show _=_
 kernel_rfl
theorem At.FD(x:At)(v:Int):x.aA.setIfInBounds 0 (.int .i v)=({x with kind:=v}:At).aA:=by simp[At.aA,aM]
theorem At.ayU(x:At)(A:Option aU)(n c:Nat):x.aA.setIfInBounds 1 (.s A n c)=({x with Zq:=A,Qh:=n,NJ:=c}:At).aA:=by simp[At.aA,aM]
theorem At.aqx(x:At)(s:List UInt8):x.aA.setIfInBounds 32 (.string (bV s))=({x with name:=s}:At).aA:=by simp[At.aA,aM,qX.ak]
theorem At.ayV(x:At)(v:qX):sJ x.aA 2 v.aA=({x with op:=v}:At).aA:=by
 unfold At.aA;exact qU (by rw[qX.ak,qX.ak]) 2 rfl
@[go_sem]theorem aKC(W:au)(k:Int):(uW 66 #[(0,.int .i k)]).run aj W=.ok (.agg ({pU with kind:=k}:At).aA) W:=kAt.bd W _ _ _ _ lM (at6 W _ lM) (by
 refine(iy rfl rfl (by rw[At.ak];omega) (At.FD pU _)).trans ?_;rfl)
@[go_sem]theorem aKD(W:au)(k:Int)(A:Option aU)(n c:Nat):(uW 66 #[(0,.int .i k),(1,.slice A n c)]).run aj W=.ok (.agg ({pU with kind:=k,Zq:=A,Qh:=n,NJ:=c}:At).aA) W:=kAt.bd W _ _ _ _ lM (at6 W _ lM) (by
 refine(iy rfl rfl (by rw[At.ak];omega) (At.FD pU _)).trans ?_;refine(iy rfl rfl (by rw[At.ak];omega) (At.ayU _ _ _ _)).trans ?_;rfl)
@[go_sem]theorem aKE(W:au)(k:Int)(o:qX):(uW 66 #[(0,.int .i k),(2,.agg o.aA)]).run aj W=.ok (.agg ({pU with kind:=k,op:=o}:At).aA) W:=kAt.bd W _ _ _ _ lM (at6 W _ lM) (by
 refine(iy rfl rfl (by rw[At.ak];omega) (At.FD pU _)).trans ?_;refine(sS rfl (qX.ak _) (by rw[At.ak];omega) (At.ayV _ _)).trans ?_;rfl)
@[go_sem]theorem aKF(W:au)(k:Int)(s:List UInt8):(uW 66 #[(0,.int .i k),(3,.string (bV s))]).run aj W=.ok (.agg ({pU with kind:=k,name:=s}:At).aA) W:=kAt.bd W _ _ _ _ lM (at6 W _ lM) (by
 refine(iy rfl rfl (by rw[At.ak];omega) (At.FD pU _)).trans ?_;refine(iy rfl rfl (by rw[At.ak];omega) (At.aqx _ _)).trans ?_;rfl)
def afO:qX:=⟨0,jo,[],0⟩
theorem aKG:oV 64 30 afO.aA:=⟨⟨_,vH,rfl⟩,by kernel_rfl,by kernel_rfl,qX.ak _⟩
theorem aDV(w:au)(fs:Array Field)(h:aj.underlying 64=some (.struct fs)):(iB (fun f=>Prod.mk f.offset <$> sizeOf f.type) fs:Sem (Array (Nat×Nat))).run aj w=.ok #[(0,1),(1,27),(28,1),(29,1)] w:=by
 have e:=vH;rw[h]at e;cases e;show _=_
 kernel_rfl
theorem aDW(W:au):(aA2 #[(0,.string ⟨#[97]⟩),(1,.agg (vG [10,0,0,9]).aA),(2,.int .i 8080),(4,.float .f64 4607182418800017408)]).run aj W=.ok (.agg amn.aA) W:=kBk.bd W _ _ _ _ og (akU W _ og) (by kernel_rfl)
@[go_sem ↓]theorem aNY(ps:Array (Nat×aC)):fJ 64 ps=uW 64 ps:=rfl
@[go_sem]theorem aFT(W:au)(k:Int)(x:Bk):(uW 64 #[(0,.int .i k),(1,.agg x.aA)]).run aj W=.ok (.agg (qX.mk k x [] 0).aA) W:=aKG.bd W _ _ _ _ vH (aDV W _ vH) (by
 refine(iy rfl rfl (by rw[qX.ak];omega) (show afO.aA.setIfInBounds 0 (.int .i k)=({afO with kind:=k}:qX).aA by simp[qX.aA,afO])).trans ?_;refine(sS rfl (Bk.ak _) (by rw[qX.ak];omega) (show sJ ({afO with kind:=k}:qX).aA 1 x.aA=(qX.mk k x [] 0).aA by
  have:=qU (p:=#[.int .i k]) (q:=jo.aA) (r:=#[.string (bV []),fv 0]) (v:=x.aA) (by rw[Bk.ak,Bk.ak]) 1 rfl;show sJ (qX.mk k jo [] 0).aA 1 x.aA=_;rw[qX.adl,qX.adl];exact this)).trans ?_
 rfl)
structure Aw(w0 W:au)(q q2 g:Nat)(L:List (Nat×Array aC)):Prop where
 dF:aN w0.h.z w0 W
 new:w0.h.z<=q/\w0.h.z<=q2/\w0.h.z<=g
 lt:q<W.h.z/\q2<W.h.z/\g<W.h.z
 bx:∀p∈L,w0.h.z<=p.1/\p.1∉[q,q2,g]/\dL W p.1 p.2
section
variable {w0 W W':au} {q q2 g:Nat} {L:List (Nat×Array aC)}
theorem Aw.go(h:Aw w0 W q q2 g L)(hb:aN W.h.z W W'):Aw w0 W' q q2 g L:=⟨h.dF.trans (hb.mono h.dF.size),h.new,by have:=h.lt;have:=hb.size;omega,fun p hp=>⟨(h.bx p hp).1,(h.bx p hp).2.1,(h.bx p hp).2.2.go hb⟩⟩
theorem Aw.step(h:Aw w0 W q q2 g L)(hf:jE [q,q2,g] W W'):Aw w0 W' q q2 g L:=⟨h.dF.trans (hf.rT (fun b hb=>by have:=h.new;simp at hb;omega) h.dF.size),h.new,by have:=h.lt;have:=hf.size;omega,fun p hp=>⟨(h.bx p hp).1,(h.bx p hp).2.1,hf.box (h.bx p hp).2.2 (h.bx p hp).2.1⟩⟩
theorem Aw.add(h:Aw w0 W q q2 g L)(c:Array aC)(t:bM):Aw w0 (W.alloc (.c c t)) q q2 g ((W.h.z,c)::L):=by
 have h1:=h.go ((Below.refl W.h.z W).alloc (ay _) (.c c t));refine⟨h1.dF,h1.new,h1.lt,fun p hp=>?_⟩;rcases bD.1 hp with rfl|hp
 ·exact⟨h.dF.size,by have:=h.lt;simp;omega,dL.new W c t⟩
 ·exact h1.bx p hp
theorem Aw.box(h:Aw w0 W q q2 g L){p:Nat×Array aC}(hp:p∈L):dL W p.1 p.2:=(h.bx p hp).2.2
def AwP(w0 W:au)(q q2 g:Nat)(L:List (Nat×Array aC))(R:qK×Ou)(r:kX)(W':au):Prop:=
 ∃o x' sl',r=.returned (.agg (Oc.aA o))/\Aw w0 W' q q2 g L/\yY W' q zw R.1 x' q2 g sl'/\OcR W' o R.2/\(∀b∈wP o.UC,b∉[q,q2,g])/\jE [q,q2,g] W W'
theorem BH{s:qK}{x:Eg}{sl:List (Option Fw)}{M:Int}(A:Aw w0 W q q2 g L)(h:yY W q zw s x q2 g sl)(hi:oG M zw s)(hM:M<1152921504606846976)(a:At)(u:Ac)(ha:AtR W a u)(hof:u.op.bk.ru)(how:u.op.w<18446744073709551616)(R:qK×Ou)(hR:vW zw s u=R):
 aR aj 25 #[.pointer (some ⟨q,0,none⟩),.agg a.aA] W (AwP w0 W q q2 g L R):=by
 subst hR;refine(Np h hi hM a u ha hof how).mono ?_;rintro r W' ⟨o,x',sl',rfl,hou,hE,_,_,hf⟩;exact⟨o,x',sl',rfl,A.step hf,hE,hou.rd,fun b hb=>by have:=(kZ hou.vU b hb).1;have:=A.lt;simp;omega,hf⟩
theorem yY.aKH{key:Vector UInt8 16}{c:Cn}{vs:List Vp}{s:qK}{x:Eg}{sl:List (Option Fw)}{A:Option aU}{n k:Nat}(h:yY W q ⟨key,{c with qO:=A,iH:=n,qP:=k},vs⟩ s x q2 g sl):yY W q ⟨key,c,vs⟩ s x q2 g sl:=
 ⟨⟨h.b.eg,h.b.key,h.b.cf,h.b.mq,h.b.vs,h.b.bk,h.b.hl,h.b.fl,h.b.tb,h.b.rm,h.b.nq,h.b.FT,h.b.gN,h.b.no,h.b.mg⟩,h.dn,h.tt⟩
end
theorem ajU(c:Cn)(vs:List Vp)(A:Option aU)(n k:Nat):yM {c with qO:=A,iH:=n,qP:=k} vs=yM c vs:=by unfold yM;rfl
theorem afP(c:Cn)(vs:List Vp)(s:qK)(A:Option aU)(n k:Nat):zQ {c with qO:=A,iH:=n,qP:=k} vs s=zQ c vs s:=by unfold zQ XL;rw[ajU];rfl
theorem ams:yM Rw []=false:=by decide +kernel
theorem sH:jo.ru:=by unfold Bk.ru;simp[jo]
theorem ajV:amn.ru:=by unfold Bk.ru;simp[amn]
theorem aDX:mk6 (Tu.mk (vG [1,2,3,4]) (vG [5,6,7,8]) 6 1000 80) [104,105]=awF:=by decide +kernel
theorem ayW:mk6 (Tu.mk (vG [1,2,3,4]) (vG [10,0,0,9]) 6 1000 8080) [104,105]=awW:=by decide +kernel
theorem ayX:(JQ 6 (xM (adk (Tu.mk (vG [1,2,3,4]) (vG [5,6,7,8]) 6 1000 80) [104,105]))).1.dz=((20+2:Nat):Int):=by decide +kernel
theorem at7:(JQ 6 (xM (adk (Tu.mk (vG [1,2,3,4]) (vG [10,0,0,9]) 6 1000 8080) [104,105]))).1.dz=((20+2:Nat):Int):=by decide +kernel
theorem ayY:iU (qv 16 [1]) = #[aJ aX 1,aJ aX 0,aJ aX 0,aJ aX 0,aJ aX 0,aJ aX 0,aJ aX 0,aJ aX 0,aJ aX 0,aJ aX 0,aJ aX 0,aJ aX 0,aJ aX 0,aJ aX 0,aJ aX 0,aJ aX 0]:=by kernel_rfl
theorem avA:oG 0 zw xV:=K8 _ avx
theorem avB:oG 1 zw aw0.1:=wT avA acF sH (by decide)
theorem avC:oG 2 zw aw1.1:=wT avB acA ajV (by decide)
theorem avD:oG 3 zw aw2.1:=wT avC acF sH (by decide)
theorem avE:oG 4 zw aw3.1:=wT avD acF sH (by decide)
theorem avF:oG 5 zw aw4.1:=wT avE (acH [98]) sH (by decide)
theorem avG:oG 6 zw aw5.1:=wT avF (acH [97]) sH (by decide)
theorem avH:oG 7 zw aw6.1:=wT avG acF sH (by decide)
theorem avI:oG 8 zw aw7.1:=wT avH (acK 4) sH (by decide)
theorem avJ:oG 9 zw Vq.1:=wT avI (acK 9) sH (by decide)
section
variable {w0 W W':au} {q q2 g b b' p n B:Nat} {c c':Array aC} {A:Option aU} {l:List UInt8} {L L':List (Nat×Array aC)}
theorem dL.aDY(h:dL W b c)(k:dL W b c'):c=c':=by
 obtain⟨t,h⟩:=h;obtain⟨t',k⟩:=k;rw[h]at k;injection k with k
 injection k
theorem dL.ne(h:dL W b c)(k:dL W b' c')(hs:c.size≠c'.size):b≠b':=by
 rintro rfl;exact hs (by rw[h.aDY k])
theorem gy.far(h:gy W B A n l)(k:dL W p c)(hn:c.size<n):∀y∈wP A,y∉[p]:=by
 intro y hy hp;obtain⟨a,rfl,_,hc⟩:=gy.fE h (k:=n-1) (by omega);obtain⟨t,hk⟩:=k;simp[wP]at hy hp;subst hp;rw[hy]at hk;unfold World.cell? at hc;rw[show(a.add (n-1)).block=a.block by unfold rF;split<;>rfl,hk]at hc;simp only at hc;split at hc
 ·cases hc
 ·have h1:=(Array.getElem?_eq_some_iff.1 hc).1
  have h2:n-1<=(a.add (n-1)).off:=by
   unfold rF;split<;>simp<;>omega
  omega
theorem Aw.put(h:Aw w0 W q q2 g L)(hf:jE [p] W W')(hb:dL W' p c')(hc:(p,c)∈L)(hL:∀y∈L',y∈L/\y.2.size≠c.size):Aw w0 W' q q2 g ((p,c')::L'):=by
 refine⟨h.dF.trans (hf.rT (fun y hy=>by rw[fO.1 hy];exact(h.bx _ hc).1) h.dF.size),h.new,by have:=h.lt;have:=hf.size;omega,fun y hy=>?_⟩;rcases bD.1 hy with rfl|hy
 ·exact⟨(h.bx _ hc).1,(h.bx _ hc).2.1,hb⟩
 ·obtain⟨h1,h2⟩:=hL y hy
  refine⟨(h.bx _ h1).1,(h.bx _ h1).2.1,hf.box (h.bx _ h1).2.2 (fun e=>h2 ?_)⟩;rw[fO]at e;obtain⟨y1,y2⟩:=y;simp only at e;subst e;rw[dL.aDY (h.bx _ h1).2.2 (h.bx _ hc).2.2]
theorem iO.aDZ{α:Type}{f:α->Array aC}{sz:Nat}{A:Option aU}{W W':au}{B B':Nat}{l:List α}(h:iO f sz W B A n l)(hl:l.n=0):iO f sz W' B' A n l:=by
 have e:=bF hl;subst e;have h1:=h.1;have h2:=h.2.1.1;refine⟨h.1,⟨h2,fun hn=>?_⟩,fun a ha hn=>?_⟩
 ·simp at h1;omega
 ·simp at h1;omega
theorem iO.at8{α:Type}{f:α->Array aC}{sz:Nat}{x:α}{W:au}{b:Nat}(h:dL W b (f x))(hs:(f x).size=sz):iO f sz W W.h.z (some ⟨b,0,none⟩) 1 [x]:=by
 refine⟨rfl,⟨by simp[hs],fun _=>⟨_,rfl,h.lt,fun j u hu=>?_⟩⟩,fun a ha _=>by injection ha with ha;subst ha;rfl⟩;rw[iC,bB,h.aI.1];simpa[dD]using hu
structure TbQ(W:au)(q:Nat)(x:Eg)(t:Tl):Prop where
 b:dL W q x.aA
 n:RdT W W.h.z x.tb.sV x.tb.rP t.names
 s:RdI W W.h.z x.tb.qV x.tb.ql t.uP
theorem TbQ.go{x:Eg}{t:Tl}(h:TbQ W q x t)(hb:aN W.h.z W W'):TbQ W' q x t:=⟨h.b.go hb,h.n.go hb,h.s.go hb⟩
end
@[go_sem]theorem aq6(W:au)(A1:Option aU)(n1 c1:Nat)(A2:Option aU)(n2 c2:Nat):(Instr.field 72 (.agg (Tc.mk A1 n1 c1 A2 n2 c2).aA) 1).run aj W=.ok (.s A2 n2 c2) W:=by
 show _=_
 kernel_rfl
theorem afQ{W:au}{b:Nat}{x:Sh}(h:dL W b x.aA):(ahf (.p (some ⟨b,0,none⟩))).run aj W=.ok (.agg x.aA) W:=kSh.mO h (Sh.ak _)
theorem aKI:Vq.1.mg.toList.getD 8 0=2:=by decide +kernel
theorem ayZ:Vq.1.sW.n<=9/\Vq.1.nP.n<=9/\Vq.1.sN.n<=9:=by decide +kernel
theorem aKJ:zQ aqn [IX] Vq.1=true:=by decide +kernel
theorem aD1:(Ap zw Vq.1).names.n=0:=by decide +kernel
@[go_sem]theorem ay0:Obj.cells #[aJ bU 0,Value.slice none 0 0,aJ bU 0,jc {data:=#[]},bQ false,aJ aX 0,aJ aX 0,aJ aX 0,aJ aX 0,aJ aX 0,aJ aX 0,aJ aX 0,aJ aX 0,aJ aX 0,aJ aX 0,aJ aX 0,aJ aX 0,aJ aX 0,aJ aX 0,aJ aX 0,aJ aX 0,aJ bU 0,aJ aX 0,aJ aX 0,aJ aX 0,aJ aX 0,aJ aX 0,aJ aX 0,AX FloatKind.f64 0,bQ false,jc {data:=#[]},AX FloatKind.f64 0,jc {data:=#[]},bQ false] 66=Obj.cells pU.aA 66:=by kernel_rfl
theorem gy.ku{W W' W2:au}{A:Option aU}{n:Nat}{l:List UInt8}{F:List Nat}(h:gy W W.h.z A n l)(hf:jE F W W')(hn:∀b∈wP A,b∉F)(hb:aN W'.h.z W' W2):gy W2 W2.h.z A n l:=gy.upon (Vl h (ay _) hf hn:gy W' W'.h.z A n l) hb
theorem aqy(w:au)(c:Array aC)(l:List UInt8)(h:c.toList=l.map bv)(m:Nat×Nat):gy (w.alloc (.c c 5 m)) (w.alloc (.c c 5 m)).h.z (some ⟨w.h.z,0,none⟩) l.n l:=by
 refine⟨by simp,fun _=>⟨_,rfl,by simp,fun j u hu=>?_⟩⟩;rw[iC,bB,cell_of_row _ _ _ _ _ _ (heap_alloc_new w (.c c 5 m)),<-hu,<-h,dD]
theorem avK(w:au):(convert 56 56 (.s (some ⟨w.h.z,0,none⟩) 2 2)).run aj (w.alloc (.c #[.int .u8 104,.int .u8 105] 5))=.ok (.s (some ⟨w.h.z,0,none⟩) 2 2) (w.alloc (.c #[.int .u8 104,.int .u8 105] 5 (2,3))):=Lib.run_convert_bytes_const (P:=aj) w 56 5 #[.int .u8 104,.int .u8 105] 2 2 dw lD
theorem tN(w:au):aR aj 12 #[] w (gP w (.bool true)):=by
 have CPL:=ah (afN w);have CN:=ah (fun(W:au) (b:Nat) (hV:iO Vp.aA 20 W W.h.z (some ⟨b,0,none⟩) 1 [IX])=>abf (qv 16 [1]) (LK b) [IX] W hV (show 1<=1 by omega) (show 1<=100000 by omega) (by unfold LK;rw[ajU];exact avx));have C0:=ah (fun(W:au)=>aqk (qv 16 [1]) Rw [] W (iO.nil _ _) (show 0<=0 by omega) (show 0<=100000 by omega) ams);have CM:=ah (fun(W:au) (A:Option aU) (c:Nat) (hr:gy W W.h.z A 2 [104,105])=>Qi (Tu.mk (vG [1,2,3,4]) (vG [5,6,7,8]) 6 1000 80) rfl rfl (by simp) (by simp) (by simp) (by simp) W A 2 c [104,105] (by omega) hr ayX);have CM2:=ah (fun(W:au) (A:Option aU) (c:Nat) (hr:gy W W.h.z A 2 [104,105])=>Qi (Tu.mk (vG [1,2,3,4]) (vG [10,0,0,9]) 6 1000 8080) rfl rfl (by simp) (by simp) (by simp) (by simp) W A 2 c [104,105] (by omega) hr at7);have NF0:=ah (show awF.n=56 from rfl);obtain⟨FF,hFF⟩:∃x,awF=x:=⟨_,rfl⟩
 obtain⟨WW,hWW⟩:∃x,awW=x:=⟨_,rfl⟩
 have Lf:=ah hFF;have HWW:=ah hWW;rw[aDX,hFF]at CM;rw[ayW,hWW]at CM2;rw[hFF]at NF0;clear hFF hWW;rw[ayY]at CN C0;have b1:=at3;have b9:=at4;have bk:=aDW;obtain⟨D1,hD1⟩:∃d,vG [1,2,3,4]=d:=⟨_,rfl⟩
 obtain⟨D9,hD9⟩:∃d,vG [10,0,0,9]=d:=⟨_,rfl⟩
 obtain⟨D5,hD5⟩:∃d,vG [5,6,7,8]=d:=⟨_,rfl⟩
 rw[hD1]at b1 CM CM2;rw[hD9]at b9 bk CM2;rw[hD5]at CM;have HV5:=ah (show IX.aA.extract 0 17=D5.aA by rw[<-hD5];rfl);clear hD1 hD9 hD5;go_enter Tryz.func12,Tryz.ntmps12;go_upto_region 2 with(go_at_call 39;(with_reducible refine CPL.out.mono ?_);rintro e w1 ⟨b,rfl,hv,hvb,KD,hb⟩;have HV:=ah hv;have VB:=ah hvb;have vV:=ah KD;have Z1:=ah ((Bx.start w).go hb);clear hv hvb hb KD)
 have Z2:=ah (Z1.out.new (LK b).aA 29);have V2:=ah (HV.out.go ((Below.refl w1.h.z w1).alloc (ay _) (.c (LK b).aA 29)));have VB2:=ah (VB.out.alloc (.c (LK b).aA 29));have SB:=ah VB.out.lt;generalize w1.alloc (.c (LK b).aA 29)=w2 at Z2 V2 VB2 ⊢;have HP1:=ah (show w.h.z<=w1.h.z from Z1.out.dF.size);generalize w1.h.z=p1 at Z2 SB HP1 ⊢;clear CPL HV VB Z1;have l1:=Qo.mO Z2.out.b0 (Cn.ak _);unfold Kc at CN;go_upto_region 3 with(go_at_call 23;(with_reducible refine(CN.out _ b V2.out).mono ?_);rintro e w3 ⟨q,x,q2,g,sl,rfl,hE,uH,hq,YE⟩;have E3:=ah (yY.aKH hE);have Z3:=ah (Z2.out.go uH);have V3:=ah (V2.out.go uH);have VB3:=ah (VB2.out.go uH);have HQ:=ah hq;have S3:=ah uH.size;clear hE uH hq YE)
 clear l1;go_upto_region 4 with(go_at_call 23;(with_reducible refine(C0.out _).mono ?_);rintro e w4 ⟨rfl,M8⟩;have E4:=ah (E3.out.go M8);have Z4:=ah (Z3.out.go M8);have V4:=ah (V3.out.go M8);have VB4:=ah (VB3.out.go M8);have S4:=ah M8.size;clear M8)
 have A4:=ah (show Aw w w4 q q2 g [(p1,(LK b).aA),(b,IX.aA)]from⟨Z4.out.dF,by have:=HQ.out;have:=Z2.out.dF.size;omega,E4.out.b.lt,fun p hp=>by
  have hq:=HQ.out;have h1:=Z2.out.b0.lt;have h2:=VB2.out.lt;have h3:=HP1.out;have h4:=vV.out;simp at hp;rcases hp with rfl|rfl
  ·exact⟨h3,by simp;omega,Z4.out.b0⟩
  ·exact⟨h4,by simp;omega,VB4.out⟩⟩)
 clear Z2 Z3 Z4 V2 V3 VB2 VB3 VB4 E3 vV SB CN C0;go_upto_region 6 with fail
 have fv:=((A4.out.box (p:=(p1,(LK b).aA)) (by simp)).aI.1 0).trans (Cn.KW (LK b));change w4.cell? ⟨p1,0,none⟩=some (.s (some ⟨b,0,none⟩) 1 1)at fv;have la:=(A4.out.box (p:=(b,IX.aA)) (by simp)).TY (o:=0) HV5.out (by rw[Vp.ak];omega);go_upto_region 7 with fail
 have A5:=ah (A4.out.add (Tu.mk D1 D5 6 1000 80).aA 81);have E5:=ah (E4.out.go ((Below.refl w4.h.z w4).alloc (ay _) (.c (Tu.mk D1 D5 6 1000 80).aA 81)));generalize w4.alloc (.c (Tu.mk D1 D5 6 1000 80).aA 81)=w5 at A5 E5 ⊢;generalize w4.h.z=p6 at A5 ⊢;clear fv la A4 E4;have lt5:=pO (A5.out.box (p:=(p6,(Tu.mk D1 D5 6 1000 80).aA)) (by simp));have R5:=ah (aqy w5 #[.int .u8 104,.int .u8 105] [104,105] rfl (2,3));have B5:=ah ((Below.refl w5.h.z w5).alloc (ay _) (.c #[.int .u8 104,.int .u8 105] 5 (2,3)));have kc:=avK;unfold LC at CM CM2;go_upto_region 8 with(go_at_call 40;(with_reducible refine(CM.out _ _ 2 R5.out).mono ?_);rintro e w6 ⟨FA,fn,fc,rfl,hn,ho,hb⟩;have A6:=ah ((A5.out.go B5.out).go hb);have E6:=ah ((E5.out.go B5.out).go hb);have HN:=ah hn;have HO:=ah ho;clear hn ho hb)
 have RF:=ah (gy.iX HO.out);have NF:=ah (show∀k∈wP FA,k∉[q,q2,g]from fun k hk=>by have h1:=(kZ HO.out k hk).1;have h2:=(A5.out.go B5.out).lt;simp;omega);have LF:=ah (show fn<=fc/\fc<=9223372036854775807/\fn<=1000000 by obtain⟨A9,c9,e9,l1,l2⟩:=jT HO.out;injection e9 with e1 e2 e3;subst e3;refine⟨l1,by unfold maxLen at l2;omega,by have h3:=HN.out;have h4:=NF0.out;omega⟩);clear HN HO;have A7:=ah (A6.out.add ({pU with kind:=1,Zq:=FA,Qh:=fn,NJ:=fc}:At).aA 66);have B7:=ah ((Below.refl w6.h.z w6).alloc (ay _) (.c ({pU with kind:=1,Zq:=FA,Qh:=fn,NJ:=fc}:At).aA 66));have E7:=ah (E6.out.go B7.out);have R7:=ah (RF.out.upon B7.out);generalize w6.alloc (.c ({pU with kind:=1,Zq:=FA,Qh:=fn,NJ:=fc}:At).aA 66)=w7 at A7 E7 R7 B7 ⊢;generalize w6.h.z=p7 at A7 ⊢;cases Lf.out;clear A5 E5 R5 B5 A6 E6 RF B7 lt5 CM kc;obtain⟨fy1,fy2,fy3,fy4⟩:=(A7.out.box (p:=(p7,({pU with kind:=1,Zq:=FA,Qh:=fn,NJ:=fc}:At).aA)) (by simp)).aI;have CS:=ah (BH A7.out E7.out avA (by omega) ({pU with kind:=1,Zq:=FA,Qh:=fn,NJ:=fc}:At) acF ⟨rfl,R7.out,LF.out,rfl,rfl,rfl⟩ sH (by decide) aw0 rfl);unfold AwP at CS;go_upto_region 9 with(go_at_call 25;(with_reducible refine CS.out.mono ?_);rintro r v0 ⟨o0,x0,sl0,rfl,h1,h2,h3,h4,h5⟩;have HA:=ah h1;have HE:=ah h2;have HO:=ah h3;have HN0:=ah h4;have HF:=ah h5;clear h1 h2 h3 h4 h5)
 have A8:=ah (HA.out.add o0.aA 58);have BB:=ah ((Below.refl v0.h.z v0).alloc (ay _) (.c o0.aA 58));have E8:=ah (HE.out.go BB.out);have R8:=ah (gy.ku R7.out HF.out NF.out BB.out);have O0:=ah (HO.out.go BB.out);generalize v0.alloc (.c o0.aA 58)=u0 at A8 E8 R8 O0 ⊢;generalize v0.h.z=p8 at A8 ⊢;have H0:=ah O0.out.all;clear CS HA HE HO HF BB A7 E7 R7 O0 fy1 fy2 fy3 fy4;have CS:=ah (BH A8.out E8.out avB (by omega) ({pU with kind:=2,op:=⟨1,amn,[],0⟩}:At) acA ⟨rfl,LG _,⟨ay _,Nat.zero_le _,Nat.zero_le _⟩,rfl,rfl,rfl⟩ ajV (by decide) aw1 rfl);unfold AwP at CS;obtain⟨BK,hBK⟩:∃x,amn=x:=⟨_,rfl⟩
 rw[hBK]at CS bk;clear hBK;go_upto_region 10 with(go_at_call 25;(with_reducible refine CS.out.mono ?_);rintro r v1 ⟨o1,x1,sl1,rfl,h1,h2,h3,h4,h5⟩;have HA:=ah h1;have HE:=ah h2;have HO:=ah h3;have HN1:=ah h4;have HF:=ah h5;clear h1 h2 h3 h4 h5)
 have A9:=ah (HA.out.add o1.aA 58);have BB:=ah ((Below.refl v1.h.z v1).alloc (ay _) (.c o1.aA 58));have E9:=ah (HE.out.go BB.out);have R9:=ah (gy.ku R8.out HF.out NF.out BB.out);have O1:=ah (HO.out.go BB.out);generalize v1.alloc (.c o1.aA 58)=u1 at A9 E9 R9 O1 ⊢;generalize v1.h.z=p9 at A9 ⊢;have H1:=ah O1.out.all;clear CS HA HE HO HF BB A8 E8 R8 O1 bk;obtain⟨fy1,fy2,fy3,fy4⟩:=(A9.out.box (p:=(p7,({pU with kind:=1,Zq:=FA,Qh:=fn,NJ:=fc}:At).aA)) (by simp)).aI;have CS:=ah (BH A9.out E9.out avC (by omega) ({pU with kind:=1,Zq:=FA,Qh:=fn,NJ:=fc}:At) acF ⟨rfl,R9.out,LF.out,rfl,rfl,rfl⟩ sH (by decide) aw2 rfl);unfold AwP at CS;go_upto_region 11 with(go_at_call 25;(with_reducible refine CS.out.mono ?_);rintro r v2 ⟨o2,x2,sl2,rfl,h1,h2,h3,h4,h5⟩;have HA:=ah h1;have HE:=ah h2;have HO:=ah h3;have Si:=ah h4;have HF:=ah h5;clear h1 h2 h3 h4 h5)
 have A10:=ah (HA.out.add o2.aA 58);have BB:=ah ((Below.refl v2.h.z v2).alloc (ay _) (.c o2.aA 58));have E10:=ah (HE.out.go BB.out);have R10:=ah (gy.ku R9.out HF.out NF.out BB.out);have O2:=ah (HO.out.go BB.out);generalize v2.alloc (.c o2.aA 58)=u2 at A10 E10 R10 O2 ⊢;generalize v2.h.z=p10 at A10 ⊢;have H2:=ah O2.out.all;have Q10:=ah (show gy u2 u2.h.z o2.UC o2.Yt awW by have:=O2.out.out;rw[aqo]at this;exact this);clear CS HA HE HO HF BB A9 E9 R9 O2 fy1 fy2 fy3 fy4;obtain⟨fy1,fy2,fy3,fy4⟩:=(A10.out.box (p:=(p7,({pU with kind:=1,Zq:=FA,Qh:=fn,NJ:=fc}:At).aA)) (by simp)).aI;have CS:=ah (BH A10.out E10.out avD (by omega) ({pU with kind:=1,Zq:=FA,Qh:=fn,NJ:=fc}:At) acF ⟨rfl,R10.out,LF.out,rfl,rfl,rfl⟩ sH (by decide) aw3 rfl);unfold AwP at CS;go_upto_region 12 with(go_at_call 25;(with_reducible refine CS.out.mono ?_);rintro r v3 ⟨o3,x3,sl3,rfl,h1,h2,h3,h4,h5⟩;have HA:=ah h1;have HE:=ah h2;have HO:=ah h3;have HN3:=ah h4;have HF:=ah h5;clear h1 h2 h3 h4 h5)
 have A11:=ah (HA.out.add o3.aA 58);have BB:=ah ((Below.refl v3.h.z v3).alloc (ay _) (.c o3.aA 58));have E11:=ah (HE.out.go BB.out);have R11:=ah (gy.ku R10.out HF.out NF.out BB.out);have O3:=ah (HO.out.go BB.out);have Q11:=ah (gy.ku Q10.out HF.out Si.out BB.out);generalize v3.alloc (.c o3.aA 58)=u3 at A11 E11 R11 O3 Q11 ⊢;generalize v3.h.z=p11 at A11 ⊢;have H3:=ah O3.out.all;clear CS HA HE HO HF BB A10 E10 R10 O3 fy1 fy2 fy3 fy4 Q10;have CS:=ah (BH A11.out E11.out avE (by omega) ({pU with kind:=3,name:=[98]}:At) (acH [98]) ⟨rfl,LG _,⟨ay _,Nat.zero_le _,Nat.zero_le _⟩,rfl,rfl,rfl⟩ sH (by decide) aw4 rfl);unfold AwP at CS;have es:(⟨#[98]⟩:ByteArray)=bV [98]:=rfl;go_upto_region 13 with(go_at_call 25;(with_reducible refine CS.out.mono ?_);rintro r v4 ⟨o4,x4,sl4,rfl,h1,h2,h3,h4,h5⟩;have HA:=ah h1;have HE:=ah h2;have HO:=ah h3;have HN4:=ah h4;have HF:=ah h5;clear h1 h2 h3 h4 h5)
 have A12:=ah (HA.out.add o4.aA 58);have BB:=ah ((Below.refl v4.h.z v4).alloc (ay _) (.c o4.aA 58));have E12:=ah (HE.out.go BB.out);have R12:=ah (gy.ku R11.out HF.out NF.out BB.out);have O4:=ah (HO.out.go BB.out);have Q12:=ah (gy.ku Q11.out HF.out Si.out BB.out);generalize v4.alloc (.c o4.aA 58)=u4 at A12 E12 R12 O4 Q12 ⊢;generalize v4.h.z=p12 at A12 ⊢;have H4:=ah O4.out.all;clear CS HA HE HO HF BB A11 E11 R11 O4 es Q11;have CS:=ah (BH A12.out E12.out avF (by omega) ({pU with kind:=3,name:=[97]}:At) (acH [97]) ⟨rfl,LG _,⟨ay _,Nat.zero_le _,Nat.zero_le _⟩,rfl,rfl,rfl⟩ sH (by decide) aw5 rfl);unfold AwP at CS;have es:(⟨#[97]⟩:ByteArray)=bV [97]:=rfl;go_upto_region 14 with(go_at_call 25;(with_reducible refine CS.out.mono ?_);rintro r v5 ⟨o5,x5,sl5,rfl,h1,h2,h3,h4,h5⟩;have HA:=ah h1;have HE:=ah h2;have HO:=ah h3;have HN5:=ah h4;have HF:=ah h5;clear h1 h2 h3 h4 h5)
 have A13:=ah (HA.out.add o5.aA 58);have BB:=ah ((Below.refl v5.h.z v5).alloc (ay _) (.c o5.aA 58));have E13:=ah (HE.out.go BB.out);have R13:=ah (gy.ku R12.out HF.out NF.out BB.out);have O5:=ah (HO.out.go BB.out);have Q13:=ah (gy.ku Q12.out HF.out Si.out BB.out);generalize v5.alloc (.c o5.aA 58)=u5 at A13 E13 R13 O5 Q13 ⊢;generalize v5.h.z=p13 at A13 ⊢;have H5:=ah O5.out.all;clear CS HA HE HO HF BB A12 E12 R12 O5 es Q12;obtain⟨fy1,fy2,fy3,fy4⟩:=(A13.out.box (p:=(p7,({pU with kind:=1,Zq:=FA,Qh:=fn,NJ:=fc}:At).aA)) (by simp)).aI;have CS:=ah (BH A13.out E13.out avG (by omega) ({pU with kind:=1,Zq:=FA,Qh:=fn,NJ:=fc}:At) acF ⟨rfl,R13.out,LF.out,rfl,rfl,rfl⟩ sH (by decide) aw6 rfl);unfold AwP at CS;go_upto_region 15 with(go_at_call 25;(with_reducible refine CS.out.mono ?_);rintro r v6 ⟨o6,x6,sl6,rfl,h1,h2,h3,h4,h5⟩;have HA:=ah h1;have HE:=ah h2;have HO:=ah h3;have HN6:=ah h4;have HF:=ah h5;clear h1 h2 h3 h4 h5)
 have A14:=ah (HA.out.add o6.aA 58);have BB:=ah ((Below.refl v6.h.z v6).alloc (ay _) (.c o6.aA 58));have E14:=ah (HE.out.go BB.out);have R14:=ah (gy.ku R13.out HF.out NF.out BB.out);have O6:=ah (HO.out.go BB.out);have Q14:=ah (gy.ku Q13.out HF.out Si.out BB.out);generalize v6.alloc (.c o6.aA 58)=u6 at A14 E14 R14 O6 Q14 ⊢;generalize v6.h.z=p14 at A14 ⊢;have H6:=ah O6.out.all;clear CS HA HE HO HF BB A13 E13 R13 O6 fy1 fy2 fy3 fy4 Q13;have CS:=ah (BH A14.out E14.out avH (by omega) ({pU with kind:=4}:At) (acK 4) ⟨rfl,LG _,⟨ay _,Nat.zero_le _,Nat.zero_le _⟩,rfl,rfl,rfl⟩ sH (by decide) aw7 rfl);unfold AwP at CS;go_upto_region 16 with(go_at_call 25;(with_reducible refine CS.out.mono ?_);rintro r v7 ⟨o7,x7,sl7,rfl,h1,h2,h3,h4,h5⟩;have HA:=ah h1;have HE:=ah h2;have HO:=ah h3;have HN7:=ah h4;have HF:=ah h5;clear h1 h2 h3 h4 h5)
 have A15:=ah (HA.out.add o7.aA 58);have BB:=ah ((Below.refl v7.h.z v7).alloc (ay _) (.c o7.aA 58));have E15:=ah (HE.out.go BB.out);have R15:=ah (gy.ku R14.out HF.out NF.out BB.out);have O7:=ah (HO.out.go BB.out);have Q15:=ah (gy.ku Q14.out HF.out Si.out BB.out);generalize v7.alloc (.c o7.aA 58)=u7 at A15 E15 R15 O7 Q15 ⊢;generalize v7.h.z=p15 at A15 ⊢;have H7:=ah O7.out.all;clear CS HA HE HO HF BB A14 E14 R14 O7 Q14;have CS:=ah (BH A15.out E15.out avI (by omega) ({pU with kind:=9}:At) (acK 9) ⟨rfl,LG _,⟨ay _,Nat.zero_le _,Nat.zero_le _⟩,rfl,rfl,rfl⟩ sH (by decide) Vq rfl);unfold AwP at CS;go_upto_region 17 with(go_at_call 25;(with_reducible refine CS.out.mono ?_);rintro r v8 ⟨o8,x8,sl8,rfl,h1,h2,h3,h4,h5⟩;have HA:=ah h1;have HE:=ah h2;have HO:=ah h3;have HN8:=ah h4;have HF:=ah h5;clear h1 h2 h3 h4 h5)
 have A16:=ah (HA.out.add o8.aA 58);have BB:=ah ((Below.refl v8.h.z v8).alloc (ay _) (.c o8.aA 58));have E16:=ah (HE.out.go BB.out);have R16:=ah (gy.ku R15.out HF.out NF.out BB.out);have O8:=ah (HO.out.go BB.out);have Q16:=ah (gy.ku Q15.out HF.out Si.out BB.out);generalize v8.alloc (.c o8.aA 58)=u8 at A16 E16 R16 O8 Q16 ⊢;generalize v8.h.z=p16 at A16 ⊢;have H8:=ah O8.out.all;clear CS HA HE HO HF BB A15 E15 R15 O8 Q15;have CS:=ah (D6 E16.out avJ);unfold aqf at CS;go_upto_region 18 with(go_at_call 20;(with_reducible refine CS.out.mono ?_);rintro r v9 ⟨X,rfl,ho,hb⟩;have HO:=ah ho;have HB:=ah hb;clear ho hb)
 have NS:=ah (show∀y,(y∈wP X.b.A\/y∈wP X.h.A\/y∈wP X.f.A)->y∉[p6]from fun y hy=>by have h1:=(A16.out.box (p:=(p6,(Tu.mk D1 D5 6 1000 80).aA)) (by simp)).lt;rcases hy with hy|hy|hy;(have h2:=(kZ HO.out.b y hy).1;simp;omega);(have h2:=(kZ HO.out.h y hy).1;simp;omega);(have h2:=(kZ HO.out.f y hy).1;simp;omega));have B17:=ah ((Below.refl v9.h.z v9).alloc (ay _) (.c X.aA 37));have A17:=ah ((A16.out.go HB.out).add X.aA 37);have E17:=ah ((E16.out.go HB.out).go B17.out);have S17:=ah ((HO.out.r avJ).go B17.out);have Q17:=ah (gy.upon (gy.upon Q16.out HB.out) B17.out);generalize v9.alloc (.c X.aA 37)=u9 at A17 E17 S17 Q17 ⊢;generalize v9.h.z=p17 at A17 ⊢;clear CS HO HB B17 A16 E16 R16 Q16 NF LF;have BT:=ah (A17.out.box (p:=(p6,(Tu.mk D1 D5 6 1000 80).aA)) (by simp));have th:=BT.out.there 17 17 (by rw[Tu.ak];omega);have BX:=ah (show dL (gT u9 p6 17 D9.aA) p6 (Tu.mk D1 D9 6 1000 80).aA by have h1:=BT.out.setCells 17 D9.aA.toList;have h2:=Tu.Vf (Tu.mk D1 D5 6 1000 80) D9;rw[<-h2];simpa[gT]using h1);obtain⟨fx1,fx2,-,-⟩:=BX.out.aI;have fx3:=(fx1 36).trans (show(Tu.mk D1 D9 6 1000 80).aA[36]? = some (.int .i 80)by simp[Tu.aA,tuT,Array.getElem?_append,fu.ak]);have fx4:=fx2 36;clear fx1 fx2;go_upto_region 20 with fail
 have F12:=ah (show jE [p6] u9 ((gT u9 p6 17 D9.aA).setCell ⟨p6,36,none⟩ (.int .i 8080))from(yT u9 p6 17 D9.aA).set ⟨p6,36,none⟩ _ (.inl (by simp)));have B2:=ah (show dL ((gT u9 p6 17 D9.aA).setCell ⟨p6,36,none⟩ (.int .i 8080)) p6 (Tu.mk D1 D9 6 1000 8080).aA by have h:=BX.out.eG 36 (.int .i 8080);rw[Tu.auG]at h;exact h);have A20:=ah (show Aw w ((gT u9 p6 17 D9.aA).setCell ⟨p6,36,none⟩ (.int .i 8080)) q q2 g [(p6,(Tu.mk D1 D9 6 1000 8080).aA),(p17,X.aA),(p16,o8.aA),(p15,o7.aA),(p14,o6.aA),(p13,o5.aA),(p12,o4.aA),(p11,o3.aA),(p10,o2.aA),(p9,o1.aA),(p8,o0.aA),(p7,({pU with kind:=1,Zq:=FA,Qh:=fn,NJ:=fc}:At).aA),(p1,(LK b).aA),(b,IX.aA)]from A17.out.put (c:=(Tu.mk D1 D5 6 1000 80).aA) F12.out B2.out (by simp) (by intro y hy;simp only[bD,List.not_mem_nil,or_false]at hy⊢;rcases hy with rfl|rfl|rfl|rfl|rfl|rfl|rfl|rfl|rfl|rfl|rfl|rfl|rfl;all_goals exact⟨by simp,by simp[Oc.ak,At.ak,Sh.ak,Cn.ak,Vp.ak,Tu.ak]⟩));have EG:=ah (show TbQ ((gT u9 p6 17 D9.aA).setCell ⟨p6,36,none⟩ (.int .i 8080)) q x8 (Ap zw Vq.1)from⟨F12.out.box E17.out.b.eg (by have:=dL.ne E17.out.b.eg BT.out (by rw[Eg.ak,Tu.ak];omega);simp;exact this),iO.aDZ E17.out.tt.texts aD1,iO.aDZ E17.out.tt.aKn amo.2.2.2.2⟩);have S20:=ah (show StR ((gT u9 p6 17 D9.aA).setCell ⟨p6,36,none⟩ (.int .i 8080)) ((gT u9 p6 17 D9.aA).setCell ⟨p6,36,none⟩ (.int .i 8080)).h.z X Vq.1 from⟨S17.out.mq,S17.out.b.keep F12.out (fun y hy=>NS.out y (.inl hy)),S17.out.h.keep F12.out (fun y hy=>NS.out y (.inr (.inl hy))),S17.out.f.keep F12.out (fun y hy=>NS.out y (.inr (.inr hy))),S17.out.gN,S17.out.no,S17.out.mg,S17.out.ru,S17.out.auJ,S17.out.aoo,S17.out.nb,S17.out.nh,S17.out.nf⟩);have Q20:=ah (show gy ((gT u9 p6 17 D9.aA).setCell ⟨p6,36,none⟩ (.int .i 8080)) ((gT u9 p6 17 D9.aA).setCell ⟨p6,36,none⟩ (.int .i 8080)).h.z o2.UC o2.Yt awW from Vl Q17.out (ay _) F12.out (gy.far Q17.out BT.out (by have h1:=gy.len Q17.out;have h2:awW.n=56:=rfl;rw[Tu.ak];omega)));generalize((gT u9 p6 17 D9.aA).setCell ⟨p6,36,none⟩ (.int .i 8080))=u10 at A20 EG S20 Q20 ⊢;clear F12 B2 BX BT A17 E17 S17 Q17 NS th fx3 fx4;have FX:=ah (fun(W':au) (h:Aw w W' q q2 g [(p6,(Tu.mk D1 D9 6 1000 8080).aA),(p17,X.aA),(p16,o8.aA),(p15,o7.aA),(p14,o6.aA),(p13,o5.aA),(p12,o4.aA),(p11,o3.aA),(p10,o2.aA),(p9,o1.aA),(p8,o0.aA),(p7,({pU with kind:=1,Zq:=FA,Qh:=fn,NJ:=fc}:At).aA),(p1,(LK b).aA),(b,IX.aA)])=>show W'.cell? ⟨p8,1,none⟩=some (.int .i 8)/\W'.cell? ⟨p9,3,none⟩=some (.int .i 1)/\W'.cell? ⟨p10,1,none⟩=some (.int .i 0)/\W'.cell? ⟨p10,4,none⟩=some (.string ⟨#[97]⟩)/\W'.cell? ⟨p10,2,none⟩=some (.bool false)/\W'.cell? ⟨p10,3,none⟩=some (.int .i 1)/\W'.cell? ⟨p10,5,none⟩=some (.s o2.UC o2.Yt o2.aif)/\W'.cell? ⟨p11,2,none⟩=some (.bool true)/\W'.cell? ⟨p12,0,none⟩=some (.int .i 5)/\W'.cell? ⟨p13,0,none⟩=some (.int .i 0)/\W'.cell? ⟨p14,1,none⟩=some (.int .i 8)/\W'.cell? ⟨p15,0,none⟩=some (.int .i 0)/\W'.cell? ⟨p16,0,none⟩=some (.int .i 1)/\W'.cell? ⟨p17,5,none⟩=some (.int .i 2)/\W'.cell? ⟨p17,4,none⟩=some (.int .i 1)/\W'.cell? ⟨p17,3,none⟩=some (.s X.f.A 1 X.f.c)/\W'.cell? ⟨p17,14,none⟩=some (.int .i 2)from⟨((h.box (p:=(p8,o0.aA)) (by simp)).aI.1 1).trans (by rw[show o0.aA[1]? = some (.int .i o0.jw)from rfl,H0.out.2.1,aKr]<;>rfl),
  ((h.box (p:=(p9,o1.aA)) (by simp)).aI.1 3).trans (by rw[show o1.aA[3]? = some (.int .i o1.mq)from rfl,H1.out.2.2.2.1,aKs]<;>rfl),
  ((h.box (p:=(p10,o2.aA)) (by simp)).aI.1 1).trans (by rw[show o2.aA[1]? = some (.int .i o2.jw)from rfl,H2.out.2.1,aqo]<;>rfl),
  ((h.box (p:=(p10,o2.aA)) (by simp)).aI.1 4).trans (by rw[show o2.aA[4]? = some (.string (bV o2.name))from rfl,H2.out.2.2.2.2,aqo]<;>rfl),
  ((h.box (p:=(p10,o2.aA)) (by simp)).aI.1 2).trans (by rw[show o2.aA[2]? = some (.bool o2.zi)from rfl,H2.out.2.2.1,aqo]<;>rfl),
  ((h.box (p:=(p10,o2.aA)) (by simp)).aI.1 3).trans (by rw[show o2.aA[3]? = some (.int .i o2.mq)from rfl,H2.out.2.2.2.1,aqo]<;>rfl),
  ((h.box (p:=(p10,o2.aA)) (by simp)).aI.1 5).trans (by rw[show o2.aA[5]? = some (.s o2.UC o2.Yt o2.aif)from rfl]<;>rfl),
  ((h.box (p:=(p11,o3.aA)) (by simp)).aI.1 2).trans (by rw[show o3.aA[2]? = some (.bool o3.zi)from rfl,H3.out.2.2.1,aKt]<;>rfl),
  ((h.box (p:=(p12,o4.aA)) (by simp)).aI.1 0).trans (by rw[show o4.aA[0]? = some (.int .i o4.err)from rfl,H4.out.1,aKu]<;>rfl),
  ((h.box (p:=(p13,o5.aA)) (by simp)).aI.1 0).trans (by rw[show o5.aA[0]? = some (.int .i o5.err)from rfl,H5.out.1,aKv]<;>rfl),
  ((h.box (p:=(p14,o6.aA)) (by simp)).aI.1 1).trans (by rw[show o6.aA[1]? = some (.int .i o6.jw)from rfl,H6.out.2.1,aKw]<;>rfl),
  ((h.box (p:=(p15,o7.aA)) (by simp)).aI.1 0).trans (by rw[show o7.aA[0]? = some (.int .i o7.err)from rfl,H7.out.1,aKx]<;>rfl),
  ((h.box (p:=(p16,o8.aA)) (by simp)).aI.1 0).trans (by rw[show o8.aA[0]? = some (.int .i o8.err)from rfl,H8.out.1,aKy]<;>rfl),
  ((h.box (p:=(p17,X.aA)) (by simp)).aI.1 5).trans (by rw[show X.aA[5]? = some (.int .i X.no)from Sh.aol X,S20.out.no,amo.1]<;>rfl),
  ((h.box (p:=(p17,X.aA)) (by simp)).aI.1 4).trans (by rw[show X.aA[4]? = some (.int .i X.gN)from Sh.aok X,S20.out.gN,amo.2.1]<;>rfl),
  ((h.box (p:=(p17,X.aA)) (by simp)).aI.1 3).trans (by rw[show X.aA[3]? = some (.s X.f.A X.f.n X.f.c)from Sh.aiM X,<-S20.out.f.len,amo.2.2.2.1]<;>rfl),
  ((h.box (p:=(p17,X.aA)) (by simp)).aI.1 14).trans ((Sh.ajd X 8 (by omega)).trans (by rw[S20.out.mg,aKI]))⟩)
 clear H0 H1 H2 H3 H4 H5 H6 H7 H8 Si HN0 HN1 HN3 HN4 HN5 HN6 HN7 HN8;have lt:=pO (A20.out.box (p:=(p6,(Tu.mk D1 D9 6 1000 8080).aA)) (by simp));have RQ:=ah (aqy u10 #[.int .u8 104,.int .u8 105] [104,105] rfl (2,3));have BQ:=ah ((Below.refl u10.h.z u10).alloc (ay _) (.c #[.int .u8 104,.int .u8 105] 5 (2,3)));have kc:=avK;cases HWW.out;have CR:=ah (fun(W:au) (h:iO Vp.aA 20 W W.h.z (some ⟨b,0,none⟩) 1 [IX]) (hs:StR W W.h.z X Vq.1)=>Ka (LK b) [IX] X Vq.1 W h (show 1<=1 by omega) (show 1<=100000 by omega) hs (by have:=ayZ;omega) (by have:=ayZ;omega) (by have:=ayZ;omega) true ((afP aqn [IX] Vq.1 _ _ _).trans aKJ));have CT:=ah (fun(W:au) (h:TbQ W q x8 (Ap zw Vq.1))=>air (Ap zw Vq.1) h.b h.n h.s (by have:=aD1;omega) (by have:=amo.2.2.2.2;omega));have CX:=ah (fun(W:au) (hs:StR W W.h.z X Vq.1)=>W9 X X Vq.1 Vq.1 W hs hs true (Tm _));unfold aDN at CT;go_wp2_with (first
  | (go_at_call 40;(with_reducible refine(CM2.out _ _ 2 RQ.out).mono ?_);rintro r w11 ⟨A2,n2,c2,rfl,hn,ho,hb⟩;have A21:=ah ((A20.out.go BQ.out).go hb);have EG1:=ah ((EG.out.go BQ.out).go hb);have S21:=ah ((S20.out.go BQ.out).go hb);have Q21:=ah (gy.upon (gy.upon Q20.out BQ.out) hb);have R21:=ah (gy.iX ho);have T1:=(Gt Q21.out o2.aif).2;have T2:=(Gt R21.out c2).2;obtain⟨f0,f1,f2,f3,f4,f5,f6,f7,f8,f9,f10,f11,f12,f13,f14,f15,f16⟩:=FX.out w11 A21.out;clear hn ho hb)
  | (go_at_call 31;(with_reducible refine(CT.out _ EG1.out).mono ?_);rintro r w12 ⟨⟨nA,nn,nc,sA,sn,sc⟩,rfl,ht,hb⟩;obtain rfl:sn=0:=(ht.sn.symm.trans amo.2.2.2.2);have A22:=ah (A21.out.go hb);have S22:=ah (S21.out.go hb);have lc:=Qo.mO (A22.out.box (p:=(p1,(LK b).aA)) (by simp)) (Cn.ak _);have ls:=afQ (A22.out.box (p:=(p17,X.aA)) (by simp));have V22:=ah (iO.at8 (f:=Vp.aA) (sz:=20) (A22.out.box (p:=(b,IX.aA)) (by simp)) (Vp.ak _));clear ht hb)
  | (go_at_call 15;(with_reducible refine(CR.out _ V22.out S22.out).mono ?_);rintro r w13 ⟨rfl,hb⟩;have A23:=ah (A22.out.go hb);have S23:=ah (S22.out.go hb);have l3:=afQ (A23.out.box (p:=(p17,X.aA)) (by simp));clear hb)
  | (go_at_call 17;(with_reducible refine(CX.out _ S23.out).mono ?_);rintro r w14 ⟨rfl,hb⟩;have A24:=ah (A23.out.go hb);clear hb))
 go_ret;exact⟨rfl,A24.out.dF⟩
structure YF(W0 W:au)(q:Nat)(e:En)(s:qK)(x:Eg)(q2 g:Nat)(sl:List (Option Fw)):Prop where
 r:yY W q e s x q2 g sl
 dF:aN W0.h.z W0 W
 new:W0.h.z<=q/\W0.h.z<=q2/\W0.h.z<=g
 FT:∀k∈nZ x,W0.h.z<=k
section
variable {W0 W W':au} {q q2 g r r2 g2:Nat} {e:En} {s t:qK} {x y x':Eg} {sl sm sl':List (Option Fw)}
theorem YF.go(h:YF W0 W q e s x q2 g sl)(hb:aN W.h.z W W'):YF W0 W' q e s x q2 g sl:=⟨h.r.go hb,h.dF.trans (hb.mono h.dF.size),h.new,h.FT⟩
theorem YF.lt(h:YF W0 W q e s x q2 g sl):q<W.h.z/\q2<W.h.z/\g<W.h.z:=h.r.b.lt
theorem YF.start(h:yY W' q e s x q2 g sl)(h0:aN W0.h.z W0 W)(hb:aN W.h.z W W')(hq:W.h.z<=q/\W.h.z<=q2/\W.h.z<=g)(hr:∀k∈nZ x,W.h.z<=k):YF W0 W' q e s x q2 g sl:=by
 have:=h0.size;exact⟨h,h0.trans (hb.mono h0.size),by omega,fun k hk=>by have:=hr k hk;omega⟩
theorem YF.V8(h:YF W0 W q e s x q2 g sl)(h':yY W' q e t x' q2 g sl')(hf:jE [q,q2,g] W W')(hr:∀k∈nZ x',k∈nZ x\/W.h.z<=k):YF W0 W' q e t x' q2 g sl':=
 ⟨h',h.dF.trans (hf.rT (fun k hk=>by have:=h.new;simp at hk;omega) h.dF.size),h.new,fun k hk=>(hr k hk).elim (h.FT k) (fun h1=>Nat.le_trans h.dF.size h1)⟩
theorem YF.auv(h:YF W0 W r e t y r2 g2 sm)(k:YF W0 W q e s x q2 g sl)(hf:jE [q,q2,g] W W')(h1:r∉[q,q2,g])(h2:r2∉[q,q2,g])(h3:g2∉[q,q2,g])(o:∀b∈nZ y,b∉[q,q2,g]):YF W0 W' r e t y r2 g2 sm:=
 ⟨h.r.frm hf h1 h2 h3 o,h.dF.trans (hf.rT (fun k' hk=>by have:=k.new;simp at hk;omega) h.dF.size),h.new,h.FT⟩
structure Duo(W0 W:au)(q:Nat)(e:En)(s:qK)(x:Eg)(q2 g:Nat)(sl:List (Option Fw))(r:Nat)(t:qK)(y:Eg)(r2 g2:Nat)(sm:List (Option Fw)):Prop where
 a:YF W0 W q e s x q2 g sl
 b:YF W0 W r e t y r2 g2 sm
 ab:∀k∈[r,r2,g2],k∉[q,q2,g]
 rb:∀k∈nZ y,k∉[q,q2,g]
 ra:∀k∈nZ x,k∉[r,r2,g2]
theorem Duo.swap(h:Duo W0 W q e s x q2 g sl r t y r2 g2 sm):Duo W0 W r e t y r2 g2 sm q s x q2 g sl:=
 ⟨h.b,h.a,fun k hk hm=>h.ab k hm hk,h.ra,h.rb⟩
theorem Duo.go(h:Duo W0 W q e s x q2 g sl r t y r2 g2 sm)(hb:aN W.h.z W W'):Duo W0 W' q e s x q2 g sl r t y r2 g2 sm:=⟨h.a.go hb,h.b.go hb,h.ab,h.rb,h.ra⟩
theorem Duo.V8{u:qK}(h:Duo W0 W q e s x q2 g sl r t y r2 g2 sm)(h':yY W' q e u x' q2 g sl')(hf:jE [q,q2,g] W W')(hr:∀k∈nZ x',k∈nZ x\/W.h.z<=k):Duo W0 W' q e u x' q2 g sl' r t y r2 g2 sm:=by
 have hl:=h.b.lt;refine⟨h.a.V8 h' hf hr,h.b.auv h.a hf (h.ab r (by simp)) (h.ab r2 (by simp)) (h.ab g2 (by simp)) h.rb,h.ab,h.rb,fun k hk=>(hr k hk).elim (h.ra k) (fun h1=>by simp;omega)⟩
theorem Duo.start(h:YF W0 W q e s x q2 g sl)(hb:aN W.h.z W W')(h':yY W' r e t y r2 g2 sm)(hq:W.h.z<=r/\W.h.z<=r2/\W.h.z<=g2)(hr:∀k∈nZ y,W.h.z<=k):Duo W0 W' q e s x q2 g sl r t y r2 g2 sm:=by
 have hl:=h.lt;refine⟨h.go hb,YF.start h' h.dF hb hq hr,?_,?_,?_⟩
 ·intro k hk;simp at hk⊢;omega
 ·intro k hk;have:=hr k hk;simp;omega
 ·intro k hk;have:=h.r.b.FT k hk;simp;omega
end
def aD8(W0 W:au)(q:Nat)(e:En)(q2 g:Nat)(r:Nat)(t:qK)(y:Eg)(r2 g2:Nat)(sm:List (Option Fw))(R:qK×Ou)(z:kX)(W':au):Prop:=
 ∃o x' sl',z=.returned (.agg (Oc.aA o))/\OuR W.h.z W' o R.2/\Duo W0 W' q e R.1 x' q2 g sl' r t y r2 g2 sm/\jE [q,q2,g] W W'
def aD9(W0 W:au)(q:Nat)(e:En)(q2 g:Nat)(R:qK×Ou)(z:kX)(W':au):Prop:=
 ∃o x' sl',z=.returned (.agg (Oc.aA o))/\OuR W.h.z W' o R.2/\YF W0 W' q e R.1 x' q2 g sl'/\jE [q,q2,g] W W'
section
variable {W0 W W':au} {q q2 g r r2 g2:Nat} {e:En} {s t:qK} {x y x':Eg} {sl sm sl':List (Option Fw)} {M:Int}
theorem aqz(h:YF W0 W q e s x q2 g sl)(hi:oG M e s)(hM:M<1152921504606846976)(a:At)(u:Ac)(ha:AtR W a u)(hof:u.op.bk.ru)(how:u.op.w<18446744073709551616):
 aR aj 25 #[.pointer (some ⟨q,0,none⟩),.agg a.aA] W (aD9 W0 W q e q2 g (vW e s u)):=
 (Np h.r hi hM a u ha hof how).mono (by
  rintro z W' ⟨o,x',sl',rfl,ho,hE,hl,hr,hf⟩;exact⟨o,x',sl',rfl,ho,h.V8 hE hf hr,hf⟩)
theorem afS(h:Duo W0 W q e s x q2 g sl r t y r2 g2 sm)(hi:oG M e s)(hM:M<1152921504606846976)(a:At)(u:Ac)(ha:AtR W a u)(hof:u.op.bk.ru)(how:u.op.w<18446744073709551616):
 aR aj 25 #[.pointer (some ⟨q,0,none⟩),.agg a.aA] W (aD8 W0 W q e q2 g r t y r2 g2 sm (vW e s u)):=
 (Np h.a.r hi hM a u ha hof how).mono (by
  rintro z W' ⟨o,x',sl',rfl,ho,hE,hl,hr,hf⟩;exact⟨o,x',sl',rfl,ho,h.V8 hE hf hr,hf⟩)
end
def Sq(e:En)(s:qK)(us:List Ac):qK:=us.foldl (fun s u=>(vW e s u).1) s
theorem amt(e:En)(s:qK)(us:List Ac)(u:Ac):Sq e s (us++[u])=(vW e (Sq e s us) u).1:=by simp[Sq]
theorem abj{e:En}{s:qK}{us:List Ac}{k:Nat}(h:k<us.n):Sq e s (us.take (k+1))=(vW e (Sq e s (us.take k)) (us.getD k ais)).1:=by
 rw[List.take_add_one,aD h,av,aD h];exact amt _ _ _ _
theorem Yw{e:En}{s:qK}{M:Int}(h:oG M e s)(us:List Ac)(hu:∀u∈us,u.op.bk.ru/\u.op.w<18446744073709551616):oG (M+us.n) e (Sq e s us):=by
 induction us generalizing s M with
 | nil=>simpa[Sq]using h
 | cons u us ih=>
   have h1:=wT h u (hu u (by simp)).1 (hu u (by simp)).2;have h2:=ih h1 (fun v hv=>hu v (by simp[hv]));have e1:M+((u::us).n:Int)=M+1+(us.n:Int):=by simp only[List.length_cons];omega
   rw[e1];exact h2
theorem Yx(a:fu)(w:au):aR aj 67 #[.agg a.aA] w (gP w (.bool (qN a))):=by
 have Z:=ah ((Bx.start w).new a.aA 27);go_enter Tryz.func67,Tryz.ntmps67;go_upto_region 1 with fail
 generalize w.alloc (.c a.aA 27)=w2 at *;obtain⟨y1,y2,y3,y4⟩:=Z.out.b0.aI;have CA:=ah (akj a w2);have a0:=fu.qH a;have HO:=ah (show qN a=(a.j6||a.mK)from rfl);cases h6:a.j6
 all_goals
  rw[h6]at a0 CA HO
  first
   | (go_wp2
      go_ret;exact⟨by rw[HO.out];rfl,Z.out.dF⟩)
   | (rw[Bool.not_false,Bool.and_true]at CA
      go_wp2_with (go_at_call 133;(with_reducible refine CA.out.mono ?_);rintro e w3 ⟨rfl,hb⟩;have Z3:=ah (Z.out.go hb);clear hb);go_ret;exact⟨by rw[HO.out];rfl,Z3.out.dF⟩)
theorem afT(n a b:Int)(w:au):aR aj 68 #[.int .i n,.int .i a,.int .i b] w fun e w'=>e=.returned (.bool (J6 n a b))/\w=w':=by
 go_enter Tryz.func68,Tryz.ntmps68;by_cases h1:a<=n<;>by_cases h2:n<=b
 all_goals
  go_wp2;go_ret;exact⟨by simp[J6,h1,h2],rfl⟩
theorem Cn.ay5(x:Cn)(k:Nat)(hk:k<6):x.aA[3+k]? = some (.int .i (x.kC.toList.getD k 0)):=by
 rw[<-abI x.kC k hk];have h:=Cn.U4 x;rw[<-h,dx];simp[Cn.ak];omega
theorem ajW(a b:Int):(a==b)=(b==a):=by rw[cO,beq_iff_eq,beq_iff_eq];exact eq_comm
theorem aiw(a b:fu):decide (a=b)=decide (b=a):=decide_eq_decide.2 eq_comm
theorem amu(l:List Vp)(i:Nat):Es l i=(aeL (l.getD i oD) && !(l.take i).any (yL (l.getD i oD).jk (l.getD i oD).aQ (l.getD i oD).nL)):=rfl
theorem afU{p:Vp->Bool}{l:List Vp}{i:Nat}(hi:i<=l.n)(h:∀k,k<i->p (l.getD k oD)=false):(l.take i).any p=false:=by
 rw[List.any_eq_false];intro x hx;obtain⟨k,hk,rfl⟩:=List.getElem_of_mem hx;have YU:k<i:=by simp at hk;omega
 have:=h k YU;rw[av,aD (by omega)]at this;simpa using this
theorem adn{p:Vp->Bool}{l:List Vp}{i k:Nat}(hi:i<=l.n)(hk:k<i)(h:p (l.getD k oD)=true):(l.take i).any p=true:=by
 rw[tQ];refine⟨l[k],?_,?_⟩
 ·rw[List.mem_take_iff_getElem]
  exact⟨k,by omega,rfl⟩
 ·rw[av,aD (by omega)]at h
  exact h
theorem Yy(x:Cn)(l:List Vp)(w:au)(hR:RdV w w.h.z x.qO x.iH l)(hn:x.iH<=100000):
 aR aj 22 #[.agg x.aA] w (gP w (.bool (yM x l))):=by
 have Z:=ah ((Bx.start w).new x.aA 29);have HR:=ah hR;have HO:=ah (ajJ x l);have HI:=ah (Yk x.kC);have HN:=ah hR.1;have HS:=ah (aa4 l x.iH hR.1);have LI:=ah (Cn.ay5 x);have FA:=ah (fun(w':au) (h:Bx [(w.h.z,x.aA)] w w')=>show w'.cell? ⟨w.h.z,0,none⟩=some (.s x.qO x.iH x.qP)from(h.b0.aI.1 0).trans (Cn.KW x));have CS:=ah (fun a W=>Yx a W);have CW:=ah (fun n a b W=>afT n a b W);have NOV:=ah (show zF l=false->yM x l=false from fun h=>by rw[HO.out,h];simp);have NOI:=ah (show Cw x.kC=false->yM x l=false from fun h=>by rw[HO.out,h];simp);clear hR;go_enter Tryz.func22,Tryz.ntmps22;go_upto_region 1 with fail
 generalize w.alloc (.c x.aA 29)=w2 at *;have f0:=FA.out _ Z.out;by_cases h64:64<x.iH
 ·have q:decide ((64:Int)<x.iH)=true:=by simp;omega
  have HF:=ah (show yM x l=false from NOV.out (by cases h:zF l;rfl;have:=(HS.out.1 h).1;omega));go_wp2;go_ret;exact⟨by rw[HF.out];rfl,Z.out.dF⟩
 have q:decide ((64:Int)<x.iH)=false:=by simp;omega
 go_wp2;go_loopw [3] (fun s3 wr=>∃i:Nat,i<=x.iH/\s3=.int .i i/\(∀k,k<i->Es l k=true)/\Bx [(w.h.z,x.aA)] w wr) (fun s3 _=>x.iH-(intOf s3).toNat)
 case atStart=>exact⟨0,by omega,rfl,fun k hk=>by omega,Z.out⟩
 case round=>
  clear f0 q;obtain⟨i,wW,rfl,Di,hz⟩:=hrel;have Gu:=ah Di;have ZR:=ah hz;clear Di hz;have f0:=FA.out _ ZR.out;by_cases fP:i<x.iH
  ·have hi:(i:Int)<x.iH:=by omega
   obtain⟨b,o,hA,Cb,hh,uh⟩:=iO.fE Vp.ak oD (ZR.out.rdR HR.out) fP;obtain⟨v,hv⟩:∃v,v=l.getD i oD:=⟨_,rfl⟩
   rw[<-hv]at uh;have HX:=ah (show Es l i=(aeL v && !(l.take i).any (yL v.jk v.aQ v.nL))by rw[amu,<-hv]);clear hv;rw[hA]at f0;have HAA:=ah hA;clear hA;have Z1:=ah (ZR.out.new v.aA 98);go_upto_region 7 with fail
   clear hh uh f0;generalize wr.alloc (.c v.aA 98)=w3 at Z1 ⊢;have hy4:=ZR.out.b0.lt;generalize wr.h.z=y4 at Z1 hy4 ⊢;obtain⟨y1,y2,y3,y5⟩:=Z1.out.b0.aI;have CSV:=ah (CS.out v.jk w3);have HV:=ah (show aeL v=(qN v.jk&&(v.aQ==6||v.aQ==17)&&J6 v.nL 1 65535)from rfl);cases hv:aeL v
   ·have Lf:=ah (show yM x l=false from NOV.out (by
     cases h:zF l;rfl;have:=(HS.out.1 h).2 i fP;rw[HX.out,hv]at this;simp at this))
    rw[hv]at HV;have HZ:=ah HV.out.symm;clear hv HV HX;cases h1:qN v.jk
    ·rw[h1]at CSV
     go_wp2_with (first|(go_at_call 67;(with_reducible refine CSV.out.mono ?_);rintro e w4 ⟨rfl,hb⟩;have Z3:=ah (Z1.out.go hb);clear y1 y2 y3 y5;obtain⟨y1,y2,y3,y5⟩:=Z3.out.b0.aI;clear hb));go_ret;exact⟨by rw[Lf.out];rfl,Z3.out.dF⟩
    ·rw[h1]at CSV HZ
     have UO:=ah (show((v.aQ==6||v.aQ==17)&&J6 v.nL 1 65535)=false by have:=HZ.out;simpa using this);cases h2:(v.aQ==6)<;>cases h3:(v.aQ==17)<;>cases h4:J6 v.nL 1 65535
     all_goals
      rw[h2,h3,h4]at UO
      first
       | (exact absurd UO.out (by decide))
       | (have h2':(v.aQ != 6) = !(v.aQ==6):=rfl
          have h3':(v.aQ != 17) = !(v.aQ==17):=rfl;rw[h2]at h2';rw[h3]at h3';have CWV:=ah (fun W=>CW.out v.nL 1 65535 W);rw[h4]at CWV;go_wp2_with (first|(go_at_call 67;(with_reducible refine CSV.out.mono ?_);rintro e w4 ⟨rfl,hb⟩;have Z3:=ah (Z1.out.go hb);clear y1 y2 y3 y5;obtain⟨y1,y2,y3,y5⟩:=Z3.out.b0.aI;clear hb)|(go_at_call 68;(with_reducible refine(CWV.out _).mono ?_);rintro e w5 ⟨rfl,rfl⟩));go_ret;exact⟨by rw[Lf.out];rfl,Z3.out.dF⟩)
   ·rw[hv,Bool.true_and]at HX
    rw[hv]at HV;have HZ:=ah HV.out.symm;clear hv HV;have h1:qN v.jk=true:=by have:=HZ.out;simp at this;exact this.1.1
    have h4:J6 v.nL 1 65535=true:=by have:=HZ.out;simp at this;exact this.2
    have h23:(v.aQ==6||v.aQ==17)=true:=by have:=HZ.out;simp at this;simpa using this.1.2
    have CWV:=ah (fun W=>CW.out v.nL 1 65535 W);rw[h4]at CWV;rw[h1]at CSV;clear h1 h4;cases h2:(v.aQ==6)<;>cases h3:(v.aQ==17)
    all_goals
     rw[h2,h3]at h23
     first
      | (exact absurd h23 (by decide))
      | skip
    all_goals
     clear h23;have h2':(v.aQ != 6) = !(v.aQ==6):=rfl;have h3':(v.aQ != 17) = !(v.aQ==17):=rfl;rw[h2]at h2';rw[h3]at h3';go_upto_region 9 with(first|(go_at_call 67;(with_reducible refine CSV.out.mono ?_);rintro e w4 ⟨rfl,hb⟩;have Z3:=ah (Z1.out.go hb);clear y1 y2 y3 y5;obtain⟨y1,y2,y3,y5⟩:=Z3.out.b0.aI;clear hb)|(go_at_call 68;(with_reducible refine(CWV.out _).mono ?_);rintro e w5 ⟨rfl,rfl⟩))
     clear h2 h3 h2' h3' y1 y2 y3 y5 CSV CWV;go_wp2;go_loopw [5] (fun s5 wx=>∃k:Nat,k<=i/\s5=.int .i k/\(∀j,j<k->yL v.jk v.aQ v.nL (l.getD j oD)=false)/\Bx [(y4,v.aA),(w.h.z,x.aA)] w wx) (fun s5 _=>i-(intOf s5).toNat)
     case atStart=>exact⟨0,by omega,rfl,fun j hj=>by omega,Z3.out⟩
     case round=>
      obtain⟨k,KO,rfl,uU,hz⟩:=hrel;have HNK:=ah uU;have ZK:=ah hz;clear uU hz;have f0:=FA.out _ ZK.out.U1;by_cases hkl:k<i
      ·have YU:(k:Int)<i:=by omega
       have hk3:(k:Int)<x.iH:=by omega
       obtain⟨b2,o2,hA2,adW,hh,uh⟩:=iO.fE Vp.ak oD (ZK.out.U1.rdR HR.out) (Nat.lt_trans hkl fP);obtain⟨u,hu⟩:∃u,u=l.getD k oD:=⟨_,rfl⟩
       rw[<-hu]at uh;have HU:=ah hu;clear hu;rw[hA2]at f0;have HAB:=ah hA2;clear hA2;have Z5:=ah (ZK.out.new u.aA 98);go_upto_region 13 with fail
       clear hh uh f0;have hy6:=ZK.out.b0.lt;generalize wr.alloc (.c u.aA 98)=w7 at Z5 ⊢;generalize wr.h.z=y7 at Z5 hy6 ⊢;obtain⟨a1,a2,a3,a4⟩:=Z5.out.b0.aI;obtain⟨b1,b2,b3,b4⟩:=Z5.out.b1.aI;have c1:=Vp.DU u;have c2:=Vp.DU v;obtain⟨b5,yX⟩:∃b,decide (v.jk=u.jk)=b:=⟨_,rfl⟩
       obtain⟨b6,NH⟩:∃b,(v.aQ==u.aQ)=b:=⟨_,rfl⟩
       obtain⟨b7,hb7⟩:∃b,(v.nL==u.nL)=b:=⟨_,rfl⟩
       have HL:=ah (show yL v.jk v.aQ v.nL u=(b5&&b6&&b7)by
        rw[<-yX,<-NH,<-hb7];unfold yL;rw[ajW u.aQ,ajW u.nL,aiw u.jk])
       have Lf:=ah (show yL v.jk v.aQ v.nL u=true->yM x l=false from fun hl=>NOV.out (by
        cases h:zF l;rfl;have:=(HS.out.1 h).2 i fP;rw[HX.out,adn (by rw[HN.out];omega) hkl (by rw[<-HU.out];exact hl)]at this;simp at this))
       go_wp2
       all_goals
        first
        | (go_roundw
           case rel=>exact⟨k+1,by omega,by go_num,fun j hj=>by
            by_cases hjk:j=k
            ·rw[hjk,<-HU.out,HL.out];simp[*]
            ·exact HNK.out j (by omega),Z5.out.U1⟩
           case measure=>simp[intOf]<;>omega)
        | (go_ret
           exact⟨by rw[Lf.out (by rw[HL.out];simp[*])];rfl,Z5.out.dF⟩)
      ·obtain rfl:k=i:=by omega
       have HYY:=ah (show Es l k=true by rw[HX.out,afU (by rw[HN.out];omega) HNK.out];rfl);have hd:decide ((k:Int)<k)=false:=by simp
       go_wp2;go_roundw
       case rel=>exact⟨k+1,by omega,by go_num,fun j hj=>by
        by_cases hjk:j=k
        ·rw[hjk];exact HYY.out
        ·exact Gu.out j (by omega),ZK.out.U1⟩
       case measure=>simp[intOf]<;>omega
  ·obtain rfl:i=x.iH:=by omega
   have HVS:=ah (show zF l=true from HS.out.2 ⟨by omega,Gu.out⟩);have hd:decide ((x.iH:Int)<x.iH)=false:=by simp
   rw[HVS.out,Bool.and_true]at HO;have fi0:=(ZR.out.b0.aI.1 3).trans (LI.out 0 (by omega));obtain⟨z0,mZ⟩:∃z,z=x.kC.toList.getD 0 0:=⟨_,rfl⟩
   have Nz:=ah mZ;rw[<-mZ]at fi0;clear mZ;by_cases hz:z0=0
   ·have qz:(z0 != 0)=false:=by simp[hz]
    have aD':=ah (show x.kC.toList.getD 0 0=0 by rw[<-Nz.out];exact hz);clear hz Gu HS HN;go_upto_region 17 with fail
    clear f0 fi0 qz hd;go_wp2;go_loop [7] (fun s7=>∃k:Nat,1<=k/\k<=6/\s7=.int .i k/\(∀j,j<k->C9 x.kC j=true)) (fun s7=>6-(intOf s7).toNat)
    case atStart=>exact⟨1,by omega,by omega,rfl,fun j hj=>by obtain rfl:j=0:=by omega
                                                             unfold C9;rw[aD'.out];rfl⟩
    case round=>
     obtain⟨k,hk1,hk6,rfl,Di⟩:=hrel;have HNK:=ah Di;clear Di;by_cases fP:k<6
     ·have YU:(k:Int)<6:=by omega
      have hk3:(0:Int)<=k:=by omega
      have fi:=(ZR.out.b0.aI.1 (3+k)).trans (LI.out k fP);obtain⟨z,hz⟩:∃z,z=x.kC.toList.getD k 0:=⟨_,rfl⟩
      have HK:=ah (show C9 x.kC k=J6 z 0 1000000 by unfold C9;rw[<-hz,show(k==0)=false by simp;omega];simp);rw[<-hz]at fi;have CZ:=ah (fun W=>CW.out z 0 1000000 W);clear hz;cases hb:J6 z 0 1000000
      ·have Lf:=ah (show yM x l=false from NOI.out (by
        cases h:Cw x.kC;rfl;have:=HI.out.1 h k fP;rw[HK.out,hb]at this;cases this))
       rw[hb]at CZ;clear hb;go_wp2_with (first|(go_at_call 68;(with_reducible refine(CZ.out _).mono ?_);rintro e w5 ⟨rfl,rfl⟩));go_ret;exact⟨by rw[Lf.out];rfl,ZR.out.dF⟩
      ·rw[hb]at CZ HK
       clear hb;go_wp2_with (first|(go_at_call 68;(with_reducible refine(CZ.out _).mono ?_);rintro e w5 ⟨rfl,rfl⟩));go_round
       case rel=>exact⟨k+1,by omega,by omega,by go_num,fun j hj=>by
        by_cases hjk:j=k
        ·rw[hjk];exact HK.out
        ·exact HNK.out j (by omega)⟩
       case measure=>simp[intOf]<;>omega
     ·obtain rfl:k=6:=by omega
      have HID:=ah (show Cw x.kC=true from HI.out.2 HNK.out);rw[HID.out,Bool.true_and]at HO;obtain⟨y1,y2,y3,y4⟩:=ZR.out.b0.aI;have CS4:=ah (fun W=>CS.out x.Dt W);obtain⟨sf,hsf⟩:∃b,qN x.Dt=b:=⟨_,rfl⟩
      rw[hsf]at CS4 HO;clear hsf fP hk1 hk6 HID HNK NOI NOV HI LI Nz aD' HVS;cases jB:J6 x.size 2 65537
      ·rw[jB,Bool.false_and]at HO
       simp only[Bool.false_and]at HO;go_wp2_with (first|(go_at_call 68;(with_reducible refine(CW.out _ _ _ _).mono ?_);rintro e w5 ⟨rfl,rfl⟩))
       all_goals
        go_ret;exact⟨by rw[HO.out];rfl,ZR.out.dF⟩
      ·have PR:=ah (show∀W,aR aj 69 #[.int .i x.size] W fun e W'=>e=.returned (.bool (lI x.size.toNat))/\W=W' from fun W=>by
        have h1:2<=x.size/\x.size<=65537:=by unfold J6 at jB;simpa using jB
        have:=abJ (W:=W) x.size.toNat (by omega)
        rwa [Int.toNat_of_nonneg (by omega)]at this)
       obtain⟨pn,YC⟩:∃b,lI x.size.toNat=b:=⟨_,rfl⟩
       rw[jB,Bool.true_and]at HO;simp only[YC]at HO PR;clear YC;go_wp2_with (first|(go_at_call 68;(with_reducible refine(CW.out _ _ _ _).mono ?_);rintro e w5 ⟨rfl,rfl⟩)|(go_at_call 69;(with_reducible refine(PR.out _).mono ?_);rintro e w5 ⟨rfl,rfl⟩)|(go_at_call 67;(with_reducible refine(CS4.out _).mono ?_);rintro e w6 ⟨rfl,hb⟩;have Z4:=ah (ZR.out.go hb);clear y1 y2 y3 y4;obtain⟨y1,y2,y3,y4⟩:=Z4.out.b0.aI;clear hb))
       all_goals
        go_ret;refine⟨?_,by first|exact Z4.out.dF|exact ZR.out.dF⟩;rw[HO.out];clear HO PR CW CS CS4 y1 y2 y3 y4;simp_all
   ·have qz:(z0 != 0)=true:=by simp[hz]
    have Lf:=ah (show yM x l=false from NOI.out (by
     cases h:Cw x.kC;rfl;have:=HI.out.1 h 0 (by omega);unfold C9 at this;rw[<-Nz.out]at this;simp[hz]at this))
    clear hz;go_wp2;go_ret;exact⟨by rw[Lf.out];rfl,ZR.out.dF⟩
theorem Qj(k:Vector UInt8 16)(c:Cn)(vs:List Vp)(A B:Option aU)(na ca nb cb:Nat)(la lb:List At)(ua ub:List Ac)(W:au)(hV:iO Vp.aA 20 W W.h.z c.qO c.iH vs)(hvc:c.iH<=c.qP)(VG:c.qP<=9223372036854775807)
 (hRa:iO At.aA 34 W W.h.z A na la) (hla:ua.n=na) (hOa:∀i,i<na->AtO W (la.getD i pU) (ua.getD i ais)) (hna:na<=9223372036854775807)
 (hRb:iO At.aA 34 W W.h.z B nb lb) (hlb:ub.n=nb) (hOb:∀i,i<nb->AtO W (lb.getD i pU) (ub.getD i ais)) (hnb:nb<=9223372036854775807) :
 aR aj 9 #[.agg (iU k),.agg c.aA,.slice A na ca,.slice B nb cb] W (gP W (.bool true)):=by
 have z0:=((Bx.start W).new (iU k) 22).new c.aA 29;rw[show(W.alloc (.c (iU k) 22)).h.z=W.h.z+1 by simp]at z0;have Z0:=ah z0;clear z0;have V0:=ah hV;have RA:=ah hRa;have RB:=ah hRb;have OA:=ah hOa;have OB:=ah hOb;have LN:=ah (show ua.n=na/\ub.n=nb/\na<=9223372036854775807/\nb<=9223372036854775807/\c.iH<=c.qP/\c.qP<=9223372036854775807 from⟨hla,hlb,hna,hnb,hvc,VG⟩);have CA:=ah (fun(w:au) (hb:aN W.h.z W w)=>tN w);have CMa:=ah (fun(w:au) (hb:aN W.h.z W w)=>ajT c la A na ca w (RA.out.go hb) hna);have CMb:=ah (fun(w:au) (hb:aN W.h.z W w)=>ajT c lb B nb cb w (RB.out.go hb) hnb);clear hV hRa hRb hOa hOb hla hlb hna hnb hvc VG;go_enter Tryz.func9,Tryz.ntmps9;go_upto_region 1 with fail
 have SZ0:=ah (show W.h.z+1<((W.alloc (.c (iU k) 22)).alloc (.c c.aA 29)).h.z by simp);generalize(W.alloc (.c (iU k) 22)).alloc (.c c.aA 29)=w1 at Z0 SZ0 ⊢;obtain⟨K1,Od⟩:∃K,aiu c la=K:=⟨_,rfl⟩
 obtain⟨K2,Gd⟩:∃K,aiu c lb=K:=⟨_,rfl⟩
 obtain⟨K3,hK3⟩:∃K,yM c vs=K:=⟨_,rfl⟩
 rw[Od]at CMa;rw[Gd]at CMb;have CK:=ah (fun(w:au) (hb:aN W.h.z W w) (hn:c.iH<=100000)=>Yy c vs w (V0.out.go hb) hn);rw[hK3]at CK;have HK1:=ah Od;have HK2:=ah Gd;have HK3:=ah hK3;clear Od Gd hK3;cases K1
 ·go_upto_region 2 with(first
   | (go_at_call 12;(with_reducible refine(tN _).mono ?_);rintro r w2 ⟨rfl,hb⟩;have Z2:=ah (Z0.out.go hb);have l2:=Qo.mO Z2.out.b0 (Cn.ak _);clear hb)
   | (go_at_call 21;(with_reducible refine(CMa.out _ Z2.out.dF).mono ?_);rintro r w3 ⟨rfl,hb⟩;have Z3:=ah (Z2.out.go hb);have l3:=Qo.mO Z3.out.b0 (Cn.ak _);clear hb))
  go_wp2_with (go_at_call 12;(with_reducible refine(tN _).mono ?_);rintro r w4 ⟨rfl,hb⟩;have Z4:=ah (Z3.out.go hb);clear hb);go_ret;exact⟨rfl,Z4.out.dF⟩
 cases K2
 ·go_upto_region 2 with(first
   | (go_at_call 12;(with_reducible refine(tN _).mono ?_);rintro r w2 ⟨rfl,hb⟩;have Z2:=ah (Z0.out.go hb);have l2:=Qo.mO Z2.out.b0 (Cn.ak _);clear hb)
   | (go_at_call 21;(with_reducible refine(CMa.out _ Z2.out.dF).mono ?_);rintro r w3 ⟨rfl,hb⟩;have Z3:=ah (Z2.out.go hb);have l3:=Qo.mO Z3.out.b0 (Cn.ak _);clear hb)
   | (go_at_call 21;(with_reducible refine(CMb.out _ Z3.out.dF).mono ?_);rintro r w4 ⟨rfl,hb⟩;have Z4:=ah (Z3.out.go hb);have l4:=Qo.mO Z4.out.b0 (Cn.ak _);clear hb))
  go_wp2_with (go_at_call 12;(with_reducible refine(tN _).mono ?_);rintro r w9 ⟨rfl,hb⟩;have Z9:=ah (Z4.out.go hb);clear hb);go_ret;exact⟨rfl,Z9.out.dF⟩
 have VN:=ah (show c.iH<=20/\la.n<=60/\lb.n<=60 by
  have h1:=HK1.out;have h2:=HK2.out;unfold aiu Sn at h1 h2;simp only[Bool.and_eq_true,decide_eq_true_eq]at h1 h2;exact⟨h1.1.1,h1.2.1,h2.2.1⟩)
 cases K3
 ·go_upto_region 2 with(first
   | (go_at_call 12;(with_reducible refine(tN _).mono ?_);rintro r w2 ⟨rfl,hb⟩;have Z2:=ah (Z0.out.go hb);have l2:=Qo.mO Z2.out.b0 (Cn.ak _);clear hb)
   | (go_at_call 21;(with_reducible refine(CMa.out _ Z2.out.dF).mono ?_);rintro r w3 ⟨rfl,hb⟩;have Z3:=ah (Z2.out.go hb);have l3:=Qo.mO Z3.out.b0 (Cn.ak _);clear hb)
   | (go_at_call 21;(with_reducible refine(CMb.out _ Z3.out.dF).mono ?_);rintro r w4 ⟨rfl,hb⟩;have Z4:=ah (Z3.out.go hb);have l4:=Qo.mO Z4.out.b0 (Cn.ak _);clear hb)
   | (go_at_call 22;(with_reducible refine(CK.out _ Z4.out.dF (by have:=VN.out;omega)).mono ?_);rintro r w5 ⟨rfl,hb⟩;have Z5:=ah (Z4.out.go hb);have l5:=Qo.mO Z5.out.b0 (Cn.ak _);clear hb))
  go_wp2_with (go_at_call 12;(with_reducible refine(tN _).mono ?_);rintro r w9 ⟨rfl,hb⟩;have Z9:=ah (Z5.out.go hb);clear hb);go_ret;exact⟨rfl,Z9.out.dF⟩
 go_upto_region 3 with(first
  | (go_at_call 12;(with_reducible refine(tN _).mono ?_);rintro r w2 ⟨rfl,hb⟩;have Z2:=ah (Z0.out.go hb);have l2:=Qo.mO Z2.out.b0 (Cn.ak _);clear hb)
  | (go_at_call 21;(with_reducible refine(CMa.out _ Z2.out.dF).mono ?_);rintro r w3 ⟨rfl,hb⟩;have Z3:=ah (Z2.out.go hb);have l3:=Qo.mO Z3.out.b0 (Cn.ak _);clear hb)
  | (go_at_call 21;(with_reducible refine(CMb.out _ Z3.out.dF).mono ?_);rintro r w4 ⟨rfl,hb⟩;have Z4:=ah (Z3.out.go hb);have l4:=Qo.mO Z4.out.b0 (Cn.ak _);clear hb)
  | (go_at_call 22;(with_reducible refine(CK.out _ Z4.out.dF (by have:=VN.out;omega)).mono ?_);rintro r w5 ⟨rfl,hb⟩;have Z5:=ah (Z4.out.go hb);have l5:=Qo.mO Z5.out.b0 (Cn.ak _);clear hb))
 have N5:=ah (show c.iH<=100000 by have:=VN.out;omega);have CN:=ah (abf k c vs w5 (V0.out.go Z5.out.dF) LN.out.2.2.2.2.1 N5.out HK3.out);unfold Kc at CN;have lk5:=XV.mO Z5.out.b1 (dK _);clear CMa CMb CK CA;go_upto_region 4 with(go_at_call 23;(with_reducible refine CN.out.mono ?_);rintro r w6 ⟨q,x,q2,g,sl,rfl,hE,hb,hq,hr⟩;have U6:=ah (YF.start hE (Below.refl _ _) hb hq hr);clear hE hb hq hr)
 go_upto_region 6 with fail
 have FE:=ah (show(∀i,i<na->(la.getD i pU).Qh<=1000000)/\(∀i,i<nb->(lb.getD i pU).Qh<=1000000)by
  have h1:=HK1.out;have h2:=HK2.out;unfold aiu Sn abh at h1 h2;simp only[Bool.and_eq_true,decide_eq_true_eq,List.all_eq_true,List.mem_range]at h1 h2;have e1:=RA.out.1;have e2:=RB.out.1;exact⟨fun i hi=>by have:=(h1.2.2 i (by omega)).1;omega,fun i hi=>by have:=(h2.2.2 i (by omega)).1;omega⟩)
 have GA:=ah (show∀u∈ua,u.op.bk.ru/\u.op.w<18446744073709551616 from fun u hu=>by
  obtain⟨i,hi,rfl⟩:=List.mem_iff_getElem.1 hu;have h:=(OA.out i (by have:=LN.out.1;omega)).Lj;rw[av,aD hi]at h;exact⟨h.1.1,h.2.1⟩)
 clear lk5 l2 l3 l4 l5;go_wp2;go_loopw [11] (fun s11 wr=>∃(i:Nat)(x':Eg)(sl':List (Option Fw)),i<=na/\s11=.int .i i/\YF w5 wr q ⟨k,c,vs⟩ (Sq ⟨k,c,vs⟩ xV (ua.take i)) x' q2 g sl') (fun s11 _=>na-(intOf s11).toNat)
 case atStart=>exact⟨0,x,sl,by omega,rfl,U6.out⟩
 case round=>
  obtain⟨i,x',sl',wW,rfl,hu⟩:=hrel;have HU:=ah hu;have ZR:=ah (Z5.out.go (HU.out.dF));clear hu;by_cases zi:i<na
  ·have Cc:(i:Int)<na:=by omega
   have aKo:i<60:=by have:=VN.out;have:=RA.out.1;omega
   obtain⟨b,o,hA,Jp,hh,uh⟩:=iO.fE At.ak pU (RA.out.go ZR.out.dF) zi;have HI:=ah (Yw (K8 k HK3.out) (ua.take i) (fun u hu=>GA.out u (List.mem_of_mem_take hu)));have CS:=ah (aqz HU.out HI.out (by have:=VN.out;have:=LN.out;have:=RA.out.1;simp;omega) (la.getD i pU) (ua.getD i ais) (((OA.out i zi).r (FE.out.1 i zi)).go ZR.out.dF) (OA.out i zi).Lj.1.1 (OA.out i zi).Lj.2.1);unfold aD9 at CS;obtain⟨a,ha⟩:∃a,la.getD i pU=a:=⟨_,rfl⟩
   rw[ha]at uh CS;rw[hA];go_wp2_with (go_at_call 25;(with_reducible refine CS.out.mono ?_);rintro r w7 ⟨oc,x7,sl7,rfl,ho,hu,hf⟩;have U7:=ah hu;clear ho hu hf);go_roundw
   case rel=>exact⟨i+1,x7,sl7,by omega,by go_num,by have:=U7.out;rw[<-abj (by have:=LN.out.1;omega)]at this;exact this⟩
   case measure=>simp[intOf]<;>omega
  ·obtain rfl:i=na:=by omega
   have zC:¬((i:Nat):Int)<i:=by omega
   have HI:=ah (Yw (K8 k HK3.out) (ua.take i) (fun u hu=>GA.out u (List.mem_of_mem_take hu)));have HM:=ah (show(0:Int)+(ua.take i).n<=100 by have:=VN.out;have:=RA.out.1;have:=LN.out.1;simp;omega);generalize(0:Int)+(ua.take i).n=M at HI HM;generalize Sq ⟨k,c,vs⟩ xV (ua.take i)=sA at HI HU;have UD:=ah (HU.out.go (gY wr));have ZD:=ah (Z5.out.go UD.out.dF);have KS:=ah (fun(w':au) (h1:dL w' W.h.z (iU k)) (h2:dL w' (W.h.z+1) c.aA)=>show w'.rangeAt W.h.z 0 (k.toList.map bv)/\(yt 29 (.p (some ⟨W.h.z+1,0,none⟩))).run aj w'=.ok (.agg c.aA) w' from⟨aaS h1,Qo.mO h2 (Cn.ak _)⟩);have CT:=ah (D6 UD.out.r HI.out);have CR:=ah (fun(X:Sh) (w:au) (hb:aN W.h.z W w) (hS:StR w w.h.z X sA)=>show aR aj 19 #[.agg (k.toList.map bv).toArray,.agg c.aA,.agg X.aA] w (Kc w k c vs sA)from Mq k c vs X sA w (V0.out.go hb) LN.out.2.2.2.2.1 N5.out hS (HI.out.right (by have:=HM.out;omega)));have hU:=Tryz.underlying22;have hI:(aj.info? 22).map (·.size)=some (k.toList.map bv).n:=by rw[List.length_map,Vector.length_toList];kernel_rfl
   unfold aqf at CT;unfold Kc at CR;clear zi zC wW;go_upto_region 10 with fail
   obtain⟨y1,y2⟩:=KS.out _ ZR.out.b1 ZR.out.b0;go_region_held_law (fun w'=>w'.rangeAt W.h.z 0 (k.toList.map bv)/\(yt 29 (.p (some ⟨W.h.z+1,0,none⟩))).run aj w'=.ok (.agg c.aA) w')
    (first|exact KS.out _ ZD.out.b1 ZD.out.b0|exact KS.out _ Z8.out.b1 Z8.out.b0|exact KS.out _ Z9.out.b1 Z9.out.b0|go_keep)
    (first
    | (go_at_call 20;(with_reducible refine CT.out.mono ?_);rintro r w8 ⟨X,rfl,ho,hb⟩;have U8:=ah (UD.out.go hb);have Z8:=ah (Z5.out.go U8.out.dF);have S8:=ah (ho.r HI.out);clear ho hb)
    | (go_at_call 19;(with_reducible refine(CR.out _ _ Z8.out.dF S8.out).mono ?_);rintro r w9 ⟨q',y,r2,g2,sm,rfl,hE,hb,hq,hr⟩;have Z9:=ah (Z8.out.go hb);have D9:=ah (Duo.start U8.out hb hE hq hr);clear hE hb hq hr))
   clear CT CR KS y1 y2 hU hI;have GB:=ah (show∀u∈ub,u.op.bk.ru/\u.op.w<18446744073709551616 from fun u hu=>by
    obtain⟨i,hi,rfl⟩:=List.mem_iff_getElem.1 hu;have h:=(OB.out i (by have:=LN.out.2.1;omega)).Lj;rw[av,aD hi]at h;exact⟨h.1.1,h.2.1⟩)
   go_wp2;go_loopw [14] (fun s14 wt=>∃(j:Nat)(xx:Eg)(sl2:List (Option Fw))(yy:Eg) (sm2:List (Option Fw)),j<=nb/\s14=.int .i j/\Duo w5 wt q ⟨k,c,vs⟩ (Sq ⟨k,c,vs⟩ sA (ub.take j)) xx q2 g sl2 q' (Sq ⟨k,c,vs⟩ sA (ub.take j)) yy r2 g2 sm2) (fun s14 _=>nb-(intOf s14).toNat)
   case atStart=>exact⟨0,_,_,_,_,by omega,rfl,D9.out⟩
   case round=>
    obtain⟨j,xx,sl2,yy,sm2,hjn,rfl,hd⟩:=hrel;have HD:=ah hd;clear hd;have HJ:=ah (Yw HI.out (ub.take j) (fun u hu=>GB.out u (List.mem_of_mem_take hu)));have HN:=ah (show M+(ub.take j).n<=200 by have:=VN.out;have:=RB.out.1;have:=LN.out.2.1;have:=HM.out;simp;omega);generalize M+((ub.take j).n:Int)=MJ at HJ HN;by_cases hjt:j<nb
    ·have ag':(j:Int)<nb:=by omega
     have aS':j<60:=by have:=VN.out;have:=RB.out.1;omega
     have RT:=ah (abj (e:=⟨k,c,vs⟩) (s:=sA) (us:=ub) (k:=j) (by have:=LN.out.2.1;omega));have OJ:=ah ((OB.out j hjt).r (FE.out.2 j hjt));have OG:=ah (OB.out j hjt).Lj;obtain⟨a,ha⟩:∃a,lb.getD j pU=a:=⟨_,rfl⟩
     obtain⟨u,hu⟩:∃u,ub.getD j ais=u:=⟨_,rfl⟩
     rw[ha]at OJ;rw[hu]at OJ OG RT;obtain⟨b,o,hA,Jp,hh,uh⟩:=iO.fE At.ak pU RB.out hjt;have KB:=ah (fun(w':au) (hb:aN W.h.z W w')=>show(yt 66 (.p (some ⟨b,o+j*34,none⟩))).run aj w'=.ok (.agg a.aA) w' by
      obtain⟨b2,o2,hA2,_,h3,h4⟩:=iO.fE At.ak pU (RB.out.go hb) hjt;rw[hA]at hA2;injection hA2 with hA2
      injection hA2 with e1 e2
      subst e1;subst e2;rw[aDU _ _ _ h3,h4,ha])
     generalize Sq ⟨k,c,vs⟩ sA (ub.take j)=sB at HJ HD RT;have DD:=ah (HD.out.go (gY _));have ZT:=ah (Z5.out.go DD.out.a.dF);have CS:=ah (fun(w:au) (x1:Eg) (sl1:List (Option Fw)) (hb:aN W.h.z W w) (D:Duo w5 w q ⟨k,c,vs⟩ sB x1 q2 g sl1 q' sB yy r2 g2 sm2)=>afS D HJ.out (by have:=HN.out;omega) a u (OJ.out.go hb) OG.out.1.1 OG.out.2.1);have CS2:=ah (fun(w:au) (x1:Eg) (sl1:List (Option Fw)) (hb:aN W.h.z W w) (D:Duo w5 w q' ⟨k,c,vs⟩ sB yy r2 g2 sm2 q (vW ⟨k,c,vs⟩ sB u).1 x1 q2 g sl1)=>afS D HJ.out (by have:=HN.out;omega) a u (OJ.out.go hb) OG.out.1.1 OG.out.2.1);unfold aD8 at CS CS2;have CX:=ah (fun(w:au) (o1 o2:Oc) (h1:OcR w o1 (vW ⟨k,c,vs⟩ sB u).2) (h2:OcR w o2 (vW ⟨k,c,vs⟩ sB u).2)=>ait o1 o2 _ _ w h1 h2 true (by simp));have y3:=KB.out _ (Z5.out.go HD.out.a.dF).dF;clear hh uh Jp ha hu;rw[hA];go_upto_region 16 with fail
     go_region_held_law (fun w'=>(yt 66 (.p (some ⟨b,o+j*34,none⟩))).run aj w'=.ok (.agg a.aA) w')
      (first|exact KB.out _ ZT.out.dF|exact KB.out _ Z11.out.dF|exact KB.out _ Z12.out.dF|exact KB.out _ Z13.out.dF|go_keep)
      (first
      | (go_at_call 25;(with_reducible refine(CS.out _ _ _ ZT.out.dF DD.out).mono ?_);rintro r w11 ⟨o1,x1,sl1,rfl,ho,hd,hf⟩;have O1:=ah ho;have D11:=ah hd.swap;have Z11:=ah (Z5.out.go hd.a.dF);clear ho hd hf)
      | (go_at_call 25;(with_reducible refine(CS2.out _ _ _ Z11.out.dF D11.out).mono ?_);rintro r w12 ⟨o2,y1,sm1,rfl,ho,hd,hf⟩;have HL:=DD.out.b.lt;have O2:=ah (OuR.rd ho);have O3:=ah (OuR.rd (OuR.keep O1.out hf (fun b hb=>by simp at hb;omega)));have D12:=ah hd.swap;have Z12:=ah (Z5.out.go hd.a.dF);clear ho hd hf HL)
      | (go_at_call 24;(with_reducible refine(CX.out _ _ _ O3.out O2.out).mono ?_);rintro r w13 ⟨rfl,hb⟩;have D13:=ah (D12.out.go hb);have Z13:=ah (Z12.out.go hb);clear hb))
     go_wp2;go_roundw
     case rel=>exact⟨j+1,_,_,_,_,by omega,by go_num,by have:=D13.out;rw[<-RT.out]at this;exact this⟩
     case measure=>simp[intOf]<;>omega
    ·obtain rfl:j=nb:=by omega
     have zC:¬((j:Nat):Int)<j:=by omega
     generalize Sq ⟨k,c,vs⟩ sA (ub.take j)=sE at HJ HD;have CT1:=ah (D6 HD.out.a.r HJ.out);unfold aqf at CT1;go_wp2_with (first
      | (go_at_call 20;(with_reducible refine CT1.out.mono ?_);rintro r w14 ⟨X1,rfl,ho,hb⟩;have D14:=ah (HD.out.go hb);have S14:=ah (ho.r HJ.out);have CT2:=ah (D6 D14.out.b.r HJ.out);unfold aqf at CT2;clear ho hb)
      | (go_at_call 20;(with_reducible refine CT2.out.mono ?_);rintro r w15 ⟨X2,rfl,ho,hb⟩;have D15:=ah (D14.out.go hb);have S15:=ah (S14.out.go hb);have T15:=ah (ho.r HJ.out);clear ho hb)
      | (go_at_call 17;(with_reducible refine(W9 _ _ sE sE _ S15.out T15.out true (Tm _)).mono ?_);rintro r w16 ⟨rfl,hb⟩;have D16:=ah (D15.out.go hb);clear hb))
     go_ret;exact⟨rfl,(Z5.out.go D16.out.a.dF).dF⟩
end Go.Proofs.YtkjojjopamaoiaaGreat
