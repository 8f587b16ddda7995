/- Parts. -/
import Derived.Test.YtkjojjopamaoiaaGreatPk6
import Derived.Lib.SlBytesConst
set_option linter.all false
set_option maxRecDepth 100000
set_option maxHeartbeats 8000000
open Array renaming getElem?_extract->cu,setIfInBounds_append->aM,getElem?_append->aD,toList_inj->GD,mapM->iB,getElem?_toList->dD,extract_append->bW,size->Array.j,toList->Array.a,getD->Array.b,setIfInBounds->Array.c
open Bool renaming eq_iff_iff->dA,not_false->tF,not_true->Al,and_eq_true->bf,not_eq_true'->nY,and_true->Fz,true_and->Am,false_and->Dx
open ByteArray renaming size->ByteArray.j,toList->ByteArray.a
open Go renaming Value->aB,World->ak,Calls->aQ,wpQuiet_nil->gK,TypeId->bM,Addr->aS,Ending->lq,bodyPost_ret->aN,wpAnyH_take->oZ
open Go.Act renaming put->lI
open Go.Addr renaming add->rb,add_mid->iC
open Go.BoundsCode renaming toNat->Go.BoundsCode.e
open Go.Calls renaming mono->Go.Calls.g
open Go.DataW renaming trod->lV,trod_struct->uO,trod_bool->Ie,agg->Go.DataW.d
open Go.Ending renaming returned->Go.Ending.a
open Go.Field renaming offset->Go.Field.Z
open Go.FloatKind renaming f64->jU
open Go.Instr renaming buildSlice->bI,storeAt->eF,build->fI,slice->Go.Instr.a
open Go.IntKind renaming u8->aX,i64->bU,i64->Go.IntKind.a,u8->Go.IntKind.b
open Go.Lib renaming hid->ab
open Go.Lit renaming bool->Go.Lit.e
open Go.Obj renaming cells->Go.Obj.D
open Go.Op renaming slice->Go.Op.a
open Go.Oper renaming dst->Go.Oper.Y
open Go.Operand renaming tmp->Go.Operand.a
open Go.Proofs.Tryz renaming prog->ah,underlying37->rY,underlying35->Fj,underlying22->nX,underlying98->rZ,underlying29->mW,underlying56->dx,underlying5->lC,underlying66->lG,underlying27->eZ,underlying64->vC,underlying62->nW
open Go.RowKit renaming Below->aL
open Go.RowKit.Below renaming refl->aH,size->Go.RowKit.Below.j,mono->Go.RowKit.Below.g
open Go.RowKit.Hid renaming out->Go.RowKit.Hid.i
open Go.Sem renaming run->Go.Sem.I
open Go.Shut renaming out->Go.Shut.i
open Go.TypeDesc renaming slice->Go.TypeDesc.a,int->Go.TypeDesc.b,pointer->Go.TypeDesc.c,bool->Go.TypeDesc.e,string->Go.TypeDesc.g
open Go.TypeInfo renaming size->Go.TypeInfo.j
open Go.Value renaming int->aI,cells->cO,okWide->Ib,ownBlock->jV,oneCell'->cB,string->ig,bool->bL,float->vO,cells->Go.Value.D,slice->Go.Value.a,int->Go.Value.b,pointer->Go.Value.c,agg->Go.Value.d,tuple->Go.Value.J,bool->Go.Value.e,string->Go.Value.g
open Go.World renaming heap->Go.World.a,cell?->Go.World.b,setCell->Go.World.F,ownsRow->Go.World.c,there->Go.World.O
open Int renaming toNat_of_nonneg->kH,toNat->Int.e
open List renaming mem_map->iQ,any_eq_true->qR,range->dX,all_eq_true->fM,mem_range->dU,getElem?_eq_none->aT,getElem?_toArray->eB,length_map->bQ,mem_singleton->fD,getD_eq_getElem?_getD->au,setIfInBounds_toArray->bH,set_cons_zero->bP,set_cons_succ->bG,eq_nil_of_length_eq_zero->bE,map_cons->kL,drop_of_length_le->iR,getElem?_eq_getElem->aC,getElem_mem->dR,length_append->aR,length_set->aV,mem_cons->bB,mem_iff_getElem->jv,length->List.a,getD->List.b,toArray->List.c,take->List.d,drop->List.f,flatMap->List.h
open Nat renaming zero_add->bl,add_zero->nD,le_refl->av,lt_or_ge->aZ,le_of_eq->aW,lt_of_lt_of_le->eO,zero_le->iX,le_trans->aO,below->Nat.S
open Option renaming toList->Option.a,getD->Option.b
open Or renaming inl->Ck,inl->Or.a,inr->Or.b
open UInt8 renaming ofNat->aJ,toNat->UInt8.e
open Vector renaming length_toList->lT,replicate->bF,ofFn->D7,toList->Vector.a
namespace Go.Proofs.YtkjojjopamaoiaaGreat
open Go.RowKit
theorem Bx.XP{L:List (Nat×Array aB)}{W0 W W':ak}{M:Nat}(h:Bx L W0 W)(hg:W.grownBy W' (some M))(hM:W0.a.j<=M)(hL:∀p∈L,p.1≠M):Bx L W0 W':=
 ⟨tX h.1 hg hM h.1.j,fun p hp=>⟨(h.2 p hp).1,(h.2 p hp).2.grown hg (fun e=>hL p hp (by injection e))⟩⟩
def D6(l:List Fw)(k:Nat):List Tu:=((l.d k).map (·.key)).reverse
theorem aeI{l:List Fw}{k:Nat}(hk:k<l.a):(l.b k jq).key::D6 l k=D6 l (k+1):=by
 unfold D6;rw[List.take_succ_eq_append_getElem hk,List.map_append,List.reverse_append,qP hk];rfl
theorem ag1(l:List Fw)(k:Nat):decide ((l.b k jq).key∈D6 l k)=Zv l k:=by
 unfold D6 Zv;rw[dA];simp only[List.mem_reverse,iQ,decide_eq_true_eq,qR,qF]
theorem Qm{W:ak}{b:Nat}{x:Fw}(h:dJ W b x.ay):(tL (.c (some ⟨b,0,none⟩))).I ah W=.ok (.d x.key.ay) W:=by
 have hs:dZ x.ay=41:=Fw.G x;rw[JX W b 0 (of_eq_true (h.K.2.2.1 0 37 (by omega))),h.K.2.2.2 0 37 (by omega),bl,Fw.Dl]
theorem Jt(x:Cn)(vs:List Vp)(X:Sh)(s:pG)(w:ak)(hV:gX Vp.ay 20 w w.a.j x.qG x.iI vs)(hvc:x.iI<=x.qH)(hvn:x.iI<=100000)(hS:StR w w.a.j X s)(hbl:s.qU.a<=100000)(hhl:s.G.a<=100000)(hfl:s.h.a<=100000)(J:Bool)(hJ:zm x vs s=J):
 aQ ah 15 #[.d x.ay,.d X.ay] w (gM w (.e J)):=by
 obtain⟨vv,⟨bA,bn,bc⟩,⟨gA,gn,gc⟩,⟨fA,fn,fc⟩,tk,nn,ct⟩:=X;obtain rfl:vv=s.Y:=hS.Y;obtain rfl:tk=s.gF:=hS.gF;obtain rfl:nn=s.no:=hS.no;obtain rfl:ct=s.lW:=hS.lW;have hbn:s.qU.a=bn:=hS.b.1;have hgn:s.G.a=gn:=hS.h.1;have hfn:s.h.a=fn:=hS.f.1;have HBN:=ab hbn;have HGN:=ab hgn;have HFN:=ab hfn;have HS:=ab hS;have HLS:=ab (show bn<=100000/\gn<=100000/\fn<=100000 by omega);obtain⟨K1,hK1⟩:∃K,yh x vs=K:=⟨_,rfl⟩
 obtain⟨K2,hK2⟩:∃K,xW s.Y s.qU=K:=⟨_,rfl⟩
 obtain⟨K3,hK3⟩:∃K,decide (gn=bn)=K:=⟨_,rfl⟩
 obtain⟨K4,hK4⟩:∃K,decide ((fn:Int)<=x.Y)=K:=⟨_,rfl⟩
 obtain⟨KN,hKN⟩:∃K,ad8 s=K:=⟨_,rfl⟩
 obtain⟨KH,hKH⟩:∃K,(dX gn).all (Wz x s)=K:=⟨_,rfl⟩
 obtain⟨KF,hKF⟩:∃K,(dX fn).all (Sk s)=K:=⟨_,rfl⟩
 have HJ:=ab (show J=((K1&&(K2&&(K3&&K4)))&&(KN&&(KH&&KF)))by rw[<-hJ,<-hK1,<-hK2,<-hK3,<-hK4,<-hKN,<-hKH,<-hKF,<-hbn,<-hgn,<-hfn];rfl);have HKN:=ab hKN;have HKH:=ab hKH;have HKF:=ab hKF;have q3:((gn:Int) != (bn:Int)) = !K3:=by rw[<-hK3];by_cases h:gn=bn<;>simp[h];omega
 have q4:decide (x.Y<(fn:Int)) = !K4:=by rw[<-hK4];by_cases h:(fn:Int)<=x.Y<;>simp[h]<;>omega
 have HK3:=ab hK3;clear hJ hK4 hKN hKH hKF hbn hgn hfn hbl hhl hfl hK3;have h0:=((Bx.start w).new x.ay 29).new (Sh.mk s.Y ⟨bA,bn,bc⟩ ⟨gA,gn,gc⟩ ⟨fA,fn,fc⟩ s.gF s.no s.lW).ay 37;rw[show(w.alloc (.D x.ay 29)).a.j=w.a.j+1 by simp]at h0;have Z0:=ab h0;clear h0;obtain⟨XA,hXA⟩:∃A,A=(Sh.mk s.Y ⟨bA,bn,bc⟩ ⟨gA,gn,gc⟩ ⟨fA,fn,fc⟩ s.gF s.no s.lW).ay:=⟨_,rfl⟩
 have XF:=ab (show XA.extract 0 2 = #[.b .a s.Y,.a bA bn bc]/\XA[0]? = some (.b .a s.Y)/\XA[1]? = some (.a bA bn bc)/\XA[2]? = some (.a gA gn gc)/\XA[3]? = some (.a fA fn fc)/\XA[4]? = some (.b .a s.gF)/\XA[5]? = some (.b .a s.no)/\∀j,j<11->XA[6+j]? = some (.b .a (s.lW.a.b j 0))by
  rw[hXA];exact⟨Sh.AL _,Sh.pW _,Sh.GL _,Sh.Qr _,Sh.YG _,Sh.ahI _,Sh.ahJ _,fun j hj=>Sh.ahH _ j hj⟩)
 have CC:=ab (fun w1 (hb:aL w.a.j w w1)=>Yl x vs w1 (hV.go hb) hvc hvn);have CP:=ab (fun w1 (hb:aL w.a.j w w1)=>afU s.qU HS.i.rF s.Y bA bn bc w1 (HS.i.b.go hb) (by have:=HLS.i;omega) K2 hK2);rw[hK1]at CC;have XS:=ab (show XA.j=17 by rw[hXA];exact Sh.G _);clear hK1 hK2 hV hS;go_enter Tryz.func15,Tryz.ntmps15;go_upto_region 1 with fail
 generalize(w.alloc (.D x.ay 29)).alloc (.D (Sh.mk s.Y ⟨bA,bn,bc⟩ ⟨gA,gn,gc⟩ ⟨fA,fn,fc⟩ s.gF s.no s.lW).ay 37)=w0 at Z0 ⊢;rw[<-hXA]at Z0;clear hXA;obtain⟨x1,x2,x3,x4⟩:=Z0.i.b1.K;go_wp2_with fail
 (with_reducible refine(CC.i _ Z0.i.R).g ?_)
 rintro e w1 ⟨rfl,hb1⟩;have Z1:=ab (Z0.i.go hb1);clear hb1 x1 x2 x3 x4;cases K1
 ·skip
  go_wp2;go_ret;exact⟨by rw[HJ.i];rfl,Z1.i.R⟩
 obtain⟨e0,e1,e2,e3,e4,e5,e6,e7⟩:=XF.i;obtain⟨y1,y2,y3,y4⟩:=Z1.i.X.K;have hys:dZ XA=17:=by have:=Z1.i.X;unfold dZ;exact XS.i
 go_wp2_with fail
 (with_reducible refine(CP.i _ Z1.i.R).g ?_)
 rintro e w2 ⟨rfl,hb2⟩;have Z2:=ab (Z1.i.go hb2);clear hb2 y1 y2 y3 y4;cases K2
 ·skip
  go_wp2;go_ret;exact⟨by rw[HJ.i];rfl,Z2.i.R⟩
 obtain⟨x1,x2,x3,x4⟩:=Z2.i.b1.K;obtain⟨y1,y2,y3,y4⟩:=Z2.i.X.K;have z2:=Cn.Tm x;cases K3
 ·simp only[tF]at q3
  go_wp2;go_ret;exact⟨by rw[HJ.i];rfl,Z2.i.R⟩
 cases K4
 ·simp only[tF]at q4
  go_wp2;go_ret;exact⟨by rw[HJ.i];rfl,Z2.i.R⟩
 simp only[Al]at q3 q4;obtain⟨a1,ha1⟩:∃a,decide (s.gF<0)=a:=⟨_,rfl⟩
 obtain⟨a2,ha2⟩:∃a,decide (1099511627776<s.gF)=a:=⟨_,rfl⟩
 obtain⟨a3,ha3⟩:∃a,decide (s.no<0)=a:=⟨_,rfl⟩
 obtain⟨a4,ha4⟩:∃a,decide (1152921504606846976<s.no)=a:=⟨_,rfl⟩
 obtain⟨a5,ha5⟩:∃a,s.lW.a.any zY=a:=⟨_,rfl⟩
 have ag2:=ab (show KN=(!a1&&(!a2&&(!a3&&(!a4 && !a5))))by
  rw[<-HKN.i,<-ha1,<-ha2,<-ha3,<-ha4,<-ha5,aqx];unfold ad8 XL;rw[dA];simp only[bf,decide_eq_true_eq,nY,decide_eq_false_iff_not,Bool.not_not];constructor
  ·rintro⟨h1,h2,h3⟩;exact⟨by omega,by omega,by omega,by omega,h3⟩
  ·rintro⟨h1,h2,h3,h4,h5⟩;exact⟨by omega,by omega,h5⟩)
 have CA:=ab (auQ (some ⟨w.a.j+1,6,none⟩) 11 11 w2.a.j w2 s.lW.a (by omega) (by have:=Yc.box (l:=s.lW.a) (o:=6) Z2.i.X (fun j hj=>e7 j (by simpa using hj));rw[lT]at this;exact this));rw[ha5]at CA;clear ha5;cases a1;rotate_left
 ·skip
  go_wp2;go_ret;exact⟨by rw[HJ.i,ag2.i];rfl,Z2.i.R⟩
 cases a2;rotate_left
 ·skip
  go_wp2;go_ret;exact⟨by rw[HJ.i,ag2.i];rfl,Z2.i.R⟩
 cases a3;rotate_left
 ·skip
  go_wp2;go_ret;exact⟨by rw[HJ.i,ag2.i];rfl,Z2.i.R⟩
 cases a4;rotate_left
 ·skip
  go_wp2;go_ret;exact⟨by rw[HJ.i,ag2.i];rfl,Z2.i.R⟩
 go_wp2_with fail
 (with_reducible refine CA.i.g ?_)
 rintro e w3 ⟨rfl,rfl⟩;cases a5;rotate_left
 ·skip
  go_wp2;go_ret;exact⟨by rw[HJ.i,ag2.i];rfl,Z2.i.R⟩
 have HJ:=ab (show J=(KH&&KF)by rw[HJ.i,ag2.i];simp);have hgb:=of_decide_eq_true HK3.i;subst hgb;clear ha1 ha2 ha3 ha4 q3 q4 ag2 HKN CA HK3;go_wp2;clear x1 x2 x3 x4 y1 y2 y3 y4 z2;go_loopw [64] (fun s64 wr=>∃i:Nat,i<=gn/\s64=.b .a i/\Bx [(w.a.j+1,XA),(w.a.j,x.ay)] w wr/\∀k,k<i->Wz x s k=true) (fun s64 _=>gn-(intOf s64).e)
 case atStart=>exact⟨0,by omega,rfl,Z2.i,fun k hk=>by omega⟩
 case round=>
  obtain⟨i,hin,rfl,hz,hall⟩:=hrel;have ZR:=ab hz;have HA:=ab hall;clear hz hall;by_cases hlt:i<gn
  ·have hlt2:(i:Int)<gn:=by omega
   have hgs:gn<=100000:=HLS.i.2.1;obtain⟨y,hy⟩:=sH (s.G.b i kY);obtain⟨b,o,rfl,_,hh,hcl,_,_⟩:=gX.hl (show RdH wr wr.a.j gA gn s.G from HS.i.h.go ZR.i.R) hlt;rw[hy]at hcl;have ZY:=ab (ZR.i.new y.ay 100);go_upto_region 8 with fail
   generalize wr.alloc (.D y.ay 100)=w5 at ZY ⊢;generalize wr.a.j=py at ZY ⊢;clear hh hcl;obtain⟨b2,o2,rfl,_,hc2⟩:=gX.cell Bk.G jk (show gX Bk.ay 27 w5 w5.a.j bA gn s.qU from HS.i.b.go ZY.i.R) hlt;have n0:=(hc2 0 (by omega)).trans (Bk.pW _);rw[nD]at n0;clear hc2;obtain⟨nm,hnm⟩:∃n,(s.qU.b i jk).E=n:=⟨_,rfl⟩
   rw[hnm]at n0;obtain⟨x1,x2,x3,x4⟩:=ZY.i.b2.K;obtain⟨y1,y2,y3,y4⟩:=ZY.i.b1.K;obtain⟨u1,u2,u3,u4⟩:=ZY.i.X.K;have d0:=Hl.pW y;have d1:=Hl.GL y;have d2:=Hl.Qr y;obtain⟨t1,ht1⟩:∃a,(y.E==nm)=a:=⟨_,rfl⟩
   obtain⟨t2,ht2⟩:∃a,decide (y.I<0)=a:=⟨_,rfl⟩
   have T1:(y.E != nm) = !t1:=by rw[<-ht1];rfl
   have T2:decide (y.E=nm)=t1:=by rw[<-ht1];rw[dA];simp
   have T3:decide (y.E≠nm) = !t1:=by rw[<-ht1];rw[dA];simp
   have T4:(!decide (y.E=nm)) = !t1:=by rw[T2]
   obtain⟨t3,ht3⟩:∃a,decide ((if y.down then x.ko else x.fall)<=y.I)=a:=⟨_,rfl⟩
   have HI:=ab (show Wz x s i=(t1&&(!t2 && !t3))by
    unfold Wz aqw;rw[hy,hnm,ht1,<-ht2,<-ht3];congr 1;congr 1<;>(rw[dA];simp))
   have c1:=Cn.Tt x;have c2:=Cn.Tq x;clear hy hnm;cases hd:y.down<;>rw[hd]at d1 ht3
   all_goals
    simp only[Bool.false_eq_true,if_false,if_true]at ht3;go_upto_region 11 with fail
    have HF:=ab (show(t1&&(!t2 && !t3))=false->KH=false from fun h=>by rw[<-HKH.i];exact lQ _ i _ hlt (by rw[HI.i,h]));cases t1
    ·simp only[Al,tF]at T1 T3 T4
     go_quiet (fail);go_wp2;go_ret;exact⟨by rw[HJ.i,HF.i rfl];rfl,ZY.i.R.trans (fO (aH _ _) _)⟩
    simp only[Al,tF]at T1 T3 T4;cases t2;rotate_left
    ·go_quiet (fail)
     go_wp2;go_ret;exact⟨by rw[HJ.i,HF.i rfl];rfl,ZY.i.R.trans (fO (aH _ _) _)⟩
    cases t3;rotate_left
    ·go_quiet (fail)
     go_wp2;go_ret;exact⟨by rw[HJ.i,HF.i rfl];rfl,ZY.i.R.trans (fO (aH _ _) _)⟩
    go_quiet (fail);go_wp2;go_roundw
    case rel=>exact⟨i+1,by omega,by go_num,ZY.i.VH.drewN _,fun k hk=>by
     by_cases hki:k=i
     ·rw[hki];exact HI.i
     ·exact HA.i k (by omega)⟩
    case measure=>simp[intOf]<;>omega
  ·obtain rfl:i=gn:=by omega
   have HF:=ab (show KH=true by rw[<-HKH.i,fM];exact fun k hk=>HA.i k (dU.1 hk));have HJ:=ab (show J=KF by rw[HJ.i,HF.i];rfl);have hnl:¬(i:Int)<i:=by omega
   clear hlt HA HF HKH;obtain⟨y1,y2,y3,y4⟩:=ZR.i.X.K;have hmm:=fun n w=>GQ (P:=ah) Tryz.underlying114 n w
   go_upto_region 15 with fail
   have M0:=ab (Kz.new wr);have ZM:=ab (ZR.i.alloc (.map #[] 0));have HM:=ab (show w.a.j<=wr.a.j/\∀p∈[(w.a.j+1,XA),(w.a.j,x.ay)],p.1≠wr.a.j from⟨ZR.i.R.j,fun p hp=>by have:=(ZR.i.2 p hp).2.lt;omega⟩);generalize wr.alloc (.map #[] 0)=w6 at M0 ZM ⊢;generalize wr.a.j=M at M0 HM ⊢;clear y1 y2 y3 y4 hmm;obtain⟨y1,y2,y3,y4⟩:=ZM.i.X.K;go_wp2;clear y1 y2 y3 y4;go_loopw [104] (fun avD wr=>∃k:Nat,k<=fn/\avD=.b .a k/\Bx [(w.a.j+1,XA),(w.a.j,x.ay)] w wr/\Kz wr M k (D6 s.h k)/\∀j,j<k->Sk s j=true) (fun avD _=>fn-(intOf avD).e)
   case atStart=>exact⟨0,by omega,rfl,ZM.i,M0.i,fun k hk=>by omega⟩
   case round=>
    obtain⟨k,hkn,rfl,hz,hm,hall⟩:=hrel;have ZR:=ab hz;have MR:=ab hm;have HA:=ab hall;clear hz hm hall;by_cases hkt:k<fn;rotate_left
    ·obtain rfl:k=fn:=by omega
     have HF:=ab (show KF=true by rw[<-HKF.i,fM];exact fun j hj=>HA.i j (dU.1 hj));have hnl:¬(k:Int)<k:=by omega
     go_wp2;go_ret;exact⟨by rw[HJ.i,HF.i];rfl,ZR.i.R⟩
    have hlt2:(k:Int)<fn:=by omega
    obtain⟨b,o,rfl,hbl,hh,hcl⟩:=gX.fw (show gX Fw.ay 41 wr wr.a.j fA fn s.h from HS.i.f.go ZR.i.R) hkt;obtain⟨y,hy⟩:=sH (s.h.b k jq);rw[hy]at hcl;have HYN:=ab (HS.i.ahK _ (Em jq s.h k (by rw[HFN.i];exact hkt)));rw[hy]at HYN;have ZY:=ab (ZR.i.new y.ay 86);have MY:=ab (MR.i.go ((aH _ _).alloc (av _) (.D y.ay 86)));go_upto_region 18 with fail
    generalize wr.alloc (.D y.ay 86)=w7 at ZY MY ⊢;generalize wr.a.j=py at ZY ⊢;clear hh hcl hbl;have hfs:fn<=100000:=HLS.i.2.2;obtain⟨c1,hc1⟩:∃c,zU y=c:=⟨_,rfl⟩
    obtain⟨c2,hc2⟩:∃c,decide (s.gF<y.seen)=c:=⟨_,rfl⟩
    obtain⟨c3,hc3⟩:∃c,decide (y.no<1)=c:=⟨_,rfl⟩
    obtain⟨c4,hc4⟩:∃c,decide (s.no<y.no)=c:=⟨_,rfl⟩
    obtain⟨c5,hc5⟩:∃c,decide (y.key∈D6 s.h k)=c:=⟨_,rfl⟩
    obtain⟨pv,hpv⟩:∃p,s.h.b (k-1) jq=p:=⟨_,rfl⟩
    have HI:=ab (show Sk s k=(c1&&(!c2&&(!c3&&(!c4&&(!c5&&(decide (k=0)||kS pv y))))))by
     unfold Sk;have hkk:=ag1 s.h k;rw[hy]at hkk ⊢;rw[<-hkk,hc5,hc1,hpv,<-hc2,<-hc3,<-hc4];have g1:decide (y.seen<=s.gF) = !decide (s.gF<y.seen):=by rw[dA];simp
     have g2:decide (1<=y.no) = !decide (y.no<1):=by rw[dA];simp
     have g3:decide (y.no<=s.no) = !decide (s.no<y.no):=by rw[dA];simp
     rw[g1,g2,g3])
    have FR:=ab (fun W=>KY y W HYN.i);rw[hc1]at FR;have HC1:=ab hc1;have HPV:=ab hpv;have HYY:=ab hy;have KEY:=ab (aeI (l:=s.h) (k:=k) (by rw[HFN.i];exact hkt));clear hy hc1 hpv;obtain⟨T,f,n0,E0,es,ew⟩:=vM (w7);have hT:Nonempty T:=⟨n0⟩
    have ES:=ab es;have EW:=ab ew;clear es ew;have l1:=fun m=>kK (ZY.i.go (ES.i m)).X
    have l3:∀m,(f m).b ⟨py,39,none⟩=some (.b .a y.seen):=fun m=>((ZY.i.go (ES.i m)).X.K.1 39).trans (Fw.aa3 y)
    have l4:∀m,(f m).b ⟨py,40,none⟩=some (.b .a y.no):=fun m=>((ZY.i.go (ES.i m)).X.K.1 40).trans (Fw.Vw y)
    have l5:∀m,(f m).b ⟨w.a.j+1,4,none⟩=some (.b .a s.gF):=fun m=>((ZY.i.go (ES.i m)).b1.K.1 4).trans XF.i.2.2.2.2.2.1
    have l6:∀m,(f m).b ⟨w.a.j+1,5,none⟩=some (.b .a s.no):=fun m=>((ZY.i.go (ES.i m)).b1.K.1 5).trans XF.i.2.2.2.2.2.2.1
    have l7:∀m,(f m).b ⟨w.a.j+1,3,none⟩=some (.a (some ⟨b,o,none⟩) fn fc):=fun m=>((ZY.i.go (ES.i m)).b1.K.1 3).trans XF.i.2.2.2.2.1
    have l8:∀m,(tL (.c (some ⟨py,0,none⟩))).I ah (f m)=.ok (.d y.key.ay) (f m):=fun m=>Qm (ZY.i.go (ES.i m)).X
    cases c1;rotate_left;have L9:=ab (fun W (h:Kz W M k (D6 s.h k))=>show(Instr.lookup 114 (.map (some M)) (.d y.key.ay) false).I ah W=.ok (.e c5) W by rw[akE h y.key (wT HC1.i),hc5]);have l9:=fun m=>L9.i (f m) (MY.i.go (ES.i m))
    clear hc5;cases c2;cases c3;cases c4;cases c5
    all_goals try(
     have HF:=ab (show KF=false by rw[<-HKF.i];exact lQ _ k _ hkt (by rw[HI.i];simp));refine oh f (by kernel_rfl) (by kernel_rfl) n0 E0 ?_
     repeat(go_big_quiet_step ((first|(go_at_call 48;(with_reducible refine(FR.i _).g ?_);rintro e w2 ⟨rfl,hb⟩;exact⟨rfl,EW.i _ ((ES.i _).trans (hb.g (ES.i _).j))⟩))))
     refine gK ?_;rintro _ ⟨m',rfl⟩;have HB:=ab (ES.i m');generalize f m'=wN at *;clear ES EW E0 hT n0;go_wp2;go_ret;exact⟨by rw[HJ.i,HF.i];rfl,(ZY.i.go HB.i).R⟩)
    have JJ:=ab (Ka HC1.i);by_cases hk0:k=0
    ·have t0:decide (0<(k:Int))=false:=by simp;omega
     have HI:=ab (show Sk s k=true by rw[HI.i];simp[hk0]);have HG:=ab (show Sk s k=true by exact HI.i);refine oh f (by kernel_rfl) (by kernel_rfl) n0 E0 ?_
     repeat(go_big_quiet_step ((first|(go_at_call 48;(with_reducible refine(FR.i _).g ?_);rintro e w2 ⟨rfl,hb⟩;exact⟨rfl,EW.i _ ((ES.i _).trans (hb.g (ES.i _).j))⟩))))
     refine gK ?_;rintro _ ⟨m',rfl⟩;have HB:=ab (ES.i m');generalize f m'=wN at *;clear ES EW E0 hT n0;clear l1 l3 l4 l5 l6 l7 l8 l9;have ZN:=ab (ZY.i.go HB.i);have MN:=ab (MY.i.go HB.i);have l8:=Qm ZN.i.X;have TK:=ab (wT HC1.i);have HK1:=ab (show k<=1000000 by omega);go_wp2_with (refine Q9 rfl (.a 152) (.a 154) (.const (.e true)) rfl M k (D6 s.h k) rfl MN.i HK1.i y.key TK.i rfl rfl ?_;intro w9 h1 h2;have M9:=ab h1;have Z9:=ab (ZN.i.VH.XP h2 HM.i.1 HM.i.2);clear h1 h2);go_roundw
     case rel=>exact⟨k+1,by omega,by go_num,Z9.i,by rw[<-KEY.i,HYY.i];exact M9.i,fun j hj=>by
      by_cases hjk:j=k
      ·rw[hjk];exact HG.i
      ·exact HA.i j (by omega)⟩
     case measure=>simp[intOf]<;>omega
    have t0:decide (0<(k:Int))=true:=by simp;omega
    have t00:decide (0<k)=true:=decide_eq_true (by omega);have hkp:0<k:=by omega
    have HOP:=ab (show zU pv=true by
     have:=HA.i (k-1) (by omega);unfold Sk at this;rw[HPV.i]at this;simp only[bf]at this;exact this.1)
    have HON:=ab (Ka HOP.i);have CO:=ab (fun W=>QW pv y HON.i.1 JJ.i.1 HON.i.2 JJ.i.2 W);obtain⟨j,hj⟩:∃j:Nat,j=k-1:=⟨_,rfl⟩
    have i1:(k:Int)-1=(j:Int):=by omega
    have i2:(j:Int)<fn:=by omega
    rw[<-hj]at HPV;have HJK:=ab (show j<fn by omega);clear hj;have la:∀m,(LA (.c (some ⟨b,o+j*41,none⟩))).I ah (f m)=.ok (.d pv.ay) (f m):=fun m=>by
     obtain⟨b',o',e,_,hh,hcl⟩:=gX.fw (show gX Fw.ay 41 (f m) (f m).a.j (some ⟨b,o,none⟩) fn s.h from HS.i.f.go (ZY.i.go (ES.i m)).R) HJK.i;injection e with e
     injection e with e1 e2
     subst e1 e2;rw[HPV.i]at hcl;rw[aa5 _ _ _ hh,hcl]
    obtain⟨c7,hc7⟩:∃c,kS pv y=c:=⟨_,rfl⟩
    rw[hc7]at CO HI;have HOL:=ab hc7;clear hc7;cases c7
    ·have hk9:=hk0
     have HF:=ab (show KF=false by rw[<-HKF.i];exact lQ _ k _ hkt (by rw[HI.i];simp[hk9]));refine oh f (by kernel_rfl) (by kernel_rfl) n0 E0 ?_
     repeat(go_big_quiet_step ((first|(go_at_call 48;(with_reducible refine(FR.i _).g ?_);rintro e w2 ⟨rfl,hb⟩;exact⟨rfl,EW.i _ ((ES.i _).trans (hb.g (ES.i _).j))⟩)|(go_at_call 49;(with_reducible refine(CO.i _).g ?_);rintro e w2 ⟨rfl,hb⟩;exact⟨rfl,EW.i _ ((ES.i _).trans (hb.g (ES.i _).j))⟩))))
     refine gK ?_;rintro _ ⟨m',rfl⟩;have HB:=ab (ES.i m');generalize f m'=wN at *;clear ES EW E0 hT n0;go_wp2;go_ret;exact⟨by rw[HJ.i,HF.i];rfl,(ZY.i.go HB.i).R⟩
    have HG:=ab (show Sk s k=true by rw[HI.i];simp[HOL.i]);refine oh f (by kernel_rfl) (by kernel_rfl) n0 E0 ?_
    repeat(go_big_quiet_step ((first|(go_at_call 48;(with_reducible refine(FR.i _).g ?_);rintro e w2 ⟨rfl,hb⟩;exact⟨rfl,EW.i _ ((ES.i _).trans (hb.g (ES.i _).j))⟩)|(go_at_call 49;(with_reducible refine(CO.i _).g ?_);rintro e w2 ⟨rfl,hb⟩;exact⟨rfl,EW.i _ ((ES.i _).trans (hb.g (ES.i _).j))⟩))))
    refine gK ?_;rintro _ ⟨m',rfl⟩;have HB:=ab (ES.i m');generalize f m'=wN at *;clear ES EW E0 hT n0;clear l1 l3 l4 l5 l6 l7 l8 l9;have ZN:=ab (ZY.i.go HB.i);have MN:=ab (MY.i.go HB.i);have l8:=Qm ZN.i.X;have TK:=ab (wT HC1.i);have HK1:=ab (show k<=1000000 by omega);go_wp2_with (refine Q9 rfl (.a 152) (.a 154) (.const (.e true)) rfl M k (D6 s.h k) rfl MN.i HK1.i y.key TK.i rfl rfl ?_;intro w9 h1 h2;have M9:=ab h1;have Z9:=ab (ZN.i.VH.XP h2 HM.i.1 HM.i.2);clear h1 h2);go_roundw
    case rel=>exact⟨k+1,by omega,by go_num,Z9.i,by rw[<-KEY.i,HYY.i];exact M9.i,fun j hj=>by
     by_cases hjk:j=k
     ·rw[hjk];exact HG.i
     ·exact HA.i j (by omega)⟩
    case measure=>simp[intOf]<;>omega
section
variable {W W':ak} {q:Nat} {e:En} {s:pG} {x:Eg} {q2 g:Nat} {sl:List (Option Fw)}
theorem Gw{B sz n c p:Nat}{T:bM}{A:Option aS}{xs:List aB}(h:W.c B T sz (.a A n c) n xs)(hf:jD [p] W W')(hp:p<B):W'.c B T sz (.a A n c) n xs:=AU h hf (fun k hk hm=>by simp at hm;subst hm;have:=h.lt _ hk;omega)
structure StO(B:Nat)(W:ak)(X:Sh)(s:pG):Prop where
 Y:X.Y=s.Y
 bn:s.qU.a=X.b.n
 b:W.c B 62 27 (.a X.b.A X.b.n X.b.c) X.b.n (s.qU.h fun y=>y.ay.a)
 hn:s.G.a=X.h.n
 h:W.c B 100 3 (.a X.h.A X.h.n X.h.c) X.h.n (s.G.h fun y=>y.ay.a)
 fn:s.h.a=X.f.n
 f:W.c B 86 41 (.a X.f.A X.f.n X.f.c) X.f.n (s.h.h fun y=>y.ay.a)
 gF:X.gF=s.gF
 no:X.no=s.no
 lW:X.lW=s.lW
def arl(W:ak)(s:pG)(r:lq)(W':ak):Prop:=∃X:Sh,r=.a (.d X.ay)/\StO W.a.j W' X s/\aL W.a.j W W'
theorem kSh:oO 37 17 I6.ay:=⟨⟨_,rY,rfl⟩,by kernel_rfl,by kernel_rfl,Sh.G _⟩
@[go_sem]theorem az4(W:ak)(lJ:Int)(A1:Option aS)(n1 c1:Nat)(A2:Option aS)(n2 c2:Nat)(A3:Option aS)(n3 c3:Nat)(t n:Int)(v:Vector Int 11):(atJ #[(0,.d (Pc.mk lJ A1 n1 c1).ay),(1,.a A2 n2 c2),(2,.a A3 n3 c3),(3,.b .a t),(4,.b .a n),(5,.d (v.a.map (aI .a)).c)]).I ah W=.ok (.d (Sh.mk lJ ⟨A1,n1,c1⟩ ⟨A2,n2,c2⟩ ⟨A3,n3,c3⟩ t n v).ay) W:=kSh.bd W _ _ _ _ rY (YW W _ rY) (by
 refine uW (Sh.G _) ?_ ?_
 ·simp[rO,cO,Pc.G]
 ·simp[qN,cO,Pc.ay,Sh.ay,shT,yH])
theorem Eg.akF{x:Eg}(h:dJ W q x.ay):W.rangeAt q 79 (x.lW.a.map (aI .a)):=by
 intro j v hj;have hj6:j<11:=by
  rcases aZ j 11 with h1|h1
  ·exact h1
  ·rw[aT (by simpa using h1)]at hj;cases hj
 have h2:(x.ay.extract 79 90)[j]? = (yH x.lW)[j]?:=by rw[Eg.anQ]
 rw[cu,if_pos (by rw[Eg.G];omega)]at h2;rw[h.K.1,h2];unfold yH;rw[eB];exact hj
theorem Ju{M:Int}(h:yM W q e s x q2 g sl)(hi:mP M e s):aQ ah 20 #[.c (some ⟨q,0,none⟩)] W (arl W s):=by
 have Z0:=ab ((Bx.start W).new I6.ay 37);have H:=ab h;have HI:=ab hi;have HN:=ab (show s.qU.a=x.pl.rN/\s.G.a=x.DZ from⟨h.b.h.1,h.b.hl.1⟩);have HF:=ab hi.few;have SZ:=ab (show W.a.j<(W.alloc (.D I6.ay 37)).a.j by simp);clear h hi;go_enter Tryz.func20,Tryz.ntmps20;go_upto_region 1 with fail
 generalize W.alloc (.D I6.ay 37)=w0 at Z0 SZ ⊢;have l1:=kPc.Ay (H.i.b.eg.go Z0.i.R) 70 (Eg.aif _) (by rw[Eg.G];omega);go_upto_region 2 with fail
 have Z1:=ab (Z0.i.new x.pl.ay 32);have SZ1:=ab (show w0.a.j<(w0.alloc (.D x.pl.ay 32)).a.j by simp);generalize w0.alloc (.D x.pl.ay 32)=w1 at Z1 SZ1 ⊢;have NP:=ab (show w0.a.j≠W.a.j by have:=SZ.i;omega);generalize w0.a.j=p at Z1 SZ SZ1 NP ⊢;clear l1;have f1:=(Z1.i.X.K.1 1).trans (Pc.anL x.pl);have CB:=ab (xL s.qU x.pl.rA x.pl.rC w1 (by have h1:=H.i.b.h.go Z1.i.R;rw[HN.i.1];exact h1) (by have:=HF.i;omega));unfold aaT at CB;rw[HN.i.1]at CB;go_upto_region 3 with(go_at_call 61;(with_reducible refine CB.i.g ?_);rintro r w2 ⟨A1,c1,rfl,ho,hb⟩;have g1:=(Z1.i.X.go hb).K.2.1 1;have f1:=((Z1.i.X.go hb).K.1 1).trans (Pc.anL x.pl);have Z2:=ab (Z1.i.go hb);have O1:=ab ho;have SZ2:=ab hb.j;clear ho hb)
 have Z3:=ab (Z2.i.set (fun r hr=>by simp at hr;subst hr;have:=SZ.i;simp;omega) 1 (.a A1 x.pl.rN c1));rw[Pc.aie]at Z3;have O3:=ab (AU O1.i ((jD.refl [p] w2).set ⟨p,1,none⟩ (.a A1 x.pl.rN c1) (.a (by simp))) (fun k hk hm=>by have:=jZ O1.i;simp at hm;subst hm;have:=O1.i.lt _ hk;have:=SZ1.i;omega));have SZ3:=ab (show w1.a.j<=(w2.F ⟨p,1,none⟩ (.a A1 x.pl.rN c1)).a.j by have:=SZ2.i;simp[World.setCell];exact this);generalize w2.F ⟨p,1,none⟩ (.a A1 x.pl.rN c1)=w3 at Z3 O3 SZ3 ⊢;clear f1 g1;have KS:=ab (fun(w':ak) (h0:dJ w' p ({x.pl with rA:=A1,rN:=x.pl.rN,rC:=c1}:Pc).ay) (h1:dJ w' q x.ay)=>show(xu 32 (.c (some ⟨p,0,none⟩))).I ah w'=.ok (.d (Pc.mk x.pl.Y A1 x.pl.rN c1).ay) w'/\w'.b ⟨q,72,none⟩=some (.a x.Ov x.DZ x.Sw)/\w'.b ⟨q,74,none⟩=some (.c (some ⟨q2,0,none⟩))/\w'.b ⟨q,77,none⟩=some (.b .a x.gF)/\w'.b ⟨q,78,none⟩=some (.b .a x.no)/\w'.rangeAt q 79 (x.lW.a.map (aI .a))from
  ⟨kPc.Ay h0 0 (Pc.all _) (by rw[Pc.G];omega),(h1.K.1 72).trans (Eg.aag _),by rw[h1.K.1 74,Eg.aah,H.i.b.fl];rfl,(h1.K.1 77).trans (Eg.TP _),(h1.K.1 78).trans (Eg.anP _),Eg.akF h1⟩)
 have CH:=ab (fun(w:ak) (hb:aL W.a.j W w)=>Lu s.G x.Ov x.DZ x.Sw w (H.i.b.hl.go hb) (by have:=HF.i;have:=HN.i;omega));have CL:=ab (fun(w:ak) (hb:aL W.a.j W w)=>agJ (H.i.b.tb.go hb));unfold ClP at CH;have hU:=Fj;have hI:(ah.info? 35).map (·.j)=some (x.lW.a.map (aI .a)).a:=by rw[bQ,lT];kernel_rfl
 go_region_held_law (fun w'=>(xu 32 (.c (some ⟨p,0,none⟩))).I ah w'=.ok (.d (Pc.mk x.pl.Y A1 x.pl.rN c1).ay) w'/\w'.b ⟨q,72,none⟩=some (.a x.Ov x.DZ x.Sw)/\w'.b ⟨q,74,none⟩=some (.c (some ⟨q2,0,none⟩))/\w'.b ⟨q,77,none⟩=some (.b .a x.gF)/\w'.b ⟨q,78,none⟩=some (.b .a x.no)/\w'.rangeAt q 79 (x.lW.a.map (aI .a)))
  (first|exact KS.i _ Z3.i.drew.X (H.i.b.eg.go Z3.i.drew.R)|exact KS.i _ Z4.i.X (H.i.b.eg.go Z4.i.R)|exact KS.i _ Z5.i.X (H.i.b.eg.go Z5.i.R)|exact KS.i _ Z6.i.b1 (H.i.b.eg.go Z6.i.R)|go_keep)
  (first
  | (go_at_call 59;(with_reducible refine(CH.i _ Z3.i.drew.R).g ?_);rintro r w4 ⟨A2,c2,rfl,ho,hb⟩;have Z4:=ab (Z3.i.drew.go hb);have O2:=ab ho;have S4:=ab (show w3.a.j<=w4.a.j from hb.j);have B4:=ab (show aL w3.a.j w3 w4 from(gN w3).trans hb);clear ho hb)
  | (go_at_call 65;(with_reducible refine(CL.i _ Z4.i.R).g ?_);rintro r w5 ⟨A3,c3,rfl,ho,hb⟩;have Z5:=ab (Z4.i.go hb);have O5:=ab ho;have B5:=ab hb;have th:=Z5.i.b1.O 0 17 (aW (Sh.G I6).symm);have Z6:=ab (show Bx [(W.a.j,(Sh.mk x.pl.Y ⟨A1,x.pl.rN,c1⟩ ⟨A2,x.DZ,c2⟩ ⟨A3,s.h.a,c3⟩ x.gF x.no x.lW).ay),(p,({x.pl with rA:=A1,rN:=x.pl.rN,rC:=c1}:Pc).ay)] W (amq w5 W.a.j 0 (Sh.mk x.pl.Y ⟨A1,x.pl.rN,c1⟩ ⟨A2,x.DZ,c2⟩ ⟨A3,s.h.a,c3⟩ x.gF x.no x.lW))from Z5.i.swap.put (fun r hr=>by rw[fD.1 hr];exact NP.i) _ (by rw[Sh.G,Sh.G]));clear ho hb))
 have FS:=ab (show jD [W.a.j] w5 (amq w5 W.a.j 0 (Sh.mk x.pl.Y ⟨A1,x.pl.rN,c1⟩ ⟨A2,x.DZ,c2⟩ ⟨A3,s.h.a,c3⟩ x.gF x.no x.lW))from sO w5 W.a.j 0 _);have hs:=SZ.i;have hs1:=SZ1.i;have hs3:=SZ3.i;have hs4:=S4.i;have hw:=Z3.i.R.j;go_wp2_with fail;refine aN (kSh.zh rfl _ rfl Z6.i.X (Sh.G _)) rfl ?_;refine⟨_,rfl,⟨H.i.b.Y,HN.i.1,?_,HN.i.2,?_,rfl,?_,H.i.b.gF,H.i.b.no,H.i.b.lW⟩,Z6.i.R⟩
 ·exact iG (Gw (jo (jo O3.i B4.i) B5.i) FS.i (by omega)) (by omega)
 ·exact iG (Gw (jo O2.i B5.i) FS.i (by simp;omega)) (by simp;omega)
 ·exact iG (Gw O5.i FS.i (by omega)) (by omega)
theorem StO.r{M:Int}{B:Nat}{X:Sh}(h:StO B W X s)(hi:mP M e s):StR W W.a.j X s:=by
 have hf:=hi.few;have hl:=hi.fl.len;obtain⟨_,⟨r1,r2⟩,_⟩:=qD hi.cn;have h1:=h.bn;have h2:=h.hn;have h3:=h.fn;refine⟨h.Y,gX.gU h.bn h.b,gX.gU h.hn h.h,gX.gU h.fn h.f,h.gF,h.no,h.lW,hi.fi,fun y hy=>?_,fun y hy=>?_,by omega,by omega,by omega⟩
 ·have hm:y.E∈s.qU.map (·.E):=by rw[<-hi.nm];exact iQ.2 ⟨y,hy,rfl⟩
  obtain⟨b,hb,e⟩:=iQ.1 hm;have:=hf.2.2 b hb;rw[<-e];omega
 ·have:=hi.fl.ok y hy
  unfold zU uR at this;simp only[bf,decide_eq_true_eq]at this;omega
end
theorem Eg.Np(x:Eg)(A:Option aS)(n c:Nat):x.ay.c 16 (.a A n c)=({x with cf:={x.cf with qG:=A,iI:=n,qH:=c}}:Eg).ay:=by simp[Eg.ay,aM,Cn.G,Pc.G,Tc.G,dH,jY,Cn.Np]
theorem Eg.aie(x:Eg)(A:Option aS)(n c:Nat):x.ay.c 71 (.a A n c)=({x with pl:={x.pl with rA:=A,rN:=n,rC:=c}}:Eg).ay:=by simp[Eg.ay,aM,Cn.G,Pc.G,Tc.G,dH,jY,Pc.aie]
theorem Eg.anL(x:Eg):x.ay[71]? = some (.a x.pl.rA x.pl.rN x.pl.rC):=by simp[Eg.ay,aD,Cn.G,Pc.G,Tc.G,dH,jY,Pc.ay]
theorem Md.qW{W W':ak}{q:Nat}{e:En}{s:pG}{x:Eg}{q2 g:Nat}{sl sl':List (Option Fw)}{l':List Fw}(h:Md W q e s x q2 g sl)(hf:jD [q2,g] W W')(ht:Ky W' q2 g e.key e.c.Y sl' l')(hl:sl'.a=sl.a):Md W' q e {s with h:=l'} x q2 g sl':=by
 have o:∀b,b∈qw x->b∉[q2,g]:=fun b hm=>by have:=h.Hz b hm;simp;omega
 have hs:=hf.j;have hq:=h.nq;exact⟨hf.box h.eg (by simp;omega),h.key,h.cf,h.Y,h.vs.keep hf (fun b hm=>o b (dS.2 (.a hm))),h.h.keep hf (fun b hm=>o b (dS.2 (.b (.a hm)))),h.hl.keep hf (fun b hm=>o b (dS.2 (.b (.b (.a hm))))),h.fl,ht,by rw[hl];exact h.rm,h.nq,fun b hm=>by have:=h.Hz b hm;omega,h.gF,h.no,h.lW⟩
theorem aeJ{W:ak}{b o:Nat}{c:Array aB}{xs:List aB}(h:dJ W b c)(hc:∀j,j<xs.a->c[o+j]? = xs[j]?):W.rangeAt b o xs:=by
 intro j v hj;have hlt:j<xs.a:=by
  rcases aZ j xs.a with h1|h1
  ·exact h1
  ·rw[aT h1]at hj;cases hj
 rw[h.K.1,hc j hlt,hj]
theorem aof{W:ak}{b:Nat}{xs:List aB}(h:dJ W b xs.c):W.rangeAt b 0 xs:=aeJ h (fun j _=>by rw[bl,eB])
@[go_sem]theorem az5(W:ak)(key:Vector UInt8 16)(cf:Cn)(pl:Pc)(A:Option aS)(n c:Nat)(ti no:Int)(ct:Vector Int 11):(uN 123 #[(0,.d (key.a.map bv).c),(1,.d cf.ay),(2,.d pl.ay),(3,.a A n c),(7,.b .a ti),(8,.b .a no),(9,.d (ct.a.map (aI .a)).c)]).I ah W=.ok (.d (Eg.mk key cf pl A n c none 0 0 none xC ti no ct).ay) W:=anT W key cf pl A n c ti no ct
theorem aog(X:Sh)(j:Nat)(h:j<11):X.ay[6+j]? = (X.lW.a.map (aI .a))[j]?:=by
 rw[Sh.ahH X j h];simp[au,h]
def Oj(W:ak)(key:Vector UInt8 16)(c:Cn)(vs:List Vp)(s:pG)(r:lq)(W':ak):Prop:=
 ∃q x q2 g sl,r=.a (.J #[.c (some ⟨q,0,none⟩),.b .a 0])/\yM W' q ⟨key,c,vs⟩ s x q2 g sl/\aL W.a.j W W'/\(W.a.j<=q/\W.a.j<=q2/\W.a.j<=g)/\∀b∈qw x,W.a.j<=b
theorem ab2(key:Vector UInt8 16)(c:Cn)(vs:List Vp)(X:Sh)(s:pG)(w:ak)(hV:gX Vp.ay 20 w w.a.j c.qG c.iI vs)(hvc:c.iI<=c.qH)(hvn:c.iI<=100000)(hS:StR w w.a.j X s)(hbl:s.qU.a<=100000)(hhl:s.G.a<=100000)(hfl:s.h.a<=100000)(hJ:zm c vs s=false):
 aQ ah 19 #[.d (iH key),.d c.ay,.d X.ay] w (gM w (.J #[.c none,.b .a 1])):=by
 have h0:=(((Bx.start w).new (iH key) 22).new c.ay 29).new X.ay 37;rw[show((w.alloc (.D (iH key) 22)).alloc (.D c.ay 29)).a.j=w.a.j+2 by simp,show(w.alloc (.D (iH key) 22)).a.j=w.a.j+1 by simp]at h0;have Z0:=ab h0;have CR:=ab (fun w1 (hb:aL w.a.j w w1)=>Jt c vs X s w1 (hV.go hb) hvc hvn (hS.go hb) hbl hhl hfl false hJ);clear h0 hV hvc hvn hS hbl hhl hfl hJ;go_enter Tryz.func19,Tryz.ntmps19;go_upto_region 1 with fail
 generalize((w.alloc (.D (iH key) 22)).alloc (.D c.ay 29)).alloc (.D X.ay 37)=w0 at Z0 ⊢;obtain⟨x1,x2,x3,x4⟩:=Z0.i.b1.K;obtain⟨y1,y2,y3,y4⟩:=Z0.i.X.K;go_wp2_with (go_at_call 15;(with_reducible refine(CR.i _ Z0.i.R).g ?_);rintro e w1 ⟨rfl,hb1⟩;have Z1:=ab (Z0.i.go hb1);clear hb1);go_ret2;exact⟨rfl,Z1.i.R⟩
theorem Yq(key:Vector UInt8 16)(c:Cn)(vs:List Vp)(X:Sh)(s:pG)(w:ak)(hV:gX Vp.ay 20 w w.a.j c.qG c.iI vs)(hvc:c.iI<=c.qH)(hvn:c.iI<=100000)(hS:StR w w.a.j X s)(hJ:zm c vs s=true):
 aQ ah 19 #[.d (iH key),.d c.ay,.d X.ay] w (Oj w key c vs s):=by
 have hi:=agv key hJ hS.rF;have aks:=hi.few;have hlen:=hi.fl.len;obtain⟨_,⟨hr1,hr2⟩,_⟩:=qD hi.cn;simp only at hlen hr1 hr2;have h0:=(((Bx.start w).new (iH key) 22).new c.ay 29).new X.ay 37;rw[show((w.alloc (.D (iH key) 22)).alloc (.D c.ay 29)).a.j=w.a.j+2 by simp,show(w.alloc (.D (iH key) 22)).a.j=w.a.j+1 by simp]at h0;have Z0:=ab h0;have CR:=ab (fun w1 (hb:aL w.a.j w w1)=>Jt c vs X s w1 (hV.go hb) hvc hvn (hS.go hb) (by omega) (by omega) (by omega) true hJ);have HI:=ab hi;have HS:=ab hS;have HV:=ab hV;have HVN:=ab hvn;have HFW:=ab aks;have HRM:=ab (show(1<=c.Y/\c.Y<=4096)/\s.h.a<=4096 by omega);clear h0 hV hvc hvn hS hJ hi aks hlen hr1 hr2;go_enter Tryz.func19,Tryz.ntmps19;go_upto_region 1 with fail
 have SZ0:=ab (show w.a.j+2<(((w.alloc (.D (iH key) 22)).alloc (.D c.ay 29)).alloc (.D X.ay 37)).a.j by simp);generalize((w.alloc (.D (iH key) 22)).alloc (.D c.ay 29)).alloc (.D X.ay 37)=w0 at Z0 SZ0 ⊢;rw[show w.a.j+1+1=w.a.j+2 from rfl];obtain⟨x1,x2,x3,x4⟩:=Z0.i.b1.K;obtain⟨y1,y2,y3,y4⟩:=Z0.i.X.K;go_upto_region 3 with(go_at_call 15;(with_reducible refine(CR.i _ Z0.i.R).g ?_);rintro e w1 ⟨rfl,hb1⟩;have Z1:=ab (Z0.i.go hb1);have SZ1:=ab (eO SZ0.i hb1.j);clear hb1)
 clear x1 x2 x3 x4 y1 y2 y3 y4;have KS:=ab (fun(w':ak) (h:Bx [(w.a.j+2,X.ay),(w.a.j+1,c.ay),(w.a.j,iH key)] w w')=>show w'.rangeAt w.a.j 0 (key.a.map bv)/\(xu 29 (.c (some ⟨w.a.j+1,0,none⟩))).I ah w'=.ok (.d c.ay) w'/\(xu 32 (.c (some ⟨w.a.j+2,0,none⟩))).I ah w'=.ok (.d (Pc.mk X.Y X.b.A X.b.n X.b.c).ay) w'/\w'.b ⟨w.a.j+2,2,none⟩=some (.a X.h.A X.h.n X.h.c)/\w'.b ⟨w.a.j+2,4,none⟩=some (.b .a X.gF)/\w'.b ⟨w.a.j+2,5,none⟩=some (.b .a X.no)/\w'.rangeAt (w.a.j+2) 6 (X.lW.a.map (aI .a))by
  refine⟨aof h.b2,Xy.nC h.b1 (Cn.G _),kPc.Ay h.X 0 (Sh.AL X) (by rw[Sh.G];omega),(h.X.K.1 2).trans (Sh.Qr X),(h.X.K.1 4).trans (Sh.ahI X),(h.X.K.1 5).trans (Sh.ahJ X),?_⟩;exact aeJ (o:=6) h.X (fun j hj=>aog X j (by simpa using hj)))
 have CH:=ab (fun(w1:ak) (hb:aL w.a.j w w1)=>Lu s.G X.h.A X.h.n X.h.c w1 (HS.i.h.go hb) (by have:=HS.i.h.1;have:=HFW.i;omega));unfold ClP at CH;have hU:=nX;have hI:(ah.info? 22).map (·.j)=some (key.a.map bv).a:=by rw[bQ,lT];kernel_rfl
 have hU2:=Fj;have hI2:(ah.info? 35).map (·.j)=some (X.lW.a.map (aI .a)).a:=by rw[bQ,lT];kernel_rfl
 refine wp_region_held_drew (S:=(fun w'=>w'.rangeAt w.a.j 0 (key.a.map bv)/\(xu 29 (.c (some ⟨w.a.j+1,0,none⟩))).I ah w'=.ok (.d c.ay) w'/\(xu 32 (.c (some ⟨w.a.j+2,0,none⟩))).I ah w'=.ok (.d (Pc.mk X.Y X.b.A X.b.n X.b.c).ay) w'/\w'.b ⟨w.a.j+2,2,none⟩=some (.a X.h.A X.h.n X.h.c)/\w'.b ⟨w.a.j+2,4,none⟩=some (.b .a X.gF)/\w'.b ⟨w.a.j+2,5,none⟩=some (.b .a X.no)/\w'.rangeAt (w.a.j+2) 6 (X.lW.a.map (aI .a)))) (by kernel_rfl) ?_ (fun hHeld=>?_)
 ·exact KS.i _ Z1.i.drew
 refine oZ (i:=0) rfl (by kernel_rfl) (by kernel_rfl) (by kernel_rfl) (fun _ _ _ h=>h) (yieldsIf_load_mid (by rfl) 22 (.a 3) rfl (w.a.j) 0 rfl (key.a.map bv) _ (fun w' h=>h.1) hU rfl hI) (by assumption) ?_
 try simp only[lI,bH,bP,bG]
 refine oZ (i:=11) (v:=?_) rfl (by kernel_rfl) (by kernel_rfl) (by kernel_rfl) (fun _ _ _ h=>h) (Ck ⟨by rfl,?_⟩) (by assumption) ?_;rotate_left
 ·intro w' hSw
  try dsimp only at hSw
  go_simp
  try with_reducible rfl
 try simp only[lI,bH,bP,bG]
 refine oZ (i:=12) rfl (by kernel_rfl) (by kernel_rfl) (by kernel_rfl) (fun _ _ _ h=>h) (yieldsIf_load_mid (by rfl) 35 (.a 26) rfl (w.a.j+2) 6 rfl (X.lW.a.map (aI .a)) _ (fun w' h=>h.2.2.2.2.2.2) hU2 rfl hI2) (by assumption) ?_
 try simp only[lI,bH,bP,bG]
 refine oZ (i:=4) (v:=?_) rfl (by kernel_rfl) (by kernel_rfl) (by kernel_rfl) (fun _ _ _ h=>h) (Ck ⟨by rfl,?_⟩) (by assumption) ?_;rotate_left
 ·intro w' hSw
  try dsimp only at hSw
  go_simp
  try with_reducible rfl
 try simp only[lI,bH,bP,bG]
 refine oZ (i:=5) (v:=?_) rfl (by kernel_rfl) (by kernel_rfl) (by kernel_rfl) (fun _ _ _ h=>h) (Ck ⟨by rfl,?_⟩) (by assumption) ?_;rotate_left
 ·intro w' hSw
  try dsimp only at hSw
  go_simp
  try with_reducible rfl
 try simp only[lI,bH,bP,bG]
 refine oZ (i:=7) (v:=?_) rfl (by kernel_rfl) (by kernel_rfl) (by kernel_rfl) (fun _ _ _ h=>h) (Ck ⟨by rfl,?_⟩) (by assumption) ?_;rotate_left
 ·intro w' hSw
  try dsimp only at hSw
  go_simp
  try with_reducible rfl
 try simp only[lI,bH,bP,bG]
 refine oZ (i:=8) (v:=?_) rfl (by kernel_rfl) (by kernel_rfl) (by kernel_rfl) (fun _ _ _ h=>h) (Ck ⟨by rfl,?_⟩) (by assumption) ?_;rotate_left
 ·intro w' hSw
  try dsimp only at hSw
  go_simp
  try with_reducible rfl
 try simp only[lI,bH,bP,bG]
 refine oZ (i:=9) (v:=?_) rfl (by kernel_rfl) (by kernel_rfl) (by kernel_rfl) (fun _ _ _ h=>h) (Ck ⟨by rfl,?_⟩) (by assumption) ?_;rotate_left
 ·intro w' hSw
  try dsimp only at hSw
  go_simp
  try with_reducible rfl
 try simp only[lI,bH,bP,bG]
 refine oZ (i:=10) (v:=?_) rfl (by kernel_rfl) (by kernel_rfl) (by kernel_rfl) (fun _ _ _ h=>h) (Ck ⟨by rfl,?_⟩) (by assumption) ?_;rotate_left
 ·intro w' hSw
  try dsimp only at hSw
  go_simp
  try with_reducible rfl
 try simp only[lI,bH,bP,bG]
 refine oZ (i:=2) (v:=?_) rfl (by kernel_rfl) (by kernel_rfl) (by kernel_rfl) (fun _ _ _ h=>h) (Ck ⟨by rfl,?_⟩) (by assumption) ?_;rotate_left
 ·intro w' hSw
  try dsimp only at hSw
  go_simp
  try with_reducible rfl
 try simp only[lI,bH,bP,bG]
 refine oZ (i:=1) (v:=.d c.ay) rfl (by kernel_rfl) (by kernel_rfl) (by kernel_rfl) (fun _ _ _ h=>h) (Ck ⟨by rfl,fun w' hSw=>?_⟩) (by assumption) ?_
 ·have hrun:=hSw.2.1
  clear hSw;go_simp
 try simp only[lI,bH,bP,bG]
 refine oZ (i:=3) (v:=.d (Pc.mk X.Y X.b.A X.b.n X.b.c).ay) rfl (by kernel_rfl) (by kernel_rfl) (by kernel_rfl) (fun _ _ _ h=>h) (Ck ⟨by rfl,fun w' hSw=>?_⟩) (by assumption) ?_
 ·have hrun:=hSw.2.2.1
  clear hSw;go_simp
 try simp only[lI,bH,bP,bG]
 refine wpAnyH_ready (rs:=[6]) (by kernel_rfl) (by simp) ?_;refine AllReadyH.cons rfl (fun K hK=>?_) AllReadyH.nil;go_simp;go_wp2_with (go_at_call 59;(with_reducible refine(CH.i _ Z1.i.drew.R).g ?_);rintro r w2 ⟨A1,c1,rfl,ho,hb⟩;have Z2:=ab (Z1.i.drew.go hb);have O2:=ab ho;have SZ2:=ab (show w1.a.j<=w2.a.j from hb.j);clear ho hb);clear hHeld;refine hK.i _ _ (KS.i _ Z2.i) (fun hHeld=>?_);clear hK K
 try simp only[lI,bH,bP,bG]
 refine oZ (i:=13) (v:=?_) rfl (by kernel_rfl) (by kernel_rfl) (by kernel_rfl) (fun _ _ _ h=>h) (Ck ⟨by rfl,?_⟩) (by assumption) ?_;rotate_left
 ·intro w' hSw
  try dsimp only at hSw
  go_simp
  try with_reducible rfl
 try simp only[lI,bH,bP,bG]
 refine wpAnyH_ready (rs:=[14]) (by kernel_rfl) (by simp) ?_;refine AllReadyH.cons rfl (fun K hK=>?_) AllReadyH.nil;go_simp;clear hHeld;refine hK.i _ _ (KS.i _ (Z2.i.alloc _)) (fun hHeld=>?_);clear hK K;refine oZ (i:=15) (v:=?_) rfl (by kernel_rfl) (by kernel_rfl) (by kernel_rfl) (fun _ _ _ h=>h) (Ck ⟨by rfl,?_⟩) (by assumption) ?_;rotate_left
 ·intro w' hSw
  try dsimp only at hSw
  go_simp
  try with_reducible rfl
 try simp only[lI,bH,bP,bG]
 refine wpAnyH_done (by kernel_rfl) ?_ _;have ZE:=ab (Z2.i.new (Eg.mk key c ⟨X.Y,X.b.A,X.b.n,X.b.c⟩ A1 X.h.n c1 none 0 0 none xC X.gF X.no X.lW).ay 123);have O3:=ab (vG O2.i (.D (Eg.mk key c ⟨X.Y,X.b.A,X.b.n,X.b.c⟩ A1 X.h.n c1 none 0 0 none xC X.gF X.no X.lW).ay 123));have SZ3:=ab (show w2.a.j<(w2.alloc (.D (Eg.mk key c ⟨X.Y,X.b.A,X.b.n,X.b.c⟩ A1 X.h.n c1 none 0 0 none xC X.gF X.no X.lW).ay 123)).a.j by simp);clear hHeld;go_upto_region 4 with fail
 generalize w2.alloc (.D (Eg.mk key c ⟨X.Y,X.b.A,X.b.n,X.b.c⟩ A1 X.h.n c1 none 0 0 none xC X.gF X.no X.lW).ay 123)=w3 at ZE O3 SZ3 ⊢;have HQ:=ab (show w1.a.j<=w2.a.j from SZ2.i);have HF1:=ab (jZ O2.i);have SI:=ab (show w.a.j<=w1.a.j from Z1.i.R.j);clear SZ2 O2 Z2;generalize w2.a.j=q at ZE SZ3 HQ HF1 ⊢;clear KS CH hU hI hU2 hI2;have HNE:=ab (show∀p∈[(w.a.j+2,X.ay),(w.a.j+1,c.ay),(w.a.j,iH key)],p.1≠q from fun p hp=>by
  have h1:=SZ1.i;have h2:=HQ.i;simp at hp;rcases hp with rfl|rfl|rfl<;>simp<;>omega)
 have CV:=ab (aeH vs c.qG c.iI c.qH w3 (HV.i.go ZE.i.R) HVN.i);unfold avA at CV;have fv:=(ZE.i.b2.K.1 0).trans (Cn.J3 c);go_upto_region 5 with(go_at_call 60;(with_reducible refine CV.i.g ?_);rintro r w4 ⟨A2,c2,rfl,ho,hb⟩;have g16:=(ZE.i.X.go hb).K.2.1 16;have f16:=((ZE.i.X.go hb).K.1 16).trans (Eg.J3 _);have Z4:=ab (ZE.i.go hb);have O4:=ab ho;have B4:=ab hb;clear ho hb)
 have Z5:=ab (Z4.i.set HNE.i 16 (.a A2 c.iI c2));rw[Eg.Np]at Z5;have F5:=ab (show jD [q] w3 (w4.F ⟨q,16,none⟩ (.a A2 c.iI c2))from(jD.jl (F:=[q]) B4.i).set ⟨q,16,none⟩ _ (.a (by simp)));have F45:=ab (show jD [q] w4 (w4.F ⟨q,16,none⟩ (.a A2 c.iI c2))from(jD.refl [q] w4).set ⟨q,16,none⟩ _ (.a (by simp)));generalize w4.F ⟨q,16,none⟩ (.a A2 c.iI c2)=w5 at Z5 F5 F45 ⊢;clear g16 f16 fv CV;have O5:=ab (Gw O4.i F45.i SZ3.i);have HBN:=ab (show s.qU.a=X.b.n from HS.i.b.1);have CB:=ab (xL s.qU X.b.A X.b.c w5 (by have h1:=HS.i.b.go Z5.i.R;rw[<-HBN.i]at h1;exact h1) (by have:=HFW.i;omega));unfold aaT at CB;rw[HBN.i]at CB;have fb:=(Z5.i.b1.K.1 1).trans (Sh.GL X);go_upto_region 6 with(go_at_call 61;(with_reducible refine CB.i.g ?_);rintro r w6 ⟨A3,c3,rfl,ho,hb⟩;have g71:=(Z5.i.X.go hb).K.2.1 71;have f71:=((Z5.i.X.go hb).K.1 71).trans (Eg.anL _);have Z6:=ab (Z5.i.go hb);have O6:=ab ho;have B6:=ab hb;clear ho hb)
 have Z7:=ab (Z6.i.set HNE.i 71 (.a A3 X.b.n c3));rw[Eg.aie]at Z7;have F7:=ab (show jD [q] w5 (w6.F ⟨q,71,none⟩ (.a A3 X.b.n c3))from(jD.jl (F:=[q]) B6.i).set ⟨q,71,none⟩ _ (.a (by simp)));have F67:=ab (show jD [q] w6 (w6.F ⟨q,71,none⟩ (.a A3 X.b.n c3))from(jD.refl [q] w6).set ⟨q,71,none⟩ _ (.a (by simp)));generalize w6.F ⟨q,71,none⟩ (.a A3 X.b.n c3)=w7 at Z7 F7 F67 ⊢;clear g71 f71 fb CB;have O7:=ab (Gw O6.i F67.i (eO SZ3.i F5.i.j));have CF:=ab (akc key c.Y.e (by have:=HRM.i;omega) (by have:=HRM.i;omega) w7);rw[show((c.Y.e:Nat):Int)=c.Y from kH (by have:=HRM.i;omega)]at CF;unfold asA at CF;have lk:=Sn.nC Z7.i.b3 (dH _);have fr:=(Z7.i.b2.K.1 2).trans (Cn.Tm c);go_upto_region 7 with(go_at_call 62;(with_reducible refine CF.i.g ?_);rintro r w8 ⟨q2,g,sl,rfl,ht,hrm,hq2,hg,hb⟩;have g74:=(Z7.i.X.go hb).K.2.1 74;have f74:=((Z7.i.X.go hb).K.1 74).trans (Eg.aah _);have Z8:=ab (Z7.i.go hb);have T8:=ab ht;have HQ2:=ab hq2;have HG:=ab hg;have RM:=ab hrm;have B8:=ab hb;clear ht hq2 hg hrm hb)
 have Z9:=ab (Z8.i.set HNE.i 74 (aev (some q2)));rw[Eg.avh]at Z9;change Hid (Bx _ w (w8.F ⟨q,74,none⟩ (.c (some ⟨q2,0,none⟩))))at Z9;have F9:=ab (show jD [q] w8 (w8.F ⟨q,74,none⟩ (.c (some ⟨q2,0,none⟩)))from(jD.refl [q] w8).set ⟨q,74,none⟩ _ (.a (by simp)));generalize w8.F ⟨q,74,none⟩ (.c (some ⟨q2,0,none⟩))=w9 at Z9 F9 ⊢;clear g74 f74 fr lk CF;obtain⟨x9,hx9,zx⟩:∃x9:Eg,x9=Eg.mk key {c with qG:=A2,iI:=c.iI,qH:=c2} ⟨X.Y,A3,X.b.n,c3⟩ A1 X.h.n c1 none 0 0 (some q2) xC X.gF X.no X.lW/\Bx ((q,x9.ay)::[(w.a.j+2,X.ay),(w.a.j+1,c.ay),(w.a.j,iH key)]) w w9:=⟨_,rfl,Z9.i⟩
 have HX9:=ab hx9;have ZX:=ab zx;clear hx9 zx Z9;have G79:=ab (show jD [q] w7 w9 from(jD.jl (F:=[q]) B8.i).pQ F9.i);have G59:=ab (F7.i.pQ G79.i);have G39:=ab (F5.i.pQ G59.i);have SS:=ab (show w.a.j<=w1.a.j/\w1.a.j<=q/\q<w3.a.j/\w3.a.j<=w4.a.j/\w4.a.j<=w5.a.j/\w5.a.j<=w6.a.j/\w6.a.j<=w7.a.j/\w7.a.j<=w8.a.j/\w8.a.j<=w9.a.j/\w7.a.j<=q2/\w7.a.j<=g/\q2<w8.a.j/\g<w8.a.j from⟨SI.i,HQ.i,SZ3.i,B4.i.j,F45.i.j,B6.i.j,F67.i.j,B8.i.j,F9.i.j,HQ2.i,HG.i,T8.i.w.lt.1,T8.i.w.lt.2⟩);have HR9:=ab (show∀b∈qw x9,(w.a.j<=b/\b<w9.a.j)/\b≠q/\b≠q2/\b≠g from fun b hb=>by
  have hss:=SS.i;rw[HX9.i]at hb;rcases dS.1 hb with hb|hb|hb|hb|hb|hb
  ·have:=jZ O4.i b hb;omega
  ·have:=jZ O6.i b hb;omega
  ·have:=HF1.i b hb;have h2:w1.drew.a.j=w1.a.j:=rfl;omega
  ·cases hb
  ·cases hb
  ·cases hb)
 have E9:=ab (show Md w9 q ⟨key,c,vs⟩ {s with h:=[]} x9 q2 g sl by
  have hss:=SS.i;have h4:=jZ O4.i;have h6:=jZ O6.i;have h1:=HF1.i;have h2:w1.drew.a.j=w1.a.j:=rfl;refine⟨ZX.i.X,by rw[HX9.i],by rw[HX9.i],by rw[HX9.i];exact HS.i.Y,?_,?_,?_,by rw[HX9.i],T8.i.keep F9.i (by simp;omega) (by simp;omega),RM.i,by omega,fun b hb=>by have:=HR9.i b hb;omega,by rw[HX9.i];exact HS.i.gF,by rw[HX9.i];exact HS.i.no,by rw[HX9.i];exact HS.i.lW⟩
  ·rw[HX9.i]
   exact(gX.gU HV.i.1 O5.i).keep G59.i (fun b hb=>by have:=h4 b hb;simp;omega)
  ·rw[HX9.i]
   exact(gX.gU HBN.i O7.i).keep G79.i (fun b hb=>by have:=h6 b hb;simp;omega)
  ·rw[HX9.i]
   exact(gX.gU HS.i.h.1 O3.i).keep G39.i (fun b hb=>by have:=h1 b hb;simp;omega))
 clear O3 O5 O7 O4 O6 G39 G59 G79 F5 F45 F7 F67 F9 B4 B6 B8 HF1 SI HQ HQ2 HG RM T8 Z7 Z8 Z6 Z5 Z4 ZE;have ff:=(ZX.i.b1.K.1 3).trans (Sh.YG X);have HFN:=ab (show s.h.a=X.f.n from HS.i.f.1);go_wp2;clear ff;go_loopw [58] (fun s58 wr=>∃(k:Nat)(sl':List (Option Fw)),k<=X.f.n/\s58=.b .a k/\Ky wr q2 g key c.Y sl' (s.h.d k)/\sl'.a=sl.a/\jD [q2,g] w9 wr) (fun s58 _=>X.f.n-(intOf s58).e)
 case atStart=>exact⟨0,sl,by omega,rfl,by have:=E9.i.tb;exact this,rfl,jD.refl _ _⟩
 case round=>
  obtain⟨k,sl',hkn,rfl,ht,hsl,hf⟩:=hrel;have HT:=ab ht;have HSL:=ab hsl;have HF:=ab hf;have BW:=ab (show aL w.a.j w wr from ZX.i.R.trans (hf.rM (fun b hb=>by have:=SS.i;simp at hb;omega) ZX.i.R.j));have EB:=ab (show Md wr q ⟨key,c,vs⟩ {s with h:=s.h.d k} x9 q2 g sl' from E9.i.qW hf ht hsl);clear ht hsl hf;have hfs:X.f.n<=4096:=by have:=HRM.i;have:=HFN.i;omega
  by_cases hkt:k<X.f.n
  ·have hlt2:(k:Int)<X.f.n:=by omega
   have RF:=ab (show gX Fw.ay 41 wr wr.a.j X.f.A X.f.n s.h from HS.i.f.go BW.i);obtain⟨b,o,hA,hbl,hh,hcl⟩:=gX.fw RF.i hkt;have HPN:=ab (anh (k:=k) HI.i.fl (show k<s.h.a by rw[HFN.i];exact hkt));simp only at HPN;obtain⟨y,hy⟩:=sH (s.h.b k jq);have HYN:=ab (show y.E.a<=1000000 by
    have:=HI.i.fl.ok y (by rw[<-hy];exact Em jq s.h k (by rw[HFN.i];exact hkt));unfold zU uR at this;simp only[bf,decide_eq_true_eq]at this;omega)
   rw[hy]at hcl HPN;have EY:=ab (EB.i.go ((aH _ _).alloc (av _) (.D y.ay 86)));have BY:=ab (dJ.new wr y.ay 86);have FY:=ab (HF.i.alloc (.D y.ay 86));have SY:=ab (show w9.a.j<=wr.a.j from HF.i.j);rw[hA];go_upto_region 10 with fail
   generalize wr.alloc (.D y.ay 86)=w11 at EY BY FY ⊢;have HPY:=ab (show wr.a.j∉[q2,g]by have:=SS.i;have:=SY.i;simp;omega);have KP:=ab (fun(w':ak) (h0:dJ w' wr.a.j y.ay) (h1:dJ w' q x9.ay)=>show(LA (.c (some ⟨wr.a.j,0,none⟩))).I ah w'=.ok (.d y.ay) w'/\w'.b ⟨q,74,none⟩=some (.c (some ⟨q2,0,none⟩))from⟨kK h0,by rw[h1.K.1 74,Eg.aah,E9.i.fl];rfl⟩);have CU:=ab (aac (EY.i.go (gN _)).tb (by have:=HRM.i;exact this.1.1) (EY.i.go (gN _)).rm y HYN.i);unfold agL at CU;have HQN:=ab (show q∉[q2,g]by have:=SS.i;simp;omega);clear hh hcl hbl hy;go_region_held_law (fun w'=>(LA (.c (some ⟨wr.a.j,0,none⟩))).I ah w'=.ok (.d y.ay) w'/\w'.b ⟨q,74,none⟩=some (.c (some ⟨q2,0,none⟩)))
    (first|exact KP.i _ BY.i.drew (EY.i.go (gN _)).eg|exact KP.i _ (F12.i.box BY.i.drew HPY.i) (F12.i.box (EY.i.go (gN _)).eg HQN.i)|go_keep)
    (first|(go_at_call 63;(with_reducible refine CU.i.g ?_);rintro r w12 ⟨rfl,⟨sl2,ht2,hl2⟩,hf2⟩;have F12:=ab hf2;have T12:=ab ht2;have L12:=ab hl2;clear hf2 ht2 hl2))
   go_wp2;go_roundw
   case rel=>exact⟨k+1,sl2,by omega,by go_num,by have:=T12.i;rw[HPN.i]at this;exact this,by rw[L12.i];exact HSL.i,(FY.i.drewN 1).pQ F12.i⟩
   case measure=>simp[intOf]<;>omega
  ·obtain rfl:k=X.f.n:=by omega
   have hnl:¬((X.f.n:Nat):Int)<X.f.n:=by omega
   have EB2:=ab (show Md wr q ⟨key,c,vs⟩ s x9 q2 g sl' by
    have:=EB.i;rw[List.take_of_length_le (by have:=HFN.i;omega)]at this;exact this)
   have CB:=ab (Jr EB2.i HI.i);unfold abU at CB;clear hkt;go_wp2_with (go_at_call 64;(with_reducible refine CB.i.g ?_);rintro r w13 ⟨rfl,⟨x',hE,hrw⟩,hf⟩;have HE:=ab hE;have HRW:=ab hrw;have HFB:=ab hf;clear hE hrw hf);go_ret2;have hss:=SS.i;have hsw:=BW.i.j;exact⟨q,x',q2,g,sl',rfl,HE.i,BW.i.trans (HFB.i.rM (fun b hb=>by simp at hb;omega) hsw),by omega,fun b hb=>by
    rcases HRW.i b hb with h|h
    ·exact(HR9.i b h).1.1
    ·omega⟩
section
theorem aik(W:ak):StR W W.a.j I6 wH:=⟨rfl,gX.nil _ _,gX.nil _ _,gX.nil _ _,rfl,rfl,rfl,(fun y hy=>by cases hy),(fun y hy=>by cases hy),(fun y hy=>by cases hy),by simp[I6,Dm],by simp[I6,Dm],by simp[I6,Dm]⟩
theorem Oj.aE'{w w1:ak}{key:Vector UInt8 16}{c:Cn}{vs:List Vp}{s:pG}{r:lq}{W':ak}(h:Oj w1 key c vs s r W')(hb:aL w.a.j w w1):Oj w key c vs s r W':=by
 obtain⟨q,x,q2,g,sl,h1,h2,h3,h4,h5⟩:=h;have:=hb.j;exact⟨q,x,q2,g,sl,h1,h2,hb.trans (h3.g hb.j),by omega,fun b hm=>by have:=h5 b hm;omega⟩
theorem akG{c:Cn}{vs:List Vp}(h:yh c vs=true):zm c vs wH=true:=(P7 (bF 16 0) h).right (by omega)
theorem aak(key:Vector UInt8 16)(c:Cn)(vs:List Vp)(w:ak)(hV:gX Vp.ay 20 w w.a.j c.qG c.iI vs)(hvc:c.iI<=c.qH)(hvn:c.iI<=100000)(hJ:yh c vs=true):
 aQ ah 23 #[.d (iH key),.d c.ay] w (Oj w key c vs wH):=by
 have h0:=((Bx.start w).new (iH key) 22).new c.ay 29;rw[show(w.alloc (.D (iH key) 22)).a.j=w.a.j+1 by simp]at h0;have Z0:=ab h0;have CR:=ab (fun w1 (hb:aL w.a.j w w1)=>Yq key c vs I6 wH w1 (hV.go hb) hvc hvn (aik w1) (akG hJ));clear h0 hV hvc hvn hJ;go_enter Tryz.func23,Tryz.ntmps23;go_upto_region 1 with fail
 generalize(w.alloc (.D (iH key) 22)).alloc (.D c.ay 29)=w0 at Z0 ⊢;have l1:=Sn.nC Z0.i.b1 (dH _);have l2:=Xy.nC Z0.i.X (Cn.G _);go_wp2_with (go_at_call 19;(with_reducible refine(CR.i _ Z0.i.R).g ?_);rintro e w1 ⟨q,x,q2,g,sl,rfl,h2,h3,h4,h5⟩;have H:=ab (show Oj w key c vs wH (.a (.J #[.c (some ⟨q,0,none⟩),.b .a 0])) w1 from Oj.aE' ⟨q,x,q2,g,sl,rfl,h2,h3,h4,h5⟩ Z0.i.R);clear h2 h3 h4 h5);go_ret2;exact H.i
theorem aoj(key:Vector UInt8 16)(c:Cn)(vs:List Vp)(w:ak)(hV:gX Vp.ay 20 w w.a.j c.qG c.iI vs)(hvc:c.iI<=c.qH)(hvn:c.iI<=100000)(hJ:yh c vs=false):
 aQ ah 23 #[.d (iH key),.d c.ay] w (gM w (.J #[.c none,.b .a 1])):=by
 have h0:=((Bx.start w).new (iH key) 22).new c.ay 29;rw[show(w.alloc (.D (iH key) 22)).a.j=w.a.j+1 by simp]at h0;have Z0:=ab h0;have CR:=ab (fun w1 (hb:aL w.a.j w w1)=>ab2 key c vs I6 wH w1 (hV.go hb) hvc hvn (aik w1) (by simp[wH]) (by simp[wH]) (by simp[wH]) (by unfold zm WA;rw[hJ];rfl));clear h0 hV hvc hvn hJ;go_enter Tryz.func23,Tryz.ntmps23;go_upto_region 1 with fail
 generalize(w.alloc (.D (iH key) 22)).alloc (.D c.ay 29)=w0 at Z0 ⊢;have l1:=Sn.nC Z0.i.b1 (dH _);have l2:=Xy.nC Z0.i.X (Cn.G _);go_wp2_with (go_at_call 19;(with_reducible refine(CR.i _ Z0.i.R).g ?_);rintro e w1 ⟨rfl,hb1⟩;have Z1:=ab (Z0.i.go hb1);clear hb1);go_ret2;exact⟨rfl,Z1.i.R⟩
structure TbO(B:Nat)(W:ak)(X:Tc)(t:Tl):Prop where
 nn:t.h.a=X.nP
 n:W.c B 9 1 (.a X.nI X.nP X.yC) X.nP (t.h.h fun y=>(txA y).a)
 sn:t.ra.a=X.mR
 s:W.c B 3 1 (.a X.mE X.mR X.vo) X.mR (t.ra.h fun y=>(Gd y).a)
def aro(W:ak)(t:Tl)(r:lq)(W':ak):Prop:=∃X:Tc,r=.a (.d X.ay)/\TbO W.a.j W' X t/\aL W.a.j W W'
theorem TlR.arp{W:ak}{A1 A2:Option aS}{n1 n2:Nat}{t:Tl}(h:TlR W A1 n1 A2 n2 t):Yc W W.a.j A2 n2 t.ra:=by
 obtain⟨_,h2,h3⟩:=h;subst h2;rcases h3 with⟨h4,rfl⟩|⟨g,d,rfl,h4,h5⟩
 ·rw[bE h4];exact gX.nil _ _
 ·exact Yc.box h4 (fun j hj=>by rw[bl];exact h5 j hj)
theorem TlR.texts{W:ak}{A1 A2:Option aS}{n1 n2:Nat}{t:Tl}(h:TlR W A1 n1 A2 n2 t):RdT W W.a.j A1 n1 t.h:=h.1
variable {W W':ak} {q:Nat} {e:En} {s:pG} {x:Eg} {q2 g:Nat} {sl:List (Option Fw)}
theorem Xr(t:Tl)(hE:dJ W q x.ay)(hT:RdT W W.a.j x.tb.nI x.tb.nP t.h)(hI:Yc W W.a.j x.tb.mE x.tb.mR t.ra)(hn:t.h.a<=100000)(hs:t.ra.a<=100000):aQ ah 31 #[.c (some ⟨q,0,none⟩)] W (aro W t):=by
 have Z0:=ab ((Bx.start W).new xC.ay 72);have HE:=ab hE;have HT:=ab hT;have HI:=ab hI;have HN:=ab (show t.h.a=x.tb.nP/\t.ra.a=x.tb.mR from⟨hT.1,hI.1⟩);have HS:=ab (show x.tb.nP<=100000/\x.tb.mR<=100000 by rw[<-HN.i.1,<-HN.i.2];exact⟨hn,hs⟩);clear hE hT hI hn hs;go_enter Tryz.func31,Tryz.ntmps31;go_upto_region 1 with fail
 have SZ0:=ab (show W.a.j<(W.alloc (.D xC.ay 72)).a.j by simp);generalize W.alloc (.D xC.ay 72)=w0 at Z0 SZ0 ⊢;have KS:=ab (fun(w':ak) (h1:dJ w' q x.ay)=>show w'.b ⟨q,75,none⟩=some (.a x.tb.nI x.tb.nP x.tb.yC)/\w'.b ⟨q,76,none⟩=some (.a x.tb.mE x.tb.mR x.tb.vo)from⟨(h1.K.1 75).trans (Eg.EX x),(h1.K.1 76).trans (Eg.yx x)⟩);have CN:=ab (fun(w:ak) (hb:aL W.a.j W w)=>aeG t.h x.tb.nI x.tb.nP x.tb.yC w (HT.i.go hb) HS.i.1);have CI:=ab (fun(w:ak) (hb:aL W.a.j W w)=>agZ t.ra x.tb.mE x.tb.mR x.tb.vo w (HI.i.go hb) HS.i.2);unfold aob at CN;unfold avz at CI;go_region_held_law (fun w'=>w'.b ⟨q,75,none⟩=some (.a x.tb.nI x.tb.nP x.tb.yC)/\w'.b ⟨q,76,none⟩=some (.a x.tb.mE x.tb.mR x.tb.vo))
  (first|exact KS.i _ (HE.i.go Z0.i.drew.R)|exact KS.i _ (HE.i.go Z1.i.R)|exact KS.i _ (HE.i.go Z2.i.R)|exact KS.i _ (HE.i.go Z3.i.R)|go_keep)
  (first
  | (go_at_call 88;(with_reducible refine(CN.i _ Z0.i.drew.R).g ?_);rintro r w1 ⟨A1,c1,rfl,ho,hb⟩;have Z1:=ab (Z0.i.drew.go hb);have O1:=ab ho;have S1:=ab (show w0.a.j<=w1.a.j from hb.j);clear ho hb)
  | (go_at_call 89;(with_reducible refine(CI.i _ Z1.i.R).g ?_);rintro r w2 ⟨A2,c2,rfl,ho,hb⟩;have Z2:=ab (Z1.i.go hb);have O2:=ab ho;have B2:=ab hb;have th:=Z2.i.X.O 0 2 (aW (Tc.G xC).symm);have Z3:=ab (show Bx [(W.a.j,(Tc.mk A1 x.tb.nP c1 A2 x.tb.mR c2).ay)] W (gI w2 W.a.j 0 (Tc.mk A1 x.tb.nP c1 A2 x.tb.mR c2).ay)from Z2.i.put (fun r hr=>by cases hr) _ (by rw[Tc.G,Tc.G]));clear ho hb))
 have FS:=ab (show jD [W.a.j] w2 (gI w2 W.a.j 0 (Tc.mk A1 x.tb.nP c1 A2 x.tb.mR c2).ay)from sO w2 W.a.j 0 _);have hs0:=SZ0.i;have hs1:=S1.i;go_wp2_with fail;refine aN (kTc.zh rfl _ rfl Z3.i.X (Tc.G _)) rfl ?_;refine⟨_,rfl,⟨HN.i.1,?_,HN.i.2,?_⟩,Z3.i.R⟩
 ·exact iG (Gw (jo O1.i B2.i) FS.i (by simp;omega)) (by simp;omega)
 ·exact iG (Gw O2.i FS.i (by omega)) (by omega)
theorem aeK(h:yM W q e s x q2 g sl)(hn:(uf e s).h.a<=100000)(hs:(uf e s).ra.a<=100000):aQ ah 31 #[.c (some ⟨q,0,none⟩)] W (aro W (uf e s)):=Xr _ h.b.eg h.tt.texts h.tt.arp hn hs
end
section
open Go.ChangeShapes Go.WideShapes Go.ChangeAt Go.RowKit Go.Deep
def bA(b:UInt8):Array aB:=#[bv b]
theorem avF(l:List UInt8):(l.h fun x=>(bA x).a)=l.map bv:=by
 induction l with
 | nil=>rfl
 | cons a l ih=>rw[List.flatMap_cons,kL,ih];rfl
def aok:Ac:=⟨0,[],⟨0,jk,[],0⟩,[],false⟩
def qc:At:=⟨0,none,0,0,⟨0,jk,[],0⟩,[],false⟩
theorem Rf{α:Type}(d:α)(P:Nat->α->Prop):∀n:Nat,(∀i,i<n->∃u,P i u)->∃us:List α,us.a=n/\∀i,i<n->P i (us.b i d)
 | 0,_=>⟨[],rfl,fun i h=>by omega⟩
 | n+1,h=>by
   obtain⟨us,h1,h2⟩:=Rf d P n (fun i hi=>h i (by omega));obtain⟨u,hu⟩:=h n (by omega);refine⟨us++[u],by simp[h1],fun i hi=>?_⟩;rcases aZ i n with h3|h3
   ·rw[au,List.getElem?_append_left (by omega),<-au];exact h2 i h3
   ·obtain rfl:i=n:=by omega
    rw[au,List.getElem?_append_right (by omega),h1,Nat.sub_self];exact hu
structure AtO(W:ak)(a:At)(u:Ac):Prop where
 kind:a.kind=u.kind
 fr:gq W W.a.j a.Xn a.K9 u.frame
 Kk:a.K9<=a.Kk/\a.Kk<=9223372036854775807
 op:a.op=u.op
 E:a.E=u.E
 h:a.h=u.h
 OE:u.op.OE
theorem AtO.r{W:ak}{a:At}{u:Ac}(h:AtO W a u)(hn:a.K9<=1000000):AtR W a u:=⟨h.kind,h.fr,⟨h.Kk.1,h.Kk.2,hn⟩,h.op,h.E,h.h⟩
theorem AtR.go{W W':ak}{a:At}{u:Ac}(h:AtR W a u)(hb:aL W.a.j W W'):AtR W' a u:=⟨h.kind,h.fr.upon hb,h.Kk,h.op,h.E,h.h⟩
section
variable {H:Type} {enc:bM×aB->H} {w:ak} {base:Nat} {held:Bool} {fuel:Nat} {cs:List aB} {x:DataW H×List MemPlace}
theorem arq(h:lV enc ah w base (fun _=>true) held fuel 98 cs=some x):∃v:Vp,cs=v.ay.a/\True:=by
 obtain⟨xs,n,_,_,hl,hxl,hf⟩:=uO rZ h;rw[show ah.cellsOf 98=20 by kernel_rfl]at hl;obtain⟨y0,h0⟩:=Kn hxl hf 0 _ rfl;obtain⟨y1,h1⟩:=Kn hxl hf 1 _ rfl;obtain⟨y2,h2⟩:=Kn hxl hf 2 _ rfl;obtain⟨y3,h3⟩:=Kn hxl hf 3 _ rfl;obtain⟨a,ha⟩:=MZ h0;obtain⟨p,hp,_,_⟩:=sG (by kernel_rfl) h1;obtain⟨q,hq,_,_⟩:=sG (by kernel_rfl) h2;obtain⟨t,ht,_⟩:=Ie (by kernel_rfl) h3;have c0:(cs.f 0).d 17=a.ay.a:=ha;have c1:(cs.f 17).d 1=[.b .a p]:=hp;have c2:(cs.f 18).d 1=[.b .a q]:=hq;have c3:(cs.f 19).d 1=[.e t]:=ht;refine⟨⟨a,p,q,t⟩,?_,trivial⟩;have e:=tq cs 0 17;rw[c0,tq cs (0+17) 1,c1,tq cs (0+17+1) 1,c2,tq cs (0+17+1+1) 1,c3,iR (i:=0+17+1+1+1) (by omega)]at e;simpa[Vp.ay]using e
theorem ars(h:lV enc ah w base (fun _=>true) held fuel 29 cs=some x):∃(c:Cn)(l:List Vp),cs=c.ay.a/\gX Vp.ay 20 w w.a.j c.qG c.iI l/\c.iI<=c.qH/\c.qH<=9223372036854775807:=by
 obtain⟨xs,n,_,_,hl,hxl,hf⟩:=uO mW h;rw[show ah.cellsOf 29=54 by kernel_rfl]at hl;obtain⟨y0,h0⟩:=Kn hxl hf 0 _ rfl;obtain⟨y1,h1⟩:=Kn hxl hf 1 _ rfl;obtain⟨y2,h2⟩:=Kn hxl hf 2 _ rfl;obtain⟨y3,h3⟩:=Kn hxl hf 3 _ rfl;obtain⟨y4,h4⟩:=Kn hxl hf 4 _ rfl;obtain⟨y5,h5⟩:=Kn hxl hf 5 _ rfl;obtain⟨y6,h6⟩:=Kn hxl hf 6 _ rfl;obtain⟨y7,h7⟩:=Kn hxl hf 7 _ rfl;obtain⟨y8,h8⟩:=Kn hxl hf 8 _ rfl;obtain⟨y9,h9⟩:=Kn hxl hf 9 _ rfl;obtain⟨y10,h10⟩:=Kn hxl hf 10 _ rfl;obtain⟨y11,h11⟩:=Kn hxl hf 11 _ rfl;obtain⟨A,k,c,l,hs,hnc,hc,hll,hrd,hsp,_⟩:=OD Vp.ay (fun _=>True) 20 Vp.G (by kernel_rfl:ah.underlying _=some (.a 98)) (by kernel_rfl) (by omega) (fun n cs y hy=>arq hy) h0;obtain⟨z1,e1,_,_⟩:=sG (by kernel_rfl) h1;obtain⟨z2,e2,_,_⟩:=sG (by kernel_rfl) h2;obtain⟨z3,e3⟩:=ajG (k:=6) (e:=3) (by kernel_rfl) (by kernel_rfl) (by kernel_rfl) (by kernel_rfl) h3;obtain⟨z4,e4,_,_⟩:=sG (by kernel_rfl) h4;obtain⟨z5,e5,_,_⟩:=sG (by kernel_rfl) h5;obtain⟨z6,e6⟩:=Ms (k:=6) (e:=5) (by kernel_rfl) (by kernel_rfl) (by kernel_rfl) (by kernel_rfl) h6;obtain⟨z7,e7⟩:=MZ h7;obtain⟨z8,e8⟩:=MZ h8;obtain⟨z9,e9,_,_⟩:=sG (by kernel_rfl) h9;obtain⟨za,ea,_,_⟩:=sG (by kernel_rfl) h10;obtain⟨zb,eb,_,_⟩:=sG (by kernel_rfl) h11;have c0:(cs.f 0).d 1=[.a A k c]:=hs;have c1:(cs.f 1).d 1=[.b .a z1]:=e1;have c2:(cs.f 2).d 1=[.b .a z2]:=e2;have c3:(cs.f 3).d 6=z3.a.map (aI .a):=e3;have c4:(cs.f 9).d 1=[.b .a z4]:=e4;have c5:(cs.f 10).d 1=[.b .a z5]:=e5;have c6:(cs.f 11).d 6=z6.a.map bv:=e6;have c7:(cs.f 17).d 17=z7.ay.a:=e7;have c8:(cs.f 34).d 17=z8.ay.a:=e8;have c9:(cs.f 51).d 1=[.b .a z9]:=e9;have ca:(cs.f 52).d 1=[.b .a za]:=ea;have cb:(cs.f 53).d 1=[.b .a zb]:=eb;refine⟨⟨A,k,c,z1,z2,z3,z4,z5,z6,z7,z8,z9,za,zb⟩,l,?_,⟨hll,hrd,hsp⟩,hnc,hc⟩;have e:=tq cs 0 1;rw[c0,tq cs (0+1) 1,c1,tq cs (0+1+1) 1,c2,tq cs (0+1+1+1) 6,c3,tq cs (0+1+1+1+6) 1,c4,tq cs (0+1+1+1+6+1) 1,c5,tq cs (0+1+1+1+6+1+1) 6,c6,tq cs (0+1+1+1+6+1+1+6) 17,c7,tq cs (0+1+1+1+6+1+1+6+17) 17,c8,tq cs (0+1+1+1+6+1+1+6+17+17) 1,c9,tq cs (0+1+1+1+6+1+1+6+17+17+1) 1,ca,tq cs (0+1+1+1+6+1+1+6+17+17+1+1) 1,cb,iR (i:=0+1+1+1+6+1+1+6+17+17+1+1+1) (by omega)]at e;simpa[Cn.ay,Kr,AO]using e
theorem aol(h:lV enc ah w base (fun _=>true) held fuel 56 cs=some x):∃(A:Option aS)(n c:Nat)(l:List UInt8),cs=[.a A n c]/\gq w w.a.j A n l/\n<=c/\c<=9223372036854775807:=by
 obtain⟨A,n,c,l,hs,hnc,hc,hll,hrd,hsp,_⟩:=OD bA (fun _=>True) 1 (fun _=>rfl) dx (by kernel_rfl) (by omega) (fun n cs y hy=>by
  obtain⟨b,hb⟩:=ag' lC hy;exact⟨b,hb,trivial⟩) h
 rw[avF]at hrd;exact⟨A,n,c,l,hs,hrd,hnc,hc⟩
theorem aru(h:lV enc ah w base (fun _=>true) held fuel 66 cs=some x):∃a:At,cs=a.ay.a/\∃u:Ac,AtO w a u:=by
 obtain⟨xs,n,_,_,hl,hxl,hf⟩:=uO lG h;rw[show ah.cellsOf 66=34 by kernel_rfl]at hl;obtain⟨y0,h0⟩:=Kn hxl hf 0 _ rfl;obtain⟨y1,h1⟩:=Kn hxl hf 1 _ rfl;obtain⟨y2,h2⟩:=Kn hxl hf 2 _ rfl;obtain⟨y3,h3⟩:=Kn hxl hf 3 _ rfl;obtain⟨y4,h4⟩:=Kn hxl hf 4 _ rfl;obtain⟨z0,e0,_,_⟩:=sG (by kernel_rfl) h0;obtain⟨A,k,c,l,e1,hR,hnc,hc⟩:=aol h1;obtain⟨z2,e2,hg⟩:=al9 h2;obtain⟨z3,e3,_⟩:=Uf (by kernel_rfl) h3;obtain⟨z4,e4,_⟩:=Ie (by kernel_rfl) h4;have c0:(cs.f 0).d 1=[.b .a z0]:=e0;have c1:(cs.f 1).d 1=[.a A k c]:=e1;have c2:(cs.f 2).d 30=z2.ay.a:=e2;have c3:(cs.f 32).d 1=[.g (bK z3)]:=e3;have c4:(cs.f 33).d 1=[.e z4]:=e4;refine⟨⟨z0,A,k,c,z2,z3,z4⟩,?_,⟨z0,l,z2,z3,z4⟩,rfl,hR,⟨hnc,hc⟩,rfl,rfl,rfl,hg⟩;have e:=tq cs 0 1;rw[c0,tq cs (0+1) 1,c1,tq cs (0+1+1) 30,c2,tq cs (0+1+1+30) 1,c3,tq cs (0+1+1+30+1) 1,c4,iR (i:=0+1+1+30+1+1) (by omega)]at e;simpa[At.ay]using e
end
section
variable {H:Type} {enc:bM×aB->H} {W:ak} {base:Nat} {v:aB} {d:DataW H} {ps:List MemPlace} {held:Bool}
theorem aom(hval:Ib ah W .any base 22 v)(h:DataW.Trod enc ah W 0 (fun _=>true) held 22 v d ps):∃k:Vector UInt8 16,v=.d (iH k):=by
 obtain⟨cs,rfl⟩:∃cs,v=.d cs:=by
  simp only[Ib,nX]at hval;obtain⟨cs,h1,_⟩:=hval;exact⟨cs,h1⟩
 obtain⟨fuel,hf⟩:=h;obtain⟨k,hk⟩:=Ms (k:=16) (e:=5) (by kernel_rfl) (by kernel_rfl) (by kernel_rfl) (by kernel_rfl) hf;have hc:cs.a=k.a.map bv:=hk;exact⟨k,by unfold iH;rw[<-hc]⟩
theorem arv(hval:Ib ah W .any base 29 v)(h:DataW.Trod enc ah W 0 (fun _=>true) held 29 v d ps):∃(c:Cn)(l:List Vp),v=.d c.ay/\gX Vp.ay 20 W W.a.j c.qG c.iI l/\c.iI<=c.qH/\c.qH<=9223372036854775807:=by
 obtain⟨cs,rfl,_⟩:=okWide_struct mW hval;obtain⟨fuel,hf⟩:=h;obtain⟨c,l,hcs,hr⟩:=ars hf;have hc:cs.a=c.ay.a:=hcs;exact⟨c,l,by rw[GD.1 hc],hr⟩
theorem akH(hval:Ib ah W .any base 49 v)(h:DataW.Trod enc ah W 0 (fun _=>true) held 49 v d ps):
 ∃(A:Option aS)(n c:Nat)(l:List At)(us:List Ac),v=.a A n c/\gX At.ay 34 W W.a.j A n l/\us.a=n/\(∀i,i<n->AtO W (l.b i qc) (us.b i aok))/\n<=9223372036854775807:=by
 obtain⟨a0,len,cap,rfl⟩:=okWide_slice Tryz.underlying49 hval;obtain⟨fuel,hf⟩:=h;obtain⟨A,n,c,l,hs,hnc,hc,hll,hrd,hsp,hgd⟩:=OD At.ay (fun a=>∃u,AtO W a u) 34 At.G Tryz.underlying49 (by kernel_rfl) (by omega) (fun n cs y hy=>aru hy) hf;simp only[cO,List.cons.injEq,Value.slice.injEq,and_true]at hs;obtain⟨rfl,rfl,rfl⟩:=hs;obtain⟨us,h1,h2⟩:=Rf aok (fun i u=>AtO W (l.b i qc) u) len (fun i hi=>hgd _ (by rw[au,aC (by omega),Option.getD_some];exact dR _));exact⟨a0,len,cap,l,us,rfl,⟨hll,hrd,hsp⟩,h1,h2,by omega⟩
end
end
structure OcR(W:ak)(o:Oc)(u:Ou):Prop where
 err:o.err=u.err
 iW:o.iW=u.iW
 uM:o.uM=u.uM
 Y:o.Y=u.Y
 E:o.E=u.E
 i:gq W W.a.j o.Qj o.Yo u.i
theorem OuR.rd{B:Nat}{W:ak}{o:Oc}{u:Ou}(h:OuR B W o u):OcR W o u:=⟨h.err,h.iW,h.uM,h.Y,h.E,gq.gU h.vS⟩
theorem OcR.go{W W':ak}{o:Oc}{u:Ou}(h:OcR W o u)(hb:aL W.a.j W W'):OcR W' o u:=⟨h.err,h.iW,h.uM,h.Y,h.E,h.i.upon hb⟩
theorem akI(c:Cn)(w:ak):aQ ah 13 #[.d c.ay] w (gM w (.e (decide (c.iI<=20)&&decide (c.j<=260)))):=by
 have Z0:=ab ((Bx.start w).new c.ay 29);obtain⟨k1,h1⟩:∃k,decide (c.iI<=20)=k:=⟨_,rfl⟩
 obtain⟨k2,h2⟩:∃k,decide (c.j<=260)=k:=⟨_,rfl⟩
 have h1':decide ((c.iI:Int)<=20)=k1:=by rw[<-h1,decide_eq_decide];omega
 go_enter Tryz.func13,Tryz.ntmps13;go_upto_region 1 with fail
 generalize w.alloc (.D c.ay 29)=w1 at Z0 ⊢;obtain⟨x1,x2,x3,x4⟩:=Z0.i.X.K;cases k1
 ·go_wp2
  go_ret;exact⟨by rw[h1];rfl,Z0.i.R⟩
 cases k2
 ·go_wp2
  go_ret;exact⟨by rw[h1,h2];rfl,Z0.i.R⟩
 go_wp2;go_ret;exact⟨by rw[h1,h2];rfl,Z0.i.R⟩
def Xt(a:At):Bool:=decide (a.K9<=1500)&&(decide (a.E.a<=60)&&(decide (a.op.E.a<=60)&&decide (a.op.h.E.a<=60)))
def Ol(l:List At):Bool:=decide (l.a<=60)&&(dX l.a).all fun i=>Xt (l.b i qc)
theorem At.asO(x:At)(j:Nat)(hj:j<30):x.ay[2+j]? = x.op.ay[j]?:=by
 have h:=At.asJ x;have h2:(x.ay.extract 2 32)[j]? = x.op.ay[j]?:=by rw[h]
 rw[cu,if_pos (by rw[At.G];omega)]at h2;exact h2
theorem At.D{W:ak}{B n i:Nat}{A:Option aS}{l:List At}(h:gX At.ay 34 W B A n l)(hi:i<n):∃b o,A=some ⟨b,o,none⟩/\W.b ⟨b,o+i*34,none⟩=some (.b .a (l.b i qc).kind)/\W.b ⟨b,o+i*34+1,none⟩=some (.a (l.b i qc).Xn (l.b i qc).K9 (l.b i qc).Kk)/\W.b ⟨b,o+i*34+32,none⟩=some (.g (bK (l.b i qc).E))/\W.b ⟨b,o+i*34+30,none⟩=some (.g (bK (l.b i qc).op.E))/\W.b ⟨b,o+i*34+3,none⟩=some (.g (bK (l.b i qc).op.h.E)):=by
 obtain⟨b,o,hA,_,hc⟩:=gX.cell At.G qc h hi;refine⟨b,o,hA,?_,(hc 1 (by omega)).trans (At.an9 _),(hc 32 (by omega)).trans (At.uK _),?_,?_⟩
 ·have:=(hc 0 (by omega)).trans (At.yt _);rw[nD]at this;exact this
 ·rw[hc 30 (by omega),At.asO _ 28 (by omega)];simp[qM.ay,Bk.G]
 ·rw[hc 3 (by omega),At.asO _ 1 (by omega)];simp[qM.ay];rfl
theorem aeL(l:List At)(A:Option aS)(n c:Nat)(w:ak)(hR:gX At.ay 34 w w.a.j A n l)(hn:n<=9223372036854775807):
 aQ ah 66 #[.a A n c] w fun e w'=>e=.a (.e (Ol l))/\w=w':=by
 have HR:=ab hR;have HN:=ab hR.1;clear hR;have HFW:=ab (show Ol l=(decide (n<=60)&&(dX n).all (fun i=>Xt (l.b i qc)))by unfold Ol;rw[HN.i]);go_enter Tryz.func66,Tryz.ntmps66;go_wp2;go_loop [3] (fun s3=>∃i:Nat,i<=n/\i<=100/\s3=.b .a i/\∀k,k<i->Xt (l.b k qc)=true) (fun s3=>n-(intOf s3).e)
 case atStart=>exact⟨0,by omega,by omega,rfl,fun k hk=>by omega⟩
 case round=>
  obtain⟨i,hin,aFa,rfl,hall⟩:=hrel;have HA:=ab hall;clear hall;by_cases hlt:i<n
  ·have hi:(i:Int)<n:=by omega
   by_cases h6:i<100
   ·have hi6:(i:Int)<100:=by omega
    obtain⟨b,o,rfl,c0,c1,c2,c3,c4⟩:=At.D HR.i hlt;obtain⟨a,ha⟩:=dw (l.b i qc);rw[<-ha]at c0 c1 c2 c3 c4;have HX:=ab ha;clear ha c0;obtain⟨m1,hm1⟩:∃m,m=a.K9:=⟨_,rfl⟩
    obtain⟨m2,hm2⟩:∃m,m=a.E:=⟨_,rfl⟩
    obtain⟨m3,hm3⟩:∃m,m=a.op.E:=⟨_,rfl⟩
    obtain⟨m4,hm4⟩:∃m,m=a.op.h.E:=⟨_,rfl⟩
    have HFA:=ab (show Xt a=(decide (m1<=1500)&&(decide (m2.a<=60)&&(decide (m3.a<=60)&&decide (m4.a<=60))))by rw[hm1,hm2,hm3,hm4];rfl);rw[<-hm1]at c1;rw[<-hm2]at c2;rw[<-hm3]at c3;rw[<-hm4]at c4;clear hm1 hm2 hm3 hm4;obtain⟨k1,e1⟩:∃k,decide ((1500:Int)<m1)=k:=⟨_,rfl⟩
    obtain⟨k2,e2⟩:∃k,decide ((60:Int)<m2.a)=k:=⟨_,rfl⟩
    obtain⟨k3,e3⟩:∃k,decide ((60:Int)<m3.a)=k:=⟨_,rfl⟩
    obtain⟨k4,e4⟩:∃k,decide ((60:Int)<m4.a)=k:=⟨_,rfl⟩
    have HB:=ab (show Xt a=(!k1&&(!k2&&(!k3 && !k4)))by
     rw[HFA.i,<-e1,<-e2,<-e3,<-e4];rw[dA];simp only[bf,decide_eq_true_eq,nY,decide_eq_false_iff_not];omega)
    cases k1;rotate_left
    ·have HF:=ab (show Ol l=false by rw[HFW.i,lQ _ i _ hlt (by rw[<-HX.i,HB.i];rfl)];simp)
     go_wp2;go_ret;exact⟨by rw[HF.i];rfl,rfl⟩
    cases k2;rotate_left
    ·have HF:=ab (show Ol l=false by rw[HFW.i,lQ _ i _ hlt (by rw[<-HX.i,HB.i];rfl)];simp)
     go_wp2;go_ret;exact⟨by rw[HF.i];rfl,rfl⟩
    cases k3;rotate_left
    ·have HF:=ab (show Ol l=false by rw[HFW.i,lQ _ i _ hlt (by rw[<-HX.i,HB.i];rfl)];simp)
     go_wp2;go_ret;exact⟨by rw[HF.i];rfl,rfl⟩
    cases k4;rotate_left
    ·have HF:=ab (show Ol l=false by rw[HFW.i,lQ _ i _ hlt (by rw[<-HX.i,HB.i];rfl)];simp)
     go_wp2;go_ret;exact⟨by rw[HF.i];rfl,rfl⟩
    go_wp2;go_round
    case rel=>exact⟨i+1,by omega,by omega,by go_num,fun k hk=>by
     by_cases hki:k=i
     ·rw[hki,<-HX.i,HB.i];rfl
     ·exact HA.i k (by omega)⟩
    case measure=>simp[intOf]<;>omega
   ·have hd:decide ((i:Int)<100)=false:=by simp;omega
    have HF:=ab (show Ol l=decide ((n:Int)<=60)by
     rw[HFW.i,show decide (n<=60)=false from decide_eq_false (by omega),show decide ((n:Int)<=60)=false from decide_eq_false (by omega)];rfl)
    go_wp2;go_ret;exact⟨by rw[HF.i];rfl,rfl⟩
  ·obtain rfl:i=n:=by omega
   have hd:decide ((i:Int)<i)=false:=by simp
   have HF:=ab (show Ol l=decide ((i:Int)<=60)by
    rw[HFW.i,fM.2 (fun k hk=>HA.i k (dU.1 hk)),Fz];rw[decide_eq_decide];omega)
   go_wp2;go_ret;exact⟨by rw[HF.i];rfl,rfl⟩
def ag3(c:Cn)(l:List At):Bool:=(decide (c.iI<=20)&&decide (c.j<=260))&&Ol l
theorem arw(c:Cn)(l:List At)(A:Option aS)(n k:Nat)(w:ak)(hR:gX At.ay 34 w w.a.j A n l)(hn:n<=9223372036854775807):
 aQ ah 21 #[.d c.ay,.a A n k] w (gM w (.e (ag3 c l))):=by
 have Z0:=ab ((Bx.start w).new c.ay 29);obtain⟨k1,h1⟩:∃k,(decide (c.iI<=20)&&decide (c.j<=260))=k:=⟨_,rfl⟩
 have HJ:=ab (show ag3 c l=(k1&&Ol l)by unfold ag3;rw[h1]);have CS:=ab (fun w=>akI c w);rw[h1]at CS;have CF:=ab (fun w1 (hb:aL w.a.j w w1)=>aeL l A n k w1 (hR.go hb) hn);clear h1 hR;go_enter Tryz.func21,Tryz.ntmps21;go_upto_region 1 with fail
 generalize w.alloc (.D c.ay 29)=w1 at Z0 ⊢;have l1:=Xy.nC Z0.i.X (Cn.G _);go_wp2_with fail
 (with_reducible refine(CS.i _).g ?_)
 rintro e w2 ⟨rfl,hb⟩;have Z2:=ab (Z0.i.go hb);clear hb l1;cases k1
 ·go_wp2
  go_ret;exact⟨by rw[HJ.i];rfl,Z2.i.R⟩
 go_wp2_with (go_at_call 66;(with_reducible refine(CF.i _ Z2.i.R).g ?_);rintro e w3 ⟨rfl,rfl⟩);go_ret;exact⟨by rw[HJ.i];rfl,Z2.i.R⟩
def vB(l:List UInt8):fu:=⟨false,pX 16 l⟩
def aon:Cn:=⟨none,1,1,7,9,D7 fun i=>if i.val=0 then 0 else 5,1,1,bF 6 0,mX,⟨true,bF 16 0⟩,1000,2,5⟩
def H9:Vp:=⟨vB [5,6,7,8],6,80,false⟩
def yN:En:=⟨pX 16 [1],aon,[H9]⟩
def akJ:Bk:=⟨[97],vB [10,0,0,9],8080,bF 6 0,4607182418800017408,false⟩
def awF:List UInt8:=[0,0,0,0,0,0,0,0,0,0,0,0,8,0,69,0,0,42,0,0,64,0,64,6,42,187,1,2,3,4,5,6,7,8,3,232,0,80,0,0,0,0,0,0,0,0,80,2,0,0,51,44,0,0,104,105]
def awW:List UInt8:=[0,0,0,0,0,0,0,0,0,0,0,0,8,0,69,0,0,42,0,0,64,0,64,6,44,192,1,2,3,4,10,0,0,9,3,232,31,144,0,0,0,0,0,0,0,0,80,2,0,0,21,241,0,0,104,105]
def acF:Ac:=⟨1,awF,⟨0,jk,[],0⟩,[],false⟩
def acA:Ac:=⟨2,[],⟨1,akJ,[],0⟩,[],false⟩
def acH(n:List UInt8):Ac:=⟨3,[],⟨0,jk,[],0⟩,n,false⟩
def acK(k:Int):Ac:=⟨k,[],⟨0,jk,[],0⟩,[],false⟩
def aw0:pG×Ou:=wL yN wH acF
def aw1:pG×Ou:=wL yN aw0.1 acA
def aw2:pG×Ou:=wL yN aw1.1 acF
def aw3:pG×Ou:=wL yN aw2.1 acF
def aw4:pG×Ou:=wL yN aw3.1 (acH [98])
def aw5:pG×Ou:=wL yN aw4.1 (acH [97])
def aw6:pG×Ou:=wL yN aw5.1 acF
def aw7:pG×Ou:=wL yN aw6.1 (acK 4)
def Ua:pG×Ou:=wL yN aw7.1 (acK 9)
theorem asP:yh aon [H9]=true:=by decide +kernel
theorem aFd:aw0.2={Gq with iW:=8}:=by decide +kernel
theorem aFe:aw1.2.Y=1:=by decide +kernel
theorem aoo:aw2.2=⟨0,0,false,1,[97],awW⟩:=by decide +kernel
theorem aFf:aw3.2.uM=true:=by decide +kernel
theorem aFg:aw4.2.err=5:=by decide +kernel
theorem aFh:aw5.2.err=0:=by decide +kernel
theorem aFi:aw6.2.iW=8:=by decide +kernel
theorem aFj:aw7.2.err=0:=by decide +kernel
theorem aFk:Ua.2.err=1:=by decide +kernel
theorem akK:Ua.1.no=2/\Ua.1.gF=1/\Ua.1.lW[8]=2/\Ua.1.h.a=1/\(uf yN Ua.1).ra.a=0:=by decide +kernel
theorem Ow.rd{B n c:Nat}{g0:Option Nat}{w w':ak}{A:Option aS}{bs:List UInt8}(h:Ow B g0 w (.a A n c) bs w'):gq w' w'.a.j A n bs:=by
 obtain⟨A',c',e,_,_⟩:=jG h.vS;injection e with e1 e2 e3
 have:=h.vS;rw[<-e2]at this;exact gq.gU this
theorem aeM(s d:fu)(p:Nat)(hp:p<=255)(w:ak)(A:Option aS)(n c:Nat)(l:List UInt8)(hnn:n<=65535)(hnc:n<=c)(hr:gq w w.a.j A n l)(hT:(Je p l).1.dz=(n:Int))(lp:List UInt8)(hlp:psB s d p n=lp)(hpl:lp.a<=1000):
 aQ ah 188 #[.d s.ay,.d d.ay,.b .a p,.a A n c] w (gM w (.b .a (xg (lp++l):Nat))):=by
 have HR:=ab hr;have hl:=ab hr.len;have HLP:=ab hlp;have HPL:=ab hpl;clear hr hlp hpl;have h0:=((Bx.start w).new s.ay 27).new d.ay 27;rw[show(w.alloc (.D s.ay 27)).a.j=w.a.j+1 by simp]at h0;have Z0:=ab h0;clear h0;obtain⟨r,hrr⟩:=dw (Je p l);rw[<-hrr]at hT;have CP:=ab (fun w1 (hr:gq w1 w1.a.j A n l)=>adS w1 p A n c l (by omega) hr);unfold PtP at CP;rw[<-hrr]at CP;clear hrr;obtain⟨k,er⟩:=r;simp only at hT CP;go_enter Tryz.func188,Tryz.ntmps188;go_upto_region 1 with fail
 generalize(w.alloc (.D s.ay 27)).alloc (.D d.ay 27)=w0 at Z0 ⊢;go_upto_region 2 with(go_at_call 227;(with_reducible refine(CP.i _ (Z0.i.NA HR.i)).g ?_);rintro e w1 ⟨rfl,hb1⟩;have Z1:=ab ((Z0.i.go hb1).new k.ay 172);clear hb1)
 generalize w1.alloc (.D k.ay 172)=w2 at Z1 ⊢;generalize w1.a.j=y at Z1 ⊢;have KS:=ab (fun(W':ak) (h:Bx [(y,k.ay),(w.a.j+1,d.ay),(w.a.j,s.ay)] w W')=>show W'.b ⟨y,4,none⟩=some (.b .a n)/\(rJ (.c (some ⟨w.a.j,0,none⟩))).I ah W'=.ok (.d s.ay) W'/\(rJ (.c (some ⟨w.a.j+1,0,none⟩))).I ah W'=.ok (.d d.ay) W' by
  refine⟨by rw[h.X.K.1 4,Pt.yj,hT],?_,?_⟩
  ·obtain⟨x1,x2,x3,x4⟩:=h.b2.K;go_simp
  ·obtain⟨x1,x2,x3,x4⟩:=h.b1.K;go_simp)
 have CS:=ab (fun W'=>Yf s d p n hp hnn W');rw[HLP.i]at CS;unfold Kv at CS;have i1:(0:Int)<=n:=by omega
 have i2:(n:Int)<=c:=by omega
 have i3:n<=c:=hnc;clear hT;go_region_held_law (fun W'=>W'.b ⟨y,4,none⟩=some (.b .a n)/\(rJ (.c (some ⟨w.a.j,0,none⟩))).I ah W'=.ok (.d s.ay) W'/\(rJ (.c (some ⟨w.a.j+1,0,none⟩))).I ah W'=.ok (.d d.ay) W')
  (first|exact KS.i _ Z1.i.drew|exact KS.i _ Z6.i|exact KS.i _ Z8.i|go_keep)
  (first
  | (go_at_call 259;(with_reducible refine(CS.i _).g ?_);rintro e w6 ⟨A6,n6,c6,rfl,hn6,ho6,hb6⟩;have Z6:=ab (Z1.i.drew.go hb6);have P6:=ab (Ow.gU ho6 hb6.j);have R6:=ab (Z6.i.NA HR.i);have LN:=ab (show lp.a+n<=1000000000 by have:=HPL.i;omega);have HB6:=ab (show w.a.j<=w2.a.j from Z1.i.R.j);clear hn6 ho6 hb6)
  | (refine Ng (o:=⟨some 28,_,_,_,_,_⟩) rfl (.a 23) (.a 27) rfl (.a A6 n6 c6) A n c rfl P6.i rfl R6.i LN.i ?_;intro A8 n8 c8 w8 h8 h9;have O8:=ab h8;have Z8:=ab (Z6.i.ow h9 (fun p hp=>eO ((Z1.i.drew.2 p hp).2.lt) (av _)) HB6.i);clear h8 h9))
 go_upto_region 3 with fail
 have R8:=ab O8.i.rd;have CU:=ab (Wd w8 A8 n8 c8 (lp++l) (by have h1:=R8.i.len;have:=HPL.i;have:=hl.i;rw[aR]at h1;omega) R8.i);go_wp2_with (go_at_call 186;(with_reducible refine CU.i.g ?_);rintro e w9 ⟨rfl,hb9⟩;have HB9:=ab hb9;clear hb9);go_ret;exact⟨rfl,Z8.i.R.trans (HB9.i.g Z8.i.R.j)⟩
def xD(l:List UInt8):List UInt8:=(l.set 16 0).set 17 0
def Xu(s d:fu)(l:List UInt8):List UInt8:=((xD l).set 16 (aJ (xg (psB s d 6 l.a++xD l)/256))).set 17 (aJ (xg (psB s d 6 l.a++xD l)%256))
theorem akL(w:ak):aQ ah 187 #[.b .a 6] w fun e w'=>e=.a (.b .a 16)/\w=w':=by
 go_enter Tryz.func187,Tryz.ntmps187;go_wp2;go_ret;exact⟨rfl,rfl⟩
theorem ab3(s d:fu)(w:ak)(A:Option aS)(n c:Nat)(l:List UInt8)(h18:18<=n)(hnn:n<=65535)(hr:gq w w.a.j A n l)(hT:(Je 6 (xD l)).1.dz=(n:Int)):
 aQ ah 107 #[.d s.ay,.d d.ay,.b .a 6,.a A n c] w (Kv w (Xu s d l)):=by
 have HR:=ab hr;have hl:=ab hr.len;have HT:=ab hT;have HP:=ab (show Xu s d l=((xD l).set 16 (aJ (xg (psB s d 6 l.a++xD l)/256))).set 17 (aJ (xg (psB s d 6 l.a++xD l)%256))from rfl);clear hr hT;have h0:=((Bx.start w).new s.ay 27).new d.ay 27;rw[show(w.alloc (.D s.ay 27)).a.j=w.a.j+1 by simp]at h0;have Z0:=ab h0;clear h0;go_enter Tryz.func107,Tryz.ntmps107;go_upto_region 1 with fail
 generalize(w.alloc (.D s.ay 27)).alloc (.D d.ay 27)=w0 at Z0 ⊢;have L0:=ab (((Ly.amY w w0 Z0.i.R #[] [] 0 rfl (by omega) rfl).add (q:=w.a.j) (c:=s.ay) (Z0.i.b1.alloc _) (by have:=Z0.i.b1.lt;simp[jV];omega)).add (q:=w.a.j+1) (c:=d.ay) (Z0.i.X.alloc _) (by have:=Z0.i.X.lt;simp[jV];omega));have R0:=ab ((Z0.i.NA HR.i).S ((aH w0.a.j w0).alloc (av _) (.D #[] 5)));have H0:=ab (show([]:List UInt8).a+n<=1000000000 by simp;omega);go_upto_region 2 with(at_builtin;refine kC rfl (.a 12) (.a 13) rfl rfl L0.i.o rfl R0.i H0.i ?_;intro A1 n1 c1 w1 h2 h3;have L1:=ab (L0.i.step h3);clear h2 h3)
 rw[List.nil_append]at L1;go_upto_region 3 with(go_at_call 187;(with_reducible refine(akL _).g ?_);rintro e w2 ⟨rfl,rfl⟩)
 obtain⟨hm1,hm2,g,rfl,k1,k2⟩:=L1.i.at0 (by rw[hl.i];omega);rw[hl.i]at hm1;have HM:=ab hm1;have m1:(16:Int)<n1:=by omega
 have m2:(17:Int)<n1:=by omega
 have k16:=k1 16 (by rw[hl.i];omega);have M2:=ab (L1.i.agk 16 0);rw[show bv 0=.b .b 0 from rfl]at M2;clear k1 hm1 hm2 L0 R0 H0;go_upto_region 4 with fail
 generalize w1.F ⟨g,16,none⟩ (.b .b 0)=w3 at *;obtain⟨-,-,g',eg,k3,k4⟩:=M2.i.at0 (by rw[aV,hl.i];omega);injection eg with eg
 injection eg with eg
 subst eg;have k17:=k3 17 (by rw[aV,hl.i];omega);have M3:=ab (M2.i.agk 17 0);rw[show bv 0=.b .b 0 from rfl]at M3;clear k3 k2 k16;go_upto_region 5 with fail
 generalize w3.F ⟨g,17,none⟩ (.b .b 0)=w4 at *;clear k4 k17 M2 L1;have M3:=ab (show Ly w.a.j [(w.a.j+1,d.ay),(w.a.j,s.ay)] w w4 (.a (some ⟨g,0,none⟩) n1 c1) (xD l)from M3.i);have HZL:=ab (show(xD l).a=n by unfold xD;rw[aV,aV,hl.i]);obtain⟨zl,hzl⟩:∃z,z=xD l:=⟨_,rfl⟩
 obtain⟨lp,hlp⟩:∃z,psB s d 6 n=z:=⟨_,rfl⟩
 rw[hl.i]at HP;rw[<-hzl]at M3 HZL HT HP;rw[hlp]at HP;have CQ:=ab (aeM s d 6 (by omega) w4 (some ⟨g,0,none⟩) n1 c1 zl (by rw[HM.i];omega) (by have:=M3.i.at0 (by rw[HZL.i];omega);exact this.2.1) (Dn M3.i.o (aH _ _)) (by rw[HM.i];exact HT.i) lp (by rw[HM.i];exact hlp) (by rw[<-hlp];have:=aqj s d 6 n;omega));rw[show((6:Nat):Int)=6 from rfl]at CQ;clear hzl hlp HT;have HSL:=ab (show xg (lp++zl)<=65535 by unfold xg;omega);generalize xg (lp++zl)=z at *;have z0:(0:Int)<=z:=by omega
 have z1:(z:Int)<=65535:=by have:=HSL.i;omega
 obtain⟨x1,x2,x3,x4⟩:=M3.i.b1.K;obtain⟨y1,y2,y3,y4⟩:=M3.i.X.K;go_upto_region 6 with(go_at_call 188;(with_reducible refine CQ.i.g ?_);rintro e w6 ⟨rfl,hb⟩;have M4:=ab (M3.i.go hb);clear hb)
 clear x1 x2 x3 x4 y1 y2 y3 y4;obtain⟨hm1,hm2,g',eg,k1,k2⟩:=M4.i.at0 (by rw[HZL.i];omega);injection eg with eg
 injection eg with eg
 subst eg;have k16:=k1 16 (by rw[HZL.i];omega);have M5:=ab (M4.i.agk 16 (aJ (z/256)));have e1:((aJ (z/256)).e:Int)=(z:Int)/256:=by rw[yU _ (by have:=HSL.i;omega)];omega
 unfold bv at M5;rw[e1]at M5;clear k1 e1 hm1 hm2;obtain⟨bz,hbz⟩:∃b,((z:Int)==0)=b:=⟨_,rfl⟩
 cases bz
 all_goals
  go_upto_region 8 with fail
  go_upto_region 9 with fail
  generalize w6.F ⟨g,16,none⟩ (.b .b ((z:Int)/256))=w7 at *;obtain⟨-,-,g',eg,k3,k4⟩:=M5.i.at0 (by rw[aV,HZL.i];omega);injection eg with eg
  injection eg with eg
  subst eg;have k17:=k3 17 (by rw[aV,HZL.i];omega);have M6:=ab (M5.i.agk 17 (aJ (z%256)));have e2:((aJ (z%256)).e:Int)=(z:Int)%256:=by rw[yU _ (by omega)];omega
  unfold bv at M6;rw[e2]at M6;clear k3 e2 k2 k16;go_wp2;go_ret;rw[<-HP.i]at M6;have ho:=M6.i.o;obtain⟨A9,c9,e9⟩:=ho.Cu;injection e9 with e9 e10 e11
  subst e10;exact⟨_,_,_,rfl,rfl,ho.vS,ho.R⟩
def ab4(t:Tu)(load:List UInt8):List UInt8:=[aJ (t.kV.e/256),aJ (t.kV.e%256),aJ (t.jR.e/256),aJ (t.jR.e%256)]++[0,0,0,0,0,0,0,0,80,2,0,0,0,0,0,0]++load
def az7(t:Tu)(n:Nat):Fo:=⟨20,20+(n:Int),0,0,false,true,64,6,t.h,t.Y⟩
def mk6(t:Tu)(load:List UInt8):List UInt8:=qv (bF 6 0) (bF 6 0) [] 2048++tQ (az7 t (ab4 t load).a)++Xu t.h t.Y (ab4 t load)
@[go_sem]theorem asQ(w:ak)(b:Int):(BJ 16 #[(0,.b .b 0),(1,.b .b 0),(2,.b .b 0),(3,.b .b 0),(4,.b .b 0),(5,.b .b 0),(6,.b .b 0),(7,.b .b 0),(8,.b .b 80),(9,.b .b b),(10,.b .b 0),(11,.b .b 0),(12,.b .b 0),(13,.b .b 0),(14,.b .b 0),(15,.b .b 0)]).I ah w=.ok (.a (some ⟨w.a.j,0,none⟩) 16 16) (w.alloc (.D #[.b .b 0,.b .b 0,.b .b 0,.b .b 0,.b .b 0,.b .b 0,.b .b 0,.b .b 0,.b .b 80,.b .b b,.b .b 0,.b .b 0,.b .b 0,.b .b 0,.b .b 0,.b .b 0] 5)):=by
 obtain⟨i0,hi0,hz0,hz1,hz2⟩:=zA;have hr:Array.range 16 = #[0,1,2,3,4,5,6,7,8,9,10,11,12,13,14,15]:=by apply Array.ext';rw[Array.toList_range];rfl
 simp[BJ,bI,run_underlying dx,zeroValue,sizeOf,typeInfo,hi0,hz0,hz1,Instr.fill,newRow,cO,hr]
theorem Om(t:Tu)(h6:t.h.h=false)(hp:t.aP=6)(s0:0<=t.kV)(s1:t.kV<=65535)(d0:0<=t.jR)(d1:t.jR<=65535)(w:ak)(A:Option aS)(m c:Nat)(load:List UInt8)(hm:m<=1000)(hr:gq w w.a.j A m load)(hT:(Je 6 (xD (ab4 t load))).1.dz=((20+m:Nat):Int)):
 aQ ah 40 #[.d qJ.ay,.d t.ay,.b .a 2,.a A m c] w (Kv w (mk6 t load)):=by
 have HR:=ab hr;have hl:=ab hr.len;have HT:=ab hT;have HM:=ab (show mk6 t load=qv (bF 6 0) (bF 6 0) [] 2048++tQ (az7 t (ab4 t load).a)++Xu t.h t.Y (ab4 t load)from rfl);have HSB:=ab (show ab4 t load=[aJ (t.kV.e/256),aJ (t.kV.e%256),aJ (t.jR.e/256),aJ (t.jR.e%256)]++[0,0,0,0,0,0,0,0,80,2,0,0,0,0,0,0]++load from rfl);clear hr hT;have h0:=((Bx.start w).new qJ.ay 108).new t.ay 81;rw[show(w.alloc (.D qJ.ay 108)).a.j=w.a.j+1 by simp]at h0;have Z0:=ab h0;clear h0;have hty:agl qJ t=Lc.mk (bF 6 0) (bF 6 0) none 0 0 2048 0:=by unfold agl qJ;rw[h6];rfl
 have CT:=ab (fun w1=>abB qJ t w1);rw[hty]at CT;have CP:=ab (fun w1=>Wo (Lc.mk (bF 6 0) (bF 6 0) none 0 0 2048 0) [] (by simp) (by simp) (by simp) (by simp) w1 (gX.nil _ _));unfold Kv at CP;obtain⟨lb,hlb⟩:∃l,l=qv (bF 6 0) (bF 6 0) [] 2048:=⟨_,rfl⟩
 have LB:=ab (show lb.a<=100 by rw[hlb];simp[qv,pY]);simp only at CP;rw[<-hlb]at CP HM;clear hlb hty;go_enter Tryz.func40,Tryz.ntmps40;go_upto_region 1 with fail
 generalize(w.alloc (.D qJ.ay 108)).alloc (.D t.ay 81)=w0 at Z0 ⊢;obtain⟨x1,x2,x3,x4⟩:=Z0.i.b1.K;obtain⟨y1,y2,y3,y4⟩:=Z0.i.X.K;go_upto_region 2 with(first
  | (go_at_call 104;(with_reducible refine(CT.i _).g ?_);rintro e w1 ⟨rfl,hb1⟩;have Z1:=ab (Z0.i.go hb1);clear hb1)
  | (go_at_call 103;(with_reducible refine(CP.i _).g ?_);rintro e w2 ⟨A2,n2,c2,rfl,hn2,ho2,hb2⟩;have Z2:=ab (Z1.i.go hb2);have O2:=ab ho2;have N2:=ab hn2;have S2:=ab hb2.j;have S1:=ab Z1.i.R.j;clear hb2 ho2 hn2))
 clear x1 x2 x3 x4 y1 y2 y3 y4;obtain⟨y1,y2,y3,y4⟩:=Z2.i.X.K;have b34:=Tu.Vu t;rw[hp]at b34;have b35:=Tu.afQ t;have b36:=Tu.aa1 t;have b0:t.ay[0]? = some (.e false):=by rw[<-h6];exact Tu.pW t
 obtain⟨sp,hsp⟩:∃k,k=t.kV:=⟨_,rfl⟩
 obtain⟨dp,hdp⟩:∃k,k=t.jR:=⟨_,rfl⟩
 rw[<-hsp]at b35 s0 s1 HSB;rw[<-hdp]at b36 d0 d1 HSB;clear hsp hdp hp h6;have B0:=ab (((Ly.amY w2 w2 (aH _ _) #[.b .b (sp/256),.b .b (sp%256),.b .b (dp/256),.b .b (dp%256)] [aJ (sp.e/256),aJ (sp.e%256),aJ (dp.e/256),aJ (dp.e%256)] 4 rfl (by omega) (by
  obtain⟨e1,e2⟩:=Wn sp s0 s1;obtain⟨e3,e4⟩:=Wn dp d0 d1;simp only[kL,List.map_nil,bv];rw[e1,e2,e3,e4])).add (q:=w.a.j) (c:=qJ.ay) (Z2.i.b1.alloc _) (by have:=Z2.i.b1.lt;simp[jV];omega)).add (q:=w.a.j+1) (c:=t.ay) (Z2.i.X.alloc _) (by have:=Z2.i.X.lt;simp[jV];omega))
 go_upto_region 3 with fail
 have O3:=ab (vG O2.i (.D #[.b .b (sp/256),.b .b (sp%256),.b .b (dp/256),.b .b (dp%256)] 5));have S3:=ab (show w2.a.j<(w2.alloc (.D #[.b .b (sp/256),.b .b (sp%256),.b .b (dp/256),.b .b (dp%256)] 5)).a.j by simp);have F3:=ab (show aL w2.a.j w2 (w2.alloc (.D #[.b .b (sp/256),.b .b (sp%256),.b .b (dp/256),.b .b (dp%256)] 5))from(aH _ _).alloc (av _) _);generalize w2.alloc (.D #[.b .b (sp/256),.b .b (sp%256),.b .b (dp/256),.b .b (dp%256)] 5)=w3 at B0 O3 S3 F3 ⊢;clear y1 y2 y3 y4;obtain⟨y1,y2,y3,y4⟩:=B0.i.X.K;have B1:=ab (B0.i.alloc (.D #[.b .b 0,.b .b 0,.b .b 0,.b .b 0,.b .b 0,.b .b 0,.b .b 0,.b .b 0,.b .b 80,.b .b 2,.b .b 0,.b .b 0,.b .b 0,.b .b 0,.b .b 0,.b .b 0] 5));have R1:=ab (Wi w3 #[.b .b 0,.b .b 0,.b .b 0,.b .b 0,.b .b 0,.b .b 0,.b .b 0,.b .b 0,.b .b 80,.b .b 2,.b .b 0,.b .b 0,.b .b 0,.b .b 0,.b .b 0,.b .b 0] [0,0,0,0,0,0,0,0,80,2,0,0,0,0,0,0] rfl);have L1:=ab (show([aJ (sp.e/256),aJ (sp.e%256),aJ (dp.e/256),aJ (dp.e%256)]:List UInt8).a+16<=1000000000 by simp);go_upto_region 7 with(at_builtin;refine kC rfl (.a 48) (.a 51) rfl rfl B1.i.o rfl R1.i L1.i ?_;intro A4 n4 c4 w4 h2 h3;have B4:=ab (B1.i.step h3);clear h2 h3)
 clear y1 y2 y3 y4 B1 R1 L1;have BW:=ab (Z2.i.R.trans (B4.i.o.R.g Z2.i.R.j));have R4:=ab (HR.i.upon BW.i);have L4:=ab (show(([aJ (sp.e/256),aJ (sp.e%256),aJ (dp.e/256),aJ (dp.e%256)]:List UInt8)++[0,0,0,0,0,0,0,0,80,2,0,0,0,0,0,0]).a+m<=1000000000 by simp;omega);go_upto_region 8 with(at_builtin;refine kC rfl (.a 53) (.a 54) rfl rfl B4.i.o rfl R4.i L4.i ?_;intro A5 n5 c5 w5 h2 h3;have B5:=ab (B4.i.step h3);clear h2 h3)
 obtain⟨sb,hsb⟩:∃l,l=ab4 t load:=⟨_,rfl⟩
 have SBL:=ab (show sb.a=20+m by rw[hsb,HSB.i];simp[hl.i];omega);rw[<-hsb]at HM HT HSB;rw[<-HSB.i]at B5;clear hsb HSB L4 R4 B4 BW;have N5:=ab (show n5=20+m by
  obtain⟨A9,c9,e9⟩:=B5.i.o.Cu;injection e9 with e9 e10 e11
  rw[e10];exact SBL.i)
 have hn5:n5<=2000:=by have:=N5.i;omega
 have HM:=ab (show mk6 t load=lb++tQ (Fo.mk 20 (20+(n5:Int)) 0 0 false true 64 6 t.h t.Y)++Xu t.h t.Y sb by rw[HM.i,SBL.i,N5.i];rfl);have O5:=ab (jo O2.i B5.i.o.R);have BW:=ab (Z2.i.R.trans (B5.i.o.R.g Z2.i.R.j));have CF:=ab (Wp (Fo.mk 20 (20+(n5:Int)) 0 0 false true 64 6 t.h t.Y) (by simp) (by simp) (by simp;omega) (by simp;omega) (by simp) (by simp) (by simp) (by simp) (by simp) (by simp) w5);unfold Kv at CF;obtain⟨fb,hfb⟩:∃l,l=tQ (Fo.mk 20 (20+(n5:Int)) 0 0 false true 64 6 t.h t.Y):=⟨_,rfl⟩
 have LF:=ab (show fb.a=20 by rw[hfb,Wt]);rw[<-hfb]at CF HM;clear hfb;have S5:=ab B5.i.o.R.j;obtain⟨y1,y2,y3,y4⟩:=B5.i.X.K;go_upto_region 11 with(first
  | (go_at_call 106;(with_reducible refine CF.i.g ?_);rintro e w6 ⟨A6,n6,c6,rfl,hn6,ho6,hb6⟩;have B6:=ab (B5.i.go hb6);have R6:=ab (gq.gU ho6);have P6:=ab (Ow.gU (jo O5.i hb6) (by have:=S1.i;have:=S2.i;have:=S5.i;have:=hb6.j;omega));have LN:=ab (show lb.a+n6<=1000000000 by have:=LB.i;have:=LF.i;omega);have W6:=ab (BW.i.trans (hb6.g BW.i.j));have O6:=ab (jo O5.i hb6);clear hn6 ho6 hb6)
  | (at_builtin;refine kC rfl (.a 72) (.a 83) rfl rfl P6.i rfl R6.i LN.i ?_;intro A7 n7 c7 w7 h8 h9;have O7:=ab h8;clear h8 h9))
 clear y1 y2 y3 y4;have FA:=ab (jZ O2.i);have F7:=ab (show jD (sP A2) w6 w7 from jD.Vl O7.i.gr (fun k hk=>.a (by
  cases A2 with
  | none=>cases hk
  | some a=>exact Dw.2 ⟨a,rfl,by simpa[jV]using hk⟩)))
 have FB:=ab (fun b (hb:b∈sP A5)=>show b∉sP A2 from fun h=>by
  have h1:=FA.i b h;have h2:=jZ (by have:=B6.i.o.vS;rw[SBL.i,<-N5.i]at this;exact this) b hb;omega)
 have R7:=ab (show gq w7 w7.a.j A5 n5 sb from TQ (Dn B6.i.o (aH _ _)) (av _) F7.i FB.i);have X7:=ab (F7.i.box B6.i.X (fun h=>by have h1:=FA.i _ h;have:=Z0.i.X.lt;have:=S1.i;have h3:=Z1.i.X.lt;omega));have CL:=ab (ab3 t.h t.Y w7 A5 n5 c5 sb (by have:=N5.i;omega) (by omega) R7.i (by rw[HT.i,N5.i]));unfold Kv at CL;obtain⟨lf,hlf⟩:∃l,l=Xu t.h t.Y sb:=⟨_,rfl⟩
 have LL:=ab (show lf.a<=2000 by rw[hlf];unfold Xu xD;simp only[aV];have:=SBL.i;omega);rw[<-hlf]at CL HM;clear hlf;obtain⟨y1,y2,y3,y4⟩:=X7.i.K;go_wp2_with (first
  | (go_at_call 107;(with_reducible refine CL.i.g ?_);rintro e w8 ⟨A8,n8,c8,rfl,hn8,ho8,Yt⟩;have R8:=ab (gq.gU ho8);have P8:=ab (O7.i.go Yt);have LN:=ab (show(lb++fb).a+n8<=1000000000 by rw[aR];have:=LB.i;have:=LF.i;have:=LL.i;omega);clear hn8 ho8 Yt)
  | (at_builtin;refine kC rfl (.a 85) (.a 93) rfl rfl P8.i rfl R8.i LN.i ?_;intro A9 n9 c9 w9 h8 h9;have O9:=ab h8;clear h8 h9))
 go_ret;rw[HM.i];have ho:=O9.i;obtain⟨A',c',e9⟩:=jG ho.vS;obtain⟨e9,_⟩:=e9;injection e9 with e9 e10 e11
 refine⟨_,_,_,rfl,e10,?_,W6.i.trans (ho.S.g (by have:=S1.i;omega))⟩;have h:=iG ho.vS (show w.a.j<=w1.a.j by have:=S1.i;omega);rw[<-e10]at h;exact h
def KD(b:Nat):Cn:={aon with qG:=some ⟨b,0,none⟩,iI:=1,qH:=1}
theorem arx(w:ak)(fs:Array Field)(h:ah.underlying 27=some (.struct fs)):(iB (fun f=>Prod.mk f.Z <$> sizeOf f.type) fs:Sem (Array (Nat×Nat))).I ah w=.ok #[(0,1),(1,16)] w:=by
 have e:=eZ;rw[h]at e;cases e;show _=_
 kernel_rfl
theorem arz(W:ak):(uN 27 #[(1,.d #[aI aX 5,aI aX 6,aI aX 7,aI aX 8,aI aX 0,aI aX 0,aI aX 0,aI aX 0,aI aX 0,aI aX 0,aI aX 0,aI aX 0,aI aX 0,aI aX 0,aI aX 0,aI aX 0])]).I ah W=.ok (.d (vB [5,6,7,8]).ay) W:=abe.bd W _ _ _ _ eZ (arx W _ eZ) (by kernel_rfl)
theorem arA(W:ak):(uN 27 #[(1,.d #[aI aX 1,aI aX 2,aI aX 3,aI aX 4,aI aX 0,aI aX 0,aI aX 0,aI aX 0,aI aX 0,aI aX 0,aI aX 0,aI aX 0,aI aX 0,aI aX 0,aI aX 0,aI aX 0])]).I ah W=.ok (.d (vB [1,2,3,4]).ay) W:=abe.bd W _ _ _ _ eZ (arx W _ eZ) (by kernel_rfl)
theorem arB(W:ak):(uN 27 #[(1,.d #[aI aX 10,aI aX 0,aI aX 0,aI aX 9,aI aX 0,aI aX 0,aI aX 0,aI aX 0,aI aX 0,aI aX 0,aI aX 0,aI aX 0,aI aX 0,aI aX 0,aI aX 0,aI aX 0])]).I ah W=.ok (.d (vB [10,0,0,9]).ay) W:=abe.bd W _ _ _ _ eZ (arx W _ eZ) (by kernel_rfl)
def asR(n:Nat)(ps:Array (Nat×aB)):Sem aB:=bI 23 n ps
@[go_sem ↓]theorem az9(n:Nat)(ps:Array (Nat×aB)):bI 23 n ps=asR n ps:=rfl
@[go_sem]theorem avI(W:ak)(v:Vp):(asR 1 #[(0,.d v.ay)]).I ah W=.ok (.a (some ⟨W.a.j,0,none⟩) 1 1) (W.alloc (.D v.ay 98)):=by
 obtain⟨i0,hi0,hz0,hz1,hzb⟩:=aoc;exact rR W _ _ i0 (.d nM.ay) 20 Tryz.underlying23 hi0 hz0 hz1 (Vp.G nM) (by omega) (by omega) v.ay (Vp.G v)
theorem az'(W:ak):(uN 98 #[(0,.d (vB [5,6,7,8]).ay),(1,.b .a 6),(2,.b .a 80)]).I ah W=.ok (.d H9.ay) W:=kVp.bd W _ _ _ _ rZ (ax2 W _ rZ) (by kernel_rfl)
theorem aAa(W:ak):(uN 27 #[(0,.e true)]).I ah W=.ok (.d (fu.mk true (bF 16 0)).ay) W:=abe.bd W _ _ _ _ eZ (arx W _ eZ) (by kernel_rfl)
theorem Cn.aop(x:Cn)(v:Int):x.ay.c 1 (.b .a v)=({x with j:=v}:Cn).ay:=by simp[Cn.ay,aM,fu.G,gD,jH]
theorem Cn.aoq(x:Cn)(v:Int):x.ay.c 2 (.b .a v)=({x with Y:=v}:Cn).ay:=by simp[Cn.ay,aM,fu.G,gD,jH]
theorem Cn.aor(x:Cn)(v:Int):x.ay.c 9 (.b .a v)=({x with ko:=v}:Cn).ay:=by simp[Cn.ay,aM,fu.G,gD,jH]
theorem Cn.aos(x:Cn)(v:Int):x.ay.c 10 (.b .a v)=({x with fall:=v}:Cn).ay:=by simp[Cn.ay,aM,fu.G,gD,jH]
theorem Cn.aot(x:Cn)(v:Int):x.ay.c 51 (.b .a v)=({x with af5:=v}:Cn).ay:=by simp[Cn.ay,aM,fu.G,gD,jH]
theorem Cn.aou(x:Cn)(v:Int):x.ay.c 52 (.b .a v)=({x with keep:=v}:Cn).ay:=by simp[Cn.ay,aM,fu.G,gD,jH]
theorem Cn.akM(x:Cn)(v:Int):x.ay.c 53 (.b .a v)=({x with VO:=v}:Cn).ay:=by simp[Cn.ay,aM,fu.G,gD,jH]
theorem Cn.aov(x:Cn)(v:Vector Int 6):sF x.ay 3 (Kr v)=({x with kD:=v}:Cn).ay:=by
 unfold Cn.ay;exact qK (by rw[jH,jH]) 3 rfl
theorem Cn.arC(x:Cn)(v:fu):sF x.ay 34 v.ay=({x with h:=v}:Cn).ay:=by
 unfold Cn.ay;have:=qK (p:=#[.a x.qG x.iI x.qH,.b .a x.j,.b .a x.Y]++Kr x.kD ++ #[.b .a x.ko,.b .a x.fall]++AO x.FJ++x.Cv.ay) (q:=x.h.ay) (r:=#[.b .a x.af5,.b .a x.keep,.b .a x.VO]) (v:=v.ay) (by rw[fu.G,fu.G]) 34 (by simp[fu.G,gD,jH]);simpa[Array.append_assoc]using this
def avJ:Vector Int 6:=D7 fun i=>if i.val=0 then 0 else 5
theorem aow:Kr avJ = #[aI bU 0,aI bU 5,aI bU 5,aI bU 5,aI bU 5,aI bU 5]:=by kernel_rfl
theorem aAb(W:ak)(b:Nat):(uN 29 #[(0,.a (some ⟨b,0,none⟩) 1 1),(1,.b .a 7),(2,.b .a 9),(3,.d #[aI bU 0,aI bU 5,aI bU 5,aI bU 5,aI bU 5,aI bU 5]),(4,.b .a 1),(5,.b .a 1),(8,.d (fu.mk true (bF 16 0)).ay),(9,.b .a 1000),(10,.b .a 2),(11,.b .a 5)]).I ah W=.ok (.d (KD b).ay) W:=Xy.bd W _ _ _ _ mW (atV W _ mW) (by
 rw[<-aow];refine(iy rfl rfl (by rw[Cn.G];omega) (Cn.Np Py _ _ _)).trans ?_;refine(iy rfl rfl (by rw[Cn.G];omega) (Cn.aop _ _)).trans ?_;refine(iy rfl rfl (by rw[Cn.G];omega) (Cn.aoq _ _)).trans ?_;refine(sN rfl (jH _) (by rw[Cn.G];omega) (Cn.aov _ _)).trans ?_;refine(iy rfl rfl (by rw[Cn.G];omega) (Cn.aor _ _)).trans ?_;refine(iy rfl rfl (by rw[Cn.G];omega) (Cn.aos _ _)).trans ?_;refine(sN rfl (fu.G _) (by rw[Cn.G];omega) (Cn.arC _ _)).trans ?_;refine(iy rfl rfl (by rw[Cn.G];omega) (Cn.aot _ _)).trans ?_;refine(iy rfl rfl (by rw[Cn.G];omega) (Cn.aou _ _)).trans ?_;refine(iy rfl rfl (by rw[Cn.G];omega) (Cn.akM _ _)).trans ?_;rfl)
theorem aeN(w:ak):aQ ah 39 #[] w fun e w'=>∃b,e=.a (.d (KD b).ay)/\gX Vp.ay 20 w' w'.a.j (some ⟨b,0,none⟩) 1 [H9]/\dJ w' b H9.ay/\w.a.j<=b/\aL w.a.j w w':=by
 have b1:=arz;have b2:=az';have b5:=aAa;have b6:=aAb;obtain⟨V,hV⟩:=sH H9;obtain⟨C,hC⟩:=sH KD;obtain⟨D,hD⟩:=sH (vB [5,6,7,8]);obtain⟨X6,hX⟩:∃D,(fu.mk true (bF 16 0))=D:=⟨_,rfl⟩
 rw[hV]at b2 ⊢;rw[hC]at b6 ⊢;rw[hD]at b1 b2;rw[hX]at b5 b6;clear hV hC hD hX;have Z0:=ab ((Bx.start w).new Py.ay 29);go_enter Tryz.func39,Tryz.ntmps39;go_upto_region 1 with fail
 generalize w.alloc (.D Py.ay 29)=w0 at Z0 ⊢;have Z1:=ab (Z0.i.new V.ay 98);go_upto_region 2 with fail
 generalize w0.alloc (.D V.ay 98)=w1 at Z1 ⊢;have NP:=ab (show w0.a.j≠w.a.j by have:=Z0.i.X.lt;omega);have SZ1:=ab Z1.i.b1.lt;generalize w0.a.j=p at Z1 NP ⊢;have Z2:=ab (Z1.i.alloc (.D V.ay 98));have R2:=ab (gX.one V Vp.G w1 98);obtain⟨x1,x2,x3,x4⟩:=Z1.i.X.K;have th:=Z2.i.b1.O 0 54 (aW (Cn.G Py).symm);have Z3:=ab (Z2.i.swap.put (fun r hr=>by rw[fD.1 hr];exact NP.i) (C w1.a.j).ay (by rw[Cn.G,Cn.G]));have R3:=ab (R2.i.keep (sO _ w.a.j 0 (C w1.a.j).ay) (fun b hb=>by have:=SZ1.i;simp[sP]at hb;subst hb;simp;omega));go_wp2_with fail;refine aN (Xy.zh rfl _ rfl Z3.i.X (Cn.G _)) rfl ?_;exact⟨_,rfl,R3.i,(sO _ w.a.j 0 (C w1.a.j).ay).box (dJ.new w1 V.ay 98) (by have:=SZ1.i;simp;omega),by have:=SZ1.i;omega,Z3.i.R⟩
theorem kAt:oO 66 34 qc.ay:=⟨⟨_,lG,rfl⟩,by kernel_rfl,by kernel_rfl,At.G _⟩
theorem qM.ab5(k:Int)(y:Bk)(s:List UInt8)(v:Nat):(qM.mk k y s v).ay = #[.b .a k]++(y.ay ++ #[.g (bK s),fv v]):=by apply GD.1;simp[qM.ay]
theorem qM.cK(x:qM):x.ay.all (·.oneCell')=true:=by
 obtain⟨k,y,s,v⟩:=x;rw[qM.ab5];exact gW (by simp[cB]) (gW (Bk.cK _) (by simp[cB,fv]))
theorem At.cK(x:At):x.ay.all (·.oneCell')=true:=gW (by simp[cB]) (gW (qM.cK _) (by simp[cB]))
@[go_sem]theorem At.all(x:At):x.ay.extract 0 34=x.ay:=by have:=At.G x;rw[<-this];simp
@[go_sem ↓]theorem aLM(v:aB):Instr.loadAt 66 v=xu 66 v:=rfl
@[go_sem ↓]theorem aLN(v x:aB):eF 66 v x=yS 66 v x:=rfl
@[go_sem]theorem aAc(W:ak)(b o:Nat)(h:xJ W b o 34):(xu 66 (.c (some ⟨b,o,none⟩))).I ah W=.ok (.d (eu W b o 34)) W:=kAt.ld W b o h
@[go_sem]theorem aFm(W:ak)(c:Array aB)(x:At)(b:Nat)(hb:b=W.a.j)(hc:dZ c=34):(yS 66 (.c (some ⟨b,0,none⟩)) (.d x.ay)).I ah (W.alloc (.D c 66))=.ok () (W.alloc (.D x.ay 66)):=kAt.stN W c x.ay b hb hc (At.G x) (At.cK x)
@[go_sem ↓]theorem aLO(ps:Array (Nat×aB)):fI 66 ps=uN 66 ps:=rfl
theorem arD(w:ak)(fs:Array Field)(h:ah.underlying 66=some (.struct fs)):(iB (fun f=>Prod.mk f.Z <$> sizeOf f.type) fs:Sem (Array (Nat×Nat))).I ah w=.ok #[(0,1),(1,1),(2,30),(32,1),(33,1)] w:=by
 have e:=lG;rw[h]at e;cases e;show _=_
 kernel_rfl
theorem At.EL(x:At)(v:Int):x.ay.c 0 (.b .a v)=({x with kind:=v}:At).ay:=by simp[At.ay,aM]
theorem At.avK(x:At)(A:Option aS)(n c:Nat):x.ay.c 1 (.a A n c)=({x with Xn:=A,K9:=n,Kk:=c}:At).ay:=by simp[At.ay,aM]
theorem At.aox(x:At)(s:List UInt8):x.ay.c 32 (.g (bK s))=({x with E:=s}:At).ay:=by simp[At.ay,aM,qM.G]
theorem At.avL(x:At)(v:qM):sF x.ay 2 v.ay=({x with op:=v}:At).ay:=by
 unfold At.ay;exact qK (by rw[qM.G,qM.G]) 2 rfl
@[go_sem]theorem aFo(W:ak)(k:Int):(uN 66 #[(0,.b .a k)]).I ah W=.ok (.d ({qc with kind:=k}:At).ay) W:=kAt.bd W _ _ _ _ lG (arD W _ lG) (by
 refine(iy rfl rfl (by rw[At.G];omega) (At.EL qc _)).trans ?_;rfl)
@[go_sem]theorem aFp(W:ak)(k:Int)(A:Option aS)(n c:Nat):(uN 66 #[(0,.b .a k),(1,.a A n c)]).I ah W=.ok (.d ({qc with kind:=k,Xn:=A,K9:=n,Kk:=c}:At).ay) W:=kAt.bd W _ _ _ _ lG (arD W _ lG) (by
 refine(iy rfl rfl (by rw[At.G];omega) (At.EL qc _)).trans ?_;refine(iy rfl rfl (by rw[At.G];omega) (At.avK _ _ _ _)).trans ?_;rfl)
@[go_sem]theorem aFq(W:ak)(k:Int)(o:qM):(uN 66 #[(0,.b .a k),(2,.d o.ay)]).I ah W=.ok (.d ({qc with kind:=k,op:=o}:At).ay) W:=kAt.bd W _ _ _ _ lG (arD W _ lG) (by
 refine(iy rfl rfl (by rw[At.G];omega) (At.EL qc _)).trans ?_;refine(sN rfl (qM.G _) (by rw[At.G];omega) (At.avL _ _)).trans ?_;rfl)
@[go_sem]theorem aFr(W:ak)(k:Int)(s:List UInt8):(uN 66 #[(0,.b .a k),(3,.g (bK s))]).I ah W=.ok (.d ({qc with kind:=k,E:=s}:At).ay) W:=kAt.bd W _ _ _ _ lG (arD W _ lG) (by
 refine(iy rfl rfl (by rw[At.G];omega) (At.EL qc _)).trans ?_;refine(iy rfl rfl (by rw[At.G];omega) (At.aox _ _)).trans ?_;rfl)
def aal:qM:=⟨0,jk,[],0⟩
theorem aFs:oO 64 30 aal.ay:=⟨⟨_,vC,rfl⟩,by kernel_rfl,by kernel_rfl,qM.G _⟩
theorem aAd(w:ak)(fs:Array Field)(h:ah.underlying 64=some (.struct fs)):(iB (fun f=>Prod.mk f.Z <$> sizeOf f.type) fs:Sem (Array (Nat×Nat))).I ah w=.ok #[(0,1),(1,27),(28,1),(29,1)] w:=by
 have e:=vC;rw[h]at e;cases e;show _=_
 kernel_rfl
theorem aAe(W:ak):(axH #[(0,.g ⟨#[97]⟩),(1,.d (vB [10,0,0,9]).ay),(2,.b .a 8080),(4,.float .f64 4607182418800017408)]).I ah W=.ok (.d akJ.ay) W:=kBk.bd W _ _ _ _ nW (ajf W _ nW) (by kernel_rfl)
@[go_sem ↓]theorem aHX(ps:Array (Nat×aB)):fI 64 ps=uN 64 ps:=rfl
@[go_sem]theorem aBF(W:ak)(k:Int)(x:Bk):(uN 64 #[(0,.b .a k),(1,.d x.ay)]).I ah W=.ok (.d (qM.mk k x [] 0).ay) W:=aFs.bd W _ _ _ _ vC (aAd W _ vC) (by
 refine(iy rfl rfl (by rw[qM.G];omega) (show aal.ay.c 0 (.b .a k)=({aal with kind:=k}:qM).ay by simp[qM.ay,aal])).trans ?_;refine(sN rfl (Bk.G _) (by rw[qM.G];omega) (show sF ({aal with kind:=k}:qM).ay 1 x.ay=(qM.mk k x [] 0).ay by
  have:=qK (p:=#[.b .a k]) (q:=jk.ay) (r:=#[.g (bK []),fv 0]) (v:=x.ay) (by rw[Bk.G,Bk.G]) 1 rfl;show sF (qM.mk k jk [] 0).ay 1 x.ay=_;rw[qM.ab5,qM.ab5];exact this)).trans ?_
 rfl)
structure Aw(w0 W:ak)(q q2 g:Nat)(L:List (Nat×Array aB)):Prop where
 R:aL w0.a.j w0 W
 new:w0.a.j<=q/\w0.a.j<=q2/\w0.a.j<=g
 lt:q<W.a.j/\q2<W.a.j/\g<W.a.j
 G:∀p∈L,w0.a.j<=p.1/\p.1∉[q,q2,g]/\dJ W p.1 p.2
section
variable {w0 W W':ak} {q q2 g:Nat} {L:List (Nat×Array aB)}
theorem Aw.go(h:Aw w0 W q q2 g L)(hb:aL W.a.j W W'):Aw w0 W' q q2 g L:=⟨h.R.trans (hb.g h.R.j),h.new,by have:=h.lt;have:=hb.j;omega,fun p hp=>⟨(h.G p hp).1,(h.G p hp).2.1,(h.G p hp).2.2.go hb⟩⟩
theorem Aw.step(h:Aw w0 W q q2 g L)(hf:jD [q,q2,g] W W'):Aw w0 W' q q2 g L:=⟨h.R.trans (hf.rM (fun b hb=>by have:=h.new;simp at hb;omega) h.R.j),h.new,by have:=h.lt;have:=hf.j;omega,fun p hp=>⟨(h.G p hp).1,(h.G p hp).2.1,hf.box (h.G p hp).2.2 (h.G p hp).2.1⟩⟩
theorem Aw.add(h:Aw w0 W q q2 g L)(c:Array aB)(t:bM):Aw w0 (W.alloc (.D c t)) q q2 g ((W.a.j,c)::L):=by
 have h1:=h.go ((aH W.a.j W).alloc (av _) (.D c t));refine⟨h1.R,h1.new,h1.lt,fun p hp=>?_⟩;rcases bB.1 hp with rfl|hp
 ·exact⟨h.R.j,by have:=h.lt;simp;omega,dJ.new W c t⟩
 ·exact h1.G p hp
theorem Aw.box(h:Aw w0 W q q2 g L){p:Nat×Array aB}(hp:p∈L):dJ W p.1 p.2:=(h.G p hp).2.2
def AwP(w0 W:ak)(q q2 g:Nat)(L:List (Nat×Array aB))(R:pG×Ou)(r:lq)(W':ak):Prop:=
 ∃o x' sl',r=.a (.d (Oc.ay o))/\Aw w0 W' q q2 g L/\yM W' q yN R.1 x' q2 g sl'/\OcR W' o R.2/\(∀b∈sP o.Qj,b∉[q,q2,g])/\jD [q,q2,g] W W'
theorem AZ{s:pG}{x:Eg}{sl:List (Option Fw)}{M:Int}(A:Aw w0 W q q2 g L)(h:yM W q yN s x q2 g sl)(hi:mP M yN s)(hM:M<1152921504606846976)(a:At)(u:Ac)(ha:AtR W a u)(hof:u.op.h.rF)(how:u.op.w<18446744073709551616)(R:pG×Ou)(hR:wL yN s u=R):
 aQ ah 25 #[.c (some ⟨q,0,none⟩),.d a.ay] W (AwP w0 W q q2 g L R):=by
 subst hR;refine(Xo h hi hM a u ha hof how).g ?_;rintro r W' ⟨o,x',sl',rfl,hou,hE,_,_,hf⟩;exact⟨o,x',sl',rfl,A.step hf,hE,hou.rd,fun b hb=>by have:=(jZ hou.vS b hb).1;have:=A.lt;simp;omega,hf⟩
theorem yM.aFt{key:Vector UInt8 16}{c:Cn}{vs:List Vp}{s:pG}{x:Eg}{sl:List (Option Fw)}{A:Option aS}{n k:Nat}(h:yM W q ⟨key,{c with qG:=A,iI:=n,qH:=k},vs⟩ s x q2 g sl):yM W q ⟨key,c,vs⟩ s x q2 g sl:=
 ⟨⟨h.b.eg,h.b.key,h.b.cf,h.b.Y,h.b.vs,h.b.h,h.b.hl,h.b.fl,h.b.tb,h.b.rm,h.b.nq,h.b.Hz,h.b.gF,h.b.no,h.b.lW⟩,h.dn,h.tt⟩
end
theorem ail(c:Cn)(vs:List Vp)(A:Option aS)(n k:Nat):yh {c with qG:=A,iI:=n,qH:=k} vs=yh c vs:=by unfold yh;rfl
theorem aeO(c:Cn)(vs:List Vp)(s:pG)(A:Option aS)(n k:Nat):zm {c with qG:=A,iI:=n,qH:=k} vs s=zm c vs s:=by unfold zm WA;rw[ail];rfl
theorem akN:yh Py []=false:=by decide +kernel
theorem sw:jk.rF:=by unfold Bk.rF;simp[jk]
theorem ain:akJ.rF:=by unfold Bk.rF;simp[akJ]
theorem aAf:mk6 (Tu.mk (vB [1,2,3,4]) (vB [5,6,7,8]) 6 1000 80) [104,105]=awF:=by decide +kernel
theorem avM:mk6 (Tu.mk (vB [1,2,3,4]) (vB [10,0,0,9]) 6 1000 8080) [104,105]=awW:=by decide +kernel
theorem avN:(Je 6 (xD (ab4 (Tu.mk (vB [1,2,3,4]) (vB [5,6,7,8]) 6 1000 80) [104,105]))).1.dz=((20+2:Nat):Int):=by decide +kernel
theorem arE:(Je 6 (xD (ab4 (Tu.mk (vB [1,2,3,4]) (vB [10,0,0,9]) 6 1000 8080) [104,105]))).1.dz=((20+2:Nat):Int):=by decide +kernel
theorem avO:iH (pX 16 [1]) = #[aI aX 1,aI aX 0,aI aX 0,aI aX 0,aI aX 0,aI aX 0,aI aX 0,aI aX 0,aI aX 0,aI aX 0,aI aX 0,aI aX 0,aI aX 0,aI aX 0,aI aX 0,aI aX 0]:=by kernel_rfl
theorem asS:mP 0 yN wH:=P7 _ asP
theorem asT:mP 1 yN aw0.1:=vk asS acF sw (by decide)
theorem asU:mP 2 yN aw1.1:=vk asT acA ain (by decide)
theorem asV:mP 3 yN aw2.1:=vk asU acF sw (by decide)
theorem asW:mP 4 yN aw3.1:=vk asV acF sw (by decide)
theorem asX:mP 5 yN aw4.1:=vk asW (acH [98]) sw (by decide)
theorem asY:mP 6 yN aw5.1:=vk asX (acH [97]) sw (by decide)
theorem asZ:mP 7 yN aw6.1:=vk asY acF sw (by decide)
theorem as0:mP 8 yN aw7.1:=vk asZ (acK 4) sw (by decide)
theorem as1:mP 9 yN Ua.1:=vk as0 (acK 9) sw (by decide)
section
variable {w0 W W':ak} {q q2 g b b' p n B:Nat} {c c':Array aB} {A:Option aS} {l:List UInt8} {L L':List (Nat×Array aB)}
theorem dJ.aAg(h:dJ W b c)(k:dJ W b c'):c=c':=by
 obtain⟨t,h⟩:=h;obtain⟨t',k⟩:=k;rw[h]at k;injection k with k
 injection k
theorem dJ.ne(h:dJ W b c)(k:dJ W b' c')(hs:c.j≠c'.j):b≠b':=by
 rintro rfl;exact hs (by rw[h.aAg k])
theorem gq.far(h:gq W B A n l)(k:dJ W p c)(hn:c.j<n):∀y∈sP A,y∉[p]:=by
 intro y hy hp;obtain⟨a,rfl,_,hc⟩:=gq.at_ h (k:=n-1) (by omega);obtain⟨t,hk⟩:=k;simp[sP]at hy hp;subst hp;rw[hy]at hk;unfold World.cell? at hc;rw[show(a.add (n-1)).block=a.block by unfold rb;split<;>rfl,hk]at hc;simp only at hc;split at hc
 ·cases hc
 ·have h1:=(Array.getElem?_eq_some_iff.1 hc).1
  have h2:n-1<=(a.add (n-1)).off:=by
   unfold rb;split<;>simp<;>omega
  omega
theorem Aw.put(h:Aw w0 W q q2 g L)(hf:jD [p] W W')(hb:dJ W' p c')(hc:(p,c)∈L)(hL:∀y∈L',y∈L/\y.2.j≠c.j):Aw w0 W' q q2 g ((p,c')::L'):=by
 refine⟨h.R.trans (hf.rM (fun y hy=>by rw[fD.1 hy];exact(h.G _ hc).1) h.R.j),h.new,by have:=h.lt;have:=hf.j;omega,fun y hy=>?_⟩;rcases bB.1 hy with rfl|hy
 ·exact⟨(h.G _ hc).1,(h.G _ hc).2.1,hb⟩
 ·obtain⟨h1,h2⟩:=hL y hy
  refine⟨(h.G _ h1).1,(h.G _ h1).2.1,hf.box (h.G _ h1).2.2 (fun e=>h2 ?_)⟩;rw[fD]at e;obtain⟨y1,y2⟩:=y;simp only at e;subst e;rw[dJ.aAg (h.G _ h1).2.2 (h.G _ hc).2.2]
theorem gX.aAh{α:Type}{f:α->Array aB}{sz:Nat}{A:Option aS}{W W':ak}{B B':Nat}{l:List α}(h:gX f sz W B A n l)(hl:l.a=0):gX f sz W' B' A n l:=by
 have e:=bE hl;subst e;have h1:=h.1;have h2:=h.2.1.1;refine⟨h.1,⟨h2,fun hn=>?_⟩,fun a ha hn=>?_⟩
 ·simp at h1;omega
 ·simp at h1;omega
theorem gX.arF{α:Type}{f:α->Array aB}{sz:Nat}{x:α}{W:ak}{b:Nat}(h:dJ W b (f x))(hs:(f x).j=sz):gX f sz W W.a.j (some ⟨b,0,none⟩) 1 [x]:=by
 refine⟨rfl,⟨by simp[hs],fun _=>⟨_,rfl,h.lt,fun j u hu=>?_⟩⟩,fun a ha _=>by injection ha with ha;subst ha;rfl⟩;rw[iC,bl,h.K.1];simpa[dD]using hu
structure TbQ(W:ak)(q:Nat)(x:Eg)(t:Tl):Prop where
 b:dJ W q x.ay
 n:RdT W W.a.j x.tb.nI x.tb.nP t.h
 s:Yc W W.a.j x.tb.mE x.tb.mR t.ra
theorem TbQ.go{x:Eg}{t:Tl}(h:TbQ W q x t)(hb:aL W.a.j W W'):TbQ W' q x t:=⟨h.b.go hb,h.n.go hb,h.s.go hb⟩
end
@[go_sem]theorem aoT(W:ak)(A1:Option aS)(n1 c1:Nat)(A2:Option aS)(n2 c2:Nat):(Instr.field 72 (.d (Tc.mk A1 n1 c1 A2 n2 c2).ay) 1).I ah W=.ok (.a A2 n2 c2) W:=by
 show _=_
 kernel_rfl
theorem aeP{W:ak}{b:Nat}{x:Sh}(h:dJ W b x.ay):(afT (.c (some ⟨b,0,none⟩))).I ah W=.ok (.d x.ay) W:=kSh.nC h (Sh.G _)
theorem aFu:Ua.1.lW.a.b 8 0=2:=by decide +kernel
theorem avP:Ua.1.qU.a<=9/\Ua.1.G.a<=9/\Ua.1.h.a<=9:=by decide +kernel
theorem aFv:zm aon [H9] Ua.1=true:=by decide +kernel
theorem aAj:(uf yN Ua.1).h.a=0:=by decide +kernel
@[go_sem]theorem avQ:Obj.cells #[aI bU 0,Value.slice none 0 0,aI bU 0,ig {data:=#[]},bL false,aI aX 0,aI aX 0,aI aX 0,aI aX 0,aI aX 0,aI aX 0,aI aX 0,aI aX 0,aI aX 0,aI aX 0,aI aX 0,aI aX 0,aI aX 0,aI aX 0,aI aX 0,aI aX 0,aI bU 0,aI aX 0,aI aX 0,aI aX 0,aI aX 0,aI aX 0,aI aX 0,vO jU 0,bL false,ig {data:=#[]},vO jU 0,ig {data:=#[]},bL false] 66=Obj.cells qc.ay 66:=by kernel_rfl
theorem gq.ku{W W' W2:ak}{A:Option aS}{n:Nat}{l:List UInt8}{F:List Nat}(h:gq W W.a.j A n l)(hf:jD F W W')(hn:∀b∈sP A,b∉F)(hb:aL W'.a.j W' W2):gq W2 W2.a.j A n l:=gq.upon (TQ h (av _) hf hn:gq W' W'.a.j A n l) hb
theorem OcR.all{W:ak}{o:Oc}{u:Ou}(h:OcR W o u):o.err=u.err/\o.iW=u.iW/\o.uM=u.uM/\o.Y=u.Y/\o.E=u.E:=⟨h.err,h.iW,h.uM,h.Y,h.E⟩
theorem aoy(w:ak)(c:Array aB)(l:List UInt8)(h:c.a=l.map bv)(m:Nat×Nat):gq (w.alloc (.D c 5 m)) (w.alloc (.D c 5 m)).a.j (some ⟨w.a.j,0,none⟩) l.a l:=by
 refine⟨by simp,fun _=>⟨_,rfl,by simp,fun j u hu=>?_⟩⟩;rw[iC,bl,cell_of_row _ _ _ _ _ _ (heap_alloc_new w (.D c 5 m)),<-hu,<-h,dD]
theorem as2(w:ak):(convert 56 56 (.a (some ⟨w.a.j,0,none⟩) 2 2)).I ah (w.alloc (.D #[.b .b 104,.b .b 105] 5))=.ok (.a (some ⟨w.a.j,0,none⟩) 2 2) (w.alloc (.D #[.b .b 104,.b .b 105] 5 (2,3))):=Lib.run_convert_bytes_const (P:=ah) w 56 5 #[.b .b 104,.b .b 105] 2 2 dx lC
theorem zQ(w:ak):aQ ah 12 #[] w (gM w (.e true)):=by
 have CPL:=ab (aeN w);have CN:=ab (fun(W:ak) (b:Nat) (hV:gX Vp.ay 20 W W.a.j (some ⟨b,0,none⟩) 1 [H9])=>aak (pX 16 [1]) (KD b) [H9] W hV (show 1<=1 by omega) (show 1<=100000 by omega) (by unfold KD;rw[ail];exact asP));have C0:=ab (fun(W:ak)=>aoj (pX 16 [1]) Py [] W (gX.nil _ _) (show 0<=0 by omega) (show 0<=100000 by omega) akN);have CM:=ab (fun(W:ak) (A:Option aS) (c:Nat) (hr:gq W W.a.j A 2 [104,105])=>Om (Tu.mk (vB [1,2,3,4]) (vB [5,6,7,8]) 6 1000 80) rfl rfl (by simp) (by simp) (by simp) (by simp) W A 2 c [104,105] (by omega) hr avN);have CM2:=ab (fun(W:ak) (A:Option aS) (c:Nat) (hr:gq W W.a.j A 2 [104,105])=>Om (Tu.mk (vB [1,2,3,4]) (vB [10,0,0,9]) 6 1000 8080) rfl rfl (by simp) (by simp) (by simp) (by simp) W A 2 c [104,105] (by omega) hr arE);have NF0:=ab (show awF.a=56 from rfl);obtain⟨FF,hFF⟩:∃x,awF=x:=⟨_,rfl⟩
 obtain⟨WW,hWW⟩:∃x,awW=x:=⟨_,rfl⟩
 have Ke:=ab hFF;have HWW:=ab hWW;rw[aAf,hFF]at CM;rw[avM,hWW]at CM2;rw[hFF]at NF0;clear hFF hWW;rw[avO]at CN C0;have b1:=arA;have b9:=arB;have bk:=aAe;obtain⟨D1,hD1⟩:∃d,vB [1,2,3,4]=d:=⟨_,rfl⟩
 obtain⟨D9,hD9⟩:∃d,vB [10,0,0,9]=d:=⟨_,rfl⟩
 obtain⟨D5,hD5⟩:∃d,vB [5,6,7,8]=d:=⟨_,rfl⟩
 rw[hD1]at b1 CM CM2;rw[hD9]at b9 bk CM2;rw[hD5]at CM;have HV5:=ab (show H9.ay.extract 0 17=D5.ay by rw[<-hD5];rfl);clear hD1 hD9 hD5;go_enter Tryz.func12,Tryz.ntmps12;go_upto_region 2 with(go_at_call 39;(with_reducible refine CPL.i.g ?_);rintro e w1 ⟨b,rfl,hv,hvb,hb0,hb⟩;have HV:=ab hv;have VB:=ab hvb;have HB0:=ab hb0;have Z1:=ab ((Bx.start w).go hb);clear hv hvb hb hb0)
 have Z2:=ab (Z1.i.new (KD b).ay 29);have V2:=ab (HV.i.go ((aH w1.a.j w1).alloc (av _) (.D (KD b).ay 29)));have VB2:=ab (VB.i.alloc (.D (KD b).ay 29));have SB:=ab VB.i.lt;generalize w1.alloc (.D (KD b).ay 29)=w2 at Z2 V2 VB2 ⊢;have HP1:=ab (show w.a.j<=w1.a.j from Z1.i.R.j);generalize w1.a.j=p1 at Z2 SB HP1 ⊢;clear CPL HV VB Z1;have l1:=Xy.nC Z2.i.X (Cn.G _);unfold Oj at CN;go_upto_region 3 with(go_at_call 23;(with_reducible refine(CN.i _ b V2.i).g ?_);rintro e w3 ⟨q,x,q2,g,sl,rfl,hE,hb3,hq,hrw⟩;have E3:=ab (yM.aFt hE);have Z3:=ab (Z2.i.go hb3);have V3:=ab (V2.i.go hb3);have VB3:=ab (VB2.i.go hb3);have HQ:=ab hq;have S3:=ab hb3.j;clear hE hb3 hq hrw)
 clear l1;go_upto_region 4 with(go_at_call 23;(with_reducible refine(C0.i _).g ?_);rintro e w4 ⟨rfl,hb4⟩;have E4:=ab (E3.i.go hb4);have Z4:=ab (Z3.i.go hb4);have V4:=ab (V3.i.go hb4);have VB4:=ab (VB3.i.go hb4);have S4:=ab hb4.j;clear hb4)
 have A4:=ab (show Aw w w4 q q2 g [(p1,(KD b).ay),(b,H9.ay)]from⟨Z4.i.R,by have:=HQ.i;have:=Z2.i.R.j;omega,E4.i.b.lt,fun p hp=>by
  have hq:=HQ.i;have h1:=Z2.i.X.lt;have h2:=VB2.i.lt;have h3:=HP1.i;have h4:=HB0.i;simp at hp;rcases hp with rfl|rfl
  ·exact⟨h3,by simp;omega,Z4.i.X⟩
  ·exact⟨h4,by simp;omega,VB4.i⟩⟩)
 clear Z2 Z3 Z4 V2 V3 VB2 VB3 VB4 E3 HB0 SB CN C0;go_upto_region 6 with fail
 have fv:=((A4.i.box (p:=(p1,(KD b).ay)) (by simp)).K.1 0).trans (Cn.J3 (KD b));change w4.b ⟨p1,0,none⟩=some (.a (some ⟨b,0,none⟩) 1 1)at fv;have la:=(A4.i.box (p:=(b,H9.ay)) (by simp)).Q8 (o:=0) HV5.i (by rw[Vp.G];omega);go_upto_region 7 with fail
 have A5:=ab (A4.i.add (Tu.mk D1 D5 6 1000 80).ay 81);have E5:=ab (E4.i.go ((aH w4.a.j w4).alloc (av _) (.D (Tu.mk D1 D5 6 1000 80).ay 81)));generalize w4.alloc (.D (Tu.mk D1 D5 6 1000 80).ay 81)=w5 at A5 E5 ⊢;generalize w4.a.j=p6 at A5 ⊢;clear fv la A4 E4;have lt5:=pF (A5.i.box (p:=(p6,(Tu.mk D1 D5 6 1000 80).ay)) (by simp));have R5:=ab (aoy w5 #[.b .b 104,.b .b 105] [104,105] rfl (2,3));have B5:=ab ((aH w5.a.j w5).alloc (av _) (.D #[.b .b 104,.b .b 105] 5 (2,3)));have kc:=as2;unfold Kv at CM CM2;go_upto_region 8 with(go_at_call 40;(with_reducible refine(CM.i _ _ 2 R5.i).g ?_);rintro e w6 ⟨FA,fn,fc,rfl,hn,ho,hb⟩;have A6:=ab ((A5.i.go B5.i).go hb);have E6:=ab ((E5.i.go B5.i).go hb);have HN:=ab hn;have HO:=ab ho;clear hn ho hb)
 have RF:=ab (gq.gU HO.i);have NF:=ab (show∀k∈sP FA,k∉[q,q2,g]from fun k hk=>by have h1:=(jZ HO.i k hk).1;have h2:=(A5.i.go B5.i).lt;simp;omega);have LF:=ab (show fn<=fc/\fc<=9223372036854775807/\fn<=1000000 by obtain⟨A9,c9,e9,l1,l2⟩:=jG HO.i;injection e9 with e1 e2 e3;subst e3;refine⟨l1,by unfold maxLen at l2;omega,by have h3:=HN.i;have h4:=NF0.i;omega⟩);clear HN HO;have A7:=ab (A6.i.add ({qc with kind:=1,Xn:=FA,K9:=fn,Kk:=fc}:At).ay 66);have B7:=ab ((aH w6.a.j w6).alloc (av _) (.D ({qc with kind:=1,Xn:=FA,K9:=fn,Kk:=fc}:At).ay 66));have E7:=ab (E6.i.go B7.i);have R7:=ab (RF.i.upon B7.i);generalize w6.alloc (.D ({qc with kind:=1,Xn:=FA,K9:=fn,Kk:=fc}:At).ay 66)=w7 at A7 E7 R7 B7 ⊢;generalize w6.a.j=p7 at A7 ⊢;cases Ke.i;clear A5 E5 R5 B5 A6 E6 RF B7 lt5 CM kc;obtain⟨fy1,fy2,fy3,fy4⟩:=(A7.i.box (p:=(p7,({qc with kind:=1,Xn:=FA,K9:=fn,Kk:=fc}:At).ay)) (by simp)).K;have CS:=ab (AZ A7.i E7.i asS (by omega) ({qc with kind:=1,Xn:=FA,K9:=fn,Kk:=fc}:At) acF ⟨rfl,R7.i,LF.i,rfl,rfl,rfl⟩ sw (by decide) aw0 rfl);unfold AwP at CS;go_upto_region 9 with(go_at_call 25;(with_reducible refine CS.i.g ?_);rintro r v0 ⟨o0,x0,sl0,rfl,h1,h2,h3,h4,h5⟩;have HA:=ab h1;have HE:=ab h2;have HO:=ab h3;have HN0:=ab h4;have HF:=ab h5;clear h1 h2 h3 h4 h5)
 have A8:=ab (HA.i.add o0.ay 58);have BB:=ab ((aH v0.a.j v0).alloc (av _) (.D o0.ay 58));have E8:=ab (HE.i.go BB.i);have R8:=ab (gq.ku R7.i HF.i NF.i BB.i);have O0:=ab (HO.i.go BB.i);generalize v0.alloc (.D o0.ay 58)=u0 at A8 E8 R8 O0 ⊢;generalize v0.a.j=p8 at A8 ⊢;have H0:=ab O0.i.all;clear CS HA HE HO HF BB A7 E7 R7 O0 fy1 fy2 fy3 fy4;have CS:=ab (AZ A8.i E8.i asT (by omega) ({qc with kind:=2,op:=⟨1,akJ,[],0⟩}:At) acA ⟨rfl,Kw _,⟨av _,iX _,iX _⟩,rfl,rfl,rfl⟩ ain (by decide) aw1 rfl);unfold AwP at CS;obtain⟨BK,hBK⟩:∃x,akJ=x:=⟨_,rfl⟩
 rw[hBK]at CS bk;clear hBK;go_upto_region 10 with(go_at_call 25;(with_reducible refine CS.i.g ?_);rintro r v1 ⟨o1,x1,sl1,rfl,h1,h2,h3,h4,h5⟩;have HA:=ab h1;have HE:=ab h2;have HO:=ab h3;have HN1:=ab h4;have HF:=ab h5;clear h1 h2 h3 h4 h5)
 have A9:=ab (HA.i.add o1.ay 58);have BB:=ab ((aH v1.a.j v1).alloc (av _) (.D o1.ay 58));have E9:=ab (HE.i.go BB.i);have R9:=ab (gq.ku R8.i HF.i NF.i BB.i);have O1:=ab (HO.i.go BB.i);generalize v1.alloc (.D o1.ay 58)=u1 at A9 E9 R9 O1 ⊢;generalize v1.a.j=p9 at A9 ⊢;have H1:=ab O1.i.all;clear CS HA HE HO HF BB A8 E8 R8 O1 bk;obtain⟨fy1,fy2,fy3,fy4⟩:=(A9.i.box (p:=(p7,({qc with kind:=1,Xn:=FA,K9:=fn,Kk:=fc}:At).ay)) (by simp)).K;have CS:=ab (AZ A9.i E9.i asU (by omega) ({qc with kind:=1,Xn:=FA,K9:=fn,Kk:=fc}:At) acF ⟨rfl,R9.i,LF.i,rfl,rfl,rfl⟩ sw (by decide) aw2 rfl);unfold AwP at CS;go_upto_region 11 with(go_at_call 25;(with_reducible refine CS.i.g ?_);rintro r v2 ⟨o2,x2,sl2,rfl,h1,h2,h3,h4,h5⟩;have HA:=ab h1;have HE:=ab h2;have HO:=ab h3;have Qf:=ab h4;have HF:=ab h5;clear h1 h2 h3 h4 h5)
 have A10:=ab (HA.i.add o2.ay 58);have BB:=ab ((aH v2.a.j v2).alloc (av _) (.D o2.ay 58));have E10:=ab (HE.i.go BB.i);have R10:=ab (gq.ku R9.i HF.i NF.i BB.i);have O2:=ab (HO.i.go BB.i);generalize v2.alloc (.D o2.ay 58)=u2 at A10 E10 R10 O2 ⊢;generalize v2.a.j=p10 at A10 ⊢;have H2:=ab O2.i.all;have Q10:=ab (show gq u2 u2.a.j o2.Qj o2.Yo awW by have:=O2.i.i;rw[aoo]at this;exact this);clear CS HA HE HO HF BB A9 E9 R9 O2 fy1 fy2 fy3 fy4;obtain⟨fy1,fy2,fy3,fy4⟩:=(A10.i.box (p:=(p7,({qc with kind:=1,Xn:=FA,K9:=fn,Kk:=fc}:At).ay)) (by simp)).K;have CS:=ab (AZ A10.i E10.i asV (by omega) ({qc with kind:=1,Xn:=FA,K9:=fn,Kk:=fc}:At) acF ⟨rfl,R10.i,LF.i,rfl,rfl,rfl⟩ sw (by decide) aw3 rfl);unfold AwP at CS;go_upto_region 12 with(go_at_call 25;(with_reducible refine CS.i.g ?_);rintro r v3 ⟨o3,x3,sl3,rfl,h1,h2,h3,h4,h5⟩;have HA:=ab h1;have HE:=ab h2;have HO:=ab h3;have HN3:=ab h4;have HF:=ab h5;clear h1 h2 h3 h4 h5)
 have A11:=ab (HA.i.add o3.ay 58);have BB:=ab ((aH v3.a.j v3).alloc (av _) (.D o3.ay 58));have E11:=ab (HE.i.go BB.i);have R11:=ab (gq.ku R10.i HF.i NF.i BB.i);have O3:=ab (HO.i.go BB.i);have Q11:=ab (gq.ku Q10.i HF.i Qf.i BB.i);generalize v3.alloc (.D o3.ay 58)=u3 at A11 E11 R11 O3 Q11 ⊢;generalize v3.a.j=p11 at A11 ⊢;have H3:=ab O3.i.all;clear CS HA HE HO HF BB A10 E10 R10 O3 fy1 fy2 fy3 fy4 Q10;have CS:=ab (AZ A11.i E11.i asW (by omega) ({qc with kind:=3,E:=[98]}:At) (acH [98]) ⟨rfl,Kw _,⟨av _,iX _,iX _⟩,rfl,rfl,rfl⟩ sw (by decide) aw4 rfl);unfold AwP at CS;have es:(⟨#[98]⟩:ByteArray)=bK [98]:=rfl;go_upto_region 13 with(go_at_call 25;(with_reducible refine CS.i.g ?_);rintro r v4 ⟨o4,x4,sl4,rfl,h1,h2,h3,h4,h5⟩;have HA:=ab h1;have HE:=ab h2;have HO:=ab h3;have HN4:=ab h4;have HF:=ab h5;clear h1 h2 h3 h4 h5)
 have A12:=ab (HA.i.add o4.ay 58);have BB:=ab ((aH v4.a.j v4).alloc (av _) (.D o4.ay 58));have E12:=ab (HE.i.go BB.i);have R12:=ab (gq.ku R11.i HF.i NF.i BB.i);have O4:=ab (HO.i.go BB.i);have Q12:=ab (gq.ku Q11.i HF.i Qf.i BB.i);generalize v4.alloc (.D o4.ay 58)=u4 at A12 E12 R12 O4 Q12 ⊢;generalize v4.a.j=p12 at A12 ⊢;have H4:=ab O4.i.all;clear CS HA HE HO HF BB A11 E11 R11 O4 es Q11;have CS:=ab (AZ A12.i E12.i asX (by omega) ({qc with kind:=3,E:=[97]}:At) (acH [97]) ⟨rfl,Kw _,⟨av _,iX _,iX _⟩,rfl,rfl,rfl⟩ sw (by decide) aw5 rfl);unfold AwP at CS;have es:(⟨#[97]⟩:ByteArray)=bK [97]:=rfl;go_upto_region 14 with(go_at_call 25;(with_reducible refine CS.i.g ?_);rintro r v5 ⟨o5,x5,sl5,rfl,h1,h2,h3,h4,h5⟩;have HA:=ab h1;have HE:=ab h2;have HO:=ab h3;have HN5:=ab h4;have HF:=ab h5;clear h1 h2 h3 h4 h5)
 have A13:=ab (HA.i.add o5.ay 58);have BB:=ab ((aH v5.a.j v5).alloc (av _) (.D o5.ay 58));have E13:=ab (HE.i.go BB.i);have R13:=ab (gq.ku R12.i HF.i NF.i BB.i);have O5:=ab (HO.i.go BB.i);have Q13:=ab (gq.ku Q12.i HF.i Qf.i BB.i);generalize v5.alloc (.D o5.ay 58)=u5 at A13 E13 R13 O5 Q13 ⊢;generalize v5.a.j=p13 at A13 ⊢;have H5:=ab O5.i.all;clear CS HA HE HO HF BB A12 E12 R12 O5 es Q12;obtain⟨fy1,fy2,fy3,fy4⟩:=(A13.i.box (p:=(p7,({qc with kind:=1,Xn:=FA,K9:=fn,Kk:=fc}:At).ay)) (by simp)).K;have CS:=ab (AZ A13.i E13.i asY (by omega) ({qc with kind:=1,Xn:=FA,K9:=fn,Kk:=fc}:At) acF ⟨rfl,R13.i,LF.i,rfl,rfl,rfl⟩ sw (by decide) aw6 rfl);unfold AwP at CS;go_upto_region 15 with(go_at_call 25;(with_reducible refine CS.i.g ?_);rintro r v6 ⟨o6,x6,sl6,rfl,h1,h2,h3,h4,h5⟩;have HA:=ab h1;have HE:=ab h2;have HO:=ab h3;have HN6:=ab h4;have HF:=ab h5;clear h1 h2 h3 h4 h5)
 have A14:=ab (HA.i.add o6.ay 58);have BB:=ab ((aH v6.a.j v6).alloc (av _) (.D o6.ay 58));have E14:=ab (HE.i.go BB.i);have R14:=ab (gq.ku R13.i HF.i NF.i BB.i);have O6:=ab (HO.i.go BB.i);have Q14:=ab (gq.ku Q13.i HF.i Qf.i BB.i);generalize v6.alloc (.D o6.ay 58)=u6 at A14 E14 R14 O6 Q14 ⊢;generalize v6.a.j=p14 at A14 ⊢;have H6:=ab O6.i.all;clear CS HA HE HO HF BB A13 E13 R13 O6 fy1 fy2 fy3 fy4 Q13;have CS:=ab (AZ A14.i E14.i asZ (by omega) ({qc with kind:=4}:At) (acK 4) ⟨rfl,Kw _,⟨av _,iX _,iX _⟩,rfl,rfl,rfl⟩ sw (by decide) aw7 rfl);unfold AwP at CS;go_upto_region 16 with(go_at_call 25;(with_reducible refine CS.i.g ?_);rintro r v7 ⟨o7,x7,sl7,rfl,h1,h2,h3,h4,h5⟩;have HA:=ab h1;have HE:=ab h2;have HO:=ab h3;have HN7:=ab h4;have HF:=ab h5;clear h1 h2 h3 h4 h5)
 have A15:=ab (HA.i.add o7.ay 58);have BB:=ab ((aH v7.a.j v7).alloc (av _) (.D o7.ay 58));have E15:=ab (HE.i.go BB.i);have R15:=ab (gq.ku R14.i HF.i NF.i BB.i);have O7:=ab (HO.i.go BB.i);have Q15:=ab (gq.ku Q14.i HF.i Qf.i BB.i);generalize v7.alloc (.D o7.ay 58)=u7 at A15 E15 R15 O7 Q15 ⊢;generalize v7.a.j=p15 at A15 ⊢;have H7:=ab O7.i.all;clear CS HA HE HO HF BB A14 E14 R14 O7 Q14;have CS:=ab (AZ A15.i E15.i as0 (by omega) ({qc with kind:=9}:At) (acK 9) ⟨rfl,Kw _,⟨av _,iX _,iX _⟩,rfl,rfl,rfl⟩ sw (by decide) Ua rfl);unfold AwP at CS;go_upto_region 17 with(go_at_call 25;(with_reducible refine CS.i.g ?_);rintro r v8 ⟨o8,x8,sl8,rfl,h1,h2,h3,h4,h5⟩;have HA:=ab h1;have HE:=ab h2;have HO:=ab h3;have HN8:=ab h4;have HF:=ab h5;clear h1 h2 h3 h4 h5)
 have A16:=ab (HA.i.add o8.ay 58);have BB:=ab ((aH v8.a.j v8).alloc (av _) (.D o8.ay 58));have E16:=ab (HE.i.go BB.i);have R16:=ab (gq.ku R15.i HF.i NF.i BB.i);have O8:=ab (HO.i.go BB.i);have Q16:=ab (gq.ku Q15.i HF.i Qf.i BB.i);generalize v8.alloc (.D o8.ay 58)=u8 at A16 E16 R16 O8 Q16 ⊢;generalize v8.a.j=p16 at A16 ⊢;have H8:=ab O8.i.all;clear CS HA HE HO HF BB A15 E15 R15 O8 Q15;have CS:=ab (Ju E16.i as1);unfold arl at CS;go_upto_region 18 with(go_at_call 20;(with_reducible refine CS.i.g ?_);rintro r v9 ⟨X,rfl,ho,hb⟩;have HO:=ab ho;have HB:=ab hb;clear ho hb)
 have NS:=ab (show∀y,(y∈sP X.b.A\/y∈sP X.h.A\/y∈sP X.f.A)->y∉[p6]from fun y hy=>by have h1:=(A16.i.box (p:=(p6,(Tu.mk D1 D5 6 1000 80).ay)) (by simp)).lt;rcases hy with hy|hy|hy;(have h2:=(jZ HO.i.b y hy).1;simp;omega);(have h2:=(jZ HO.i.h y hy).1;simp;omega);(have h2:=(jZ HO.i.f y hy).1;simp;omega));have B17:=ab ((aH v9.a.j v9).alloc (av _) (.D X.ay 37));have A17:=ab ((A16.i.go HB.i).add X.ay 37);have E17:=ab ((E16.i.go HB.i).go B17.i);have S17:=ab ((HO.i.r as1).go B17.i);have Q17:=ab (gq.upon (gq.upon Q16.i HB.i) B17.i);generalize v9.alloc (.D X.ay 37)=u9 at A17 E17 S17 Q17 ⊢;generalize v9.a.j=p17 at A17 ⊢;clear CS HO HB B17 A16 E16 R16 Q16 NF LF;have BT:=ab (A17.i.box (p:=(p6,(Tu.mk D1 D5 6 1000 80).ay)) (by simp));have th:=BT.i.O 17 17 (by rw[Tu.G];omega);have BX:=ab (show dJ (gI u9 p6 17 D9.ay) p6 (Tu.mk D1 D9 6 1000 80).ay by have h1:=BT.i.setCells 17 D9.ay.a;have h2:=Tu.TD (Tu.mk D1 D5 6 1000 80) D9;rw[<-h2];simpa[gI]using h1);obtain⟨fx1,fx2,-,-⟩:=BX.i.K;have fx3:=(fx1 36).trans (show(Tu.mk D1 D9 6 1000 80).ay[36]? = some (.b .a 80)by simp[Tu.ay,tuT,aD,fu.G]);have fx4:=fx2 36;clear fx1 fx2;go_upto_region 20 with fail
 have F12:=ab (show jD [p6] u9 ((gI u9 p6 17 D9.ay).F ⟨p6,36,none⟩ (.b .a 8080))from(sO u9 p6 17 D9.ay).set ⟨p6,36,none⟩ _ (.a (by simp)));have B2:=ab (show dJ ((gI u9 p6 17 D9.ay).F ⟨p6,36,none⟩ (.b .a 8080)) p6 (Tu.mk D1 D9 6 1000 8080).ay by have h:=BX.i.eH 36 (.b .a 8080);rw[Tu.ar2]at h;exact h);have A20:=ab (show Aw w ((gI u9 p6 17 D9.ay).F ⟨p6,36,none⟩ (.b .a 8080)) q q2 g [(p6,(Tu.mk D1 D9 6 1000 8080).ay),(p17,X.ay),(p16,o8.ay),(p15,o7.ay),(p14,o6.ay),(p13,o5.ay),(p12,o4.ay),(p11,o3.ay),(p10,o2.ay),(p9,o1.ay),(p8,o0.ay),(p7,({qc with kind:=1,Xn:=FA,K9:=fn,Kk:=fc}:At).ay),(p1,(KD b).ay),(b,H9.ay)]from A17.i.put (c:=(Tu.mk D1 D5 6 1000 80).ay) F12.i B2.i (by simp) (by intro y hy;simp only[bB,List.not_mem_nil,or_false]at hy⊢;rcases hy with rfl|rfl|rfl|rfl|rfl|rfl|rfl|rfl|rfl|rfl|rfl|rfl|rfl;all_goals exact⟨by simp,by simp[Oc.G,At.G,Sh.G,Cn.G,Vp.G,Tu.G]⟩));have EG:=ab (show TbQ ((gI u9 p6 17 D9.ay).F ⟨p6,36,none⟩ (.b .a 8080)) q x8 (uf yN Ua.1)from⟨F12.i.box E17.i.b.eg (by have:=dJ.ne E17.i.b.eg BT.i (by rw[Eg.G,Tu.G];omega);simp;exact this),gX.aAh E17.i.tt.texts aAj,gX.aAh E17.i.tt.arp akK.2.2.2.2⟩);have S20:=ab (show StR ((gI u9 p6 17 D9.ay).F ⟨p6,36,none⟩ (.b .a 8080)) ((gI u9 p6 17 D9.ay).F ⟨p6,36,none⟩ (.b .a 8080)).a.j X Ua.1 from⟨S17.i.Y,S17.i.b.keep F12.i (fun y hy=>NS.i y (.a hy)),S17.i.h.keep F12.i (fun y hy=>NS.i y (.b (.a hy))),S17.i.f.keep F12.i (fun y hy=>NS.i y (.b (.b hy))),S17.i.gF,S17.i.no,S17.i.lW,S17.i.rF,S17.i.amr,S17.i.ahK,S17.i.nb,S17.i.nh,S17.i.nf⟩);have Q20:=ab (show gq ((gI u9 p6 17 D9.ay).F ⟨p6,36,none⟩ (.b .a 8080)) ((gI u9 p6 17 D9.ay).F ⟨p6,36,none⟩ (.b .a 8080)).a.j o2.Qj o2.Yo awW from TQ Q17.i (av _) F12.i (gq.far Q17.i BT.i (by have h1:=gq.len Q17.i;have h2:awW.a=56:=rfl;rw[Tu.G];omega)));generalize((gI u9 p6 17 D9.ay).F ⟨p6,36,none⟩ (.b .a 8080))=u10 at A20 EG S20 Q20 ⊢;clear F12 B2 BX BT A17 E17 S17 Q17 NS th fx3 fx4;have FX:=ab (fun(W':ak) (h:Aw w W' q q2 g [(p6,(Tu.mk D1 D9 6 1000 8080).ay),(p17,X.ay),(p16,o8.ay),(p15,o7.ay),(p14,o6.ay),(p13,o5.ay),(p12,o4.ay),(p11,o3.ay),(p10,o2.ay),(p9,o1.ay),(p8,o0.ay),(p7,({qc with kind:=1,Xn:=FA,K9:=fn,Kk:=fc}:At).ay),(p1,(KD b).ay),(b,H9.ay)])=>show W'.b ⟨p8,1,none⟩=some (.b .a 8)/\W'.b ⟨p9,3,none⟩=some (.b .a 1)/\W'.b ⟨p10,1,none⟩=some (.b .a 0)/\W'.b ⟨p10,4,none⟩=some (.g ⟨#[97]⟩)/\W'.b ⟨p10,2,none⟩=some (.e false)/\W'.b ⟨p10,3,none⟩=some (.b .a 1)/\W'.b ⟨p10,5,none⟩=some (.a o2.Qj o2.Yo o2.akz)/\W'.b ⟨p11,2,none⟩=some (.e true)/\W'.b ⟨p12,0,none⟩=some (.b .a 5)/\W'.b ⟨p13,0,none⟩=some (.b .a 0)/\W'.b ⟨p14,1,none⟩=some (.b .a 8)/\W'.b ⟨p15,0,none⟩=some (.b .a 0)/\W'.b ⟨p16,0,none⟩=some (.b .a 1)/\W'.b ⟨p17,5,none⟩=some (.b .a 2)/\W'.b ⟨p17,4,none⟩=some (.b .a 1)/\W'.b ⟨p17,3,none⟩=some (.a X.f.A 1 X.f.c)/\W'.b ⟨p17,14,none⟩=some (.b .a 2)from⟨((h.box (p:=(p8,o0.ay)) (by simp)).K.1 1).trans (by rw[show o0.ay[1]? = some (.b .a o0.iW)from rfl,H0.i.2.1,aFd]<;>rfl),
  ((h.box (p:=(p9,o1.ay)) (by simp)).K.1 3).trans (by rw[show o1.ay[3]? = some (.b .a o1.Y)from rfl,H1.i.2.2.2.1,aFe]<;>rfl),
  ((h.box (p:=(p10,o2.ay)) (by simp)).K.1 1).trans (by rw[show o2.ay[1]? = some (.b .a o2.iW)from rfl,H2.i.2.1,aoo]<;>rfl),
  ((h.box (p:=(p10,o2.ay)) (by simp)).K.1 4).trans (by rw[show o2.ay[4]? = some (.g (bK o2.E))from rfl,H2.i.2.2.2.2,aoo]<;>rfl),
  ((h.box (p:=(p10,o2.ay)) (by simp)).K.1 2).trans (by rw[show o2.ay[2]? = some (.e o2.uM)from rfl,H2.i.2.2.1,aoo]<;>rfl),
  ((h.box (p:=(p10,o2.ay)) (by simp)).K.1 3).trans (by rw[show o2.ay[3]? = some (.b .a o2.Y)from rfl,H2.i.2.2.2.1,aoo]<;>rfl),
  ((h.box (p:=(p10,o2.ay)) (by simp)).K.1 5).trans (by rw[show o2.ay[5]? = some (.a o2.Qj o2.Yo o2.akz)from rfl]<;>rfl),
  ((h.box (p:=(p11,o3.ay)) (by simp)).K.1 2).trans (by rw[show o3.ay[2]? = some (.e o3.uM)from rfl,H3.i.2.2.1,aFf]<;>rfl),
  ((h.box (p:=(p12,o4.ay)) (by simp)).K.1 0).trans (by rw[show o4.ay[0]? = some (.b .a o4.err)from rfl,H4.i.1,aFg]<;>rfl),
  ((h.box (p:=(p13,o5.ay)) (by simp)).K.1 0).trans (by rw[show o5.ay[0]? = some (.b .a o5.err)from rfl,H5.i.1,aFh]<;>rfl),
  ((h.box (p:=(p14,o6.ay)) (by simp)).K.1 1).trans (by rw[show o6.ay[1]? = some (.b .a o6.iW)from rfl,H6.i.2.1,aFi]<;>rfl),
  ((h.box (p:=(p15,o7.ay)) (by simp)).K.1 0).trans (by rw[show o7.ay[0]? = some (.b .a o7.err)from rfl,H7.i.1,aFj]<;>rfl),
  ((h.box (p:=(p16,o8.ay)) (by simp)).K.1 0).trans (by rw[show o8.ay[0]? = some (.b .a o8.err)from rfl,H8.i.1,aFk]<;>rfl),
  ((h.box (p:=(p17,X.ay)) (by simp)).K.1 5).trans (by rw[show X.ay[5]? = some (.b .a X.no)from Sh.ahJ X,S20.i.no,akK.1]<;>rfl),
  ((h.box (p:=(p17,X.ay)) (by simp)).K.1 4).trans (by rw[show X.ay[4]? = some (.b .a X.gF)from Sh.ahI X,S20.i.gF,akK.2.1]<;>rfl),
  ((h.box (p:=(p17,X.ay)) (by simp)).K.1 3).trans (by rw[show X.ay[3]? = some (.a X.f.A X.f.n X.f.c)from Sh.YG X,<-S20.i.f.len,akK.2.2.2.1]<;>rfl),
  ((h.box (p:=(p17,X.ay)) (by simp)).K.1 14).trans ((Sh.ahH X 8 (by omega)).trans (by rw[S20.i.lW,aFu]))⟩)
 clear H0 H1 H2 H3 H4 H5 H6 H7 H8 Qf HN0 HN1 HN3 HN4 HN5 HN6 HN7 HN8;have lt:=pF (A20.i.box (p:=(p6,(Tu.mk D1 D9 6 1000 8080).ay)) (by simp));have RQ:=ab (aoy u10 #[.b .b 104,.b .b 105] [104,105] rfl (2,3));have BQ:=ab ((aH u10.a.j u10).alloc (av _) (.D #[.b .b 104,.b .b 105] 5 (2,3)));have kc:=as2;cases HWW.i;have CR:=ab (fun(W:ak) (h:gX Vp.ay 20 W W.a.j (some ⟨b,0,none⟩) 1 [H9]) (hs:StR W W.a.j X Ua.1)=>Jt (KD b) [H9] X Ua.1 W h (show 1<=1 by omega) (show 1<=100000 by omega) hs (by have:=avP;omega) (by have:=avP;omega) (by have:=avP;omega) true ((aeO aon [H9] Ua.1 _ _ _).trans aFv));have CT:=ab (fun(W:ak) (h:TbQ W q x8 (uf yN Ua.1))=>Xr (uf yN Ua.1) h.b h.n h.s (by have:=aAj;omega) (by have:=akK.2.2.2.2;omega));have CX:=ab (fun(W:ak) (hs:StR W W.a.j X Ua.1)=>af2 X X Ua.1 Ua.1 W hs hs true (adF _));unfold aro at CT;go_wp2_with (first
  | (go_at_call 40;(with_reducible refine(CM2.i _ _ 2 RQ.i).g ?_);rintro r w11 ⟨A2,n2,c2,rfl,hn,ho,hb⟩;have A21:=ab ((A20.i.go BQ.i).go hb);have EG1:=ab ((EG.i.go BQ.i).go hb);have S21:=ab ((S20.i.go BQ.i).go hb);have Q21:=ab (gq.upon (gq.upon Q20.i BQ.i) hb);have R21:=ab (gq.gU ho);have T1:=(Uw Q21.i o2.akz).2;have T2:=(Uw R21.i c2).2;obtain⟨f0,f1,f2,f3,f4,f5,f6,f7,f8,f9,f10,f11,f12,f13,f14,f15,f16⟩:=FX.i w11 A21.i;clear hn ho hb)
  | (go_at_call 31;(with_reducible refine(CT.i _ EG1.i).g ?_);rintro r w12 ⟨⟨nA,nn,nc,sA,sn,sc⟩,rfl,ht,hb⟩;obtain rfl:sn=0:=(ht.sn.symm.trans akK.2.2.2.2);have A22:=ab (A21.i.go hb);have S22:=ab (S21.i.go hb);have lc:=Xy.nC (A22.i.box (p:=(p1,(KD b).ay)) (by simp)) (Cn.G _);have ls:=aeP (A22.i.box (p:=(p17,X.ay)) (by simp));have V22:=ab (gX.arF (f:=Vp.ay) (sz:=20) (A22.i.box (p:=(b,H9.ay)) (by simp)) (Vp.G _));clear ht hb)
  | (go_at_call 15;(with_reducible refine(CR.i _ V22.i S22.i).g ?_);rintro r w13 ⟨rfl,hb⟩;have A23:=ab (A22.i.go hb);have S23:=ab (S22.i.go hb);have l3:=aeP (A23.i.box (p:=(p17,X.ay)) (by simp));clear hb)
  | (go_at_call 17;(with_reducible refine(CX.i _ S23.i).g ?_);rintro r w14 ⟨rfl,hb⟩;have A24:=ab (A23.i.go hb);clear hb))
 go_ret;exact⟨rfl,A24.i.R⟩
structure Uno(W0 W:ak)(q:Nat)(e:En)(s:pG)(x:Eg)(q2 g:Nat)(sl:List (Option Fw)):Prop where
 r:yM W q e s x q2 g sl
 R:aL W0.a.j W0 W
 new:W0.a.j<=q/\W0.a.j<=q2/\W0.a.j<=g
 Hz:∀k∈qw x,W0.a.j<=k
section
variable {W0 W W':ak} {q q2 g r r2 g2:Nat} {e:En} {s t:pG} {x y x':Eg} {sl sm sl':List (Option Fw)}
theorem Uno.go(h:Uno W0 W q e s x q2 g sl)(hb:aL W.a.j W W'):Uno W0 W' q e s x q2 g sl:=⟨h.r.go hb,h.R.trans (hb.g h.R.j),h.new,h.Hz⟩
theorem Uno.lt(h:Uno W0 W q e s x q2 g sl):q<W.a.j/\q2<W.a.j/\g<W.a.j:=h.r.b.lt
theorem Uno.start(h:yM W' q e s x q2 g sl)(h0:aL W0.a.j W0 W)(hb:aL W.a.j W W')(hq:W.a.j<=q/\W.a.j<=q2/\W.a.j<=g)(hr:∀k∈qw x,W.a.j<=k):Uno W0 W' q e s x q2 g sl:=by
 have:=h0.j;exact⟨h,h0.trans (hb.g h0.j),by omega,fun k hk=>by have:=hr k hk;omega⟩
theorem Uno.XP(h:Uno W0 W q e s x q2 g sl)(h':yM W' q e t x' q2 g sl')(hf:jD [q,q2,g] W W')(hr:∀k∈qw x',k∈qw x\/W.a.j<=k):Uno W0 W' q e t x' q2 g sl':=
 ⟨h',h.R.trans (hf.rM (fun k hk=>by have:=h.new;simp at hk;omega) h.R.j),h.new,fun k hk=>(hr k hk).elim (h.Hz k) (fun h1=>aO h.R.j h1)⟩
end
def aAp(W0 W:ak)(q:Nat)(e:En)(q2 g:Nat)(R:pG×Ou)(z:lq)(W':ak):Prop:=
 ∃o x' sl',z=.a (.d (Oc.ay o))/\OuR W.a.j W' o R.2/\Uno W0 W' q e R.1 x' q2 g sl'/\jD [q,q2,g] W W'
section
variable {W0 W W':ak} {q q2 g r r2 g2:Nat} {e:En} {s t:pG} {x y x':Eg} {sl sm sl':List (Option Fw)} {M:Int}
theorem aoz(h:Uno W0 W q e s x q2 g sl)(hi:mP M e s)(hM:M<1152921504606846976)(a:At)(u:Ac)(ha:AtR W a u)(hof:u.op.h.rF)(how:u.op.w<18446744073709551616):
 aQ ah 25 #[.c (some ⟨q,0,none⟩),.d a.ay] W (aAp W0 W q e q2 g (wL e s u)):=
 (Xo h.r hi hM a u ha hof how).g (by
  rintro z W' ⟨o,x',sl',rfl,ho,hE,hl,hr,hf⟩;exact⟨o,x',sl',rfl,ho,h.XP hE hf (fun b hb=>(hr b hb).imp id And.left),hf⟩)
end
def ab6(e:En)(s:pG)(us:List Ac):pG:=us.foldl (fun s u=>(wL e s u).1) s
theorem akO(e:En)(s:pG)(us:List Ac)(u:Ac):ab6 e s (us++[u])=(wL e (ab6 e s us) u).1:=by simp[ab6]
theorem akP{e:En}{s:pG}{us:List Ac}{k:Nat}(h:k<us.a):ab6 e s (us.d (k+1))=(wL e (ab6 e s (us.d k)) (us.b k aok)).1:=by
 rw[List.take_add_one,aC h,au,aC h];exact akO _ _ _ _
theorem aoA{e:En}{s:pG}{M:Int}(h:mP M e s)(us:List Ac)(hu:∀u∈us,u.op.h.rF/\u.op.w<18446744073709551616):mP (M+us.a) e (ab6 e s us):=by
 induction us generalizing s M with
 | nil=>simpa[ab6]using h
 | cons u us ih=>
   have h1:=vk h u (hu u (by simp)).1 (hu u (by simp)).2;have h2:=ih h1 (fun v hv=>hu v (by simp[hv]));have e1:M+((u::us).a:Int)=M+1+(us.a:Int):=by simp only[List.length_cons];omega
   rw[e1];exact h2
theorem Xv(a:fu)(w:ak):aQ ah 67 #[.d a.ay] w (gM w (.e (qE a))):=by
 have Z:=ab ((Bx.start w).new a.ay 27);go_enter Tryz.func67,Tryz.ntmps67;go_upto_region 1 with fail
 generalize w.alloc (.D a.ay 27)=w2 at *;obtain⟨y1,y2,y3,y4⟩:=Z.i.X.K;have CA:=ab (aiI a w2);have a0:=fu.pW a;have HO:=ab (show qE a=(a.h||a.mJ)from rfl);cases h6:a.h
 all_goals
  rw[h6]at a0 CA HO
  first
   | (go_wp2
      go_ret;exact⟨by rw[HO.i];rfl,Z.i.R⟩)
   | (rw[tF,Fz]at CA
      go_wp2_with (go_at_call 133;(with_reducible refine CA.i.g ?_);rintro e w3 ⟨rfl,hb⟩;have Z3:=ab (Z.i.go hb);clear hb);go_ret;exact⟨by rw[HO.i];rfl,Z3.i.R⟩)
theorem aeQ(n a b:Int)(w:ak):aQ ah 68 #[.b .a n,.b .a a,.b .a b] w fun e w'=>e=.a (.e (Jp n a b))/\w=w':=by
 go_enter Tryz.func68,Tryz.ntmps68;by_cases h1:a<=n<;>by_cases h2:n<=b
 all_goals
  go_wp2;go_ret;exact⟨by simp[Jp,h1,h2],rfl⟩
theorem Cn.avV(x:Cn)(k:Nat)(hk:k<6):x.ay[3+k]? = some (.b .a (x.kD.a.b k 0)):=by
 rw[<-aaE x.kD k hk];have h:=Cn.Tp x;rw[<-h,cu];simp[Cn.G];omega
theorem aip(a b:Int):(a==b)=(b==a):=by rw[dA,beq_iff_eq,beq_iff_eq];exact eq_comm
theorem ag5(a b:fu):decide (a=b)=decide (b=a):=decide_eq_decide.2 eq_comm
theorem akQ(l:List Vp)(i:Nat):DV l i=(adH (l.b i nM) && !(l.d i).any (yg (l.b i nM).h (l.b i nM).aP (l.b i nM).nH)):=rfl
theorem aeR{p:Vp->Bool}{l:List Vp}{i:Nat}(hi:i<=l.a)(h:∀k,k<i->p (l.b k nM)=false):(l.d i).any p=false:=by
 rw[List.any_eq_false];intro x hx;obtain⟨k,hk,rfl⟩:=List.getElem_of_mem hx;have hk2:k<i:=by simp at hk;omega
 have:=h k hk2;rw[au,aC (by omega)]at this;simpa using this
theorem ab7{p:Vp->Bool}{l:List Vp}{i k:Nat}(hi:i<=l.a)(hk:k<i)(h:p (l.b k nM)=true):(l.d i).any p=true:=by
 rw[qR];refine⟨l[k],?_,?_⟩
 ·rw[List.mem_take_iff_getElem]
  exact⟨k,by omega,rfl⟩
 ·rw[au,aC (by omega)]at h
  exact h
theorem Xw(x:Cn)(l:List Vp)(w:ak)(hR:RdV w w.a.j x.qG x.iI l)(hn:x.iI<=100000):
 aQ ah 22 #[.d x.ay] w (gM w (.e (yh x l))):=by
 have Z:=ab ((Bx.start w).new x.ay 29);have HR:=ab hR;have HO:=ab (aia x l);have HI:=ab (WZ x.kD);have HN:=ab hR.1;have HS:=ab (aad l x.iI hR.1);have LI:=ab (Cn.avV x);have FA:=ab (fun(w':ak) (h:Bx [(w.a.j,x.ay)] w w')=>show w'.b ⟨w.a.j,0,none⟩=some (.a x.qG x.iI x.qH)from(h.X.K.1 0).trans (Cn.J3 x));have CS:=ab (fun a W=>Xv a W);have CW:=ab (fun n a b W=>aeQ n a b W);have NOV:=ab (show yT l=false->yh x l=false from fun h=>by rw[HO.i,h];simp);have NOI:=ab (show BU x.kD=false->yh x l=false from fun h=>by rw[HO.i,h];simp);clear hR;go_enter Tryz.func22,Tryz.ntmps22;go_upto_region 1 with fail
 generalize w.alloc (.D x.ay 29)=w2 at *;have f0:=FA.i _ Z.i;by_cases h64:64<x.iI
 ·have q:decide ((64:Int)<x.iI)=true:=by simp;omega
  have HF:=ab (show yh x l=false from NOV.i (by cases h:yT l;rfl;have:=(HS.i.1 h).1;omega));go_wp2;go_ret;exact⟨by rw[HF.i];rfl,Z.i.R⟩
 have q:decide ((64:Int)<x.iI)=false:=by simp;omega
 go_wp2;go_loopw [3] (fun s3 wr=>∃i:Nat,i<=x.iI/\s3=.b .a i/\(∀k,k<i->DV l k=true)/\Bx [(w.a.j,x.ay)] w wr) (fun s3 _=>x.iI-(intOf s3).e)
 case atStart=>exact⟨0,by omega,rfl,fun k hk=>by omega,Z.i⟩
 case round=>
  clear f0 q;obtain⟨i,hin,rfl,hok,hz⟩:=hrel;have Ea:=ab hok;have ZR:=ab hz;clear hok hz;have f0:=FA.i _ ZR.i;by_cases hlt:i<x.iI
  ·have hi:(i:Int)<x.iI:=by omega
   obtain⟨b,o,hA,hbb,hh,hcl⟩:=gX.at_ Vp.G nM (ZR.i.rdR HR.i) hlt;obtain⟨v,hv⟩:=dw (l.b i nM);rw[<-hv]at hcl;have HX:=ab (show DV l i=(adH v && !(l.d i).any (yg v.h v.aP v.nH))by rw[akQ,<-hv]);clear hv;rw[hA]at f0;have HAA:=ab hA;clear hA;have Z1:=ab (ZR.i.new v.ay 98);go_upto_region 7 with fail
   clear hh hcl f0;generalize wr.alloc (.D v.ay 98)=w3 at Z1 ⊢;have hy4:=ZR.i.X.lt;generalize wr.a.j=y4 at Z1 hy4 ⊢;obtain⟨y1,y2,y3,y5⟩:=Z1.i.X.K;have CSV:=ab (CS.i v.h w3);have HV:=ab (show adH v=(qE v.h&&(v.aP==6||v.aP==17)&&Jp v.nH 1 65535)from rfl);cases hv:adH v
   ·have Ke:=ab (show yh x l=false from NOV.i (by
     cases h:yT l;rfl;have:=(HS.i.1 h).2 i hlt;rw[HX.i,hv]at this;simp at this))
    rw[hv]at HV;have HZ:=ab HV.i.symm;clear hv HV HX;cases h1:qE v.h
    ·rw[h1]at CSV
     go_wp2_with (first|(go_at_call 67;(with_reducible refine CSV.i.g ?_);rintro e w4 ⟨rfl,hb⟩;have Z3:=ab (Z1.i.go hb);clear y1 y2 y3 y5;obtain⟨y1,y2,y3,y5⟩:=Z3.i.X.K;clear hb));go_ret;exact⟨by rw[Ke.i];rfl,Z3.i.R⟩
    ·rw[h1]at CSV HZ
     have HZ2:=ab (show((v.aP==6||v.aP==17)&&Jp v.nH 1 65535)=false by have:=HZ.i;simpa using this);cases h2:(v.aP==6)<;>cases h3:(v.aP==17)<;>cases h4:Jp v.nH 1 65535
     all_goals
      rw[h2,h3,h4]at HZ2
      first
       | (exact absurd HZ2.i (by decide))
       | (have h2':(v.aP != 6) = !(v.aP==6):=rfl
          have h3':(v.aP != 17) = !(v.aP==17):=rfl;rw[h2]at h2';rw[h3]at h3';have CWV:=ab (fun W=>CW.i v.nH 1 65535 W);rw[h4]at CWV;go_wp2_with (first|(go_at_call 67;(with_reducible refine CSV.i.g ?_);rintro e w4 ⟨rfl,hb⟩;have Z3:=ab (Z1.i.go hb);clear y1 y2 y3 y5;obtain⟨y1,y2,y3,y5⟩:=Z3.i.X.K;clear hb)|(go_at_call 68;(with_reducible refine(CWV.i _).g ?_);rintro e w5 ⟨rfl,rfl⟩));go_ret;exact⟨by rw[Ke.i];rfl,Z3.i.R⟩)
   ·rw[hv,Am]at HX
    rw[hv]at HV;have HZ:=ab HV.i.symm;clear hv HV;have h1:qE v.h=true:=by have:=HZ.i;simp at this;exact this.1.1
    have h4:Jp v.nH 1 65535=true:=by have:=HZ.i;simp at this;exact this.2
    have h23:(v.aP==6||v.aP==17)=true:=by have:=HZ.i;simp at this;simpa using this.1.2
    have CWV:=ab (fun W=>CW.i v.nH 1 65535 W);rw[h4]at CWV;rw[h1]at CSV;clear h1 h4;cases h2:(v.aP==6)<;>cases h3:(v.aP==17)
    all_goals
     rw[h2,h3]at h23
     first
      | (exact absurd h23 (by decide))
      | skip
    all_goals
     clear h23;have h2':(v.aP != 6) = !(v.aP==6):=rfl;have h3':(v.aP != 17) = !(v.aP==17):=rfl;rw[h2]at h2';rw[h3]at h3';go_upto_region 9 with(first|(go_at_call 67;(with_reducible refine CSV.i.g ?_);rintro e w4 ⟨rfl,hb⟩;have Z3:=ab (Z1.i.go hb);clear y1 y2 y3 y5;obtain⟨y1,y2,y3,y5⟩:=Z3.i.X.K;clear hb)|(go_at_call 68;(with_reducible refine(CWV.i _).g ?_);rintro e w5 ⟨rfl,rfl⟩))
     clear h2 h3 h2' h3' y1 y2 y3 y5 CSV CWV;go_wp2;go_loopw [5] (fun s5 wx=>∃k:Nat,k<=i/\s5=.b .a k/\(∀j,j<k->yg v.h v.aP v.nH (l.b j nM)=false)/\Bx [(y4,v.ay),(w.a.j,x.ay)] w wx) (fun s5 _=>i-(intOf s5).e)
     case atStart=>exact⟨0,by omega,rfl,fun j hj=>by omega,Z3.i⟩
     case round=>
      obtain⟨k,hki,rfl,hno,hz⟩:=hrel;have HNK:=ab hno;have ZK:=ab hz;clear hno hz;have f0:=FA.i _ ZK.i.VH;by_cases hkl:k<i
      ·have hk2:(k:Int)<i:=by omega
       have hk3:(k:Int)<x.iI:=by omega
       obtain⟨b2,o2,hA2,acU,hh,hcl⟩:=gX.at_ Vp.G nM (ZK.i.VH.rdR HR.i) (Nat.lt_trans hkl hlt);obtain⟨u,hu⟩:=dw (l.b k nM);rw[<-hu]at hcl;have HU:=ab hu;clear hu;rw[hA2]at f0;have HAB:=ab hA2;clear hA2;have Z5:=ab (ZK.i.new u.ay 98);go_upto_region 13 with fail
       clear hh hcl f0;have hy6:=ZK.i.X.lt;generalize wr.alloc (.D u.ay 98)=w7 at Z5 ⊢;generalize wr.a.j=y7 at Z5 hy6 ⊢;obtain⟨a1,a2,a3,a4⟩:=Z5.i.X.K;obtain⟨b1,b2,b3,b4⟩:=Z5.i.b1.K;have c1:=Vp.Dp u;have c2:=Vp.Dp v;obtain⟨b5,hb5⟩:∃b,decide (v.h=u.h)=b:=⟨_,rfl⟩
       obtain⟨b6,hb6⟩:∃b,(v.aP==u.aP)=b:=⟨_,rfl⟩
       obtain⟨b7,hb7⟩:∃b,(v.nH==u.nH)=b:=⟨_,rfl⟩
       have HL:=ab (show yg v.h v.aP v.nH u=(b5&&b6&&b7)by
        rw[<-hb5,<-hb6,<-hb7];unfold yg;rw[aip u.aP,aip u.nH,ag5 u.h])
       have Ke:=ab (show yg v.h v.aP v.nH u=true->yh x l=false from fun hl=>NOV.i (by
        cases h:yT l;rfl;have:=(HS.i.1 h).2 i hlt;rw[HX.i,ab7 (by rw[HN.i];omega) hkl (by rw[<-HU.i];exact hl)]at this;simp at this))
       go_wp2
       all_goals
        first
        | (go_roundw
           case rel=>exact⟨k+1,by omega,by go_num,fun j hj=>by
            by_cases hjk:j=k
            ·rw[hjk,<-HU.i,HL.i];simp[*]
            ·exact HNK.i j (by omega),Z5.i.VH⟩
           case measure=>simp[intOf]<;>omega)
        | (go_ret
           exact⟨by rw[Ke.i (by rw[HL.i];simp[*])];rfl,Z5.i.R⟩)
      ·obtain rfl:k=i:=by omega
       have HYY:=ab (show DV l k=true by rw[HX.i,aeR (by rw[HN.i];omega) HNK.i];rfl);have hd:decide ((k:Int)<k)=false:=by simp
       go_wp2;go_roundw
       case rel=>exact⟨k+1,by omega,by go_num,fun j hj=>by
        by_cases hjk:j=k
        ·rw[hjk];exact HYY.i
        ·exact Ea.i j (by omega),ZK.i.VH⟩
       case measure=>simp[intOf]<;>omega
  ·obtain rfl:i=x.iI:=by omega
   have HVS:=ab (show yT l=true from HS.i.2 ⟨by omega,Ea.i⟩);have hd:decide ((x.iI:Int)<x.iI)=false:=by simp
   rw[HVS.i,Fz]at HO;have fi0:=(ZR.i.X.K.1 3).trans (LI.i 0 (by omega));obtain⟨z0,hz0⟩:∃z,z=x.kD.a.b 0 0:=⟨_,rfl⟩
   have HZ0:=ab hz0;rw[<-hz0]at fi0;clear hz0;by_cases hz:z0=0
   ·have qz:(z0 != 0)=false:=by simp[hz]
    have aAq:=ab (show x.kD.a.b 0 0=0 by rw[<-HZ0.i];exact hz);clear hz Ea HS HN;go_upto_region 17 with fail
    clear f0 fi0 qz hd;go_wp2;go_loop [7] (fun s7=>∃k:Nat,1<=k/\k<=6/\s7=.b .a k/\(∀j,j<k->Cg x.kD j=true)) (fun s7=>6-(intOf s7).e)
    case atStart=>exact⟨1,by omega,by omega,rfl,fun j hj=>by obtain rfl:j=0:=by omega
                                                             unfold Cg;rw[aAq.i];rfl⟩
    case round=>
     obtain⟨k,hk1,hk6,rfl,hok⟩:=hrel;have HNK:=ab hok;clear hok;by_cases hlt:k<6
     ·have hk2:(k:Int)<6:=by omega
      have hk3:(0:Int)<=k:=by omega
      have fi:=(ZR.i.X.K.1 (3+k)).trans (LI.i k hlt);obtain⟨z,hz⟩:=dw (x.kD.a.b k 0);have HK:=ab (show Cg x.kD k=Jp z 0 1000000 by unfold Cg;rw[<-hz,show(k==0)=false by simp;omega];simp);rw[<-hz]at fi;have CZ:=ab (fun W=>CW.i z 0 1000000 W);clear hz;cases hb:Jp z 0 1000000
      ·have Ke:=ab (show yh x l=false from NOI.i (by
        cases h:BU x.kD;rfl;have:=HI.i.1 h k hlt;rw[HK.i,hb]at this;cases this))
       rw[hb]at CZ;clear hb;go_wp2_with (first|(go_at_call 68;(with_reducible refine(CZ.i _).g ?_);rintro e w5 ⟨rfl,rfl⟩));go_ret;exact⟨by rw[Ke.i];rfl,ZR.i.R⟩
      ·rw[hb]at CZ HK
       clear hb;go_wp2_with (first|(go_at_call 68;(with_reducible refine(CZ.i _).g ?_);rintro e w5 ⟨rfl,rfl⟩));go_round
       case rel=>exact⟨k+1,by omega,by omega,by go_num,fun j hj=>by
        by_cases hjk:j=k
        ·rw[hjk];exact HK.i
        ·exact HNK.i j (by omega)⟩
       case measure=>simp[intOf]<;>omega
     ·obtain rfl:k=6:=by omega
      have HID:=ab (show BU x.kD=true from HI.i.2 HNK.i);rw[HID.i,Am]at HO;obtain⟨y1,y2,y3,y4⟩:=ZR.i.X.K;have CS4:=ab (fun W=>CS.i x.Cv W);obtain⟨sf,hsf⟩:∃b,qE x.Cv=b:=⟨_,rfl⟩
      rw[hsf]at CS4 HO;clear hsf hlt hk1 hk6 HID HNK NOI NOV HI LI HZ0 aAq HVS;cases hsz:Jp x.j 2 65537
      ·rw[hsz,Dx]at HO
       simp only[Dx]at HO;go_wp2_with (first|(go_at_call 68;(with_reducible refine(CW.i _ _ _ _).g ?_);rintro e w5 ⟨rfl,rfl⟩))
       all_goals
        go_ret;exact⟨by rw[HO.i];rfl,ZR.i.R⟩
      ·have PR:=ab (show∀W,aQ ah 69 #[.b .a x.j] W fun e W'=>e=.a (.e (kZ x.j.e))/\W=W' from fun W=>by
        have h1:2<=x.j/\x.j<=65537:=by unfold Jp at hsz;simpa using hsz
        have:=aaF (W:=W) x.j.e (by omega)
        rwa [kH (by omega)]at this)
       obtain⟨pn,hpn⟩:∃b,kZ x.j.e=b:=⟨_,rfl⟩
       rw[hsz,Am]at HO;simp only[hpn]at HO PR;clear hpn;go_wp2_with (first|(go_at_call 68;(with_reducible refine(CW.i _ _ _ _).g ?_);rintro e w5 ⟨rfl,rfl⟩)|(go_at_call 69;(with_reducible refine(PR.i _).g ?_);rintro e w5 ⟨rfl,rfl⟩)|(go_at_call 67;(with_reducible refine(CS4.i _).g ?_);rintro e w6 ⟨rfl,hb⟩;have Z4:=ab (ZR.i.go hb);clear y1 y2 y3 y4;obtain⟨y1,y2,y3,y4⟩:=Z4.i.X.K;clear hb))
       all_goals
        go_ret;refine⟨?_,by first|exact Z4.i.R|exact ZR.i.R⟩;rw[HO.i];clear HO PR CW CS CS4 y1 y2 y3 y4;simp_all
   ·have qz:(z0 != 0)=true:=by simp[hz]
    have Ke:=ab (show yh x l=false from NOI.i (by
     cases h:BU x.kD;rfl;have:=HI.i.1 h 0 (by omega);unfold Cg at this;rw[<-HZ0.i]at this;simp[hz]at this))
    clear hz;go_wp2;go_ret;exact⟨by rw[Ke.i];rfl,ZR.i.R⟩
@[go_sem]theorem as3:Obj.cells #[bg,ig {data:=#[]},bL false,aA,aA,aA,aA,aA,aA,aA,aA,aA,aA,aA,aA,aA,aA,aA,aA,bg,aA,aA,aA,aA,aA,aA,vO jU 0,bL false,ig {data:=#[]},vO jU 0] 64=Obj.cells aal.ay 64:=rfl
@[go_sem ↓]theorem aId(v x:aB):eF 64 v x=yS 64 v x:=rfl
theorem aeS(t:Tl)(A1:Option aS)(n1 c1:Nat)(A2:Option aS)(n2 c2:Nat)(B1:Option aS)(m1 d1:Nat)(B2:Option aS)(m2 d2:Nat)(w:ak)(h1:RdT w w.a.j A1 n1 t.h)(h2:Yc w w.a.j A2 n2 t.ra)(h3:RdT w w.a.j B1 m1 t.h)(h4:Yc w w.a.j B2 m2 t.ra)(hn1:n1<=100000)(hn2:n2<=100000):
 aQ ah 30 #[.d (Tc.mk A1 n1 c1 A2 n2 c2).ay,.d (Tc.mk B1 m1 d1 B2 m2 d2).ay] w (gM w (.e true)):=by
 have hm1:m1=n1:=h3.1.symm.trans h1.1;have hm2:m2=n2:=h4.1.symm.trans h2.1;subst hm1;subst hm2;have h0:=((Bx.start w).new (Tc.mk A1 m1 c1 A2 m2 c2).ay 72).new (Tc.mk B1 m1 d1 B2 m2 d2).ay 72;rw[show(w.alloc (.D (Tc.mk A1 m1 c1 A2 m2 c2).ay 72)).a.j=w.a.j+1 by simp]at h0;have Z0:=ab h0;have R1:=ab h1;have R2:=ab h2;have R3:=ab h3;have R4:=ab h4;clear h0 h1 h2 h3 h4;have KT:=ab (fun(W:ak) (Z:Bx [(w.a.j+1,(Tc.mk B1 m1 d1 B2 m2 d2).ay),(w.a.j,(Tc.mk A1 m1 c1 A2 m2 c2).ay)] w W)=>show W.b ⟨w.a.j,0,none⟩=some (.a A1 m1 c1)/\W.b ⟨w.a.j,1,none⟩=some (.a A2 m2 c2)/\W.b ⟨w.a.j+1,0,none⟩=some (.a B1 m1 d1)/\W.b ⟨w.a.j+1,1,none⟩=some (.a B2 m2 d2)from
  ⟨(Z.b1.K.1 0).trans rfl,(Z.b1.K.1 1).trans rfl,(Z.X.K.1 0).trans rfl,(Z.X.K.1 1).trans rfl⟩)
 go_enter Tryz.func30,Tryz.ntmps30;go_upto_region 1 with fail
 generalize(w.alloc (.D (Tc.mk A1 m1 c1 A2 m2 c2).ay 72)).alloc (.D (Tc.mk B1 m1 d1 B2 m2 d2).ay 72)=w1 at Z0 ⊢;obtain⟨k1,k2,k3,k4⟩:=KT.i _ Z0.i;go_wp2;clear k1 k2 k3 k4;go_loopw [5] (fun s5 wr=>∃i:Nat,i<=m1/\s5=.b .a i/\Bx [(w.a.j+1,(Tc.mk B1 m1 d1 B2 m2 d2).ay),(w.a.j,(Tc.mk A1 m1 c1 A2 m2 c2).ay)] w wr) (fun s5 _=>m1-(intOf s5).e)
 case atStart=>exact⟨0,by omega,rfl,Z0.i⟩
 case round=>
  obtain⟨i,hin,rfl,hz⟩:=hrel;have ZR:=ab hz;clear hz;obtain⟨k1,k2,k3,k4⟩:=KT.i _ ZR.i;by_cases hlt:i<m1
  ·have hi:(i:Int)<m1:=by omega
   obtain⟨b,o,rfl,_,c1⟩:=gX.text (ZR.i.rdR R1.i) hlt;obtain⟨b',o',rfl,_,c2⟩:=gX.text (ZR.i.rdR R3.i) hlt;obtain⟨s,hs⟩:=sH (t.h.b i []);rw[hs]at c1 c2;have e1:(s != s)=false:=by simp
   clear hs;go_upto_region 6 with fail
   go_quiet (fail);go_wp2;go_roundw
   case rel=>exact⟨i+1,by omega,by go_num,ZR.i.drewN nq⟩
   case measure=>simp[intOf]<;>omega
  have hnl:¬(i:Int)<m1:=by omega
  clear hlt;go_wp2;clear k1 k2 k3 k4;go_loopw [6] (fun s6 wr=>∃j:Nat,j<=m2/\s6=.b .a j/\Bx [(w.a.j+1,(Tc.mk B1 m1 d1 B2 m2 d2).ay),(w.a.j,(Tc.mk A1 m1 c1 A2 m2 c2).ay)] w wr) (fun s6 _=>m2-(intOf s6).e)
  case atStart=>exact⟨0,by omega,rfl,ZR.i⟩
  case round=>
   obtain⟨j,hjn,rfl,hz⟩:=hrel;have ZS:=ab hz;clear hz;obtain⟨k1,k2,k3,k4⟩:=KT.i _ ZS.i;by_cases hlt:j<m2
   ·have hi:(j:Int)<m2:=by omega
    obtain⟨b,o,rfl,c1⟩:=Yc.at_ (ZS.i.rdR R2.i) hlt;obtain⟨b',o',rfl,c2⟩:=Yc.at_ (ZS.i.rdR R4.i) hlt;obtain⟨s,hs⟩:=sH (t.ra.b j 0);rw[hs]at c1 c2;have e1:(s != s)=false:=by simp
    clear hs;go_upto_region 11 with fail
    go_quiet (fail);go_wp2;go_roundw
    case rel=>exact⟨j+1,by omega,by go_num,ZS.i.drewN nq⟩
    case measure=>simp[intOf]<;>omega
   have hnl:¬(j:Int)<m2:=by omega
   clear hlt;go_wp2;go_ret;exact⟨rfl,ZS.i.R⟩
theorem Yr{ls:List (List UInt8)}{s:List UInt8}(h:∀k,k<ls.a->ls.b k []≠s):qZ ls s=false:=by
 rw[Bool.eq_false_iff];intro hc;obtain⟨i,hi,he⟩:=jv.1 (Zu.1 hc);exact h i hi (by rw[qP hi];exact he)
theorem akR{ls:List (List UInt8)}{s:List UInt8}{k:Nat}(hk:k<ls.a)(h:ls.b k []=s):qZ ls s=true:=by
 rw[Zu,<-h,qP hk];exact dR hk
theorem ag6(ls:List (List UInt8))(s:List UInt8)(A:Option aS)(n c:Nat)(w:ak)(hR:RdT w w.a.j A n ls)(hn:n<=1000000)(K:Bool)(hK:qZ ls s=K):
 aQ ah 34 #[.a A n c,.g (bK s)] w fun e w'=>e=.a (.e K)/\w=w':=by
 have HR:=ab hR;have HN:=ab hR.1;have HK:=ab hK;clear hR hK;go_enter Tryz.func34,Tryz.ntmps34;go_wp2;go_loop [5] (fun s5=>∃i:Nat,i<=n/\s5=.b .a i/\∀k,k<i->ls.b k []≠s) (fun s5=>n-(intOf s5).e)
 case atStart=>exact⟨0,by omega,rfl,fun k hk=>by omega⟩
 case round=>
  obtain⟨i,hin,rfl,hno⟩:=hrel;have Ea:=ab hno;clear hno;by_cases hlt:i<n
  ·have hi:(i:Int)<n:=by omega
   obtain⟨b,o,rfl,_,hc1⟩:=gX.text HR.i hlt;obtain⟨pn,hp⟩:=sH (ls.b i []);rw[hp]at hc1;have HP:=ab hp;clear hp;by_cases hq:pn=s
   ·have hbq:(pn==s)=true:=by simpa using hq
    have Pg:=ab (show K=true by rw[<-HK.i];exact akR (k:=i) (by have:=HN.i;omega) (by rw[HP.i,hq]));clear hq;go_wp2;go_ret;exact⟨by rw[Pg.i];rfl,rfl⟩
   have hbq:(pn==s)=false:=by simpa using hq
   have HNX:=ab (show∀k,k<i+1->ls.b k []≠s from fun k hk=>by
    by_cases hki:k=i
    ·rw[hki,HP.i];exact hq
    ·exact Ea.i k (by omega))
   clear hq;go_wp2;go_round
   case rel=>exact⟨i+1,by omega,by go_num,HNX.i⟩
   case measure=>simp[intOf]<;>omega
  have hnl:¬(i:Int)<n:=by omega
  have aFP:=ab (show K=false by rw[<-HK.i];exact Yr (fun k hk=>Ea.i k (by have:=HN.i;omega)));clear hlt;go_wp2;go_ret;exact⟨by rw[aFP.i];rfl,rfl⟩
theorem arG{room:Int}{l:List Fw}(h:vI room l){j:Nat}(hj:j<l.a){t:Tu}(hk:(l.b j jq).key=t):lX l t=some (l.b j jq):=by
 unfold lX;rw[List.find?_eq_some_iff_getElem];rw[qP hj]at hk ⊢;refine⟨by simp[qF,hk],j,hj,rfl,fun i hi=>?_⟩;have:=List.pairwise_iff_getElem.1 h.one i j (by omega) hj hi;rw[hk]at this;simpa[qF]using this
theorem ab8{l:List Fw}{t:Tu}(h:∀j,j<l.a->(l.b j jq).key≠t):lX l t=none:=by
 unfold lX;rw[List.find?_eq_none];intro x hx;obtain⟨j,hj,rfl⟩:=jv.1 hx;have:=h j hj;rw[qP hj]at this;simpa[qF]using this
structure Pck(e:En)(s t:pG)(l:List UInt8)(u:Ou):Prop where
 kind:(qV l).kind=0
 has:rE s.qU u.E=true
 Y:u.Y=s.Y
 uM:u.uM=(match lX s.h (qV l).J with|some f=>f.E==u.E && !qZ (j6 s.G) u.E|none=>false)
 pick:u.uM=false->Dk (uf e s) (ad4 e (qV l).J)=some u.E
 gF:t.gF=s.gF
 aFR:∃m f,t.h=m++[f]/\f.key=(qV l).J/\f.E=u.E/\f.seen=t.gF/\f.no=t.no
theorem ag7{M:Int}{e:En}{s:pG}(h:mP M e s)(hM:M<1152921504606846976){a:Ac}{t:pG}{u:Ou}(hst:wL e s a=(t,u))(hk:a.kind=1)(hr:u.iW=0):Pck e s t a.frame u:=by
 unfold wL at hst;rw[if_pos hk]at hst;have aFS:=hst;unfold yw at hst;by_cases hw:(rV e s a.frame).iW=0
 ·obtain⟨m,hm,_⟩:=ajW h hM hw
  rw[aFS]at hm;rw[if_pos hw]at hst;injection hst with h1 h2
  subst h1;subst h2;obtain⟨hf,i,hv,hb,-,-⟩:=Ww hw;obtain⟨g1,g2⟩:=Zt h hb;have hbi:=NV h hb;exact⟨hf,g1,rfl,ang h hw,fun hh=>(hbi.2.2.2 hh).2,rfl,m,_,hm,rfl,rfl,rfl,rfl⟩
 ·rw[if_neg hw]at hst
  injection hst with h1 h2
  subst h2;exact absurd hr hw
theorem Pck.at_{e:En}{s t:pG}{l:List UInt8}{u:Ou}(h:Pck e s t l u){room:Int}(hf:vI room s.h){at_:Int}(ha:(at_ = -1/\∀j,j<s.h.a->(s.h.b j jq).key≠(qV l).J)\/∃j:Nat,j<s.h.a/\at_=j/\(s.h.b j jq).key=(qV l).J):
 (at_ = -1/\u.uM=false)\/∃j:Nat,j<s.h.a/\at_=j/\u.uM=((s.h.b j jq).E==u.E && !qZ (j6 s.G) u.E):=by
 rcases ha with⟨h1,h2⟩|⟨j,h1,h2,h3⟩
 ·refine .a ⟨h1,?_⟩
  rw[h.uM,ab8 h2]
 ·refine .b ⟨j,h1,h2,?_⟩
  rw[h.uM,arG hf h1 h3]
theorem mP.aAr{M:Int}{e:En}{s:pG}(h:mP M e s):s.qU.a<=1024/\s.G.a<=1024/\(s.h.a:Int)<=4096:=by
 have h1:=(tK.1 h.pl).2.2.1;have h2:=congrArg List.length h.nm;have h3:=h.fl.len;have h4:=(qD h.cn).2.1;simp at h2;exact⟨h1,by omega,by omega⟩
theorem StR.XP{W W':ak}{X:Sh}{s:pG}{F:List Nat}(h:StR W W.a.j X s)(hf:jD F W W')(hn:∀y,(y∈sP X.b.A\/y∈sP X.h.A\/y∈sP X.f.A)->y∉F):StR W' W'.a.j X s:=
 ⟨h.Y,h.b.keep hf (fun y hy=>hn y (.a hy)),h.h.keep hf (fun y hy=>hn y (.b (.a hy))),h.f.keep hf (fun y hy=>hn y (.b (.b hy))),h.gF,h.no,h.lW,h.rF,h.amr,h.ahK,h.nb,h.nh,h.nf⟩
theorem Pk.Qn(x:Pk):x.ay.extract 1 (1+37)=x.J.ay:=by
 unfold Pk.ay;rw[bW,bW];simp[Tu.G]
theorem akS(l:List Bk)(hs:Es l)(s:List UInt8)(v:Int)(A:Option aS)(n c:Nat)(w:ak)(hR:gX Bk.ay 27 w w.a.j A n l)(hn:n<4611686018427387904)(g:Bk)(hg:oM l s=g)(K:Bool)(hK:rE l s=K):
 aQ ah 33 #[.d #[.b .a v,.a A n c],.g (bK s)] w (gM w (.J #[.d g.ay,.e K])):=by
 subst hg;subst hK;obtain rfl:=hR.1;exact zF l hs s v A c w hR hn
theorem Fw.avX(x:Fw)(j:Nat)(hj:j<37):x.ay[j]? = x.key.ay[j]?:=by
 have h:(x.ay.extract 0 37)[j]? = x.key.ay[j]?:=by rw[Fw.Dl]
 rw[cu,if_pos (by rw[Fw.G];omega),bl]at h;exact h
theorem gX.aoB{W:ak}{B n:Nat}{A:Option aS}{l:List Fw}{k:Nat}(h:gX Fw.ay 41 W B A n l)(hk:k<n):∃b o,A=some ⟨b,o,none⟩/\(tL (.c (some ⟨b,o+k*41,none⟩))).I ah W=.ok (.d (l.b k jq).key.ay) W:=by
 obtain⟨b,o,e,_,hc⟩:=gX.cell Fw.G jq h hk;obtain⟨h1,h2⟩:=uP (W:=W) (b:=b) (o:=o+k*41) (n:=37) (Tu.G (l.b k jq).key) (fun j hj=>(hc j (by omega)).trans (Fw.avX _ j hj));exact⟨b,o,e,by rw[JX _ _ _ h1,h2]⟩
theorem ab9{M:Int}{e:En}{s:pG}(h:mP M e s)(v:Int)(A:Option aS)(n c:Nat)(D:Option aS)(d dc:Nat)(w:ak)(hR:gX Bk.ay 27 w w.a.j A n s.qU)(hD:gX txA 1 w w.a.j D d (j6 s.G)):
 aQ ah 28 #[.d #[.b .a v,.a A n c],.a D d dc] w (M7 w (kr (j6 s.G) s.qU)):=by
 obtain rfl:=hR.1;obtain rfl:=hD.1;have hf:=h.few;have hd:=Kj s.G;exact Vk s.qU h.fi v A c (j6 s.G) D dc w hR hD.st (by omega) (by omega)
theorem Aw.aoC{w0 W W':ak}{q q2 g y:Nat}{L:List (Nat×Array aB)}(h:Aw w0 W q q2 g L)(hf:jD [y] W W')(hy:w0.a.j<=y)(hL:∀p∈L,p.1<y):Aw w0 W' q q2 g L:=
 ⟨h.R.trans (hf.rM (fun k hk=>by rw[fD.1 hk];exact hy) h.R.j),h.new,by have:=h.lt;have:=hf.j;omega,fun p hp=>⟨(h.G p hp).1,(h.G p hp).2.1,hf.box (h.G p hp).2.2 (fun e=>by have h1:=hL p hp;rw[fD.1 e]at h1;omega)⟩⟩
theorem Xx{v2 w:ak}{y:Nat}{tb:Tc}{t:Tl}(hb:aL v2.a.j v2 w)(hy:v2.a.j<=y)(hB:dJ w y xC.ay)(hT:TlR w tb.nI tb.nP tb.mE tb.mR t)(hr:∀b,b∈sP tb.nI\/b∈sP tb.mE->y<b):
 v2.a.j<=y/\dJ (gI w y 0 tb.ay) y tb.ay/\TlR (gI w y 0 tb.ay) tb.nI tb.nP tb.mE tb.mR t/\aL v2.a.j v2 (gI w y 0 tb.ay)/\∀b,b∈sP tb.nI\/b∈sP tb.mE->v2.a.j<=b:=
 ⟨hy,hB.put tb.ay (by rw[Tc.G,Tc.G]),hT.keep (sO w y 0 _) (fun b hb=>by have:=hr b (.a hb);simp;omega) (fun b hb=>by have:=hr b (.b hb);simp;omega),kR hb y 0 _ hy,fun b hb=>by have:=hr b hb;omega⟩
theorem akT{e:En}{s:pG}{M:Int}(h:mP M e s):(uf e s).h.a<=100000/\(uf e s).ra.a<=100000:=by
 have:=agS h;omega
theorem dJ.arH{W:ak}{b o:Nat}{c:Array aB}{t:Tu}(h:dJ W b c)(hc:c.extract o (o+37)=t.ay)(hs:o+37<=c.j):(tL (.c (some ⟨b,o,none⟩))).I ah W=.ok (.d t.ay) W:=by
 obtain⟨_,_,h3,h4⟩:=h.K;rw[JX W b o (by rw[h3 o 37 (by unfold dZ;omega)];trivial),h4 o 37 (by unfold dZ;omega),hc]
theorem Qo(k:Vector UInt8 16)(c:Cn)(vs:List Vp)(A:Option aS)(na ca:Nat)(la:List At)(ua:List Ac)(W:ak)(hV:gX Vp.ay 20 W W.a.j c.qG c.iI vs)(hvc:c.iI<=c.qH)(hcc:c.qH<=9223372036854775807)
 (hRa:gX At.ay 34 W W.a.j A na la) (hla:ua.a=na) (hOa:∀i,i<na->AtO W (la.b i qc) (ua.b i aok)) (hna:na<=9223372036854775807) :
 aQ ah 7 #[.d (iH k),.d c.ay,.a A na ca] W (gM W (.e true)):=by
 have z0:=((Bx.start W).new (iH k) 22).new c.ay 29;rw[show(W.alloc (.D (iH k) 22)).a.j=W.a.j+1 by simp]at z0;have Z0:=ab z0;clear z0;have V0:=ab hV;have RA:=ab hRa;have OA:=ab hOa;have LN:=ab (show ua.a=na/\na<=9223372036854775807/\c.iI<=c.qH/\c.qH<=9223372036854775807 from⟨hla,hna,hvc,hcc⟩);have CMa:=ab (fun(w:ak) (hb:aL W.a.j W w)=>arw c la A na ca w (RA.i.go hb) hna);clear hV hRa hOa hla hna hvc hcc;go_enter Tryz.func7,Tryz.ntmps7;go_upto_region 1 with fail
 have SZ0:=ab (show W.a.j+1<((W.alloc (.D (iH k) 22)).alloc (.D c.ay 29)).a.j by simp);generalize(W.alloc (.D (iH k) 22)).alloc (.D c.ay 29)=w1 at Z0 SZ0 ⊢;obtain⟨K1,hK1⟩:∃K,ag3 c la=K:=⟨_,rfl⟩
 obtain⟨K3,hK3⟩:∃K,yh c vs=K:=⟨_,rfl⟩
 rw[hK1]at CMa;have CK:=ab (fun(w:ak) (hb:aL W.a.j W w) (hn:c.iI<=100000)=>Xw c vs w (V0.i.go hb) hn);rw[hK3]at CK;have HK1:=ab hK1;have HK3:=ab hK3;clear hK1 hK3;cases K1
 ·go_upto_region 2 with(first
   | (go_at_call 12;(with_reducible refine(zQ _).g ?_);rintro r w2 ⟨rfl,hb⟩;have Z2:=ab (Z0.i.go hb);have l2:=Xy.nC Z2.i.X (Cn.G _);clear hb)
   | (go_at_call 21;(with_reducible refine(CMa.i _ Z2.i.R).g ?_);rintro r w3 ⟨rfl,hb⟩;have Z3:=ab (Z2.i.go hb);have l3:=Xy.nC Z3.i.X (Cn.G _);clear hb))
  go_wp2_with (go_at_call 12;(with_reducible refine(zQ _).g ?_);rintro r w9 ⟨rfl,hb⟩;have Z9:=ab (Z3.i.go hb);clear hb);go_ret;exact⟨rfl,Z9.i.R⟩
 have VN:=ab (show c.iI<=20/\la.a<=60 by
  have h1:=HK1.i;unfold ag3 Ol at h1;simp only[bf,decide_eq_true_eq]at h1;exact⟨h1.1.1,h1.2.1⟩)
 cases K3
 ·go_upto_region 2 with(first
   | (go_at_call 12;(with_reducible refine(zQ _).g ?_);rintro r w2 ⟨rfl,hb⟩;have Z2:=ab (Z0.i.go hb);have l2:=Xy.nC Z2.i.X (Cn.G _);clear hb)
   | (go_at_call 21;(with_reducible refine(CMa.i _ Z2.i.R).g ?_);rintro r w3 ⟨rfl,hb⟩;have Z3:=ab (Z2.i.go hb);have l3:=Xy.nC Z3.i.X (Cn.G _);clear hb)
   | (go_at_call 22;(with_reducible refine(CK.i _ Z3.i.R (by have:=VN.i;omega)).g ?_);rintro r w4 ⟨rfl,hb⟩;have Z4:=ab (Z3.i.go hb);have l4:=Xy.nC Z4.i.X (Cn.G _);clear hb))
  go_wp2_with (go_at_call 12;(with_reducible refine(zQ _).g ?_);rintro r w9 ⟨rfl,hb⟩;have Z9:=ab (Z4.i.go hb);clear hb);go_ret;exact⟨rfl,Z9.i.R⟩
 go_upto_region 3 with(first
  | (go_at_call 12;(with_reducible refine(zQ _).g ?_);rintro r w2 ⟨rfl,hb⟩;have Z2:=ab (Z0.i.go hb);have l2:=Xy.nC Z2.i.X (Cn.G _);clear hb)
  | (go_at_call 21;(with_reducible refine(CMa.i _ Z2.i.R).g ?_);rintro r w3 ⟨rfl,hb⟩;have Z3:=ab (Z2.i.go hb);have l3:=Xy.nC Z3.i.X (Cn.G _);clear hb)
  | (go_at_call 22;(with_reducible refine(CK.i _ Z3.i.R (by have:=VN.i;omega)).g ?_);rintro r w4 ⟨rfl,hb⟩;have Z4:=ab (Z3.i.go hb);have l4:=Xy.nC Z4.i.X (Cn.G _);clear hb))
 have N5:=ab (show c.iI<=100000 by have:=VN.i;omega);have CN:=ab (aak k c vs w4 (V0.i.go Z4.i.R) LN.i.2.2.1 N5.i HK3.i);unfold Oj at CN;have lk5:=Sn.nC Z4.i.b1 (dH _);clear CMa CK;go_upto_region 4 with(go_at_call 23;(with_reducible refine CN.i.g ?_);rintro r w6 ⟨q,x,q2,g,sl,rfl,hE,hb,hq,hr⟩;have U6:=ab (Uno.start hE (aH _ _) hb hq hr);clear hE hb hq hr)
 go_upto_region 6 with fail
 have FE:=ab (show∀i,i<na->(la.b i qc).K9<=1000000 by
  have h1:=HK1.i;unfold ag3 Ol Xt at h1;simp only[bf,decide_eq_true_eq,fM,dU]at h1;have e1:=RA.i.1;exact fun i hi=>by have:=(h1.2.2 i (by omega)).1;omega)
 have FE2:=ab (show∀i,i<na->(la.b i qc).K9<=1500 by
  have h1:=HK1.i;unfold ag3 Ol Xt at h1;simp only[bf,decide_eq_true_eq,fM,dU]at h1;have e1:=RA.i.1;exact fun i hi=>(h1.2.2 i (by omega)).1)
 have GA:=ab (show∀u∈ua,u.op.h.rF/\u.op.w<18446744073709551616 from fun u hu=>by
  obtain⟨i,hi,rfl⟩:=jv.1 hu;have h:=(OA.i i (by have:=LN.i.1;omega)).OE;rw[au,aC hi]at h;exact⟨h.1.1,h.2.1⟩)
 clear lk5 l2 l3 l4;go_wp2;go_loopw [9] (fun s9 wr=>∃(i:Nat)(x':Eg)(sl':List (Option Fw)),i<=na/\s9=.b .a i/\Uno w4 wr q ⟨k,c,vs⟩ (ab6 ⟨k,c,vs⟩ wH (ua.d i)) x' q2 g sl') (fun s9 _=>na-(intOf s9).e)
 case atStart=>exact⟨0,x,sl,by omega,rfl,U6.i⟩
 case round=>
  as_aux_lemma=>
   obtain⟨i,x',sl',hin,rfl,hu⟩:=hrel;have HU:=ab hu;have ZR:=ab (Z4.i.go (HU.i.R));clear hu;by_cases uM:i<na;rotate_left
   ·obtain rfl:i=na:=by omega
    have hnl:¬((i:Nat):Int)<i:=by omega
    go_wp2;go_ret;exact⟨rfl,ZR.i.R⟩
   have hlt2:(i:Int)<na:=by omega
   have aFa:i<60:=by have:=VN.i;have:=RA.i.1;omega
   have HI:=ab (aoA (P7 k HK3.i) (ua.d i) (fun u hu=>GA.i u (List.mem_of_mem_take hu)));have HM:=ab (show(0:Int)+(ua.d i).a<=100 by have:=LN.i.1;simp;omega);have RT:=ab (akP (e:=⟨k,c,vs⟩) (s:=wH) (us:=ua) (k:=i) (by have:=LN.i.1;omega));generalize(0:Int)+(ua.d i).a=M at HI HM;generalize ab6 ⟨k,c,vs⟩ wH (ua.d i)=s at HI RT HU;obtain⟨b,off,hA,hbl,hh,hcl⟩:=gX.at_ At.G qc RA.i uM;obtain⟨a,ha⟩:=sH (la.b i qc);obtain⟨u,hu⟩:=sH (ua.b i aok);have OI:=ab ((OA.i i uM).r (FE.i i uM));have OG:=ab (OA.i i uM).OE;have KB:=ab (fun(w':ak) (hb:aL W.a.j W w')=>show(xu 66 (.c (some ⟨b,off+i*34,none⟩))).I ah w'=.ok (.d a.ay) w' by
    obtain⟨b2,o2,hA2,_,h3,h4⟩:=gX.at_ At.G qc (RA.i.go hb) uM;rw[hA]at hA2;injection hA2 with hA2
    injection hA2 with e1 e2
    subst e1;subst e2;rw[aAc _ _ _ h3,h4,ha])
   have KC:=ab (fun(w':ak) (hb:aL W.a.j W w')=>show w'.b ⟨b,off+i*34,none⟩=some (.b .a a.kind)by
    obtain⟨b2,o2,hA2,_,h3⟩:=gX.cell At.G qc (RA.i.go hb) uM;rw[hA]at hA2;injection hA2 with hA2
    injection hA2 with e1 e2
    subst e1;subst e2;have h4:=h3 0 (by omega);rw[ha]at h4;exact h4.trans (At.yt a))
   have KF:=ab (fun(w':ak) (hb:aL W.a.j W w')=>show w'.b ⟨b,off+i*34+1,none⟩=some (.a a.Xn a.K9 a.Kk)by
    obtain⟨b2,o2,hA2,_,h3⟩:=gX.cell At.G qc (RA.i.go hb) uM;rw[hA]at hA2;injection hA2 with hA2
    injection hA2 with e1 e2
    subst e1;subst e2;have h4:=h3 1 (by omega);rw[ha]at h4;exact h4.trans (At.an9 a))
   have FA2:=ab (show a.K9<=1500 by have h:=FE2.i i uM;rw[ha]at h;exact h);rw[ha]at OI;rw[hu]at OI OG RT;clear hh hcl hbl ha hu hin;rw[hA];have A0:=ab (show Aw W wr q q2 g [(W.a.j+1,c.ay),(W.a.j,iH k)]from⟨ZR.i.R,by have:=HU.i.new;have:=Z4.i.R.j;omega,HU.i.lt,fun p hp=>by
    have h1:=HU.i.new;have h2:=Z4.i.X.lt;have h3:=Z4.i.b1.lt;simp only[bB,List.mem_nil_iff,or_false]at hp;rcases hp with rfl|rfl
    ·exact⟨by omega,by simp;omega,ZR.i.X⟩
    ·exact⟨by omega,by simp;omega,ZR.i.b1⟩⟩)
   have CT:=ab (Ju HU.i.r HI.i);unfold arl at CT;clear ZR;go_upto_region 10 with(go_at_call 20;(with_reducible refine CT.i.g ?_);rintro r v1 ⟨X,rfl,ho,hb⟩;have HO:=ab ho;have HB:=ab hb;clear ho hb)
   have B1:=ab ((aH v1.a.j v1).alloc (av _) (.D X.ay 37));have A1:=ab ((A0.i.go HB.i).add X.ay 37);have U1:=ab ((HU.i.go HB.i).go B1.i);have S1:=ab ((HO.i.r HI.i).go B1.i);have NS:=ab (show∀y,(y∈sP X.b.A\/y∈sP X.h.A\/y∈sP X.f.A)->y∉[q,q2,g]from fun y hy=>by have h1:=HU.i.lt;rcases hy with hy|hy|hy;(have h2:=(jZ HO.i.b y hy).1;simp;omega);(have h2:=(jZ HO.i.h y hy).1;simp;omega);(have h2:=(jZ HO.i.f y hy).1;simp;omega));generalize v1.alloc (.D X.ay 37)=v2 at A1 U1 S1 ⊢;generalize v1.a.j=p1 at A1 ⊢;clear A0 CT HO HB B1 HU;have HQ:=ab U1.i.lt;have KA:=ab (fun(w':ak) (h:Aw W w' q q2 g [(p1,X.ay),(W.a.j+1,c.ay),(W.a.j,iH k)])=>show w'.rangeAt W.a.j 0 (k.a.map bv)/\w'.b ⟨W.a.j+1,1,none⟩=some (.b .a c.j)/\(xu 32 (.c (some ⟨p1,0,none⟩))).I ah w'=.ok (.d #[.b .a X.Y,.a X.b.A X.b.n X.b.c]) w'/\w'.b ⟨p1,2,none⟩=some (.a X.h.A X.h.n X.h.c)from
    ⟨Zy (h.box (p:=(W.a.j,iH k)) (by simp)),((h.box (p:=(W.a.j+1,c.ay)) (by simp)).K.1 1).trans (Cn.Dq c),kPc.Ay (h.box (p:=(p1,X.ay)) (by simp)) 0 (Sh.AL X) (by rw[Sh.G];omega),((h.box (p:=(p1,X.ay)) (by simp)).K.1 2).trans (Sh.Qr X)⟩)
   have HSH:=ab (Qi HI.i (j6 s.G));have HSZ:=ab (show(0<=c.j/\c.j<=65537)/\kZ c.j.e=true by
    obtain⟨⟨sz2,szb,szp⟩,_⟩:=qD HI.i.cn;exact⟨⟨by simp only at sz2;omega,by simpa using szb⟩,szp⟩)
   have CD:=ab (fun(w:ak) (hS:StR w w.a.j X s)=>QB s.G X.h.A X.h.n X.h.c w hS.h (by have h1:=hS.h.1;have h2:=HI.i.few;omega));have CS:=ab (fun(w:ak) (hS:StR w w.a.j X s) (D:Option aS) (d dc:Nat) (hD:gX txA 1 w w.a.j D d (j6 s.G))=>ab9 HI.i X.Y X.b.A X.b.n X.b.c D d dc w hS.b hD);have CM:=ab (fun(w:ak) (A:Option aS) (m c':Nat) (hR:gX oN.ay 2 w w.a.j A m (kr (j6 s.G) s.qU))=>Xj k c.j.e HSZ.i.2 (by have:=HSZ.i.1;omega) _ HSH.i.1 HSH.i.2 A m c' w hR);rw[show((c.j.e:Nat):Int)=c.j from kH HSZ.i.1.1]at CM;unfold TxP at CD;unfold M7 at CS;have hU:=nX;have hI:(ah.info? 22).map (·.j)=some (k.a.map bv).a:=by rw[bQ,lT];kernel_rfl
   go_cut [11,12]from 54 to 66 (fun s11 s12 wx=>∃(y:Nat)(tb:Tc),s11=.c (some ⟨y,0,none⟩)/\s12=.b .a 0/\v2.a.j<=y/\dJ wx y tb.ay/\TlR wx tb.nI tb.nP tb.mE tb.mR (uf ⟨k,c,vs⟩ s)/\aL v2.a.j v2 wx/\∀b,b∈sP tb.nI\/b∈sP tb.mE->v2.a.j<=b)
   case first=>
    as_aux_lemma=>
     have BD:=ab (gN v2);have BP:=ab (((aH v2.a.j v2).alloc (av _) (.D xC.ay 72)).drew);have AD:=ab (A1.i.go BD.i);have AP:=ab (A1.i.go BP.i);have Xp:=ab (dJ.new v2 xC.ay 72).drew;have BL:=ab (fun w=>(aH w.a.j w).alloc (av _) (.D xC.ay 72));go_region_held_law (fun w'=>w'.rangeAt W.a.j 0 (k.a.map bv)/\w'.b ⟨W.a.j+1,1,none⟩=some (.b .a c.j)/\(xu 32 (.c (some ⟨p1,0,none⟩))).I ah w'=.ok (.d #[.b .a X.Y,.a X.b.A X.b.n X.b.c]) w'/\w'.b ⟨p1,2,none⟩=some (.a X.h.A X.h.n X.h.c))
      (first|exact KA.i _ AD.i|exact KA.i _ AP.i|exact KA.i _ A1.i|exact KA.i _ (A1.i.go (BL.i _))|exact KA.i _ Aa.i|exact KA.i _ Ab.i|exact KA.i _ (Aa.i.go (BL.i _))|exact KA.i _ Ac.i|exact KA.i _ Ad.i|exact KA.i _ Ae.i|exact KA.i _ (Ac.i.go (BL.i _))|exact KA.i _ Af.i|exact KA.i _ Ag.i|exact KA.i _ Ah.i|exact KA.i _ Ai.i|exact KA.i _ Kg.i|exact KA.i _ Kh.i|exact KA.i _ Ki.i|exact KA.i _ (Af.i.go ((aH _ _).alloc (av _) _))|go_keep)
      (first
      | (go_at_call 29;(with_reducible refine(CD.i _ (S1.i.go BD.i)).g ?_);rintro r wa ⟨Da,da,ca,rfl,hn,ho,hb⟩;have Ra:=ab (gX.gU hn ho);have Aa:=ab (AD.i.go hb);have Sa:=ab ((S1.i.go BD.i).go hb);have Ba:=ab (gV BD.i hb);clear hn ho hb)
      | (go_at_call 29;(with_reducible refine(CD.i _ (S1.i.go BP.i)).g ?_);rintro r wb ⟨Db,db,cb,rfl,hn,ho,hb⟩;have Rb:=ab (gX.gU hn ho);have Ab:=ab (AP.i.go hb);have Sb:=ab ((S1.i.go BP.i).go hb);have Bb:=ab (gV BP.i hb);have Xb:=ab (Xp.i.go hb);clear hn ho hb)
      | (go_at_call 28;(with_reducible refine(CS.i _ Sa.i Da da ca Ra.i).g ?_);rintro r wc ⟨Ec,ec,rfl,ho,hb⟩;have Qc:=ab (gX.gU rfl ho);have Ac:=ab (Aa.i.go hb);have Bc:=ab (gV Ba.i hb);clear ho hb)
      | (go_at_call 28;(with_reducible refine(CS.i _ (Sa.i.go (BL.i _)) Da da ca (Ra.i.go (BL.i _))).g ?_);rintro r wd ⟨Ed,ed,rfl,ho,hb⟩;have Qd:=ab (gX.gU rfl ho);have Ad:=ab ((Aa.i.go (BL.i _)).go hb);have Bd:=ab (gV (Ba.i.trans ((BL.i _).g Ba.i.j)) hb);have Xd:=ab ((dJ.new wa xC.ay 72).go hb);clear ho hb)
      | (go_at_call 28;(with_reducible refine(CS.i _ Sb.i Db db cb Rb.i).g ?_);rintro r we ⟨Ee,ee,rfl,ho,hb⟩;have Qe:=ab (gX.gU rfl ho);have Ae:=ab (Ab.i.go hb);have Be:=ab (gV Bb.i hb);have Xe:=ab (Xb.i.go hb);clear ho hb)
      | (go_at_call 27;(with_reducible refine(CM.i _ _ _ _ Qc.i).g ?_);rintro r wf ⟨tf,rfl,ht,hb,hf⟩;have Tf:=ab ht;have Af:=ab (Ac.i.go hb);have Bf:=ab (gV Bc.i hb);have Ff:=ab hf;clear ht hb hf)
      | (go_at_call 27;(with_reducible refine(CM.i _ _ _ _ (Qc.i.go (BL.i _))).g ?_);rintro r wg ⟨tg,rfl,ht,hb,hf⟩;have Tg:=ab ht;have Ag:=ab ((Ac.i.go (BL.i _)).go hb);have Bg:=ab (gV (Bc.i.trans ((BL.i _).g Bc.i.j)) hb);have Fg:=ab hf;have Xg:=ab ((dJ.new wc xC.ay 72).go hb);have thg:=Xg.i.O 0 2 (aW (Tc.G xC).symm);have Kg:=ab (Ag.i.aoC (sO wg wc.a.j 0 tg.ay) Ac.i.R.j (fun p hp=>(Ac.i.G p hp).2.2.lt));clear ht hb hf)
      | (go_at_call 27;(with_reducible refine(CM.i _ _ _ _ Qd.i).g ?_);rintro r wh ⟨th,rfl,ht,hb,hf⟩;have Th:=ab ht;have Ah:=ab (Ad.i.go hb);have Bh:=ab (gV Bd.i hb);have Fh:=ab hf;have Xh:=ab (Xd.i.go hb);have thh:=Xh.i.O 0 2 (aW (Tc.G xC).symm);have Kh:=ab (Ah.i.aoC (sO wh wa.a.j 0 th.ay) Aa.i.R.j (fun p hp=>(Aa.i.G p hp).2.2.lt));clear ht hb hf)
      | (go_at_call 27;(with_reducible refine(CM.i _ _ _ _ Qe.i).g ?_);rintro r wi ⟨ti,rfl,ht,hb,hf⟩;have Ti:=ab ht;have Ai:=ab (Ae.i.go hb);have Bi:=ab (gV Be.i hb);have Fi:=ab hf;have Xi:=ab (Xe.i.go hb);have thi:=Xi.i.O 0 2 (aW (Tc.G xC).symm);have Ki:=ab (Ai.i.aoC (sO wi v2.a.j 0 ti.ay) A1.i.R.j (fun p hp=>(A1.i.G p hp).2.2.lt));clear ht hb hf))
     all_goals(first|go_meet|(go_wp2_with fail;go_meet))
     ·exact⟨wf.a.j,tf,rfl,rfl,Bf.i.j,dJ.new wf tf.ay _,Tf.i.go ((aH _ _).alloc (av _) _),Bf.i.alloc Bf.i.j _,fun b hb=>aO Bc.i.j (Ff.i b hb).1⟩
     ·exact⟨wc.a.j,tg,rfl,rfl,Xx Bg.i Bc.i.j Xg.i Tg.i (fun b hb=>by have h:=(Fg.i b hb).1;simp at h;omega)⟩
     ·exact⟨wa.a.j,th,rfl,rfl,Xx Bh.i Ba.i.j Xh.i Th.i (fun b hb=>by have h:=(Fh.i b hb).1;have h2:=Xd.i.lt;omega)⟩
     ·exact⟨v2.a.j,ti,rfl,rfl,Xx Bi.i (av _) Xi.i Ti.i (fun b hb=>by have h:=(Fi.i b hb).1;have h2:=Xe.i.lt;omega)⟩
   obtain⟨p2,tb,rfl,rfl,hp2,hB,hT,hbl,hfr⟩:=hcut;have P2:=ab hp2;have BB:=ab hbl;have TB:=ab hT;have XB:=ab hB;have FB:=ab hfr;have P1L:=ab (show p1<v2.a.j from(A1.i.box (p:=(p1,X.ay)) (by simp)).lt);have A2:=ab (show Aw W wc q q2 g [(p2,tb.ay),(p1,X.ay),(W.a.j+1,c.ay),(W.a.j,iH k)]by
    have h:=A1.i.go BB.i;refine⟨h.R,h.new,h.lt,fun p hp=>?_⟩;rcases bB.1 hp with rfl|hp
    ·refine⟨?_,?_,XB.i⟩
     ·have h1:=A1.i.R.j;have h2:=P2.i;simp only;omega
     ·have h1:=HQ.i;have h2:=P2.i;simp only;simp;omega
    ·exact h.G p hp)
   have U2:=ab (U1.i.go BB.i);have S2:=ab (S1.i.go BB.i);generalize wc=w3 at A2 U2 S2 TB ⊢;clear hp2 hB hT hbl hfr hU hI KA HSH HSZ CD CS CM XB BB A1 U1 S1;have TF:=ab (akT HI.i);have AD:=ab (A2.i.go (gN w3));have UD:=ab (U2.i.go (gN w3));have CT:=ab (aeK UD.i.r TF.i.1 TF.i.2);unfold aro at CT;have KT:=ab (fun(w':ak) (h:dJ w' p2 tb.ay)=>show(xu 72 (.c (some ⟨p2,0,none⟩))).I ah w'=.ok (.d tb.ay) w' from kTc.nC h (Tc.G _));have y1:=KT.i _ (A2.i.box (p:=(p2,tb.ay)) (by simp));have CS:=ab (fun(w:ak) (hb:aL w3.a.j w3 w) (X2:Tc) (h3:RdT w w.a.j X2.nI X2.nP (uf ⟨k,c,vs⟩ s).h) (h4:Yc w w.a.j X2.mE X2.mR (uf ⟨k,c,vs⟩ s).ra)=>aeS (uf ⟨k,c,vs⟩ s) tb.nI tb.nP tb.yC tb.mE tb.mR tb.vo X2.nI X2.nP X2.yC X2.mE X2.mR X2.vo w ((TB.i.go hb).texts) ((TB.i.go hb).arp) h3 h4 (by have h1:=TB.i.texts.1;have h2:=TF.i.1;omega) (by have h1:=TB.i.arp.1;have h2:=TF.i.2;omega));go_upto_region 11 with fail
   go_region_held_law (fun w'=>(xu 72 (.c (some ⟨p2,0,none⟩))).I ah w'=.ok (.d tb.ay) w')
    (first|exact KT.i _ (AD.i.box (p:=(p2,tb.ay)) (by simp))|exact KT.i _ (A3.i.box (p:=(p2,tb.ay)) (by simp))|exact KT.i _ (A4.i.box (p:=(p2,tb.ay)) (by simp))|go_keep)
    (first
    | (go_at_call 31;(with_reducible refine CT.i.g ?_);rintro r w4 ⟨X2,rfl,ho,hb⟩;have O4:=ab ho;have A3:=ab (AD.i.go hb);have U3:=ab (UD.i.go hb);have B3:=ab ((gN w3).trans hb);clear ho hb)
    | (go_at_call 30;(with_reducible refine(CS.i _ B3.i X2 (gX.gU O4.i.nn O4.i.n) (gX.gU O4.i.sn O4.i.s)).g ?_);rintro r w5 ⟨rfl,hb⟩;have A4:=ab (A3.i.go hb);have U4:=ab (U3.i.go hb);have B4:=ab (gV B3.i hb);clear hb))
   clear CT CS KT y1 AD UD;have SW:=ab (S2.i.go B4.i);have TW:=ab (TB.i.go B4.i);clear A2 U2 S2 TB A3 U3 B3 O4;have CS:=ab (aoz U4.i HI.i (by have:=HM.i;omega) a u (OI.i.go A4.i.R) OG.i.1.1 OG.i.2.1);obtain⟨t,o',hst⟩:∃t o',wL ⟨k,c,vs⟩ s u=(t,o'):=⟨_,_,rfl⟩
   have HST:=ab hst;have IT:=ab (show mP (M+1) ⟨k,c,vs⟩ t by have:=vk HI.i u OG.i.1.1 OG.i.2.1;rw[hst]at this;exact this);rw[hst]at CS RT;unfold aAp at CS;clear hst;go_upto_region 13 with fail
   have ka:=KB.i _ A4.i.R;go_upto_region 14 with(go_at_call 25;(with_reducible refine CS.i.g ?_);rintro r v6 ⟨o,y,sm,rfl,h1,h2,h3⟩;have HO:=ab h1;have HU:=ab h2;have HF:=ab h3;clear h1 h2 h3)
   have AV:=ab (A4.i.step HF.i);have ZB:=ab ((Bx.start v6).new o.ay 58);have OV:=ab HO.i.rd;have SV:=ab (SW.i.XP HF.i NS.i);have TV:=ab (TW.i.keep HF.i (fun b hb=>by have h1:=FB.i b (.a hb);have h2:=HQ.i;simp;omega) (fun b hb=>by have h1:=FB.i b (.b hb);have h2:=HQ.i;simp;omega));generalize v6.alloc (.D o.ay 58)=v7 at ZB ⊢;obtain⟨p3,hp3⟩:∃p,p=v6.a.j:=⟨_,rfl⟩
   rw[<-hp3]at ZB ⊢;clear hp3 CS HF ka HO A4 U4 SW TW B4 NS;have kc:=KC.i _ (AV.i.go ZB.i.R).R;have o0:=(ZB.i.X.K.1 1).trans (Oc.Qk o);by_cases hk:u.kind=1;rotate_left
   ·have k1:(a.kind != 1)=true:=by rw[OI.i.kind];simpa using hk
    have k2:decide (a.kind≠1)=true:=by rw[OI.i.kind];simpa using hk
    have k3:(!decide (a.kind=1))=true:=by rw[OI.i.kind];simpa using hk
    clear hk;go_wp2;go_roundw
    case rel=>exact⟨i+1,y,sm,by omega,by go_num,by rw[RT.i];exact HU.i.go ZB.i.R⟩
    case measure=>simp[intOf]<;>omega
   have k1:(a.kind != 1)=false:=by rw[OI.i.kind];simpa using hk
   have k2:decide (a.kind≠1)=false:=by rw[OI.i.kind];simpa using hk
   have k3:(!decide (a.kind=1))=false:=by rw[OI.i.kind];simpa using hk
   by_cases hr:o.iW=0;rotate_left
   ·have r1:(o.iW != 0)=true:=by simpa using hr
    have r2:decide (o.iW≠0)=true:=by simpa using hr
    have r3:(!decide (o.iW=0))=true:=by simpa using hr
    clear hr hk;go_wp2;go_roundw
    case rel=>exact⟨i+1,y,sm,by omega,by go_num,by rw[RT.i];exact HU.i.go ZB.i.R⟩
    case measure=>simp[intOf]<;>omega
   have r1:(o.iW != 0)=false:=by simpa using hr
   have r2:decide (o.iW≠0)=false:=by simpa using hr
   have r3:(!decide (o.iW=0))=false:=by simpa using hr
   have SN:=ab (ag7 HI.i (by have:=HM.i;omega) HST.i hk (by rw[<-OV.i.iW];exact hr));clear hr hk;obtain⟨p,hp⟩:=dw (qV u.frame);have HP:=ab hp;have CP:=ab (fun(w:ak) (hb:aL v6.a.j v6 w)=>Cb w a.Xn a.K9 a.Kk u.frame OI.i.Kk.1 (by have:=OI.i.Kk;omega) (OI.i.go (AV.i.go hb).R).fr);rw[<-hp]at CP;unfold PkP at CP;clear hp;go_upto_region 15 with fail
   clear o0 kc;have kf:=KF.i _ (AV.i.go ZB.i.R).R;go_upto_region 16 with(go_at_call 32;(with_reducible refine(CP.i _ ZB.i.R).g ?_);rintro r w4 ⟨rfl,hb⟩;have ZN:=ab (ZB.i.go hb);clear hb)
   have Z4:=ab (ZN.i.new p.ay 83);clear ZN kf k1 k2 k3 r1 r2 r3 CP;generalize w4.alloc (.D p.ay 83)=w7 at Z4 ⊢;generalize w4.a.j=y2 at Z4 ⊢;obtain⟨fn,hfn⟩:∃n,n=X.f.n:=⟨_,rfl⟩
   have HFN:=ab (show s.h.a=fn/\fn<=4096 from⟨by rw[hfn];exact SV.i.f.1,by have h1:=HI.i.aAr;have h2:=SV.i.f.1;omega⟩);have XFL:=ab (fun(w:ak) (hb:aL v6.a.j v6 w)=>show w.b ⟨p1,3,none⟩=some (.a X.f.A fn X.f.c)from((((AV.i.go hb).box (p:=(p1,X.ay)) (by simp)).K.1 3).trans (Sh.YG X)).trans (by rw[hfn]));have RFL:=ab (fun(w:ak) (hb:aL v6.a.j v6 w)=>show gX Fw.ay 41 w w.a.j X.f.A fn s.h by rw[hfn];exact(SV.i.go hb).f);clear hfn;go_wp2;go_loopw [15,16] (fun s15 s16 wr=>∃(at_:Int)(j:Nat),j<=fn/\s15=.b .a at_/\s16=.b .a j/\Bx [(y2,p.ay),(p3,o.ay)] v6 wr/\((at_ = -1/\∀m,m<j->(s.h.b m jq).key≠p.J)\/∃m:Nat,m<j/\at_=m/\(s.h.b m jq).key=p.J)) (fun _ s16 _=>fn-(intOf s16).e)
   case atStart=>exact⟨-1,0,by omega,rfl,rfl,Z4.i,.a ⟨rfl,fun m hm=>by omega⟩⟩
   case round=>
    as_aux_lemma=>
     obtain⟨at_,j,hj,rfl,rfl,hz,hd⟩:=hrel;have ZR:=ab hz;have HD:=ab hd;clear hz hd;have xf:=XFL.i _ ZR.i.R;by_cases hjt:j<fn
     ·have hj2:(j:Int)<fn:=by omega
      have hfs:fn<=4096:=HFN.i.2;obtain⟨b3,o3,e3,_⟩:=gX.aoB (RFL.i _ ZR.i.R) hjt;obtain⟨km,hkm⟩:∃q,(s.h.b j jq).key=q:=⟨_,rfl⟩
      have la:∀n,(tL (.c (some ⟨b3,o3+j*41,none⟩))).I ah (wr.drewN n)=.ok (.d km.ay) (wr.drewN n):=fun n=>by
       obtain⟨b4,o4,e4,h⟩:=gX.aoB (RFL.i _ (ZR.i.drewN n).R) hjt;rw[e3]at e4;injection e4 with e4
       injection e4 with e5 e6
       subst e5;subst e6;rw[hkm]at h;exact h
      have lb:∀n,(tL (.c (some ⟨y2,1,none⟩))).I ah (wr.drewN n)=.ok (.d p.J.ay) (wr.drewN n):=fun n=>(ZR.i.drewN n).X.arH (o:=1) (Pk.Qn p) (by rw[Pk.G];omega)
      rw[e3]at xf;clear e3;by_cases hq:km=p.J
      ·have d1:decide (km=p.J)=true:=decide_eq_true hq
       have HN:=ab (show(s.h.b j jq).key=p.J from hkm.trans hq);clear hkm hq;go_upto_region 20 with fail
       go_quiet (fail);go_wp2;exact⟨⟨j,j+1,by omega,rfl,by rw[show((j+1:Nat):Int)=(j:Int)+1 by omega],ZR.i.drewN nq,.b ⟨j,by omega,rfl,HN.i⟩⟩,by simp only[intOf];omega⟩
      have d1:decide (km=p.J)=false:=decide_eq_false hq;have HN:=ab (show(s.h.b j jq).key≠p.J from fun h=>hq (hkm.symm.trans h));clear hkm hq;go_upto_region 20 with fail
      go_quiet (fail);go_wp2;exact⟨⟨at_,j+1,by omega,rfl,by rw[show((j+1:Nat):Int)=(j:Int)+1 by omega],ZR.i.drewN nq,HD.i.elim (fun h=>.a ⟨h.1,fun m hm=>by
       by_cases hmj:m=j
       ·rw[hmj];exact HN.i
       ·exact h.2 m (by omega)⟩) (fun⟨m,h1,h2,h3⟩=>.b ⟨m,by omega,h2,h3⟩)⟩,by simp only[intOf];omega⟩
     obtain rfl:j=fn:=by omega
     have hnl:¬(j:Int)<j:=by omega
     have AT:=ab (SN.i.at_ HI.i.fl (at_:=at_) (by
      rw[<-HP.i];rw[HFN.i.1];exact HD.i))
     clear hjt HD;go_upto_region 22 with fail
     have KP:=ab (fun(w:ak) (hb:aL v6.a.j v6 w)=>show(xu 32 (.c (some ⟨p1,0,none⟩))).I ah w=.ok (.d #[.b .a X.Y,.a X.b.A X.b.n X.b.c]) w from kPc.Ay ((AV.i.go hb).box (p:=(p1,X.ay)) (by simp)) 0 (Sh.AL X) (by rw[Sh.G];omega));have FI:=ab (fun(w:ak) (hb:aL v6.a.j v6 w)=>akS s.qU HI.i.srt o.E X.Y X.b.A X.b.n X.b.c w (SV.i.go hb).b (by have:=SV.i.nb;omega) (oM s.qU o.E) rfl true (by rw[OV.i.E];exact SN.i.has));obtain⟨gb,hgb⟩:∃x,x=oM s.qU o.E:=⟨_,rfl⟩
     rw[<-hgb]at FI;clear hgb;have x0:=KP.i _ ZR.i.R;have o4:=(ZR.i.b1.K.1 4).trans (Oc.uK o);go_upto_region 23 with(go_at_call 33;(with_reducible refine(FI.i _ ZR.i.R).g ?_);rintro r w8 ⟨rfl,hb⟩;have ZN:=ab (ZR.i.go hb);clear hb)
     have Z5:=ab (ZN.i.new gb.ay 62);clear ZN x0 o4 xf FI KP;generalize w8.alloc (.D gb.ay 62)=w9 at Z5 ⊢;generalize w8.a.j=p5 at Z5 ⊢;have KF2:=ab (fun(w:ak) (h:Bx [(p5,gb.ay),(y2,p.ay),(p3,o.ay)] v6 w)=>show w.b ⟨p1,3,none⟩=some (.a X.f.A j X.f.c)/\w.b ⟨p3,4,none⟩=some (.g (bK o.E))/\w.b ⟨p1,2,none⟩=some (.a X.h.A X.h.n X.h.c)from
      ⟨XFL.i _ h.R,(h.b2.K.1 4).trans (Oc.uK o),(((AV.i.go h.R).box (p:=(p1,X.ay)) (by simp)).K.1 2).trans (Sh.Qr X)⟩)
     go_cut [19]from 124 to 145 (fun s19 wx=>s19=.e o.uM/\Bx [(p5,gb.ay),(y2,p.ay),(p3,o.ay)] v6 wx)
     case first=>
      as_aux_lemma=>
       rcases AT.i with⟨h1,h2⟩|⟨m,h1,h2,h3⟩
       ·have hh:o.uM=false:=by rw[OV.i.uM];exact h2
        subst h1;go_quiet (fail);go_wp2_with fail;go_meet
        case rel=>exact⟨by rw[hh],Z5.i.drewN nq⟩
       subst h2;have hmj:m<j:=by have:=HFN.i.1;omega
       have hmi:(m:Int)<j:=by omega
       have hm0:(0:Int)<=(m:Int):=by omega
       obtain⟨b3,o3,e3,_,hc3⟩:=gX.cell Fw.G jq (RFL.i _ Z5.i.R) hmj;obtain⟨nm,hnm⟩:∃q,(s.h.b m jq).E=q:=⟨_,rfl⟩
       have KN2:=ab (fun(w:ak) (h:aL v6.a.j v6 w)=>show w.b ⟨b3,o3+m*41+37,none⟩=some (.g (bK nm))by
        obtain⟨b4,o4,e4,_,hc4⟩:=gX.cell Fw.G jq (RFL.i _ h) hmj;rw[e3]at e4;injection e4 with e4
        injection e4 with e5 e6
        subst e5;subst e6;rw[<-hnm];exact(hc4 37 (by omega)).trans (Fw.Vv _))
       have HH:=ab (show o.uM=((nm==o.E) && !qZ (j6 s.G) o.E)by rw[OV.i.uM,h3,hnm,OV.i.E]);obtain⟨f1,f2,f3⟩:=KF2.i _ Z5.i;rw[e3]at f1 KF2;have n1:=KN2.i _ Z5.i.R;clear hc3 hnm h1 h3;obtain⟨b1,hb1⟩:∃b,(nm==o.E)=b:=⟨_,rfl⟩
       rw[hb1]at HH;have hb2:decide (nm=o.E)=b1:=by rw[<-hb1];rw[dA];simp
       cases b1
       ·have hh:o.uM=false:=by rw[HH.i];rfl
        go_quiet (fail);go_wp2_with fail;go_meet
        case rel=>exact⟨by rw[hh],Z5.i.drewN nq⟩
       obtain⟨dn,hdn⟩:∃b,qZ (j6 s.G) o.E=b:=⟨_,rfl⟩
       have HHN:=ab (show o.uM = !dn by rw[HH.i,hdn];rfl);have ZD:=ab Z5.i.drew;have CD:=ab (QB s.G X.h.A X.h.n X.h.c w9.drew (SV.i.go ZD.i.R).h (by have h1:=SV.i.h.1;have h2:=HI.i.few;omega));have CH:=ab (fun(w:ak) (A:Option aS) (n c':Nat) (hR:RdT w w.a.j A n (j6 s.G))=>ag6 (j6 s.G) o.E A n c' w hR (by have h0:=hR.1;have h1:=Kj s.G;have h2:=HI.i.few;omega) dn hdn);unfold TxP at CD;clear hdn HH;go_region_held_law (fun w'=>w'.b ⟨p1,3,none⟩=some (.a (some ⟨b3,o3,none⟩) j X.f.c)/\w'.b ⟨b3,o3+m*41+37,none⟩=some (.g (bK nm))/\w'.b ⟨p3,4,none⟩=some (.g (bK o.E))/\w'.b ⟨p1,2,none⟩=some (.a X.h.A X.h.n X.h.c))
        (first|exact⟨(KF2.i _ ZD.i).1,KN2.i _ ZD.i.R,(KF2.i _ ZD.i).2⟩|exact⟨(KF2.i _ Za.i).1,KN2.i _ Za.i.R,(KF2.i _ Za.i).2⟩|go_keep)
        (first
        | (go_at_call 29;(with_reducible refine CD.i.g ?_);rintro r wa ⟨Da,da,ca,rfl,hn,ho,hb⟩;have Ra:=ab (gX.gU hn ho);have Za:=ab (ZD.i.go hb);clear hn ho hb)
        | (go_at_call 34;(with_reducible refine(CH.i _ _ _ _ Ra.i).g ?_);rintro r wb ⟨rfl,rfl⟩))
       go_wp2_with fail;rw[<-e3];go_meet
       case rel=>exact⟨by rw[HHN.i],Za.i⟩
     obtain⟨rfl,hz⟩:=hcut;have Z6:=ab hz;generalize wc=w10 at Z6 ⊢;clear hz Z5 KF2 AT;have g0:=(Z6.i.b1.K.1 0).trans ((Pk.yt p).trans (by rw[HP.i,SN.i.kind]));have g2:=(Z6.i.b2.K.1 2).trans (Oc.avq o);have g3:=(Z6.i.b2.K.1 3).trans (Oc.Qh o);have gx:=(((AV.i.go Z6.i.R).box (p:=(p1,X.ay)) (by simp)).K.1 0).trans (Sh.pW X);have ev:(o.Y != X.Y)=false:=by rw[OV.i.Y,SN.i.Y,SV.i.Y];simp
     have ev2:decide (o.Y≠X.Y)=false:=by simpa using ev
     obtain⟨hh,hhe⟩:∃b,o.uM=b:=⟨_,rfl⟩
     rw[hhe]at g2 ⊢;have HHE:=ab hhe;clear hhe;cases hh
     all_goals go_upto_region 26 with fail
     all_goals go_upto_if 171 with fail
     all_goals go_cut []from 172 to 191 (fun wx=>Bx [(p5,gb.ay),(y2,p.ay),(p3,o.ay)] v6 wx)
     case first=>
      as_aux_lemma=>
       have hok:=agS HI.i;obtain⟨hv,hhe⟩:∃v,v=xK k (Lj p.J):=⟨_,rfl⟩
       have hhl:hv<18446744073709551616:=by rw[hhe];exact aey _ _
       have TN:=ab (zq (anf SN.i.kind).1);rw[<-HP.i]at TN;have CH:=ab (fun w=>Jm k p.J TN.i w);rw[<-hhe]at CH;have PV:=ab (show Dk (uf ⟨k,c,vs⟩ s) hv=some o.E by
        have h:=SN.i.pick (by rw[<-OV.i.uM];exact HHE.i);rw[<-HP.i,<-OV.i.E]at h;rw[hhe];exact h)
       have CK:=ab (fun w (hb:aL v6.a.j v6 w)=>show aQ ah 35 #[.d tb.ay,.b .u64 (hv:Nat)] w fun e w'=>e=.a (.J #[.g (bK o.E),.e true])/\aL w.a.j w w' by
        have h:=Xf (uf ⟨k,c,vs⟩ s) hok.1 hv hhl tb.nI tb.nP tb.yC tb.mE tb.mR tb.vo w (TV.i.go hb) (by have h1:=TV.i.2.1;have h2:=TF.i.2;omega) (by have h1:=TV.i.1.1;have h2:=TF.i.1;omega);rw[aez,PV.i]at h;exact h)
       clear hok hhe hhl;obtain⟨T,f,n0,E0,es,ew⟩:=vM w10;have hT:Nonempty T:=⟨n0⟩
       have ES:=ab es;have EW:=ab ew;have l1:=fun m=>(Z6.i.go (es m)).b1.arH (o:=1) (Pk.Qn p) (by rw[Pk.G];omega)
       have l2:=fun m=>kTc.nC ((AV.i.go (Z6.i.go (es m)).R).box (p:=(p2,tb.ay)) (by simp)) (Tc.G _)
       have l3:=fun m=>Sn.nC ((AV.i.go (Z6.i.go (es m)).R).box (p:=(W.a.j,iH k)) (by simp)) (dH _)
       have CK2:=ab (fun m=>CK.i (f m) (Z6.i.go (es m)).R);clear es ew;go_upto_region 27 with fail
       refine oh f (by kernel_rfl) (by kernel_rfl) n0 E0 ?_
       repeat(go_big_quiet_step ((first|(go_at_call 36;(with_reducible refine(CH.i _).g ?_);rintro e w2 ⟨rfl,hb⟩;exact⟨rfl,EW.i _ ((ES.i _).trans (hb.g (ES.i _).j))⟩)|(go_at_call 35;(with_reducible refine(CK2.i _).g ?_);rintro e w2 ⟨rfl,hb⟩;exact⟨rfl,EW.i _ ((ES.i _).trans (hb.g (ES.i _).j))⟩))))
       refine gK ?_;rintro _ ⟨m',rfl⟩;have HB:=ab (ES.i m');generalize f m'=wN at *;clear ES EW E0 hT n0 l1 l2 l3 CK2;have Z9:=ab (Z6.i.go HB.i);have g4:=(Z9.i.b2.K.1 4).trans (Oc.uK o);go_wp2_with fail;go_meet
       case rel=>exact Z9.i
     case first=>
      as_aux_lemma=>
       go_wp2_with fail;go_meet
       case rel=>exact Z6.i
     all_goals(
      have Z7:=ab hcut;clear hcut Z6;generalize wc=w11 at Z7⊢)
     all_goals(
      have U7:=ab (HU.i.go Z7.i.R);have CT2:=ab (Ju U7.i.r IT.i);unfold arl at CT2;obtain⟨m,fl,hm,q1,qn,qs,qo⟩:=SN.i.aFR;go_upto_region 30 with fail
      go_upto_region 31 with(go_at_call 20;(with_reducible refine CT2.i.g ?_);rintro r w12 ⟨Y,rfl,ho,hb⟩;have HO2:=ab ho;have HB2:=ab hb;clear ho hb))
     all_goals(
      have Z8:=ab ((Z7.i.go HB2.i).new Y.ay 37);have SY:=ab ((HO2.i.r IT.i).go ((aH w12.a.j w12).alloc (av _) (.D Y.ay 37)));clear HO2 HB2 CT2;generalize w12.alloc (.D Y.ay 37)=w13 at Z8 SY ⊢;generalize w12.a.j=p8 at Z8⊢)
     all_goals(
      have hYf:=SY.i.f;have ITL:=IT.i.aAr;rw[hm]at hYf ITL;obtain⟨ml,hml⟩:∃n,n=m.a:=⟨_,rfl⟩
      have hYn:Y.f.n=ml+1:=by rw[<-hYf.1,hml];simp
      have hmx:ml<=100000:=by rw[aR]at ITL;simp at ITL;omega
      obtain⟨b3,o3,e3,_,hh3,hc3⟩:=gX.fw hYf (k:=ml) (by omega);have hfl:(m++[fl]).b ml jq=fl:=by rw[hml];simp
      rw[hfl]at hc3;have lf:(LA (.c (some ⟨b3,o3+ml*41,none⟩))).I ah w13=.ok (.d fl.ay) w13:=by rw[aa5 _ _ _ hh3,hc3]
      have cy:=(Z8.i.X.K.1 3).trans (Sh.YG Y);rw[e3]at cy;have i1:((Y.f.n:Nat):Int)-1=(ml:Int):=by omega
      have i2:(ml:Int)<((Y.f.n:Nat):Int):=by omega
      have i3:(0:Int)<=(ml:Int):=by omega
      clear hm hYf ITL hml hh3 hc3 hfl;go_upto_region 32 with fail)
     all_goals(
      have Z9:=ab (Z8.i.new fl.ay 86);generalize w13.alloc (.D fl.ay 86)=w14 at Z9 ⊢;have l1:=Z9.i.X.arH (o:=0) (Fw.Dl fl) (by rw[Fw.G];omega);rw[q1,<-HP.i]at l1;have l2:=Z9.i.b3.arH (o:=1) (Pk.Qn p) (by rw[Pk.G];omega);have c1:=(Z9.i.X.K.1 37).trans (Fw.Vv _);rw[qn,<-OV.i.E]at c1;have c2:=(Z9.i.X.K.1 39).trans (Fw.aa3 _);rw[qs]at c2;have c3:=(Z9.i.X.K.1 40).trans (Fw.Vw _);rw[qo]at c3;have c4:=(Z9.i.b1.K.1 4).trans (Sh.ahI Y);rw[SY.i.gF]at c4;have c5:=(Z9.i.b1.K.1 5).trans (Sh.ahJ Y);rw[SY.i.no]at c5;have c6:=(Z9.i.b4.K.1 4).trans (Oc.uK o);generalize w13.a.j=p9 at Z9 l1 c1 c2 c3 ⊢;go_wp2_with fail;go_roundw
      case rel=>exact⟨i+1,y,sm,by omega,by go_num,by rw[RT.i];exact HU.i.go Z9.i.R⟩
      case measure=>simp[intOf]<;>omega)
end Go.Proofs.YtkjojjopamaoiaaGreat
