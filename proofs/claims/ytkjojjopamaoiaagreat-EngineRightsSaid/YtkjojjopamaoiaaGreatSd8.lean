/- Parts. -/
import Derived.Test.YtkjojjopamaoiaaGreatSd7
import Derived.Lib.SlBytesConst
set_option linter.all false
set_option maxRecDepth 100000
set_option maxHeartbeats 8000000
open Array renaming mapM->iF,setIfInBounds_append->aM,getElem?_toList->dG,getElem?_extract->dA,size->Array.j,toList->Array.a,getD->Array.b,setIfInBounds->Array.c
open Bool renaming eq_iff_iff->bF,not_false->nO,and_true->Ay,true_and->xS,false_and->Ef,not_true->sQ,and_eq_true->bf,not_eq_true'->nI
open ByteArray renaming size->ByteArray.j,toList->ByteArray.a
open Go renaming World->ak,Addr->aT,Calls->aP,Value->aB,wpQuiet_nil->eG
open Go.Addr renaming add->qQ,add_mid->iJ
open Go.BoundsCode renaming toNat->Go.BoundsCode.g
open Go.Calls renaming mono->Go.Calls.e
open Go.Ending renaming returned->Go.Ending.a
open Go.Field renaming offset->Go.Field.X
open Go.Instr renaming buildSlice->bM,build->fQ,slice->Go.Instr.a
open Go.IntKind renaming u8->aW,i64->bU,i64->Go.IntKind.a,u8->Go.IntKind.b
open Go.Lib renaming hid->ab
open Go.Obj renaming cells->Go.Obj.D
open Go.Op renaming bytesLess->bI,slice->Go.Op.a
open Go.Oper renaming dst->Go.Oper.S
open Go.Operand renaming tmp->Go.Operand.a
open Go.Proofs.Tryz renaming prog->ah,underlying56->cO,underlying27->fB,underlying98->sK,underlying29->nK,underlying66->nL,underlying64->zD,underlying62->oF,func120->Jd,ntmps120->Gq,func51->wo,ntmps51->uJ
open Go.Result renaming ok->Go.Result.Y
open Go.RowKit renaming Below->aL
open Go.RowKit.Below renaming refl->aG,size->Go.RowKit.Below.j,mono->Go.RowKit.Below.e
open Go.RowKit.Hid renaming out->Go.RowKit.Hid.i
open Go.Sem renaming run->Go.Sem.G
open Go.Shut renaming out->Go.Shut.i
open Go.TypeDesc renaming slice->Go.TypeDesc.a,int->Go.TypeDesc.b,pointer->Go.TypeDesc.c,bool->Go.TypeDesc.e
open Go.TypeInfo renaming size->Go.TypeInfo.j
open Go.Value renaming ownBlock->jy,int->aI,oneCell'->dx,string->jk,bool->bT,float->Ar,cells->Go.Value.D,slice->Go.Value.a,int->Go.Value.b,pointer->Go.Value.c,agg->Go.Value.d,bool->Go.Value.e,string->Go.Value.g
open Go.World renaming heap->Go.World.a,cell?->Go.World.b,setCell->Go.World.F,there->Go.World.K
open Int renaming toNat->Int.g
open List renaming length_append->aR,length_set->aV,mem_singleton->fV,mem_cons->bB,take_of_length_le->aJ,take_succ_eq_append_getElem->dF,getD_eq_getElem?_getD->au,getElem?_eq_getElem->aC,any_eq_false->nH,any_eq_true->nY,mem_take_iff_getElem->nu,range->bY,all_eq_true->fM,mem_range->dV,length->List.a,getD->List.b,take->List.d
open Nat renaming le_refl->av,zero_add->bl,zero_le->jf,below->Nat.M
open Option renaming getD->Option.b
open UInt8 renaming ofNat->aK,toNat->UInt8.g
open Vector renaming replicate->bJ,toList->Vector.a
namespace Go.Proofs.YtkjojjopamaoiaaGreat
open Go.RowKit
def Ow.rd{B n c:Nat}{g0:Option Nat}{w w':ak}{A:Option aT}{bs:List UInt8}(h:Ow B g0 w (.a A n c) bs w'):gu w' w'.a.j A n bs:=by
 obtain⟨A',c',e,_,_⟩:=jG h.vL;injection e with e1 e2 e3
 have:=h.vL;rw[<-e2]at this;exact gu.iG this
theorem ae0(s d:fC)(p:Nat)(hp:p<=255)(w:ak)(A:Option aT)(n c:Nat)(l:List UInt8)(hnn:n<=65535)(hnc:n<=c)(hr:gu w w.a.j A n l)(hT:(JU p l).1.dB=(n:Int))(lp:List UInt8)(hlp:psB s d p n=lp)(hpl:lp.a<=1000):
 aP ah 188 #[.d s.ay,.d d.ay,.b .a p,.a A n c] w (fT w (.b .a (xA (lp++l):Nat))):=by
 have HR:=ab hr;have hl:=ab hr.len;have HLP:=ab hlp;have HPL:=ab hpl;clear hr hlp hpl;have h0:=((Bx.start w).new s.ay 27).new d.ay 27;rw[show(w.alloc (.D s.ay 27)).a.j=w.a.j+1 by simp]at h0;have Z0:=ab h0;clear h0;obtain⟨r,hrr⟩:=bZ (JU p l);rw[<-hrr]at hT;have CP:=ab (fun w1 (hr:gu w1 w1.a.j A n l)=>aee w1 p A n c l (by omega) hr);unfold PtP at CP;rw[<-hrr]at CP;clear hrr;obtain⟨k,er⟩:=r;simp only at hT CP;go_enter Tryz.func188,Tryz.ntmps188;go_upto_region 1 with fail
 generalize(w.alloc (.D s.ay 27)).alloc (.D d.ay 27)=w0 at Z0 ⊢;go_upto_region 2 with(go_at_call 227;(with_reducible refine(CP.i _ (Z0.i.Pf HR.i)).e ?_);rintro e w1 ⟨rfl,hb1⟩;have Z1:=ab ((Z0.i.go hb1).new k.ay 172);clear hb1)
 generalize w1.alloc (.D k.ay 172)=w2 at Z1 ⊢;generalize w1.a.j=y at Z1 ⊢;have KS:=ab (fun(W':ak) (h:Bx [(y,k.ay),(w.a.j+1,d.ay),(w.a.j,s.ay)] w W')=>show W'.b ⟨y,4,none⟩=some (.b .a n)/\(rZ (.c (some ⟨w.a.j,0,none⟩))).G ah W' = .Y (.d s.ay) W'/\(rZ (.c (some ⟨w.a.j+1,0,none⟩))).G ah W' = .Y (.d d.ay) W' by
  refine⟨by rw[h.R.J.1 4,Pt.yH,hT],?_,?_⟩
  ·obtain⟨x1,x2,x3,x4⟩:=h.b2.J;go_simp
  ·obtain⟨x1,x2,x3,x4⟩:=h.b1.J;go_simp)
 have CS:=ab (fun W'=>Ym s d p n hp hnn W');rw[HLP.i]at CS;unfold IV at CS;have i1:(0:Int)<=n:=by omega
 have i2:(n:Int)<=c:=by omega
 have i3:n<=c:=hnc;clear hT;go_region_held_law (fun W'=>W'.b ⟨y,4,none⟩=some (.b .a n)/\(rZ (.c (some ⟨w.a.j,0,none⟩))).G ah W' = .Y (.d s.ay) W'/\(rZ (.c (some ⟨w.a.j+1,0,none⟩))).G ah W' = .Y (.d d.ay) W')
  (first|exact KS.i _ Z1.i.drew|exact KS.i _ Z6.i|exact KS.i _ Z8.i|go_keep)
  (first
  | (go_at_call 259;(with_reducible refine(CS.i _).e ?_);rintro e w6 ⟨A6,n6,c6,rfl,hn6,ho6,hb6⟩;have Z6:=ab (Z1.i.drew.go hb6);have P6:=ab (Ow.iG ho6 hb6.j);have R6:=ab (Z6.i.Pf HR.i);have LN:=ab (show lp.a+n<=1000000000 by have:=HPL.i;omega);have HB6:=ab (show w.a.j<=w2.a.j from Z1.i.O.j);clear hn6 ho6 hb6)
  | (refine Ox (o:=⟨some 28,_,_,_,_,_⟩) rfl (.a 23) (.a 27) rfl (.a A6 n6 c6) A n c rfl P6.i rfl R6.i LN.i ?_;intro A8 n8 c8 w8 h8 h9;have O8:=ab h8;have Z8:=ab (Z6.i.ow h9 (fun p hp=>Nat.lt_of_lt_of_le ((Z1.i.drew.2 p hp).2.lt) (av _)) HB6.i);clear h8 h9))
 go_upto_region 3 with fail
 have R8:=ab O8.i.rd;have CU:=ab (WJ w8 A8 n8 c8 (lp++l) (by have h1:=R8.i.len;have:=HPL.i;have:=hl.i;rw[aR]at h1;omega) R8.i);go_wp2_with (go_at_call 186;(with_reducible refine CU.i.e ?_);rintro e w9 ⟨rfl,hb9⟩;have HB9:=ab hb9;clear hb9);go_ret;exact⟨rfl,Z8.i.O.trans (HB9.i.e Z8.i.O.j)⟩
def xH(l:List UInt8):List UInt8:=(l.set 16 0).set 17 0
def XI(s d:fC)(l:List UInt8):List UInt8:=((xH l).set 16 (aK (xA (psB s d 6 l.a++xH l)/256))).set 17 (aK (xA (psB s d 6 l.a++xH l)%256))
def ak2(w:ak):aP ah 187 #[.b .a 6] w fun e w'=>e=.a (.b .a 16)/\w=w':=by
 go_enter Tryz.func187,Tryz.ntmps187;go_wp2;go_ret;exact⟨rfl,rfl⟩
def acr(s d:fC)(w:ak)(A:Option aT)(n c:Nat)(l:List UInt8)(h18:18<=n)(hnn:n<=65535)(hr:gu w w.a.j A n l)(hT:(JU 6 (xH l)).1.dB=(n:Int)):
 aP ah 107 #[.d s.ay,.d d.ay,.b .a 6,.a A n c] w (IV w (XI s d l)):=by
 have HR:=ab hr;have hl:=ab hr.len;have HT:=ab hT;have HP:=ab (show XI s d l=((xH l).set 16 (aK (xA (psB s d 6 l.a++xH l)/256))).set 17 (aK (xA (psB s d 6 l.a++xH l)%256))from rfl);clear hr hT;have h0:=((Bx.start w).new s.ay 27).new d.ay 27;rw[show(w.alloc (.D s.ay 27)).a.j=w.a.j+1 by simp]at h0;have Z0:=ab h0;clear h0;go_enter Tryz.func107,Tryz.ntmps107;go_upto_region 1 with fail
 generalize(w.alloc (.D s.ay 27)).alloc (.D d.ay 27)=w0 at Z0 ⊢;have L0:=ab (((Ly.ano w w0 Z0.i.O #[] [] 0 rfl (by omega) rfl).add (q:=w.a.j) (c:=s.ay) (Z0.i.b1.alloc _) (by have:=Z0.i.b1.lt;simp[jy];omega)).add (q:=w.a.j+1) (c:=d.ay) (Z0.i.R.alloc _) (by have:=Z0.i.R.lt;simp[jy];omega));have R0:=ab ((Z0.i.Pf HR.i).M ((aG w0.a.j w0).alloc (av _) (.D #[] 5)));have H0:=ab (show([]:List UInt8).a+n<=1000000000 by simp;omega);go_upto_region 2 with(at_builtin;refine jK rfl (.a 12) (.a 13) rfl rfl L0.i.o rfl R0.i H0.i ?_;intro A1 n1 c1 w1 h2 h3;have L1:=ab (L0.i.step h3);clear h2 h3)
 rw[List.nil_append]at L1;go_upto_region 3 with(go_at_call 187;(with_reducible refine(ak2 _).e ?_);rintro e w2 ⟨rfl,rfl⟩)
 obtain⟨hm1,hm2,g,rfl,k1,k2⟩:=L1.i.at0 (by rw[hl.i];omega);rw[hl.i]at hm1;have HM:=ab hm1;have m1:(16:Int)<n1:=by omega
 have m2:(17:Int)<n1:=by omega
 have k16:=k1 16 (by rw[hl.i];omega);have M2:=ab (L1.i.agG 16 0);rw[show bv 0=.b .b 0 from rfl]at M2;clear k1 hm1 hm2 L0 R0 H0;go_upto_region 4 with fail
 generalize w1.F ⟨g,16,none⟩ (.b .b 0)=w3 at *;obtain⟨-,-,g',eg,k3,k4⟩:=M2.i.at0 (by rw[aV,hl.i];omega);injection eg with eg
 injection eg with eg
 subst eg;have k17:=k3 17 (by rw[aV,hl.i];omega);have M3:=ab (M2.i.agG 17 0);rw[show bv 0=.b .b 0 from rfl]at M3;clear k3 k2 k16;go_upto_region 5 with fail
 generalize w3.F ⟨g,17,none⟩ (.b .b 0)=w4 at *;clear k4 k17 M2 L1;have M3:=ab (show Ly w.a.j [(w.a.j+1,d.ay),(w.a.j,s.ay)] w w4 (.a (some ⟨g,0,none⟩) n1 c1) (xH l)from M3.i);have HZL:=ab (show(xH l).a=n by unfold xH;rw[aV,aV,hl.i]);obtain⟨zl,hzl⟩:∃z,z=xH l:=⟨_,rfl⟩
 obtain⟨lp,hlp⟩:∃z,psB s d 6 n=z:=⟨_,rfl⟩
 rw[hl.i]at HP;rw[<-hzl]at M3 HZL HT HP;rw[hlp]at HP;have CQ:=ab (ae0 s d 6 (by omega) w4 (some ⟨g,0,none⟩) n1 c1 zl (by rw[HM.i];omega) (by have:=M3.i.at0 (by rw[HZL.i];omega);exact this.2.1) (DW M3.i.o (aG _ _)) (by rw[HM.i];exact HT.i) lp (by rw[HM.i];exact hlp) (by rw[<-hlp];have:=aqT s d 6 n;omega));rw[show((6:Nat):Int)=6 from rfl]at CQ;clear hzl hlp HT;have HSL:=ab (show xA (lp++zl)<=65535 by unfold xA;omega);generalize xA (lp++zl)=z at *;have z0:(0:Int)<=z:=by omega
 have z1:(z:Int)<=65535:=by have:=HSL.i;omega
 obtain⟨x1,x2,x3,x4⟩:=M3.i.b1.J;obtain⟨y1,y2,y3,y4⟩:=M3.i.R.J;go_upto_region 6 with(go_at_call 188;(with_reducible refine CQ.i.e ?_);rintro e w6 ⟨rfl,hb⟩;have M4:=ab (M3.i.go hb);clear hb)
 clear x1 x2 x3 x4 y1 y2 y3 y4;obtain⟨hm1,hm2,g',eg,k1,k2⟩:=M4.i.at0 (by rw[HZL.i];omega);injection eg with eg
 injection eg with eg
 subst eg;have k16:=k1 16 (by rw[HZL.i];omega);have M5:=ab (M4.i.agG 16 (aK (z/256)));have e1:((aK (z/256)).g:Int)=(z:Int)/256:=by rw[zy _ (by have:=HSL.i;omega)];omega
 unfold bv at M5;rw[e1]at M5;clear k1 e1 hm1 hm2;obtain⟨bz,hbz⟩:∃b,((z:Int)==0)=b:=⟨_,rfl⟩
 cases bz
 all_goals
  go_upto_region 8 with fail
  go_upto_region 9 with fail
  generalize w6.F ⟨g,16,none⟩ (.b .b ((z:Int)/256))=w7 at *;obtain⟨-,-,g',eg,k3,k4⟩:=M5.i.at0 (by rw[aV,HZL.i];omega);injection eg with eg
  injection eg with eg
  subst eg;have k17:=k3 17 (by rw[aV,HZL.i];omega);have M6:=ab (M5.i.agG 17 (aK (z%256)));have e2:((aK (z%256)).g:Int)=(z:Int)%256:=by rw[zy _ (by omega)];omega
  unfold bv at M6;rw[e2]at M6;clear k3 e2 k2 k16;go_wp2;go_ret;rw[<-HP.i]at M6;have ho:=M6.i.o;obtain⟨A9,c9,e9⟩:=ho.Cr;injection e9 with e9 e10 e11
  subst e10;exact⟨_,_,_,rfl,rfl,ho.vL,ho.O⟩
def acs(t:Tu)(load:List UInt8):List UInt8:=[aK (t.jv.g/256),aK (t.jv.g%256),aK (t.iQ.g/256),aK (t.iQ.g%256)]++[0,0,0,0,0,0,0,0,80,2,0,0,0,0,0,0]++load
def aAZ(t:Tu)(n:Nat):Fo:=⟨20,20+(n:Int),0,0,false,true,64,6,t.h,t.S⟩
def mk6(t:Tu)(load:List UInt8):List UInt8:=qN (bJ 6 0) (bJ 6 0) [] 2048++uj (aAZ t (acs t load).a)++XI t.h t.S (acs t load)
@[go_sem]theorem atl(w:ak)(b:Int):(zY 16 #[(0,.b .b 0),(1,.b .b 0),(2,.b .b 0),(3,.b .b 0),(4,.b .b 0),(5,.b .b 0),(6,.b .b 0),(7,.b .b 0),(8,.b .b 80),(9,.b .b b),(10,.b .b 0),(11,.b .b 0),(12,.b .b 0),(13,.b .b 0),(14,.b .b 0),(15,.b .b 0)]).G ah w = .Y (.a (some ⟨w.a.j,0,none⟩) 16 16) (w.alloc (.D #[.b .b 0,.b .b 0,.b .b 0,.b .b 0,.b .b 0,.b .b 0,.b .b 0,.b .b 0,.b .b 80,.b .b b,.b .b 0,.b .b 0,.b .b 0,.b .b 0,.b .b 0,.b .b 0] 5)):=by
 obtain⟨i0,hi0,hz0,hz1,hz2⟩:=yE;have hr:Array.range 16 = #[0,1,2,3,4,5,6,7,8,9,10,11,12,13,14,15]:=by apply Array.ext';rw[Array.toList_range];rfl
 simp[zY,bM,run_underlying cO,zeroValue,sizeOf,typeInfo,hi0,hz0,hz1,Instr.fill,newRow,Value.cells,hr]
theorem Qb(t:Tu)(h6:t.h.h=false)(hp:t.aQ=6)(s0:0<=t.jv)(s1:t.jv<=65535)(d0:0<=t.iQ)(d1:t.iQ<=65535)(w:ak)(A:Option aT)(m c:Nat)(load:List UInt8)(hm:m<=1000)(hr:gu w w.a.j A m load)(hT:(JU 6 (xH (acs t load))).1.dB=((20+m:Nat):Int)):
 aP ah 40 #[.d rb.ay,.d t.ay,.b .a 2,.a A m c] w (IV w (mk6 t load)):=by
 have HR:=ab hr;have hl:=ab hr.len;have HT:=ab hT;have HM:=ab (show mk6 t load=qN (bJ 6 0) (bJ 6 0) [] 2048++uj (aAZ t (acs t load).a)++XI t.h t.S (acs t load)from rfl);have HSB:=ab (show acs t load=[aK (t.jv.g/256),aK (t.jv.g%256),aK (t.iQ.g/256),aK (t.iQ.g%256)]++[0,0,0,0,0,0,0,0,80,2,0,0,0,0,0,0]++load from rfl);clear hr hT;have h0:=((Bx.start w).new rb.ay 108).new t.ay 81;rw[show(w.alloc (.D rb.ay 108)).a.j=w.a.j+1 by simp]at h0;have Z0:=ab h0;clear h0;have hty:agH rb t=Lc.mk (bJ 6 0) (bJ 6 0) none 0 0 2048 0:=by unfold agH rb;rw[h6];rfl
 have CT:=ab (fun w1=>abR rb t w1);rw[hty]at CT;have CP:=ab (fun w1=>WR (Lc.mk (bJ 6 0) (bJ 6 0) none 0 0 2048 0) [] (by simp) (by simp) (by simp) (by simp) w1 (iE.nil _ _));unfold IV at CP;obtain⟨lb,hlb⟩:∃l,l=qN (bJ 6 0) (bJ 6 0) [] 2048:=⟨_,rfl⟩
 have LB:=ab (show lb.a<=100 by rw[hlb];simp[qN,qF]);simp only at CP;rw[<-hlb]at CP HM;clear hlb hty;go_enter Tryz.func40,Tryz.ntmps40;go_upto_region 1 with fail
 generalize(w.alloc (.D rb.ay 108)).alloc (.D t.ay 81)=w0 at Z0 ⊢;obtain⟨x1,x2,x3,x4⟩:=Z0.i.b1.J;obtain⟨y1,y2,y3,y4⟩:=Z0.i.R.J;go_upto_region 2 with(first
  | (go_at_call 104;(with_reducible refine(CT.i _).e ?_);rintro e w1 ⟨rfl,hb1⟩;have Z1:=ab (Z0.i.go hb1);clear hb1)
  | (go_at_call 103;(with_reducible refine(CP.i _).e ?_);rintro e w2 ⟨A2,n2,c2,rfl,hn2,ho2,hb2⟩;have Z2:=ab (Z1.i.go hb2);have O2:=ab ho2;have N2:=ab hn2;have S2:=ab hb2.j;have S1:=ab Z1.i.O.j;clear hb2 ho2 hn2))
 clear x1 x2 x3 x4 y1 y2 y3 y4;obtain⟨y1,y2,y3,y4⟩:=Z2.i.R.J;have b34:=Tu.VZ t;rw[hp]at b34;have b35:=Tu.agh t;have b36:=Tu.abh t;have b0:t.ay[0]? = some (.e false):=by rw[<-h6];exact Tu.nS t
 obtain⟨sp,hsp⟩:∃k,k=t.jv:=⟨_,rfl⟩
 obtain⟨dp,hdp⟩:∃k,k=t.iQ:=⟨_,rfl⟩
 rw[<-hsp]at b35 s0 s1 HSB;rw[<-hdp]at b36 d0 d1 HSB;clear hsp hdp hp h6;have B0:=ab (((Ly.ano w2 w2 (aG _ _) #[.b .b (sp/256),.b .b (sp%256),.b .b (dp/256),.b .b (dp%256)] [aK (sp.g/256),aK (sp.g%256),aK (dp.g/256),aK (dp.g%256)] 4 rfl (by omega) (by
  obtain⟨e1,e2⟩:=WQ sp s0 s1;obtain⟨e3,e4⟩:=WQ dp d0 d1;simp only[List.map_cons,List.map_nil,bv];rw[e1,e2,e3,e4])).add (q:=w.a.j) (c:=rb.ay) (Z2.i.b1.alloc _) (by have:=Z2.i.b1.lt;simp[jy];omega)).add (q:=w.a.j+1) (c:=t.ay) (Z2.i.R.alloc _) (by have:=Z2.i.R.lt;simp[jy];omega))
 go_upto_region 3 with fail
 have O3:=ab (vM O2.i (.D #[.b .b (sp/256),.b .b (sp%256),.b .b (dp/256),.b .b (dp%256)] 5));have S3:=ab (show w2.a.j<(w2.alloc (.D #[.b .b (sp/256),.b .b (sp%256),.b .b (dp/256),.b .b (dp%256)] 5)).a.j by simp);have F3:=ab (show aL w2.a.j w2 (w2.alloc (.D #[.b .b (sp/256),.b .b (sp%256),.b .b (dp/256),.b .b (dp%256)] 5))from(aG _ _).alloc (av _) _);generalize w2.alloc (.D #[.b .b (sp/256),.b .b (sp%256),.b .b (dp/256),.b .b (dp%256)] 5)=w3 at B0 O3 S3 F3 ⊢;clear y1 y2 y3 y4;obtain⟨y1,y2,y3,y4⟩:=B0.i.R.J;have B1:=ab (B0.i.alloc (.D #[.b .b 0,.b .b 0,.b .b 0,.b .b 0,.b .b 0,.b .b 0,.b .b 0,.b .b 0,.b .b 80,.b .b 2,.b .b 0,.b .b 0,.b .b 0,.b .b 0,.b .b 0,.b .b 0] 5));have R1:=ab (Rp w3 #[.b .b 0,.b .b 0,.b .b 0,.b .b 0,.b .b 0,.b .b 0,.b .b 0,.b .b 0,.b .b 80,.b .b 2,.b .b 0,.b .b 0,.b .b 0,.b .b 0,.b .b 0,.b .b 0] [0,0,0,0,0,0,0,0,80,2,0,0,0,0,0,0] rfl);have L1:=ab (show([aK (sp.g/256),aK (sp.g%256),aK (dp.g/256),aK (dp.g%256)]:List UInt8).a+16<=1000000000 by simp);go_upto_region 7 with(at_builtin;refine jK rfl (.a 48) (.a 51) rfl rfl B1.i.o rfl R1.i L1.i ?_;intro A4 n4 c4 w4 h2 h3;have B4:=ab (B1.i.step h3);clear h2 h3)
 clear y1 y2 y3 y4 B1 R1 L1;have BW:=ab (Z2.i.O.trans (B4.i.o.O.e Z2.i.O.j));have R4:=ab (HR.i.upon BW.i);have L4:=ab (show(([aK (sp.g/256),aK (sp.g%256),aK (dp.g/256),aK (dp.g%256)]:List UInt8)++[0,0,0,0,0,0,0,0,80,2,0,0,0,0,0,0]).a+m<=1000000000 by simp;omega);go_upto_region 8 with(at_builtin;refine jK rfl (.a 53) (.a 54) rfl rfl B4.i.o rfl R4.i L4.i ?_;intro A5 n5 c5 w5 h2 h3;have B5:=ab (B4.i.step h3);clear h2 h3)
 obtain⟨sb,hsb⟩:∃l,l=acs t load:=⟨_,rfl⟩
 have SBL:=ab (show sb.a=20+m by rw[hsb,HSB.i];simp[hl.i];omega);rw[<-hsb]at HM HT HSB;rw[<-HSB.i]at B5;clear hsb HSB L4 R4 B4 BW;have N5:=ab (show n5=20+m by
  obtain⟨A9,c9,e9⟩:=B5.i.o.Cr;injection e9 with e9 e10 e11
  rw[e10];exact SBL.i)
 have hn5:n5<=2000:=by have:=N5.i;omega
 have HM:=ab (show mk6 t load=lb++uj (Fo.mk 20 (20+(n5:Int)) 0 0 false true 64 6 t.h t.S)++XI t.h t.S sb by rw[HM.i,SBL.i,N5.i];rfl);have O5:=ab (jE O2.i B5.i.o.O);have BW:=ab (Z2.i.O.trans (B5.i.o.O.e Z2.i.O.j));have CF:=ab (WS (Fo.mk 20 (20+(n5:Int)) 0 0 false true 64 6 t.h t.S) (by simp) (by simp) (by simp;omega) (by simp;omega) (by simp) (by simp) (by simp) (by simp) (by simp) (by simp) w5);unfold IV at CF;obtain⟨fb,hfb⟩:∃l,l=uj (Fo.mk 20 (20+(n5:Int)) 0 0 false true 64 6 t.h t.S):=⟨_,rfl⟩
 have LF:=ab (show fb.a=20 by rw[hfb,WV]);rw[<-hfb]at CF HM;clear hfb;have S5:=ab B5.i.o.O.j;obtain⟨y1,y2,y3,y4⟩:=B5.i.R.J;go_upto_region 11 with(first
  | (go_at_call 106;(with_reducible refine CF.i.e ?_);rintro e w6 ⟨A6,n6,c6,rfl,hn6,ho6,hb6⟩;have B6:=ab (B5.i.go hb6);have R6:=ab (gu.iG ho6);have P6:=ab (Ow.iG (jE O5.i hb6) (by have:=S1.i;have:=S2.i;have:=S5.i;have:=hb6.j;omega));have LN:=ab (show lb.a+n6<=1000000000 by have:=LB.i;have:=LF.i;omega);have W6:=ab (BW.i.trans (hb6.e BW.i.j));have O6:=ab (jE O5.i hb6);clear hn6 ho6 hb6)
  | (at_builtin;refine jK rfl (.a 72) (.a 83) rfl rfl P6.i rfl R6.i LN.i ?_;intro A7 n7 c7 w7 h8 h9;have O7:=ab h8;clear h8 h9))
 clear y1 y2 y3 y4;have FA:=ab (lF O2.i);have F7:=ab (show jM (wM A2) w6 w7 from jM.VO O7.i.gr (fun k hk=>.inl (by
  cases A2 with
  | none=>cases hk
  | some a=>exact Ec.2 ⟨a,rfl,by simpa[jy]using hk⟩)))
 have FB:=ab (fun b (hb:b∈wM A5)=>show b∉wM A2 from fun h=>by
  have h1:=FA.i b h;have h2:=lF (by have:=B6.i.o.vL;rw[SBL.i,<-N5.i]at this;exact this) b hb;omega)
 have R7:=ab (show gu w7 w7.a.j A5 n5 sb from UR (DW B6.i.o (aG _ _)) (av _) F7.i FB.i);have X7:=ab (F7.i.box B6.i.R (fun h=>by have h1:=FA.i _ h;have:=Z0.i.R.lt;have:=S1.i;have h3:=Z1.i.R.lt;omega));have CL:=ab (acr t.h t.S w7 A5 n5 c5 sb (by have:=N5.i;omega) (by omega) R7.i (by rw[HT.i,N5.i]));unfold IV at CL;obtain⟨lf,hlf⟩:∃l,l=XI t.h t.S sb:=⟨_,rfl⟩
 have LL:=ab (show lf.a<=2000 by rw[hlf];unfold XI xH;simp only[aV];have:=SBL.i;omega);rw[<-hlf]at CL HM;clear hlf;obtain⟨y1,y2,y3,y4⟩:=X7.i.J;go_wp2_with (first
  | (go_at_call 107;(with_reducible refine CL.i.e ?_);rintro e w8 ⟨A8,n8,c8,rfl,hn8,ho8,Yz⟩;have R8:=ab (gu.iG ho8);have P8:=ab (O7.i.go Yz);have LN:=ab (show(lb++fb).a+n8<=1000000000 by rw[aR];have:=LB.i;have:=LF.i;have:=LL.i;omega);clear hn8 ho8 Yz)
  | (at_builtin;refine jK rfl (.a 85) (.a 93) rfl rfl P8.i rfl R8.i LN.i ?_;intro A9 n9 c9 w9 h8 h9;have O9:=ab h8;clear h8 h9))
 go_ret;rw[HM.i];have ho:=O9.i;obtain⟨A',c',e9⟩:=jG ho.vL;obtain⟨e9,_⟩:=e9;injection e9 with e9 e10 e11
 refine⟨_,_,_,rfl,e10,?_,W6.i.trans (ho.M.e (by have:=S1.i;omega))⟩;have h:=iH ho.vL (show w.a.j<=w1.a.j by have:=S1.i;omega);rw[<-e10]at h;exact h
def Lv(b:Nat):Cn:={aoK with qP:=some ⟨b,0,none⟩,iX:=1,qZ:=1}
def ar2(w:ak)(fs:Array Field)(h:ah.underlying 27=some (.struct fs)):(iF (fun f=>Prod.mk f.X <$> sizeOf f.type) fs:Sem (Array (Nat×Nat))).G ah w = .Y #[(0,1),(1,16)] w:=by
 have e:=fB;rw[h]at e;cases e;show _=_
 kernel_rfl
def ar3(W:ak):(uW 27 #[(1,.d #[aI aW 5,aI aW 6,aI aW 7,aI aW 8,aI aW 0,aI aW 0,aI aW 0,aI aW 0,aI aW 0,aI aW 0,aI aW 0,aI aW 0,aI aW 0,aI aW 0,aI aW 0,aI aW 0])]).G ah W = .Y (.d (vF [5,6,7,8]).ay) W:=abx.bd W _ _ _ _ fB (ar2 W _ fB) (by kernel_rfl)
def ar4(W:ak):(uW 27 #[(1,.d #[aI aW 1,aI aW 2,aI aW 3,aI aW 4,aI aW 0,aI aW 0,aI aW 0,aI aW 0,aI aW 0,aI aW 0,aI aW 0,aI aW 0,aI aW 0,aI aW 0,aI aW 0,aI aW 0])]).G ah W = .Y (.d (vF [1,2,3,4]).ay) W:=abx.bd W _ _ _ _ fB (ar2 W _ fB) (by kernel_rfl)
def ar5(W:ak):(uW 27 #[(1,.d #[aI aW 10,aI aW 0,aI aW 0,aI aW 9,aI aW 0,aI aW 0,aI aW 0,aI aW 0,aI aW 0,aI aW 0,aI aW 0,aI aW 0,aI aW 0,aI aW 0,aI aW 0,aI aW 0])]).G ah W = .Y (.d (vF [10,0,0,9]).ay) W:=abx.bd W _ _ _ _ fB (ar2 W _ fB) (by kernel_rfl)
def atm(n:Nat)(ps:Array (Nat×aB)):Sem aB:=bM 23 n ps
@[go_sem ↓]theorem aA1(n:Nat)(ps:Array (Nat×aB)):bM 23 n ps=atm n ps:=rfl
@[go_sem]theorem awt(W:ak)(v:Vp):(atm 1 #[(0,.d v.ay)]).G ah W = .Y (.a (some ⟨W.a.j,0,none⟩) 1 1) (W.alloc (.D v.ay 98)):=by
 obtain⟨i0,hi0,hz0,hz1,hzb⟩:=aoB;exact sD W _ _ i0 (.d oL.ay) 20 Tryz.underlying23 hi0 hz0 hz1 (Vp.r oL) (by omega) (by omega) v.ay (Vp.r v)
def aA2(W:ak):(uW 98 #[(0,.d (vF [5,6,7,8]).ay),(1,.b .a 6),(2,.b .a 80)]).G ah W = .Y (.d IZ.ay) W:=kVp.bd W _ _ _ _ sK (ayN W _ sK) (by kernel_rfl)
def aA3(W:ak):(uW 27 #[(0,.e true)]).G ah W = .Y (.d (fC.mk true (bJ 16 0)).ay) W:=abx.bd W _ _ _ _ fB (ar2 W _ fB) (by kernel_rfl)
def Cn.aoM(x:Cn)(v:Int):x.ay.c 1 (.b .a v)=({x with j:=v}:Cn).ay:=by simp[Cn.ay,aM,fC.r,gN,jN]
def Cn.aoN(x:Cn)(v:Int):x.ay.c 2 (.b .a v)=({x with dS:=v}:Cn).ay:=by simp[Cn.ay,aM,fC.r,gN,jN]
def Cn.aoO(x:Cn)(v:Int):x.ay.c 9 (.b .a v)=({x with kF:=v}:Cn).ay:=by simp[Cn.ay,aM,fC.r,gN,jN]
def Cn.aoP(x:Cn)(v:Int):x.ay.c 10 (.b .a v)=({x with S:=v}:Cn).ay:=by simp[Cn.ay,aM,fC.r,gN,jN]
def Cn.aoQ(x:Cn)(v:Int):x.ay.c 51 (.b .a v)=({x with agt:=v}:Cn).ay:=by simp[Cn.ay,aM,fC.r,gN,jN]
def Cn.aoR(x:Cn)(v:Int):x.ay.c 52 (.b .a v)=({x with keep:=v}:Cn).ay:=by simp[Cn.ay,aM,fC.r,gN,jN]
def Cn.ak3(x:Cn)(v:Int):x.ay.c 53 (.b .a v)=({x with Wr:=v}:Cn).ay:=by simp[Cn.ay,aM,fC.r,gN,jN]
def Cn.aoS(x:Cn)(v:Vector Int 6):sV x.ay 3 (Lj v)=({x with kH:=v}:Cn).ay:=by
 unfold Cn.ay;exact re (by rw[jN,jN]) 3 rfl
def Cn.ar6(x:Cn)(v:fC):sV x.ay 34 v.ay=({x with h:=v}:Cn).ay:=by
 unfold Cn.ay;have:=re (p:=#[.a x.qP x.iX x.qZ,.b .a x.j,.b .a x.dS]++Lj x.kH ++ #[.b .a x.kF,.b .a x.S]++Bl x.Bw++x.Du.ay) (q:=x.h.ay) (r:=#[.b .a x.agt,.b .a x.keep,.b .a x.Wr]) (v:=v.ay) (by rw[fC.r,fC.r]) 34 (by simp[fC.r,gN,jN]);simpa[Array.append_assoc]using this
def awu:Vector Int 6:=Vector.ofFn fun i=>if i.val=0 then 0 else 5
theorem aoT:Lj awu = #[aI bU 0,aI bU 5,aI bU 5,aI bU 5,aI bU 5,aI bU 5]:=by kernel_rfl
def aA4(W:ak)(b:Nat):(uW 29 #[(0,.a (some ⟨b,0,none⟩) 1 1),(1,.b .a 7),(2,.b .a 9),(3,.d #[aI bU 0,aI bU 5,aI bU 5,aI bU 5,aI bU 5,aI bU 5]),(4,.b .a 1),(5,.b .a 1),(8,.d (fC.mk true (bJ 16 0)).ay),(9,.b .a 1000),(10,.b .a 2),(11,.b .a 5)]).G ah W = .Y (.d (Lv b).ay) W:=Qf.bd W _ _ _ _ nK (auF W _ nK) (by
 rw[<-aoT];refine(iB rfl rfl (by rw[Cn.r];omega) (Cn.OP Rh _ _ _)).trans ?_;refine(iB rfl rfl (by rw[Cn.r];omega) (Cn.aoM _ _)).trans ?_;refine(iB rfl rfl (by rw[Cn.r];omega) (Cn.aoN _ _)).trans ?_;refine(tu rfl (jN _) (by rw[Cn.r];omega) (Cn.aoS _ _)).trans ?_;refine(iB rfl rfl (by rw[Cn.r];omega) (Cn.aoO _ _)).trans ?_;refine(iB rfl rfl (by rw[Cn.r];omega) (Cn.aoP _ _)).trans ?_;refine(tu rfl (fC.r _) (by rw[Cn.r];omega) (Cn.ar6 _ _)).trans ?_;refine(iB rfl rfl (by rw[Cn.r];omega) (Cn.aoQ _ _)).trans ?_;refine(iB rfl rfl (by rw[Cn.r];omega) (Cn.aoR _ _)).trans ?_;refine(iB rfl rfl (by rw[Cn.r];omega) (Cn.ak3 _ _)).trans ?_;rfl)
def ae1(w:ak):aP ah 39 #[] w fun e w'=>∃b,e=.a (.d (Lv b).ay)/\iE Vp.ay 20 w' w'.a.j (some ⟨b,0,none⟩) 1 [IZ]/\dM w' b IZ.ay/\w.a.j<=b/\aL w.a.j w w':=by
 have b1:=ar3;have b2:=aA2;have b5:=aA3;have b6:=aA4;obtain⟨V,hV⟩:=rT IZ;obtain⟨C,hC⟩:=rT Lv;obtain⟨D,hD⟩:=rT (vF [5,6,7,8]);obtain⟨X6,hX⟩:∃D,(fC.mk true (bJ 16 0))=D:=⟨_,rfl⟩
 rw[hV]at b2 ⊢;rw[hC]at b6 ⊢;rw[hD]at b1 b2;rw[hX]at b5 b6;clear hV hC hD hX;have Z0:=ab ((Bx.start w).new Rh.ay 29);go_enter Tryz.func39,Tryz.ntmps39;go_upto_region 1 with fail
 generalize w.alloc (.D Rh.ay 29)=w0 at Z0 ⊢;have Z1:=ab (Z0.i.new V.ay 98);go_upto_region 2 with fail
 generalize w0.alloc (.D V.ay 98)=w1 at Z1 ⊢;have NP:=ab (show w0.a.j≠w.a.j by have:=Z0.i.R.lt;omega);have SZ1:=ab Z1.i.b1.lt;generalize w0.a.j=p at Z1 NP ⊢;have Z2:=ab (Z1.i.alloc (.D V.ay 98));have R2:=ab (iE.one V Vp.r w1 98);obtain⟨x1,x2,x3,x4⟩:=Z1.i.R.J;have th:=Z2.i.b1.K 0 54 (Nat.le_of_eq (Cn.r Rh).symm);have Z3:=ab (Z2.i.swap.put (fun r hr=>by rw[fV.1 hr];exact NP.i) (C w1.a.j).ay (by rw[Cn.r,Cn.r]));have R3:=ab (R2.i.keep (yO _ w.a.j 0 (C w1.a.j).ay) (fun b hb=>by have:=SZ1.i;simp[wM]at hb;subst hb;simp;omega));go_wp2_with fail;refine bodyPost_ret (Qf.zI rfl _ rfl Z3.i.R (Cn.r _)) rfl ?_;exact⟨_,rfl,R3.i,(yO _ w.a.j 0 (C w1.a.j).ay).box (dM.new w1 V.ay 98) (by have:=SZ1.i;simp;omega),by have:=SZ1.i;omega,Z3.i.O⟩
def kAt:pK 66 34 zf.ay:=⟨⟨_,nL,rfl⟩,by kernel_rfl,by kernel_rfl,At.r _⟩
def su.acu(k:Int)(y:Bk)(s:List UInt8)(v:Nat):(su.mk k y s v).ay = #[.b .a k]++(y.ay ++ #[.g (bP s),fv v]):=by apply Array.toList_inj.1;simp[su.ay]
def su.dw(x:su):x.ay.all (·.oneCell')=true:=by
 obtain⟨k,y,s,v⟩:=x;rw[su.acu];exact ig (by simp[dx]) (ig (Bk.dw _) (by simp[dx,fv]))
def At.dw(x:At):x.ay.all (·.oneCell')=true:=ig (by simp[dx]) (ig (su.dw _) (by simp[dx]))
@[go_sem]theorem At.all(x:At):x.ay.extract 0 34=x.ay:=by have:=At.r x;rw[<-this];simp
@[go_sem ↓]theorem aMD(v:aB):Instr.loadAt 66 v=yY 66 v:=rfl
@[go_sem ↓]theorem aME(v x:aB):Instr.storeAt 66 v x=zQ 66 v x:=rfl
@[go_sem]theorem aIz(W:ak)(b o:Nat)(h:vK W b o 34):(yY 66 (.c (some ⟨b,o,none⟩))).G ah W = .Y (.d (dO W b o 34)) W:=kAt.ld W b o h
@[go_sem]theorem aF3(W:ak)(c:Array aB)(x:At)(b:Nat)(hb:b=W.a.j)(hc:eB c=34):(zQ 66 (.c (some ⟨b,0,none⟩)) (.d x.ay)).G ah (W.alloc (.D c 66)) = .Y () (W.alloc (.D x.ay 66)):=kAt.stN W c x.ay b hb hc (At.r x) (At.dw x)
@[go_sem ↓]theorem aMF(ps:Array (Nat×aB)):fQ 66 ps=uW 66 ps:=rfl
def ar7(w:ak)(fs:Array Field)(h:ah.underlying 66=some (.struct fs)):(iF (fun f=>Prod.mk f.X <$> sizeOf f.type) fs:Sem (Array (Nat×Nat))).G ah w = .Y #[(0,1),(1,1),(2,30),(32,1),(33,1)] w:=by
 have e:=nL;rw[h]at e;cases e;show _=_
 kernel_rfl
def At.FJ(x:At)(v:Int):x.ay.c 0 (.b .a v)=({x with kind:=v}:At).ay:=by simp[At.ay,aM]
def At.awv(x:At)(A:Option aT)(n c:Nat):x.ay.c 1 (.a A n c)=({x with frA:=A,Yy:=n,XG:=c}:At).ay:=by simp[At.ay,aM]
def At.aoU(x:At)(s:List UInt8):x.ay.c 32 (.g (bP s))=({x with E:=s}:At).ay:=by simp[At.ay,aM,su.r]
def At.aww(x:At)(v:su):sV x.ay 2 v.ay=({x with op:=v}:At).ay:=by
 unfold At.ay;exact re (by rw[su.r,su.r]) 2 rfl
@[go_sem]theorem aF4(W:ak)(k:Int):(uW 66 #[(0,.b .a k)]).G ah W = .Y (.d ({zf with kind:=k}:At).ay) W:=kAt.bd W _ _ _ _ nL (ar7 W _ nL) (by
 refine(iB rfl rfl (by rw[At.r];omega) (At.FJ zf _)).trans ?_;rfl)
@[go_sem]theorem aF5(W:ak)(k:Int)(A:Option aT)(n c:Nat):(uW 66 #[(0,.b .a k),(1,.a A n c)]).G ah W = .Y (.d ({zf with kind:=k,frA:=A,Yy:=n,XG:=c}:At).ay) W:=kAt.bd W _ _ _ _ nL (ar7 W _ nL) (by
 refine(iB rfl rfl (by rw[At.r];omega) (At.FJ zf _)).trans ?_;refine(iB rfl rfl (by rw[At.r];omega) (At.awv _ _ _ _)).trans ?_;rfl)
@[go_sem]theorem aF6(W:ak)(k:Int)(o:su):(uW 66 #[(0,.b .a k),(2,.d o.ay)]).G ah W = .Y (.d ({zf with kind:=k,op:=o}:At).ay) W:=kAt.bd W _ _ _ _ nL (ar7 W _ nL) (by
 refine(iB rfl rfl (by rw[At.r];omega) (At.FJ zf _)).trans ?_;refine(tu rfl (su.r _) (by rw[At.r];omega) (At.aww _ _)).trans ?_;rfl)
@[go_sem]theorem aF7(W:ak)(k:Int)(s:List UInt8):(uW 66 #[(0,.b .a k),(3,.g (bP s))]).G ah W = .Y (.d ({zf with kind:=k,E:=s}:At).ay) W:=kAt.bd W _ _ _ _ nL (ar7 W _ nL) (by
 refine(iB rfl rfl (by rw[At.r];omega) (At.FJ zf _)).trans ?_;refine(iB rfl rfl (by rw[At.r];omega) (At.aoU _ _)).trans ?_;rfl)
def ae2:su:=⟨0,iO,[],0⟩
def aF8:pK 64 30 ae2.ay:=⟨⟨_,zD,rfl⟩,by kernel_rfl,by kernel_rfl,su.r _⟩
def aA5(w:ak)(fs:Array Field)(h:ah.underlying 64=some (.struct fs)):(iF (fun f=>Prod.mk f.X <$> sizeOf f.type) fs:Sem (Array (Nat×Nat))).G ah w = .Y #[(0,1),(1,27),(28,1),(29,1)] w:=by
 have e:=zD;rw[h]at e;cases e;show _=_
 kernel_rfl
def aA6(W:ak):(ayt #[(0,.g ⟨#[97]⟩),(1,.d (vF [10,0,0,9]).ay),(2,.b .a 8080),(4,.float .f64 4607182418800017408)]).G ah W = .Y (.d ak0.ay) W:=kBk.bd W _ _ _ _ oF (ajC W _ oF) (by kernel_rfl)
@[go_sem ↓]theorem aIA(ps:Array (Nat×aB)):fQ 64 ps=uW 64 ps:=rfl
@[go_sem]theorem aCz(W:ak)(k:Int)(x:Bk):(uW 64 #[(0,.b .a k),(1,.d x.ay)]).G ah W = .Y (.d (su.mk k x [] 0).ay) W:=aF8.bd W _ _ _ _ zD (aA5 W _ zD) (by
 refine(iB rfl rfl (by rw[su.r];omega) (show ae2.ay.c 0 (.b .a k)=({ae2 with kind:=k}:su).ay by simp[su.ay,ae2])).trans ?_;refine(tu rfl (Bk.r _) (by rw[su.r];omega) (show sV ({ae2 with kind:=k}:su).ay 1 x.ay=(su.mk k x [] 0).ay by
  have:=re (p:=#[.b .a k]) (q:=iO.ay) (r:=#[.g (bP []),fv 0]) (v:=x.ay) (by rw[Bk.r,Bk.r]) 1 rfl;show sV (su.mk k iO [] 0).ay 1 x.ay=_;rw[su.acu,su.acu];exact this)).trans ?_
 rfl)
structure Aw(w0 W:ak)(q q2 g:Nat)(L:List (Nat×Array aB)):Prop where
 O:aL w0.a.j w0 W
 new:w0.a.j<=q/\w0.a.j<=q2/\w0.a.j<=g
 lt:q<W.a.j/\q2<W.a.j/\g<W.a.j
 r:∀p∈L,w0.a.j<=p.1/\p.1∉[q,q2,g]/\dM W p.1 p.2
section
variable {w0 W W':ak} {q q2 g:Nat} {L:List (Nat×Array aB)}
theorem Aw.go(h:Aw w0 W q q2 g L)(hb:aL W.a.j W W'):Aw w0 W' q q2 g L:=⟨h.O.trans (hb.e h.O.j),h.new,by have:=h.lt;have:=hb.j;omega,fun p hp=>⟨(h.r p hp).1,(h.r p hp).2.1,(h.r p hp).2.2.go hb⟩⟩
theorem Aw.step(h:Aw w0 W q q2 g L)(hf:jM [q,q2,g] W W'):Aw w0 W' q q2 g L:=⟨h.O.trans (hf.uq (fun b hb=>by have:=h.new;simp at hb;omega) h.O.j),h.new,by have:=h.lt;have:=hf.j;omega,fun p hp=>⟨(h.r p hp).1,(h.r p hp).2.1,hf.box (h.r p hp).2.2 (h.r p hp).2.1⟩⟩
theorem Aw.add(h:Aw w0 W q q2 g L)(c:Array aB)(t:TypeId):Aw w0 (W.alloc (.D c t)) q q2 g ((W.a.j,c)::L):=by
 have h1:=h.go ((aG W.a.j W).alloc (av _) (.D c t));refine⟨h1.O,h1.new,h1.lt,fun p hp=>?_⟩;rcases bB.1 hp with rfl|hp
 ·exact⟨h.O.j,by have:=h.lt;simp;omega,dM.new W c t⟩
 ·exact h1.r p hp
theorem Aw.box(h:Aw w0 W q q2 g L){p:Nat×Array aB}(hp:p∈L):dM W p.1 p.2:=(h.r p hp).2.2
def AwP(w0 W:ak)(q q2 g:Nat)(L:List (Nat×Array aB))(R:rE×Ou)(r:Ending)(W':ak):Prop:=
 ∃o x' sl',r=.a (.d (Oc.ay o))/\Aw w0 W' q q2 g L/\Ag W' q zh R.1 x' q2 g sl'/\OcR W' o R.2/\(∀b∈wM o.XE,b∉[q,q2,g])/\jM [q,q2,g] W W'
theorem Bt{s:rE}{x:Eg}{sl:List (Option Fw)}{M:Int}(A:Aw w0 W q q2 g L)(h:Ag W q zh s x q2 g sl)(hi:qm M zh s)(hM:M<1152921504606846976)(a:At)(u:Ac)(ha:AtR W a u)(hof:u.op.bk.oQ)(how:u.op.w<18446744073709551616)(R:rE×Ou)(hR:D8 zh s u=R):
 aP ah 25 #[.c (some ⟨q,0,none⟩),.d a.ay] W (AwP w0 W q q2 g L R):=by
 subst hR;refine(ahj h hi hM a u ha hof how).e ?_;rintro r W' ⟨o,x',sl',rfl,hou,hE,_,_,hf⟩;exact⟨o,x',sl',rfl,A.step hf,hE,hou.rd,fun b hb=>by have:=(lF hou.vL b hb).1;have:=A.lt;simp;omega,hf⟩
theorem Ag.aF9{key:Vector UInt8 16}{c:Cn}{vs:List Vp}{s:rE}{x:Eg}{sl:List (Option Fw)}{A:Option aT}{n k:Nat}(h:Ag W q ⟨key,{c with qP:=A,iX:=n,qZ:=k},vs⟩ s x q2 g sl):Ag W q ⟨key,c,vs⟩ s x q2 g sl:=
 ⟨⟨h.b.eg,h.b.key,h.b.cf,h.b.lD,h.b.vs,h.b.bk,h.b.hl,h.b.fl,h.b.h,h.b.rm,h.b.nq,h.b.Nj,h.b.fK,h.b.no,h.b.S⟩,h.dn,h.tt⟩
end
def aiG(c:Cn)(vs:List Vp)(A:Option aT)(n k:Nat):yG {c with qP:=A,iX:=n,qZ:=k} vs=yG c vs:=by unfold yG;rfl
def ae3(c:Cn)(vs:List Vp)(s:rE)(A:Option aT)(n k:Nat):xG {c with qP:=A,iX:=n,qZ:=k} vs s=xG c vs s:=by unfold xG W9;rw[aiG];rfl
def ak4:yG Rh []=false:=by decide +kernel
def sP:iO.oQ:=by unfold Bk.oQ;simp[iO]
def aiH:ak0.oQ:=by unfold Bk.oQ;simp[ak0]
def aA7:mk6 (Tu.mk (vF [1,2,3,4]) (vF [5,6,7,8]) 6 1000 80) [104,105]=awF:=by decide +kernel
def awx:mk6 (Tu.mk (vF [1,2,3,4]) (vF [10,0,0,9]) 6 1000 8080) [104,105]=awW:=by decide +kernel
def awy:(JU 6 (xH (acs (Tu.mk (vF [1,2,3,4]) (vF [5,6,7,8]) 6 1000 80) [104,105]))).1.dB=((20+2:Nat):Int):=by decide +kernel
def ar8:(JU 6 (xH (acs (Tu.mk (vF [1,2,3,4]) (vF [10,0,0,9]) 6 1000 8080) [104,105]))).1.dB=((20+2:Nat):Int):=by decide +kernel
theorem awz:jc (qE 16 [1]) = #[aI aW 1,aI aW 0,aI aW 0,aI aW 0,aI aW 0,aI aW 0,aI aW 0,aI aW 0,aI aW 0,aI aW 0,aI aW 0,aI aW 0,aI aW 0,aI aW 0,aI aW 0,aI aW 0]:=by kernel_rfl
def atn:qm 0 zh zq:=ZJ _ atj
def ato:qm 1 zh aw0.1:=yJ atn acF sP (by decide)
def atp:qm 2 zh aw1.1:=yJ ato acA aiH (by decide)
def atq:qm 3 zh aw2.1:=yJ atp acF sP (by decide)
def atr:qm 4 zh aw3.1:=yJ atq acF sP (by decide)
def att:qm 5 zh aw4.1:=yJ atr (acH [98]) sP (by decide)
def atu:qm 6 zh aw5.1:=yJ att (acH [97]) sP (by decide)
def atv:qm 7 zh aw6.1:=yJ atu acF sP (by decide)
def atw:qm 8 zh aw7.1:=yJ atv (acK 4) sP (by decide)
def atx:qm 9 zh UZ.1:=yJ atw (acK 9) sP (by decide)
section
variable {w0 W W':ak} {q q2 g b b' p n B:Nat} {c c':Array aB} {A:Option aT} {l:List UInt8} {L L':List (Nat×Array aB)}
theorem dM.aA8(h:dM W b c)(k:dM W b c'):c=c':=by
 obtain⟨t,h⟩:=h;obtain⟨t',k⟩:=k;rw[h]at k;injection k with k
 injection k
theorem dM.ne(h:dM W b c)(k:dM W b' c')(hs:c.j≠c'.j):b≠b':=by
 rintro rfl;exact hs (by rw[h.aA8 k])
theorem gu.far(h:gu W B A n l)(k:dM W p c)(hn:c.j<n):∀y∈wM A,y∉[p]:=by
 intro y hy hp;obtain⟨a,rfl,_,hc⟩:=gu.fH h (k:=n-1) (by omega);obtain⟨t,hk⟩:=k;simp[wM]at hy hp;subst hp;rw[hy]at hk;unfold World.cell? at hc;rw[show(a.add (n-1)).block=a.block by unfold qQ;split<;>rfl,hk]at hc;simp only at hc;split at hc
 ·cases hc
 ·have h1:=(Array.getElem?_eq_some_iff.1 hc).1
  have h2:n-1<=(a.add (n-1)).off:=by
   unfold qQ;split<;>simp<;>omega
  omega
theorem Aw.put(h:Aw w0 W q q2 g L)(hf:jM [p] W W')(hb:dM W' p c')(hc:(p,c)∈L)(hL:∀y∈L',y∈L/\y.2.j≠c.j):Aw w0 W' q q2 g ((p,c')::L'):=by
 refine⟨h.O.trans (hf.uq (fun y hy=>by rw[fV.1 hy];exact(h.r _ hc).1) h.O.j),h.new,by have:=h.lt;have:=hf.j;omega,fun y hy=>?_⟩;rcases bB.1 hy with rfl|hy
 ·exact⟨(h.r _ hc).1,(h.r _ hc).2.1,hb⟩
 ·obtain⟨h1,h2⟩:=hL y hy
  refine⟨(h.r _ h1).1,(h.r _ h1).2.1,hf.box (h.r _ h1).2.2 (fun e=>h2 ?_)⟩;rw[fV]at e;obtain⟨y1,y2⟩:=y;simp only at e;subst e;rw[dM.aA8 (h.r _ h1).2.2 (h.r _ hc).2.2]
theorem iE.aA9{α:Type}{f:α->Array aB}{sz:Nat}{A:Option aT}{W W':ak}{B B':Nat}{l:List α}(h:iE f sz W B A n l)(hl:l.a=0):iE f sz W' B' A n l:=by
 have e:=List.eq_nil_of_length_eq_zero hl;subst e;have h1:=h.1;have h2:=h.2.1.1;refine⟨h.1,⟨h2,fun hn=>?_⟩,fun a ha hn=>?_⟩
 ·simp at h1;omega
 ·simp at h1;omega
theorem iE.ar9{α:Type}{f:α->Array aB}{sz:Nat}{x:α}{W:ak}{b:Nat}(h:dM W b (f x))(hs:(f x).j=sz):iE f sz W W.a.j (some ⟨b,0,none⟩) 1 [x]:=by
 refine⟨rfl,⟨by simp[hs],fun _=>⟨_,rfl,h.lt,fun j u hu=>?_⟩⟩,fun a ha _=>by injection ha with ha;subst ha;rfl⟩;rw[iJ,bl,h.J.1];simpa[dG]using hu
structure TbQ(W:ak)(q:Nat)(x:Eg)(t:Tl):Prop where
 b:dM W q x.ay
 n:RdT W W.a.j x.h.tF x.h.rW t.h
 s:RdI W W.a.j x.h.ru x.h.qC t.uR
theorem TbQ.go{x:Eg}{t:Tl}(h:TbQ W q x t)(hb:aL W.a.j W W'):TbQ W' q x t:=⟨h.b.go hb,h.n.go hb,h.s.go hb⟩
end
@[go_sem]theorem apg(W:ak)(A1:Option aT)(n1 c1:Nat)(A2:Option aT)(n2 c2:Nat):(Instr.field 72 (.d (Tc.mk A1 n1 c1 A2 n2 c2).ay) 1).G ah W = .Y (.a A2 n2 c2) W:=by
 show _=_
 kernel_rfl
def jO{W:ak}{b:Nat}{x:Sh}(h:dM W b x.ay):(V8 (.c (some ⟨b,0,none⟩))).G ah W = .Y (.d x.ay) W:=kSh.ni h (Sh.r _)
def aF':UZ.1.S.a.b 8 0=2:=by decide +kernel
def awC:UZ.1.qO.a<=9/\UZ.1.r.a<=9/\UZ.1.h.a<=9:=by decide +kernel
def aGa:xG aoK [IZ] UZ.1=true:=by decide +kernel
def aBa:(Af zh UZ.1).h.a=0:=by decide +kernel
@[go_sem]theorem awD:Obj.cells #[aI bU 0,Value.slice none 0 0,aI bU 0,jk {data:=#[]},bT false,aI aW 0,aI aW 0,aI aW 0,aI aW 0,aI aW 0,aI aW 0,aI aW 0,aI aW 0,aI aW 0,aI aW 0,aI aW 0,aI aW 0,aI aW 0,aI aW 0,aI aW 0,aI aW 0,aI bU 0,aI aW 0,aI aW 0,aI aW 0,aI aW 0,aI aW 0,aI aW 0,Ar FloatKind.f64 0,bT false,jk {data:=#[]},Ar FloatKind.f64 0,jk {data:=#[]},bT false] 66=Obj.cells zf.ay 66:=by kernel_rfl
def gu.ku{W W' W2:ak}{A:Option aT}{n:Nat}{l:List UInt8}{F:List Nat}(h:gu W W.a.j A n l)(hf:jM F W W')(hn:∀b∈wM A,b∉F)(hb:aL W'.a.j W' W2):gu W2 W2.a.j A n l:=gu.upon (UR h (av _) hf hn:gu W' W'.a.j A n l) hb
def OcR.all{W:ak}{o:Oc}{u:Ou}(h:OcR W o u):o.err=u.err/\o.lu=u.lu/\o.GN=u.GN/\o.lD=u.lD/\o.E=u.E:=⟨h.err,h.lu,h.GN,h.lD,h.E⟩
def aoV(w:ak)(c:Array aB)(l:List UInt8)(h:c.a=l.map bv)(m:Nat×Nat):gu (w.alloc (.D c 5 m)) (w.alloc (.D c 5 m)).a.j (some ⟨w.a.j,0,none⟩) l.a l:=by
 refine⟨by simp,fun _=>⟨_,rfl,by simp,fun j u hu=>?_⟩⟩;rw[iJ,bl,cell_of_row _ _ _ _ _ _ (heap_alloc_new w (.D c 5 m)),<-hu,<-h,dG]
def aty(w:ak):(convert 56 56 (.a (some ⟨w.a.j,0,none⟩) 2 2)).G ah (w.alloc (.D #[.b .b 104,.b .b 105] 5)) = .Y (.a (some ⟨w.a.j,0,none⟩) 2 2) (w.alloc (.D #[.b .b 104,.b .b 105] 5 (2,3))):=Lib.run_convert_bytes_const (P:=ah) w 56 5 #[.b .b 104,.b .b 105] 2 2 cO Tryz.underlying5
theorem vG(w:ak):aP ah 12 #[] w (fT w (.e true)):=by
 have CPL:=ab (ae1 w);have CN:=ab (fun(W:ak) (b:Nat) (hV:iE Vp.ay 20 W W.a.j (some ⟨b,0,none⟩) 1 [IZ])=>akY (qE 16 [1]) (Lv b) [IZ] W hV (show 1<=1 by omega) (show 1<=100000 by omega) (by unfold Lv;rw[aiG];exact atj));have C0:=ab (fun(W:ak)=>aoI (qE 16 [1]) Rh [] W (iE.nil _ _) (show 0<=0 by omega) (show 0<=100000 by omega) ak4);have CM:=ab (fun(W:ak) (A:Option aT) (c:Nat) (hr:gu W W.a.j A 2 [104,105])=>Qb (Tu.mk (vF [1,2,3,4]) (vF [5,6,7,8]) 6 1000 80) rfl rfl (by simp) (by simp) (by simp) (by simp) W A 2 c [104,105] (by omega) hr awy);have CM2:=ab (fun(W:ak) (A:Option aT) (c:Nat) (hr:gu W W.a.j A 2 [104,105])=>Qb (Tu.mk (vF [1,2,3,4]) (vF [10,0,0,9]) 6 1000 8080) rfl rfl (by simp) (by simp) (by simp) (by simp) W A 2 c [104,105] (by omega) hr ar8);have NF0:=ab (show awF.a=56 from rfl);obtain⟨FF,hFF⟩:∃x,awF=x:=⟨_,rfl⟩
 obtain⟨WW,hWW⟩:∃x,awW=x:=⟨_,rfl⟩
 have Gj:=ab hFF;have HWW:=ab hWW;rw[aA7,hFF]at CM;rw[awx,hWW]at CM2;rw[hFF]at NF0;clear hFF hWW;rw[awz]at CN C0;have b1:=ar4;have b9:=ar5;have bk:=aA6;obtain⟨D1,hD1⟩:∃d,vF [1,2,3,4]=d:=⟨_,rfl⟩
 obtain⟨D9,hD9⟩:∃d,vF [10,0,0,9]=d:=⟨_,rfl⟩
 obtain⟨D5,hD5⟩:∃d,vF [5,6,7,8]=d:=⟨_,rfl⟩
 rw[hD1]at b1 CM CM2;rw[hD9]at b9 bk CM2;rw[hD5]at CM;have HV5:=ab (show IZ.ay.extract 0 17=D5.ay by rw[<-hD5];rfl);clear hD1 hD9 hD5;go_enter Tryz.func12,Tryz.ntmps12;go_upto_region 2 with(go_at_call 39;(with_reducible refine CPL.i.e ?_);rintro e w1 ⟨b,rfl,hv,hvb,hb0,hb⟩;have HV:=ab hv;have VB:=ab hvb;have HB0:=ab hb0;have Z1:=ab ((Bx.start w).go hb);clear hv hvb hb hb0)
 have Z2:=ab (Z1.i.new (Lv b).ay 29);have V2:=ab (HV.i.go ((aG w1.a.j w1).alloc (av _) (.D (Lv b).ay 29)));have VB2:=ab (VB.i.alloc (.D (Lv b).ay 29));have SB:=ab VB.i.lt;generalize w1.alloc (.D (Lv b).ay 29)=w2 at Z2 V2 VB2 ⊢;have HP1:=ab (show w.a.j<=w1.a.j from Z1.i.O.j);generalize w1.a.j=p1 at Z2 SB HP1 ⊢;clear CPL HV VB Z1;have l1:=Qf.ni Z2.i.R (Cn.r _);unfold P9 at CN;go_upto_region 3 with(go_at_call 23;(with_reducible refine(CN.i _ b V2.i).e ?_);rintro e w3 ⟨q,x,q2,g,sl,rfl,hE,hb3,hq,hrw⟩;have E3:=ab (Ag.aF9 hE);have Z3:=ab (Z2.i.go hb3);have V3:=ab (V2.i.go hb3);have VB3:=ab (VB2.i.go hb3);have HQ:=ab hq;have S3:=ab hb3.j;clear hE hb3 hq hrw)
 clear l1;go_upto_region 4 with(go_at_call 23;(with_reducible refine(C0.i _).e ?_);rintro e w4 ⟨rfl,hb4⟩;have E4:=ab (E3.i.go hb4);have Z4:=ab (Z3.i.go hb4);have V4:=ab (V3.i.go hb4);have VB4:=ab (VB3.i.go hb4);have S4:=ab hb4.j;clear hb4)
 have A4:=ab (show Aw w w4 q q2 g [(p1,(Lv b).ay),(b,IZ.ay)]from⟨Z4.i.O,by have:=HQ.i;have:=Z2.i.O.j;omega,E4.i.b.lt,fun p hp=>by
  have hq:=HQ.i;have h1:=Z2.i.R.lt;have h2:=VB2.i.lt;have h3:=HP1.i;have h4:=HB0.i;simp at hp;rcases hp with rfl|rfl
  ·exact⟨h3,by simp;omega,Z4.i.R⟩
  ·exact⟨h4,by simp;omega,VB4.i⟩⟩)
 clear Z2 Z3 Z4 V2 V3 VB2 VB3 VB4 E3 HB0 SB CN C0;go_upto_region 6 with fail
 have fv:=((A4.i.box (p:=(p1,(Lv b).ay)) (by simp)).J.1 0).trans (Cn.KX (Lv b));change w4.b ⟨p1,0,none⟩=some (.a (some ⟨b,0,none⟩) 1 1)at fv;have la:=(A4.i.box (p:=(b,IZ.ay)) (by simp)).Tv (o:=0) HV5.i (by rw[Vp.r];omega);go_upto_region 7 with fail
 have A5:=ab (A4.i.add (Tu.mk D1 D5 6 1000 80).ay 81);have E5:=ab (E4.i.go ((aG w4.a.j w4).alloc (av _) (.D (Tu.mk D1 D5 6 1000 80).ay 81)));generalize w4.alloc (.D (Tu.mk D1 D5 6 1000 80).ay 81)=w5 at A5 E5 ⊢;generalize w4.a.j=p6 at A5 ⊢;clear fv la A4 E4;have lt5:=qh (A5.i.box (p:=(p6,(Tu.mk D1 D5 6 1000 80).ay)) (by simp));have R5:=ab (aoV w5 #[.b .b 104,.b .b 105] [104,105] rfl (2,3));have B5:=ab ((aG w5.a.j w5).alloc (av _) (.D #[.b .b 104,.b .b 105] 5 (2,3)));have kc:=aty;unfold IV at CM CM2;go_upto_region 8 with(go_at_call 40;(with_reducible refine(CM.i _ _ 2 R5.i).e ?_);rintro e w6 ⟨FA,fn,fc,rfl,hn,ho,hb⟩;have A6:=ab ((A5.i.go B5.i).go hb);have E6:=ab ((E5.i.go B5.i).go hb);have HN:=ab hn;have HO:=ab ho;clear hn ho hb)
 have RF:=ab (gu.iG HO.i);have NF:=ab (show∀k∈wM FA,k∉[q,q2,g]from fun k hk=>by have h1:=(lF HO.i k hk).1;have h2:=(A5.i.go B5.i).lt;simp;omega);have LF:=ab (show fn<=fc/\fc<=9223372036854775807/\fn<=1000000 by obtain⟨A9,c9,e9,l1,l2⟩:=jG HO.i;injection e9 with e1 e2 e3;subst e3;refine⟨l1,by unfold maxLen at l2;omega,by have h3:=HN.i;have h4:=NF0.i;omega⟩);clear HN HO;have A7:=ab (A6.i.add ({zf with kind:=1,frA:=FA,Yy:=fn,XG:=fc}:At).ay 66);have B7:=ab ((aG w6.a.j w6).alloc (av _) (.D ({zf with kind:=1,frA:=FA,Yy:=fn,XG:=fc}:At).ay 66));have E7:=ab (E6.i.go B7.i);have R7:=ab (RF.i.upon B7.i);generalize w6.alloc (.D ({zf with kind:=1,frA:=FA,Yy:=fn,XG:=fc}:At).ay 66)=w7 at A7 E7 R7 B7 ⊢;generalize w6.a.j=p7 at A7 ⊢;cases Gj.i;clear A5 E5 R5 B5 A6 E6 RF B7 lt5 CM kc;obtain⟨fy1,fy2,fy3,fy4⟩:=(A7.i.box (p:=(p7,({zf with kind:=1,frA:=FA,Yy:=fn,XG:=fc}:At).ay)) (by simp)).J;have CS:=ab (Bt A7.i E7.i atn (by omega) ({zf with kind:=1,frA:=FA,Yy:=fn,XG:=fc}:At) acF ⟨rfl,R7.i,LF.i,rfl,rfl,rfl⟩ sP (by decide) aw0 rfl);unfold AwP at CS;go_upto_region 9 with(go_at_call 25;(with_reducible refine CS.i.e ?_);rintro r v0 ⟨o0,x0,sl0,rfl,h1,h2,h3,h4,h5⟩;have HA:=ab h1;have HE:=ab h2;have HO:=ab h3;have HN0:=ab h4;have HF:=ab h5;clear h1 h2 h3 h4 h5)
 have A8:=ab (HA.i.add o0.ay 58);have BB:=ab ((aG v0.a.j v0).alloc (av _) (.D o0.ay 58));have E8:=ab (HE.i.go BB.i);have R8:=ab (gu.ku R7.i HF.i NF.i BB.i);have O0:=ab (HO.i.go BB.i);generalize v0.alloc (.D o0.ay 58)=u0 at A8 E8 R8 O0 ⊢;generalize v0.a.j=p8 at A8 ⊢;have H0:=ab O0.i.all;clear CS HA HE HO HF BB A7 E7 R7 O0 fy1 fy2 fy3 fy4;have CS:=ab (Bt A8.i E8.i ato (by omega) ({zf with kind:=2,op:=⟨1,ak0,[],0⟩}:At) acA ⟨rfl,Lr _,⟨av _,jf _,jf _⟩,rfl,rfl,rfl⟩ aiH (by decide) aw1 rfl);unfold AwP at CS;obtain⟨BK,hBK⟩:∃x,ak0=x:=⟨_,rfl⟩
 rw[hBK]at CS bk;clear hBK;go_upto_region 10 with(go_at_call 25;(with_reducible refine CS.i.e ?_);rintro r v1 ⟨o1,x1,sl1,rfl,h1,h2,h3,h4,h5⟩;have HA:=ab h1;have HE:=ab h2;have HO:=ab h3;have HN1:=ab h4;have HF:=ab h5;clear h1 h2 h3 h4 h5)
 have A9:=ab (HA.i.add o1.ay 58);have BB:=ab ((aG v1.a.j v1).alloc (av _) (.D o1.ay 58));have E9:=ab (HE.i.go BB.i);have R9:=ab (gu.ku R8.i HF.i NF.i BB.i);have O1:=ab (HO.i.go BB.i);generalize v1.alloc (.D o1.ay 58)=u1 at A9 E9 R9 O1 ⊢;generalize v1.a.j=p9 at A9 ⊢;have H1:=ab O1.i.all;clear CS HA HE HO HF BB A8 E8 R8 O1 bk;obtain⟨fy1,fy2,fy3,fy4⟩:=(A9.i.box (p:=(p7,({zf with kind:=1,frA:=FA,Yy:=fn,XG:=fc}:At).ay)) (by simp)).J;have CS:=ab (Bt A9.i E9.i atp (by omega) ({zf with kind:=1,frA:=FA,Yy:=fn,XG:=fc}:At) acF ⟨rfl,R9.i,LF.i,rfl,rfl,rfl⟩ sP (by decide) aw2 rfl);unfold AwP at CS;go_upto_region 11 with(go_at_call 25;(with_reducible refine CS.i.e ?_);rintro r v2 ⟨o2,x2,sl2,rfl,h1,h2,h3,h4,h5⟩;have HA:=ab h1;have HE:=ab h2;have HO:=ab h3;have Rw:=ab h4;have HF:=ab h5;clear h1 h2 h3 h4 h5)
 have A10:=ab (HA.i.add o2.ay 58);have BB:=ab ((aG v2.a.j v2).alloc (av _) (.D o2.ay 58));have E10:=ab (HE.i.go BB.i);have R10:=ab (gu.ku R9.i HF.i NF.i BB.i);have O2:=ab (HO.i.go BB.i);generalize v2.alloc (.D o2.ay 58)=u2 at A10 E10 R10 O2 ⊢;generalize v2.a.j=p10 at A10 ⊢;have H2:=ab O2.i.all;have Q10:=ab (show gu u2 u2.a.j o2.XE o2.Yw awW by have:=O2.i.i;rw[aoL]at this;exact this);clear CS HA HE HO HF BB A9 E9 R9 O2 fy1 fy2 fy3 fy4;obtain⟨fy1,fy2,fy3,fy4⟩:=(A10.i.box (p:=(p7,({zf with kind:=1,frA:=FA,Yy:=fn,XG:=fc}:At).ay)) (by simp)).J;have CS:=ab (Bt A10.i E10.i atq (by omega) ({zf with kind:=1,frA:=FA,Yy:=fn,XG:=fc}:At) acF ⟨rfl,R10.i,LF.i,rfl,rfl,rfl⟩ sP (by decide) aw3 rfl);unfold AwP at CS;go_upto_region 12 with(go_at_call 25;(with_reducible refine CS.i.e ?_);rintro r v3 ⟨o3,x3,sl3,rfl,h1,h2,h3,h4,h5⟩;have HA:=ab h1;have HE:=ab h2;have HO:=ab h3;have HN3:=ab h4;have HF:=ab h5;clear h1 h2 h3 h4 h5)
 have A11:=ab (HA.i.add o3.ay 58);have BB:=ab ((aG v3.a.j v3).alloc (av _) (.D o3.ay 58));have E11:=ab (HE.i.go BB.i);have R11:=ab (gu.ku R10.i HF.i NF.i BB.i);have O3:=ab (HO.i.go BB.i);have Q11:=ab (gu.ku Q10.i HF.i Rw.i BB.i);generalize v3.alloc (.D o3.ay 58)=u3 at A11 E11 R11 O3 Q11 ⊢;generalize v3.a.j=p11 at A11 ⊢;have H3:=ab O3.i.all;clear CS HA HE HO HF BB A10 E10 R10 O3 fy1 fy2 fy3 fy4 Q10;have CS:=ab (Bt A11.i E11.i atr (by omega) ({zf with kind:=3,E:=[98]}:At) (acH [98]) ⟨rfl,Lr _,⟨av _,jf _,jf _⟩,rfl,rfl,rfl⟩ sP (by decide) aw4 rfl);unfold AwP at CS;have es:(⟨#[98]⟩:ByteArray)=bP [98]:=rfl;go_upto_region 13 with(go_at_call 25;(with_reducible refine CS.i.e ?_);rintro r v4 ⟨o4,x4,sl4,rfl,h1,h2,h3,h4,h5⟩;have HA:=ab h1;have HE:=ab h2;have HO:=ab h3;have HN4:=ab h4;have HF:=ab h5;clear h1 h2 h3 h4 h5)
 have A12:=ab (HA.i.add o4.ay 58);have BB:=ab ((aG v4.a.j v4).alloc (av _) (.D o4.ay 58));have E12:=ab (HE.i.go BB.i);have R12:=ab (gu.ku R11.i HF.i NF.i BB.i);have O4:=ab (HO.i.go BB.i);have Q12:=ab (gu.ku Q11.i HF.i Rw.i BB.i);generalize v4.alloc (.D o4.ay 58)=u4 at A12 E12 R12 O4 Q12 ⊢;generalize v4.a.j=p12 at A12 ⊢;have H4:=ab O4.i.all;clear CS HA HE HO HF BB A11 E11 R11 O4 es Q11;have CS:=ab (Bt A12.i E12.i att (by omega) ({zf with kind:=3,E:=[97]}:At) (acH [97]) ⟨rfl,Lr _,⟨av _,jf _,jf _⟩,rfl,rfl,rfl⟩ sP (by decide) aw5 rfl);unfold AwP at CS;have es:(⟨#[97]⟩:ByteArray)=bP [97]:=rfl;go_upto_region 14 with(go_at_call 25;(with_reducible refine CS.i.e ?_);rintro r v5 ⟨o5,x5,sl5,rfl,h1,h2,h3,h4,h5⟩;have HA:=ab h1;have HE:=ab h2;have HO:=ab h3;have HN5:=ab h4;have HF:=ab h5;clear h1 h2 h3 h4 h5)
 have A13:=ab (HA.i.add o5.ay 58);have BB:=ab ((aG v5.a.j v5).alloc (av _) (.D o5.ay 58));have E13:=ab (HE.i.go BB.i);have R13:=ab (gu.ku R12.i HF.i NF.i BB.i);have O5:=ab (HO.i.go BB.i);have Q13:=ab (gu.ku Q12.i HF.i Rw.i BB.i);generalize v5.alloc (.D o5.ay 58)=u5 at A13 E13 R13 O5 Q13 ⊢;generalize v5.a.j=p13 at A13 ⊢;have H5:=ab O5.i.all;clear CS HA HE HO HF BB A12 E12 R12 O5 es Q12;obtain⟨fy1,fy2,fy3,fy4⟩:=(A13.i.box (p:=(p7,({zf with kind:=1,frA:=FA,Yy:=fn,XG:=fc}:At).ay)) (by simp)).J;have CS:=ab (Bt A13.i E13.i atu (by omega) ({zf with kind:=1,frA:=FA,Yy:=fn,XG:=fc}:At) acF ⟨rfl,R13.i,LF.i,rfl,rfl,rfl⟩ sP (by decide) aw6 rfl);unfold AwP at CS;go_upto_region 15 with(go_at_call 25;(with_reducible refine CS.i.e ?_);rintro r v6 ⟨o6,x6,sl6,rfl,h1,h2,h3,h4,h5⟩;have HA:=ab h1;have HE:=ab h2;have HO:=ab h3;have HN6:=ab h4;have HF:=ab h5;clear h1 h2 h3 h4 h5)
 have A14:=ab (HA.i.add o6.ay 58);have BB:=ab ((aG v6.a.j v6).alloc (av _) (.D o6.ay 58));have E14:=ab (HE.i.go BB.i);have R14:=ab (gu.ku R13.i HF.i NF.i BB.i);have O6:=ab (HO.i.go BB.i);have Q14:=ab (gu.ku Q13.i HF.i Rw.i BB.i);generalize v6.alloc (.D o6.ay 58)=u6 at A14 E14 R14 O6 Q14 ⊢;generalize v6.a.j=p14 at A14 ⊢;have H6:=ab O6.i.all;clear CS HA HE HO HF BB A13 E13 R13 O6 fy1 fy2 fy3 fy4 Q13;have CS:=ab (Bt A14.i E14.i atv (by omega) ({zf with kind:=4}:At) (acK 4) ⟨rfl,Lr _,⟨av _,jf _,jf _⟩,rfl,rfl,rfl⟩ sP (by decide) aw7 rfl);unfold AwP at CS;go_upto_region 16 with(go_at_call 25;(with_reducible refine CS.i.e ?_);rintro r v7 ⟨o7,x7,sl7,rfl,h1,h2,h3,h4,h5⟩;have HA:=ab h1;have HE:=ab h2;have HO:=ab h3;have HN7:=ab h4;have HF:=ab h5;clear h1 h2 h3 h4 h5)
 have A15:=ab (HA.i.add o7.ay 58);have BB:=ab ((aG v7.a.j v7).alloc (av _) (.D o7.ay 58));have E15:=ab (HE.i.go BB.i);have R15:=ab (gu.ku R14.i HF.i NF.i BB.i);have O7:=ab (HO.i.go BB.i);have Q15:=ab (gu.ku Q14.i HF.i Rw.i BB.i);generalize v7.alloc (.D o7.ay 58)=u7 at A15 E15 R15 O7 Q15 ⊢;generalize v7.a.j=p15 at A15 ⊢;have H7:=ab O7.i.all;clear CS HA HE HO HF BB A14 E14 R14 O7 Q14;have CS:=ab (Bt A15.i E15.i atw (by omega) ({zf with kind:=9}:At) (acK 9) ⟨rfl,Lr _,⟨av _,jf _,jf _⟩,rfl,rfl,rfl⟩ sP (by decide) UZ rfl);unfold AwP at CS;go_upto_region 17 with(go_at_call 25;(with_reducible refine CS.i.e ?_);rintro r v8 ⟨o8,x8,sl8,rfl,h1,h2,h3,h4,h5⟩;have HA:=ab h1;have HE:=ab h2;have HO:=ab h3;have HN8:=ab h4;have HF:=ab h5;clear h1 h2 h3 h4 h5)
 have A16:=ab (HA.i.add o8.ay 58);have BB:=ab ((aG v8.a.j v8).alloc (av _) (.D o8.ay 58));have E16:=ab (HE.i.go BB.i);have R16:=ab (gu.ku R15.i HF.i NF.i BB.i);have O8:=ab (HO.i.go BB.i);have Q16:=ab (gu.ku Q15.i HF.i Rw.i BB.i);generalize v8.alloc (.D o8.ay 58)=u8 at A16 E16 R16 O8 Q16 ⊢;generalize v8.a.j=p16 at A16 ⊢;have H8:=ab O8.i.all;clear CS HA HE HO HF BB A15 E15 R15 O8 Q15;have CS:=ab (Tx E16.i atx);unfold awq at CS;go_upto_region 18 with(go_at_call 20;(with_reducible refine CS.i.e ?_);rintro r v9 ⟨X,rfl,ho,hb⟩;have HO:=ab ho;have HB:=ab hb;clear ho hb)
 have NS:=ab (show∀y,(y∈wM X.b.A\/y∈wM X.h.A\/y∈wM X.f.A)->y∉[p6]from fun y hy=>by have h1:=(A16.i.box (p:=(p6,(Tu.mk D1 D5 6 1000 80).ay)) (by simp)).lt;rcases hy with hy|hy|hy;(have h2:=(lF HO.i.b y hy).1;simp;omega);(have h2:=(lF HO.i.h y hy).1;simp;omega);(have h2:=(lF HO.i.f y hy).1;simp;omega));have B17:=ab ((aG v9.a.j v9).alloc (av _) (.D X.ay 37));have A17:=ab ((A16.i.go HB.i).add X.ay 37);have E17:=ab ((E16.i.go HB.i).go B17.i);have S17:=ab ((HO.i.r atx).go B17.i);have Q17:=ab (gu.upon (gu.upon Q16.i HB.i) B17.i);generalize v9.alloc (.D X.ay 37)=u9 at A17 E17 S17 Q17 ⊢;generalize v9.a.j=p17 at A17 ⊢;clear CS HO HB B17 A16 E16 R16 Q16 NF LF;have BT:=ab (A17.i.box (p:=(p6,(Tu.mk D1 D5 6 1000 80).ay)) (by simp));have th:=BT.i.K 17 17 (by rw[Tu.r];omega);have BX:=ab (show dM (gX u9 p6 17 D9.ay) p6 (Tu.mk D1 D9 6 1000 80).ay by have h1:=BT.i.setCells 17 D9.ay.a;have h2:=Tu.UK (Tu.mk D1 D5 6 1000 80) D9;rw[<-h2];simpa[gX]using h1);obtain⟨fx1,fx2,-,-⟩:=BX.i.J;have fx3:=(fx1 36).trans (show(Tu.mk D1 D9 6 1000 80).ay[36]? = some (.b .a 80)by simp[Tu.ay,tuT,Array.getElem?_append,fC.r]);have fx4:=fx2 36;clear fx1 fx2;go_upto_region 20 with fail
 have F12:=ab (show jM [p6] u9 ((gX u9 p6 17 D9.ay).F ⟨p6,36,none⟩ (.b .a 8080))from(yO u9 p6 17 D9.ay).set ⟨p6,36,none⟩ _ (.inl (by simp)));have B2:=ab (show dM ((gX u9 p6 17 D9.ay).F ⟨p6,36,none⟩ (.b .a 8080)) p6 (Tu.mk D1 D9 6 1000 8080).ay by have h:=BX.i.eX 36 (.b .a 8080);rw[Tu.asD]at h;exact h);have A20:=ab (show Aw w ((gX u9 p6 17 D9.ay).F ⟨p6,36,none⟩ (.b .a 8080)) q q2 g [(p6,(Tu.mk D1 D9 6 1000 8080).ay),(p17,X.ay),(p16,o8.ay),(p15,o7.ay),(p14,o6.ay),(p13,o5.ay),(p12,o4.ay),(p11,o3.ay),(p10,o2.ay),(p9,o1.ay),(p8,o0.ay),(p7,({zf with kind:=1,frA:=FA,Yy:=fn,XG:=fc}:At).ay),(p1,(Lv b).ay),(b,IZ.ay)]from A17.i.put (c:=(Tu.mk D1 D5 6 1000 80).ay) F12.i B2.i (by simp) (by intro y hy;simp only[bB,List.not_mem_nil,or_false]at hy⊢;rcases hy with rfl|rfl|rfl|rfl|rfl|rfl|rfl|rfl|rfl|rfl|rfl|rfl|rfl;all_goals exact⟨by simp,by simp[Oc.r,At.r,Sh.r,Cn.r,Vp.r,Tu.r]⟩));have EG:=ab (show TbQ ((gX u9 p6 17 D9.ay).F ⟨p6,36,none⟩ (.b .a 8080)) q x8 (Af zh UZ.1)from⟨F12.i.box E17.i.b.eg (by have:=dM.ne E17.i.b.eg BT.i (by rw[Eg.r,Tu.r];omega);simp;exact this),iE.aA9 E17.i.tt.texts aBa,iE.aA9 E17.i.tt.aFT ak1.2.2.2.2⟩);have S20:=ab (show StR ((gX u9 p6 17 D9.ay).F ⟨p6,36,none⟩ (.b .a 8080)) ((gX u9 p6 17 D9.ay).F ⟨p6,36,none⟩ (.b .a 8080)).a.j X UZ.1 from⟨S17.i.lD,S17.i.b.keep F12.i (fun y hy=>NS.i y (.inl hy)),S17.i.h.keep F12.i (fun y hy=>NS.i y (.inr (.inl hy))),S17.i.f.keep F12.i (fun y hy=>NS.i y (.inr (.inr hy))),S17.i.fK,S17.i.no,S17.i.S,S17.i.oQ,S17.i.adX,S17.i.V9,S17.i.nb,S17.i.nh,S17.i.nf⟩);have Q20:=ab (show gu ((gX u9 p6 17 D9.ay).F ⟨p6,36,none⟩ (.b .a 8080)) ((gX u9 p6 17 D9.ay).F ⟨p6,36,none⟩ (.b .a 8080)).a.j o2.XE o2.Yw awW from UR Q17.i (av _) F12.i (gu.far Q17.i BT.i (by have h1:=gu.len Q17.i;have h2:awW.a=56:=rfl;rw[Tu.r];omega)));generalize((gX u9 p6 17 D9.ay).F ⟨p6,36,none⟩ (.b .a 8080))=u10 at A20 EG S20 Q20 ⊢;clear F12 B2 BX BT A17 E17 S17 Q17 NS th fx3 fx4;have FX:=ab (fun(W':ak) (h:Aw w W' q q2 g [(p6,(Tu.mk D1 D9 6 1000 8080).ay),(p17,X.ay),(p16,o8.ay),(p15,o7.ay),(p14,o6.ay),(p13,o5.ay),(p12,o4.ay),(p11,o3.ay),(p10,o2.ay),(p9,o1.ay),(p8,o0.ay),(p7,({zf with kind:=1,frA:=FA,Yy:=fn,XG:=fc}:At).ay),(p1,(Lv b).ay),(b,IZ.ay)])=>show W'.b ⟨p8,1,none⟩=some (.b .a 8)/\W'.b ⟨p9,3,none⟩=some (.b .a 1)/\W'.b ⟨p10,1,none⟩=some (.b .a 0)/\W'.b ⟨p10,4,none⟩=some (.g ⟨#[97]⟩)/\W'.b ⟨p10,2,none⟩=some (.e false)/\W'.b ⟨p10,3,none⟩=some (.b .a 1)/\W'.b ⟨p10,5,none⟩=some (.a o2.XE o2.Yw o2.akQ)/\W'.b ⟨p11,2,none⟩=some (.e true)/\W'.b ⟨p12,0,none⟩=some (.b .a 5)/\W'.b ⟨p13,0,none⟩=some (.b .a 0)/\W'.b ⟨p14,1,none⟩=some (.b .a 8)/\W'.b ⟨p15,0,none⟩=some (.b .a 0)/\W'.b ⟨p16,0,none⟩=some (.b .a 1)/\W'.b ⟨p17,5,none⟩=some (.b .a 2)/\W'.b ⟨p17,4,none⟩=some (.b .a 1)/\W'.b ⟨p17,3,none⟩=some (.a X.f.A 1 X.f.c)/\W'.b ⟨p17,14,none⟩=some (.b .a 2)from⟨((h.box (p:=(p8,o0.ay)) (by simp)).J.1 1).trans (by rw[show o0.ay[1]? = some (.b .a o0.lu)from rfl,H0.i.2.1,aFV]<;>rfl),
  ((h.box (p:=(p9,o1.ay)) (by simp)).J.1 3).trans (by rw[show o1.ay[3]? = some (.b .a o1.lD)from rfl,H1.i.2.2.2.1,aFW]<;>rfl),
  ((h.box (p:=(p10,o2.ay)) (by simp)).J.1 1).trans (by rw[show o2.ay[1]? = some (.b .a o2.lu)from rfl,H2.i.2.1,aoL]<;>rfl),
  ((h.box (p:=(p10,o2.ay)) (by simp)).J.1 4).trans (by rw[show o2.ay[4]? = some (.g (bP o2.E))from rfl,H2.i.2.2.2.2,aoL]<;>rfl),
  ((h.box (p:=(p10,o2.ay)) (by simp)).J.1 2).trans (by rw[show o2.ay[2]? = some (.e o2.GN)from rfl,H2.i.2.2.1,aoL]<;>rfl),
  ((h.box (p:=(p10,o2.ay)) (by simp)).J.1 3).trans (by rw[show o2.ay[3]? = some (.b .a o2.lD)from rfl,H2.i.2.2.2.1,aoL]<;>rfl),
  ((h.box (p:=(p10,o2.ay)) (by simp)).J.1 5).trans (by rw[show o2.ay[5]? = some (.a o2.XE o2.Yw o2.akQ)from rfl]<;>rfl),
  ((h.box (p:=(p11,o3.ay)) (by simp)).J.1 2).trans (by rw[show o3.ay[2]? = some (.e o3.GN)from rfl,H3.i.2.2.1,aFX]<;>rfl),
  ((h.box (p:=(p12,o4.ay)) (by simp)).J.1 0).trans (by rw[show o4.ay[0]? = some (.b .a o4.err)from rfl,H4.i.1,aFY]<;>rfl),
  ((h.box (p:=(p13,o5.ay)) (by simp)).J.1 0).trans (by rw[show o5.ay[0]? = some (.b .a o5.err)from rfl,H5.i.1,aFZ]<;>rfl),
  ((h.box (p:=(p14,o6.ay)) (by simp)).J.1 1).trans (by rw[show o6.ay[1]? = some (.b .a o6.lu)from rfl,H6.i.2.1,aF0]<;>rfl),
  ((h.box (p:=(p15,o7.ay)) (by simp)).J.1 0).trans (by rw[show o7.ay[0]? = some (.b .a o7.err)from rfl,H7.i.1,aF1]<;>rfl),
  ((h.box (p:=(p16,o8.ay)) (by simp)).J.1 0).trans (by rw[show o8.ay[0]? = some (.b .a o8.err)from rfl,H8.i.1,aF2]<;>rfl),
  ((h.box (p:=(p17,X.ay)) (by simp)).J.1 5).trans (by rw[show X.ay[5]? = some (.b .a X.no)from Sh.ah0 X,S20.i.no,ak1.1]<;>rfl),
  ((h.box (p:=(p17,X.ay)) (by simp)).J.1 4).trans (by rw[show X.ay[4]? = some (.b .a X.fK)from Sh.ahZ X,S20.i.fK,ak1.2.1]<;>rfl),
  ((h.box (p:=(p17,X.ay)) (by simp)).J.1 3).trans (by rw[show X.ay[3]? = some (.a X.f.A X.f.n X.f.c)from Sh.adt X,<-S20.i.f.len,ak1.2.2.2.1]<;>rfl),
  ((h.box (p:=(p17,X.ay)) (by simp)).J.1 14).trans ((Sh.adV X 8 (by omega)).trans (by rw[S20.i.S,aF']))⟩)
 clear H0 H1 H2 H3 H4 H5 H6 H7 H8 Rw HN0 HN1 HN3 HN4 HN5 HN6 HN7 HN8;have lt:=qh (A20.i.box (p:=(p6,(Tu.mk D1 D9 6 1000 8080).ay)) (by simp));have RQ:=ab (aoV u10 #[.b .b 104,.b .b 105] [104,105] rfl (2,3));have BQ:=ab ((aG u10.a.j u10).alloc (av _) (.D #[.b .b 104,.b .b 105] 5 (2,3)));have kc:=aty;cases HWW.i;have CR:=ab (fun(W:ak) (h:iE Vp.ay 20 W W.a.j (some ⟨b,0,none⟩) 1 [IZ]) (hs:StR W W.a.j X UZ.1)=>Ee (Lv b) [IZ] X UZ.1 W h (show 1<=1 by omega) (show 1<=100000 by omega) hs (by have:=awC;omega) (by have:=awC;omega) (by have:=awC;omega) true ((ae3 aoK [IZ] UZ.1 _ _ _).trans aGa));have CT:=ab (fun(W:ak) (h:TbQ W q x8 (Af zh UZ.1))=>ahn (Af zh UZ.1) h.b h.n h.s (by have:=aBa;omega) (by have:=ak1.2.2.2.2;omega));have CX:=ab (fun(W:ak) (hs:StR W W.a.j X UZ.1)=>MQ X X UZ.1 UZ.1 W hs hs true (JJ _));unfold aAY at CT;go_wp2_with (first
  | (go_at_call 40;(with_reducible refine(CM2.i _ _ 2 RQ.i).e ?_);rintro r w11 ⟨A2,n2,c2,rfl,hn,ho,hb⟩;have A21:=ab ((A20.i.go BQ.i).go hb);have EG1:=ab ((EG.i.go BQ.i).go hb);have S21:=ab ((S20.i.go BQ.i).go hb);have Q21:=ab (gu.upon (gu.upon Q20.i BQ.i) hb);have R21:=ab (gu.iG ho);have T1:=(Mv Q21.i o2.akQ).2;have T2:=(Mv R21.i c2).2;obtain⟨f0,f1,f2,f3,f4,f5,f6,f7,f8,f9,f10,f11,f12,f13,f14,f15,f16⟩:=FX.i w11 A21.i;clear hn ho hb)
  | (go_at_call 31;(with_reducible refine(CT.i _ EG1.i).e ?_);rintro r w12 ⟨⟨nA,nn,nc,sA,sn,sc⟩,rfl,ht,hb⟩;obtain rfl:sn=0:=(ht.sn.symm.trans ak1.2.2.2.2);have A22:=ab (A21.i.go hb);have S22:=ab (S21.i.go hb);have lc:=Qf.ni (A22.i.box (p:=(p1,(Lv b).ay)) (by simp)) (Cn.r _);have ls:=jO (A22.i.box (p:=(p17,X.ay)) (by simp));have V22:=ab (iE.ar9 (f:=Vp.ay) (sz:=20) (A22.i.box (p:=(b,IZ.ay)) (by simp)) (Vp.r _));clear ht hb)
  | (go_at_call 15;(with_reducible refine(CR.i _ V22.i S22.i).e ?_);rintro r w13 ⟨rfl,hb⟩;have A23:=ab (A22.i.go hb);have S23:=ab (S22.i.go hb);have l3:=jO (A23.i.box (p:=(p17,X.ay)) (by simp));clear hb)
  | (go_at_call 17;(with_reducible refine(CX.i _ S23.i).e ?_);rintro r w14 ⟨rfl,hb⟩;have A24:=ab (A23.i.go hb);clear hb))
 go_ret;exact⟨rfl,A24.i.O⟩
theorem aiI:∀(i:Nat)(l m:List UInt8),l.d i=m.d i->i<l.a->i<m.a->l.b i 0≠m.b i 0->bI l m=decide ((l.b i 0).g<(m.b i 0).g)
 | 0,x::l,y::m,_,_,_,hne=>by
   simp only[List.getD_cons_zero]at hne ⊢;rw[bI,bF];simp[hne,UInt8.lt_iff_toNat_lt]
 | i+1,x::l,y::m,ht,hl,hm,hne=>by
   simp only[List.take_succ_cons,List.cons.injEq]at ht;simp only[List.getD_cons_succ]at hne ⊢;obtain⟨rfl,ht⟩:=ht;rw[bI,aiI i l m ht (by simpa using hl) (by simpa using hm) hne];simp
 | 0,[],_,_,h,_,_=>by simp at h
 | 0,_::_,[],_,_,h,_=>by simp at h
 | _+1,[],_,_,h,_,_=>by simp at h
 | _+1,_::_,[],_,_,h,_=>by simp at h
def ahp(x y:Fw)(hx:uf x.key)(hy:uf y.key)(w:ak):aP ah 52 #[.d x.ay,.d y.ay] w (fT w (.e (kG x y))):=by
 have h0:=((Bx.start w).new x.ay 86).new y.ay 86;rw[show(w.alloc (.D x.ay 86)).a.j=w.a.j+1 by simp]at h0;have Z0:=ab h0;clear h0;have CA:=ab (fun w=>WL x.key hx w);have CB:=ab (fun w=>WL y.key hy w);unfold IV at CA CB;obtain⟨o,ho⟩:=rT (kG x y);have HO:=ab ho;rw[ho];unfold kG at ho;have HU:=ab ho;clear ho hx hy;go_enter Tryz.func52,Tryz.ntmps52;go_upto_region 1 with fail
 generalize(w.alloc (.D x.ay 86)).alloc (.D y.ay 86)=w1 at Z0 ⊢;have f1:=(Z0.i.b1.J.1 40).trans (Fw.MJ x);have f2:=(Z0.i.R.J.1 40).trans (Fw.MJ y);by_cases hne:x.no=y.no;rotate_left
 ·have q1:(x.no != y.no)=true:=by simpa using hne
  have q2:decide (x.no≠y.no)=true:=by simpa using hne
  have q3:decide (x.no=y.no)=false:=by simpa using hne
  have q4:decide (x.no<y.no)=o:=by have h:=HU.i;rw[if_neg hne]at h;exact h
  clear hne;go_wp2;go_ret;exact⟨rfl,Z0.i.O⟩
 have q1:(x.no != y.no)=false:=by simpa using hne
 have q2:decide (x.no≠y.no)=false:=by simpa using hne
 have q3:decide (x.no=y.no)=true:=by simpa using hne
 have HL:=ab (show bI (GH x.key) (GH y.key)=o by have h:=HU.i;rw[if_pos hne]at h;exact h);clear hne;have l1:=BI Z0.i.b1;go_upto_region 4 with(go_at_call 122;(with_reducible refine(CA.i _).e ?_);rintro r w2 ⟨A,n,c,rfl,hn,hw,hb⟩;have N1:=ab hn;have R1:=ab (gu.iG hw);have Z2:=ab (Z0.i.go hb);clear hn hw hb)
 clear f1 f2 l1;have l2:=BI Z2.i.R;go_upto_region 5 with(go_at_call 122;(with_reducible refine(CB.i _).e ?_);rintro r w3 ⟨A',n',c',rfl,hn,hw,hb⟩;have N2:=ab hn;have R2:=ab (gu.iG hw);have R3:=ab (R1.i.upon hb);have Z3:=ab (Z2.i.go hb);clear hn hw hb)
 have aGt:n=38:=N1.i.trans (OB _);have aGu:n'=38:=N2.i.trans (OB _);subst aGt;subst aGu;have TL:=ab (show(GH x.key).a=38/\(GH y.key).a=38 from⟨OB _,OB _⟩);obtain⟨l,hl⟩:=bZ (GH x.key);obtain⟨m,hm⟩:=bZ (GH y.key);rw[<-hl]at R3 TL HL;rw[<-hm]at R2 TL HL;clear l2 N1 N2 R1 CA CB hl hm q1 q2 q3;go_wp2;go_loopw [7] (fun s7 wr=>∃i:Nat,i<=38/\s7=.b .a i/\l.d i=m.d i/\Bx [(w.a.j+1,y.ay),(w.a.j,x.ay)] w wr/\gu wr wr.a.j A 38 l/\gu wr wr.a.j A' 38 m) (fun s7 _=>38-(intOf s7).g)
 case atStart=>exact⟨0,by omega,rfl,by simp,Z3.i,R3.i,R2.i⟩
 case round=>
  obtain⟨i,hi,rfl,ht,hz,hrx,hry⟩:=hrel;have HT:=ab ht;have ZR:=ab hz;have RX:=ab hrx;have RY:=ab hry;clear ht hz hrx hry;by_cases hlt:i<38;rotate_left
  ·have hnl:¬(i:Int)<38:=by omega
   have HE:=ab (show o=false by
    have h1:=HT.i;rw[aJ (by rw[TL.i.1];omega),aJ (by rw[TL.i.2];omega)]at h1;rw[<-HL.i,h1,rX])
   go_wp2;go_ret;exact⟨by rw[HE.i];rfl,ZR.i.O⟩
  have hi2:(i:Int)<38:=by omega
  obtain⟨a,rfl,_,h1⟩:=RX.i.fH hlt;obtain⟨a',rfl,_,h2⟩:=RY.i.fH hlt;unfold bv at h1 h2;have hb1:((l.b i 0).g:Int)=(mP l i:Nat):=rfl;have hb2:((m.b i 0).g:Int)=(mP m i:Nat):=rfl;rw[hb1]at h1;rw[hb2]at h2;clear hb1 hb2;by_cases he:l.b i 0=m.b i 0
  ·have e1:((mP l i:Int) != (mP m i:Int))=false:=by unfold mP;rw[he];simp
   have e2:decide ((mP l i:Int)≠(mP m i:Int))=false:=by unfold mP;rw[he];simp
   have HN:=ab (show l.d (i+1)=m.d (i+1)by
    have k1:i<l.a:=by rw[TL.i.1];exact hlt
    have k2:i<m.a:=by rw[TL.i.2];exact hlt
    rw[dF k1,dF k2,HT.i];rw[au,aC k1,au,aC k2]at he;have he2:l[i]=m[i]:=by simpa using he
    rw[he2])
   have w1:=jW ((i:Int)+1) (by omega);go_upto_region 8 with fail
   go_quiet (fail);go_wp2;go_roundw
   case rel=>exact⟨i+1,by omega,by go_num,HN.i,ZR.i.drewN nq,RX.i.drewN nq,RY.i.drewN nq⟩
   case measure=>simp[intOf]<;>omega
  have e1:((mP l i:Int) != (mP m i:Int))=true:=by
   rw[bne_iff_ne];intro h;exact he (UInt8.toNat_inj.1 (by unfold mP at h;omega))
  have e2:decide ((mP l i:Int)≠(mP m i:Int))=true:=by simpa using e1
  have HE:=ab (show decide ((mP l i:Int)<(mP m i:Int))=o by
   rw[<-HL.i,aiI i l m HT.i (by rw[TL.i.1];exact hlt) (by rw[TL.i.2];exact hlt) he];unfold mP;rw[bF];simp)
  have e3:=HE.i;have e4:decide (mP l i<mP m i)=o:=by rw[<-HE.i,bF];simp
  go_upto_region 8 with fail
  go_quiet (fail);go_upto_region 9 with fail
  go_quiet (fail);go_wp2;go_ret;exact⟨rfl,((ZR.i.drewN _).drewN _).O⟩
def xR(s:List UInt8)(w:ak)(hs:s.a<=9223372036854775807):aP ah 121 #[.g (bP s)] w (fT w (.e (oI s))):=
 (uZ s w hs).e (fun e w' h=>⟨h.1,h.2 ▸ aG _ _⟩)
def aat{a:fC}(h:a.h=true):qg a=true:=by simp[qg,h]
def TD{a:fC}(h:a.h=false):qg a=a.lG:=by simp[qg,h,fC.lG]
def XJ(p s d:Int):¬0<=p\/(0<=p/\¬p<=255)\/(0<=p/\p<=255/\¬0<=s)\/(0<=p/\p<=255/\0<=s/\¬s<=65535)\/(0<=p/\p<=255/\0<=s/\s<=65535/\¬0<=d)\/(0<=p/\p<=255/\0<=s/\s<=65535/\0<=d/\¬d<=65535)\/(0<=p/\p<=255/\0<=s/\s<=65535/\0<=d/\d<=65535):=by omega
def um(t:Tu)(w:ak):aP ah 120 #[.d t.ay] w (fT w (.e (Ev t))):=by
 have HB0:=ab ((aG w.a.j w).alloc (av _) (.D t.ay 81));have B0:=ab (dM.new w t.ay 81);obtain⟨x1,x2,x3,x4⟩:=B0.i.J;have hl0:=B0.i.lt;obtain⟨s6,h6⟩:∃s,t.h.h=s:=⟨_,rfl⟩
 obtain⟨d6,g6⟩:∃s,t.S.h=s:=⟨_,rfl⟩
 have x0:=Tu.nS t;have x17:=Tu.amJ t;rw[h6]at x0;rw[g6]at x17;have SH1:=ab (fun w=>By t.h w);have SH2:=ab (fun w=>By t.S w);by_cases he:s6=d6;rotate_left
 ·have HE:=ab (show¬t.h.h=t.S.h by rw[h6,g6];exact he)
  clear h6 g6;have hne:s6 = !d6:=by cases s6<;>cases d6<;>simp_all
  subst hne;clear he;cases d6
  all_goals
   go_enter Jd,Gq;go_wp2;go_ret;exact⟨by rw[Bj];simp[HE.i]<;>omega,HB0.i⟩
 have HE:=ab (show t.h.h=t.S.h by rw[h6,g6];exact he);subst he;cases s6;rotate_left
 ·have A1:=ab (aat h6)
  have A2:=ab (aat g6);clear h6 g6;rcases XJ t.aQ t.jv t.iQ with p0|⟨p0,p1⟩|⟨p0,p1,p2⟩|⟨p0,p1,p2,p3⟩|⟨p0,p1,p2,p3,p4⟩|⟨p0,p1,p2,p3,p4,p5⟩|⟨p0,p1,p2,p3,p4,p5⟩
  all_goals
   go_enter Jd,Gq;go_wp2;go_ret;exact⟨by rw[Bj];simp[HE.i,A1.i,A2.i]<;>omega,HB0.i⟩
 have A1:=ab (TD h6);have A2:=ab (TD g6);rw[h6]at SH1;rw[g6]at SH2;simp only[nO,Ay]at SH1 SH2;clear h6 g6;obtain⟨k1,hk1⟩:∃k,t.h.lG=k:=⟨_,rfl⟩
 obtain⟨k2,hk2⟩:∃k,t.S.lG=k:=⟨_,rfl⟩
 rw[hk1]at A1 SH1;rw[hk2]at A2 SH2;clear hk1 hk2;cases k1
 ·go_enter Jd,Gq
  go_wp2_with fail;refine(SH1.i _).e ?_;rintro e w1 ⟨rfl,hb1⟩;have B1:=ab (B0.i.go hb1);have HB1:=ab (fJ HB0.i hb1);obtain⟨y1,y2,y3,y4⟩:=B1.i.J;have hl1:=B1.i.lt;clear hb1;go_wp2;go_ret;exact⟨by rw[Bj];simp[HE.i,A1.i]<;>omega,HB1.i⟩
 cases k2
 ·go_enter Jd,Gq
  go_wp2_with fail;refine(SH1.i _).e ?_;rintro e w1 ⟨rfl,hb1⟩;have B1:=ab (B0.i.go hb1);have HB1:=ab (fJ HB0.i hb1);obtain⟨y1,y2,y3,y4⟩:=B1.i.J;have hl1:=B1.i.lt;clear hb1;go_wp2_with fail;refine(SH2.i _).e ?_;rintro e w2 ⟨rfl,hb2⟩;have B2:=ab (B1.i.go hb2);have HB2:=ab (fJ HB1.i hb2);obtain⟨z1,z2,z3,z4⟩:=B2.i.J;have hl2:=B2.i.lt;clear hb2 y1 y2 y3 y4 hl1;go_wp2;go_ret;exact⟨by rw[Bj];simp[HE.i,A1.i,A2.i]<;>(first|omega|simp_all),HB2.i⟩
 rcases XJ t.aQ t.jv t.iQ with p0|⟨p0,p1⟩|⟨p0,p1,p2⟩|⟨p0,p1,p2,p3⟩|⟨p0,p1,p2,p3,p4⟩|⟨p0,p1,p2,p3,p4,p5⟩|⟨p0,p1,p2,p3,p4,p5⟩
 all_goals
  go_enter Jd,Gq;go_wp2_with fail;refine(SH1.i _).e ?_;rintro e w1 ⟨rfl,hb1⟩;have B1:=ab (B0.i.go hb1);have HB1:=ab (fJ HB0.i hb1);obtain⟨y1,y2,y3,y4⟩:=B1.i.J;have hl1:=B1.i.lt;clear hb1;go_wp2_with fail;refine(SH2.i _).e ?_;rintro e w2 ⟨rfl,hb2⟩;have B2:=ab (B1.i.go hb2);have HB2:=ab (fJ HB1.i hb2);obtain⟨z1,z2,z3,z4⟩:=B2.i.J;have hl2:=B2.i.lt;clear hb2 y1 y2 y3 y4 hl1;go_wp2;go_ret;exact⟨by rw[Bj];simp[HE.i,A1.i,A2.i]<;>(first|omega|simp_all),HB2.i⟩
def ak5(x:Fw)(w:ak)(hn:x.E.a<=9223372036854775807):aP ah 51 #[.d x.ay] w (fT w (.e (AY x))):=by
 have HB0:=ab ((aG w.a.j w).alloc (av _) (.D x.ay 86));have B0:=ab (dM.new w x.ay 86);obtain⟨x1,x2,x3,x4⟩:=B0.i.J;have hl0:=B0.i.lt;obtain⟨K1,h1⟩:∃K,Ev x.key=K:=⟨_,rfl⟩
 obtain⟨K2,h2⟩:∃K,oI x.E=K:=⟨_,rfl⟩
 have Ey:=ab h1;have HS2:=ab h2;clear h1 h2;cases K1
 ·skip
  go_enter wo,uJ;go_wp2_with fail;refine(um x.key _).e ?_;rintro e w1 ⟨rfl,hb1⟩;rw[Ey.i];have B1:=ab (B0.i.go hb1);have HB1:=ab (fJ HB0.i hb1);obtain⟨y1,y2,y3,y4⟩:=B1.i.J;have hl1:=B1.i.lt;clear hb1;go_wp2;go_ret;exact⟨by rw[wV];simp[Ey.i]<;>omega,HB1.i⟩
 cases K2
 ·skip
  go_enter wo,uJ;go_wp2_with fail;refine(um x.key _).e ?_;rintro e w1 ⟨rfl,hb1⟩;rw[Ey.i];have B1:=ab (B0.i.go hb1);have HB1:=ab (fJ HB0.i hb1);obtain⟨y1,y2,y3,y4⟩:=B1.i.J;have hl1:=B1.i.lt;clear hb1;go_wp2_with fail;refine(xR x.E _ hn).e ?_;rintro e w2 ⟨rfl,hb2⟩;rw[HS2.i];have B2:=ab (B1.i.go hb2);have HB2:=ab (fJ HB1.i hb2);obtain⟨z1,z2,z3,z4⟩:=B2.i.J;have hl2:=B2.i.lt;clear hb2 y1 y2 y3 y4 hl1;go_wp2;go_ret;exact⟨by rw[wV];simp[Ey.i,HS2.i]<;>omega,HB2.i⟩
 by_cases p0:1<=x.vV;rotate_left
 ·skip
  go_enter wo,uJ;go_wp2_with fail;refine(um x.key _).e ?_;rintro e w1 ⟨rfl,hb1⟩;rw[Ey.i];have B1:=ab (B0.i.go hb1);have HB1:=ab (fJ HB0.i hb1);obtain⟨y1,y2,y3,y4⟩:=B1.i.J;have hl1:=B1.i.lt;clear hb1;go_wp2_with fail;refine(xR x.E _ hn).e ?_;rintro e w2 ⟨rfl,hb2⟩;rw[HS2.i];have B2:=ab (B1.i.go hb2);have HB2:=ab (fJ HB1.i hb2);obtain⟨z1,z2,z3,z4⟩:=B2.i.J;have hl2:=B2.i.lt;clear hb2 y1 y2 y3 y4 hl1;go_wp2;go_ret;exact⟨by rw[wV];simp[Ey.i,HS2.i,p0]<;>omega,HB2.i⟩
 by_cases p1:x.vV<=5;rotate_left
 ·skip
  go_enter wo,uJ;go_wp2_with fail;refine(um x.key _).e ?_;rintro e w1 ⟨rfl,hb1⟩;rw[Ey.i];have B1:=ab (B0.i.go hb1);have HB1:=ab (fJ HB0.i hb1);obtain⟨y1,y2,y3,y4⟩:=B1.i.J;have hl1:=B1.i.lt;clear hb1;go_wp2_with fail;refine(xR x.E _ hn).e ?_;rintro e w2 ⟨rfl,hb2⟩;rw[HS2.i];have B2:=ab (B1.i.go hb2);have HB2:=ab (fJ HB1.i hb2);obtain⟨z1,z2,z3,z4⟩:=B2.i.J;have hl2:=B2.i.lt;clear hb2 y1 y2 y3 y4 hl1;go_wp2;go_ret;exact⟨by rw[wV];simp[Ey.i,HS2.i,p0,p1]<;>omega,HB2.i⟩
 by_cases p2:0<=x.seen;rotate_left
 ·skip
  go_enter wo,uJ;go_wp2_with fail;refine(um x.key _).e ?_;rintro e w1 ⟨rfl,hb1⟩;rw[Ey.i];have B1:=ab (B0.i.go hb1);have HB1:=ab (fJ HB0.i hb1);obtain⟨y1,y2,y3,y4⟩:=B1.i.J;have hl1:=B1.i.lt;clear hb1;go_wp2_with fail;refine(xR x.E _ hn).e ?_;rintro e w2 ⟨rfl,hb2⟩;rw[HS2.i];have B2:=ab (B1.i.go hb2);have HB2:=ab (fJ HB1.i hb2);obtain⟨z1,z2,z3,z4⟩:=B2.i.J;have hl2:=B2.i.lt;clear hb2 y1 y2 y3 y4 hl1;go_wp2;go_ret;exact⟨by rw[wV];simp[Ey.i,HS2.i,p0,p1,p2]<;>omega,HB2.i⟩
 by_cases p3:x.seen<=1099511627776;rotate_left
 ·skip
  go_enter wo,uJ;go_wp2_with fail;refine(um x.key _).e ?_;rintro e w1 ⟨rfl,hb1⟩;rw[Ey.i];have B1:=ab (B0.i.go hb1);have HB1:=ab (fJ HB0.i hb1);obtain⟨y1,y2,y3,y4⟩:=B1.i.J;have hl1:=B1.i.lt;clear hb1;go_wp2_with fail;refine(xR x.E _ hn).e ?_;rintro e w2 ⟨rfl,hb2⟩;rw[HS2.i];have B2:=ab (B1.i.go hb2);have HB2:=ab (fJ HB1.i hb2);obtain⟨z1,z2,z3,z4⟩:=B2.i.J;have hl2:=B2.i.lt;clear hb2 y1 y2 y3 y4 hl1;go_wp2;go_ret;exact⟨by rw[wV];simp[Ey.i,HS2.i,p0,p1,p2,p3]<;>omega,HB2.i⟩
 by_cases p4:0<=x.no;rotate_left
 ·skip
  go_enter wo,uJ;go_wp2_with fail;refine(um x.key _).e ?_;rintro e w1 ⟨rfl,hb1⟩;rw[Ey.i];have B1:=ab (B0.i.go hb1);have HB1:=ab (fJ HB0.i hb1);obtain⟨y1,y2,y3,y4⟩:=B1.i.J;have hl1:=B1.i.lt;clear hb1;go_wp2_with fail;refine(xR x.E _ hn).e ?_;rintro e w2 ⟨rfl,hb2⟩;rw[HS2.i];have B2:=ab (B1.i.go hb2);have HB2:=ab (fJ HB1.i hb2);obtain⟨z1,z2,z3,z4⟩:=B2.i.J;have hl2:=B2.i.lt;clear hb2 y1 y2 y3 y4 hl1;go_wp2;go_ret;exact⟨by rw[wV];simp[Ey.i,HS2.i,p0,p1,p2,p3,p4]<;>omega,HB2.i⟩
 by_cases p5:x.no<=1152921504606846976;rotate_left
 ·skip
  go_enter wo,uJ;go_wp2_with fail;refine(um x.key _).e ?_;rintro e w1 ⟨rfl,hb1⟩;rw[Ey.i];have B1:=ab (B0.i.go hb1);have HB1:=ab (fJ HB0.i hb1);obtain⟨y1,y2,y3,y4⟩:=B1.i.J;have hl1:=B1.i.lt;clear hb1;go_wp2_with fail;refine(xR x.E _ hn).e ?_;rintro e w2 ⟨rfl,hb2⟩;rw[HS2.i];have B2:=ab (B1.i.go hb2);have HB2:=ab (fJ HB1.i hb2);obtain⟨z1,z2,z3,z4⟩:=B2.i.J;have hl2:=B2.i.lt;clear hb2 y1 y2 y3 y4 hl1;go_wp2;go_ret;exact⟨by rw[wV];simp[Ey.i,HS2.i,p0,p1,p2,p3,p4,p5]<;>omega,HB2.i⟩
 go_enter wo,uJ;go_wp2_with fail;refine(um x.key _).e ?_;rintro e w1 ⟨rfl,hb1⟩;rw[Ey.i];have B1:=ab (B0.i.go hb1);have HB1:=ab (fJ HB0.i hb1);obtain⟨y1,y2,y3,y4⟩:=B1.i.J;have hl1:=B1.i.lt;clear hb1;go_wp2_with fail;refine(xR x.E _ hn).e ?_;rintro e w2 ⟨rfl,hb2⟩;rw[HS2.i];have B2:=ab (B1.i.go hb2);have HB2:=ab (fJ HB1.i hb2);obtain⟨z1,z2,z3,z4⟩:=B2.i.J;have hl2:=B2.i.lt;clear hb2 y1 y2 y3 y4 hl1;go_wp2;go_ret;exact⟨by rw[wV];simp[Ey.i,HS2.i,p0,p1,p2,p3,p4,p5]<;>omega,HB2.i⟩
def ae4(l:List Bk)(hf:∀x∈l,x.oQ)(v:Int)(A:Option aT)(n c:Nat)(w:ak)(hR:iE Bk.ay 27 w w.a.j A n l)(hn:n<=4611686018427387903)(K:Bool)(hK:rU v l=K):
 aP ah 50 #[.d #[.b .a v,.a A n c]] w (fT w (.e K)):=by
 subst hK;obtain rfl:=hR.1;exact aa2 l hf v A c w hR (by omega)
theorem XK(a:fC)(w:ak):aP ah 67 #[.d a.ay] w (fT w (.e (qg a))):=by
 have Z:=ab ((Bx.start w).new a.ay 27);go_enter Tryz.func67,Tryz.ntmps67;go_upto_region 1 with fail
 generalize w.alloc (.D a.ay 27)=w2 at *;obtain⟨y1,y2,y3,y4⟩:=Z.i.R.J;have CA:=ab (By a w2);have a0:=fC.nS a;have HO:=ab (show qg a=(a.h||a.lG)from rfl);cases h6:a.h
 all_goals
  rw[h6]at a0 CA HO
  first
   | (go_wp2
      go_ret;exact⟨by rw[HO.i];rfl,Z.i.O⟩)
   | (rw[nO,Ay]at CA
      go_wp2_with (go_at_call 133;(with_reducible refine CA.i.e ?_);rintro e w3 ⟨rfl,hb⟩;have Z3:=ab (Z.i.go hb);clear hb);go_ret;exact⟨by rw[HO.i];rfl,Z3.i.O⟩)
def ae5(n a b:Int)(w:ak):aP ah 68 #[.b .a n,.b .a a,.b .a b] w fun e w'=>e=.a (.e (J9 n a b))/\w=w':=by
 go_enter Tryz.func68,Tryz.ntmps68;by_cases h1:a<=n<;>by_cases h2:n<=b
 all_goals
  go_wp2;go_ret;exact⟨by simp[J9,h1,h2],rfl⟩
def Cn.awJ(x:Cn)(k:Nat)(hk:k<6):x.ay[3+k]? = some (.b .a (x.kH.a.b k 0)):=by
 rw[<-aaQ x.kH k hk];have h:=Cn.UF x;rw[<-h,dA];simp[Cn.r];omega
def aiJ(a b:Int):(a==b)=(b==a):=by rw[bF,beq_iff_eq,beq_iff_eq];exact eq_comm
def ahq(a b:fC):decide (a=b)=decide (b=a):=decide_eq_decide.2 eq_comm
theorem ak6(l:List Vp)(i:Nat):EA l i=(ad3 (l.b i oL) && !(l.d i).any (yF (l.b i oL).h (l.b i oL).aQ (l.b i oL).S)):=rfl
def ae6{p:Vp->Bool}{l:List Vp}{i:Nat}(hi:i<=l.a)(h:∀k,k<i->p (l.b k oL)=false):(l.d i).any p=false:=by
 rw[nH];intro x hx;obtain⟨k,hk,rfl⟩:=List.getElem_of_mem hx;have hk2:k<i:=by simp at hk;omega
 have:=h k hk2;rw[au,aC (by omega)]at this;simpa using this
def acv{p:Vp->Bool}{l:List Vp}{i k:Nat}(hi:i<=l.a)(hk:k<i)(h:p (l.b k oL)=true):(l.d i).any p=true:=by
 rw[nY];refine⟨l[k],?_,?_⟩
 ·rw[nu]
  exact⟨k,by omega,rfl⟩
 ·rw[au,aC (by omega)]at h
  exact h
theorem XL(x:Cn)(l:List Vp)(w:ak)(hR:RdV w w.a.j x.qP x.iX l)(hn:x.iX<=100000):
 aP ah 22 #[.d x.ay] w (fT w (.e (yG x l))):=by
 have Z:=ab ((Bx.start w).new x.ay 29);have HR:=ab hR;have HO:=ab (aix x l);have HI:=ab (Xw x.kH);have HN:=ab hR.1;have HS:=ab (aaj l x.iX hR.1);have LI:=ab (Cn.awJ x);have FA:=ab (fun(w':ak) (h:Bx [(w.a.j,x.ay)] w w')=>show w'.b ⟨w.a.j,0,none⟩=some (.a x.qP x.iX x.qZ)from(h.R.J.1 0).trans (Cn.KX x));have CS:=ab (fun a W=>XK a W);have CW:=ab (fun n a b W=>ae5 n a b W);have NOV:=ab (show zw l=false->yG x l=false from fun h=>by rw[HO.i,h];simp);have NOI:=ab (show Cw x.kH=false->yG x l=false from fun h=>by rw[HO.i,h];simp);clear hR;go_enter Tryz.func22,Tryz.ntmps22;go_upto_region 1 with fail
 generalize w.alloc (.D x.ay 29)=w2 at *;have f0:=FA.i _ Z.i;by_cases h64:64<x.iX
 ·have q:decide ((64:Int)<x.iX)=true:=by simp;omega
  have HF:=ab (show yG x l=false from NOV.i (by cases h:zw l;rfl;have:=(HS.i.1 h).1;omega));go_wp2;go_ret;exact⟨by rw[HF.i];rfl,Z.i.O⟩
 have q:decide ((64:Int)<x.iX)=false:=by simp;omega
 go_wp2;go_loopw [3] (fun s3 wr=>∃i:Nat,i<=x.iX/\s3=.b .a i/\(∀k,k<i->EA l k=true)/\Bx [(w.a.j,x.ay)] w wr) (fun s3 _=>x.iX-(intOf s3).g)
 case atStart=>exact⟨0,by omega,rfl,fun k hk=>by omega,Z.i⟩
 case round=>
  clear f0 q;obtain⟨i,hin,rfl,hok,hz⟩:=hrel;have Gy:=ab hok;have ZR:=ab hz;clear hok hz;have f0:=FA.i _ ZR.i;by_cases hlt:i<x.iX
  ·have hi:(i:Int)<x.iX:=by omega
   obtain⟨b,o,hA,hbb,hh,hcl⟩:=iE.fH Vp.r oL (ZR.i.rdR HR.i) hlt;obtain⟨v,hv⟩:=bZ (l.b i oL);rw[<-hv]at hcl;have HX:=ab (show EA l i=(ad3 v && !(l.d i).any (yF v.h v.aQ v.S))by rw[ak6,<-hv]);clear hv;rw[hA]at f0;have HAA:=ab hA;clear hA;have Z1:=ab (ZR.i.new v.ay 98);go_upto_region 7 with fail
   clear hh hcl f0;generalize wr.alloc (.D v.ay 98)=w3 at Z1 ⊢;have hy4:=ZR.i.R.lt;generalize wr.a.j=y4 at Z1 hy4 ⊢;obtain⟨y1,y2,y3,y5⟩:=Z1.i.R.J;have CSV:=ab (CS.i v.h w3);have HV:=ab (show ad3 v=(qg v.h&&(v.aQ==6||v.aQ==17)&&J9 v.S 1 65535)from rfl);cases hv:ad3 v
   ·have Gj:=ab (show yG x l=false from NOV.i (by
     cases h:zw l;rfl;have:=(HS.i.1 h).2 i hlt;rw[HX.i,hv]at this;simp at this))
    rw[hv]at HV;have HZ:=ab HV.i.symm;clear hv HV HX;cases h1:qg v.h
    ·rw[h1]at CSV
     go_wp2_with (first|(go_at_call 67;(with_reducible refine CSV.i.e ?_);rintro e w4 ⟨rfl,hb⟩;have Z3:=ab (Z1.i.go hb);clear y1 y2 y3 y5;obtain⟨y1,y2,y3,y5⟩:=Z3.i.R.J;clear hb));go_ret;exact⟨by rw[Gj.i];rfl,Z3.i.O⟩
    ·rw[h1]at CSV HZ
     have HZ2:=ab (show((v.aQ==6||v.aQ==17)&&J9 v.S 1 65535)=false by have:=HZ.i;simpa using this);cases h2:(v.aQ==6)<;>cases h3:(v.aQ==17)<;>cases h4:J9 v.S 1 65535
     all_goals
      rw[h2,h3,h4]at HZ2
      first
       | (exact absurd HZ2.i (by decide))
       | (have h2':(v.aQ != 6) = !(v.aQ==6):=rfl
          have h3':(v.aQ != 17) = !(v.aQ==17):=rfl;rw[h2]at h2';rw[h3]at h3';have CWV:=ab (fun W=>CW.i v.S 1 65535 W);rw[h4]at CWV;go_wp2_with (first|(go_at_call 67;(with_reducible refine CSV.i.e ?_);rintro e w4 ⟨rfl,hb⟩;have Z3:=ab (Z1.i.go hb);clear y1 y2 y3 y5;obtain⟨y1,y2,y3,y5⟩:=Z3.i.R.J;clear hb)|(go_at_call 68;(with_reducible refine(CWV.i _).e ?_);rintro e w5 ⟨rfl,rfl⟩));go_ret;exact⟨by rw[Gj.i];rfl,Z3.i.O⟩)
   ·rw[hv,xS]at HX
    rw[hv]at HV;have HZ:=ab HV.i.symm;clear hv HV;have h1:qg v.h=true:=by have:=HZ.i;simp at this;exact this.1.1
    have h4:J9 v.S 1 65535=true:=by have:=HZ.i;simp at this;exact this.2
    have h23:(v.aQ==6||v.aQ==17)=true:=by have:=HZ.i;simp at this;simpa using this.1.2
    have CWV:=ab (fun W=>CW.i v.S 1 65535 W);rw[h4]at CWV;rw[h1]at CSV;clear h1 h4;cases h2:(v.aQ==6)<;>cases h3:(v.aQ==17)
    all_goals
     rw[h2,h3]at h23
     first
      | (exact absurd h23 (by decide))
      | skip
    all_goals
     clear h23;have h2':(v.aQ != 6) = !(v.aQ==6):=rfl;have h3':(v.aQ != 17) = !(v.aQ==17):=rfl;rw[h2]at h2';rw[h3]at h3';go_upto_region 9 with(first|(go_at_call 67;(with_reducible refine CSV.i.e ?_);rintro e w4 ⟨rfl,hb⟩;have Z3:=ab (Z1.i.go hb);clear y1 y2 y3 y5;obtain⟨y1,y2,y3,y5⟩:=Z3.i.R.J;clear hb)|(go_at_call 68;(with_reducible refine(CWV.i _).e ?_);rintro e w5 ⟨rfl,rfl⟩))
     clear h2 h3 h2' h3' y1 y2 y3 y5 CSV CWV;go_wp2;go_loopw [5] (fun s5 wx=>∃k:Nat,k<=i/\s5=.b .a k/\(∀j,j<k->yF v.h v.aQ v.S (l.b j oL)=false)/\Bx [(y4,v.ay),(w.a.j,x.ay)] w wx) (fun s5 _=>i-(intOf s5).g)
     case atStart=>exact⟨0,by omega,rfl,fun j hj=>by omega,Z3.i⟩
     case round=>
      obtain⟨k,hki,rfl,hno,hz⟩:=hrel;have HNK:=ab hno;have ZK:=ab hz;clear hno hz;have f0:=FA.i _ ZK.i.Uh;by_cases hkl:k<i
      ·have hk2:(k:Int)<i:=by omega
       have hk3:(k:Int)<x.iX:=by omega
       obtain⟨b2,o2,hA2,NR,hh,hcl⟩:=iE.fH Vp.r oL (ZK.i.Uh.rdR HR.i) (Nat.lt_trans hkl hlt);obtain⟨u,hu⟩:=bZ (l.b k oL);rw[<-hu]at hcl;have HU:=ab hu;clear hu;rw[hA2]at f0;have HAB:=ab hA2;clear hA2;have Z5:=ab (ZK.i.new u.ay 98);go_upto_region 13 with fail
       clear hh hcl f0;have hy6:=ZK.i.R.lt;generalize wr.alloc (.D u.ay 98)=w7 at Z5 ⊢;generalize wr.a.j=y7 at Z5 hy6 ⊢;obtain⟨a1,a2,a3,a4⟩:=Z5.i.R.J;obtain⟨b1,b2,b3,b4⟩:=Z5.i.b1.J;have c1:=Vp.DX u;have c2:=Vp.DX v;obtain⟨b5,hb5⟩:∃b,decide (v.h=u.h)=b:=⟨_,rfl⟩
       obtain⟨b6,hb6⟩:∃b,(v.aQ==u.aQ)=b:=⟨_,rfl⟩
       obtain⟨b7,hb7⟩:∃b,(v.S==u.S)=b:=⟨_,rfl⟩
       have HL:=ab (show yF v.h v.aQ v.S u=(b5&&b6&&b7)by
        rw[<-hb5,<-hb6,<-hb7];unfold yF;rw[aiJ u.aQ,aiJ u.S,ahq u.h])
       have Gj:=ab (show yF v.h v.aQ v.S u=true->yG x l=false from fun hl=>NOV.i (by
        cases h:zw l;rfl;have:=(HS.i.1 h).2 i hlt;rw[HX.i,acv (by rw[HN.i];omega) hkl (by rw[<-HU.i];exact hl)]at this;simp at this))
       go_wp2
       all_goals
        first
        | (go_roundw
           case rel=>exact⟨k+1,by omega,by go_num,fun j hj=>by
            by_cases hjk:j=k
            ·rw[hjk,<-HU.i,HL.i];simp[*]
            ·exact HNK.i j (by omega),Z5.i.Uh⟩
           case measure=>simp[intOf]<;>omega)
        | (go_ret
           exact⟨by rw[Gj.i (by rw[HL.i];simp[*])];rfl,Z5.i.O⟩)
      ·obtain rfl:k=i:=by omega
       have HYY:=ab (show EA l k=true by rw[HX.i,ae6 (by rw[HN.i];omega) HNK.i];rfl);have hd:decide ((k:Int)<k)=false:=by simp
       go_wp2;go_roundw
       case rel=>exact⟨k+1,by omega,by go_num,fun j hj=>by
        by_cases hjk:j=k
        ·rw[hjk];exact HYY.i
        ·exact Gy.i j (by omega),ZK.i.Uh⟩
       case measure=>simp[intOf]<;>omega
  ·obtain rfl:i=x.iX:=by omega
   have HVS:=ab (show zw l=true from HS.i.2 ⟨by omega,Gy.i⟩);have hd:decide ((x.iX:Int)<x.iX)=false:=by simp
   rw[HVS.i,Ay]at HO;have fi0:=(ZR.i.R.J.1 3).trans (LI.i 0 (by omega));obtain⟨z0,hz0⟩:∃z,z=x.kH.a.b 0 0:=⟨_,rfl⟩
   have HZ0:=ab hz0;rw[<-hz0]at fi0;clear hz0;by_cases hz:z0=0
   ·have qz:(z0 != 0)=false:=by simp[hz]
    have aBi:=ab (show x.kH.a.b 0 0=0 by rw[<-HZ0.i];exact hz);clear hz Gy HS HN;go_upto_region 17 with fail
    clear f0 fi0 qz hd;go_wp2;go_loop [7] (fun s7=>∃k:Nat,1<=k/\k<=6/\s7=.b .a k/\(∀j,j<k->C9 x.kH j=true)) (fun s7=>6-(intOf s7).g)
    case atStart=>exact⟨1,by omega,by omega,rfl,fun j hj=>by obtain rfl:j=0:=by omega
                                                             unfold C9;rw[aBi.i];rfl⟩
    case round=>
     obtain⟨k,hk1,hk6,rfl,hok⟩:=hrel;have HNK:=ab hok;clear hok;by_cases hlt:k<6
     ·have hk2:(k:Int)<6:=by omega
      have hk3:(0:Int)<=k:=by omega
      have fi:=(ZR.i.R.J.1 (3+k)).trans (LI.i k hlt);obtain⟨z,hz⟩:=bZ (x.kH.a.b k 0);have HK:=ab (show C9 x.kH k=J9 z 0 1000000 by unfold C9;rw[<-hz,show(k==0)=false by simp;omega];simp);rw[<-hz]at fi;have CZ:=ab (fun W=>CW.i z 0 1000000 W);clear hz;cases hb:J9 z 0 1000000
      ·have Gj:=ab (show yG x l=false from NOI.i (by
        cases h:Cw x.kH;rfl;have:=HI.i.1 h k hlt;rw[HK.i,hb]at this;cases this))
       rw[hb]at CZ;clear hb;go_wp2_with (first|(go_at_call 68;(with_reducible refine(CZ.i _).e ?_);rintro e w5 ⟨rfl,rfl⟩));go_ret;exact⟨by rw[Gj.i];rfl,ZR.i.O⟩
      ·rw[hb]at CZ HK
       clear hb;go_wp2_with (first|(go_at_call 68;(with_reducible refine(CZ.i _).e ?_);rintro e w5 ⟨rfl,rfl⟩));go_round
       case rel=>exact⟨k+1,by omega,by omega,by go_num,fun j hj=>by
        by_cases hjk:j=k
        ·rw[hjk];exact HK.i
        ·exact HNK.i j (by omega)⟩
       case measure=>simp[intOf]<;>omega
     ·obtain rfl:k=6:=by omega
      have HID:=ab (show Cw x.kH=true from HI.i.2 HNK.i);rw[HID.i,xS]at HO;obtain⟨y1,y2,y3,y4⟩:=ZR.i.R.J;have CS4:=ab (fun W=>CS.i x.Du W);obtain⟨sf,hsf⟩:∃b,qg x.Du=b:=⟨_,rfl⟩
      rw[hsf]at CS4 HO;clear hsf hlt hk1 hk6 HID HNK NOI NOV HI LI HZ0 aBi HVS;cases hsz:J9 x.j 2 65537
      ·rw[hsz,Ef]at HO
       simp only[Ef]at HO;go_wp2_with (first|(go_at_call 68;(with_reducible refine(CW.i _ _ _ _).e ?_);rintro e w5 ⟨rfl,rfl⟩))
       all_goals
        go_ret;exact⟨by rw[HO.i];rfl,ZR.i.O⟩
      ·have PR:=ab (show∀W,aP ah 69 #[.b .a x.j] W fun e W'=>e=.a (.e (lT x.j.g))/\W=W' from fun W=>by
        have h1:2<=x.j/\x.j<=65537:=by unfold J9 at hsz;simpa using hsz
        have:=aaR (W:=W) x.j.g (by omega)
        rwa [Int.toNat_of_nonneg (by omega)]at this)
       obtain⟨pn,hpn⟩:∃b,lT x.j.g=b:=⟨_,rfl⟩
       rw[hsz,xS]at HO;simp only[hpn]at HO PR;clear hpn;go_wp2_with (first|(go_at_call 68;(with_reducible refine(CW.i _ _ _ _).e ?_);rintro e w5 ⟨rfl,rfl⟩)|(go_at_call 69;(with_reducible refine(PR.i _).e ?_);rintro e w5 ⟨rfl,rfl⟩)|(go_at_call 67;(with_reducible refine(CS4.i _).e ?_);rintro e w6 ⟨rfl,hb⟩;have Z4:=ab (ZR.i.go hb);clear y1 y2 y3 y4;obtain⟨y1,y2,y3,y4⟩:=Z4.i.R.J;clear hb))
       all_goals
        go_ret;refine⟨?_,by first|exact Z4.i.O|exact ZR.i.O⟩;rw[HO.i];clear HO PR CW CS CS4 y1 y2 y3 y4;simp_all
   ·have qz:(z0 != 0)=true:=by simp[hz]
    have Gj:=ab (show yG x l=false from NOI.i (by
     cases h:Cw x.kH;rfl;have:=HI.i.1 h 0 (by omega);unfold C9 at this;rw[<-HZ0.i]at this;simp[hz]at this))
    clear hz;go_wp2;go_ret;exact⟨by rw[Gj.i];rfl,ZR.i.O⟩
def Fw.awL(x:Fw)(j:Nat)(hj:j<37):x.ay[j]? = x.key.ay[j]?:=by
 have h:(x.ay.extract 0 37)[j]? = x.key.ay[j]?:=by rw[Fw.JI]
 rw[dA,if_pos (by rw[Fw.r];omega),bl]at h;exact h
def iE.awM{W:ak}{B n:Nat}{A:Option aT}{l:List Fw}{k:Nat}(h:iE Fw.ay 41 W B A n l)(hk:k<n):∃b o,A=some ⟨b,o,none⟩/\(uM (.c (some ⟨b,o+k*41,none⟩))).G ah W = .Y (.d (l.b k jw).key.ay) W:=by
 obtain⟨b,o,e,_,hc⟩:=iE.cell Fw.r jw h hk;obtain⟨h1,h2⟩:=uX (W:=W) (b:=b) (o:=o+k*41) (n:=37) (Tu.r (l.b k jw).key) (fun j hj=>(hc j (by omega)).trans (Fw.awL _ j hj));exact⟨b,o,e,by rw[Ot _ _ _ h1,h2]⟩
def aoW{l:List Fw}{k:Nat}(hk:k<=l.a)(h:∀j,j<k->(l.b j jw).key≠(l.b k jw).key):J5 l k=false:=by
 unfold J5;rw[nH];intro x hx;rw[nu]at hx;obtain⟨j,hj,rfl⟩:=hx;have:=h j (by omega);rw[sj (show j<l.a by omega)]at this;simpa[tq]using this
def ak7{l:List Fw}{k j:Nat}(hj:j<k)(hk:k<l.a)(h:(l.b j jw).key=(l.b k jw).key):J5 l k=true:=by
 unfold J5;rw[nY];refine⟨l[j]'(by omega),?_,?_⟩
 ·rw[nu]
  exact⟨j,by omega,rfl⟩
 ·rw[sj (show j<l.a by omega)]at h
  simpa[tq]using h
def XM(x:Cn)(vs:List Vp)(X:Sh)(s:rE)(w:ak)(hV:iE Vp.ay 20 w w.a.j x.qP x.iX vs)(hvn:x.iX<=100000)(hS:StR w w.a.j X s)(hbl:s.qO.a<=100000)(hhl:s.r.a<=100000)(hfl:s.h.a<=100000)(J:Bool)(hJ:xG x vs s=J):
 aP ah 16 #[.d x.ay,.d X.ay] w (fT w (.e J)):=by
 obtain⟨vv,⟨bA,bn,bc⟩,⟨gA,gn,gc⟩,⟨fA,fn,fc⟩,tk,nn,ct⟩:=X;obtain rfl:vv=s.lD:=hS.lD;obtain rfl:tk=s.fK:=hS.fK;obtain rfl:nn=s.no:=hS.no;obtain rfl:ct=s.S:=hS.S;have hbn:s.qO.a=bn:=hS.b.1;have hgn:s.r.a=gn:=hS.h.1;have hfn:s.h.a=fn:=hS.f.1;have HBN:=ab hbn;have HGN:=ab hgn;have HFN:=ab hfn;have HS:=ab hS;have HLS:=ab (show bn<=100000/\gn<=100000/\fn<=100000 by omega);obtain⟨K1,hK1⟩:∃K,yG x vs=K:=⟨_,rfl⟩
 obtain⟨K2,hK2⟩:∃K,rU s.lD s.qO=K:=⟨_,rfl⟩
 obtain⟨K3,hK3⟩:∃K,decide (gn=bn)=K:=⟨_,rfl⟩
 obtain⟨K4,hK4⟩:∃K,decide ((fn:Int)<=x.dS)=K:=⟨_,rfl⟩
 obtain⟨KN,hKN⟩:∃K,WZ s=K:=⟨_,rfl⟩
 obtain⟨KH,hKH⟩:∃K,(bY gn).all (J4 x s)=K:=⟨_,rfl⟩
 obtain⟨KF,hKF⟩:∃K,(bY fn).all (IX s)=K:=⟨_,rfl⟩
 have HJ:=ab (show J=((K1&&(K2&&(K3&&K4)))&&(KN&&(KH&&KF)))by rw[<-hJ,<-hK1,<-hK2,<-hK3,<-hK4,<-hKN,<-hKH,<-hKF,<-hbn,<-hgn,<-hfn];rfl);have HKN:=ab hKN;have HKH:=ab hKH;have HKF:=ab hKF;have q3:((gn:Int) != (bn:Int)) = !K3:=by rw[<-hK3];by_cases h:gn=bn<;>simp[h];omega
 have q4:decide (x.dS<(fn:Int)) = !K4:=by rw[<-hK4];by_cases h:(fn:Int)<=x.dS<;>simp[h]<;>omega
 have HK3:=ab hK3;clear hJ hK4 hKN hKH hKF hbn hgn hfn hbl hhl hfl hK3;have h0:=((Bx.start w).new x.ay 29).new (Sh.mk s.lD ⟨bA,bn,bc⟩ ⟨gA,gn,gc⟩ ⟨fA,fn,fc⟩ s.fK s.no s.S).ay 37;rw[show(w.alloc (.D x.ay 29)).a.j=w.a.j+1 by simp]at h0;have Z0:=ab h0;clear h0;obtain⟨XA,hXA⟩:∃A,A=(Sh.mk s.lD ⟨bA,bn,bc⟩ ⟨gA,gn,gc⟩ ⟨fA,fn,fc⟩ s.fK s.no s.S).ay:=⟨_,rfl⟩
 have XF:=ab (show XA.extract 0 2 = #[.b .a s.lD,.a bA bn bc]/\XA[0]? = some (.b .a s.lD)/\XA[1]? = some (.a bA bn bc)/\XA[2]? = some (.a gA gn gc)/\XA[3]? = some (.a fA fn fc)/\XA[4]? = some (.b .a s.fK)/\XA[5]? = some (.b .a s.no)/\∀j,j<11->XA[6+j]? = some (.b .a (s.S.a.b j 0))by
  rw[hXA];exact⟨Sh.Hg _,Sh.nS _,Sh.DK _,Sh.RV _,Sh.adt _,Sh.ahZ _,Sh.ah0 _,fun j hj=>Sh.adV _ j hj⟩)
 have CC:=ab (fun w1 (hb:aL w.a.j w w1)=>XL x vs w1 (hV.go hb) hvn);have CP:=ab (fun w1 (hb:aL w.a.j w w1)=>ae4 s.qO HS.i.oQ s.lD bA bn bc w1 (HS.i.b.go hb) (by have:=HLS.i;omega) K2 hK2);rw[hK1]at CC;have XS:=ab (show XA.j=17 by rw[hXA];exact Sh.r _);clear hK1 hK2 hV hS;go_enter Tryz.func16,Tryz.ntmps16;go_upto_region 1 with fail
 generalize(w.alloc (.D x.ay 29)).alloc (.D (Sh.mk s.lD ⟨bA,bn,bc⟩ ⟨gA,gn,gc⟩ ⟨fA,fn,fc⟩ s.fK s.no s.S).ay 37)=w0 at Z0 ⊢;rw[<-hXA]at Z0;clear hXA;obtain⟨x1,x2,x3,x4⟩:=Z0.i.b1.J;go_wp2_with fail
 (with_reducible refine(CC.i _ Z0.i.O).e ?_)
 rintro e w1 ⟨rfl,hb1⟩;have Z1:=ab (Z0.i.go hb1);clear hb1 x1 x2 x3 x4;cases K1
 ·skip
  go_wp2;go_ret;exact⟨by rw[HJ.i];rfl,Z1.i.O⟩
 obtain⟨e0,e1,e2,e3,e4,e5,e6,e7⟩:=XF.i;obtain⟨y1,y2,y3,y4⟩:=Z1.i.R.J;have hys:eB XA=17:=by have:=Z1.i.R;unfold eB;exact XS.i
 go_wp2_with fail
 (with_reducible refine(CP.i _ Z1.i.O).e ?_)
 rintro e w2 ⟨rfl,hb2⟩;have Z2:=ab (Z1.i.go hb2);clear hb2 y1 y2 y3 y4;cases K2
 ·skip
  go_wp2;go_ret;exact⟨by rw[HJ.i];rfl,Z2.i.O⟩
 obtain⟨x1,x2,x3,x4⟩:=Z2.i.b1.J;obtain⟨y1,y2,y3,y4⟩:=Z2.i.R.J;have z2:=Cn.OJ x;cases K3
 ·simp only[nO]at q3
  go_wp2;go_ret;exact⟨by rw[HJ.i];rfl,Z2.i.O⟩
 cases K4
 ·simp only[nO]at q4
  go_wp2;go_ret;exact⟨by rw[HJ.i];rfl,Z2.i.O⟩
 simp only[sQ]at q3 q4;obtain⟨a1,ha1⟩:∃a,decide (s.fK<0)=a:=⟨_,rfl⟩
 obtain⟨a2,ha2⟩:∃a,decide (1099511627776<s.fK)=a:=⟨_,rfl⟩
 obtain⟨a3,ha3⟩:∃a,decide (s.no<0)=a:=⟨_,rfl⟩
 obtain⟨a4,ha4⟩:∃a,decide (1152921504606846976<s.no)=a:=⟨_,rfl⟩
 obtain⟨a5,ha5⟩:∃a,s.S.a.any wG=a:=⟨_,rfl⟩
 have P7:=ab (show KN=(!a1&&(!a2&&(!a3&&(!a4 && !a5))))by
  rw[<-HKN.i,<-ha1,<-ha2,<-ha3,<-ha4,<-ha5,aiq];unfold WZ XW;rw[bF];simp only[bf,decide_eq_true_eq,nI,decide_eq_false_iff_not,Bool.not_not];constructor
  ·rintro⟨h1,h2,h3⟩;exact⟨by omega,by omega,by omega,by omega,h3⟩
  ·rintro⟨h1,h2,h3,h4,h5⟩;exact⟨by omega,by omega,h5⟩)
 cases a1;rotate_left
 ·skip
  go_wp2;go_ret;exact⟨by rw[HJ.i,P7.i];rfl,Z2.i.O⟩
 cases a2;rotate_left
 ·skip
  go_wp2;go_ret;exact⟨by rw[HJ.i,P7.i];rfl,Z2.i.O⟩
 cases a3;rotate_left
 ·skip
  go_wp2;go_ret;exact⟨by rw[HJ.i,P7.i];rfl,Z2.i.O⟩
 cases a4;rotate_left
 ·skip
  go_wp2;go_ret;exact⟨by rw[HJ.i,P7.i];rfl,Z2.i.O⟩
 have HJ5:=ab (show KN = !a5 by rw[P7.i];rfl);have HA5:=ab ha5;clear ha5 P7 HKN;go_wp2;clear ha1 ha2 ha3 ha4 q3 q4 x1 x2 x3 x4 y1 y2 y3 y4 z2;go_loopw [5] (fun s5 wr=>∃i:Nat,i<=11/\s5=.b .a i/\wr=w2/\∀k,k<i->wG (s.S.a.b k 0)=false) (fun s5 _=>11-(intOf s5).g)
 case atStart=>exact⟨0,by omega,rfl,rfl,fun k hk=>by omega⟩
 case round=>
  obtain⟨i,hin,rfl,hwr,hall⟩:=hrel;rw[hwr];clear hwr;have HA:=ab hall;clear hall;by_cases hlt:i<11
  ·have hlt2:(i:Int)<11:=by omega
   have hi0:(0:Int)<=(i:Int):=by omega
   have f1:=(Z2.i.R.J.1 (6+i)).trans (XF.i.2.2.2.2.2.2.2 i hlt);obtain⟨z,hz⟩:=rT (s.S.a.b i 0);rw[hz]at f1;obtain⟨b1,hb1⟩:∃b,decide (z<0)=b:=⟨_,rfl⟩
   obtain⟨b2,hb2⟩:∃b,decide (1152921504606846976<z)=b:=⟨_,rfl⟩
   have HC:=ab (show wG (s.S.a.b i 0)=(b1||b2)by rw[hz];unfold wG;rw[hb1,hb2]);clear hz;cases b1
   ·cases b2
    ·go_wp2
     exact⟨⟨i+1,by omega,by rw[show((i+1:Nat):Int)=(i:Int)+1 by omega],trivial,fun k hk=>by
      by_cases hki:k=i
      ·rw[hki,HC.i];rfl
      ·exact HA.i k (by omega)⟩,by simp only[intOf];omega⟩
    ·have HF:=ab (show KN=false by rw[HJ5.i,<-HA5.i,nY.2 ⟨_,yc 0 s.S.a i (by simpa using hlt),by rw[HC.i];rfl⟩];rfl)
     go_wp2;go_ret;exact⟨by rw[HJ.i,HF.i];simp,Z2.i.O⟩
   ·have HF:=ab (show KN=false by rw[HJ5.i,<-HA5.i,nY.2 ⟨_,yc 0 s.S.a i (by simpa using hlt),by rw[HC.i];rfl⟩];rfl)
    go_wp2;go_ret;exact⟨by rw[HJ.i,HF.i];simp,Z2.i.O⟩
  have hnl:¬(i:Int)<11:=by omega
  have HKT:=ab (show KN=true by
   rw[HJ5.i,<-HA5.i,nI,nH];intro z hz;obtain⟨j,hj,rfl⟩:=List.mem_iff_getElem.1 hz;have:=HA.i j (by simp at hj;omega);rw[sj hj]at this;rw[this];simp)
  have HJ:=ab (show J=(KH&&KF)by rw[HJ.i,HKT.i];simp);have hgb:=of_decide_eq_true HK3.i;subst hgb;clear hlt HA HKT HJ5 HA5 HK3 hin;go_wp2;go_loopw [6] (fun s6 wr=>∃i:Nat,i<=gn/\s6=.b .a i/\Bx [(w.a.j+1,XA),(w.a.j,x.ay)] w wr/\∀k,k<i->J4 x s k=true) (fun s6 _=>gn-(intOf s6).g)
  case atStart=>exact⟨0,by omega,rfl,Z2.i,fun k hk=>by omega⟩
  case round=>
   obtain⟨i,hin,rfl,hz,hall⟩:=hrel;have ZR:=ab hz;have HA:=ab hall;clear hz hall;have xg:=(ZR.i.R.J.1 2).trans XF.i.2.2.2.1;by_cases hlt:i<gn
   ·have hlt2:(i:Int)<gn:=by omega
    have hgs:gn<=100000:=HLS.i.2.1;obtain⟨y,hy⟩:=rT (s.r.b i kQ);obtain⟨b,o,rfl,_,hh,hcl,_,_⟩:=iE.hl (show RdH wr wr.a.j gA gn s.r from HS.i.h.go ZR.i.O) hlt;rw[hy]at hcl;have ZY:=ab (ZR.i.new y.ay 100);go_upto_region 14 with fail
    generalize wr.alloc (.D y.ay 100)=w5 at ZY ⊢;generalize wr.a.j=py at ZY ⊢;clear hh hcl xg;obtain⟨b2,o2,rfl,_,hc2⟩:=iE.cell Bk.r iO (show iE Bk.ay 27 w5 w5.a.j bA gn s.qO from HS.i.b.go ZY.i.O) hlt;have n0:=(hc2 0 (by omega)).trans (Bk.nS _);rw[Nat.add_zero]at n0;clear hc2;obtain⟨nm,hnm⟩:∃n,(s.qO.b i iO).E=n:=⟨_,rfl⟩
    rw[hnm]at n0;obtain⟨x1,x2,x3,x4⟩:=ZY.i.b2.J;obtain⟨y1,y2,y3,y4⟩:=ZY.i.b1.J;obtain⟨u1,u2,u3,u4⟩:=ZY.i.R.J;have d0:=Hl.nS y;have d1:=Hl.DK y;have d2:=Hl.RV y;obtain⟨t1,ht1⟩:∃a,(y.E==nm)=a:=⟨_,rfl⟩
    obtain⟨t2,ht2⟩:∃a,decide (y.G<0)=a:=⟨_,rfl⟩
    have T1:(y.E != nm) = !t1:=by rw[<-ht1];rfl
    have T2:decide (y.E=nm)=t1:=by rw[<-ht1];rw[bF];simp
    have T3:decide (y.E≠nm) = !t1:=by rw[<-ht1];rw[bF];simp
    have T4:(!decide (y.E=nm)) = !t1:=by rw[T2]
    obtain⟨t3,ht3⟩:∃a,decide ((if y.down then x.kF else x.S)<=y.G)=a:=⟨_,rfl⟩
    have HI:=ab (show J4 x s i=(t1&&(!t2 && !t3))by
     unfold J4 anH;rw[hy,hnm,ht1,<-ht2,<-ht3];congr 1;congr 1<;>(rw[bF];simp))
    have c1:=Cn.OO x;have c2:=Cn.OL x;clear hy hnm;cases hd:y.down<;>rw[hd]at d1 ht3
    all_goals
     simp only[Bool.false_eq_true,if_false,if_true]at ht3;have HF:=ab (show(t1&&(!t2 && !t3))=false->KH=false from fun h=>by rw[<-HKH.i];exact ji _ i _ hlt (by rw[HI.i,h]));cases t1
     ·simp only[sQ,nO]at T1 T3 T4
      go_quiet (fail);go_wp2;go_ret;exact⟨by rw[HJ.i,HF.i rfl];rfl,ZY.i.O.trans (eH (aG _ _) _)⟩
     simp only[sQ,nO]at T1 T3 T4;cases t2;rotate_left
     ·go_quiet (fail)
      go_wp2;go_ret;exact⟨by rw[HJ.i,HF.i rfl];rfl,ZY.i.O.trans (eH (aG _ _) _)⟩
     cases t3;rotate_left
     ·go_quiet (fail)
      go_wp2;go_ret;exact⟨by rw[HJ.i,HF.i rfl];rfl,ZY.i.O.trans (eH (aG _ _) _)⟩
     go_quiet (fail);go_wp2;go_roundw
     case rel=>exact⟨i+1,by omega,by go_num,ZY.i.Uh.drewN _,fun k hk=>by
      by_cases hki:k=i
      ·rw[hki];exact HI.i
      ·exact HA.i k (by omega)⟩
     case measure=>simp[intOf]<;>omega
   ·obtain rfl:i=gn:=by omega
    have HF:=ab (show KH=true by rw[<-HKH.i,fM];exact fun k hk=>HA.i k (dV.1 hk));have HJ:=ab (show J=KF by rw[HJ.i,HF.i];rfl);have hnl:¬(i:Int)<i:=by omega
    clear hlt HA HF HKH;go_wp2;clear xg;go_loopw [8] (fun s8 wr=>∃k:Nat,k<=fn/\s8=.b .a k/\Bx [(w.a.j+1,XA),(w.a.j,x.ay)] w wr/\∀j,j<k->IX s j=true) (fun s8 _=>fn-(intOf s8).g)
    case atStart=>exact⟨0,by omega,rfl,ZR.i,fun k hk=>by omega⟩
    case round=>
     obtain⟨k,hkn,rfl,hz,hall⟩:=hrel;have ZR:=ab hz;have HA:=ab hall;clear hz hall;have xf:=(ZR.i.R.J.1 3).trans XF.i.2.2.2.2.1;by_cases hkt:k<fn;rotate_left
     ·obtain rfl:k=fn:=by omega
      have HF:=ab (show KF=true by rw[<-HKF.i,fM];exact fun j hj=>HA.i j (dV.1 hj));have hnl:¬(k:Int)<k:=by omega
      go_wp2;go_ret;exact⟨by rw[HJ.i,HF.i];rfl,ZR.i.O⟩
     have hlt2:(k:Int)<fn:=by omega
     obtain⟨b,o,rfl,hbl,hh,hcl⟩:=iE.fw (show iE Fw.ay 41 wr wr.a.j fA fn s.h from HS.i.f.go ZR.i.O) hkt;obtain⟨y,hy⟩:=rT (s.h.b k jw);rw[hy]at hcl;have HYN:=ab (HS.i.V9 _ (yc jw s.h k (by rw[HFN.i];exact hkt)));rw[hy]at HYN;have ZY:=ab (ZR.i.new y.ay 86);go_upto_region 20 with fail
     generalize wr.alloc (.D y.ay 86)=w7 at ZY ⊢;generalize wr.a.j=py at ZY ⊢;clear hh hcl hbl xf;have hfs:fn<=100000:=HLS.i.2.2;obtain⟨c1,hc1⟩:∃c,AY y=c:=⟨_,rfl⟩
     obtain⟨c2,hc2⟩:∃c,decide (s.fK<y.seen)=c:=⟨_,rfl⟩
     obtain⟨c3,hc3⟩:∃c,decide (y.no<1)=c:=⟨_,rfl⟩
     obtain⟨c4,hc4⟩:∃c,decide (s.no<y.no)=c:=⟨_,rfl⟩
     obtain⟨pv,hpv⟩:∃p,s.h.b (k-1) jw=p:=⟨_,rfl⟩
     have HI:=ab (show IX s k=(c1&&(!c2&&(!c3&&(!c4&&(!J5 s.h k&&(decide (k=0)||kG pv y))))))by
      unfold IX;rw[hy,hc1,hpv,<-hc2,<-hc3,<-hc4];have g1:decide (y.seen<=s.fK) = !decide (s.fK<y.seen):=by rw[bF];simp
      have g2:decide (1<=y.no) = !decide (y.no<1):=by rw[bF];simp
      have g3:decide (y.no<=s.no) = !decide (s.no<y.no):=by rw[bF];simp
      rw[g1,g2,g3])
     have FR:=ab (fun W=>ak5 y W HYN.i);rw[hc1]at FR;have HC1:=ab hc1;have HPV:=ab hpv;have HYY:=ab hy;clear hy hc1 hpv;obtain⟨T,f,n0,E0,es,ew⟩:=uD (w7);have hT:Nonempty T:=⟨n0⟩
     have ES:=ab es;have EW:=ab ew;clear es ew;have l1:=fun m=>kE (ZY.i.go (ES.i m)).R
     have l3:∀m,(f m).b ⟨py,39,none⟩=some (.b .a y.seen):=fun m=>((ZY.i.go (ES.i m)).R.J.1 39).trans (Fw.abl y)
     have l4:∀m,(f m).b ⟨py,40,none⟩=some (.b .a y.no):=fun m=>((ZY.i.go (ES.i m)).R.J.1 40).trans (Fw.MJ y)
     have l5:∀m,(f m).b ⟨w.a.j+1,4,none⟩=some (.b .a s.fK):=fun m=>((ZY.i.go (ES.i m)).b1.J.1 4).trans XF.i.2.2.2.2.2.1
     have l6:∀m,(f m).b ⟨w.a.j+1,5,none⟩=some (.b .a s.no):=fun m=>((ZY.i.go (ES.i m)).b1.J.1 5).trans XF.i.2.2.2.2.2.2.1
     have l7:∀m,(f m).b ⟨w.a.j+1,3,none⟩=some (.a (some ⟨b,o,none⟩) fn fc):=fun m=>((ZY.i.go (ES.i m)).b1.J.1 3).trans XF.i.2.2.2.2.1
     cases c1;rotate_left;cases c2;cases c3;cases c4
     all_goals try(
      have HF:=ab (show KF=false by rw[<-HKF.i];exact ji _ k _ hkt (by rw[HI.i];simp));refine lQ f (by kernel_rfl) (by kernel_rfl) n0 E0 ?_
      repeat(go_big_quiet_step ((first|(go_at_call 51;(with_reducible refine(FR.i _).e ?_);rintro e w2 ⟨rfl,hb⟩;exact⟨rfl,EW.i _ ((ES.i _).trans (hb.e (ES.i _).j))⟩))))
      refine eG ?_;rintro _ ⟨m',rfl⟩;have HB:=ab (ES.i m');generalize f m'=wN at *;clear ES EW E0 hT n0;go_wp2;go_ret;exact⟨by rw[HJ.i,HF.i];rfl,(ZY.i.go HB.i).O⟩)
     have Dt:=ab (Eb HC1.i);obtain⟨ob,hob⟩:∃b,(decide (0<k) && !kG pv y)=b:=⟨_,rfl⟩
     have HOB:=ab (show(decide (k=0)||kG pv y) = !ob by
      rw[<-hob];by_cases h:k=0
      ·simp[h]
      ·simp[h,show 0<k by omega])
     have HO2:=ab hob;clear hob;go_cut [170]from 134 to 170 (fun sg wx=>sg=.e ob/\Bx [(py,y.ay),(w.a.j+1,XA),(w.a.j,x.ay)] w wx)
     case first=>
      by_cases hk0:k=0
      ·have t0:decide (0<(k:Int))=false:=by simp;omega
       have t00:decide (0<k)=false:=by simp;omega
       obtain rfl:false=ob:=by rw[<-HO2.i,t00];rfl
       refine lQ f (by kernel_rfl) (by kernel_rfl) n0 E0 ?_
       repeat(go_big_quiet_step ((first|(go_at_call 51;(with_reducible refine(FR.i _).e ?_);rintro e w2 ⟨rfl,hb⟩;exact⟨rfl,EW.i _ ((ES.i _).trans (hb.e (ES.i _).j))⟩))))
       refine eG ?_;rintro _ ⟨m',rfl⟩;have HB:=ab (ES.i m');generalize f m'=wN at *;clear ES EW E0 hT n0;go_wp2_with fail;go_meet
       case rel=>exact⟨rfl,ZY.i.go HB.i⟩
      have t0:decide (0<(k:Int))=true:=by simp;omega
      have t00:decide (0<k)=true:=decide_eq_true (by omega);have hkp:0<k:=by omega
      have HOP:=ab (show AY pv=true by
       have:=HA.i (k-1) (by omega);unfold IX at this;rw[HPV.i]at this;simp only[bf]at this;exact this.1)
      have HON:=ab (Eb HOP.i);have CO:=ab (fun W=>ahp pv y HON.i.1 Dt.i.1 W);obtain⟨j,hj⟩:∃j:Nat,j=k-1:=⟨_,rfl⟩
      have i1:(k:Int)-1=(j:Int):=by omega
      have i2:(j:Int)<fn:=by omega
      rw[<-hj]at HPV;have HJK:=ab (show j<fn by omega);clear hj;have la:∀m,(ML (.c (some ⟨b,o+j*41,none⟩))).G ah (f m) = .Y (.d pv.ay) (f m):=fun m=>by
       obtain⟨b',o',e,_,hh,hcl⟩:=iE.fw (show iE Fw.ay 41 (f m) (f m).a.j (some ⟨b,o,none⟩) fn s.h from HS.i.f.go (ZY.i.go (ES.i m)).O) HJK.i;injection e with e
       injection e with e1 e2
       subst e1 e2;rw[HPV.i]at hcl;rw[abn _ _ _ hh,hcl]
      obtain⟨c7,hc7⟩:∃c,kG pv y=c:=⟨_,rfl⟩
      obtain rfl:(!c7)=ob:=by rw[<-HO2.i,t00,hc7];rfl
      rw[hc7]at CO;clear hc7;cases c7
      all_goals
       refine lQ f (by kernel_rfl) (by kernel_rfl) n0 E0 ?_
       repeat(go_big_quiet_step ((first|(go_at_call 51;(with_reducible refine(FR.i _).e ?_);rintro e w2 ⟨rfl,hb⟩;exact⟨rfl,EW.i _ ((ES.i _).trans (hb.e (ES.i _).j))⟩)|(go_at_call 52;(with_reducible refine(CO.i _).e ?_);rintro e w2 ⟨rfl,hb⟩;exact⟨rfl,EW.i _ ((ES.i _).trans (hb.e (ES.i _).j))⟩))))
       refine eG ?_;rintro _ ⟨m',rfl⟩;have HB:=ab (ES.i m');generalize f m'=wN at *;clear ES EW E0 hT n0;go_wp2_with fail;go_meet
       case rel=>exact⟨rfl,ZY.i.go HB.i⟩
     obtain⟨rfl,hz⟩:=hcut;have ZN:=ab hz;generalize wc=wN at ZN ⊢;clear l1 l3 l4 l5 l6 l7 ES EW E0 hT n0 hz;cases ob;rotate_left
     ·have HF:=ab (show KF=false by rw[<-HKF.i];exact ji _ k _ hkt (by rw[HI.i,HOB.i];simp))
      go_wp2;go_ret;exact⟨by rw[HJ.i,HF.i];rfl,ZN.i.O⟩
     go_wp2;go_loopw [10] (fun s10 wt=>∃m:Nat,m<=k/\s10=.b .a m/\Bx [(py,y.ay),(w.a.j+1,XA),(w.a.j,x.ay)] w wt/\∀j,j<m->(s.h.b j jw).key≠(s.h.b k jw).key) (fun s10 _=>k-(intOf s10).g)
     case atStart=>exact⟨0,by omega,rfl,ZN.i,fun j hj=>by omega⟩
     case round=>
      obtain⟨m,hmk,rfl,hz,hd⟩:=hrel;have ZT:=ab hz;have HD:=ab hd;clear hz hd;by_cases hmt:m<k;rotate_left
      ·have hnl:¬(m:Int)<k:=by omega
       have HG:=ab (show IX s k=true by
        rw[HI.i,aoW (by rw[HFN.i];omega) (fun j hj=>HD.i j (by omega))];rw[HOB.i];rfl)
       go_wp2;exact⟨⟨k+1,by omega,by rw[show((k+1:Nat):Int)=(k:Int)+1 by omega],ZT.i.Uh,fun j hj=>by
        by_cases hjk:j=k
        ·rw[hjk];exact HG.i
        ·exact HA.i j (by omega)⟩,by simp only[intOf];omega⟩
      have hlt3:(m:Int)<k:=by omega
      have hm4:(m:Int)<fn:=by omega
      have xf:=(ZT.i.b1.J.1 3).trans XF.i.2.2.2.2.1;obtain⟨km,hkm⟩:∃q,(s.h.b m jw).key=q:=⟨_,rfl⟩
      have la:∀n,(uM (.c (some ⟨b,o+m*41,none⟩))).G ah (wr.drewN n) = .Y (.d km.ay) (wr.drewN n):=fun n=>by
       obtain⟨b3,o3,e3,h⟩:=iE.awM (show iE Fw.ay 41 (wr.drewN n) (wr.drewN n).a.j (some ⟨b,o,none⟩) fn s.h from HS.i.f.go (ZT.i.drewN n).O) (show m<fn by omega);injection e3 with e3
       injection e3 with e4 e5
       subst e4;subst e5;rw[hkm]at h;exact h
      have lb:∀n,(uM (.c (some ⟨py,0,none⟩))).G ah (wr.drewN n) = .Y (.d y.key.ay) (wr.drewN n):=fun n=>BI (ZT.i.drewN n).R
      by_cases hq:km=y.key
      ·have d1:decide (km=y.key)=true:=decide_eq_true hq
       have HF:=ab (show KF=false by
        rw[<-HKF.i];exact ji _ k _ hkt (by rw[HI.i,ak7 hmt (by rw[HFN.i];exact hkt) (by rw[hkm,hq,HYY.i])];simp))
       clear hkm hq;go_upto_region 25 with fail
       go_quiet (fail);go_wp2;go_ret;exact⟨by rw[HJ.i,HF.i];rfl,ZT.i.O.trans (eH (aG _ _) _)⟩
      have d1:decide (km=y.key)=false:=decide_eq_false hq;have HDN:=ab (show∀j,j<m+1->(s.h.b j jw).key≠(s.h.b k jw).key from fun j hj=>by
       by_cases hjm:j=m
       ·rw[hjm,hkm,HYY.i];exact hq
       ·exact HD.i j (by omega))
      clear hkm hq;go_upto_region 25 with fail
      go_quiet (fail);go_wp2;exact⟨⟨m+1,by omega,by rw[show((m+1:Nat):Int)=(m:Int)+1 by omega],ZT.i.drewN nq,HDN.i⟩,by simp only[intOf];omega⟩
theorem Qc(k:Vector UInt8 16)(c:Cn)(vs:List Vp)(X Y:Sh)(s t:rE)(W:ak)(hV:iE Vp.ay 20 W W.a.j c.qP c.iX vs)(hvc:c.iX<=c.qZ)(hcc:c.qZ<=9223372036854775807)
 (hX:StW W W.a.j X s) (hY:StW W W.a.j Y t) :
 aP ah 3 #[.d (jc k),.d c.ay,.d X.ay,.d Y.ay] W (fT W (.e true)):=by
 have z0:=((((Bx.start W).new (jc k) 22).new c.ay 29).new X.ay 37).new Y.ay 37;rw[show(((W.alloc (.D (jc k) 22)).alloc (.D c.ay 29)).alloc (.D X.ay 37)).a.j=W.a.j+3 by simp,show((W.alloc (.D (jc k) 22)).alloc (.D c.ay 29)).a.j=W.a.j+2 by simp,show(W.alloc (.D (jc k) 22)).a.j=W.a.j+1 by simp]at z0;have Z0:=ab z0;clear z0;have V0:=ab hV;have HX:=ab hX;have HY:=ab hY;have LN:=ab (show c.iX<=c.qZ/\c.qZ<=9223372036854775807 from⟨hvc,hcc⟩);obtain⟨K1,hK1⟩:∃K,(decide (c.iX<=20)&&decide (c.j<=260))=K:=⟨_,rfl⟩
 obtain⟨K2,hK2⟩:∃K,Zl s=K:=⟨_,rfl⟩
 obtain⟨K3,hK3⟩:∃K,Zl t=K:=⟨_,rfl⟩
 have CSm:=ab (fun w=>akZ c w);rw[hK1]at CSm;have CF1:=ab (fun(w:ak) (hb:aL W.a.j W w)=>OI X s w (HX.i.go hb) K2 hK2);have CF2:=ab (fun(w:ak) (hb:aL W.a.j W w)=>OI Y t w (HY.i.go hb) K3 hK3);have HK1:=ab hK1;have HK2:=ab hK2;have HK3:=ab hK3;clear hV hX hY hvc hcc hK1 hK2 hK3;go_enter Tryz.func3,Tryz.ntmps3;go_upto_region 1 with fail
 generalize(((W.alloc (.D (jc k) 22)).alloc (.D c.ay 29)).alloc (.D X.ay 37)).alloc (.D Y.ay 37)=w1 at Z0 ⊢;cases K1
 ·go_upto_region 2 with(first
   | (go_at_call 12;(with_reducible refine(vG _).e ?_);rintro r w2 ⟨rfl,hb⟩;have Z2:=ab (Z0.i.go hb);have lc2:=Qf.ni Z2.i.b2 (Cn.r _);have lx2:=jO Z2.i.b1;have ly2:=jO Z2.i.R;clear hb)
   | (go_at_call 13;(with_reducible refine(CSm.i _).e ?_);rintro r w3 ⟨rfl,hb⟩;have Z3:=ab (Z2.i.go hb);have lc3:=Qf.ni Z3.i.b2 (Cn.r _);have lx3:=jO Z3.i.b1;have ly3:=jO Z3.i.R;clear hb))
  go_wp2_with (go_at_call 12;(with_reducible refine(vG _).e ?_);rintro r w9 ⟨rfl,hb⟩;have Z9:=ab (Z3.i.go hb);clear hb);go_ret;exact⟨rfl,Z9.i.O⟩
 cases K2
 ·go_upto_region 2 with(first
   | (go_at_call 12;(with_reducible refine(vG _).e ?_);rintro r w2 ⟨rfl,hb⟩;have Z2:=ab (Z0.i.go hb);have lc2:=Qf.ni Z2.i.b2 (Cn.r _);have lx2:=jO Z2.i.b1;have ly2:=jO Z2.i.R;clear hb)
   | (go_at_call 13;(with_reducible refine(CSm.i _).e ?_);rintro r w3 ⟨rfl,hb⟩;have Z3:=ab (Z2.i.go hb);have lc3:=Qf.ni Z3.i.b2 (Cn.r _);have lx3:=jO Z3.i.b1;have ly3:=jO Z3.i.R;clear hb)
   | (go_at_call 14;(with_reducible refine(CF1.i _ Z3.i.O).e ?_);rintro r w4 ⟨rfl,hb⟩;have Z4:=ab (Z3.i.go hb);have lc4:=Qf.ni Z4.i.b2 (Cn.r _);have lx4:=jO Z4.i.b1;have ly4:=jO Z4.i.R;clear hb))
  go_wp2_with (go_at_call 12;(with_reducible refine(vG _).e ?_);rintro r w9 ⟨rfl,hb⟩;have Z9:=ab (Z4.i.go hb);clear hb);go_ret;exact⟨rfl,Z9.i.O⟩
 cases K3
 ·go_upto_region 2 with(first
   | (go_at_call 12;(with_reducible refine(vG _).e ?_);rintro r w2 ⟨rfl,hb⟩;have Z2:=ab (Z0.i.go hb);have lc2:=Qf.ni Z2.i.b2 (Cn.r _);have lx2:=jO Z2.i.b1;have ly2:=jO Z2.i.R;clear hb)
   | (go_at_call 13;(with_reducible refine(CSm.i _).e ?_);rintro r w3 ⟨rfl,hb⟩;have Z3:=ab (Z2.i.go hb);have lc3:=Qf.ni Z3.i.b2 (Cn.r _);have lx3:=jO Z3.i.b1;have ly3:=jO Z3.i.R;clear hb)
   | (go_at_call 14;(with_reducible refine(CF1.i _ Z3.i.O).e ?_);rintro r w4 ⟨rfl,hb⟩;have Z4:=ab (Z3.i.go hb);have lc4:=Qf.ni Z4.i.b2 (Cn.r _);have lx4:=jO Z4.i.b1;have ly4:=jO Z4.i.R;clear hb)
   | (go_at_call 14;(with_reducible refine(CF2.i _ Z4.i.O).e ?_);rintro r w5 ⟨rfl,hb⟩;have Z5:=ab (Z4.i.go hb);clear hb))
  go_wp2_with (go_at_call 12;(with_reducible refine(vG _).e ?_);rintro r w9 ⟨rfl,hb⟩;have Z9:=ab (Z5.i.go hb);clear hb);go_ret;exact⟨rfl,Z9.i.O⟩
 go_upto_region 3 with(first
  | (go_at_call 12;(with_reducible refine(vG _).e ?_);rintro r w2 ⟨rfl,hb⟩;have Z2:=ab (Z0.i.go hb);have lc2:=Qf.ni Z2.i.b2 (Cn.r _);have lx2:=jO Z2.i.b1;have ly2:=jO Z2.i.R;clear hb)
  | (go_at_call 13;(with_reducible refine(CSm.i _).e ?_);rintro r w3 ⟨rfl,hb⟩;have Z3:=ab (Z2.i.go hb);have lc3:=Qf.ni Z3.i.b2 (Cn.r _);have lx3:=jO Z3.i.b1;have ly3:=jO Z3.i.R;clear hb)
  | (go_at_call 14;(with_reducible refine(CF1.i _ Z3.i.O).e ?_);rintro r w4 ⟨rfl,hb⟩;have Z4:=ab (Z3.i.go hb);have lc4:=Qf.ni Z4.i.b2 (Cn.r _);have lx4:=jO Z4.i.b1;have ly4:=jO Z4.i.R;clear hb)
  | (go_at_call 14;(with_reducible refine(CF2.i _ Z4.i.O).e ?_);rintro r w5 ⟨rfl,hb⟩;have Z5:=ab (Z4.i.go hb);clear hb))
 clear lc2 lx2 ly2 lc3 lx3 ly3 lc4 lx4 ly4 CSm CF1 CF2;have VN:=ab (show c.iX<=20 by
  have h1:=HK1.i;simp only[bf,decide_eq_true_eq]at h1;exact h1.1)
 have SX:=ab (HX.i.amX HK2.i);have SY:=ab (HY.i.amX HK3.i);have FX:=ab (Zm HK2.i);obtain⟨J,hJ⟩:=rT (xG c vs s);obtain⟨J2,hJ2⟩:∃J,Wm s t=J:=⟨_,rfl⟩
 have HJ:=ab hJ;have C1:=ab (fun(w:ak) (hb:aL W.a.j W w)=>Ee c vs X s w (V0.i.go hb) LN.i.1 (by have:=VN.i;omega) (SX.i.go hb) (by have:=FX.i;omega) (by have:=FX.i;omega) (by have:=FX.i;omega) J hJ);have C2:=ab (fun(w:ak) (hb:aL W.a.j W w)=>XM c vs X s w (V0.i.go hb) (by have:=VN.i;omega) (SX.i.go hb) (by have:=FX.i;omega) (by have:=FX.i;omega) (by have:=FX.i;omega) J hJ);have C3:=ab (fun(w:ak) (hb:aL W.a.j W w)=>MQ X Y s t w (SX.i.go hb) (SY.i.go hb) J2 hJ2);have C4:=ab (fun(w:ak) (hb:aL W.a.j W w)=>Mc X Y s t w (SX.i.go hb) (SY.i.go hb) J2 hJ2);have C5:=ab (fun(w:ak) (hb:aL W.a.j W w)=>MQ X X s s w (SX.i.go hb) (SX.i.go hb) true (JJ s));clear hJ hJ2;obtain⟨T,f,n0,E0,es,ew⟩:=uD w5;have hT:Nonempty T:=⟨n0⟩
 have ES:=ab (fun m=>Z5.i.go (es m));have EB:=ab es;have EW:=ab ew;clear es ew;have l1:=fun m=>Qf.ni (ES.i m).b2 (Cn.r _)
 have l2:=fun m=>jO (ES.i m).b1
 have l3:=fun m=>jO (ES.i m).R
 have e1:(J != J)=false:=by simp
 have e2:(J2 != J2)=false:=by simp
 refine lQ f (by kernel_rfl) (by kernel_rfl) n0 E0 ?_
 repeat(go_big_quiet_step ((first
  | (go_at_call 15;(with_reducible refine(C1.i _ (ES.i _).O).e ?_);rintro e w7 ⟨rfl,hb⟩;exact⟨rfl,EW.i _ ((EB.i _).trans (hb.e (EB.i _).j))⟩)
  | (go_at_call 16;(with_reducible refine(C2.i _ (ES.i _).O).e ?_);rintro e w7 ⟨rfl,hb⟩;exact⟨rfl,EW.i _ ((EB.i _).trans (hb.e (EB.i _).j))⟩)
  | (go_at_call 17;(with_reducible refine(C5.i _ (ES.i _).O).e ?_);rintro e w7 ⟨rfl,hb⟩;exact⟨rfl,EW.i _ ((EB.i _).trans (hb.e (EB.i _).j))⟩)
  | (go_at_call 17;(with_reducible refine(C3.i _ (ES.i _).O).e ?_);rintro e w7 ⟨rfl,hb⟩;exact⟨rfl,EW.i _ ((EB.i _).trans (hb.e (EB.i _).j))⟩)
  | (go_at_call 18;(with_reducible refine(C4.i _ (ES.i _).O).e ?_);rintro e w7 ⟨rfl,hb⟩;exact⟨rfl,EW.i _ ((EB.i _).trans (hb.e (EB.i _).j))⟩))))
 refine eG ?_;rintro _ ⟨m',rfl⟩;have Z6:=ab (ES.i m');generalize f m'=w6 at *;clear ES EB EW E0 hT n0 l1 l2 l3 e1 e2 C1 C3 C4 C5;have lk:=Xh.ni Z6.i.b3 (dN _);have lc:=Qf.ni Z6.i.b2 (Cn.r _);have lx:=jO Z6.i.b1;cases J
 ·have CR:=ab (Qa k c vs X s w6 (V0.i.go Z6.i.O) LN.i.1 (by have:=VN.i;omega) (SX.i.go Z6.i.O) (by have:=FX.i;omega) (by have:=FX.i;omega) (by have:=FX.i;omega) HJ.i)
  go_wp2_with (first
   | (go_at_call 19;(with_reducible refine CR.i.e ?_);rintro r w7 ⟨rfl,hb⟩;have Z7:=ab (Z6.i.go hb);have lc7:=Qf.ni Z7.i.b2 (Cn.r _);have lx7:=jO Z7.i.b1;clear hb)
   | (go_at_call 16;(with_reducible refine(C2.i _ Z7.i.O).e ?_);rintro r w8 ⟨rfl,hb⟩;have Z8:=ab (Z7.i.go hb);clear hb))
  go_ret;exact⟨rfl,Z8.i.O⟩
 have CR:=ab (Mi k c vs X s w6 (V0.i.go Z6.i.O) LN.i.1 (by have:=VN.i;omega) (SX.i.go Z6.i.O) HJ.i);have HI:=ab (Xa k HJ.i SX.i.oQ);unfold P9 at CR;go_upto_region 8 with(first
  | (go_at_call 19;(with_reducible refine CR.i.e ?_);rintro r w7 ⟨q,x,q2,g,sl,rfl,hE,hb,hq,hr⟩;have E7:=ab hE;have Z7:=ab (Z6.i.go hb);have lc7:=Qf.ni Z7.i.b2 (Cn.r _);have lx7:=jO Z7.i.b1;clear hb hE hq hr)
  | (go_at_call 16;(with_reducible refine(C2.i _ Z7.i.O).e ?_);rintro r w8 ⟨rfl,hb⟩;have Z8:=ab (Z7.i.go hb);have E8:=ab (E7.i.go hb);clear hb))
 clear lk lc lx lc7 lx7 C2 CR;have ZD:=ab (Z8.i.drew);have ED:=ab (E8.i.go (iC _));have CT:=ab (Tx ED.i HI.i);unfold awq at CT;have KS:=ab (fun(w':ak) (h:Bx [(W.a.j+3,Y.ay),(W.a.j+2,X.ay),(W.a.j+1,c.ay),(W.a.j,jc k)] W w')=>show(V8 (.c (some ⟨W.a.j+2,0,none⟩))).G ah w' = .Y (.d X.ay) w' from jO h.b1);have y1:=KS.i _ Z8.i;go_region_held_law (fun w'=>(V8 (.c (some ⟨W.a.j+2,0,none⟩))).G ah w' = .Y (.d X.ay) w')
  (first|exact KS.i _ ZD.i|exact KS.i _ Z9.i|exact KS.i _ Z10.i|go_keep)
  (first
  | (go_at_call 20;(with_reducible refine CT.i.e ?_);rintro r w9 ⟨X2,rfl,ho,hb⟩;have S9:=ab (ho.r HI.i);have Z9:=ab (ZD.i.go hb);clear ho hb)
  | (go_at_call 18;(with_reducible refine(Mc X2 X s s _ S9.i (SX.i.go Z9.i.O) true (JJ s)).e ?_);rintro r w10 ⟨rfl,hb⟩;have Z10:=ab (Z9.i.go hb);clear hb))
 go_wp2;go_ret;exact⟨rfl,Z10.i.O⟩
end Go.Proofs.YtkjojjopamaoiaaGreat
