/- Parts. -/
import Derived.Test.YtkjojjopamaoiaaGreatPk1
set_option linter.all false
set_option maxRecDepth 100000
set_option maxHeartbeats 8000000
open Array renaming ext_getElem?->dW,getElem?_eq_none->aU,size_extract->jE,getElem?_toList->dD,length_toList->aY,all_eq_true_iff_forall_mem->fU,getElem?_eq_some_iff->bV,size->Array.j,toList->Array.a,getD->Array.b
open Bool renaming and_eq_true->bf
open Go renaming Value->aB,World->ak,Calls->aQ,Addr->aS,TypeId->bM,cell_of_row->sV,Ending->lq,setRow_heap->rH,setRow_other->oJ,length_splice->vW,bodyPost_ret->aN,heap_alloc_new->Gy
open Go.Addr renaming add_mid->iC
open Go.Calls renaming mono->Go.Calls.g
open Go.DataW renaming trod->lV,trod_struct->uO,trod_bool->Ie,agg->Go.DataW.d
open Go.Ending renaming returned->Go.Ending.a
open Go.Instr renaming loadAt->bZ,buildSlice->bI,slice->Go.Instr.a
open Go.IntKind renaming i64->Go.IntKind.a
open Go.Lib renaming hid->ab
open Go.Obj renaming cells->Go.Obj.D
open Go.Op renaming slice->Go.Op.a
open Go.Operand renaming tmp->Go.Operand.a
open Go.Proofs.Tryz renaming prog->ah,underlying64->vC,underlying30->iY,func140->Cm,ntmps140->Ao,func71->Fb,ntmps71->Co,underlying75->vD
open Go.ResultVar renaming tmp->Go.ResultVar.a
open Go.RowKit renaming Below->aL
open Go.RowKit.Below renaming refl->aH,size->Go.RowKit.Below.j,mono->Go.RowKit.Below.g,setCell->Go.RowKit.Below.F
open Go.RowKit.Hid renaming out->Go.RowKit.Hid.i
open Go.Sem renaming run->Go.Sem.I
open Go.Tables renaming info?->Go.Tables.l
open Go.TypeDesc renaming slice->Go.TypeDesc.a,int->Go.TypeDesc.b,string->Go.TypeDesc.g
open Go.TypeInfo renaming size->Go.TypeInfo.j
open Go.Value renaming int->aI,string->ig,agg->bY,cells->cO,slice->bC,oneCell'->cB,cells->Go.Value.D,slice->Go.Value.a,int->Go.Value.b,agg->Go.Value.d,tuple->Go.Value.J,oneCell'->Go.Value.h,string->Go.Value.g
open Go.World renaming frozen?->sj,setRow->rW,ownsRow_nil->eY,setCell->gY,heap->Go.World.a,cell?->Go.World.b,setCell->Go.World.F,ownsRow->Go.World.c
open Int renaming toNat->Int.e
open List renaming getElem?_toArray->eB,getElem?_append->kT,take_append_drop->iF,take_append_of_le_length->gu,length_take->bJ,take_of_length_le->aK,length_drop->jA,getElem?_drop->iZ,getElem?_take->jd,size_toArray->dK,drop_of_length_le->iR,eq_nil_of_length_eq_zero->bE,take_take->vV,length_set->aV,getD_eq_getElem?_getD->au,getElem?_eq_none->aT,getElem?_eq_getElem->aC,getElem_of_mem->lF,pairwise_iff_getElem->fH,getElem_mem->dR,mem_append->qh,mem_cons->bB,pairwise_cons->gL,drop_eq_getElem_cons->kU,mem_append_left->Az,foldl_cons->jT,length_map->bQ,length->List.a,getD->List.b,toArray->List.c,take->List.d,drop->List.f,below->List.S
open Nat renaming lt_or_ge->aZ,add_comm->uG,le_refl->av,zero_add->bl,min->qg,sub_mul->Bj,mul_le_mul_right->cZ,le_of_lt->mH,min_eq_left->ou,le_trans->aO,mul_le_mul->gG,succ_pos->lH,lt_succ_self->mG,eq_zero_or_pos->dY,mod_lt->fE,add_assoc->mZ,below->Nat.S
open Option renaming getD->Option.b
open Or renaming inl->Or.a,inr->Or.b
open Vector renaming toList->Vector.a
namespace Go.Proofs.YtkjojjopamaoiaaGreat
open Go.RowKit
@[go_sem]theorem Bk.dZ(x:Bk):dZ x.ay=27:=Bk.G x
@[go_sem]theorem fu.dZ(x:fu):dZ x.ay=17:=fu.G x
@[go_sem]theorem Bk.j5(x:Bk):x.ay.extract 0 27=x.ay:=by
 have:=Bk.G x;rw[<-this];simp
@[go_sem]theorem Bk.FZ(x:Bk):x.ay.extract 1 18=x.h.ay:=by
 apply dW;intro j;rcases aZ j 17 with hj|hj
 ·rw[show(18:Nat)=1+17 from rfl,nV x.ay 1 17 j hj (by rw[Bk.G];omega),uG,Bk.acw x j hj]
 ·rw[aU (by rw[jE,Bk.G];omega),aU (by rw[fu.G];exact hj)]
structure qM where
 kind:Int
 h:Bk
 E:List UInt8
 w:Nat
def qM.ay(o:qM):Array aB:=(aI .a o.kind::(o.h.ay.a++[ig (bK o.E),fv o.w])).c
theorem qM.G(o:qM):o.ay.j=30:=by simp[qM.ay,Bk.G]
@[go_sem]theorem qM.dZ(o:qM):dZ o.ay=30:=qM.G o
@[go_sem]theorem qM.pW(o:qM):o.ay[0]? = some (.b .a o.kind):=by simp[qM.ay]
theorem qM.al0(o:qM)(j:Nat)(hj:j<27):o.ay[j+1]? = o.h.ay[j]?:=by
 simp[qM.ay,eB,kT,Bk.G,hj]
@[go_sem]theorem qM.GL(o:qM):o.ay[1]? = some (.g (bK o.h.E)):=by rw[qM.al0 o 0 (by omega),Bk.pW]
@[go_sem]theorem qM.aCl(o:qM):o.ay[28]? = some (.g (bK o.E)):=by simp[qM.ay,eB,kT,Bk.G]
@[go_sem]theorem qM.aCm(o:qM):o.ay[29]? = some (.float .f64 o.w):=by simp[qM.ay,eB,kT,Bk.G,fv]
@[go_sem]theorem qM.atn(o:qM):o.ay.extract 1 28=o.h.ay:=by
 apply dW;intro j;rcases aZ j 27 with hj|hj
 ·rw[show(28:Nat)=1+27 from rfl,nV o.ay 1 27 j hj (by rw[qM.G];omega),uG,qM.al0 o j hj]
 ·rw[aU (by rw[jE,qM.G];omega),aU (by rw[Bk.G];exact hj)]
@[go_sem]theorem qM.j5(o:qM):o.ay.extract 0 30=o.ay:=by
 have:=qM.G o;rw[<-this];simp
def MQ(v:aB):Sem aB:=bZ 64 v
@[go_sem ↓]theorem ato(v:aB):bZ 64 v=MQ v:=rfl
@[go_sem]theorem al1(W:ak)(b o:Nat)(h:xJ W b o 30):(MQ (.pointer (some ⟨b,o,none⟩))).I ah W=.ok (.d (eu W b o 30)) W:=
 kg W b o 30 _ _ vC rfl (by kernel_rfl) h
@[go_sem]theorem apv(W:ak)(c:Array aB)(x:Bk)(b:Nat)(hb:b=W.a.j)(hc:dZ c=27):
 (JK (.pointer (some ⟨b,0,none⟩)) (.d x.ay)).I ah (W.alloc (.D c 62))=.ok () (W.alloc (.D x.ay 62)):=by
 subst hb;exact Mv W c x hc
def arX(n:Nat)(ps:Array (Nat×aB)):Sem aB:=bI 30 n ps
@[go_sem ↓]theorem axB(n:Nat)(ps:Array (Nat×aB)):bI 30 n ps=arX n ps:=rfl
@[go_sem]theorem av6(w:ak)(x:Bk):(arX 1 #[(0,.d x.ay)]).I ah w=.ok (.a (some ⟨w.a.j,0,none⟩) 1 1) (w.alloc (.D x.ay 62)):=by
 obtain⟨i0,hi0,hz0,hz1,hzb⟩:=OQ;exact rR w _ _ i0 (.d jk.ay) 27 iY hi0 hz0 hz1 (Bk.G jk) (by omega) (by omega) x.ay (Bk.G x)
def qM.who(o:qM):List UInt8:=if o.kind=1 then o.h.E else o.E
def qm(v:Int)(l:List Bk)(o:qM):Int:=
 if o.kind<1 then 1 else if 5<o.kind then 1 else if o.kind=1/\o.h.Br=false then 1 else if o.kind=3/\XG o.w=false then 1
 else if o.kind=1/\rE l o.who=true then 6 else if o.kind=1/\1024<=l.a then 7 else if o.kind≠1/\rE l o.who=false then 5
 else if o.kind=4/\(oM l o.who).drain=true then 6 else if o.kind=5/\(oM l o.who).drain=false then 6 else if 1099511627776<=v then 7 else 0
theorem adf(x:Nat)(hx:x<18446744073709551616)(w:ak):aQ ah 170 #[.float .f64 x] w fun e w'=>e=.a (.bool (XG x))/\w=w':=by
 rw[<-JM hx];exact JL x w
theorem JW(l:List Bk)(hs:Es l)(v:Int)(o:qM)(hf:o.h.rF)(hw:o.w<18446744073709551616)(A:Option aS)(c:Nat)(w:ak)(hR:FL w w.a.j A l.a l)(hn:l.a<4611686018427387904):
 aQ ah 140 #[.d #[.b .a v,.a A l.a c],.d o.ay] w (gM w (.b .a (qm v l o))):=by
 obtain⟨hf1,hf2⟩:=hf;have HS:=ab hs;have HR1:=ab (fun ob ug=>((hR.alloc (av _) ob).alloc (by simp) ug).lD (B':=((w.alloc ob).alloc ug).a.j) (by simp;omega));have HB0:=ab (fun ob ug=>(((aH w.a.j w).alloc (av _) ob).alloc (by simp) ug:aL w.a.j w ((w.alloc ob).alloc ug)));clear hR hs;have Bw:qm v l o=(if o.kind<1 then 1 else if 5<o.kind then 1 else if o.kind=1/\o.h.Br=false then 1 else if o.kind=3/\XG o.w=false then 1
  else if o.kind=1/\rE l o.who=true then 6 else if o.kind=1/\1024<=l.a then 7 else if o.kind≠1/\rE l o.who=false then 5
  else if o.kind=4/\(oM l o.who).drain=true then 6 else if o.kind=5/\(oM l o.who).drain=false then 6 else if 1099511627776<=v then 7 else 0):=rfl
 have HW:=ab Bw;clear Bw;by_cases h1:o.kind=1
 ·have hwho:o.who=o.h.E:=by simp[qM.who,h1]
  have afx:=ab hwho;obtain⟨K,hK⟩:=sH o.h.Br;have hri:=fun W=>acP o.h W hf1 hf2
  rw[hK]at hri;have HRI:=ab hri;have HK:=ab hK;have H1:=ab h1;clear hwho hri hK;go_enter Cm,Ao;go_wp2_with fail;refine(zF l HS.i _ v A c _ (HR1.i _ _) hn).g ?_;rintro e w1 ⟨rfl,hb1⟩;obtain⟨hx1,hx2,hx3,hx4,hx5⟩:=Uc hb1;have hz0:w.a.j<w1.a.j:=by simp at hx5;omega
  have hz1:w.a.j+1<w1.a.j:=by simp at hx5;omega
  clear hx5;have HB1:=ab ((HB0.i _ _).trans (hb1.g (by simp;omega)));have HB2:=ab (HB1.i.alloc (by omega) (.D (oM l o.h.E).ay 62));clear hb1;go_wp2_with fail;refine(HRI.i _).g ?_;rintro e w2 ⟨rfl,hb2⟩;obtain⟨hy1,hy2,hy3,hy4,hy5⟩:=Uc hb2;have hz2:w1.a.j<w2.a.j:=by simp at hy5;omega
  have hz3:w.a.j<w2.a.j:=by omega
  have hz4:w.a.j+1<w2.a.j:=by omega
  clear hy5;have HB2:=ab ((HB1.i.alloc (by omega) (.D (oM l o.h.E).ay 62)).trans (hb2.g (by simp;omega)));clear hb2;cases K
  all_goals
   go_wp2_with fail
  all_goals
   go_ret;exact⟨by rw[HW.i,afx.i,HK.i,H1.i];simp[*];try omega,HB2.i⟩
 have hwho:o.who=o.E:=by simp[qM.who,h1]
 have afx:=ab hwho;have H1:=ab h1;clear hwho;have g1:(o.kind==1)=false:=by simpa using h1
 have g1':(o.kind != 1)=true:=by simpa using h1
 rcases(show o.kind<1\/5<o.kind\/o.kind=2\/o.kind=3\/o.kind=4\/o.kind=5 by omega)with h2|h2|h2|h2|h2|h2
 ·clear h1
  go_enter Cm,Ao;go_wp2_with fail;refine(zF l HS.i _ v A c _ (HR1.i _ _) hn).g ?_;rintro e w1 ⟨rfl,hb1⟩;obtain⟨hx1,hx2,hx3,hx4,hx5⟩:=Uc hb1;have hz0:w.a.j<w1.a.j:=by simp at hx5;omega
  have hz1:w.a.j+1<w1.a.j:=by simp at hx5;omega
  clear hx5;have HB1:=ab ((HB0.i _ _).trans (hb1.g (by simp;omega)));have HB2:=ab (HB1.i.alloc (by omega) (.D (oM l o.E).ay 62));clear hb1;go_wp2_with fail;go_ret;exact⟨by rw[HW.i,afx.i];simp[*],HB2.i⟩
 ·clear h1
  have g2:¬o.kind<1:=by omega
  go_enter Cm,Ao;go_wp2_with fail;refine(zF l HS.i _ v A c _ (HR1.i _ _) hn).g ?_;rintro e w1 ⟨rfl,hb1⟩;obtain⟨hx1,hx2,hx3,hx4,hx5⟩:=Uc hb1;have hz0:w.a.j<w1.a.j:=by simp at hx5;omega
  have hz1:w.a.j+1<w1.a.j:=by simp at hx5;omega
  clear hx5;have HB1:=ab ((HB0.i _ _).trans (hb1.g (by simp;omega)));have HB2:=ab (HB1.i.alloc (by omega) (.D (oM l o.E).ay 62));clear hb1;go_wp2_with fail;go_ret;exact⟨by rw[HW.i,afx.i];simp[*],HB2.i⟩
 ·have H2:=ab h2
  clear h1 g1 g1';go_enter Cm,Ao;go_wp2_with fail;refine(zF l HS.i _ v A c _ (HR1.i _ _) hn).g ?_;rintro e w1 ⟨rfl,hb1⟩;obtain⟨hx1,hx2,hx3,hx4,hx5⟩:=Uc hb1;have hz0:w.a.j<w1.a.j:=by simp at hx5;omega
  have hz1:w.a.j+1<w1.a.j:=by simp at hx5;omega
  clear hx5;have HB1:=ab ((HB0.i _ _).trans (hb1.g (by simp;omega)));have HB2:=ab (HB1.i.alloc (by omega) (.D (oM l o.E).ay 62));clear hb1;go_wp2_with fail
  all_goals
   go_ret;exact⟨by rw[HW.i,afx.i,H2.i];clear hx1 hx2 hx3 hx4 HR1 HB0 HB1;first|(simp[*];done)|(simp_all;done)|(simp_all;omega),HB2.i⟩
 ·have H2:=ab h2
  clear h1 g1 g1';go_enter Cm,Ao;go_wp2_with fail;refine(zF l HS.i _ v A c _ (HR1.i _ _) hn).g ?_;rintro e w1 ⟨rfl,hb1⟩;obtain⟨hx1,hx2,hx3,hx4,hx5⟩:=Uc hb1;have hz0:w.a.j<w1.a.j:=by simp at hx5;omega
  have hz1:w.a.j+1<w1.a.j:=by simp at hx5;omega
  clear hx5;have HB1:=ab ((HB0.i _ _).trans (hb1.g (by simp;omega)));have HB2:=ab (HB1.i.alloc (by omega) (.D (oM l o.E).ay 62));clear hb1;go_wp2_with fail;refine(adf o.w hw _).g ?_;rintro e w' ⟨rfl,rfl⟩;go_wp2_with fail
  all_goals
   go_ret;exact⟨by rw[HW.i,afx.i,H2.i];clear hx1 hx2 hx3 hx4 HR1 HB0 HB1;first|(simp[*];done)|(simp_all;done)|(simp_all;omega),HB2.i⟩
 all_goals
  have H2:=ab h2;clear h1 g1 g1';go_enter Cm,Ao;go_wp2_with fail;refine(zF l HS.i _ v A c _ (HR1.i _ _) hn).g ?_;rintro e w1 ⟨rfl,hb1⟩;obtain⟨hx1,hx2,hx3,hx4,hx5⟩:=Uc hb1;have hz0:w.a.j<w1.a.j:=by simp at hx5;omega
  have hz1:w.a.j+1<w1.a.j:=by simp at hx5;omega
  clear hx5;have HB1:=ab ((HB0.i _ _).trans (hb1.g (by simp;omega)));have HB2:=ab (HB1.i.alloc (by omega) (.D (oM l o.E).ay 62));clear hb1;go_wp2_with fail
  all_goals
   go_ret;exact⟨by rw[HW.i,afx.i,H2.i];clear hx1 hx2 hx3 hx4 HR1 HB0 HB1;first|(simp[*];done)|(simp_all;done)|(simp_all;omega),HB2.i⟩
theorem xY(a b:List Bk):dI (a++b)=dI a++dI b:=by simp[dI]
theorem aaQ(x:Bk)(b:List Bk):dI (x::b)=x.ay.a++dI b:=by simp[dI]
theorem MS(l:List Bk)(i:Nat)(hi:i<=l.a):dI (l.d i)=(dI l).d (i*27):=by
 have h:=xY (l.d i) (l.f i);rw[iF]at h;rw[h,gu (by rw[jB,bJ];omega)];exact(aK (by rw[jB,bJ];omega)).symm
theorem MV(l:List Bk)(i:Nat)(hi:i<=l.a):dI (l.f i)=(dI l).f (i*27):=by
 have h:=xY (l.d i) (l.f i);rw[iF]at h;have hl:(dI (l.d i)).a=i*27:=by rw[jB,bJ];omega
 rw[h,<-hl,List.drop_left]
def zJ(l:List Bk)(i:Nat)(x:Bk):List Bk:=l.d i++x::l.f i
theorem xZ(l:List Bk)(i:Nat)(x:Bk):(zJ l i x).a=l.a+1:=by
 simp[zJ];omega
theorem IX(l:List Bk)(i:Nat)(x:Bk)(hi:i<=l.a):dI (zJ l i x)=(dI l).d (i*27)++x.ay.a++(dI l).f (i*27):=by
 rw[zJ,xY,aaQ,MS l i hi,MV l i hi,List.append_assoc]
theorem aaR(w:ak)(g:Nat)(c:Array aB)(t:bM)(fr:Nat×Nat)(hg:w.a[g]? = some (.D c t fr)):∀j v,c.a[j]? = some v->w.b ((⟨g,0,none⟩:aS).add j)=some v:=fun j v hv=>by
 rw[iC,sV w g _ c _ _ hg,bl]
 rwa [dD]at hv
def adg(base:Nat)(w:ak)(row:Option Nat)(m:List Bk)(e:lq)(w':ak):Prop:=
 ∃A c,e=.a (.a A m.a c)/\w'.c base 62 27 (.a A m.a c) m.a (dI m)/\w.grownBy w' row
theorem XV(w:ak)(g g2:Nat)(cur Ve:Array aB)(t t2:bM)(hg:w.a[g]? = some (.D cur t (0,0)))(h2:w.a[g2]? = some (.D Ve t2 (0,0)))(hne:g≠g2)(hc:cur.j≠0)(o la ca lb cb:Nat):
 (callFunc 210 #[.a (some ⟨g2,0,none⟩) la ca,.a (some ⟨g,o,none⟩) lb cb]).I ah w=.ok (.value (.bool false)) w:=by
 rw[run_callFunc_extern Tryz.func210 (by kernel_rfl) (by kernel_rfl) (by kernel_rfl) (e:=Extern.SlicesOverlaps.overlaps #[30,30] #[4]) (by kernel_rfl)];obtain⟨i0,hi0,hz0,hz1,hzb⟩:=OQ;rw[Lib.run_overlaps_apart w _ _ 62 iY 27 (fun w=>by simp[sizeOf,typeInfo,hi0,hz1]) ⟨g2,0,none⟩ ⟨g,o,none⟩ la ca lb cb (fun e=>hne e.symm) t2 t Ve.j cur.j (by simp[World.shape?,h2]) (by simp[World.shape?,hg]) hc (by simp[sj,h2]) (by simp[sj,h2])];rfl
theorem aaS(l:List Bk)(x:Bk)(i:Nat)(hi:i<l.a)(base g c:Nat)(cur:Array aB)(w:ak)(hb:base<=g)(hg:w.a[g]? = some (.D cur 62 (0,0)))(hc:l.a+1<=c)(hcm:c<=maxLen)(hcs:cur.j=c*27)
 (ht:cur.a.d (l.a*27)=dI l) (g2:Nat) (h2:w.a[g2]? = some (.D x.ay 62 (0,0))) (hne:g≠g2) (hn:l.a<=100000) :
 aQ ah 141 #[.a (some ⟨g,0,none⟩) l.a c,.b .a i,.a (some ⟨g2,0,none⟩) 1 1] w (adg base w (some g) (zJ l i x)):=by
 unfold maxLen at hcm;obtain⟨n,hnl⟩:=dw l.a;rw[<-hnl]at hi hc hn ht ⊢;have HN:=ab hnl;have HG:=ab (show w.drew.a[g]? = some (.D cur 62 (0,0))from hg);have H2:=ab h2;have HT:=ab ht;have HCS:=ab hcs;have hov:=fun o la ca lb cb=>XV w g g2 cur x.ay _ _ hg h2 hne (by omega) o la ca lb cb
 have SZ:=ab (show(ah.l 62).map (·.j)=some 27 by kernel_rfl);have M1:=ab (show n-i=qg (n+1-i) (n-i)from(Nat.min_eq_right (by omega)).symm);have M2:=ab (show((dI l).f (i*27)).a=(n-i)*27 by rw[jA,jB,<-hnl,Bj]);have M3:=ab (show∀j v,((dI l).f (i*27))[j]? = some v->w.drew.b ((⟨g,i*27,none⟩:aS).add j)=some v from fun j v hv=>by
  show w.b _=_;rw[iC,sV w g _ cur _ _ hg];rw[iZ]at hv;rw[<-ht,jd]at hv;split at hv
  ·rw[dD]at hv;exact hv
  ·cases hv)
 have M4:=ab (show(i+1)*27+((dI l).f (i*27)).a<=cur.j by rw[M2.i,hcs];have:=cZ 27 hc;have:=Bj n i 27;have:=cZ 27 (mH hi);omega);have M5:=ab (show∀v∈(dI l).f (i*27),v.h=true from fun v hv=>Dg l v (List.mem_of_mem_drop hv));clear hnl hg h2 ht hcs;go_enter Tryz.func141,Tryz.ntmps141;go_wp2_with fail;clear hov;have a1:IntKind.i64.wrap ((i:Int)+1)=(i:Int)+1:=IntWalk.i64_in _ (by omega);have a2:(0:Int)<=(i:Int)+1:=by omega
 have a3:(i:Int)+1<=(n:Int)+1:=by omega
 have a4:((i:Int)+1).e=i+1:=by omega
 have a5:¬c=i+1:=by omega
 have a6:¬c=i:=by omega
 have a7:(i:Int)<=(n:Int)+1:=by omega
 go_region_law (refine IE rfl (.a 73) (.a 76) _ _ rfl 62 27 iY SZ.i g ((i+1)*27) (n-i) (c-(i+1)) ⟨g,i*27,none⟩ (n+1-i) (c-i) (by kernel_rfl) (by kernel_rfl) cur _ HG.i ((dI l).f (i*27)) (n-i) M1.i M2.i M3.i M4.i M5.i ?_;intro w1 hw1;have HW1:=ab hw1;clear hw1);clear a1 a2 a3 a4 a5 a6 a7;obtain⟨uy,hc1⟩:∃uy:Array aB,uy=(splice cur.a ((i+1)*27) ((dI l).f (i*27))).c:=⟨_,rfl⟩
 have G1:=ab (show w1.a[g]? = some (.D uy 62 (0,0))by rw[HW1.i,hc1];exact rH w.drew g cur _ _ _ HG.i);have G2:=ab (show w1.a[g2]? = some (.D x.ay 62 (0,0))by rw[HW1.i,oJ w.drew g g2 _ (fun e=>hne e.symm)];exact H2.i);have G3:=ab (show w.grownBy w1 (some g)by rw[HW1.i];exact⟨rfl,rfl,rfl,by simp[rW],fun k hk hkg=>oJ w.drew g k _ (fun e=>hkg (by rw[e]))⟩);have HC1:=ab hc1;clear hc1;have N1:=ab (show 1=qg 1 (n+1-i)from(ou (by omega)).symm);have N2:=ab (show x.ay.a.a=1*27 by rw[aY,Bk.G]);have N3:=ab (show∀j v,x.ay.a[j]? = some v->w1.b ((⟨g2,0,none⟩:aS).add j)=some v from fun j v hv=>by
  rw[iC,sV w1 g2 _ x.ay _ _ G2.i,bl]
  rwa [dD]at hv)
 have hs1:uy.j=c*27:=by
  rw[HC1.i,dK,vW _ _ _ (by rw[aY];exact M4.i),aY,HCS.i]
 have N4:=ab (show i*27+x.ay.a.a<=uy.j by rw[N2.i,hs1];have:=cZ 27 hc;have:=cZ 27 (mH hi);omega);have N5:=ab (show∀v∈x.ay.a,v.h=true from fun v hv=>fU.1 (Bk.cK x) v (by simpa using hv));have SI:=ab hs1;clear hs1;go_wp2_with (refine Eu rfl (.a 80) (.a 81) _ _ rfl 62 27 iY SZ.i g (i*27) (n+1-i) (c-i) ⟨g2,0,none⟩ 1 1 rfl rfl uy _ G1.i x.ay.a 1 N1.i N2.i N3.i N4.i N5.i ?_;intro w2 hw2;have HW2:=ab hw2;clear hw2);go_ret;have hln:=xZ l i x;rw[<-HN.i]at hln;refine⟨some ⟨g,0,none⟩,c,by rw[hln];rfl,?_,?_⟩
 ·rw[hln]
  refine⟨by rw[jB,hln],.b ⟨g,c,(splice uy.a (i*27) x.ay.a).c,rfl,hb,?_,hc,by unfold maxLen;omega,?_,?_⟩⟩
  ·rw[HW2.i];exact rH w1 g uy _ _ _ G1.i
  ·rw[dK,vW _ _ _ (by rw[aY];exact N4.i),aY,SI.i]
  ·rw[IX l i x (by rw[<-HN.i];omega),HC1.i]
   have hx:=HT.i;have hcl:=jB l;rw[<-HN.i]at hcl;have:=aiR cur.a (dI l) x.ay.a (i*27) 27 (by rw[hcl];exact hx) (by rw[hcl];omega) (by rw[aY,Bk.G]) (by rw[hcl,aY,HCS.i];omega);rw[hcl]at this;rw[show(n+1)*27=n*27+27 by omega];rw[show(i+1)*27=i*27+27 by omega];exact this
 ·rw[HW2.i]
  refine Mq G3.i ⟨rfl,rfl,rfl,by simp[rW],fun k hk hkg=>oJ w1 g k _ (fun e=>hkg (by rw[e]))⟩
theorem afy(l:List Bk)(x:Bk)(i:Nat)(hi:i<l.a)(base g c:Nat)(cur:Array aB)(w:ak)(hbase:base<=w.a.j)(hg:w.a[g]? = some (.D cur 62 (0,0)))(hc:c<l.a+1)(hlc:l.a<=c)(hcs:cur.j=c*27)
 (ht:cur.a.d (l.a*27)=dI l) (g2:Nat) (h2:w.a[g2]? = some (.D x.ay 62 (0,0))) (hn:l.a<=100000) :
 aQ ah 141 #[.a (some ⟨g,0,none⟩) l.a c,.b .a i,.a (some ⟨g2,0,none⟩) 1 1] w (adg base w (some g) (zJ l i x)):=by
 obtain⟨n,hnl⟩:=dw l.a;rw[<-hnl]at hi hc hlc hn ht ⊢;have HN:=ab hnl;have HG:=ab hg;have H2:=ab h2;have HT:=ab ht;have HCS:=ab hcs;obtain⟨i0,hi0,hz0,hz1,hzb⟩:=OQ;have HI0:=ab hi0;have HZ0:=ab hz0;have HZ1:=ab hz1;have HZ2:=ab (show(bY jk.ay).D.j=27 by simp[cO,Bk.G]);have SZ:=ab (show(ah.l 62).map (·.j)=some 27 by kernel_rfl);have hcl:=jB l;rw[<-hnl]at hcl;have HX:=ab (show aI .a ((n:Int)+1-i)=.b .a ((n+1-i:Nat):Int)by congr 1;omega);have L1:=ab (show((dI l).d (i*27)).a=i*27 by rw[bJ,hcl];omega);have L2:=ab (show∀j u,((dI l).d (i*27))[j]? = some u->w.b ((⟨g,0,none⟩:aS).add j)=some u from fun j v hv=>by
  rw[iC,sV w g _ cur _ _ hg,bl];rw[jd]at hv;split at hv
  ·rw[<-ht,jd]at hv
   split at hv
   ·rw[dD]at hv;exact hv
   ·cases hv
  ·cases hv)
 have L3:=ab (show 0<n+1-i by omega);have L4:=ab (show c<i+(n+1-i)by omega);have L5:=ab (show i+(n+1-i)<=maxLen by unfold maxLen;omega);have L6:=ab (show(i+(n+1-i))*i0.bytes<=140737488355328 from aO (gG (show i+(n+1-i)<=100001 by omega) hzb) (by omega));have M1:=ab (show n-i=qg (n-i) (n-i)from(Nat.min_self _).symm);have M2:=ab (show((dI l).f (i*27)).a=(n-i)*27 by rw[jA,hcl,Bj]);have M5:=ab (show∀v∈(dI l).f (i*27),v.h=true from fun v hv=>Dg l v (List.mem_of_mem_drop hv));have N1:=ab (show 1=qg 1 (n+1-i)from(ou (by omega)).symm);have N2:=ab (show x.ay.a.a=1*27 by rw[aY,Bk.G]);have N5:=ab (show∀v∈x.ay.a,v.h=true from fun v hv=>fU.1 (Bk.cK x) v (by simpa using hv));have HCL:=ab hcl;have EN:=ab (show i+(n+1-i)=n+1 by omega);have hgl:g<w.a.j:=(bV.1 hg).1;have aCo:g2<w.a.j:=(bV.1 h2).1;clear hnl hg h2 ht hcs hi0 hz0 hz1 hcl;go_enter Tryz.func141,Tryz.ntmps141;go_wp2_with (first
  | (refine OT rfl (.a 34) (.a 39) _ _ rfl 62 i0 (.d jk.ay) 27 .a .a iY Tryz.underlying3 HI0.i HZ0.i HZ1.i HZ2.i ⟨g,0,none⟩ i c rfl (n+1-i) HX.i ((dI l).d (i*27)) L1.i L2.i L3.i (lH _) L4.i L5.i L6.i ?_
     rw[EN.i];intro c' uy w1 hc1 hc2 hc3 hc4 hc5 hc6;have C2:=ab hc2;have C3:=ab hc3;have C4:=ab hc4;have C6:=ab hc6;have G1:=ab (show w1.a[w.a.j]? = some (.D uy 62 (0,0))from hc5);have Gx:=ab (show w1.a[g2]? = some (.D x.ay 62 (0,0))from(hc6.block g2 aCo).trans H2.i);have Gg:=ab (show w1.a[g]? = some (.D cur 62 (0,0))from(hc6.block g hgl).trans HG.i);have N3:=ab (aaR w1 g2 x.ay _ _ Gx.i);have N4:=ab (show i*27+x.ay.a.a<=uy.j by rw[N2.i,C3.i];have:=cZ 27 hc1;omega);clear hc2 hc3 hc4 hc5 hc6)
  | (refine Eu rfl (.a 43) (.a 44) _ _ rfl 62 27 iY SZ.i w.a.j (i*27) (n+1-i) (c'-i) ⟨g2,0,none⟩ 1 1 rfl rfl uy _ G1.i x.ay.a 1 N1.i N2.i N3.i N4.i N5.i ?_
     intro w2 hw2;have HW2:=ab hw2;clear hw2))
 obtain⟨Ve,hc2⟩:∃Ve:Array aB,Ve=(splice uy.a (i*27) x.ay.a).c:=⟨_,rfl⟩
 have K1:=ab (show w2.drew.a[w.a.j]? = some (.D Ve 62 (0,0))by rw[HW2.i,hc2];exact rH w1 w.a.j uy _ _ _ G1.i);have Kg:=ab (show w2.a[g]? = some (.D cur 62 (0,0))by rw[HW2.i,oJ w1 w.a.j g _ (by omega)];exact Gg.i);have KB:=ab (show aL w.a.j w w2 by rw[HW2.i];exact C6.i.trans ⟨rfl,rfl,rfl,by simp[rW],fun k hk=>oJ w1 w.a.j k _ (by omega)⟩);have hs2:Ve.j=c'*27:=by
  rw[hc2,dK,vW _ _ _ (by rw[aY];exact N4.i),aY,C3.i]
 have M3:=ab (show∀j v,((dI l).f (i*27))[j]? = some v->w2.drew.b ((⟨g,i*27,none⟩:aS).add j)=some v from fun j v hv=>by
  show w2.b _=_;rw[iC,sV w2 g _ cur _ _ Kg.i];rw[iZ]at hv;rw[<-HT.i,jd]at hv;split at hv
  ·rw[dD]at hv;exact hv
  ·cases hv)
 have M4:=ab (show(i+1)*27+((dI l).f (i*27)).a<=Ve.j by rw[M2.i,hs2];have:=cZ 27 hc1;have:=Bj n i 27;have:=cZ 27 (mH hi);omega);have HC2:=ab hc2;have HS2:=ab hs2;clear hc2 hs2;have a5:¬c'=i+1:=by omega
 have a6:¬c=i:=by omega
 have a7:(i:Int)<=(n:Int):=by omega
 have a2:(0:Int)<=(i:Int)+1:=by omega
 have a3:(i:Int)+1<=(n:Int)+1:=by omega
 have a4:((i:Int)+1).e=i+1:=by omega
 have a1:IntKind.i64.wrap ((i:Int)+1)=(i:Int)+1:=IntWalk.i64_in _ (by omega);go_region_law (refine IE rfl (.a 50) (.a 53) _ _ rfl 62 27 iY SZ.i w.a.j ((i+1)*27) (n-i) (c'-(i+1)) ⟨g,i*27,none⟩ (n-i) (c-i) (by kernel_rfl) (by kernel_rfl) Ve _ K1.i ((dI l).f (i*27)) (n-i) M1.i M2.i M3.i M4.i M5.i ?_;intro w3 hw3;have HW3:=ab hw3;clear hw3);clear a1 a2 a3 a4 a5 a6 a7;go_wp2_with fail;go_ret;have hln:=xZ l i x;rw[<-HN.i]at hln;refine⟨some ⟨w.a.j,0,none⟩,c',by rw[hln];rfl,?_,?_⟩
 ·rw[hln]
  refine⟨by rw[jB,hln],.b ⟨w.a.j,c',(splice Ve.a ((i+1)*27) ((dI l).f (i*27))).c,rfl,hbase,?_,hc1,C2.i,?_,?_⟩⟩
  ·rw[HW3.i];exact rH w2.drew w.a.j Ve _ _ _ K1.i
  ·rw[dK,vW _ _ _ (by rw[aY];exact M4.i),aY,HS2.i]
  ·rw[IX l i x (by rw[<-HN.i];omega),HC2.i]
   have:=ao9 uy.a (dI l) x.ay.a (i*27) 27 C4.i (by rw[HCL.i];omega) (by rw[aY,Bk.G]) (by rw[HCL.i,aY,C3.i];omega);rw[HCL.i]at this;rw[show(n+1)*27=n*27+27 by omega,show(i+1)*27=i*27+27 by omega];exact this
 ·rw[HW3.i]
  have hb:=KB.i;exact⟨hb.os,hb.tape,hb.output,by have:=hb.j;simpa[rW]using this,fun k hk hkg=>(oJ w2.drew w.a.j k _ (by omega)).trans (hb.block k hk)⟩
theorem ai6(l:List Bk)(x:Bk):dI (zJ l l.a x)=dI l++x.ay.a:=by
 rw[IX l l.a x (av _),aK (by rw[jB];omega),iR (by rw[jB];omega),List.append_nil]
theorem Vf(l:List Bk)(x:Bk)(base c:Nat)(A:Option aS)(w:ak)(hbase:base<=w.a.j)(hown:w.c base 62 27 (.a A l.a c) l.a (dI l))(hlc:l.a<=c)(g2:Nat)(h2:w.a[g2]? = some (.D x.ay 62 (0,0)))(hn:l.a<=100000):
 aQ ah 141 #[.a A l.a c,.b .a l.a,.a (some ⟨g2,0,none⟩) 1 1] w (adg base w (bC A l.a c).ownBlock (zJ l l.a x)):=by
 have hln:=xZ l l.a x;have hce:=ai6 l x;obtain⟨n,hnl⟩:=dw l.a;rw[<-hnl]at hln hce hn hlc hown ⊢;obtain⟨m,hm⟩:=dw (zJ l n x);rw[<-hm]at hln hce ⊢;have HLN:=ab hln;have HCE:=ab hce;have HO:=ab hown;obtain⟨i0,hi0,hz0,hz1,hzb⟩:=OQ;have HI0:=ab hi0;have HZ0:=ab hz0;have HZ1:=ab hz1;have HZ2:=ab (show(bY jk.ay).D.j=27 by simp[cO,Bk.G]);have L5:=ab (show n+1<=maxLen by unfold maxLen;omega);have L6:=ab (show(n+1)*i0.bytes<=140737488355328 from aO (gG (show n+1<=100001 by omega) hzb) (by omega));have HR:=ab (show Rd w (g2+1) 27 (some ⟨g2,0,none⟩) 1 x.ay.a from⟨by rw[aY,Bk.G],fun _=>⟨_,rfl,mG _,aaR w g2 x.ay _ _ h2⟩⟩);have N5:=ab (show∀v∈x.ay.a,v.h=true from fun v hv=>fU.1 (Bk.cK x) v (by simpa using hv));clear hnl hm hln hce hown hi0 hz0 hz1 h2;have hnn:((n:Int)==(n:Int))=true:=by simp
 go_enter Tryz.func141,Tryz.ntmps141;go_wp2_with (refine ji _ rfl (.a 23) (.a 24) _ rfl base 62 i0 (.d jk.ay) 27 i0.bytes iY HI0.i HZ0.i HZ1.i rfl HZ2.i (lH _) (.a A n c) n (dI l) rfl HO.i (g2+1) (some ⟨g2,0,none⟩) 1 1 x.ay.a rfl HR.i N5.i L5.i L6.i hbase ?_;intro v1 w1 hown1 hg1 wJ;have O1:=ab hown1;have GR:=ab hg1;clear hown1 hg1 wJ)
 all_goals
  go_ret;obtain⟨A',c',rfl,_,_⟩:=jG O1.i;refine⟨A',c',by rw[HLN.i];rfl,?_,by have:=GR.i;cases A<;>exact this⟩;rw[HLN.i,HCE.i];exact O1.i
def apw(base:Nat)(w:ak)(A:Option aS)(c:Nat)(l:List Bk)(g2:Nat)(x:Bk):Prop:=
 w.c base 62 27 (.a A l.a c) l.a (dI l)/\w.a[g2]? = some (.D x.ay 62 (0,0))/\(∀g,A=some g->g.block≠g2)/\base<=w.a.j/\l.a<=100000
theorem afA(l:List Bk)(x:Bk)(i:Nat)(hi:i<=l.a)(base c g2:Nat)(A:Option aS)(w:ak)(h:apw base w A c l g2 x):
 aQ ah 141 #[.a A l.a c,.b .a i,.a (some ⟨g2,0,none⟩) 1 1] w (adg base w (bC A l.a c).ownBlock (zJ l i x)):=by
 obtain⟨hown,h2,hne,hb,hn⟩:=h;have hown':=hown;rcases hown.2 with⟨hv,h0⟩|⟨g,cap,cur,hv,hbg,hg,hnc,hcm,hcs,htake⟩
 ·injection hv with e1 e2 e3
  subst e1 e3;obtain rfl:i=l.a:=by omega
  exact Vf l x base 0 none w hb hown (by omega) g2 h2 hn
 ·injection hv with e1 e2 e3
  subst e1 e3;rcases aZ i l.a with h1|h1
  ·rcases aZ c (l.a+1)with h3|h3
   ·exact afy l x i h1 base g c cur w hb hg h3 hnc hcs htake g2 h2 hn
   ·exact aaS l x i h1 base g c cur w hbg hg h3 hcm hcs htake g2 h2 (hne _ rfl) hn
  ·obtain rfl:i=l.a:=by omega
   exact Vf l x base c _ w hb hown hnc g2 h2 hn
def Ey(l:List Bk)(i:Nat):List Bk:=l.d i++l.f (i+1)
theorem MW(l:List Bk)(i:Nat)(hi:i<l.a):(Ey l i).a=l.a-1:=by
 simp[Ey];omega
theorem QE(l:List Bk)(i:Nat)(hi:i<l.a):dI (Ey l i)=(dI l).d (i*27)++(dI l).f (i*27+27):=by
 rw[Ey,xY,MS l i (by omega),MV l (i+1) (by omega),show(i+1)*27=i*27+27 by omega]
theorem afB(l:List Bk)(i:Nat)(hi:i<l.a)(base g c:Nat)(cur:Array aB)(w:ak)(hb:base<=g)(hg:w.a[g]? = some (.D cur 62 (0,0)))(hc:l.a<=c)(hcm:c<=maxLen)(hcs:cur.j=c*27)
 (ht:cur.a.d (l.a*27)=dI l) (hn:l.a<=100000) :
 aQ ah 142 #[.a (some ⟨g,0,none⟩) l.a c,.b .a i,.b .a ((i:Int)+1)] w (adg base w (some g) (Ey l i)):=by
 have hln:=MW l i hi;have hcl:=jB l;unfold maxLen at hcm;obtain⟨n,hnl⟩:=dw l.a;rw[<-hnl]at hi hc hn ht hln hcl ⊢;have HN:=ab hnl;have HG:=ab (show w.drew.a[g]? = some (.D cur 62 (0,0))from hg);have HT:=ab ht;have HCS:=ab hcs;have HLN:=ab hln;have HCL:=ab hcl;obtain⟨i0,hi0,hz0,hz1,hzb⟩:=OQ;have HI0:=ab hi0;have HZ0:=ab hz0;have HZ1:=ab hz1;have HZ2:=ab (show(bY jk.ay).D.j=27 by simp[cO,Bk.G]);have HZ3:=ab (show(bY jk.ay).D.all (·.h)=true from Bk.cK jk);have M2:=ab (show((dI l).f (i*27+27)).a=(n-(i+1))*27 by rw[jA,hcl,Bj];omega);have M3:=ab (show∀j v,((dI l).f (i*27+27))[j]? = some v->w.drew.b ((⟨g,(i+1)*27,none⟩:aS).add j)=some v from fun j v hv=>by
  show w.b _=_;rw[iC,sV w g _ cur _ _ hg,show(i+1)*27=i*27+27 by omega];rw[iZ]at hv;rw[<-ht,jd]at hv;split at hv
  ·rw[dD]at hv;exact hv
  ·cases hv)
 have M4:=ab (show i*27+((dI l).f (i*27+27)).a<=cur.j by rw[M2.i,hcs];have:=cZ 27 hc;have:=Bj n (i+1) 27;omega);have M5:=ab (show∀v∈(dI l).f (i*27+27),v.h=true from fun v hv=>Dg l v (List.mem_of_mem_drop hv));have M6:=ab (show i+(n-(i+1))<=c by omega);have EN:=ab (show i+(n-(i+1))=n-1 by omega);have M7':=ab (show c=i+1->Hid (∀j v,((dI l).f (i*27+27))[j]? = some v->w.drew.b ((⟨g,0,none⟩:aS).add j)=some v)from fun h=>ab fun j v hv=>by
  have hz:(dI l).f (i*27+27)=[]:=bE (by rw[M2.i,show n-(i+1)=0 by omega,Nat.zero_mul]);rw[hz]at hv;simp at hv)
 have HN1:=ab (show 1<=n by omega);clear hnl hg ht hcs hi0 hz0 hz1 hcl hln;have b1:(i:Int)<=n:=by omega
 have b2:(i:Int)+1<=n:=by omega
 go_enter Tryz.func142,Tryz.ntmps142;go_wp2_with fail;by_cases hci:c=i+1;rotate_left
 ·have a4:((i:Int)+1).e=i+1:=by omega
  have a2:(0:Int)<=(i:Int)+1:=by omega
  have a8:¬c=i:=by omega
  have a9:(i:Int)<=c:=by omega
  go_region_law (refine KW rfl (.a 22) (.a 25) _ rfl 62 i0 27 iY HI0.i HZ1.i g i c ⟨g,(i+1)*27,none⟩ (n-(i+1)) (c-(i+1)) (by kernel_rfl) (by kernel_rfl) cur HG.i ((dI l).f (i*27+27)) M2.i M3.i M5.i M6.i M4.i ?_;intro w1 hw1;rw[EN.i];have HW1:=ab hw1;clear hw1);clear a2 a4 a8 a9;obtain⟨uy,hc1⟩:∃uy:Array aB,uy=(splice cur.a (i*27) ((dI l).f (i*27+27))).c:=⟨_,rfl⟩
  have G1:=ab (show w1.a[g]? = some (.D uy 62 (0,0))by rw[HW1.i,hc1];exact rH w.drew g cur _ _ _ HG.i);have hs1:uy.j=c*27:=by
   rw[hc1,dK,vW _ _ _ (by rw[aY];exact M4.i),aY,HCS.i]
  have E1:=ab (show 0<n-(n-1)by have:=HN1.i;omega);have E2:=ab (show(n-1)*27+(n-(n-1))*27<=uy.j by rw[hs1,show n-(n-1)=1 by have:=HN1.i;omega];have:=HN1.i;omega);have HC1:=ab hc1;have SI:=ab hs1;clear hc1 hs1;go_wp2_with (refine Ev rfl (.a 31) _ rfl 62 i0 (.d jk.ay) 27 iY HI0.i HZ0.i HZ2.i HZ3.i g ((n-1)*27) (n-(n-1)) (c-(n-1)) rfl E1.i uy _ G1.i E2.i ?_;intro w2 zs hzs hw2;have HW2:=ab hw2;have HZS:=ab hzs;clear hw2 hzs);go_ret;refine⟨some ⟨g,0,none⟩,c,by rw[HLN.i];rfl,?_,?_⟩
  ·rw[HLN.i]
   refine⟨by rw[jB,HLN.i],.b ⟨g,c,(splice uy.a ((n-1)*27) zs).c,rfl,hb,?_,by omega,by unfold maxLen;omega,?_,?_⟩⟩
   ·rw[HW2.i];exact rH w1 g uy _ _ _ G1.i
   ·rw[dK,vW _ _ _ (by rw[aY];have h1:=HZS.i;have h2:=E2.i;first|(rw[h1];exact h2)|(simp only[dK,h1];exact h2)),aY,SI.i]
   ·rw[QE l i (by rw[<-HN.i];exact hi)]
    have h1:=YC cur.a (dI l) (i*27) 27 (by rw[HCL.i];exact HT.i) (by rw[HCL.i];omega);have hcu:uy.a=splice cur.a (i*27) ((dI l).f (i*27+27)):=by rw[HC1.i]
    rw[HCL.i,show n*27-27=(n-1)*27 by omega,<-hcu]at h1;show List.take ((n-1)*27) (splice uy.a ((n-1)*27) zs)=_;rw[splice,gu (by rw[bJ,aY,SI.i];omega),vV,Nat.min_self];exact h1
  ·rw[HW2.i]
   have hG:w.grownBy w1 (some g):=by rw[HW1.i];exact⟨rfl,rfl,rfl,by simp[rW],fun k hk hkg=>oJ w.drew g k _ (fun e=>hkg (by rw[e]))⟩
   refine Mq hG ⟨rfl,rfl,rfl,by simp[rW],fun k hk hkg=>oJ w1 g k _ (fun e=>hkg (by rw[e]))⟩
 ·have M3:=M7'.i hci
  have HCI:=ab hci;have a0:(c=i+1)=True:=by simpa using hci
  clear hci;have a4:((i:Int)+1).e=i+1:=by omega
  have a2:(0:Int)<=(i:Int)+1:=by omega
  have a8:¬c=i:=by have:=HCI.i;omega
  have a9:(i:Int)<=c:=by omega
  go_region_law (refine KW rfl (.a 22) (.a 25) _ rfl 62 i0 27 iY HI0.i HZ1.i g i c ⟨g,0,none⟩ (n-(i+1)) (c-(i+1)) (by kernel_rfl) (by kernel_rfl) cur HG.i ((dI l).f (i*27+27)) M2.i M3.i M5.i M6.i M4.i ?_;intro w1 hw1;rw[EN.i];have HW1:=ab hw1;clear hw1);clear a2 a4 a8 a9;obtain⟨uy,hc1⟩:∃uy:Array aB,uy=(splice cur.a (i*27) ((dI l).f (i*27+27))).c:=⟨_,rfl⟩
  have G1:=ab (show w1.a[g]? = some (.D uy 62 (0,0))by rw[HW1.i,hc1];exact rH w.drew g cur _ _ _ HG.i);have hs1:uy.j=c*27:=by
   rw[hc1,dK,vW _ _ _ (by rw[aY];exact M4.i),aY,HCS.i]
  have E1:=ab (show 0<n-(n-1)by have:=HN1.i;omega);have E2:=ab (show(n-1)*27+(n-(n-1))*27<=uy.j by rw[hs1,show n-(n-1)=1 by have:=HN1.i;omega];have:=HN1.i;omega);have HC1:=ab hc1;have SI:=ab hs1;clear hc1 hs1;go_wp2_with (refine Ev rfl (.a 31) _ rfl 62 i0 (.d jk.ay) 27 iY HI0.i HZ0.i HZ2.i HZ3.i g ((n-1)*27) (n-(n-1)) (c-(n-1)) rfl E1.i uy _ G1.i E2.i ?_;intro w2 zs hzs hw2;have HW2:=ab hw2;have HZS:=ab hzs;clear hw2 hzs);go_ret;refine⟨some ⟨g,0,none⟩,c,by rw[HLN.i];rfl,?_,?_⟩
  ·rw[HLN.i]
   refine⟨by rw[jB,HLN.i],.b ⟨g,c,(splice uy.a ((n-1)*27) zs).c,rfl,hb,?_,by omega,by unfold maxLen;omega,?_,?_⟩⟩
   ·rw[HW2.i];exact rH w1 g uy _ _ _ G1.i
   ·rw[dK,vW _ _ _ (by rw[aY];have h1:=HZS.i;have h2:=E2.i;first|(rw[h1];exact h2)|(simp only[dK,h1];exact h2)),aY,SI.i]
   ·rw[QE l i (by rw[<-HN.i];exact hi)]
    have h1:=YC cur.a (dI l) (i*27) 27 (by rw[HCL.i];exact HT.i) (by rw[HCL.i];omega);have hcu:uy.a=splice cur.a (i*27) ((dI l).f (i*27+27)):=by rw[HC1.i]
    rw[HCL.i,show n*27-27=(n-1)*27 by omega,<-hcu]at h1;show List.take ((n-1)*27) (splice uy.a ((n-1)*27) zs)=_;rw[splice,gu (by rw[bJ,aY,SI.i];omega),vV,Nat.min_self];exact h1
  ·rw[HW2.i]
   have hG:w.grownBy w1 (some g):=by rw[HW1.i];exact⟨rfl,rfl,rfl,by simp[rW],fun k hk hkg=>oJ w.drew g k _ (fun e=>hkg (by rw[e]))⟩
   refine Mq hG ⟨rfl,rfl,rfl,by simp[rW],fun k hk hkg=>oJ w1 g k _ (fun e=>hkg (by rw[e]))⟩
def aaT(w:ak)(l:List Bk)(e:lq)(w':ak):Prop:=
 ∃A c,e=.a (.a A l.a c)/\w'.c w.a.j 62 27 (.a A l.a c) l.a (dI l)/\aL w.a.j w w'
theorem xL(l:List Bk)(A:Option aS)(c:Nat)(w:ak)(hR:FL w w.a.j A l.a l)(hn:l.a<=100000):
 aQ ah 61 #[.a A l.a c] w (aaT w l):=by
 cases A with
 | some a=>exact acV l a c w hR (by omega)
 | none=>
   have h0:l.a=0:=by
    rcases dY l.a with h0|h0
    ·exact h0
    ·obtain⟨a,ha,_⟩:=hR.2.1.2 h0;cases ha
   have hl:l=[]:=bE h0;subst hl;have hnil:∀W:ak,(binOp .eql 30 (.a none 0 c) (.a none 0 0)).I ah W=.ok (.bool true) W:=fun W=>by
    simp only[binOp];simp[run_equal_slice_nil,iY]
   have fin:aaT w [] (.a (.a none 0 0)) w:=⟨none,0,rfl,eY _ _ _ _,aH _ _⟩
   have FIN:=ab fin;clear fin;clear hR;simp only[List.length_nil];go_enter Tryz.func61,Tryz.ntmps61;go_wp2;go_ret;exact FIN.i
theorem oF{w:ak}{base:Nat}{l:List Bk}{A:Option aS}{c:Nat}(h:w.c base 62 27 (.a A l.a c) l.a (dI l)):FL w w.a.j A l.a l:=
 ⟨rfl,Rd.gU h,fun a ha _=>by
  rcases h.2 with⟨hv,h0⟩|⟨g,cap,cur,hv,_⟩
  ·injection hv with e1 _ _
   rw[e1]at ha;cases ha
  ·injection hv with e1 _ _
   rw[e1]at ha;injection ha with ha
   rw[<-ha]⟩
theorem IY(l:List Bk)(k:Nat)(hk:k<l.a)(y:Bk)(j:Nat)(hj:j<27)(u:aB)(h:y.ay=(l.b k jk).ay.setIfInBounds j u):(dI l).set (k*27+j) u=dI (l.set k y):=by
 have hs:=Bk.G (l.b k jk);have hlen:=jB l;have Vg:=jB (l.set k y);rw[aV]at Vg;apply List.ext_getElem?;intro i;rcases aZ i (l.a*27)with h1|h1
 ·have e1:i=i/27*27+i%27:=by omega
  have h2:i/27<l.a:=by omega
  have h3:i%27<27:=fE _ (by omega);have g1:=Iz l (i/27) (i%27) h2 h3;have g2:=Iz (l.set k y) (i/27) (i%27) (by rw[aV];exact h2) h3;rw[<-e1]at g1 g2;rw[g2,List.getElem?_set,hlen];by_cases h4:i/27=k
  ·have e2:(l.set k y).b (i/27) jk=y:=by
    rw[au,h4,List.getElem?_set_self hk];rfl
   rw[e2,h,Array.getElem?_setIfInBounds,hs];by_cases h5:j=i%27
   ·have:k*27+j=i:=by omega
    simp[h5,h3];rw[if_pos (by omega),if_pos (by omega)]
   ·have:¬k*27+j=i:=by omega
    rw[if_neg this,if_neg h5,g1,h4]
  ·have e2:(l.set k y).b (i/27) jk=l.b (i/27) jk:=by
    rw[au,au,List.getElem?_set_ne (fun e=>h4 e.symm)]
   have:¬k*27+j=i:=by omega
   rw[if_neg this,e2,g1]
 ·rw[aT (by rw[aV,hlen];exact h1),aT (by rw[Vg];exact h1)]
theorem aaU{v:Int}{l:List Bk}{o:qM}(h:qm v l o=0):1<=o.kind/\o.kind<=5/\v<1099511627776/\(o.kind=1->o.h.Br=true/\rE l o.h.E=false/\l.a<1024)/\(o.kind=3->XG o.w=true)/\(o.kind≠1->rE l o.E=true):=by
 unfold qm at h
 repeat' split at h
 all_goals first|(exact absurd h (by decide))|skip
 rename_i h1 h2 h3 h4 h5 h6 h7 h8 h9 h10;refine⟨by omega,by omega,by omega,fun hk=>⟨?_,?_,?_⟩,fun hk=>?_,fun hk=>?_⟩
 ·simpa[hk]using h3
 ·simpa[hk,qM.who]using h5
 ·simp[hk]at h6;omega
 ·simpa[hk]using h4
 ·simpa[hk,qM.who]using h7
def Pn(l:List Bk)(o:qM):List Bk:=
 if o.kind=1 then zJ l (kG l o.h.E) (o.h.Oo (kI o.h.w))
 else if o.kind=2 then Ey l (kG l o.E)
 else if o.kind=3 then l.set (kG l o.E) ((oM l o.E).Oo (kI o.w))
 else l.set (kG l o.E) ((oM l o.E).toD (o.kind==4))
def Vh(w:ak)(v:Int)(l:List Bk)(er:Int)(e:lq)(w':ak):Prop:=
 ∃A c,e=.a (.J #[.d #[.b .a v,.a A l.a c],.b .a er])/\w'.c w.a.j 62 27 (.a A l.a c) l.a (dI l)/\aL w.a.j w w'
theorem Ez{fn:Func}{p u:Tmp}(h:fn.results = #[.cell p 32,.a u])(tmps:Array aB)(W:ak)(b o:Nat)(hp:tmps.b p undef=.pointer (some ⟨b,o,none⟩))(hh:xJ W b o 2):
 (results fn tmps).I ah W=.ok (.J #[.d (eu W b o 2),tmps.b u undef]) W:=by
 have hl:=kg W b o 2 _ _ Tryz.underlying32 rfl (by kernel_rfl) hh;simp only[bZ,Instr.sureAddr,Sem.run_bind,Sem.run_pure,Result.andThen_ok]at hl;rw[results_cell_tmp h,hp];simp[asAddr,Result.andThen,hl]
theorem atq(l:List Bk)(hs:Es l)(v:Int)(o:qM)(hf:o.h.rF)(hw:o.w<18446744073709551616)(Bw:qm v l o≠0)(A:Option aS)(c:Nat)(w:ak)(hR:FL w w.a.j A l.a l)(hn:l.a<=100000):
 aQ ah 71 #[.d #[.b .a v,.a A l.a c],.d o.ay] w (Vh w v l (qm v l o)):=by
 have HS:=ab hs;have HR1:=ab (fun ob ug GJ=>(((hR.alloc (av _) ob).alloc (by simp) ug).alloc (by simp;omega) GJ).lD (B':=(((w.alloc ob).alloc ug).alloc GJ).a.j) (by simp;omega));have HB0:=ab (fun ob ug GJ=>((((aH w.a.j w).alloc (av _) ob).alloc (by simp) ug).alloc (by simp;omega) GJ:aL w.a.j w (((w.alloc ob).alloc ug).alloc GJ)));obtain⟨K,hK⟩:=sH (qm v l o);have Oq:=fun A c W (hR:FL W W.a.j A l.a l)=>JW l hs v o hf hw A c W hR (by omega)
 rw[hK]at Bw Oq ⊢;have MX:=ab Oq;clear hR hs Oq hK;have hk0:(K != 0)=true:=by simpa using Bw
 clear Bw;go_enter Fb,Co;go_wp2_with fail;refine(xL l A c _ (HR1.i _ _ _) hn).g ?_;rintro e w1 ⟨A1,c1,rfl,ho1,hb1⟩;have b0:=(((dJ.new w _ _).alloc _).alloc _).S hb1 (by simp;omega);have b1:=((dJ.Ud w _ _ _).alloc _).S hb1 (by simp);have b2:=(dJ.ais w _ _ _ _).S hb1 (by simp);have hz1:w.a.j+2<w1.a.j:=b2.lt;have O1:=ab (iG ho1 (show w.a.j+3<=_ by simp));have HB1:=ab ((HB0.i _ _ _).trans (hb1.g (by simp;omega)));clear ho1 hb1;obtain⟨x1,x2,x3,x4⟩:=b0.K;obtain⟨y1,y2,y3,y4⟩:=b1.K;have B0:=ab b0;have B1:=ab b1;have B2:=ab b2;clear b0 b1 b2;go_wp2_with fail;refine(MX.i A1 c1 _ (oF (jK O1.i (by simp) _))).g ?_;rintro e w2 ⟨rfl,hb2⟩;have hsz:(w1.F ⟨w.a.j,1,none⟩ (bC A1 l.a c1)).a.j=w1.a.j:=by simp[gY]
 have b0:=(B0.i.eH 1 (bC A1 l.a c1)).S hb2 (by rw[hsz];omega);have b2:=(B2.i.dM ⟨w.a.j,1,none⟩ (bC A1 l.a c1) (by simp)).S hb2 (by rw[hsz];omega);have O2:=ab (jo (jK O1.i (by simp) _) hb2);have HB2:=ab ((HB1.i.F (av _) _).trans (hb2.g (by rw[hsz];omega)));clear hb2 hsz x1 x2 x3 x4 y1 y2 y3 y4;obtain⟨x1,x2,x3,x4⟩:=b0.K;obtain⟨y1,y2,y3,y4⟩:=b2.K;have B0:=ab b0;have B2:=ab b2;clear b0 b2;go_wp2_with fail;have b2:=(B2.i.eH 0 (.b .a v)).eH 1 (.a A1 l.a c1);obtain⟨z1,z2,z3,z4⟩:=b2.K;have hZ:=z3 0 2 (av _);refine aN (Ez rfl _ _ _ _ rfl (by rw[hZ];trivial)) rfl ⟨A1,c1,?_,iG (jK (jK O2.i (by simp) _) (by simp) _) (by omega),(HB2.i.F (show w.a.j<=w.a.j+2 by omega) _).F (show w.a.j<=w.a.j+2 by omega) _⟩;rw[z4 0 2 (av _)];rfl
theorem apx(l:List Bk)(s:List UInt8):kG l s<=l.a:=by
 unfold kG;exact(List.takeWhile_sublist _).length_le
theorem atr(l:List Bk)(hs:Es l)(v:Int)(hv : -9223372036854775808<=v/\v<9223372036854775807)(o:qM)(hf:o.h.rF)(hw:o.w<18446744073709551616)(Bw:qm v l o=0)(h1:o.kind=1)(A:Option aS)(c:Nat)(w:ak)(hR:FL w w.a.j A l.a l)(hn:l.a<=100000):
 aQ ah 71 #[.d #[.b .a v,.a A l.a c],.d o.ay] w (Vh w (v+1) (zJ l (kG l o.h.E) (o.h.Oo (kI o.h.w))) 0):=by
 have HS:=ab hs;have HR1:=ab (fun ob ug GJ=>(((hR.alloc (av _) ob).alloc (by simp) ug).alloc (by simp;omega) GJ).lD (B':=(((w.alloc ob).alloc ug).alloc GJ).a.j) (by simp;omega));have HB0:=ab (fun ob ug GJ=>((((aH w.a.j w).alloc (av _) ob).alloc (by simp) ug).alloc (by simp;omega) GJ:aL w.a.j w (((w.alloc ob).alloc ug).alloc GJ)));have Oq:=fun A c W (hR:FL W W.a.j A l.a l)=>JW l hs v o hf hw A c W hR (by omega)
 rw[Bw]at Oq;have MX:=ab Oq;clear hR hs Oq Bw;obtain⟨hv1,hv2⟩:=hv;go_enter Fb,Co;go_wp2_with fail;refine(xL l A c _ (HR1.i _ _ _) hn).g ?_;rintro e w1 ⟨A1,c1,rfl,ho1,hb1⟩;have b0:=(((dJ.new w _ _).alloc _).alloc _).S hb1 (by simp;omega);have b1:=((dJ.Ud w _ _ _).alloc _).S hb1 (by simp);have b2:=(dJ.ais w _ _ _ _).S hb1 (by simp);have hz1:w.a.j+2<w1.a.j:=b2.lt;have O1:=ab (iG ho1 (show w.a.j+3<=_ by simp));have HB1:=ab ((HB0.i _ _ _).trans (hb1.g (by simp;omega)));clear ho1 hb1;obtain⟨x1,x2,x3,x4⟩:=b0.K;obtain⟨y1,y2,y3,y4⟩:=b1.K;have B0:=ab b0;have B1:=ab b1;have B2:=ab b2;clear b0 b1 b2;go_wp2_with fail;refine(MX.i A1 c1 _ (oF (jK O1.i (by simp) _))).g ?_;rintro e w2 ⟨rfl,hb2⟩;have hsz:(w1.F ⟨w.a.j,1,none⟩ (bC A1 l.a c1)).a.j=w1.a.j:=by simp[gY]
 have b0:=(B0.i.eH 1 (bC A1 l.a c1)).S hb2 (by rw[hsz];omega);have b1:=(B1.i.dM ⟨w.a.j,1,none⟩ (bC A1 l.a c1) (by simp)).S hb2 (by rw[hsz];omega);have b2:=(B2.i.dM ⟨w.a.j,1,none⟩ (bC A1 l.a c1) (by simp)).S hb2 (by rw[hsz];omega);have O2:=ab (jo (jK O1.i (by simp) _) hb2);have HB2:=ab ((HB1.i.F (av _) _).trans (hb2.g (by rw[hsz];omega)));have hz2:w.a.j+2<w2.a.j:=b2.lt;have apy:w.a.j+1<w2.a.j:=b1.lt;have apz:w.a.j<w2.a.j:=b0.lt;clear hb2 hsz x1 x2 x3 x4 y1 y2 y3 y4 hz1 HB1 O1 HR1 MX;obtain⟨x1,x2,x3,x4⟩:=b0.K;obtain⟨y1,y2,y3,y4⟩:=b1.K;have B0:=ab b0;have B1:=ab b1;have B2:=ab b2;clear b0 b1 b2;go_wp2_with fail;refine(yZ _ _).g ?_;rintro e w' ⟨rfl,rfl⟩;go_wp2_with fail;refine(Li l HS.i o.h.E (v+1) A1 c1 _ (oF (vG (jK O2.i (by simp) _) _)) (by omega)).g ?_;rintro e w3 ⟨rfl,hb3⟩;have hsz:((w2.F ⟨w.a.j,0,none⟩ (aI .a (v+1))).alloc (.D (o.h.Oo (kI o.h.w)).ay 62)).a.j=w2.a.j+1:=by simp[gY]
 have b0:=((B0.i.eH 0 (aI .a (v+1))).alloc (.D (o.h.Oo (kI o.h.w)).ay 62)).S hb3 (by rw[hsz];omega);have b2:=((B2.i.dM ⟨w.a.j,0,none⟩ (aI .a (v+1)) (by simp)).alloc (.D (o.h.Oo (kI o.h.w)).ay 62)).S hb3 (by rw[hsz];omega);have b3:=(dJ.new (w2.F ⟨w.a.j,0,none⟩ (aI .a (v+1))) (o.h.Oo (kI o.h.w)).ay 62).S hb3 (by simp);rw[show(w2.F ⟨w.a.j,0,none⟩ (aI .a (v+1))).a.j=w2.a.j by simp[gY]]at b3;have O3:=ab (jo (vG (jK O2.i (by simp) _) (.D (o.h.Oo (kI o.h.w)).ay 62)) hb3);have HB3:=ab (((HB2.i.F (av _) (aI .a (v+1))).alloc (by simp[gY];omega) (.D (o.h.Oo (kI o.h.w)).ay 62)).trans (hb3.g (by rw[hsz];omega)));have hz3:w2.a.j<w3.a.j:=b3.lt;clear hb3 hsz x1 x2 x3 x4 y1 y2 y3 y4 HB2 O2;obtain⟨x1,x2,x3,x4⟩:=b0.K;obtain⟨z1,z2,z3,z4⟩:=b3.K;have B0:=ab b0;have B2:=ab b2;have B3:=ab b3;clear b0 b2 b3;go_wp2_with fail;have hli:kG l o.h.E<=l.a:=apx l _;have hrow:∀k,(bC A1 l.a c1).ownBlock=some k->w.a.j+3<=k:=fun k hk=>(O3.i.lt k hk).1
 refine(afA l (o.h.Oo (kI o.h.w)) (kG l o.h.E) hli (w.a.j+3) c1 w3.a.j A1 _ ⟨vG O3.i _,Gy w3 _,fun g hg=>?_,by simp;omega,hn⟩).g ?_
 ·have:=(O3.i.lt g.block (by rw[hg];rfl)).2
  omega
 rintro e w4 ⟨A4,c4,rfl,ho4,hg4⟩;have b0:=(B0.i.alloc (.D (o.h.Oo (kI o.h.w)).ay 62)).grown hg4 (fun e=>by have:=hrow _ e.symm;omega);have b2:=(B2.i.alloc (.D (o.h.Oo (kI o.h.w)).ay 62)).grown hg4 (fun e=>by have:=hrow _ e.symm;omega);have O4:=ab ho4;have hz4:w.a.j+2<w4.a.j:=b2.lt;have HB4:=ab ((HB3.i.alloc (by omega) (.D (o.h.Oo (kI o.h.w)).ay 62)).grown hg4 (by simp;omega) (fun k hk=>by have:=hrow k hk;omega));have hil:=xZ l (kG l o.h.E) (o.h.Oo (kI o.h.w));obtain⟨l4,hl4⟩:=dw (zJ l (kG l o.h.E) (o.h.Oo (kI o.h.w)));rw[<-hl4]at ho4 O4 ⊢;have HL4:=ab hl4;clear hg4 ho4 x1 x2 x3 x4 z1 z2 z3 z4 HB3 O3 hl4 hil;obtain⟨x1,x2,x3,x4⟩:=b0.K;obtain⟨y1,y2,y3,y4⟩:=b2.K;have B0:=ab b0;have B2:=ab b2;clear b0 b2;go_wp2_with fail;have b2:=(B2.i.dM ⟨w.a.j,1,none⟩ (.a A4 l4.a c4) (by simp)).eH 0 (.b .a (v+1)) |>.eH 1 (.a A4 l4.a c4)
 obtain⟨z1,z2,z3,z4⟩:=b2.K;have hl4:=HL4.i;subst hl4;have hZ:=z3 0 2 (av _);refine aN (Ez rfl _ _ _ _ rfl (by rw[hZ];trivial)) rfl ⟨A4,c4,?_,iG (base:=w.a.j+3) (jK (jK (jK O4.i (show w.a.j<w.a.j+3 by omega) _) (show w.a.j+2<w.a.j+3 by omega) _) (show w.a.j+2<w.a.j+3 by omega) _) (by omega),((HB4.i.F (av _) _).F (show w.a.j<=w.a.j+2 by omega) _).F (show w.a.j<=w.a.j+2 by omega) _⟩;rw[z4 0 2 (av _)];rfl
theorem wS{l:List Bk}{s:List UInt8}(h:rE l s=true):kG l s<l.a:=by
 unfold rE at h;simp at h;exact h.1
theorem att(l:List Bk)(hs:Es l)(v:Int)(hv : -9223372036854775808<=v/\v<9223372036854775807)(o:qM)(hf:o.h.rF)(hw:o.w<18446744073709551616)(Bw:qm v l o=0)(h1:o.kind=2)(hn0:rE l o.E=true)(A:Option aS)(c:Nat)(w:ak)(hR:FL w w.a.j A l.a l)(hn:l.a<=100000):
 aQ ah 71 #[.d #[.b .a v,.a A l.a c],.d o.ay] w (Vh w (v+1) (Ey l (kG l o.E)) 0):=by
 have HS:=ab hs;have HR1:=ab (fun ob ug GJ=>(((hR.alloc (av _) ob).alloc (by simp) ug).alloc (by simp;omega) GJ).lD (B':=(((w.alloc ob).alloc ug).alloc GJ).a.j) (by simp;omega));have HB0:=ab (fun ob ug GJ=>((((aH w.a.j w).alloc (av _) ob).alloc (by simp) ug).alloc (by simp;omega) GJ:aL w.a.j w (((w.alloc ob).alloc ug).alloc GJ)));have Oq:=fun A c W (hR:FL W W.a.j A l.a l)=>JW l hs v o hf hw A c W hR (by omega)
 rw[Bw]at Oq;have MX:=ab Oq;clear hR hs Oq Bw;obtain⟨hv1,hv2⟩:=hv;have hli:=wS hn0;have hin:((kG l o.E:Nat):Int)<(l.a:Nat):=by omega
 clear hn0;go_enter Fb,Co;go_wp2_with fail;refine(xL l A c _ (HR1.i _ _ _) hn).g ?_;rintro e w1 ⟨A1,c1,rfl,ho1,hb1⟩;have b0:=(((dJ.new w _ _).alloc _).alloc _).S hb1 (by simp;omega);have b1:=((dJ.Ud w _ _ _).alloc _).S hb1 (by simp);have b2:=(dJ.ais w _ _ _ _).S hb1 (by simp);have hz1:w.a.j+2<w1.a.j:=b2.lt;have O1:=ab (iG ho1 (show w.a.j+3<=_ by simp));have HB1:=ab ((HB0.i _ _ _).trans (hb1.g (by simp;omega)));clear ho1 hb1;obtain⟨x1,x2,x3,x4⟩:=b0.K;obtain⟨y1,y2,y3,y4⟩:=b1.K;have B0:=ab b0;have B1:=ab b1;have B2:=ab b2;clear b0 b1 b2;go_wp2_with fail;refine(MX.i A1 c1 _ (oF (jK O1.i (by simp) _))).g ?_;rintro e w2 ⟨rfl,hb2⟩;have hsz:(w1.F ⟨w.a.j,1,none⟩ (bC A1 l.a c1)).a.j=w1.a.j:=by simp[gY]
 have b0:=(B0.i.eH 1 (bC A1 l.a c1)).S hb2 (by rw[hsz];omega);have b1:=(B1.i.dM ⟨w.a.j,1,none⟩ (bC A1 l.a c1) (by simp)).S hb2 (by rw[hsz];omega);have b2:=(B2.i.dM ⟨w.a.j,1,none⟩ (bC A1 l.a c1) (by simp)).S hb2 (by rw[hsz];omega);have O2:=ab (jo (jK O1.i (by simp) _) hb2);have HB2:=ab ((HB1.i.F (av _) _).trans (hb2.g (by rw[hsz];omega)));have hz2:w.a.j+2<w2.a.j:=b2.lt;have apy:w.a.j+1<w2.a.j:=b1.lt;have apz:w.a.j<w2.a.j:=b0.lt;clear hb2 hsz x1 x2 x3 x4 y1 y2 y3 y4 hz1 HB1 O1 HR1 MX;obtain⟨x1,x2,x3,x4⟩:=b0.K;obtain⟨y1,y2,y3,y4⟩:=b1.K;have B0:=ab b0;have B1:=ab b1;have B2:=ab b2;clear b0 b1 b2;go_wp2_with fail;refine(Li l HS.i o.E (v+1) A1 c1 _ (oF (jK O2.i (by simp) _)) (by omega)).g ?_;rintro e w3 ⟨rfl,hb3⟩;have hsz:(w2.F ⟨w.a.j,0,none⟩ (aI .a (v+1))).a.j=w2.a.j:=by simp[gY]
 have b0:=(B0.i.eH 0 (aI .a (v+1))).S hb3 (by rw[hsz];omega);have b1:=(B1.i.dM ⟨w.a.j,0,none⟩ (aI .a (v+1)) (by simp)).S hb3 (by rw[hsz];omega);have b2:=(B2.i.dM ⟨w.a.j,0,none⟩ (aI .a (v+1)) (by simp)).S hb3 (by rw[hsz];omega);have ho3:=jo (jK O2.i (show w.a.j<w.a.j+3 by omega) (aI .a (v+1))) hb3;have HB3:=ab ((HB2.i.F (av _) (aI .a (v+1))).trans (hb3.g (by rw[hsz];omega)));obtain⟨g,hA1⟩:∃g,A1=some ⟨g,0,none⟩:=by
  rcases ho3.2 with⟨hv,h0⟩|⟨g,cap,cur,hv,_⟩
  ·omega
  ·injection hv with e1 _ _
   exact⟨g,e1⟩
 subst hA1;have hgb:w.a.j+3<=g:=(ho3.lt g rfl).1;have hgl:g<w3.a.j:=(ho3.lt g rfl).2;obtain⟨bb,oo,hbo,_,hcc⟩:=(oF ho3).cell hli;injection hbo with hbo
 injection hbo with e1 e2
 subst e1 e2;have O3:=ab ho3;have hz3:w.a.j<w3.a.j:=b0.lt;have atu:w.a.j+1<w3.a.j:=b1.lt;have hz32:w.a.j+2<w3.a.j:=b2.lt;clear hb3 hsz x1 x2 x3 x4 y1 y2 y3 y4 HB2 O2 ho3;obtain⟨x1,x2,x3,x4⟩:=b0.K;obtain⟨y1,y2,y3,y4⟩:=b1.K;obtain⟨u1,u2,u3,u4⟩:=b2.K;have B0:=ab b0;have B2:=ab b2;clear b0 b1 b2;clear hcc;go_wp2_with fail;rcases O3.i.2 with⟨hv,h0⟩|⟨g',cap,cur,hv,q2,q3,q4,q5,q6,q7⟩
 ·cases hv
 injection hv with e1 e2 e3
 injection e1 with e1
 injection e1 with e1
 subst e1 e3;refine(afB l (kG l o.E) hli (w.a.j+3) g c1 cur _ q2 q3 q4 q5 q6 q7 hn).g ?_;rintro e w4 ⟨A4,c4,rfl,ho4,hg4⟩;have b0:=B0.i.grown hg4 (fun e=>by injection e with e;omega);have b2:=B2.i.grown hg4 (fun e=>by injection e with e;omega);have hz4:w.a.j+2<w4.a.j:=b2.lt;have HB4:=ab (HB3.i.grown hg4 (by omega) (fun k hk=>by injection hk with hk;omega));obtain⟨l4,hl4⟩:=dw (Ey l (kG l o.E));rw[<-hl4]at ho4 ⊢;have O4:=ab ho4;have HL4:=ab hl4;clear hg4 ho4 x1 x2 x3 x4 y1 y2 y3 y4 u1 u2 u3 u4 HB3 O3 hl4 q3 q6 q7;obtain⟨x1,x2,x3,x4⟩:=b0.K;obtain⟨y1,y2,y3,y4⟩:=b2.K;have B0:=ab b0;have B2:=ab b2;clear b0 b2;go_wp2_with fail;have b2:=(B2.i.dM ⟨w.a.j,1,none⟩ (.a A4 l4.a c4) (by simp)).eH 0 (.b .a (v+1)) |>.eH 1 (.a A4 l4.a c4)
 obtain⟨z1,z2,z3,z4⟩:=b2.K;have hl4:=HL4.i;subst hl4;have hZ:=z3 0 2 (av _);refine aN (Ez rfl _ _ _ _ rfl (by rw[hZ];trivial)) rfl ⟨A4,c4,?_,iG (base:=w.a.j+3) (jK (jK (jK O4.i (show w.a.j<w.a.j+3 by omega) _) (show w.a.j+2<w.a.j+3 by omega) _) (show w.a.j+2<w.a.j+3 by omega) _) (by omega),((HB4.i.F (av _) _).F (show w.a.j<=w.a.j+2 by omega) _).F (show w.a.j<=w.a.j+2 by omega) _⟩;rw[z4 0 2 (av _)];rfl
theorem ai7(l:List Bk)(hs:Es l)(v:Int)(hv : -9223372036854775808<=v/\v<9223372036854775807)(o:qM)(hf:o.h.rF)(hw:o.w<18446744073709551616)(Bw:qm v l o=0)(h1:o.kind=3)(hn0:rE l o.E=true)(A:Option aS)(c:Nat)(w:ak)(hR:FL w w.a.j A l.a l)(hn:l.a<=100000):
 aQ ah 71 #[.d #[.b .a v,.a A l.a c],.d o.ay] w (Vh w (v+1) (l.set (kG l o.E) ((oM l o.E).Oo (kI o.w))) 0):=by
 have HS:=ab hs;have HR1:=ab (fun ob ug GJ=>(((hR.alloc (av _) ob).alloc (by simp) ug).alloc (by simp;omega) GJ).lD (B':=(((w.alloc ob).alloc ug).alloc GJ).a.j) (by simp;omega));have HB0:=ab (fun ob ug GJ=>((((aH w.a.j w).alloc (av _) ob).alloc (by simp) ug).alloc (by simp;omega) GJ:aL w.a.j w (((w.alloc ob).alloc ug).alloc GJ)));have Oq:=fun A c W (hR:FL W W.a.j A l.a l)=>JW l hs v o hf hw A c W hR (by omega)
 rw[Bw]at Oq;have MX:=ab Oq;clear hR hs Oq Bw;obtain⟨hv1,hv2⟩:=hv;have hli:=wS hn0;have hin:((kG l o.E:Nat):Int)<(l.a:Nat):=by omega
 have HG:=ab (Et hn0);clear hn0;go_enter Fb,Co;go_wp2_with fail;refine(xL l A c _ (HR1.i _ _ _) hn).g ?_;rintro e w1 ⟨A1,c1,rfl,ho1,hb1⟩;have b0:=(((dJ.new w _ _).alloc _).alloc _).S hb1 (by simp;omega);have b1:=((dJ.Ud w _ _ _).alloc _).S hb1 (by simp);have b2:=(dJ.ais w _ _ _ _).S hb1 (by simp);have hz1:w.a.j+2<w1.a.j:=b2.lt;have O1:=ab (iG ho1 (show w.a.j+3<=_ by simp));have HB1:=ab ((HB0.i _ _ _).trans (hb1.g (by simp;omega)));clear ho1 hb1;obtain⟨x1,x2,x3,x4⟩:=b0.K;obtain⟨y1,y2,y3,y4⟩:=b1.K;have B0:=ab b0;have B1:=ab b1;have B2:=ab b2;clear b0 b1 b2;go_wp2_with fail;refine(MX.i A1 c1 _ (oF (jK O1.i (by simp) _))).g ?_;rintro e w2 ⟨rfl,hb2⟩;have hsz:(w1.F ⟨w.a.j,1,none⟩ (bC A1 l.a c1)).a.j=w1.a.j:=by simp[gY]
 have b0:=(B0.i.eH 1 (bC A1 l.a c1)).S hb2 (by rw[hsz];omega);have b1:=(B1.i.dM ⟨w.a.j,1,none⟩ (bC A1 l.a c1) (by simp)).S hb2 (by rw[hsz];omega);have b2:=(B2.i.dM ⟨w.a.j,1,none⟩ (bC A1 l.a c1) (by simp)).S hb2 (by rw[hsz];omega);have O2:=ab (jo (jK O1.i (by simp) _) hb2);have HB2:=ab ((HB1.i.F (av _) _).trans (hb2.g (by rw[hsz];omega)));have hz2:w.a.j+2<w2.a.j:=b2.lt;have apy:w.a.j+1<w2.a.j:=b1.lt;have apz:w.a.j<w2.a.j:=b0.lt;clear hb2 hsz x1 x2 x3 x4 y1 y2 y3 y4 hz1 HB1 O1 HR1 MX;obtain⟨x1,x2,x3,x4⟩:=b0.K;obtain⟨y1,y2,y3,y4⟩:=b1.K;have B0:=ab b0;have B1:=ab b1;have B2:=ab b2;clear b0 b1 b2;go_wp2_with fail;refine(Li l HS.i o.E (v+1) A1 c1 _ (oF (jK O2.i (by simp) _)) (by omega)).g ?_;rintro e w3 ⟨rfl,hb3⟩;have hsz:(w2.F ⟨w.a.j,0,none⟩ (aI .a (v+1))).a.j=w2.a.j:=by simp[gY]
 have b0:=(B0.i.eH 0 (aI .a (v+1))).S hb3 (by rw[hsz];omega);have b1:=(B1.i.dM ⟨w.a.j,0,none⟩ (aI .a (v+1)) (by simp)).S hb3 (by rw[hsz];omega);have b2:=(B2.i.dM ⟨w.a.j,0,none⟩ (aI .a (v+1)) (by simp)).S hb3 (by rw[hsz];omega);have ho3:=jo (jK O2.i (show w.a.j<w.a.j+3 by omega) (aI .a (v+1))) hb3;have HB3:=ab ((HB2.i.F (av _) (aI .a (v+1))).trans (hb3.g (by rw[hsz];omega)));obtain⟨g,hA1⟩:∃g,A1=some ⟨g,0,none⟩:=by
  rcases ho3.2 with⟨hv,h0⟩|⟨g,cap,cur,hv,_⟩
  ·omega
  ·injection hv with e1 _ _
   exact⟨g,e1⟩
 subst hA1;have hgb:w.a.j+3<=g:=(ho3.lt g rfl).1;have hgl:g<w3.a.j:=(ho3.lt g rfl).2;obtain⟨bb,oo,hbo,_,hcc⟩:=(oF ho3).cell hli;injection hbo with hbo
 injection hbo with e1 e2
 subst e1 e2;have O3:=ab ho3;have hz3:w.a.j<w3.a.j:=b0.lt;have atu:w.a.j+1<w3.a.j:=b1.lt;have hz32:w.a.j+2<w3.a.j:=b2.lt;clear hb3 hsz x1 x2 x3 x4 y1 y2 y3 y4 HB2 O2 ho3;have hcl:w3.b ⟨g,kG l o.E*27+25,none⟩=some (.float .f64 (oM l o.E).w):=by
  have:=hcc 25 (by omega);rw[bl]at this;rw[this,<-HG.i];exact Bk.ae4 _
 have hfr:w3.frozen? ⟨g,kG l o.E*27+25,none⟩=false:=by
  rcases O3.i.2 with⟨hv,h0⟩|⟨g',cap,cur,hv,q2,q3,q4,q5,q6,q7⟩
  ·cases hv
  injection hv with e1 e2 e3
  injection e1 with e1
  injection e1 with e1
  subst e1;simp[sj,q3]
 clear hcc;obtain⟨x1,x2,x3,x4⟩:=b0.K;obtain⟨y1,y2,y3,y4⟩:=b1.K;obtain⟨u1,u2,u3,u4⟩:=b2.K;have B0:=ab b0;have B2:=ab b2;clear b0 b1 b2;go_wp2_with fail;refine(yZ _ _).g ?_;rintro e w' ⟨rfl,rfl⟩;go_wp2_with fail;have O4:=ab (Sy O3.i (kG l o.E*27+25) (by omega) (.float .f64 (kI o.w)));have hxs:(dI l).set (kG l o.E*27+25) (.float .f64 (kI o.w))=dI (l.set (kG l o.E) ((oM l o.E).Oo (kI o.w))):=
  IY l (kG l o.E) hli _ 25 (by omega) _ (by rw[<-HG.i];exact(Bk.axq (oM l o.E) _).symm)
 rw[hxs]at O4;have b2:=((B2.i.dM ⟨g,kG l o.E*27+25,none⟩ (.float .f64 (kI o.w)) (by show g≠_;omega)).eH 0 (.b .a (v+1))).eH 1 (.a (some ⟨g,0,none⟩) l.a c1);obtain⟨z1,z2,z3,z4⟩:=b2.K;have hZ:=z3 0 2 (av _);have hlen:(l.set (kG l o.E) ((oM l o.E).Oo (kI o.w))).a=l.a:=aV;refine aN (Ez rfl _ _ _ _ rfl (by rw[hZ];trivial)) rfl ⟨some ⟨g,0,none⟩,c1,?_,?_,((HB3.i.F (show w.a.j<=g by omega) _).F (show w.a.j<=w.a.j+2 by omega) _).F (show w.a.j<=w.a.j+2 by omega) _⟩
 ·rw[z4 0 2 (av _),hlen]
  rfl
 ·rw[hlen]
  exact iG (base:=w.a.j+3) (jK (jK O4.i (show w.a.j+2<w.a.j+3 by omega) _) (show w.a.j+2<w.a.j+3 by omega) _) (by omega)
theorem al3(l:List Bk)(hs:Es l)(v:Int)(hv : -9223372036854775808<=v/\v<9223372036854775807)(o:qM)(hf:o.h.rF)(hw:o.w<18446744073709551616)(Bw:qm v l o=0)(h1:o.kind=4)(hn0:rE l o.E=true)(A:Option aS)(c:Nat)(w:ak)(hR:FL w w.a.j A l.a l)(hn:l.a<=100000):
 aQ ah 71 #[.d #[.b .a v,.a A l.a c],.d o.ay] w (Vh w (v+1) (l.set (kG l o.E) ((oM l o.E).toD true)) 0):=by
 have HS:=ab hs;have HR1:=ab (fun ob ug GJ=>(((hR.alloc (av _) ob).alloc (by simp) ug).alloc (by simp;omega) GJ).lD (B':=(((w.alloc ob).alloc ug).alloc GJ).a.j) (by simp;omega));have HB0:=ab (fun ob ug GJ=>((((aH w.a.j w).alloc (av _) ob).alloc (by simp) ug).alloc (by simp;omega) GJ:aL w.a.j w (((w.alloc ob).alloc ug).alloc GJ)));have Oq:=fun A c W (hR:FL W W.a.j A l.a l)=>JW l hs v o hf hw A c W hR (by omega)
 rw[Bw]at Oq;have MX:=ab Oq;clear hR hs Oq Bw;obtain⟨hv1,hv2⟩:=hv;have hli:=wS hn0;have hin:((kG l o.E:Nat):Int)<(l.a:Nat):=by omega
 have HG:=ab (Et hn0);clear hn0;go_enter Fb,Co;go_wp2_with fail;refine(xL l A c _ (HR1.i _ _ _) hn).g ?_;rintro e w1 ⟨A1,c1,rfl,ho1,hb1⟩;have b0:=(((dJ.new w _ _).alloc _).alloc _).S hb1 (by simp;omega);have b1:=((dJ.Ud w _ _ _).alloc _).S hb1 (by simp);have b2:=(dJ.ais w _ _ _ _).S hb1 (by simp);have hz1:w.a.j+2<w1.a.j:=b2.lt;have O1:=ab (iG ho1 (show w.a.j+3<=_ by simp));have HB1:=ab ((HB0.i _ _ _).trans (hb1.g (by simp;omega)));clear ho1 hb1;obtain⟨x1,x2,x3,x4⟩:=b0.K;obtain⟨y1,y2,y3,y4⟩:=b1.K;have B0:=ab b0;have B1:=ab b1;have B2:=ab b2;clear b0 b1 b2;go_wp2_with fail;refine(MX.i A1 c1 _ (oF (jK O1.i (by simp) _))).g ?_;rintro e w2 ⟨rfl,hb2⟩;have hsz:(w1.F ⟨w.a.j,1,none⟩ (bC A1 l.a c1)).a.j=w1.a.j:=by simp[gY]
 have b0:=(B0.i.eH 1 (bC A1 l.a c1)).S hb2 (by rw[hsz];omega);have b1:=(B1.i.dM ⟨w.a.j,1,none⟩ (bC A1 l.a c1) (by simp)).S hb2 (by rw[hsz];omega);have b2:=(B2.i.dM ⟨w.a.j,1,none⟩ (bC A1 l.a c1) (by simp)).S hb2 (by rw[hsz];omega);have O2:=ab (jo (jK O1.i (by simp) _) hb2);have HB2:=ab ((HB1.i.F (av _) _).trans (hb2.g (by rw[hsz];omega)));have hz2:w.a.j+2<w2.a.j:=b2.lt;have apy:w.a.j+1<w2.a.j:=b1.lt;have apz:w.a.j<w2.a.j:=b0.lt;clear hb2 hsz x1 x2 x3 x4 y1 y2 y3 y4 hz1 HB1 O1 HR1 MX;obtain⟨x1,x2,x3,x4⟩:=b0.K;obtain⟨y1,y2,y3,y4⟩:=b1.K;have B0:=ab b0;have B1:=ab b1;have B2:=ab b2;clear b0 b1 b2;go_wp2_with fail;refine(Li l HS.i o.E (v+1) A1 c1 _ (oF (jK O2.i (by simp) _)) (by omega)).g ?_;rintro e w3 ⟨rfl,hb3⟩;have hsz:(w2.F ⟨w.a.j,0,none⟩ (aI .a (v+1))).a.j=w2.a.j:=by simp[gY]
 have b0:=(B0.i.eH 0 (aI .a (v+1))).S hb3 (by rw[hsz];omega);have b1:=(B1.i.dM ⟨w.a.j,0,none⟩ (aI .a (v+1)) (by simp)).S hb3 (by rw[hsz];omega);have b2:=(B2.i.dM ⟨w.a.j,0,none⟩ (aI .a (v+1)) (by simp)).S hb3 (by rw[hsz];omega);have ho3:=jo (jK O2.i (show w.a.j<w.a.j+3 by omega) (aI .a (v+1))) hb3;have HB3:=ab ((HB2.i.F (av _) (aI .a (v+1))).trans (hb3.g (by rw[hsz];omega)));obtain⟨g,hA1⟩:∃g,A1=some ⟨g,0,none⟩:=by
  rcases ho3.2 with⟨hv,h0⟩|⟨g,cap,cur,hv,_⟩
  ·omega
  ·injection hv with e1 _ _
   exact⟨g,e1⟩
 subst hA1;have hgb:w.a.j+3<=g:=(ho3.lt g rfl).1;have hgl:g<w3.a.j:=(ho3.lt g rfl).2;obtain⟨bb,oo,hbo,_,hcc⟩:=(oF ho3).cell hli;injection hbo with hbo
 injection hbo with e1 e2
 subst e1 e2;have O3:=ab ho3;have hz3:w.a.j<w3.a.j:=b0.lt;have atu:w.a.j+1<w3.a.j:=b1.lt;have hz32:w.a.j+2<w3.a.j:=b2.lt;clear hb3 hsz x1 x2 x3 x4 y1 y2 y3 y4 HB2 O2 ho3;have hcl:w3.b ⟨g,kG l o.E*27+26,none⟩=some (.bool (oM l o.E).drain):=by
  have:=hcc 26 (by omega);rw[bl]at this;rw[this,<-HG.i];exact Bk.ae5 _
 have hfr:w3.frozen? ⟨g,kG l o.E*27+26,none⟩=false:=by
  rcases O3.i.2 with⟨hv,h0⟩|⟨g',cap,cur,hv,q2,q3,q4,q5,q6,q7⟩
  ·cases hv
  injection hv with e1 e2 e3
  injection e1 with e1
  injection e1 with e1
  subst e1;simp[sj,q3]
 clear hcc;obtain⟨x1,x2,x3,x4⟩:=b0.K;obtain⟨y1,y2,y3,y4⟩:=b1.K;obtain⟨u1,u2,u3,u4⟩:=b2.K;have B0:=ab b0;have B2:=ab b2;clear b0 b1 b2;go_wp2_with fail;have O4:=ab (Sy O3.i (kG l o.E*27+26) (by omega) (.bool true));have hxs:(dI l).set (kG l o.E*27+26) (.bool true)=dI (l.set (kG l o.E) ((oM l o.E).toD true)):=
  IY l (kG l o.E) hli _ 26 (by omega) _ (by rw[<-HG.i];exact(Bk.arQ (oM l o.E) _).symm)
 rw[hxs]at O4;have b2:=((B2.i.dM ⟨g,kG l o.E*27+26,none⟩ (.bool true) (by show g≠_;omega)).eH 0 (.b .a (v+1))).eH 1 (.a (some ⟨g,0,none⟩) l.a c1);obtain⟨z1,z2,z3,z4⟩:=b2.K;have hZ:=z3 0 2 (av _);have hlen:(l.set (kG l o.E) ((oM l o.E).toD true)).a=l.a:=aV;refine aN (Ez rfl _ _ _ _ rfl (by rw[hZ];trivial)) rfl ⟨some ⟨g,0,none⟩,c1,?_,?_,((HB3.i.F (show w.a.j<=g by omega) _).F (show w.a.j<=w.a.j+2 by omega) _).F (show w.a.j<=w.a.j+2 by omega) _⟩
 ·rw[z4 0 2 (av _),hlen]
  rfl
 ·rw[hlen]
  exact iG (base:=w.a.j+3) (jK (jK O4.i (show w.a.j+2<w.a.j+3 by omega) _) (show w.a.j+2<w.a.j+3 by omega) _) (by omega)
theorem apB(l:List Bk)(hs:Es l)(v:Int)(hv : -9223372036854775808<=v/\v<9223372036854775807)(o:qM)(hf:o.h.rF)(hw:o.w<18446744073709551616)(Bw:qm v l o=0)(h1:o.kind=5)(hn0:rE l o.E=true)(A:Option aS)(c:Nat)(w:ak)(hR:FL w w.a.j A l.a l)(hn:l.a<=100000):
 aQ ah 71 #[.d #[.b .a v,.a A l.a c],.d o.ay] w (Vh w (v+1) (l.set (kG l o.E) ((oM l o.E).toD false)) 0):=by
 have HS:=ab hs;have HR1:=ab (fun ob ug GJ=>(((hR.alloc (av _) ob).alloc (by simp) ug).alloc (by simp;omega) GJ).lD (B':=(((w.alloc ob).alloc ug).alloc GJ).a.j) (by simp;omega));have HB0:=ab (fun ob ug GJ=>((((aH w.a.j w).alloc (av _) ob).alloc (by simp) ug).alloc (by simp;omega) GJ:aL w.a.j w (((w.alloc ob).alloc ug).alloc GJ)));have Oq:=fun A c W (hR:FL W W.a.j A l.a l)=>JW l hs v o hf hw A c W hR (by omega)
 rw[Bw]at Oq;have MX:=ab Oq;clear hR hs Oq Bw;obtain⟨hv1,hv2⟩:=hv;have hli:=wS hn0;have hin:((kG l o.E:Nat):Int)<(l.a:Nat):=by omega
 have HG:=ab (Et hn0);clear hn0;go_enter Fb,Co;go_wp2_with fail;refine(xL l A c _ (HR1.i _ _ _) hn).g ?_;rintro e w1 ⟨A1,c1,rfl,ho1,hb1⟩;have b0:=(((dJ.new w _ _).alloc _).alloc _).S hb1 (by simp;omega);have b1:=((dJ.Ud w _ _ _).alloc _).S hb1 (by simp);have b2:=(dJ.ais w _ _ _ _).S hb1 (by simp);have hz1:w.a.j+2<w1.a.j:=b2.lt;have O1:=ab (iG ho1 (show w.a.j+3<=_ by simp));have HB1:=ab ((HB0.i _ _ _).trans (hb1.g (by simp;omega)));clear ho1 hb1;obtain⟨x1,x2,x3,x4⟩:=b0.K;obtain⟨y1,y2,y3,y4⟩:=b1.K;have B0:=ab b0;have B1:=ab b1;have B2:=ab b2;clear b0 b1 b2;go_wp2_with fail;refine(MX.i A1 c1 _ (oF (jK O1.i (by simp) _))).g ?_;rintro e w2 ⟨rfl,hb2⟩;have hsz:(w1.F ⟨w.a.j,1,none⟩ (bC A1 l.a c1)).a.j=w1.a.j:=by simp[gY]
 have b0:=(B0.i.eH 1 (bC A1 l.a c1)).S hb2 (by rw[hsz];omega);have b1:=(B1.i.dM ⟨w.a.j,1,none⟩ (bC A1 l.a c1) (by simp)).S hb2 (by rw[hsz];omega);have b2:=(B2.i.dM ⟨w.a.j,1,none⟩ (bC A1 l.a c1) (by simp)).S hb2 (by rw[hsz];omega);have O2:=ab (jo (jK O1.i (by simp) _) hb2);have HB2:=ab ((HB1.i.F (av _) _).trans (hb2.g (by rw[hsz];omega)));have hz2:w.a.j+2<w2.a.j:=b2.lt;have apy:w.a.j+1<w2.a.j:=b1.lt;have apz:w.a.j<w2.a.j:=b0.lt;clear hb2 hsz x1 x2 x3 x4 y1 y2 y3 y4 hz1 HB1 O1 HR1 MX;obtain⟨x1,x2,x3,x4⟩:=b0.K;obtain⟨y1,y2,y3,y4⟩:=b1.K;have B0:=ab b0;have B1:=ab b1;have B2:=ab b2;clear b0 b1 b2;go_wp2_with fail;refine(Li l HS.i o.E (v+1) A1 c1 _ (oF (jK O2.i (by simp) _)) (by omega)).g ?_;rintro e w3 ⟨rfl,hb3⟩;have hsz:(w2.F ⟨w.a.j,0,none⟩ (aI .a (v+1))).a.j=w2.a.j:=by simp[gY]
 have b0:=(B0.i.eH 0 (aI .a (v+1))).S hb3 (by rw[hsz];omega);have b1:=(B1.i.dM ⟨w.a.j,0,none⟩ (aI .a (v+1)) (by simp)).S hb3 (by rw[hsz];omega);have b2:=(B2.i.dM ⟨w.a.j,0,none⟩ (aI .a (v+1)) (by simp)).S hb3 (by rw[hsz];omega);have ho3:=jo (jK O2.i (show w.a.j<w.a.j+3 by omega) (aI .a (v+1))) hb3;have HB3:=ab ((HB2.i.F (av _) (aI .a (v+1))).trans (hb3.g (by rw[hsz];omega)));obtain⟨g,hA1⟩:∃g,A1=some ⟨g,0,none⟩:=by
  rcases ho3.2 with⟨hv,h0⟩|⟨g,cap,cur,hv,_⟩
  ·omega
  ·injection hv with e1 _ _
   exact⟨g,e1⟩
 subst hA1;have hgb:w.a.j+3<=g:=(ho3.lt g rfl).1;have hgl:g<w3.a.j:=(ho3.lt g rfl).2;obtain⟨bb,oo,hbo,_,hcc⟩:=(oF ho3).cell hli;injection hbo with hbo
 injection hbo with e1 e2
 subst e1 e2;have O3:=ab ho3;have hz3:w.a.j<w3.a.j:=b0.lt;have atu:w.a.j+1<w3.a.j:=b1.lt;have hz32:w.a.j+2<w3.a.j:=b2.lt;clear hb3 hsz x1 x2 x3 x4 y1 y2 y3 y4 HB2 O2 ho3;have hcl:w3.b ⟨g,kG l o.E*27+26,none⟩=some (.bool (oM l o.E).drain):=by
  have:=hcc 26 (by omega);rw[bl]at this;rw[this,<-HG.i];exact Bk.ae5 _
 have hfr:w3.frozen? ⟨g,kG l o.E*27+26,none⟩=false:=by
  rcases O3.i.2 with⟨hv,h0⟩|⟨g',cap,cur,hv,q2,q3,q4,q5,q6,q7⟩
  ·cases hv
  injection hv with e1 e2 e3
  injection e1 with e1
  injection e1 with e1
  subst e1;simp[sj,q3]
 clear hcc;obtain⟨x1,x2,x3,x4⟩:=b0.K;obtain⟨y1,y2,y3,y4⟩:=b1.K;obtain⟨u1,u2,u3,u4⟩:=b2.K;have B0:=ab b0;have B2:=ab b2;clear b0 b1 b2;go_wp2_with fail;have O4:=ab (Sy O3.i (kG l o.E*27+26) (by omega) (.bool false));have hxs:(dI l).set (kG l o.E*27+26) (.bool false)=dI (l.set (kG l o.E) ((oM l o.E).toD false)):=
  IY l (kG l o.E) hli _ 26 (by omega) _ (by rw[<-HG.i];exact(Bk.arQ (oM l o.E) _).symm)
 rw[hxs]at O4;have b2:=((B2.i.dM ⟨g,kG l o.E*27+26,none⟩ (.bool false) (by show g≠_;omega)).eH 0 (.b .a (v+1))).eH 1 (.a (some ⟨g,0,none⟩) l.a c1);obtain⟨z1,z2,z3,z4⟩:=b2.K;have hZ:=z3 0 2 (av _);have hlen:(l.set (kG l o.E) ((oM l o.E).toD false)).a=l.a:=aV;refine aN (Ez rfl _ _ _ _ rfl (by rw[hZ];trivial)) rfl ⟨some ⟨g,0,none⟩,c1,?_,?_,((HB3.i.F (show w.a.j<=g by omega) _).F (show w.a.j<=w.a.j+2 by omega) _).F (show w.a.j<=w.a.j+2 by omega) _⟩
 ·rw[z4 0 2 (av _),hlen]
  rfl
 ·rw[hlen]
  exact iG (base:=w.a.j+3) (jK (jK O4.i (show w.a.j+2<w.a.j+3 by omega) _) (show w.a.j+2<w.a.j+3 by omega) _) (by omega)
theorem By(l:List Bk)(i:Nat)(hi:i<l.a):nm l i=(l[i]'hi).E:=by
 unfold nm;rw[au,aC hi];rfl
theorem YM(a:List UInt8):mD a a=0:=Er.2 rfl
theorem tK{v:Int}{l:List Bk}:xW v l=true↔0<=v/\v<=1099511627776/\l.a<=1024/\(∀x∈l,x.Br=true/\XI x.w=true)/\Es l:=by
 unfold xW Ko;simp only[bf,decide_eq_true_eq,List.all_eq_true,List.mem_range,Bool.or_eq_true];constructor
 ·rintro⟨⟨⟨h1,h2⟩,h3⟩,h4⟩
  refine⟨h1,h2,h3,fun x hx=>?_,?_⟩
  ·obtain⟨i,hi,rfl⟩:=lF hx
   have:=(h4 i hi).1;rw[au,aC hi]at this;exact this
  ·unfold Es
   have key:∀d i (hi:i+d+1<l.a),mD (nm l i) (nm l (i+d+1))<0:=by
    intro d
    induction d with
    | zero=>
      intro i hi;have:=(h4 (i+1) hi).2;rcases this with h|h
      ·omega
      ·simpa using h
    | succ d ih=>
      intro i hi;have h5:=ih i (by omega);have h6:=(h4 (i+d+1+1) hi).2;rcases h6 with h|h
      ·omega
      ·have h7:mD (nm l (i+d+1)) (nm l (i+(d+1)+1))<0:=by simpa[mZ]using h
       exact FM h5 h7
   rw[fH];intro i j hi hj hij;have:=key (j-i-1) i (by omega);rw[show i+(j-i-1)+1=j by omega,By l i hi,By l j hj]at this;exact this
 ·rintro⟨h1,h2,h3,h4,h5⟩
  refine⟨⟨⟨h1,h2⟩,h3⟩,fun i hi=>⟨?_,?_⟩⟩
  ·have:=h4 (l[i]'hi) (dR hi)
   rw[au,aC hi];exact this
  ·rcases dY i with h|h
   ·exact .a h
   ·exact .b (h5.lt (by omega) hi)
theorem al4{l:List Bk}(hs:Es l){s:List UInt8}:rE l s=true↔∃x∈l,x.E=s:=by
 constructor
 ·intro h
  have hl:=wS h;unfold rE at h;simp at h;refine⟨l[kG l s]'hl,dR hl,?_⟩;rw[<-By l _ hl];exact Er.1 h.2
 ·rintro⟨x,hx,rfl⟩
  obtain⟨i,hi,rfl⟩:=lF hx;exact(ahh hs hi (By l i hi)).2
theorem adh{l:List Bk}(hs:Es l){x:Bk}(hx:x∈l):oM l x.E=x:=by
 obtain⟨i,hi,rfl⟩:=lF hx;obtain⟨h1,h2⟩:=ahh hs hi (By l i hi);rw[Et h2,h1,au,aC hi];rfl
theorem SK{l:List Bk}{s:List UInt8}(h:rE l s=true):oM l s∈l/\(oM l s).E=s:=by
 have hl:=wS h;rw[Et h,au,aC hl];refine⟨dR hl,?_⟩;unfold rE at h;simp at h;show(l[kG l s]).E=s;rw[<-By l _ hl];exact Er.1 h.2
theorem afE{l:List Bk}{s:List UInt8}(h:rE l s=true):nm l (kG l s)=s:=by
 unfold rE at h;simp at h;exact Er.1 h.2
theorem YN(l:List Bk)(s:List UInt8):(∀i,i<kG l s->mD (nm l i) s<0)/\(kG l s<l.a->¬mD (nm l (kG l s)) s<0):=by
 induction l with
 | nil=>exact⟨fun i hi=>absurd hi (by simp[kG]),fun h=>absurd h (by simp)⟩
 | cons x l ih=>
   by_cases hx:mD x.E s<0
   ·have e:kG (x::l) s=kG l s+1:=by unfold kG;rw[List.takeWhile_cons];simp[hx]
    rw[e];refine⟨fun i hi=>?_,fun h=>?_⟩
    ·rcases i with _|i
     ·exact hx
     ·exact ih.1 i (by omega)
    ·exact ih.2 (by simpa using h)
   ·have e:kG (x::l) s=0:=by unfold kG;rw[List.takeWhile_cons];simp[hx]
    rw[e];exact⟨fun i hi=>by omega,fun _=>hx⟩
theorem Vi{l:List Bk}(s:List UInt8){x:Bk}(hx:x∈l.d (kG l s)):mD x.E s<0:=by
 obtain⟨i,hi,rfl⟩:=lF hx;rw[bJ]at hi;rw[List.getElem_take,<-By l i (by omega)];exact(YN l s).1 i (by omega)
theorem al5{l:List Bk}(s:List UInt8)(h:kG l s<l.a):¬mD (nm l (kG l s)) s<0:=(YN l s).2 h
theorem YO{l:List Bk}(hs:Es l)(s:List UInt8)(hno:rE l s=false){x:Bk}(hx:x∈l.f (kG l s)):mD s x.E<0:=by
 obtain⟨i,hi,rfl⟩:=lF hx;rw[jA]at hi;rw[List.getElem_drop];have h0:=al5 s (show kG l s<l.a by omega);have h1:mD (nm l (kG l s)) s≠0:=by
  intro h;unfold rE at hno;simp[show kG l s<l.a by omega,h]at hno
 have h2:mD s (nm l (kG l s))<0:=by
  rw[aiJ];have:=afc (nm l (kG l s)) s;omega
 rw[<-By l _ (by omega)];rcases dY i with h|h
 ·subst h;simpa using h2
 ·exact FM h2 (hs.lt (by omega) (by omega))
theorem apC{l:List Bk}{k:Nat}{x y:Bk}:y∈zJ l k x↔y=x\/y∈l:=by
 unfold zJ;rw[qh,bB];have:y∈l↔y∈l.d k\/y∈l.f k:=by rw[<-qh,iF]
 rw[this];constructor
 ·rintro(h|h|h)
  ·exact .b (.a h)
  ·exact .a h
  ·exact .b (.b h)
 ·rintro(h|h|h)
  ·exact .b (.a h)
  ·exact .a h
  ·exact .b (.b h)
theorem apD{l:List Bk}(hs:Es l){x:Bk}(hno:rE l x.E=false):Es (zJ l (kG l x.E) x):=by
 unfold Es zJ;rw[List.pairwise_append];refine⟨hs.sublist (List.take_sublist _ _),?_,?_⟩
 ·rw[gL]
  exact⟨fun y hy=>YO hs x.E hno hy,hs.sublist (List.drop_sublist _ _)⟩
 ·intro a ha b hb
  rcases bB.1 hb with rfl|hb
  ·exact Vi _ ha
  ·exact FM (Vi _ ha) (YO hs x.E hno hb)
theorem apE{l:List Bk}(hs:Es l)(i:Nat):Es (Ey l i):=by
 unfold Ey;refine hs.sublist ?_
 conv=>rhs;rw[<-iF i l]
 exact List.Sublist.append_left (by rw[<-List.drop_drop];exact List.drop_sublist _ _) _
theorem ahz{l:List Bk}(hs:Es l){i:Nat}(hi:i<l.a){y:Bk}:y∈Ey l i↔y∈l/\y.E≠nm l i:=by
 have e:l=l.d i++l[i]::l.f (i+1):=by
  conv=>lhs;rw[<-iF i l,kU hi]
 unfold Ey;constructor
 ·intro h
  have hm:y∈l:=by
   rw[e];rcases qh.1 h with h|h
   ·exact Az _ h
   ·exact List.mem_append_right _ (List.mem_cons_of_mem _ h)
  refine⟨hm,fun hn=>?_⟩;rw[By l i hi]at hn;have hs2:=hs;unfold Es at hs2;rw[e,List.pairwise_append,gL]at hs2;rcases qh.1 h with h|h
  ·have:=hs2.2.2 y h l[i] (List.mem_cons_self ..)
   rw[hn,YM]at this;omega
  ·have:=hs2.2.1.1 y h
   rw[hn,YM]at this;omega
 ·rintro⟨hm,hn⟩
  rw[e]at hm;rcases qh.1 hm with h|h
  ·exact Az _ h
  ·rcases bB.1 h with rfl|h
   ·exact absurd (By l i hi).symm hn
   ·exact List.mem_append_right _ h
theorem ahA{l:List Bk}(hs:Es l){i:Nat}(hi:i<l.a){z:Bk}(hz:z.E=nm l i):Es (l.set i z):=by
 unfold Es;rw[fH];intro a b ha hb hab;rw[aV]at ha hb;have hn:∀j (hj:j<(l.set i z).a),((l.set i z)[j]).E=nm l j:=by
  intro j hj;rw[aV]at hj;rw[List.getElem_set];split
  ·rename_i h;subst h;exact hz
  ·exact(By l j hj).symm
 rw[hn,hn];exact hs.lt hab hb
theorem ahB{l:List Bk}(hs:Es l){i:Nat}(hi:i<l.a){z y:Bk}(hz:z.E=nm l i):y∈l.set i z↔y=z\/(y∈l/\y.E≠nm l i):=by
 have e:l=l.d i++l[i]::l.f (i+1):=by
  conv=>lhs;rw[<-iF i l,kU hi]
 have e2:l.set i z=l.d i++z::l.f (i+1):=List.set_eq_take_append_cons_drop ▸ (by rw[if_pos hi]);have hd:=@ahz l hs i hi y;rw[e2,qh,bB];unfold Ey at hd;rw[qh]at hd;rw[<-hd];constructor
 ·rintro(h|h|h)
  ·exact .b (.a h)
  ·exact .a h
  ·exact .b (.b h)
 ·rintro(h|h|h)
  ·exact .b (.a h)
  ·exact .a h
  ·exact .b (.b h)
def doV(v:Int)(l:List Bk)(o:qM):Int:=if qm v l o=0 then v+1 else v
def doL(v:Int)(l:List Bk)(o:qM):List Bk:=if qm v l o=0 then Pn l o else l
theorem atv(l:List Bk)(hs:Es l)(v:Int)(hv : -9223372036854775808<=v/\v<9223372036854775807)(o:qM)(hf:o.h.rF)(hw:o.w<18446744073709551616)(A:Option aS)(c:Nat)(w:ak)(hR:FL w w.a.j A l.a l)(hn:l.a<=100000):
 aQ ah 71 #[.d #[.b .a v,.a A l.a c],.d o.ay] w (Vh w (doV v l o) (doL v l o) (qm v l o)):=by
 by_cases h:qm v l o=0
 ·have hV:doV v l o=v+1:=by simp[doV,h]
  have hL:doL v l o=Pn l o:=by simp[doL,h]
  rw[hV,hL,h];obtain⟨k1,k2,k3,k4,k5,k6⟩:=aaU h;unfold Pn;by_cases h1:o.kind=1
  ·rw[if_pos h1]
   exact atr l hs v hv o hf hw h h1 A c w hR hn
  ·rw[if_neg h1]
   by_cases h2:o.kind=2
   ·rw[if_pos h2]
    exact att l hs v hv o hf hw h h2 (k6 h1) A c w hR hn
   ·rw[if_neg h2]
    by_cases h3:o.kind=3
    ·rw[if_pos h3]
     exact ai7 l hs v hv o hf hw h h3 (k6 h1) A c w hR hn
    ·rw[if_neg h3]
     by_cases h4:o.kind=4
     ·rw[show(o.kind==4)=true by simpa using h4]
      exact al3 l hs v hv o hf hw h h4 (k6 h1) A c w hR hn
     ·rw[show(o.kind==4)=false by simpa using h4]
      exact apB l hs v hv o hf hw h (by omega) (k6 h1) A c w hR hn
 ·have hV:doV v l o=v:=by simp[doV,h]
  have hL:doL v l o=l:=by simp[doL,h]
  rw[hV,hL];exact atq l hs v o hf hw h A c w hR hn
structure oN where
 E:List UInt8
 q:Int
deriving DecidableEq
def oN.ay(x:oN):Array aB:=#[.g (bK x.E),.b .a x.q]
def AB(l:List oN):List aB:=l.flatMap (·.ay.a)
theorem Ga(l:List oN)(x:oN):AB (l++[x])=AB l++x.ay.a:=by simp[AB]
theorem aaV:∃i:TypeInfo,ah.l 151=some i/\i.zero=some (.d #[.g ⟨#[]⟩,.b .a 0])/\i.j=2/\i.bytes<=200:=by
 cases h:ah.l 151 with
 | none=>exact absurd h (by have:(ah.l 151).isSome=true:=by kernel_rfl
                            intro e;rw[e]at this;cases this)
 | some i=>
   have h1:(ah.l 151).map (·.j)=some 2:=by kernel_rfl
   have h2:(ah.l 151).map (fun i=>decide (i.bytes<=200))=some true:=by kernel_rfl
   have h3:(ah.l 151).map (·.zero)=some (some (.d #[.g ⟨#[]⟩,.b .a 0])):=by kernel_rfl
   rw[h]at h1 h2 h3;simp at h1 h2 h3;exact⟨i,rfl,h3,h1,h2⟩
def al6(n:Nat)(ps:Array (Nat×aB)):Sem aB:=bI 75 n ps
@[go_sem ↓]theorem axD(n:Nat)(ps:Array (Nat×aB)):bI 75 n ps=al6 n ps:=rfl
@[go_sem]theorem ai8(w:ak)(s:List UInt8)(q:Int):(al6 1 #[(0,.d #[.g (bK s),.b .a q])]).I ah w=.ok (.a (some ⟨w.a.j,0,none⟩) 1 1) (w.alloc (.D #[.g (bK s),.b .a q] 151)):=by
 obtain⟨i0,hi0,hz0,hz1,hzb⟩:=aaV;exact rR w _ _ i0 _ 2 vD hi0 hz0 hz1 rfl (by omega) (by omega) _ rfl
def Gb(ls:List (List UInt8))(x:Bk):oN:=⟨x.E,if x.drain||qZ ls x.E then 0 else wQ x.w⟩
def kr(ls:List (List UInt8))(l:List Bk):List oN:=l.map (Gb ls)
theorem XW(ls:List (List UInt8))(l:List Bk)(i:Nat)(hi:i<l.a):kr ls (l.d (i+1))=kr ls (l.d i)++[Gb ls (l.b i jk)]:=by
 rw[List.take_succ_eq_append_getElem hi,kr,kr,List.map_append,au,aC hi];rfl
def Di(key:Vector UInt8 16)(s:List UInt8)(n:Nat):Nat:=xK key (s++[0])%n
def Au(key:Vector UInt8 16)(s:List UInt8)(n:Nat):Nat:=xK key (s++[1])%(n-1)+1
def chF(key:Vector UInt8 16)(n:Nat)(l:List (List UInt8))(i k:Nat):Nat:=rG (Di key (l.b i []) n) (Au key (l.b i []) n) n k
theorem Vj(key:Vector UInt8 16)(s:List UInt8){n:Nat}(hn:2<=n):1<=Au key s n/\Au key s n<n:=by
 unfold Au;have:=fE (xK key (s++[1])) (show 0<n-1 by omega);omega
theorem al7(key:Vector UInt8 16)(s:List UInt8){n:Nat}(hn:2<=n):Di key s n<n:=fE _ (by omega)
theorem al8{key:Vector UInt8 16}{n:Nat}{l:List (List UInt8)}(h:kZ n=true):acZ n l.a (chF key n l):=by
 intro i hi;have h2:=wZ h;obtain⟨s1,s2⟩:=Vj key (l.b i []) h2;refine⟨fun t=>OU (by omega),fun j hj=>UF h s1 s2 hj⟩
def wu(g n:Nat)(q:List Nat)(ch:Nat->Nat->Nat):Nat->Mg
 | 0=>⟨q.map fun _=>0,List.replicate n (-1),n⟩
 | j+1=>if(wu g n q ch j).left=0 then wu g n q ch j else sJ g n q ch (wu g n q ch j) (j%q.a)
theorem QF{g n:Nat}{q:List Nat}{ch:Nat->Nat->Nat}:∀j,(∀t,t<j->(jL g n q ch t).left≠0)->wu g n q ch j=jL g n q ch j
 | 0,_=>rfl
 | j+1,h=>by
   have ih:=QF (g:=g) (n:=n) (q:=q) (ch:=ch) j (fun t ht=>h t (by omega));unfold wu jL;rw[ih,if_neg (h j (by omega))]
theorem QG{g n:Nat}{q:List Nat}{ch:Nat->Nat->Nat}{j:Nat}(h:(wu g n q ch j).left=0):∀d,wu g n q ch (j+d)=wu g n q ch j
 | 0=>rfl
 | d+1=>by
   have e:wu g n q ch (j+d+1)=if(wu g n q ch (j+d)).left=0 then wu g n q ch (j+d)else sJ g n q ch (wu g n q ch (j+d)) ((j+d)%q.a):=rfl
   rw[<-mZ,e,QG h d,if_pos h]
def lK(q:List Nat):Nat:=q.foldl max 0
def EA(n:Nat)(q:List Nat)(ch:Nat->Nat->Nat):List Int:=(wu (lK q) n q ch (n*q.a)).sl
theorem YP:∀(q:List Nat)(b:Nat),q.foldl max b=b\/∃i,i<q.a/\q.b i 0=q.foldl max b
 | [],b=>.a rfl
 | x::q,b=>by
   rw[jT];rcases YP q (max b x)with h|⟨i,hi,h⟩
   ·rw[h]
    rcases Nat.le_total x b with hx|hx
    ·left;omega
    ·right;exact⟨0,by simp,by simp;omega⟩
   ·exact .b ⟨i+1,by simpa using hi,by simpa using h⟩
theorem Dj{q:List Nat}(h:q≠[])(h0:∀x∈q,0<x):∃i,i<q.a/\q.b i 0=lK q:=by
 rcases YP q 0 with e|e
 ·cases q with
  | nil=>exact absurd rfl h
  | cons x t=>
    exfalso;have h1:∀(t:List Nat)(b:Nat),b<=t.foldl max b:=by
     intro t
     induction t with
     | nil=>intro b;exact av _
     | cons y t ih=>intro b;rw[jT];exact aO (Nat.le_max_left _ _) (ih _)
    have h2:=h1 t (max 0 x);have h3:=h0 x (by simp);rw[jT]at e;omega
 ·exact e
theorem YQ{n:Nat}{q:List Nat}{ch:Nat->Nat->Nat}(h:q≠[])(h0:∀x∈q,0<x):∃K,K<=n*q.a/\(jL (lK q) n q ch K).left=0/\(∀j,j<K->(jL (lK q) n q ch j).left≠0)/\EA n q ch=(jL (lK q) n q ch K).sl:=by
 obtain⟨i,hi,hg⟩:=Dj h h0;obtain⟨K,h1,h2⟩:=ao' (n:=n) (ch:=ch) hi hg;have hm:∀m,(jL (lK q) n q ch (m*q.a)).left<=n-m:=by
  intro m
  induction m with
  | zero=>simp[jL]
  | succ m ih=>have:=aaD (n:=n) (ch:=ch) hi hg m;omega
 have hK:K<=n*q.a:=by
  rcases aZ (n*q.a) K with h3|h3
  ·have:=h2 _ h3
   have:=hm n;omega
  ·exact h3
 refine⟨K,hK,h1,h2,?_⟩;unfold EA;obtain⟨d,hd⟩:∃d,n*q.a=K+d:=⟨n*q.a-K,by omega⟩
 have e:=QF (g:=lK q) (n:=n) (q:=q) (ch:=ch) K h2;rw[hd,QG (by rw[e];exact h1),e]
structure Tl where
 h:List (List UInt8)
 ra:List Int
deriving DecidableEq
def uz(key:Vector UInt8 16)(n:Nat)(l:List oN):Tl:=
 let r:=l.filter fun x=>decide (x.q≠0)
 if r=[]then⟨[],[]⟩else⟨r.map (·.E),EA n (r.map fun x=>x.q.e) (chF key n (r.map (·.E)))⟩
def Dk(t:Tl)(h:Nat):Option (List UInt8):=if t.ra.a=0 then none else some (t.h.b (t.ra.b (h%t.ra.a) 0).e [])
theorem adj{n:Nat}{q:List Nat}{ch:Nat->Nat->Nat}(h:q≠[])(h0:∀x∈q,0<x)(hf:acZ n q.a ch):(EA n q ch).a=n/\∀j,j<n->∃i,i<q.a/\(EA n q ch).b j 0=(i:Int):=by
 obtain⟨K,_,h1,h2,h3⟩:=YQ (n:=n) (ch:=ch) h h0;have hq:0<q.a:=List.length_pos_iff.2 h;have ok:=alE (g:=lK q) hq hf K h2;rw[h3];refine⟨ok.sll,fun j hj=>?_⟩;rcases ok.rng j hj with e|e
 ·exfalso
  have hfr:=ok.fr;rw[h1]at hfr;have:rT (jL (lK q) n q ch K).sl j=true:=by unfold rT;rw[e];rfl
  have hpos:=OX _ j 0 this (by rw[ok.sll];exact hj) (by decide);omega
 ·exact e
theorem YR{key:Vector UInt8 16}{n:Nat}{l:List oN}(hp:kZ n=true)(h0:∀x∈l,0<=x.q):(uz key n l).ra=[]/\(uz key n l).h=[]\/(uz key n l).ra.a=n/\∀j,j<n->∃i,i<(uz key n l).h.a/\(uz key n l).ra.b j 0=(i:Int):=by
 unfold uz;simp only;split
 ·exact .a ⟨rfl,rfl⟩
 ·rename_i hr
  right;have:=adj (n:=n) (q:=(l.filter fun x=>decide (x.q≠0)).map fun x=>x.q.e) (ch:=chF key n ((l.filter fun x=>decide (x.q≠0)).map (·.E))) (by simpa using hr) (by
   intro x hx;obtain⟨y,hy,rfl⟩:=List.mem_map.1 hx;obtain⟨h1,h2⟩:=List.mem_filter.1 hy;have:=h0 y h1;simp at h2;omega) (by rw[bQ];have:=al8 (key:=key) (n:=n) (l:=(l.filter fun x=>decide (x.q≠0)).map (·.E)) hp;rwa [bQ]at this)
  simp only[bQ]at this ⊢;exact this
section
open Go.ChangeShapes Go.WideShapes Go.ChangeAt Go.RowKit Go.Deep
section
variable {H:Type} {enc:bM×aB->H} {w:ak} {base:Nat} {spare:Nat->Bool} {held:Bool} {fuel:Nat} {t:bM} {cs:List aB} {x:DataW H×List MemPlace}
theorem MZ(h:lV enc ah w base spare held fuel 27 cs=some x):∃a:fu,cs=a.ay.a:=by
 obtain⟨xs,n,_,_,hl,hxl,hf⟩:=uO Tryz.underlying27 h;rw[show ah.cellsOf 27=17 by kernel_rfl]at hl;obtain⟨y0,h0⟩:=Kn hxl hf 0 _ rfl;obtain⟨y1,h1⟩:=Kn hxl hf 1 _ rfl;obtain⟨b,hb,_⟩:=Ie (by kernel_rfl) h0;obtain⟨v,hv⟩:=Ms (k:=16) (e:=5) (by kernel_rfl) (by kernel_rfl) (by kernel_rfl) (by kernel_rfl) h1;have c0:(cs.f 0).d 1=[.bool b]:=hb;have c1:(cs.f 1).d 16=v.a.map bv:=hv;refine⟨⟨b,v⟩,?_⟩;have e:=tq cs 0 1;rw[c0,tq cs (0+1) 16,c1,iR (i:=0+1+16) (by omega)]at e;simpa[fu.ay]using e
def Bk.OE(b:Bk):Prop:=b.rF/\-9223372036854775808<=b.nH/\b.nH<=9223372036854775807
theorem apF(h:lV enc ah w base spare held fuel 62 cs=some x):∃b:Bk,cs=b.ay.a/\b.OE:=by
 obtain⟨xs,n,_,_,hl,hxl,hf⟩:=uO Tryz.underlying62 h;rw[show ah.cellsOf 62=27 by kernel_rfl]at hl;obtain⟨y0,h0⟩:=Kn hxl hf 0 _ rfl;obtain⟨y1,h1⟩:=Kn hxl hf 1 _ rfl;obtain⟨y2,h2⟩:=Kn hxl hf 2 _ rfl;obtain⟨y3,h3⟩:=Kn hxl hf 3 _ rfl;obtain⟨y4,h4⟩:=Kn hxl hf 4 _ rfl;obtain⟨y5,h5⟩:=Kn hxl hf 5 _ rfl;obtain⟨s,hs,hsl⟩:=Uf (by kernel_rfl) h0;obtain⟨a,ha⟩:=MZ h1;obtain⟨p,hp,hp1,hp2⟩:=sG (by kernel_rfl) h2;obtain⟨m,hm⟩:=Ms (k:=6) (e:=5) (by kernel_rfl) (by kernel_rfl) (by kernel_rfl) (by kernel_rfl) h3;obtain⟨f,hf,hf2⟩:=acu (by kernel_rfl) h4;obtain⟨d,hd,_⟩:=Ie (by kernel_rfl) h5;have c0:(cs.f 0).d 1=[.g (bK s)]:=hs;have c1:(cs.f 1).d 17=a.ay.a:=ha;have c2:(cs.f 18).d 1=[.b .a p]:=hp;have c3:(cs.f 19).d 6=m.a.map bv:=hm;have c4:(cs.f 25).d 1=[fv f]:=hf;have c5:(cs.f 26).d 1=[.bool d]:=hd;refine⟨⟨s,a,p,m,f,d⟩,?_,⟨hsl,hf2⟩,hp1,hp2⟩;have e:=tq cs 0 1;rw[c0,tq cs (0+1) 17,c1,tq cs (0+1+17) 1,c2,tq cs (0+1+17+1) 6,c3,tq cs (0+1+17+1+6) 1,c4,tq cs (0+1+17+1+6+1) 1,c5,iR (i:=0+1+17+1+6+1+1) (by omega)]at e;simpa[Bk.ay,fu.ay]using e
def qM.OE(o:qM):Prop:=o.h.OE/\o.w<18446744073709551616/\o.E.a<=9223372036854775807
theorem al9(h:lV enc ah w base spare held fuel 64 cs=some x):∃o:qM,cs=o.ay.a/\o.OE:=by
 obtain⟨xs,n,_,_,hl,hxl,hf⟩:=uO vC h;rw[show ah.cellsOf 64=30 by kernel_rfl]at hl;obtain⟨y0,h0⟩:=Kn hxl hf 0 _ rfl;obtain⟨y1,h1⟩:=Kn hxl hf 1 _ rfl;obtain⟨y2,h2⟩:=Kn hxl hf 2 _ rfl;obtain⟨y3,h3⟩:=Kn hxl hf 3 _ rfl;obtain⟨k,hk,_,_⟩:=sG (by kernel_rfl) h0;obtain⟨b,hb,hbg⟩:=apF h1;obtain⟨s,hs,hsl⟩:=Uf (by kernel_rfl) h2;obtain⟨f,hf,hf2⟩:=acu (by kernel_rfl) h3;have c0:(cs.f 0).d 1=[.b .a k]:=hk;have c1:(cs.f 1).d 27=b.ay.a:=hb;have c2:(cs.f 28).d 1=[.g (bK s)]:=hs;have c3:(cs.f 29).d 1=[fv f]:=hf;refine⟨⟨k,b,s,f⟩,?_,hbg,hf2,hsl⟩;have e:=tq cs 0 1;rw[c0,tq cs (0+1) 27,c1,tq cs (0+1+27) 1,c2,tq cs (0+1+27+1) 1,c3,iR (i:=0+1+27+1+1) (by omega)]at e;simpa[qM.ay]using e
end
end
theorem ama{v:Int}{l:List Bk}(hs:Es l)(o:qM):Es (doL v l o):=by
 unfold doL;split
 ·rename_i h
  obtain⟨_,_,_,h1,_,h6⟩:=aaU h;unfold Pn;split
  ·rename_i hk
   exact apD (x:=o.h.Oo (kI o.h.w)) hs (h1 hk).2.1
  ·rename_i hk
   have hh:=h6 hk;split
   ·exact apE hs _
   ·split
    ·exact ahA hs (wS hh) (by rw[afE hh];exact(SK hh).2)
    ·exact ahA hs (wS hh) (by rw[afE hh];exact(SK hh).2)
 ·exact hs
theorem amb{v:Int}{l:List Bk}(o:qM):(doL v l o).a=if qm v l o=0/\o.kind=1 then l.a+1 else if qm v l o=0/\o.kind=2 then l.a-1 else l.a:=by
 unfold doL;by_cases h:qm v l o=0
 ·obtain⟨_,_,_,h1,_,h6⟩:=aaU h
  simp only[h,true_and,if_true];unfold Pn;by_cases h1:o.kind=1
  ·simp only[h1,if_true];exact xZ _ _ _
  ·simp only[h1,if_false]
   by_cases h2:o.kind=2
   ·simp only[h2,if_true];exact MW _ _ (wS (h6 h1))
   ·simp only[h2,if_false]
    split<;>exact aV
 ·simp[h]
theorem adk(x:Nat):kI x=0\/kI x=x:=by unfold kI;split<;>simp
theorem adl{x:Nat}(h:XG x=true):XG (kI x)=true:=by
 rcases adk x with h1|h1<;>rw[h1]
 ·decide +kernel
 ·exact h
theorem adn{x:Nat}(h:x<18446744073709551616):kI x<18446744073709551616:=by
 rcases adk x with h1|h1<;>rw[h1]
 ·decide
 ·exact h
theorem ado(x:Nat):kI (kI x)=kI x:=by
 unfold kI;by_cases h:(ord x 0==some .eq)=true
 ·simp only[h,if_true]
  split<;>rfl
 ·simp only[h]
  simp[h]
theorem YS(x:Nat):XI (kI x)=true:=by unfold XI;rw[ado];exact aiL _
theorem adp{x:Bk}{u:Nat}(h:x.Br=true)(hu:XG u=true):(x.Oo u).Br=true:=by
 unfold Bk.Br at h ⊢;simp only[bf]at h ⊢;exact⟨⟨⟨⟨h.1.1.1.1,h.1.1.1.2⟩,h.1.1.2⟩,h.1.2⟩,hu⟩
theorem atw{x:Bk}(h:x.Br=true):XG x.w=true:=by
 unfold Bk.Br at h;simp only[bf]at h;exact h.2
theorem afF{v:Int}{l:List Bk}{o:qM}(hr:xW v l=true)(hf:∀x∈l,x.rF)(hof:o.h.rF)(how:o.w<18446744073709551616)(h:qm v l o=0):
 xW (v+1) (doL v l o)=true/\∀x∈doL v l o,x.rF:=by
 obtain⟨h1,h2,h3,h4,h5⟩:=tK.1 hr;obtain⟨w1,w2,w3,w4,w5,w6⟩:=aaU h;have hl:=amb (v:=v) (l:=l) o;have hs:=ama (v:=v) h5 o;have key:∀x∈doL v l o,(x.Br=true/\XI x.w=true)/\x.rF:=by
  unfold doL;rw[if_pos h];unfold Pn;split
  ·rename_i hk
   intro x hx;rcases apC.1 hx with rfl|hx
   ·have hb:=(w4 hk).1
    exact⟨⟨adp hb (adl (atw hb)),YS _⟩,hof.1,adn hof.2⟩
   ·exact⟨h4 x hx,hf x hx⟩
  ·rename_i hk
   have hh:=w6 hk;have hin:=SK hh;have hnm:=afE hh;split
   ·intro x hx
    have:=((ahz h5 (wS hh)).1 hx).1;exact⟨h4 x this,hf x this⟩
   ·split
    ·rename_i hk3
     intro x hx;rcases(ahB h5 (wS hh) (z:=(oM l o.E).Oo (kI o.w)) (by rw[hnm];exact hin.2)).1 hx with rfl|⟨hx,_⟩
     ·exact⟨⟨adp (h4 _ hin.1).1 (adl (w5 hk3)),YS _⟩,(hf _ hin.1).1,adn how⟩
     ·exact⟨h4 x hx,hf x hx⟩
    ·intro x hx
     rcases(ahB h5 (wS hh) (z:=(oM l o.E).toD (o.kind==4)) (by rw[hnm];exact hin.2)).1 hx with rfl|⟨hx,_⟩
     ·have e1:((oM l o.E).toD (o.kind==4)).Br=(oM l o.E).Br:=rfl
      have e2:((oM l o.E).toD (o.kind==4)).w=(oM l o.E).w:=rfl;rw[e1,e2];exact⟨h4 _ hin.1,(hf (oM l o.E) hin.1:(oM l o.E).rF)⟩
     ·exact⟨h4 x hx,hf x hx⟩
 refine⟨tK.2 ⟨by omega,by omega,?_,fun x hx=>(key x hx).1,hs⟩,fun x hx=>(key x hx).2⟩;rw[hl];split
 ·rename_i hk
  have:=(w4 hk.2).2.2;omega
 ·split<;>omega
def M7(w:ak)(m:List oN)(e:lq)(w':ak):Prop:=
 ∃A c,e=.a (.a A m.a c)/\w'.c w.a.j 151 2 (.a A m.a c) m.a (AB m)/\aL w.a.j w w'
theorem afG{w wr:ak}{v:aB}{m:List oN}{n:Nat}(hn:m.a=n)(ho:wr.c (w.a.j+1) 151 2 v n (AB m))(hb:aL w.a.j w wr):M7 w m (.a v) wr:=by
 subst hn;obtain⟨A,c,rfl,_,_⟩:=jG ho;exact⟨A,c,rfl,iG ho (by omega),hb⟩
theorem Vk(l:List Bk)(hf:∀x∈l,x.rF)(v:Int)(A:Option aS)(c:Nat)(ls:List (List UInt8))(D:Option aS)(d:Nat)(w:ak)(hR:FL w w.a.j A l.a l)(hD:aaK w w.a.j D ls.a ls)(hn:l.a<=100000)(hd:ls.a<4611686018427387904):
 aQ ah 28 #[.d #[.b .a v,.a A l.a c],.a D ls.a d] w (M7 w (kr ls l)):=by
 have HR:=ab hR;have HF:=ab hf;have HD:=ab hD;have HB0:=ab (fun ob=>((aH w.a.j w).alloc (av _) ob:aL w.a.j w (w.alloc ob)));have DR:=ab (fun i=>XW ls l i);have HSL:=ab (show l.d l.a=l from List.take_length);obtain⟨i0,hi0,hz0,hz1,hzb⟩:=aaV;have HI0:=ab hi0;have HZ0:=ab hz0;have HZ1:=ab hz1;have HZ2:=ab (show(bY #[ig ⟨#[]⟩,aI .a 0]).D.j=2 from rfl);clear hR hf hD hi0 hz0 hz1;obtain⟨n,hnl⟩:=dw l.a;rw[<-hnl]at HR hn HSL ⊢;have HN:=ab hnl;clear hnl;go_enter Tryz.func28,Tryz.ntmps28;go_wp2;go_loopw [5,13] (fun s5 s13 wr=>∃(i:Nat)(O:Option aS)(cap:Nat),i<=n/\s5=.a O i cap/\s13=.b .a i/\wr.c (w.a.j+1) 151 2 (.a O i cap) i (AB (kr ls (l.d i)))/\aL (w.a.j+1) (w.alloc (.D #[.b .a v,.a A n c] 32)) wr) (fun _ s13 _=>n-(intOf s13).e)
 case atStart=>exact⟨0,none,0,by omega,rfl,rfl,eY _ _ _ _,by simpa using aH _ _⟩
 case round=>
  obtain⟨i,O,cap,hin,rfl,rfl,ho,hb⟩:=hrel;have HB:=ab hb;have hbw:=(HB0.i (.D #[.b .a v,.a A n c] 32)).trans (hb.g (by simp));have HBW:=ab hbw;have hsz:=hb.j;have OW:=ab (fun ob ug=>(ho.alloc ob).alloc ug);have O0:=ab ho;clear hb hbw ho;by_cases hlt:i<n
  ·have hi:(i:Int)<n:=by omega
   obtain⟨b,o,rfl,hbb,hh,hc⟩:=(HR.i.S HBW.i).at_ hlt;have hbs:b<wr.a.j:=by simp at hsz;omega
   have hmem:l.b i jk∈l:=by
    have:=HN.i;rw[au,aC (by omega)];simp
   obtain⟨hx1,hx2⟩:=HF.i _ hmem;have hsn:=DR.i i (by have:=HN.i;omega);obtain⟨x,hx⟩:=dw (l.b i jk);rw[<-hx]at hc hx1 hx2 hsn;have atx:=ab hsn;clear hx hmem hsn hbb;have HDB:=ab (fun ob=>(((HD.i.S HBW.i).alloc (show w.a.j<=wr.a.j by simp at hsz;omega) ob).lD (B':=(wr.alloc ob).a.j) (by simp at hsz⊢;omega):aaK (wr.alloc ob) (wr.alloc ob).a.j D ls.a ls));have HQ:∀W,aQ ah 86 #[.float .f64 x.w] W fun e w'=>e=.a (.J #[.b .a (wQ x.w),.bool (XG x.w)])/\W=w':=fun W=>ae9 x.w hx2 W
   have HQU:=ab HQ;have Qz:=ab (show i+1<=maxLen by unfold maxLen;omega);have QA:=ab (show(i+1)*i0.bytes<=140737488355328 from aO (gG (show i+1<=100001 by omega) hzb) (by omega));have HBS:=ab (fun ob ug=>show w.a.j+1<=((wr.alloc ob).alloc ug).a.j by simp at hsz⊢;omega);have MO:=ab (fun(ob:Obj) (cc:Array aB) (h2:cc.j=2)=>(⟨by simp[h2],fun _=>⟨_,rfl,mG _,aaR _ _ cc _ _ (by have:=Gy (wr.alloc ob) (.D cc 151);rwa [show(wr.alloc ob).a.j=wr.a.j+1 by simp]at this)⟩⟩:Rd ((wr.alloc ob).alloc (.D cc 151)) (wr.a.j+1+1) 2 (some ⟨wr.a.j+1,0,none⟩) 1 cc.a));have HBN:=ab (fun ob ug=>((HB.i.alloc (show w.a.j+1<=wr.a.j by simpa using hsz) ob).alloc (by simp at hsz⊢;omega) ug:aL (w.a.j+1) _ ((wr.alloc ob).alloc ug)));clear HQ hx1 hx2;have hso:Gb ls x=⟨x.E,if x.drain||qZ ls x.E then 0 else wQ x.w⟩:=rfl;have HSO:=ab hso;clear hso;cases kd:x.drain
   ·have HKD:=ab kd
    have HCO:∀ob,aQ ah 87 #[.a D ls.a d,.g (bK x.E)] (wr.alloc ob) fun e w'=>e=.a (.bool (qZ ls x.E))/\wr.alloc ob=w':=fun ob=>MH ls x.E D d _ (HDB.i ob) hd
    cases kc:qZ ls x.E
    all_goals
     rw[kc]at HCO;have axE:=ab HCO;have HKC:=ab kc;clear HCO kc
    ·go_wp2_with (first
      | (go_at_call 86;refine(HQU.i _).g ?_;rintro e w' ⟨rfl,rfl⟩)
      | (go_at_call 87;refine(axE.i _).g ?_;rintro e w' ⟨rfl,rfl⟩)
      | (at_builtin;refine ji _ rfl (.a 31) (.a 36) _ rfl (w.a.j+1) 151 i0 (.d #[.g ⟨#[]⟩,.b .a 0]) 2 i0.bytes vD HI0.i HZ0.i HZ1.i rfl HZ2.i (lH _) (.a O i cap) i (AB (kr ls (l.d i))) rfl (OW.i _ _) (wr.a.j+1+1) (some ⟨wr.a.j+1,0,none⟩) 1 1 [.g (bK x.E),.b .a (wQ x.w)] rfl (MO.i _ #[.g (bK x.E),.b .a (wQ x.w)] rfl) (by simp[cB]) Qz.i QA.i (HBS.i _ _) ?_
         intro v1 w1 hown1 hg1 wJ;have O1:=ab hown1;have G1:=ab hg1;clear hown1 hg1 wJ))
     obtain⟨O',cap',rfl,_,_⟩:=jG O1.i;go_roundw
     case rel=>exact⟨i+1,O',cap',by omega,rfl,by go_num,by rw[atx.i,Ga,HSO.i,HKD.i,HKC.i];exact O1.i,(HBN.i _ _).grown G1.i (by simp at hsz⊢;omega) (fun k hk=>(O0.i.lt k hk).1)⟩
     case measure=>simp[intOf]<;>omega
    ·go_wp2_with (first
      | (go_at_call 86;refine(HQU.i _).g ?_;rintro e w' ⟨rfl,rfl⟩)
      | (go_at_call 87;refine(axE.i _).g ?_;rintro e w' ⟨rfl,rfl⟩)
      | (at_builtin;refine ji _ rfl (.a 31) (.a 36) _ rfl (w.a.j+1) 151 i0 (.d #[.g ⟨#[]⟩,.b .a 0]) 2 i0.bytes vD HI0.i HZ0.i HZ1.i rfl HZ2.i (lH _) (.a O i cap) i (AB (kr ls (l.d i))) rfl (OW.i _ _) (wr.a.j+1+1) (some ⟨wr.a.j+1,0,none⟩) 1 1 [.g (bK x.E),.b .a 0] rfl (MO.i _ #[.g (bK x.E),.b .a 0] rfl) (by simp[cB]) Qz.i QA.i (HBS.i _ _) ?_
         intro v1 w1 hown1 hg1 wJ;have O1:=ab hown1;have G1:=ab hg1;clear hown1 hg1 wJ))
     obtain⟨O',cap',rfl,_,_⟩:=jG O1.i;go_roundw
     case rel=>exact⟨i+1,O',cap',by omega,rfl,by go_num,by rw[atx.i,Ga,HSO.i,HKD.i,HKC.i];exact O1.i,(HBN.i _ _).grown G1.i (by simp at hsz⊢;omega) (fun k hk=>(O0.i.lt k hk).1)⟩
     case measure=>simp[intOf]<;>omega
   ·have HKD:=ab kd
    go_wp2_with (first
     | (go_at_call 86;refine(HQU.i _).g ?_;rintro e w' ⟨rfl,rfl⟩)
     | (at_builtin;refine ji _ rfl (.a 31) (.a 36) _ rfl (w.a.j+1) 151 i0 (.d #[.g ⟨#[]⟩,.b .a 0]) 2 i0.bytes vD HI0.i HZ0.i HZ1.i rfl HZ2.i (lH _) (.a O i cap) i (AB (kr ls (l.d i))) rfl (OW.i _ _) (wr.a.j+1+1) (some ⟨wr.a.j+1,0,none⟩) 1 1 [.g (bK x.E),.b .a 0] rfl (MO.i _ #[.g (bK x.E),.b .a 0] rfl) (by simp[cB]) Qz.i QA.i (HBS.i _ _) ?_
        intro v1 w1 hown1 hg1 wJ;have O1:=ab hown1;have G1:=ab hg1;clear hown1 hg1 wJ))
    obtain⟨O',cap',rfl,_,_⟩:=jG O1.i;go_roundw
    case rel=>exact⟨i+1,O',cap',by omega,rfl,by go_num,by rw[atx.i,Ga,HSO.i,HKD.i];exact O1.i,(HBN.i _ _).grown G1.i (by simp at hsz⊢;omega) (fun k hk=>(O0.i.lt k hk).1)⟩
    case measure=>simp[intOf]<;>omega
  ·obtain rfl:i=n:=by omega
   have hd:decide ((i:Int)<i)=false:=by simp
   go_wp2;go_ret;have hO:=O0.i;rw[HSL.i]at hO;exact afG (n:=i) (by rw[kr,bQ];exact HN.i.symm) hO HBW.i
end Go.Proofs.YtkjojjopamaoiaaGreat
