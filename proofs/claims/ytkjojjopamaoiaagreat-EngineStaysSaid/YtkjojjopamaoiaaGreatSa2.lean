/- Parts. -/
import Derived.Test.YtkjojjopamaoiaaGreatSa1
set_option linter.unusedSimpArgs false
set_option linter.unusedVariables false
set_option linter.unusedSectionVars false
set_option maxRecDepth 100000
set_option maxHeartbeats 8000000
open Array renaming ext_getElem?->dU,getElem?_eq_none->aU,size_extract->jB,getElem?_toList->dD,length_toList->aY,all_eq_true_iff_forall_mem->fV,getElem?_eq_some_iff->bV,size->Array.j,toList->Array.a,getD->Array.c
open Bool renaming and_eq_true->bf
open Go renaming Value->aB,World->ak,Calls->aQ,Addr->aT,TypeId->bK,cell_of_row->sW,Ending->kZ,setRow_heap->rz,setRow_other->oJ,length_splice->vQ,bodyPost_ret->aN,heap_alloc_new->Gc
open Go.Addr renaming add_mid->iD
open Go.Calls renaming mono->Go.Calls.g
open Go.DataW renaming trod->lT,trod_struct->uM,trod_bool->GZ,agg->Go.DataW.d
open Go.Ending renaming returned->Go.Ending.a
open Go.Instr renaming loadAt->cu,buildSlice->bI,slice->Go.Instr.a
open Go.IntKind renaming i64->Go.IntKind.a
open Go.Lib renaming hid->ab
open Go.Obj renaming cells->Go.Obj.D
open Go.Op renaming slice->Go.Op.a
open Go.Operand renaming tmp->Go.Operand.a
open Go.Proofs.Tryz renaming prog->ah,underlying64->vk,underlying30->jd,func140->BZ,ntmps140->Ad,func71->ED,ntmps71->Ca,underlying75->vo
open Go.ResultVar renaming tmp->Go.ResultVar.a
open Go.RowKit renaming Below->aM
open Go.RowKit.Below renaming refl->aG,size->Go.RowKit.Below.j,mono->Go.RowKit.Below.g,setCell->Go.RowKit.Below.F
open Go.RowKit.Hid renaming out->Go.RowKit.Hid.i
open Go.Sem renaming run->Go.Sem.I
open Go.Tables renaming info?->Go.Tables.l
open Go.TypeDesc renaming slice->Go.TypeDesc.a,int->Go.TypeDesc.b,string->Go.TypeDesc.g
open Go.TypeInfo renaming size->Go.TypeInfo.j
open Go.Value renaming int->aI,string->iC,agg->bY,cells->bW,slice->bD,oneCell'->cO,cells->Go.Value.D,slice->Go.Value.a,int->Go.Value.b,agg->Go.Value.d,tuple->Go.Value.J,oneCell'->Go.Value.h,string->Go.Value.g
open Go.World renaming frozen?->sj,setRow->rU,ownsRow_nil->fE,setCell->gY,heap->Go.World.a,cell?->Go.World.b,setCell->Go.World.F,ownsRow->Go.World.c
open Int renaming toNat->Int.e
open List renaming getElem?_toArray->dZ,getElem?_append->kQ,take_append_drop->iG,take_append_of_le_length->gu,length_take->bJ,take_of_length_le->aK,length_drop->jw,getElem?_drop->je,getElem?_take->jf,size_toArray->dI,drop_of_length_le->iQ,eq_nil_of_length_eq_zero->bE,take_take->vP,length_set->aV,getD_eq_getElem?_getD->au,getElem?_eq_none->aS,getElem?_eq_getElem->aC,getElem_of_mem->lD,pairwise_iff_getElem->fO,getElem_mem->dX,mem_append->ql,mem_cons->bC,pairwise_cons->gI,drop_eq_getElem_cons->kS,mem_append_left->Am,foldl_cons->jU,length_map->bT,length->List.a,toArray->List.b,getD->List.c,take->List.d,drop->List.f,below->List.S
open Nat renaming lt_or_ge->aZ,add_comm->uE,le_refl->av,zero_add->bl,min->qj,sub_mul->AJ,mul_le_mul_right->cZ,le_of_lt->mH,min_eq_left->ou,le_trans->aO,mul_le_mul->gP,succ_pos->mI,lt_succ_self->mG,eq_zero_or_pos->dW,mod_lt->fC,add_assoc->ng,below->Nat.S
open Option renaming getD->Option.c
open Or renaming inl->Or.a,inr->Or.b
open Vector renaming toList->Vector.a
namespace Go.Proofs.YtkjojjopamaoiaaGreat
open Go.RowKit
@[go_sem]theorem Bk.eD(x:Bk):eD x.ay=27:=Bk.G x
@[go_sem]theorem fq.eD(x:fq):eD x.ay=17:=fq.G x
@[go_sem]theorem Bk.jC(x:Bk):x.ay.extract 0 27=x.ay:=by
 have:=Bk.G x;rw[<-this];simp
@[go_sem]theorem Bk.Fu(x:Bk):x.ay.extract 1 18=x.h.ay:=by
 apply dU;intro j;rcases aZ j 17 with hj|hj
 ·rw[show(18:Nat)=1+17 from rfl,nX x.ay 1 17 j hj (by rw[Bk.G];omega),uE,Bk.abt x j hj]
 ·rw[aU (by rw[jB,Bk.G];omega),aU (by rw[fq.G];exact hj)]
structure nK where
 kind:Int
 h:Bk
 E:List UInt8
 w:Nat
def nK.ay(o:nK):Array aB:=(aI .a o.kind::(o.h.ay.a++[iC (bU o.E),fv o.w])).b
theorem nK.G(o:nK):o.ay.j=30:=by simp[nK.ay,Bk.G]
@[go_sem]theorem nK.eD(o:nK):eD o.ay=30:=nK.G o
@[go_sem]theorem nK.pX(o:nK):o.ay[0]? = some (.b .a o.kind):=by simp[nK.ay]
theorem nK.alb(o:nK)(j:Nat)(hj:j<27):o.ay[j+1]? = o.h.ay[j]?:=by
 simp[nK.ay,dZ,kQ,Bk.G,hj]
@[go_sem]theorem nK.DY(o:nK):o.ay[1]? = some (.g (bU o.h.E)):=by rw[nK.alb o 0 (by omega),Bk.pX]
@[go_sem]theorem nK.asH(o:nK):o.ay[28]? = some (.g (bU o.E)):=by simp[nK.ay,dZ,kQ,Bk.G]
@[go_sem]theorem nK.aBD(o:nK):o.ay[29]? = some (.float .f64 o.w):=by simp[nK.ay,dZ,kQ,Bk.G,fv]
@[go_sem]theorem nK.asI(o:nK):o.ay.extract 1 28=o.h.ay:=by
 apply dU;intro j;rcases aZ j 27 with hj|hj
 ·rw[show(28:Nat)=1+27 from rfl,nX o.ay 1 27 j hj (by rw[nK.G];omega),uE,nK.alb o j hj]
 ·rw[aU (by rw[jB,nK.G];omega),aU (by rw[Bk.G];exact hj)]
@[go_sem]theorem nK.jC(o:nK):o.ay.extract 0 30=o.ay:=by
 have:=nK.G o;rw[<-this];simp
def Mf(v:aB):Sem aB:=cu 64 v
@[go_sem ↓]theorem asJ(v:aB):cu 64 v=Mf v:=rfl
@[go_sem]theorem alc(W:ak)(b o:Nat)(h:xA W b o 30):(Mf (.pointer (some ⟨b,o,none⟩))).I ah W=.ok (.d (dY W b o 30)) W:=
 j5 W b o 30 _ _ vk rfl (by kernel_rfl) h
@[go_sem]theorem aoM(W:ak)(c:Array aB)(x:Bk)(b:Nat)(hb:b=W.a.j)(hc:eD c=27):
 (Ju (.pointer (some ⟨b,0,none⟩)) (.d x.ay)).I ah (W.alloc (.D c 62))=.ok () (W.alloc (.D x.ay 62)):=by
 subst hb;exact LK W c x hc
def aq4(n:Nat)(ps:Array (Nat×aB)):Sem aB:=bI 30 n ps
@[go_sem ↓]theorem awE(n:Nat)(ps:Array (Nat×aB)):bI 30 n ps=aq4 n ps:=rfl
@[go_sem]theorem avr(w:ak)(x:Bk):(aq4 1 #[(0,.d x.ay)]).I ah w=.ok (.a (some ⟨w.a.j,0,none⟩) 1 1) (w.alloc (.D x.ay 62)):=by
 obtain⟨i0,hi0,hz0,hz1,hzb⟩:=N7;exact rO w _ _ i0 (.d jk.ay) 27 jd hi0 hz0 hz1 (Bk.G jk) (by omega) (by omega) x.ay (Bk.G x)
def nK.Xv(o:nK):List UInt8:=if o.kind=1 then o.h.E else o.E
def qp(v:Int)(l:List Bk)(o:nK):Int:=
 if o.kind<1 then 1 else if 5<o.kind then 1 else if o.kind=1/\o.h.AY=false then 1 else if o.kind=3/\Ws o.w=false then 1
 else if o.kind=1/\rP l o.Xv=true then 6 else if o.kind=1/\1024<=l.a then 7 else if o.kind≠1/\rP l o.Xv=false then 5
 else if o.kind=4/\(pO l o.Xv).drain=true then 6 else if o.kind=5/\(pO l o.Xv).drain=false then 6 else if 1099511627776<=v then 7 else 0
theorem ab8(x:Nat)(hx:x<18446744073709551616)(w:ak):aQ ah 170 #[.float .f64 x] w fun e w'=>e=.a (.bool (Ws x))/\w=w':=by
 rw[<-Jw hx];exact Jv x w
theorem JD(l:List Bk)(hs:DN l)(v:Int)(o:nK)(hf:o.h.rE)(hw:o.w<18446744073709551616)(A:Option aT)(c:Nat)(w:ak)(hR:Fa w w.a.j A l.a l)(hn:l.a<4611686018427387904):
 aQ ah 140 #[.d #[.b .a v,.a A l.a c],.d o.ay] w (gU w (.b .a (qp v l o))):=by
 obtain⟨hf1,hf2⟩:=hf;have HS:=ab hs;have HR1:=ab (fun ob tZ=>((hR.alloc (av _) ob).alloc (by simp) tZ).lu (B':=((w.alloc ob).alloc tZ).a.j) (by simp;omega));have HB0:=ab (fun ob tZ=>(((aG w.a.j w).alloc (av _) ob).alloc (by simp) tZ:aM w.a.j w ((w.alloc ob).alloc tZ)));clear hR hs;have Bj:qp v l o=(if o.kind<1 then 1 else if 5<o.kind then 1 else if o.kind=1/\o.h.AY=false then 1 else if o.kind=3/\Ws o.w=false then 1
  else if o.kind=1/\rP l o.Xv=true then 6 else if o.kind=1/\1024<=l.a then 7 else if o.kind≠1/\rP l o.Xv=false then 5
  else if o.kind=4/\(pO l o.Xv).drain=true then 6 else if o.kind=5/\(pO l o.Xv).drain=false then 6 else if 1099511627776<=v then 7 else 0):=rfl
 have HW:=ab Bj;clear Bj;by_cases h1:o.kind=1
 ·have hwho:o.Xv=o.h.E:=by simp[nK.Xv,h1]
  have aeF:=ab hwho;obtain⟨K,hK⟩:=tV o.h.AY;have hri:=fun W=>abH o.h W hf1 hf2
  rw[hK]at hri;have HRI:=ab hri;have HK:=ab hK;have H1:=ab h1;clear hwho hri hK;go_enter BZ,Ad;go_wp2_with fail;refine(AZ l HS.i _ v A c _ (HR1.i _ _) hn).g ?_;rintro e w1 ⟨rfl,hb1⟩;obtain⟨hx1,hx2,hx3,hx4,hx5⟩:=Sn hb1;have hz0:w.a.j<w1.a.j:=by simp at hx5;omega
  have hz1:w.a.j+1<w1.a.j:=by simp at hx5;omega
  clear hx5;have HB1:=ab ((HB0.i _ _).trans (hb1.g (by simp;omega)));have HB2:=ab (HB1.i.alloc (by omega) (.D (pO l o.h.E).ay 62));clear hb1;go_wp2_with fail;refine(HRI.i _).g ?_;rintro e w2 ⟨rfl,hb2⟩;obtain⟨hy1,hy2,hy3,hy4,hy5⟩:=Sn hb2;have hz2:w1.a.j<w2.a.j:=by simp at hy5;omega
  have hz3:w.a.j<w2.a.j:=by omega
  have hz4:w.a.j+1<w2.a.j:=by omega
  clear hy5;have HB2:=ab ((HB1.i.alloc (by omega) (.D (pO l o.h.E).ay 62)).trans (hb2.g (by simp;omega)));clear hb2;cases K
  all_goals
   go_wp2_with fail
  all_goals
   go_ret;exact⟨by rw[HW.i,aeF.i,HK.i,H1.i];simp[*];try omega,HB2.i⟩
 have hwho:o.Xv=o.E:=by simp[nK.Xv,h1]
 have aeF:=ab hwho;have H1:=ab h1;clear hwho;have g1:(o.kind==1)=false:=by simpa using h1
 have g1':(o.kind != 1)=true:=by simpa using h1
 rcases(show o.kind<1\/5<o.kind\/o.kind=2\/o.kind=3\/o.kind=4\/o.kind=5 by omega)with h2|h2|h2|h2|h2|h2
 ·clear h1
  go_enter BZ,Ad;go_wp2_with fail;refine(AZ l HS.i _ v A c _ (HR1.i _ _) hn).g ?_;rintro e w1 ⟨rfl,hb1⟩;obtain⟨hx1,hx2,hx3,hx4,hx5⟩:=Sn hb1;have hz0:w.a.j<w1.a.j:=by simp at hx5;omega
  have hz1:w.a.j+1<w1.a.j:=by simp at hx5;omega
  clear hx5;have HB1:=ab ((HB0.i _ _).trans (hb1.g (by simp;omega)));have HB2:=ab (HB1.i.alloc (by omega) (.D (pO l o.E).ay 62));clear hb1;go_wp2_with fail;go_ret;exact⟨by rw[HW.i,aeF.i];simp[*],HB2.i⟩
 ·clear h1
  have g2:¬o.kind<1:=by omega
  go_enter BZ,Ad;go_wp2_with fail;refine(AZ l HS.i _ v A c _ (HR1.i _ _) hn).g ?_;rintro e w1 ⟨rfl,hb1⟩;obtain⟨hx1,hx2,hx3,hx4,hx5⟩:=Sn hb1;have hz0:w.a.j<w1.a.j:=by simp at hx5;omega
  have hz1:w.a.j+1<w1.a.j:=by simp at hx5;omega
  clear hx5;have HB1:=ab ((HB0.i _ _).trans (hb1.g (by simp;omega)));have HB2:=ab (HB1.i.alloc (by omega) (.D (pO l o.E).ay 62));clear hb1;go_wp2_with fail;go_ret;exact⟨by rw[HW.i,aeF.i];simp[*],HB2.i⟩
 ·have H2:=ab h2
  clear h1 g1 g1';go_enter BZ,Ad;go_wp2_with fail;refine(AZ l HS.i _ v A c _ (HR1.i _ _) hn).g ?_;rintro e w1 ⟨rfl,hb1⟩;obtain⟨hx1,hx2,hx3,hx4,hx5⟩:=Sn hb1;have hz0:w.a.j<w1.a.j:=by simp at hx5;omega
  have hz1:w.a.j+1<w1.a.j:=by simp at hx5;omega
  clear hx5;have HB1:=ab ((HB0.i _ _).trans (hb1.g (by simp;omega)));have HB2:=ab (HB1.i.alloc (by omega) (.D (pO l o.E).ay 62));clear hb1;go_wp2_with fail
  all_goals
   go_ret;exact⟨by rw[HW.i,aeF.i,H2.i];clear hx1 hx2 hx3 hx4 HR1 HB0 HB1;first|(simp[*];done)|(simp_all;done)|(simp_all;omega),HB2.i⟩
 ·have H2:=ab h2
  clear h1 g1 g1';go_enter BZ,Ad;go_wp2_with fail;refine(AZ l HS.i _ v A c _ (HR1.i _ _) hn).g ?_;rintro e w1 ⟨rfl,hb1⟩;obtain⟨hx1,hx2,hx3,hx4,hx5⟩:=Sn hb1;have hz0:w.a.j<w1.a.j:=by simp at hx5;omega
  have hz1:w.a.j+1<w1.a.j:=by simp at hx5;omega
  clear hx5;have HB1:=ab ((HB0.i _ _).trans (hb1.g (by simp;omega)));have HB2:=ab (HB1.i.alloc (by omega) (.D (pO l o.E).ay 62));clear hb1;go_wp2_with fail;refine(ab8 o.w hw _).g ?_;rintro e w' ⟨rfl,rfl⟩;go_wp2_with fail
  all_goals
   go_ret;exact⟨by rw[HW.i,aeF.i,H2.i];clear hx1 hx2 hx3 hx4 HR1 HB0 HB1;first|(simp[*];done)|(simp_all;done)|(simp_all;omega),HB2.i⟩
 all_goals
  have H2:=ab h2;clear h1 g1 g1';go_enter BZ,Ad;go_wp2_with fail;refine(AZ l HS.i _ v A c _ (HR1.i _ _) hn).g ?_;rintro e w1 ⟨rfl,hb1⟩;obtain⟨hx1,hx2,hx3,hx4,hx5⟩:=Sn hb1;have hz0:w.a.j<w1.a.j:=by simp at hx5;omega
  have hz1:w.a.j+1<w1.a.j:=by simp at hx5;omega
  clear hx5;have HB1:=ab ((HB0.i _ _).trans (hb1.g (by simp;omega)));have HB2:=ab (HB1.i.alloc (by omega) (.D (pO l o.E).ay 62));clear hb1;go_wp2_with fail
  all_goals
   go_ret;exact⟨by rw[HW.i,aeF.i,H2.i];clear hx1 hx2 hx3 hx4 HR1 HB0 HB1;first|(simp[*];done)|(simp_all;done)|(simp_all;omega),HB2.i⟩
theorem xV(a b:List Bk):dG (a++b)=dG a++dG b:=by simp[dG]
theorem Zt(x:Bk)(b:List Bk):dG (x::b)=x.ay.a++dG b:=by simp[dG]
theorem Mh(l:List Bk)(i:Nat)(hi:i<=l.a):dG (l.d i)=(dG l).d (i*27):=by
 have h:=xV (l.d i) (l.f i);rw[iG]at h;rw[h,gu (by rw[jy,bJ];omega)];exact(aK (by rw[jy,bJ];omega)).symm
theorem Mi(l:List Bk)(i:Nat)(hi:i<=l.a):dG (l.f i)=(dG l).f (i*27):=by
 have h:=xV (l.d i) (l.f i);rw[iG]at h;have hl:(dG (l.d i)).a=i*27:=by rw[jy,bJ];omega
 rw[h,<-hl,List.drop_left]
def zG(l:List Bk)(i:Nat)(x:Bk):List Bk:=l.d i++x::l.f i
theorem xW(l:List Bk)(i:Nat)(x:Bk):(zG l i x).a=l.a+1:=by
 simp[zG];omega
theorem Ir(l:List Bk)(i:Nat)(x:Bk)(hi:i<=l.a):dG (zG l i x)=(dG l).d (i*27)++x.ay.a++(dG l).f (i*27):=by
 rw[zG,xV,Zt,Mh l i hi,Mi l i hi,List.append_assoc]
theorem Zu(w:ak)(g:Nat)(c:Array aB)(t:bK)(fr:Nat×Nat)(hg:w.a[g]? = some (.D c t fr)):∀j v,c.a[j]? = some v->w.b ((⟨g,0,none⟩:aT).add j)=some v:=fun j v hv=>by
 rw[iD,sW w g _ c _ _ hg,bl]
 rwa [dD]at hv
def ab9(base:Nat)(w:ak)(row:Option Nat)(m:List Bk)(e:kZ)(w':ak):Prop:=
 ∃A c,e=.a (.a A m.a c)/\w'.c base 62 27 (.a A m.a c) m.a (dG m)/\w.grownBy w' row
theorem WH(w:ak)(g g2:Nat)(cur Ui:Array aB)(t t2:bK)(hg:w.a[g]? = some (.D cur t (0,0)))(h2:w.a[g2]? = some (.D Ui t2 (0,0)))(hne:g≠g2)(hc:cur.j≠0)(o la ca lb cb:Nat):
 (callFunc 210 #[.a (some ⟨g2,0,none⟩) la ca,.a (some ⟨g,o,none⟩) lb cb]).I ah w=.ok (.value (.bool false)) w:=by
 rw[run_callFunc_extern Tryz.func210 (by kernel_rfl) (by kernel_rfl) (by kernel_rfl) (e:=Extern.SlicesOverlaps.overlaps #[30,30] #[4]) (by kernel_rfl)];obtain⟨i0,hi0,hz0,hz1,hzb⟩:=N7;rw[Lib.run_overlaps_apart w _ _ 62 jd 27 (fun w=>by simp[sizeOf,typeInfo,hi0,hz1]) ⟨g2,0,none⟩ ⟨g,o,none⟩ la ca lb cb (fun e=>hne e.symm) t2 t Ui.j cur.j (by simp[World.shape?,h2]) (by simp[World.shape?,hg]) hc (by simp[sj,h2]) (by simp[sj,h2])];rfl
theorem Zv(l:List Bk)(x:Bk)(i:Nat)(hi:i<l.a)(base g c:Nat)(cur:Array aB)(w:ak)(hb:base<=g)(hg:w.a[g]? = some (.D cur 62 (0,0)))(hc:l.a+1<=c)(hcm:c<=maxLen)(hcs:cur.j=c*27)
 (ht:cur.a.d (l.a*27)=dG l) (g2:Nat) (h2:w.a[g2]? = some (.D x.ay 62 (0,0))) (hne:g≠g2) (hn:l.a<=100000) :
 aQ ah 141 #[.a (some ⟨g,0,none⟩) l.a c,.b .a i,.a (some ⟨g2,0,none⟩) 1 1] w (ab9 base w (some g) (zG l i x)):=by
 unfold maxLen at hcm;obtain⟨n,hnl⟩:=dw l.a;rw[<-hnl]at hi hc hn ht ⊢;have HN:=ab hnl;have HG:=ab (show w.drew.a[g]? = some (.D cur 62 (0,0))from hg);have H2:=ab h2;have HT:=ab ht;have HCS:=ab hcs;have hov:=fun o la ca lb cb=>WH w g g2 cur x.ay _ _ hg h2 hne (by omega) o la ca lb cb
 have SZ:=ab (show(ah.l 62).map (·.j)=some 27 by kernel_rfl);have M1:=ab (show n-i=qj (n+1-i) (n-i)from(Nat.min_eq_right (by omega)).symm);have M2:=ab (show((dG l).f (i*27)).a=(n-i)*27 by rw[jw,jy,<-hnl,AJ]);have M3:=ab (show∀j v,((dG l).f (i*27))[j]? = some v->w.drew.b ((⟨g,i*27,none⟩:aT).add j)=some v from fun j v hv=>by
  show w.b _=_;rw[iD,sW w g _ cur _ _ hg];rw[je]at hv;rw[<-ht,jf]at hv;split at hv
  ·rw[dD]at hv;exact hv
  ·cases hv)
 have M4:=ab (show(i+1)*27+((dG l).f (i*27)).a<=cur.j by rw[M2.i,hcs];have:=cZ 27 hc;have:=AJ n i 27;have:=cZ 27 (mH hi);omega);have M5:=ab (show∀v∈(dG l).f (i*27),v.h=true from fun v hv=>Cx l v (List.mem_of_mem_drop hv));clear hnl hg h2 ht hcs;go_enter Tryz.func141,Tryz.ntmps141;go_wp2_with fail;clear hov;have a1:IntKind.i64.wrap ((i:Int)+1)=(i:Int)+1:=IntWalk.i64_in _ (by omega);have a2:(0:Int)<=(i:Int)+1:=by omega
 have a3:(i:Int)+1<=(n:Int)+1:=by omega
 have a4:((i:Int)+1).e=i+1:=by omega
 have a5:¬c=i+1:=by omega
 have a6:¬c=i:=by omega
 have a7:(i:Int)<=(n:Int)+1:=by omega
 go_region_law (refine Ig rfl (.a 73) (.a 76) _ _ rfl 62 27 jd SZ.i g ((i+1)*27) (n-i) (c-(i+1)) ⟨g,i*27,none⟩ (n+1-i) (c-i) (by kernel_rfl) (by kernel_rfl) cur _ HG.i ((dG l).f (i*27)) (n-i) M1.i M2.i M3.i M4.i M5.i ?_;intro w1 hw1;have HW1:=ab hw1;clear hw1);clear a1 a2 a3 a4 a5 a6 a7;obtain⟨uq,hc1⟩:∃uq:Array aB,uq=(splice cur.a ((i+1)*27) ((dG l).f (i*27))).b:=⟨_,rfl⟩
 have G1:=ab (show w1.a[g]? = some (.D uq 62 (0,0))by rw[HW1.i,hc1];exact rz w.drew g cur _ _ _ HG.i);have G2:=ab (show w1.a[g2]? = some (.D x.ay 62 (0,0))by rw[HW1.i,oJ w.drew g g2 _ (fun e=>hne e.symm)];exact H2.i);have G3:=ab (show w.grownBy w1 (some g)by rw[HW1.i];exact⟨rfl,rfl,rfl,by simp[rU],fun k hk hkg=>oJ w.drew g k _ (fun e=>hkg (by rw[e]))⟩);have HC1:=ab hc1;clear hc1;have N1:=ab (show 1=qj 1 (n+1-i)from(ou (by omega)).symm);have N2:=ab (show x.ay.a.a=1*27 by rw[aY,Bk.G]);have N3:=ab (show∀j v,x.ay.a[j]? = some v->w1.b ((⟨g2,0,none⟩:aT).add j)=some v from fun j v hv=>by
  rw[iD,sW w1 g2 _ x.ay _ _ G2.i,bl]
  rwa [dD]at hv)
 have hs1:uq.j=c*27:=by
  rw[HC1.i,dI,vQ _ _ _ (by rw[aY];exact M4.i),aY,HCS.i]
 have N4:=ab (show i*27+x.ay.a.a<=uq.j by rw[N2.i,hs1];have:=cZ 27 hc;have:=cZ 27 (mH hi);omega);have N5:=ab (show∀v∈x.ay.a,v.h=true from fun v hv=>fV.1 (Bk.cK x) v (by simpa using hv));have Rp:=ab hs1;clear hs1;go_wp2_with (refine Ea rfl (.a 80) (.a 81) _ _ rfl 62 27 jd SZ.i g (i*27) (n+1-i) (c-i) ⟨g2,0,none⟩ 1 1 rfl rfl uq _ G1.i x.ay.a 1 N1.i N2.i N3.i N4.i N5.i ?_;intro w2 hw2;have HW2:=ab hw2;clear hw2);go_ret;have hln:=xW l i x;rw[<-HN.i]at hln;refine⟨some ⟨g,0,none⟩,c,by rw[hln];rfl,?_,?_⟩
 ·rw[hln]
  refine⟨by rw[jy,hln],.b ⟨g,c,(splice uq.a (i*27) x.ay.a).b,rfl,hb,?_,hc,by unfold maxLen;omega,?_,?_⟩⟩
  ·rw[HW2.i];exact rz w1 g uq _ _ _ G1.i
  ·rw[dI,vQ _ _ _ (by rw[aY];exact N4.i),aY,Rp.i]
  ·rw[Ir l i x (by rw[<-HN.i];omega),HC1.i]
   have hx:=HT.i;have hcl:=jy l;rw[<-HN.i]at hcl;have:=ah0 cur.a (dG l) x.ay.a (i*27) 27 (by rw[hcl];exact hx) (by rw[hcl];omega) (by rw[aY,Bk.G]) (by rw[hcl,aY,HCS.i];omega);rw[hcl]at this;rw[show(n+1)*27=n*27+27 by omega];rw[show(i+1)*27=i*27+27 by omega];exact this
 ·rw[HW2.i]
  refine LC G3.i ⟨rfl,rfl,rfl,by simp[rU],fun k hk hkg=>oJ w1 g k _ (fun e=>hkg (by rw[e]))⟩
theorem aeG(l:List Bk)(x:Bk)(i:Nat)(hi:i<l.a)(base g c:Nat)(cur:Array aB)(w:ak)(hbase:base<=w.a.j)(hg:w.a[g]? = some (.D cur 62 (0,0)))(hc:c<l.a+1)(hlc:l.a<=c)(hcs:cur.j=c*27)
 (ht:cur.a.d (l.a*27)=dG l) (g2:Nat) (h2:w.a[g2]? = some (.D x.ay 62 (0,0))) (hn:l.a<=100000) :
 aQ ah 141 #[.a (some ⟨g,0,none⟩) l.a c,.b .a i,.a (some ⟨g2,0,none⟩) 1 1] w (ab9 base w (some g) (zG l i x)):=by
 obtain⟨n,hnl⟩:=dw l.a;rw[<-hnl]at hi hc hlc hn ht ⊢;have HN:=ab hnl;have HG:=ab hg;have H2:=ab h2;have HT:=ab ht;have HCS:=ab hcs;obtain⟨i0,hi0,hz0,hz1,hzb⟩:=N7;have HI0:=ab hi0;have HZ0:=ab hz0;have HZ1:=ab hz1;have HZ2:=ab (show(bY jk.ay).D.j=27 by simp[bW,Bk.G]);have SZ:=ab (show(ah.l 62).map (·.j)=some 27 by kernel_rfl);have hcl:=jy l;rw[<-hnl]at hcl;have HX:=ab (show aI .a ((n:Int)+1-i)=.b .a ((n+1-i:Nat):Int)by congr 1;omega);have L1:=ab (show((dG l).d (i*27)).a=i*27 by rw[bJ,hcl];omega);have L2:=ab (show∀j u,((dG l).d (i*27))[j]? = some u->w.b ((⟨g,0,none⟩:aT).add j)=some u from fun j v hv=>by
  rw[iD,sW w g _ cur _ _ hg,bl];rw[jf]at hv;split at hv
  ·rw[<-ht,jf]at hv
   split at hv
   ·rw[dD]at hv;exact hv
   ·cases hv
  ·cases hv)
 have L3:=ab (show 0<n+1-i by omega);have L4:=ab (show c<i+(n+1-i)by omega);have L5:=ab (show i+(n+1-i)<=maxLen by unfold maxLen;omega);have L6:=ab (show(i+(n+1-i))*i0.bytes<=140737488355328 from aO (gP (show i+(n+1-i)<=100001 by omega) hzb) (by omega));have M1:=ab (show n-i=qj (n-i) (n-i)from(Nat.min_self _).symm);have M2:=ab (show((dG l).f (i*27)).a=(n-i)*27 by rw[jw,hcl,AJ]);have M5:=ab (show∀v∈(dG l).f (i*27),v.h=true from fun v hv=>Cx l v (List.mem_of_mem_drop hv));have N1:=ab (show 1=qj 1 (n+1-i)from(ou (by omega)).symm);have N2:=ab (show x.ay.a.a=1*27 by rw[aY,Bk.G]);have N5:=ab (show∀v∈x.ay.a,v.h=true from fun v hv=>fV.1 (Bk.cK x) v (by simpa using hv));have HCL:=ab hcl;have EN:=ab (show i+(n+1-i)=n+1 by omega);have hgl:g<w.a.j:=(bV.1 hg).1;have aBF:g2<w.a.j:=(bV.1 h2).1;clear hnl hg h2 ht hcs hi0 hz0 hz1 hcl;go_enter Tryz.func141,Tryz.ntmps141;go_wp2_with (first
  | (refine Od rfl (.a 34) (.a 39) _ _ rfl 62 i0 (.d jk.ay) 27 .a .a jd Tryz.underlying3 HI0.i HZ0.i HZ1.i HZ2.i ⟨g,0,none⟩ i c rfl (n+1-i) HX.i ((dG l).d (i*27)) L1.i L2.i L3.i (mI _) L4.i L5.i L6.i ?_
     rw[EN.i];intro c' uq w1 hc1 hc2 hc3 hc4 hc5 hc6;have C2:=ab hc2;have C3:=ab hc3;have C4:=ab hc4;have C6:=ab hc6;have G1:=ab (show w1.a[w.a.j]? = some (.D uq 62 (0,0))from hc5);have Gx:=ab (show w1.a[g2]? = some (.D x.ay 62 (0,0))from(hc6.block g2 aBF).trans H2.i);have Gg:=ab (show w1.a[g]? = some (.D cur 62 (0,0))from(hc6.block g hgl).trans HG.i);have N3:=ab (Zu w1 g2 x.ay _ _ Gx.i);have N4:=ab (show i*27+x.ay.a.a<=uq.j by rw[N2.i,C3.i];have:=cZ 27 hc1;omega);clear hc2 hc3 hc4 hc5 hc6)
  | (refine Ea rfl (.a 43) (.a 44) _ _ rfl 62 27 jd SZ.i w.a.j (i*27) (n+1-i) (c'-i) ⟨g2,0,none⟩ 1 1 rfl rfl uq _ G1.i x.ay.a 1 N1.i N2.i N3.i N4.i N5.i ?_
     intro w2 hw2;have HW2:=ab hw2;clear hw2))
 obtain⟨Ui,hc2⟩:∃Ui:Array aB,Ui=(splice uq.a (i*27) x.ay.a).b:=⟨_,rfl⟩
 have K1:=ab (show w2.drew.a[w.a.j]? = some (.D Ui 62 (0,0))by rw[HW2.i,hc2];exact rz w1 w.a.j uq _ _ _ G1.i);have Kg:=ab (show w2.a[g]? = some (.D cur 62 (0,0))by rw[HW2.i,oJ w1 w.a.j g _ (by omega)];exact Gg.i);have KB:=ab (show aM w.a.j w w2 by rw[HW2.i];exact C6.i.trans ⟨rfl,rfl,rfl,by simp[rU],fun k hk=>oJ w1 w.a.j k _ (by omega)⟩);have hs2:Ui.j=c'*27:=by
  rw[hc2,dI,vQ _ _ _ (by rw[aY];exact N4.i),aY,C3.i]
 have M3:=ab (show∀j v,((dG l).f (i*27))[j]? = some v->w2.drew.b ((⟨g,i*27,none⟩:aT).add j)=some v from fun j v hv=>by
  show w2.b _=_;rw[iD,sW w2 g _ cur _ _ Kg.i];rw[je]at hv;rw[<-HT.i,jf]at hv;split at hv
  ·rw[dD]at hv;exact hv
  ·cases hv)
 have M4:=ab (show(i+1)*27+((dG l).f (i*27)).a<=Ui.j by rw[M2.i,hs2];have:=cZ 27 hc1;have:=AJ n i 27;have:=cZ 27 (mH hi);omega);have HC2:=ab hc2;have HS2:=ab hs2;clear hc2 hs2;have a5:¬c'=i+1:=by omega
 have a6:¬c=i:=by omega
 have a7:(i:Int)<=(n:Int):=by omega
 have a2:(0:Int)<=(i:Int)+1:=by omega
 have a3:(i:Int)+1<=(n:Int)+1:=by omega
 have a4:((i:Int)+1).e=i+1:=by omega
 have a1:IntKind.i64.wrap ((i:Int)+1)=(i:Int)+1:=IntWalk.i64_in _ (by omega);go_region_law (refine Ig rfl (.a 50) (.a 53) _ _ rfl 62 27 jd SZ.i w.a.j ((i+1)*27) (n-i) (c'-(i+1)) ⟨g,i*27,none⟩ (n-i) (c-i) (by kernel_rfl) (by kernel_rfl) Ui _ K1.i ((dG l).f (i*27)) (n-i) M1.i M2.i M3.i M4.i M5.i ?_;intro w3 hw3;have HW3:=ab hw3;clear hw3);clear a1 a2 a3 a4 a5 a6 a7;go_wp2_with fail;go_ret;have hln:=xW l i x;rw[<-HN.i]at hln;refine⟨some ⟨w.a.j,0,none⟩,c',by rw[hln];rfl,?_,?_⟩
 ·rw[hln]
  refine⟨by rw[jy,hln],.b ⟨w.a.j,c',(splice Ui.a ((i+1)*27) ((dG l).f (i*27))).b,rfl,hbase,?_,hc1,C2.i,?_,?_⟩⟩
  ·rw[HW3.i];exact rz w2.drew w.a.j Ui _ _ _ K1.i
  ·rw[dI,vQ _ _ _ (by rw[aY];exact M4.i),aY,HS2.i]
  ·rw[Ir l i x (by rw[<-HN.i];omega),HC2.i]
   have:=aor uq.a (dG l) x.ay.a (i*27) 27 C4.i (by rw[HCL.i];omega) (by rw[aY,Bk.G]) (by rw[HCL.i,aY,C3.i];omega);rw[HCL.i]at this;rw[show(n+1)*27=n*27+27 by omega,show(i+1)*27=i*27+27 by omega];exact this
 ·rw[HW3.i]
  have hb:=KB.i;exact⟨hb.os,hb.tape,hb.output,by have:=hb.j;simpa[rU]using this,fun k hk hkg=>(oJ w2.drew w.a.j k _ (by omega)).trans (hb.block k hk)⟩
theorem aie(l:List Bk)(x:Bk):dG (zG l l.a x)=dG l++x.ay.a:=by
 rw[Ir l l.a x (av _),aK (by rw[jy];omega),iQ (by rw[jy];omega),List.append_nil]
theorem Uj(l:List Bk)(x:Bk)(base c:Nat)(A:Option aT)(w:ak)(hbase:base<=w.a.j)(hown:w.c base 62 27 (.a A l.a c) l.a (dG l))(hlc:l.a<=c)(g2:Nat)(h2:w.a[g2]? = some (.D x.ay 62 (0,0)))(hn:l.a<=100000):
 aQ ah 141 #[.a A l.a c,.b .a l.a,.a (some ⟨g2,0,none⟩) 1 1] w (ab9 base w (bD A l.a c).ownBlock (zG l l.a x)):=by
 have hln:=xW l l.a x;have hce:=aie l x;obtain⟨n,hnl⟩:=dw l.a;rw[<-hnl]at hln hce hn hlc hown ⊢;obtain⟨m,hm⟩:=dw (zG l n x);rw[<-hm]at hln hce ⊢;have HLN:=ab hln;have HCE:=ab hce;have HO:=ab hown;obtain⟨i0,hi0,hz0,hz1,hzb⟩:=N7;have HI0:=ab hi0;have HZ0:=ab hz0;have HZ1:=ab hz1;have HZ2:=ab (show(bY jk.ay).D.j=27 by simp[bW,Bk.G]);have L5:=ab (show n+1<=maxLen by unfold maxLen;omega);have L6:=ab (show(n+1)*i0.bytes<=140737488355328 from aO (gP (show n+1<=100001 by omega) hzb) (by omega));have HR:=ab (show Rd w (g2+1) 27 (some ⟨g2,0,none⟩) 1 x.ay.a from⟨by rw[aY,Bk.G],fun _=>⟨_,rfl,mG _,Zu w g2 x.ay _ _ h2⟩⟩);have N5:=ab (show∀v∈x.ay.a,v.h=true from fun v hv=>fV.1 (Bk.cK x) v (by simpa using hv));clear hnl hm hln hce hown hi0 hz0 hz1 h2;have hnn:((n:Int)==(n:Int))=true:=by simp
 go_enter Tryz.func141,Tryz.ntmps141;go_wp2_with (refine jG _ rfl (.a 23) (.a 24) _ rfl base 62 i0 (.d jk.ay) 27 i0.bytes jd HI0.i HZ0.i HZ1.i rfl HZ2.i (mI _) (.a A n c) n (dG l) rfl HO.i (g2+1) (some ⟨g2,0,none⟩) 1 1 x.ay.a rfl HR.i N5.i L5.i L6.i hbase ?_;intro v1 w1 hown1 hg1 xJ;have O1:=ab hown1;have GR:=ab hg1;clear hown1 hg1 xJ)
 all_goals
  go_ret;obtain⟨A',c',rfl,_,_⟩:=jS O1.i;refine⟨A',c',by rw[HLN.i];rfl,?_,by have:=GR.i;cases A<;>exact this⟩;rw[HLN.i,HCE.i];exact O1.i
def aoN(base:Nat)(w:ak)(A:Option aT)(c:Nat)(l:List Bk)(g2:Nat)(x:Bk):Prop:=
 w.c base 62 27 (.a A l.a c) l.a (dG l)/\w.a[g2]? = some (.D x.ay 62 (0,0))/\(∀g,A=some g->g.block≠g2)/\base<=w.a.j/\l.a<=100000
theorem aeI(l:List Bk)(x:Bk)(i:Nat)(hi:i<=l.a)(base c g2:Nat)(A:Option aT)(w:ak)(h:aoN base w A c l g2 x):
 aQ ah 141 #[.a A l.a c,.b .a i,.a (some ⟨g2,0,none⟩) 1 1] w (ab9 base w (bD A l.a c).ownBlock (zG l i x)):=by
 obtain⟨hown,h2,hne,hb,hn⟩:=h;have hown':=hown;rcases hown.2 with⟨hv,h0⟩|⟨g,cap,cur,hv,hbg,hg,hnc,hcm,hcs,htake⟩
 ·injection hv with e1 e2 e3
  subst e1 e3;obtain rfl:i=l.a:=by omega
  exact Uj l x base 0 none w hb hown (by omega) g2 h2 hn
 ·injection hv with e1 e2 e3
  subst e1 e3;rcases aZ i l.a with h1|h1
  ·rcases aZ c (l.a+1)with h3|h3
   ·exact aeG l x i h1 base g c cur w hb hg h3 hnc hcs htake g2 h2 hn
   ·exact Zv l x i h1 base g c cur w hbg hg h3 hcm hcs htake g2 h2 (hne _ rfl) hn
  ·obtain rfl:i=l.a:=by omega
   exact Uj l x base c _ w hb hown hnc g2 h2 hn
def Ed(l:List Bk)(i:Nat):List Bk:=l.d i++l.f (i+1)
theorem Mj(l:List Bk)(i:Nat)(hi:i<l.a):(Ed l i).a=l.a-1:=by
 simp[Ed];omega
theorem PN(l:List Bk)(i:Nat)(hi:i<l.a):dG (Ed l i)=(dG l).d (i*27)++(dG l).f (i*27+27):=by
 rw[Ed,xV,Mh l i (by omega),Mi l (i+1) (by omega),show(i+1)*27=i*27+27 by omega]
theorem aeJ(l:List Bk)(i:Nat)(hi:i<l.a)(base g c:Nat)(cur:Array aB)(w:ak)(hb:base<=g)(hg:w.a[g]? = some (.D cur 62 (0,0)))(hc:l.a<=c)(hcm:c<=maxLen)(hcs:cur.j=c*27)
 (ht:cur.a.d (l.a*27)=dG l) (hn:l.a<=100000) :
 aQ ah 142 #[.a (some ⟨g,0,none⟩) l.a c,.b .a i,.b .a ((i:Int)+1)] w (ab9 base w (some g) (Ed l i)):=by
 have hln:=Mj l i hi;have hcl:=jy l;unfold maxLen at hcm;obtain⟨n,hnl⟩:=dw l.a;rw[<-hnl]at hi hc hn ht hln hcl ⊢;have HN:=ab hnl;have HG:=ab (show w.drew.a[g]? = some (.D cur 62 (0,0))from hg);have HT:=ab ht;have HCS:=ab hcs;have HLN:=ab hln;have HCL:=ab hcl;obtain⟨i0,hi0,hz0,hz1,hzb⟩:=N7;have HI0:=ab hi0;have HZ0:=ab hz0;have HZ1:=ab hz1;have HZ2:=ab (show(bY jk.ay).D.j=27 by simp[bW,Bk.G]);have HZ3:=ab (show(bY jk.ay).D.all (·.h)=true from Bk.cK jk);have M2:=ab (show((dG l).f (i*27+27)).a=(n-(i+1))*27 by rw[jw,hcl,AJ];omega);have M3:=ab (show∀j v,((dG l).f (i*27+27))[j]? = some v->w.drew.b ((⟨g,(i+1)*27,none⟩:aT).add j)=some v from fun j v hv=>by
  show w.b _=_;rw[iD,sW w g _ cur _ _ hg,show(i+1)*27=i*27+27 by omega];rw[je]at hv;rw[<-ht,jf]at hv;split at hv
  ·rw[dD]at hv;exact hv
  ·cases hv)
 have M4:=ab (show i*27+((dG l).f (i*27+27)).a<=cur.j by rw[M2.i,hcs];have:=cZ 27 hc;have:=AJ n (i+1) 27;omega);have M5:=ab (show∀v∈(dG l).f (i*27+27),v.h=true from fun v hv=>Cx l v (List.mem_of_mem_drop hv));have M6:=ab (show i+(n-(i+1))<=c by omega);have EN:=ab (show i+(n-(i+1))=n-1 by omega);have M7':=ab (show c=i+1->Hid (∀j v,((dG l).f (i*27+27))[j]? = some v->w.drew.b ((⟨g,0,none⟩:aT).add j)=some v)from fun h=>ab fun j v hv=>by
  have hz:(dG l).f (i*27+27)=[]:=bE (by rw[M2.i,show n-(i+1)=0 by omega,Nat.zero_mul]);rw[hz]at hv;simp at hv)
 have HN1:=ab (show 1<=n by omega);clear hnl hg ht hcs hi0 hz0 hz1 hcl hln;have b1:(i:Int)<=n:=by omega
 have b2:(i:Int)+1<=n:=by omega
 go_enter Tryz.func142,Tryz.ntmps142;go_wp2_with fail;by_cases hci:c=i+1;rotate_left
 ·have a4:((i:Int)+1).e=i+1:=by omega
  have a2:(0:Int)<=(i:Int)+1:=by omega
  have a8:¬c=i:=by omega
  have a9:(i:Int)<=c:=by omega
  go_region_law (refine Ko rfl (.a 22) (.a 25) _ rfl 62 i0 27 jd HI0.i HZ1.i g i c ⟨g,(i+1)*27,none⟩ (n-(i+1)) (c-(i+1)) (by kernel_rfl) (by kernel_rfl) cur HG.i ((dG l).f (i*27+27)) M2.i M3.i M5.i M6.i M4.i ?_;intro w1 hw1;rw[EN.i];have HW1:=ab hw1;clear hw1);clear a2 a4 a8 a9;obtain⟨uq,hc1⟩:∃uq:Array aB,uq=(splice cur.a (i*27) ((dG l).f (i*27+27))).b:=⟨_,rfl⟩
  have G1:=ab (show w1.a[g]? = some (.D uq 62 (0,0))by rw[HW1.i,hc1];exact rz w.drew g cur _ _ _ HG.i);have hs1:uq.j=c*27:=by
   rw[hc1,dI,vQ _ _ _ (by rw[aY];exact M4.i),aY,HCS.i]
  have E1:=ab (show 0<n-(n-1)by have:=HN1.i;omega);have E2:=ab (show(n-1)*27+(n-(n-1))*27<=uq.j by rw[hs1,show n-(n-1)=1 by have:=HN1.i;omega];have:=HN1.i;omega);have HC1:=ab hc1;have Rp:=ab hs1;clear hc1 hs1;go_wp2_with (refine Eb rfl (.a 31) _ rfl 62 i0 (.d jk.ay) 27 jd HI0.i HZ0.i HZ2.i HZ3.i g ((n-1)*27) (n-(n-1)) (c-(n-1)) rfl E1.i uq _ G1.i E2.i ?_;intro w2 zs hzs hw2;have HW2:=ab hw2;have HZS:=ab hzs;clear hw2 hzs);go_ret;refine⟨some ⟨g,0,none⟩,c,by rw[HLN.i];rfl,?_,?_⟩
  ·rw[HLN.i]
   refine⟨by rw[jy,HLN.i],.b ⟨g,c,(splice uq.a ((n-1)*27) zs).b,rfl,hb,?_,by omega,by unfold maxLen;omega,?_,?_⟩⟩
   ·rw[HW2.i];exact rz w1 g uq _ _ _ G1.i
   ·rw[dI,vQ _ _ _ (by rw[aY];have h1:=HZS.i;have h2:=E2.i;first|(rw[h1];exact h2)|(simp only[dI,h1];exact h2)),aY,Rp.i]
   ·rw[PN l i (by rw[<-HN.i];exact hi)]
    have h1:=Xl cur.a (dG l) (i*27) 27 (by rw[HCL.i];exact HT.i) (by rw[HCL.i];omega);have hcu:uq.a=splice cur.a (i*27) ((dG l).f (i*27+27)):=by rw[HC1.i]
    rw[HCL.i,show n*27-27=(n-1)*27 by omega,<-hcu]at h1;show List.take ((n-1)*27) (splice uq.a ((n-1)*27) zs)=_;rw[splice,gu (by rw[bJ,aY,Rp.i];omega),vP,Nat.min_self];exact h1
  ·rw[HW2.i]
   have hG:w.grownBy w1 (some g):=by rw[HW1.i];exact⟨rfl,rfl,rfl,by simp[rU],fun k hk hkg=>oJ w.drew g k _ (fun e=>hkg (by rw[e]))⟩
   refine LC hG ⟨rfl,rfl,rfl,by simp[rU],fun k hk hkg=>oJ w1 g k _ (fun e=>hkg (by rw[e]))⟩
 ·have M3:=M7'.i hci
  have HCI:=ab hci;have a0:(c=i+1)=True:=by simpa using hci
  clear hci;have a4:((i:Int)+1).e=i+1:=by omega
  have a2:(0:Int)<=(i:Int)+1:=by omega
  have a8:¬c=i:=by have:=HCI.i;omega
  have a9:(i:Int)<=c:=by omega
  go_region_law (refine Ko rfl (.a 22) (.a 25) _ rfl 62 i0 27 jd HI0.i HZ1.i g i c ⟨g,0,none⟩ (n-(i+1)) (c-(i+1)) (by kernel_rfl) (by kernel_rfl) cur HG.i ((dG l).f (i*27+27)) M2.i M3.i M5.i M6.i M4.i ?_;intro w1 hw1;rw[EN.i];have HW1:=ab hw1;clear hw1);clear a2 a4 a8 a9;obtain⟨uq,hc1⟩:∃uq:Array aB,uq=(splice cur.a (i*27) ((dG l).f (i*27+27))).b:=⟨_,rfl⟩
  have G1:=ab (show w1.a[g]? = some (.D uq 62 (0,0))by rw[HW1.i,hc1];exact rz w.drew g cur _ _ _ HG.i);have hs1:uq.j=c*27:=by
   rw[hc1,dI,vQ _ _ _ (by rw[aY];exact M4.i),aY,HCS.i]
  have E1:=ab (show 0<n-(n-1)by have:=HN1.i;omega);have E2:=ab (show(n-1)*27+(n-(n-1))*27<=uq.j by rw[hs1,show n-(n-1)=1 by have:=HN1.i;omega];have:=HN1.i;omega);have HC1:=ab hc1;have Rp:=ab hs1;clear hc1 hs1;go_wp2_with (refine Eb rfl (.a 31) _ rfl 62 i0 (.d jk.ay) 27 jd HI0.i HZ0.i HZ2.i HZ3.i g ((n-1)*27) (n-(n-1)) (c-(n-1)) rfl E1.i uq _ G1.i E2.i ?_;intro w2 zs hzs hw2;have HW2:=ab hw2;have HZS:=ab hzs;clear hw2 hzs);go_ret;refine⟨some ⟨g,0,none⟩,c,by rw[HLN.i];rfl,?_,?_⟩
  ·rw[HLN.i]
   refine⟨by rw[jy,HLN.i],.b ⟨g,c,(splice uq.a ((n-1)*27) zs).b,rfl,hb,?_,by omega,by unfold maxLen;omega,?_,?_⟩⟩
   ·rw[HW2.i];exact rz w1 g uq _ _ _ G1.i
   ·rw[dI,vQ _ _ _ (by rw[aY];have h1:=HZS.i;have h2:=E2.i;first|(rw[h1];exact h2)|(simp only[dI,h1];exact h2)),aY,Rp.i]
   ·rw[PN l i (by rw[<-HN.i];exact hi)]
    have h1:=Xl cur.a (dG l) (i*27) 27 (by rw[HCL.i];exact HT.i) (by rw[HCL.i];omega);have hcu:uq.a=splice cur.a (i*27) ((dG l).f (i*27+27)):=by rw[HC1.i]
    rw[HCL.i,show n*27-27=(n-1)*27 by omega,<-hcu]at h1;show List.take ((n-1)*27) (splice uq.a ((n-1)*27) zs)=_;rw[splice,gu (by rw[bJ,aY,Rp.i];omega),vP,Nat.min_self];exact h1
  ·rw[HW2.i]
   have hG:w.grownBy w1 (some g):=by rw[HW1.i];exact⟨rfl,rfl,rfl,by simp[rU],fun k hk hkg=>oJ w.drew g k _ (fun e=>hkg (by rw[e]))⟩
   refine LC hG ⟨rfl,rfl,rfl,by simp[rU],fun k hk hkg=>oJ w1 g k _ (fun e=>hkg (by rw[e]))⟩
def Zx(w:ak)(l:List Bk)(e:kZ)(w':ak):Prop:=
 ∃A c,e=.a (.a A l.a c)/\w'.c w.a.j 62 27 (.a A l.a c) l.a (dG l)/\aM w.a.j w w'
theorem xC(l:List Bk)(A:Option aT)(c:Nat)(w:ak)(hR:Fa w w.a.j A l.a l)(hn:l.a<=100000):
 aQ ah 61 #[.a A l.a c] w (Zx w l):=by
 cases A with
 | some a=>exact abN l a c w hR (by omega)
 | none=>
   have h0:l.a=0:=by
    rcases dW l.a with h0|h0
    ·exact h0
    ·obtain⟨a,ha,_⟩:=hR.2.1.2 h0;cases ha
   have hl:l=[]:=bE h0;subst hl;have hnil:∀W:ak,(binOp .eql 30 (.a none 0 c) (.a none 0 0)).I ah W=.ok (.bool true) W:=fun W=>by
    simp only[binOp];simp[run_equal_slice_nil,jd]
   have fin:Zx w [] (.a (.a none 0 0)) w:=⟨none,0,rfl,fE _ _ _ _,aG _ _⟩
   have FIN:=ab fin;clear fin;clear hR;simp only[List.length_nil];go_enter Tryz.func61,Tryz.ntmps61;go_wp2;go_ret;exact FIN.i
theorem oF{w:ak}{base:Nat}{l:List Bk}{A:Option aT}{c:Nat}(h:w.c base 62 27 (.a A l.a c) l.a (dG l)):Fa w w.a.j A l.a l:=
 ⟨rfl,Rd.iY h,fun a ha _=>by
  rcases h.2 with⟨hv,h0⟩|⟨g,cap,cur,hv,_⟩
  ·injection hv with e1 _ _
   rw[e1]at ha;cases ha
  ·injection hv with e1 _ _
   rw[e1]at ha;injection ha with ha
   rw[<-ha]⟩
theorem Iu(l:List Bk)(k:Nat)(hk:k<l.a)(y:Bk)(j:Nat)(hj:j<27)(u:aB)(h:y.ay=(l.c k jk).ay.setIfInBounds j u):(dG l).set (k*27+j) u=dG (l.set k y):=by
 have hs:=Bk.G (l.c k jk);have hlen:=jy l;have Uk:=jy (l.set k y);rw[aV]at Uk;apply List.ext_getElem?;intro i;rcases aZ i (l.a*27)with h1|h1
 ·have e1:i=i/27*27+i%27:=by omega
  have h2:i/27<l.a:=by omega
  have h3:i%27<27:=fC _ (by omega);have g1:=Ib l (i/27) (i%27) h2 h3;have g2:=Ib (l.set k y) (i/27) (i%27) (by rw[aV];exact h2) h3;rw[<-e1]at g1 g2;rw[g2,List.getElem?_set,hlen];by_cases h4:i/27=k
  ·have e2:(l.set k y).c (i/27) jk=y:=by
    rw[au,h4,List.getElem?_set_self hk];rfl
   rw[e2,h,Array.getElem?_setIfInBounds,hs];by_cases h5:j=i%27
   ·have:k*27+j=i:=by omega
    simp[h5,h3];rw[if_pos (by omega),if_pos (by omega)]
   ·have:¬k*27+j=i:=by omega
    rw[if_neg this,if_neg h5,g1,h4]
  ·have e2:(l.set k y).c (i/27) jk=l.c (i/27) jk:=by
    rw[au,au,List.getElem?_set_ne (fun e=>h4 e.symm)]
   have:¬k*27+j=i:=by omega
   rw[if_neg this,e2,g1]
 ·rw[aS (by rw[aV,hlen];exact h1),aS (by rw[Uk];exact h1)]
theorem Ot{v:Int}{l:List Bk}{o:nK}(h:qp v l o=0):1<=o.kind/\o.kind<=5/\v<1099511627776/\(o.kind=1->o.h.AY=true/\rP l o.h.E=false/\l.a<1024)/\(o.kind=3->Ws o.w=true)/\(o.kind≠1->rP l o.E=true):=by
 unfold qp at h
 repeat' split at h
 all_goals first|(exact absurd h (by decide))|skip
 rename_i h1 h2 h3 h4 h5 h6 h7 h8 h9 h10;refine⟨by omega,by omega,by omega,fun hk=>⟨?_,?_,?_⟩,fun hk=>?_,fun hk=>?_⟩
 ·simpa[hk]using h3
 ·simpa[hk,nK.Xv]using h5
 ·simp[hk]at h6;omega
 ·simpa[hk]using h4
 ·simpa[hk,nK.Xv]using h7
def Iw(l:List Bk)(o:nK):List Bk:=
 if o.kind=1 then zG l (kE l o.h.E) (o.h.LV (j6 o.h.w))
 else if o.kind=2 then Ed l (kE l o.E)
 else if o.kind=3 then l.set (kE l o.E) ((pO l o.E).LV (j6 o.w))
 else l.set (kE l o.E) ((pO l o.E).toD (o.kind==4))
def Ul(w:ak)(v:Int)(l:List Bk)(er:Int)(e:kZ)(w':ak):Prop:=
 ∃A c,e=.a (.J #[.d #[.b .a v,.a A l.a c],.b .a er])/\w'.c w.a.j 62 27 (.a A l.a c) l.a (dG l)/\aM w.a.j w w'
theorem Ee{fn:Func}{p u:Tmp}(h:fn.results = #[.cell p 32,.a u])(tmps:Array aB)(W:ak)(b o:Nat)(hp:tmps.c p undef=.pointer (some ⟨b,o,none⟩))(hh:xA W b o 2):
 (results fn tmps).I ah W=.ok (.J #[.d (dY W b o 2),tmps.c u undef]) W:=by
 have hl:=j5 W b o 2 _ _ Tryz.underlying32 rfl (by kernel_rfl) hh;simp only[cu,Instr.sureAddr,Sem.run_bind,Sem.run_pure,Result.andThen_ok]at hl;rw[results_cell_tmp h,hp];simp[asAddr,Result.andThen,hl]
theorem asL(l:List Bk)(hs:DN l)(v:Int)(o:nK)(hf:o.h.rE)(hw:o.w<18446744073709551616)(Bj:qp v l o≠0)(A:Option aT)(c:Nat)(w:ak)(hR:Fa w w.a.j A l.a l)(hn:l.a<=100000):
 aQ ah 71 #[.d #[.b .a v,.a A l.a c],.d o.ay] w (Ul w v l (qp v l o)):=by
 have HS:=ab hs;have HR1:=ab (fun ob tZ Gj=>(((hR.alloc (av _) ob).alloc (by simp) tZ).alloc (by simp;omega) Gj).lu (B':=(((w.alloc ob).alloc tZ).alloc Gj).a.j) (by simp;omega));have HB0:=ab (fun ob tZ Gj=>((((aG w.a.j w).alloc (av _) ob).alloc (by simp) tZ).alloc (by simp;omega) Gj:aM w.a.j w (((w.alloc ob).alloc tZ).alloc Gj)));obtain⟨K,hK⟩:=tV (qp v l o);have NG:=fun A c W (hR:Fa W W.a.j A l.a l)=>JD l hs v o hf hw A c W hR (by omega)
 rw[hK]at Bj NG ⊢;have Mk:=ab NG;clear hR hs NG hK;have hk0:(K != 0)=true:=by simpa using Bj
 clear Bj;go_enter ED,Ca;go_wp2_with fail;refine(xC l A c _ (HR1.i _ _ _) hn).g ?_;rintro e w1 ⟨A1,c1,rfl,ho1,hb1⟩;have b0:=(((dL.new w _ _).alloc _).alloc _).S hb1 (by simp;omega);have b1:=((dL.Sq w _ _ _).alloc _).S hb1 (by simp);have b2:=(dL.ahA w _ _ _ _).S hb1 (by simp);have hz1:w.a.j+2<w1.a.j:=b2.lt;have O1:=ab (iH ho1 (show w.a.j+3<=_ by simp));have HB1:=ab ((HB0.i _ _ _).trans (hb1.g (by simp;omega)));clear ho1 hb1;obtain⟨x1,x2,x3,x4⟩:=b0.K;obtain⟨y1,y2,y3,y4⟩:=b1.K;have B0:=ab b0;have B1:=ab b1;have B2:=ab b2;clear b0 b1 b2;go_wp2_with fail;refine(Mk.i A1 c1 _ (oF (jK O1.i (by simp) _))).g ?_;rintro e w2 ⟨rfl,hb2⟩;have hsz:(w1.F ⟨w.a.j,1,none⟩ (bD A1 l.a c1)).a.j=w1.a.j:=by simp[gY]
 have b0:=(B0.i.eH 1 (bD A1 l.a c1)).S hb2 (by rw[hsz];omega);have b2:=(B2.i.dM ⟨w.a.j,1,none⟩ (bD A1 l.a c1) (by simp)).S hb2 (by rw[hsz];omega);have O2:=ab (jq (jK O1.i (by simp) _) hb2);have HB2:=ab ((HB1.i.F (av _) _).trans (hb2.g (by rw[hsz];omega)));clear hb2 hsz x1 x2 x3 x4 y1 y2 y3 y4;obtain⟨x1,x2,x3,x4⟩:=b0.K;obtain⟨y1,y2,y3,y4⟩:=b2.K;have B0:=ab b0;have B2:=ab b2;clear b0 b2;go_wp2_with fail;have b2:=(B2.i.eH 0 (.b .a v)).eH 1 (.a A1 l.a c1);obtain⟨z1,z2,z3,z4⟩:=b2.K;have hZ:=z3 0 2 (av _);refine aN (Ee rfl _ _ _ _ rfl (by rw[hZ];trivial)) rfl ⟨A1,c1,?_,iH (jK (jK O2.i (by simp) _) (by simp) _) (by omega),(HB2.i.F (show w.a.j<=w.a.j+2 by omega) _).F (show w.a.j<=w.a.j+2 by omega) _⟩;rw[z4 0 2 (av _)];rfl
theorem aoO(l:List Bk)(s:List UInt8):kE l s<=l.a:=by
 unfold kE;exact(List.takeWhile_sublist _).length_le
theorem asM(l:List Bk)(hs:DN l)(v:Int)(hv : -9223372036854775808<=v/\v<9223372036854775807)(o:nK)(hf:o.h.rE)(hw:o.w<18446744073709551616)(Bj:qp v l o=0)(h1:o.kind=1)(A:Option aT)(c:Nat)(w:ak)(hR:Fa w w.a.j A l.a l)(hn:l.a<=100000):
 aQ ah 71 #[.d #[.b .a v,.a A l.a c],.d o.ay] w (Ul w (v+1) (zG l (kE l o.h.E) (o.h.LV (j6 o.h.w))) 0):=by
 have HS:=ab hs;have HR1:=ab (fun ob tZ Gj=>(((hR.alloc (av _) ob).alloc (by simp) tZ).alloc (by simp;omega) Gj).lu (B':=(((w.alloc ob).alloc tZ).alloc Gj).a.j) (by simp;omega));have HB0:=ab (fun ob tZ Gj=>((((aG w.a.j w).alloc (av _) ob).alloc (by simp) tZ).alloc (by simp;omega) Gj:aM w.a.j w (((w.alloc ob).alloc tZ).alloc Gj)));have NG:=fun A c W (hR:Fa W W.a.j A l.a l)=>JD l hs v o hf hw A c W hR (by omega)
 rw[Bj]at NG;have Mk:=ab NG;clear hR hs NG Bj;obtain⟨hv1,hv2⟩:=hv;go_enter ED,Ca;go_wp2_with fail;refine(xC l A c _ (HR1.i _ _ _) hn).g ?_;rintro e w1 ⟨A1,c1,rfl,ho1,hb1⟩;have b0:=(((dL.new w _ _).alloc _).alloc _).S hb1 (by simp;omega);have b1:=((dL.Sq w _ _ _).alloc _).S hb1 (by simp);have b2:=(dL.ahA w _ _ _ _).S hb1 (by simp);have hz1:w.a.j+2<w1.a.j:=b2.lt;have O1:=ab (iH ho1 (show w.a.j+3<=_ by simp));have HB1:=ab ((HB0.i _ _ _).trans (hb1.g (by simp;omega)));clear ho1 hb1;obtain⟨x1,x2,x3,x4⟩:=b0.K;obtain⟨y1,y2,y3,y4⟩:=b1.K;have B0:=ab b0;have B1:=ab b1;have B2:=ab b2;clear b0 b1 b2;go_wp2_with fail;refine(Mk.i A1 c1 _ (oF (jK O1.i (by simp) _))).g ?_;rintro e w2 ⟨rfl,hb2⟩;have hsz:(w1.F ⟨w.a.j,1,none⟩ (bD A1 l.a c1)).a.j=w1.a.j:=by simp[gY]
 have b0:=(B0.i.eH 1 (bD A1 l.a c1)).S hb2 (by rw[hsz];omega);have b1:=(B1.i.dM ⟨w.a.j,1,none⟩ (bD A1 l.a c1) (by simp)).S hb2 (by rw[hsz];omega);have b2:=(B2.i.dM ⟨w.a.j,1,none⟩ (bD A1 l.a c1) (by simp)).S hb2 (by rw[hsz];omega);have O2:=ab (jq (jK O1.i (by simp) _) hb2);have HB2:=ab ((HB1.i.F (av _) _).trans (hb2.g (by rw[hsz];omega)));have hz2:w.a.j+2<w2.a.j:=b2.lt;have aoP:w.a.j+1<w2.a.j:=b1.lt;have aoQ:w.a.j<w2.a.j:=b0.lt;clear hb2 hsz x1 x2 x3 x4 y1 y2 y3 y4 hz1 HB1 O1 HR1 Mk;obtain⟨x1,x2,x3,x4⟩:=b0.K;obtain⟨y1,y2,y3,y4⟩:=b1.K;have B0:=ab b0;have B1:=ab b1;have B2:=ab b2;clear b0 b1 b2;go_wp2_with fail;refine(yZ _ _).g ?_;rintro e w' ⟨rfl,rfl⟩;go_wp2_with fail;refine(KI l HS.i o.h.E (v+1) A1 c1 _ (oF (vD (jK O2.i (by simp) _) _)) (by omega)).g ?_;rintro e w3 ⟨rfl,hb3⟩;have hsz:((w2.F ⟨w.a.j,0,none⟩ (aI .a (v+1))).alloc (.D (o.h.LV (j6 o.h.w)).ay 62)).a.j=w2.a.j+1:=by simp[gY]
 have b0:=((B0.i.eH 0 (aI .a (v+1))).alloc (.D (o.h.LV (j6 o.h.w)).ay 62)).S hb3 (by rw[hsz];omega);have b2:=((B2.i.dM ⟨w.a.j,0,none⟩ (aI .a (v+1)) (by simp)).alloc (.D (o.h.LV (j6 o.h.w)).ay 62)).S hb3 (by rw[hsz];omega);have b3:=(dL.new (w2.F ⟨w.a.j,0,none⟩ (aI .a (v+1))) (o.h.LV (j6 o.h.w)).ay 62).S hb3 (by simp);rw[show(w2.F ⟨w.a.j,0,none⟩ (aI .a (v+1))).a.j=w2.a.j by simp[gY]]at b3;have O3:=ab (jq (vD (jK O2.i (by simp) _) (.D (o.h.LV (j6 o.h.w)).ay 62)) hb3);have HB3:=ab (((HB2.i.F (av _) (aI .a (v+1))).alloc (by simp[gY];omega) (.D (o.h.LV (j6 o.h.w)).ay 62)).trans (hb3.g (by rw[hsz];omega)));have hz3:w2.a.j<w3.a.j:=b3.lt;clear hb3 hsz x1 x2 x3 x4 y1 y2 y3 y4 HB2 O2;obtain⟨x1,x2,x3,x4⟩:=b0.K;obtain⟨z1,z2,z3,z4⟩:=b3.K;have B0:=ab b0;have B2:=ab b2;have B3:=ab b3;clear b0 b2 b3;go_wp2_with fail;have hli:kE l o.h.E<=l.a:=aoO l _;have hrow:∀k,(bD A1 l.a c1).ownBlock=some k->w.a.j+3<=k:=fun k hk=>(O3.i.lt k hk).1
 refine(aeI l (o.h.LV (j6 o.h.w)) (kE l o.h.E) hli (w.a.j+3) c1 w3.a.j A1 _ ⟨vD O3.i _,Gc w3 _,fun g hg=>?_,by simp;omega,hn⟩).g ?_
 ·have:=(O3.i.lt g.block (by rw[hg];rfl)).2
  omega
 rintro e w4 ⟨A4,c4,rfl,ho4,hg4⟩;have b0:=(B0.i.alloc (.D (o.h.LV (j6 o.h.w)).ay 62)).grown hg4 (fun e=>by have:=hrow _ e.symm;omega);have b2:=(B2.i.alloc (.D (o.h.LV (j6 o.h.w)).ay 62)).grown hg4 (fun e=>by have:=hrow _ e.symm;omega);have O4:=ab ho4;have hz4:w.a.j+2<w4.a.j:=b2.lt;have HB4:=ab ((HB3.i.alloc (by omega) (.D (o.h.LV (j6 o.h.w)).ay 62)).grown hg4 (by simp;omega) (fun k hk=>by have:=hrow k hk;omega));have hil:=xW l (kE l o.h.E) (o.h.LV (j6 o.h.w));obtain⟨l4,hl4⟩:=dw (zG l (kE l o.h.E) (o.h.LV (j6 o.h.w)));rw[<-hl4]at ho4 O4 ⊢;have HL4:=ab hl4;clear hg4 ho4 x1 x2 x3 x4 z1 z2 z3 z4 HB3 O3 hl4 hil;obtain⟨x1,x2,x3,x4⟩:=b0.K;obtain⟨y1,y2,y3,y4⟩:=b2.K;have B0:=ab b0;have B2:=ab b2;clear b0 b2;go_wp2_with fail;have b2:=(B2.i.dM ⟨w.a.j,1,none⟩ (.a A4 l4.a c4) (by simp)).eH 0 (.b .a (v+1)) |>.eH 1 (.a A4 l4.a c4)
 obtain⟨z1,z2,z3,z4⟩:=b2.K;have hl4:=HL4.i;subst hl4;have hZ:=z3 0 2 (av _);refine aN (Ee rfl _ _ _ _ rfl (by rw[hZ];trivial)) rfl ⟨A4,c4,?_,iH (base:=w.a.j+3) (jK (jK (jK O4.i (show w.a.j<w.a.j+3 by omega) _) (show w.a.j+2<w.a.j+3 by omega) _) (show w.a.j+2<w.a.j+3 by omega) _) (by omega),((HB4.i.F (av _) _).F (show w.a.j<=w.a.j+2 by omega) _).F (show w.a.j<=w.a.j+2 by omega) _⟩;rw[z4 0 2 (av _)];rfl
theorem sw{l:List Bk}{s:List UInt8}(h:rP l s=true):kE l s<l.a:=by
 unfold rP at h;simp at h;exact h.1
theorem asN(l:List Bk)(hs:DN l)(v:Int)(hv : -9223372036854775808<=v/\v<9223372036854775807)(o:nK)(hf:o.h.rE)(hw:o.w<18446744073709551616)(Bj:qp v l o=0)(h1:o.kind=2)(hn0:rP l o.E=true)(A:Option aT)(c:Nat)(w:ak)(hR:Fa w w.a.j A l.a l)(hn:l.a<=100000):
 aQ ah 71 #[.d #[.b .a v,.a A l.a c],.d o.ay] w (Ul w (v+1) (Ed l (kE l o.E)) 0):=by
 have HS:=ab hs;have HR1:=ab (fun ob tZ Gj=>(((hR.alloc (av _) ob).alloc (by simp) tZ).alloc (by simp;omega) Gj).lu (B':=(((w.alloc ob).alloc tZ).alloc Gj).a.j) (by simp;omega));have HB0:=ab (fun ob tZ Gj=>((((aG w.a.j w).alloc (av _) ob).alloc (by simp) tZ).alloc (by simp;omega) Gj:aM w.a.j w (((w.alloc ob).alloc tZ).alloc Gj)));have NG:=fun A c W (hR:Fa W W.a.j A l.a l)=>JD l hs v o hf hw A c W hR (by omega)
 rw[Bj]at NG;have Mk:=ab NG;clear hR hs NG Bj;obtain⟨hv1,hv2⟩:=hv;have hli:=sw hn0;have hin:((kE l o.E:Nat):Int)<(l.a:Nat):=by omega
 clear hn0;go_enter ED,Ca;go_wp2_with fail;refine(xC l A c _ (HR1.i _ _ _) hn).g ?_;rintro e w1 ⟨A1,c1,rfl,ho1,hb1⟩;have b0:=(((dL.new w _ _).alloc _).alloc _).S hb1 (by simp;omega);have b1:=((dL.Sq w _ _ _).alloc _).S hb1 (by simp);have b2:=(dL.ahA w _ _ _ _).S hb1 (by simp);have hz1:w.a.j+2<w1.a.j:=b2.lt;have O1:=ab (iH ho1 (show w.a.j+3<=_ by simp));have HB1:=ab ((HB0.i _ _ _).trans (hb1.g (by simp;omega)));clear ho1 hb1;obtain⟨x1,x2,x3,x4⟩:=b0.K;obtain⟨y1,y2,y3,y4⟩:=b1.K;have B0:=ab b0;have B1:=ab b1;have B2:=ab b2;clear b0 b1 b2;go_wp2_with fail;refine(Mk.i A1 c1 _ (oF (jK O1.i (by simp) _))).g ?_;rintro e w2 ⟨rfl,hb2⟩;have hsz:(w1.F ⟨w.a.j,1,none⟩ (bD A1 l.a c1)).a.j=w1.a.j:=by simp[gY]
 have b0:=(B0.i.eH 1 (bD A1 l.a c1)).S hb2 (by rw[hsz];omega);have b1:=(B1.i.dM ⟨w.a.j,1,none⟩ (bD A1 l.a c1) (by simp)).S hb2 (by rw[hsz];omega);have b2:=(B2.i.dM ⟨w.a.j,1,none⟩ (bD A1 l.a c1) (by simp)).S hb2 (by rw[hsz];omega);have O2:=ab (jq (jK O1.i (by simp) _) hb2);have HB2:=ab ((HB1.i.F (av _) _).trans (hb2.g (by rw[hsz];omega)));have hz2:w.a.j+2<w2.a.j:=b2.lt;have aoP:w.a.j+1<w2.a.j:=b1.lt;have aoQ:w.a.j<w2.a.j:=b0.lt;clear hb2 hsz x1 x2 x3 x4 y1 y2 y3 y4 hz1 HB1 O1 HR1 Mk;obtain⟨x1,x2,x3,x4⟩:=b0.K;obtain⟨y1,y2,y3,y4⟩:=b1.K;have B0:=ab b0;have B1:=ab b1;have B2:=ab b2;clear b0 b1 b2;go_wp2_with fail;refine(KI l HS.i o.E (v+1) A1 c1 _ (oF (jK O2.i (by simp) _)) (by omega)).g ?_;rintro e w3 ⟨rfl,hb3⟩;have hsz:(w2.F ⟨w.a.j,0,none⟩ (aI .a (v+1))).a.j=w2.a.j:=by simp[gY]
 have b0:=(B0.i.eH 0 (aI .a (v+1))).S hb3 (by rw[hsz];omega);have b1:=(B1.i.dM ⟨w.a.j,0,none⟩ (aI .a (v+1)) (by simp)).S hb3 (by rw[hsz];omega);have b2:=(B2.i.dM ⟨w.a.j,0,none⟩ (aI .a (v+1)) (by simp)).S hb3 (by rw[hsz];omega);have ho3:=jq (jK O2.i (show w.a.j<w.a.j+3 by omega) (aI .a (v+1))) hb3;have HB3:=ab ((HB2.i.F (av _) (aI .a (v+1))).trans (hb3.g (by rw[hsz];omega)));obtain⟨g,hA1⟩:∃g,A1=some ⟨g,0,none⟩:=by
  rcases ho3.2 with⟨hv,h0⟩|⟨g,cap,cur,hv,_⟩
  ·omega
  ·injection hv with e1 _ _
   exact⟨g,e1⟩
 subst hA1;have hgb:w.a.j+3<=g:=(ho3.lt g rfl).1;have hgl:g<w3.a.j:=(ho3.lt g rfl).2;obtain⟨bb,oo,YX,_,hcc⟩:=(oF ho3).cell hli;injection YX with YX
 injection YX with e1 e2
 subst e1 e2;have O3:=ab ho3;have hz3:w.a.j<w3.a.j:=b0.lt;have asO:w.a.j+1<w3.a.j:=b1.lt;have hz32:w.a.j+2<w3.a.j:=b2.lt;clear hb3 hsz x1 x2 x3 x4 y1 y2 y3 y4 HB2 O2 ho3;obtain⟨x1,x2,x3,x4⟩:=b0.K;obtain⟨y1,y2,y3,y4⟩:=b1.K;obtain⟨u1,u2,u3,u4⟩:=b2.K;have B0:=ab b0;have B2:=ab b2;clear b0 b1 b2;clear hcc;go_wp2_with fail;rcases O3.i.2 with⟨hv,h0⟩|⟨g',cap,cur,hv,q2,q3,q4,q5,q6,q7⟩
 ·cases hv
 injection hv with e1 e2 e3
 injection e1 with e1
 injection e1 with e1
 subst e1 e3;refine(aeJ l (kE l o.E) hli (w.a.j+3) g c1 cur _ q2 q3 q4 q5 q6 q7 hn).g ?_;rintro e w4 ⟨A4,c4,rfl,ho4,hg4⟩;have b0:=B0.i.grown hg4 (fun e=>by injection e with e;omega);have b2:=B2.i.grown hg4 (fun e=>by injection e with e;omega);have hz4:w.a.j+2<w4.a.j:=b2.lt;have HB4:=ab (HB3.i.grown hg4 (by omega) (fun k hk=>by injection hk with hk;omega));obtain⟨l4,hl4⟩:=dw (Ed l (kE l o.E));rw[<-hl4]at ho4 ⊢;have O4:=ab ho4;have HL4:=ab hl4;clear hg4 ho4 x1 x2 x3 x4 y1 y2 y3 y4 u1 u2 u3 u4 HB3 O3 hl4 q3 q6 q7;obtain⟨x1,x2,x3,x4⟩:=b0.K;obtain⟨y1,y2,y3,y4⟩:=b2.K;have B0:=ab b0;have B2:=ab b2;clear b0 b2;go_wp2_with fail;have b2:=(B2.i.dM ⟨w.a.j,1,none⟩ (.a A4 l4.a c4) (by simp)).eH 0 (.b .a (v+1)) |>.eH 1 (.a A4 l4.a c4)
 obtain⟨z1,z2,z3,z4⟩:=b2.K;have hl4:=HL4.i;subst hl4;have hZ:=z3 0 2 (av _);refine aN (Ee rfl _ _ _ _ rfl (by rw[hZ];trivial)) rfl ⟨A4,c4,?_,iH (base:=w.a.j+3) (jK (jK (jK O4.i (show w.a.j<w.a.j+3 by omega) _) (show w.a.j+2<w.a.j+3 by omega) _) (show w.a.j+2<w.a.j+3 by omega) _) (by omega),((HB4.i.F (av _) _).F (show w.a.j<=w.a.j+2 by omega) _).F (show w.a.j<=w.a.j+2 by omega) _⟩;rw[z4 0 2 (av _)];rfl
theorem aif(l:List Bk)(hs:DN l)(v:Int)(hv : -9223372036854775808<=v/\v<9223372036854775807)(o:nK)(hf:o.h.rE)(hw:o.w<18446744073709551616)(Bj:qp v l o=0)(h1:o.kind=3)(hn0:rP l o.E=true)(A:Option aT)(c:Nat)(w:ak)(hR:Fa w w.a.j A l.a l)(hn:l.a<=100000):
 aQ ah 71 #[.d #[.b .a v,.a A l.a c],.d o.ay] w (Ul w (v+1) (l.set (kE l o.E) ((pO l o.E).LV (j6 o.w))) 0):=by
 have HS:=ab hs;have HR1:=ab (fun ob tZ Gj=>(((hR.alloc (av _) ob).alloc (by simp) tZ).alloc (by simp;omega) Gj).lu (B':=(((w.alloc ob).alloc tZ).alloc Gj).a.j) (by simp;omega));have HB0:=ab (fun ob tZ Gj=>((((aG w.a.j w).alloc (av _) ob).alloc (by simp) tZ).alloc (by simp;omega) Gj:aM w.a.j w (((w.alloc ob).alloc tZ).alloc Gj)));have NG:=fun A c W (hR:Fa W W.a.j A l.a l)=>JD l hs v o hf hw A c W hR (by omega)
 rw[Bj]at NG;have Mk:=ab NG;clear hR hs NG Bj;obtain⟨hv1,hv2⟩:=hv;have hli:=sw hn0;have hin:((kE l o.E:Nat):Int)<(l.a:Nat):=by omega
 have HG:=ab (D8 hn0);clear hn0;go_enter ED,Ca;go_wp2_with fail;refine(xC l A c _ (HR1.i _ _ _) hn).g ?_;rintro e w1 ⟨A1,c1,rfl,ho1,hb1⟩;have b0:=(((dL.new w _ _).alloc _).alloc _).S hb1 (by simp;omega);have b1:=((dL.Sq w _ _ _).alloc _).S hb1 (by simp);have b2:=(dL.ahA w _ _ _ _).S hb1 (by simp);have hz1:w.a.j+2<w1.a.j:=b2.lt;have O1:=ab (iH ho1 (show w.a.j+3<=_ by simp));have HB1:=ab ((HB0.i _ _ _).trans (hb1.g (by simp;omega)));clear ho1 hb1;obtain⟨x1,x2,x3,x4⟩:=b0.K;obtain⟨y1,y2,y3,y4⟩:=b1.K;have B0:=ab b0;have B1:=ab b1;have B2:=ab b2;clear b0 b1 b2;go_wp2_with fail;refine(Mk.i A1 c1 _ (oF (jK O1.i (by simp) _))).g ?_;rintro e w2 ⟨rfl,hb2⟩;have hsz:(w1.F ⟨w.a.j,1,none⟩ (bD A1 l.a c1)).a.j=w1.a.j:=by simp[gY]
 have b0:=(B0.i.eH 1 (bD A1 l.a c1)).S hb2 (by rw[hsz];omega);have b1:=(B1.i.dM ⟨w.a.j,1,none⟩ (bD A1 l.a c1) (by simp)).S hb2 (by rw[hsz];omega);have b2:=(B2.i.dM ⟨w.a.j,1,none⟩ (bD A1 l.a c1) (by simp)).S hb2 (by rw[hsz];omega);have O2:=ab (jq (jK O1.i (by simp) _) hb2);have HB2:=ab ((HB1.i.F (av _) _).trans (hb2.g (by rw[hsz];omega)));have hz2:w.a.j+2<w2.a.j:=b2.lt;have aoP:w.a.j+1<w2.a.j:=b1.lt;have aoQ:w.a.j<w2.a.j:=b0.lt;clear hb2 hsz x1 x2 x3 x4 y1 y2 y3 y4 hz1 HB1 O1 HR1 Mk;obtain⟨x1,x2,x3,x4⟩:=b0.K;obtain⟨y1,y2,y3,y4⟩:=b1.K;have B0:=ab b0;have B1:=ab b1;have B2:=ab b2;clear b0 b1 b2;go_wp2_with fail;refine(KI l HS.i o.E (v+1) A1 c1 _ (oF (jK O2.i (by simp) _)) (by omega)).g ?_;rintro e w3 ⟨rfl,hb3⟩;have hsz:(w2.F ⟨w.a.j,0,none⟩ (aI .a (v+1))).a.j=w2.a.j:=by simp[gY]
 have b0:=(B0.i.eH 0 (aI .a (v+1))).S hb3 (by rw[hsz];omega);have b1:=(B1.i.dM ⟨w.a.j,0,none⟩ (aI .a (v+1)) (by simp)).S hb3 (by rw[hsz];omega);have b2:=(B2.i.dM ⟨w.a.j,0,none⟩ (aI .a (v+1)) (by simp)).S hb3 (by rw[hsz];omega);have ho3:=jq (jK O2.i (show w.a.j<w.a.j+3 by omega) (aI .a (v+1))) hb3;have HB3:=ab ((HB2.i.F (av _) (aI .a (v+1))).trans (hb3.g (by rw[hsz];omega)));obtain⟨g,hA1⟩:∃g,A1=some ⟨g,0,none⟩:=by
  rcases ho3.2 with⟨hv,h0⟩|⟨g,cap,cur,hv,_⟩
  ·omega
  ·injection hv with e1 _ _
   exact⟨g,e1⟩
 subst hA1;have hgb:w.a.j+3<=g:=(ho3.lt g rfl).1;have hgl:g<w3.a.j:=(ho3.lt g rfl).2;obtain⟨bb,oo,YX,_,hcc⟩:=(oF ho3).cell hli;injection YX with YX
 injection YX with e1 e2
 subst e1 e2;have O3:=ab ho3;have hz3:w.a.j<w3.a.j:=b0.lt;have asO:w.a.j+1<w3.a.j:=b1.lt;have hz32:w.a.j+2<w3.a.j:=b2.lt;clear hb3 hsz x1 x2 x3 x4 y1 y2 y3 y4 HB2 O2 ho3;have hcl:w3.b ⟨g,kE l o.E*27+25,none⟩=some (.float .f64 (pO l o.E).w):=by
  have:=hcc 25 (by omega);rw[bl]at this;rw[this,<-HG.i];exact Bk.ad9 _
 have hfr:w3.frozen? ⟨g,kE l o.E*27+25,none⟩=false:=by
  rcases O3.i.2 with⟨hv,h0⟩|⟨g',cap,cur,hv,q2,q3,q4,q5,q6,q7⟩
  ·cases hv
  injection hv with e1 e2 e3
  injection e1 with e1
  injection e1 with e1
  subst e1;simp[sj,q3]
 clear hcc;obtain⟨x1,x2,x3,x4⟩:=b0.K;obtain⟨y1,y2,y3,y4⟩:=b1.K;obtain⟨u1,u2,u3,u4⟩:=b2.K;have B0:=ab b0;have B2:=ab b2;clear b0 b1 b2;go_wp2_with fail;refine(yZ _ _).g ?_;rintro e w' ⟨rfl,rfl⟩;go_wp2_with fail;have O4:=ab (Rh O3.i (kE l o.E*27+25) (by omega) (.float .f64 (j6 o.w)));have hxs:(dG l).set (kE l o.E*27+25) (.float .f64 (j6 o.w))=dG (l.set (kE l o.E) ((pO l o.E).LV (j6 o.w))):=
  Iu l (kE l o.E) hli _ 25 (by omega) _ (by rw[<-HG.i];exact(Bk.awr (pO l o.E) _).symm)
 rw[hxs]at O4;have b2:=((B2.i.dM ⟨g,kE l o.E*27+25,none⟩ (.float .f64 (j6 o.w)) (by show g≠_;omega)).eH 0 (.b .a (v+1))).eH 1 (.a (some ⟨g,0,none⟩) l.a c1);obtain⟨z1,z2,z3,z4⟩:=b2.K;have hZ:=z3 0 2 (av _);have hlen:(l.set (kE l o.E) ((pO l o.E).LV (j6 o.w))).a=l.a:=aV;refine aN (Ee rfl _ _ _ _ rfl (by rw[hZ];trivial)) rfl ⟨some ⟨g,0,none⟩,c1,?_,?_,((HB3.i.F (show w.a.j<=g by omega) _).F (show w.a.j<=w.a.j+2 by omega) _).F (show w.a.j<=w.a.j+2 by omega) _⟩
 ·rw[z4 0 2 (av _),hlen]
  rfl
 ·rw[hlen]
  exact iH (base:=w.a.j+3) (jK (jK O4.i (show w.a.j+2<w.a.j+3 by omega) _) (show w.a.j+2<w.a.j+3 by omega) _) (by omega)
theorem ale(l:List Bk)(hs:DN l)(v:Int)(hv : -9223372036854775808<=v/\v<9223372036854775807)(o:nK)(hf:o.h.rE)(hw:o.w<18446744073709551616)(Bj:qp v l o=0)(h1:o.kind=4)(hn0:rP l o.E=true)(A:Option aT)(c:Nat)(w:ak)(hR:Fa w w.a.j A l.a l)(hn:l.a<=100000):
 aQ ah 71 #[.d #[.b .a v,.a A l.a c],.d o.ay] w (Ul w (v+1) (l.set (kE l o.E) ((pO l o.E).toD true)) 0):=by
 have HS:=ab hs;have HR1:=ab (fun ob tZ Gj=>(((hR.alloc (av _) ob).alloc (by simp) tZ).alloc (by simp;omega) Gj).lu (B':=(((w.alloc ob).alloc tZ).alloc Gj).a.j) (by simp;omega));have HB0:=ab (fun ob tZ Gj=>((((aG w.a.j w).alloc (av _) ob).alloc (by simp) tZ).alloc (by simp;omega) Gj:aM w.a.j w (((w.alloc ob).alloc tZ).alloc Gj)));have NG:=fun A c W (hR:Fa W W.a.j A l.a l)=>JD l hs v o hf hw A c W hR (by omega)
 rw[Bj]at NG;have Mk:=ab NG;clear hR hs NG Bj;obtain⟨hv1,hv2⟩:=hv;have hli:=sw hn0;have hin:((kE l o.E:Nat):Int)<(l.a:Nat):=by omega
 have HG:=ab (D8 hn0);clear hn0;go_enter ED,Ca;go_wp2_with fail;refine(xC l A c _ (HR1.i _ _ _) hn).g ?_;rintro e w1 ⟨A1,c1,rfl,ho1,hb1⟩;have b0:=(((dL.new w _ _).alloc _).alloc _).S hb1 (by simp;omega);have b1:=((dL.Sq w _ _ _).alloc _).S hb1 (by simp);have b2:=(dL.ahA w _ _ _ _).S hb1 (by simp);have hz1:w.a.j+2<w1.a.j:=b2.lt;have O1:=ab (iH ho1 (show w.a.j+3<=_ by simp));have HB1:=ab ((HB0.i _ _ _).trans (hb1.g (by simp;omega)));clear ho1 hb1;obtain⟨x1,x2,x3,x4⟩:=b0.K;obtain⟨y1,y2,y3,y4⟩:=b1.K;have B0:=ab b0;have B1:=ab b1;have B2:=ab b2;clear b0 b1 b2;go_wp2_with fail;refine(Mk.i A1 c1 _ (oF (jK O1.i (by simp) _))).g ?_;rintro e w2 ⟨rfl,hb2⟩;have hsz:(w1.F ⟨w.a.j,1,none⟩ (bD A1 l.a c1)).a.j=w1.a.j:=by simp[gY]
 have b0:=(B0.i.eH 1 (bD A1 l.a c1)).S hb2 (by rw[hsz];omega);have b1:=(B1.i.dM ⟨w.a.j,1,none⟩ (bD A1 l.a c1) (by simp)).S hb2 (by rw[hsz];omega);have b2:=(B2.i.dM ⟨w.a.j,1,none⟩ (bD A1 l.a c1) (by simp)).S hb2 (by rw[hsz];omega);have O2:=ab (jq (jK O1.i (by simp) _) hb2);have HB2:=ab ((HB1.i.F (av _) _).trans (hb2.g (by rw[hsz];omega)));have hz2:w.a.j+2<w2.a.j:=b2.lt;have aoP:w.a.j+1<w2.a.j:=b1.lt;have aoQ:w.a.j<w2.a.j:=b0.lt;clear hb2 hsz x1 x2 x3 x4 y1 y2 y3 y4 hz1 HB1 O1 HR1 Mk;obtain⟨x1,x2,x3,x4⟩:=b0.K;obtain⟨y1,y2,y3,y4⟩:=b1.K;have B0:=ab b0;have B1:=ab b1;have B2:=ab b2;clear b0 b1 b2;go_wp2_with fail;refine(KI l HS.i o.E (v+1) A1 c1 _ (oF (jK O2.i (by simp) _)) (by omega)).g ?_;rintro e w3 ⟨rfl,hb3⟩;have hsz:(w2.F ⟨w.a.j,0,none⟩ (aI .a (v+1))).a.j=w2.a.j:=by simp[gY]
 have b0:=(B0.i.eH 0 (aI .a (v+1))).S hb3 (by rw[hsz];omega);have b1:=(B1.i.dM ⟨w.a.j,0,none⟩ (aI .a (v+1)) (by simp)).S hb3 (by rw[hsz];omega);have b2:=(B2.i.dM ⟨w.a.j,0,none⟩ (aI .a (v+1)) (by simp)).S hb3 (by rw[hsz];omega);have ho3:=jq (jK O2.i (show w.a.j<w.a.j+3 by omega) (aI .a (v+1))) hb3;have HB3:=ab ((HB2.i.F (av _) (aI .a (v+1))).trans (hb3.g (by rw[hsz];omega)));obtain⟨g,hA1⟩:∃g,A1=some ⟨g,0,none⟩:=by
  rcases ho3.2 with⟨hv,h0⟩|⟨g,cap,cur,hv,_⟩
  ·omega
  ·injection hv with e1 _ _
   exact⟨g,e1⟩
 subst hA1;have hgb:w.a.j+3<=g:=(ho3.lt g rfl).1;have hgl:g<w3.a.j:=(ho3.lt g rfl).2;obtain⟨bb,oo,YX,_,hcc⟩:=(oF ho3).cell hli;injection YX with YX
 injection YX with e1 e2
 subst e1 e2;have O3:=ab ho3;have hz3:w.a.j<w3.a.j:=b0.lt;have asO:w.a.j+1<w3.a.j:=b1.lt;have hz32:w.a.j+2<w3.a.j:=b2.lt;clear hb3 hsz x1 x2 x3 x4 y1 y2 y3 y4 HB2 O2 ho3;have hcl:w3.b ⟨g,kE l o.E*27+26,none⟩=some (.bool (pO l o.E).drain):=by
  have:=hcc 26 (by omega);rw[bl]at this;rw[this,<-HG.i];exact Bk.aea _
 have hfr:w3.frozen? ⟨g,kE l o.E*27+26,none⟩=false:=by
  rcases O3.i.2 with⟨hv,h0⟩|⟨g',cap,cur,hv,q2,q3,q4,q5,q6,q7⟩
  ·cases hv
  injection hv with e1 e2 e3
  injection e1 with e1
  injection e1 with e1
  subst e1;simp[sj,q3]
 clear hcc;obtain⟨x1,x2,x3,x4⟩:=b0.K;obtain⟨y1,y2,y3,y4⟩:=b1.K;obtain⟨u1,u2,u3,u4⟩:=b2.K;have B0:=ab b0;have B2:=ab b2;clear b0 b1 b2;go_wp2_with fail;have O4:=ab (Rh O3.i (kE l o.E*27+26) (by omega) (.bool true));have hxs:(dG l).set (kE l o.E*27+26) (.bool true)=dG (l.set (kE l o.E) ((pO l o.E).toD true)):=
  Iu l (kE l o.E) hli _ 26 (by omega) _ (by rw[<-HG.i];exact(Bk.aqX (pO l o.E) _).symm)
 rw[hxs]at O4;have b2:=((B2.i.dM ⟨g,kE l o.E*27+26,none⟩ (.bool true) (by show g≠_;omega)).eH 0 (.b .a (v+1))).eH 1 (.a (some ⟨g,0,none⟩) l.a c1);obtain⟨z1,z2,z3,z4⟩:=b2.K;have hZ:=z3 0 2 (av _);have hlen:(l.set (kE l o.E) ((pO l o.E).toD true)).a=l.a:=aV;refine aN (Ee rfl _ _ _ _ rfl (by rw[hZ];trivial)) rfl ⟨some ⟨g,0,none⟩,c1,?_,?_,((HB3.i.F (show w.a.j<=g by omega) _).F (show w.a.j<=w.a.j+2 by omega) _).F (show w.a.j<=w.a.j+2 by omega) _⟩
 ·rw[z4 0 2 (av _),hlen]
  rfl
 ·rw[hlen]
  exact iH (base:=w.a.j+3) (jK (jK O4.i (show w.a.j+2<w.a.j+3 by omega) _) (show w.a.j+2<w.a.j+3 by omega) _) (by omega)
theorem aoS(l:List Bk)(hs:DN l)(v:Int)(hv : -9223372036854775808<=v/\v<9223372036854775807)(o:nK)(hf:o.h.rE)(hw:o.w<18446744073709551616)(Bj:qp v l o=0)(h1:o.kind=5)(hn0:rP l o.E=true)(A:Option aT)(c:Nat)(w:ak)(hR:Fa w w.a.j A l.a l)(hn:l.a<=100000):
 aQ ah 71 #[.d #[.b .a v,.a A l.a c],.d o.ay] w (Ul w (v+1) (l.set (kE l o.E) ((pO l o.E).toD false)) 0):=by
 have HS:=ab hs;have HR1:=ab (fun ob tZ Gj=>(((hR.alloc (av _) ob).alloc (by simp) tZ).alloc (by simp;omega) Gj).lu (B':=(((w.alloc ob).alloc tZ).alloc Gj).a.j) (by simp;omega));have HB0:=ab (fun ob tZ Gj=>((((aG w.a.j w).alloc (av _) ob).alloc (by simp) tZ).alloc (by simp;omega) Gj:aM w.a.j w (((w.alloc ob).alloc tZ).alloc Gj)));have NG:=fun A c W (hR:Fa W W.a.j A l.a l)=>JD l hs v o hf hw A c W hR (by omega)
 rw[Bj]at NG;have Mk:=ab NG;clear hR hs NG Bj;obtain⟨hv1,hv2⟩:=hv;have hli:=sw hn0;have hin:((kE l o.E:Nat):Int)<(l.a:Nat):=by omega
 have HG:=ab (D8 hn0);clear hn0;go_enter ED,Ca;go_wp2_with fail;refine(xC l A c _ (HR1.i _ _ _) hn).g ?_;rintro e w1 ⟨A1,c1,rfl,ho1,hb1⟩;have b0:=(((dL.new w _ _).alloc _).alloc _).S hb1 (by simp;omega);have b1:=((dL.Sq w _ _ _).alloc _).S hb1 (by simp);have b2:=(dL.ahA w _ _ _ _).S hb1 (by simp);have hz1:w.a.j+2<w1.a.j:=b2.lt;have O1:=ab (iH ho1 (show w.a.j+3<=_ by simp));have HB1:=ab ((HB0.i _ _ _).trans (hb1.g (by simp;omega)));clear ho1 hb1;obtain⟨x1,x2,x3,x4⟩:=b0.K;obtain⟨y1,y2,y3,y4⟩:=b1.K;have B0:=ab b0;have B1:=ab b1;have B2:=ab b2;clear b0 b1 b2;go_wp2_with fail;refine(Mk.i A1 c1 _ (oF (jK O1.i (by simp) _))).g ?_;rintro e w2 ⟨rfl,hb2⟩;have hsz:(w1.F ⟨w.a.j,1,none⟩ (bD A1 l.a c1)).a.j=w1.a.j:=by simp[gY]
 have b0:=(B0.i.eH 1 (bD A1 l.a c1)).S hb2 (by rw[hsz];omega);have b1:=(B1.i.dM ⟨w.a.j,1,none⟩ (bD A1 l.a c1) (by simp)).S hb2 (by rw[hsz];omega);have b2:=(B2.i.dM ⟨w.a.j,1,none⟩ (bD A1 l.a c1) (by simp)).S hb2 (by rw[hsz];omega);have O2:=ab (jq (jK O1.i (by simp) _) hb2);have HB2:=ab ((HB1.i.F (av _) _).trans (hb2.g (by rw[hsz];omega)));have hz2:w.a.j+2<w2.a.j:=b2.lt;have aoP:w.a.j+1<w2.a.j:=b1.lt;have aoQ:w.a.j<w2.a.j:=b0.lt;clear hb2 hsz x1 x2 x3 x4 y1 y2 y3 y4 hz1 HB1 O1 HR1 Mk;obtain⟨x1,x2,x3,x4⟩:=b0.K;obtain⟨y1,y2,y3,y4⟩:=b1.K;have B0:=ab b0;have B1:=ab b1;have B2:=ab b2;clear b0 b1 b2;go_wp2_with fail;refine(KI l HS.i o.E (v+1) A1 c1 _ (oF (jK O2.i (by simp) _)) (by omega)).g ?_;rintro e w3 ⟨rfl,hb3⟩;have hsz:(w2.F ⟨w.a.j,0,none⟩ (aI .a (v+1))).a.j=w2.a.j:=by simp[gY]
 have b0:=(B0.i.eH 0 (aI .a (v+1))).S hb3 (by rw[hsz];omega);have b1:=(B1.i.dM ⟨w.a.j,0,none⟩ (aI .a (v+1)) (by simp)).S hb3 (by rw[hsz];omega);have b2:=(B2.i.dM ⟨w.a.j,0,none⟩ (aI .a (v+1)) (by simp)).S hb3 (by rw[hsz];omega);have ho3:=jq (jK O2.i (show w.a.j<w.a.j+3 by omega) (aI .a (v+1))) hb3;have HB3:=ab ((HB2.i.F (av _) (aI .a (v+1))).trans (hb3.g (by rw[hsz];omega)));obtain⟨g,hA1⟩:∃g,A1=some ⟨g,0,none⟩:=by
  rcases ho3.2 with⟨hv,h0⟩|⟨g,cap,cur,hv,_⟩
  ·omega
  ·injection hv with e1 _ _
   exact⟨g,e1⟩
 subst hA1;have hgb:w.a.j+3<=g:=(ho3.lt g rfl).1;have hgl:g<w3.a.j:=(ho3.lt g rfl).2;obtain⟨bb,oo,YX,_,hcc⟩:=(oF ho3).cell hli;injection YX with YX
 injection YX with e1 e2
 subst e1 e2;have O3:=ab ho3;have hz3:w.a.j<w3.a.j:=b0.lt;have asO:w.a.j+1<w3.a.j:=b1.lt;have hz32:w.a.j+2<w3.a.j:=b2.lt;clear hb3 hsz x1 x2 x3 x4 y1 y2 y3 y4 HB2 O2 ho3;have hcl:w3.b ⟨g,kE l o.E*27+26,none⟩=some (.bool (pO l o.E).drain):=by
  have:=hcc 26 (by omega);rw[bl]at this;rw[this,<-HG.i];exact Bk.aea _
 have hfr:w3.frozen? ⟨g,kE l o.E*27+26,none⟩=false:=by
  rcases O3.i.2 with⟨hv,h0⟩|⟨g',cap,cur,hv,q2,q3,q4,q5,q6,q7⟩
  ·cases hv
  injection hv with e1 e2 e3
  injection e1 with e1
  injection e1 with e1
  subst e1;simp[sj,q3]
 clear hcc;obtain⟨x1,x2,x3,x4⟩:=b0.K;obtain⟨y1,y2,y3,y4⟩:=b1.K;obtain⟨u1,u2,u3,u4⟩:=b2.K;have B0:=ab b0;have B2:=ab b2;clear b0 b1 b2;go_wp2_with fail;have O4:=ab (Rh O3.i (kE l o.E*27+26) (by omega) (.bool false));have hxs:(dG l).set (kE l o.E*27+26) (.bool false)=dG (l.set (kE l o.E) ((pO l o.E).toD false)):=
  Iu l (kE l o.E) hli _ 26 (by omega) _ (by rw[<-HG.i];exact(Bk.aqX (pO l o.E) _).symm)
 rw[hxs]at O4;have b2:=((B2.i.dM ⟨g,kE l o.E*27+26,none⟩ (.bool false) (by show g≠_;omega)).eH 0 (.b .a (v+1))).eH 1 (.a (some ⟨g,0,none⟩) l.a c1);obtain⟨z1,z2,z3,z4⟩:=b2.K;have hZ:=z3 0 2 (av _);have hlen:(l.set (kE l o.E) ((pO l o.E).toD false)).a=l.a:=aV;refine aN (Ee rfl _ _ _ _ rfl (by rw[hZ];trivial)) rfl ⟨some ⟨g,0,none⟩,c1,?_,?_,((HB3.i.F (show w.a.j<=g by omega) _).F (show w.a.j<=w.a.j+2 by omega) _).F (show w.a.j<=w.a.j+2 by omega) _⟩
 ·rw[z4 0 2 (av _),hlen]
  rfl
 ·rw[hlen]
  exact iH (base:=w.a.j+3) (jK (jK O4.i (show w.a.j+2<w.a.j+3 by omega) _) (show w.a.j+2<w.a.j+3 by omega) _) (by omega)
theorem Bl(l:List Bk)(i:Nat)(hi:i<l.a):nm l i=(l[i]'hi).E:=by
 unfold nm;rw[au,aC hi];rfl
theorem Xw(a:List UInt8):mo a a=0:=D7.2 rfl
theorem uS{v:Int}{l:List Bk}:xQ v l=true↔0<=v/\v<=1099511627776/\l.a<=1024/\(∀x∈l,x.AY=true/\Wu x.w=true)/\DN l:=by
 unfold xQ JZ;simp only[bf,decide_eq_true_eq,List.all_eq_true,List.mem_range,Bool.or_eq_true];constructor
 ·rintro⟨⟨⟨h1,h2⟩,h3⟩,h4⟩
  refine⟨h1,h2,h3,fun x hx=>?_,?_⟩
  ·obtain⟨i,hi,rfl⟩:=lD hx
   have:=(h4 i hi).1;rw[au,aC hi]at this;exact this
  ·unfold DN
   have key:∀d i (hi:i+d+1<l.a),mo (nm l i) (nm l (i+d+1))<0:=by
    intro d
    induction d with
    | zero=>
      intro i hi;have:=(h4 (i+1) hi).2;rcases this with h|h
      ·omega
      ·simpa using h
    | succ d ih=>
      intro i hi;have h5:=ih i (by omega);have h6:=(h4 (i+d+1+1) hi).2;rcases h6 with h|h
      ·omega
      ·have h7:mo (nm l (i+d+1)) (nm l (i+(d+1)+1))<0:=by simpa[ng]using h
       exact Fb h5 h7
   rw[fO];intro i j hi hj hij;have:=key (j-i-1) i (by omega);rw[show i+(j-i-1)+1=j by omega,Bl l i hi,Bl l j hj]at this;exact this
 ·rintro⟨h1,h2,h3,h4,h5⟩
  refine⟨⟨⟨h1,h2⟩,h3⟩,fun i hi=>⟨?_,?_⟩⟩
  ·have:=h4 (l[i]'hi) (dX hi)
   rw[au,aC hi];exact this
  ·rcases dW i with h|h
   ·exact .a h
   ·exact .b (h5.lt (by omega) hi)
theorem ab'{l:List Bk}(hs:DN l){s:List UInt8}:rP l s=true↔∃x∈l,x.E=s:=by
 constructor
 ·intro h
  have hl:=sw h;unfold rP at h;simp at h;refine⟨l[kE l s]'hl,dX hl,?_⟩;rw[<-Bl l _ hl];exact D7.1 h.2
 ·rintro⟨x,hx,rfl⟩
  obtain⟨i,hi,rfl⟩:=lD hx;exact(agw hs hi (Bl l i hi)).2
theorem Um{l:List Bk}(hs:DN l){x:Bk}(hx:x∈l):pO l x.E=x:=by
 obtain⟨i,hi,rfl⟩:=lD hx;obtain⟨h1,h2⟩:=agw hs hi (Bl l i hi);rw[D8 h2,h1,au,aC hi];rfl
theorem JE{l:List Bk}{s:List UInt8}(h:rP l s=true):pO l s∈l/\(pO l s).E=s:=by
 have hl:=sw h;rw[D8 h,au,aC hl];refine⟨dX hl,?_⟩;unfold rP at h;simp at h;show(l[kE l s]).E=s;rw[<-Bl l _ hl];exact D7.1 h.2
theorem Fv{l:List Bk}{s:List UInt8}(h:rP l s=true):nm l (kE l s)=s:=by
 unfold rP at h;simp at h;exact D7.1 h.2
theorem Xx(l:List Bk)(s:List UInt8):(∀i,i<kE l s->mo (nm l i) s<0)/\(kE l s<l.a->¬mo (nm l (kE l s)) s<0):=by
 induction l with
 | nil=>exact⟨fun i hi=>absurd hi (by simp[kE]),fun h=>absurd h (by simp)⟩
 | cons x l ih=>
   by_cases hx:mo x.E s<0
   ·have e:kE (x::l) s=kE l s+1:=by unfold kE;rw[List.takeWhile_cons];simp[hx]
    rw[e];refine⟨fun i hi=>?_,fun h=>?_⟩
    ·rcases i with _|i
     ·exact hx
     ·exact ih.1 i (by omega)
    ·exact ih.2 (by simpa using h)
   ·have e:kE (x::l) s=0:=by unfold kE;rw[List.takeWhile_cons];simp[hx]
    rw[e];exact⟨fun i hi=>by omega,fun _=>hx⟩
theorem Un{l:List Bk}(s:List UInt8){x:Bk}(hx:x∈l.d (kE l s)):mo x.E s<0:=by
 obtain⟨i,hi,rfl⟩:=lD hx;rw[bJ]at hi;rw[List.getElem_take,<-Bl l i (by omega)];exact(Xx l s).1 i (by omega)
theorem alf{l:List Bk}(s:List UInt8)(h:kE l s<l.a):¬mo (nm l (kE l s)) s<0:=(Xx l s).2 h
theorem Xy{l:List Bk}(hs:DN l)(s:List UInt8)(hno:rP l s=false){x:Bk}(hx:x∈l.f (kE l s)):mo s x.E<0:=by
 obtain⟨i,hi,rfl⟩:=lD hx;rw[jw]at hi;rw[List.getElem_drop];have h0:=alf s (show kE l s<l.a by omega);have h1:mo (nm l (kE l s)) s≠0:=by
  intro h;unfold rP at hno;simp[show kE l s<l.a by omega,h]at hno
 have h2:mo s (nm l (kE l s))<0:=by
  rw[ahR];have:=aei (nm l (kE l s)) s;omega
 rw[<-Bl l _ (by omega)];rcases dW i with h|h
 ·subst h;simpa using h2
 ·exact Fb h2 (hs.lt (by omega) (by omega))
theorem agO{l:List Bk}{k:Nat}{x y:Bk}:y∈zG l k x↔y=x\/y∈l:=by
 unfold zG;rw[ql,bC];have:y∈l↔y∈l.d k\/y∈l.f k:=by rw[<-ql,iG]
 rw[this];constructor
 ·rintro(h|h|h)
  ·exact .b (.a h)
  ·exact .a h
  ·exact .b (.b h)
 ·rintro(h|h|h)
  ·exact .b (.a h)
  ·exact .a h
  ·exact .b (.b h)
theorem aoT{l:List Bk}(hs:DN l){x:Bk}(hno:rP l x.E=false):DN (zG l (kE l x.E) x):=by
 unfold DN zG;rw[List.pairwise_append];refine⟨hs.sublist (List.take_sublist _ _),?_,?_⟩
 ·rw[gI]
  exact⟨fun y hy=>Xy hs x.E hno hy,hs.sublist (List.drop_sublist _ _)⟩
 ·intro a ha b hb
  rcases bC.1 hb with rfl|hb
  ·exact Un _ ha
  ·exact Fb (Un _ ha) (Xy hs x.E hno hb)
theorem aoU{l:List Bk}(hs:DN l)(i:Nat):DN (Ed l i):=by
 unfold Ed;refine hs.sublist ?_
 conv=>rhs;rw[<-iG i l]
 exact List.Sublist.append_left (by rw[<-List.drop_drop];exact List.drop_sublist _ _) _
theorem Zy{l:List Bk}(hs:DN l){i:Nat}(hi:i<l.a){y:Bk}:y∈Ed l i↔y∈l/\y.E≠nm l i:=by
 have e:l=l.d i++l[i]::l.f (i+1):=by
  conv=>lhs;rw[<-iG i l,kS hi]
 unfold Ed;constructor
 ·intro h
  have hm:y∈l:=by
   rw[e];rcases ql.1 h with h|h
   ·exact Am _ h
   ·exact List.mem_append_right _ (List.mem_cons_of_mem _ h)
  refine⟨hm,fun hn=>?_⟩;rw[Bl l i hi]at hn;have hs2:=hs;unfold DN at hs2;rw[e,List.pairwise_append,gI]at hs2;rcases ql.1 h with h|h
  ·have:=hs2.2.2 y h l[i] (List.mem_cons_self ..)
   rw[hn,Xw]at this;omega
  ·have:=hs2.2.1.1 y h
   rw[hn,Xw]at this;omega
 ·rintro⟨hm,hn⟩
  rw[e]at hm;rcases ql.1 hm with h|h
  ·exact Am _ h
  ·rcases bC.1 h with rfl|h
   ·exact absurd (Bl l i hi).symm hn
   ·exact List.mem_append_right _ h
theorem agP{l:List Bk}(hs:DN l){i:Nat}(hi:i<l.a){z:Bk}(hz:z.E=nm l i):DN (l.set i z):=by
 unfold DN;rw[fO];intro a b ha hb hab;rw[aV]at ha hb;have hn:∀j (hj:j<(l.set i z).a),((l.set i z)[j]).E=nm l j:=by
  intro j hj;rw[aV]at hj;rw[List.getElem_set];split
  ·rename_i h;subst h;exact hz
  ·exact(Bl l j hj).symm
 rw[hn,hn];exact hs.lt hab hb
theorem JF{l:List Bk}(hs:DN l){i:Nat}(hi:i<l.a){z y:Bk}(hz:z.E=nm l i):y∈l.set i z↔y=z\/(y∈l/\y.E≠nm l i):=by
 have e:l=l.d i++l[i]::l.f (i+1):=by
  conv=>lhs;rw[<-iG i l,kS hi]
 have e2:l.set i z=l.d i++z::l.f (i+1):=List.set_eq_take_append_cons_drop ▸ (by rw[if_pos hi]);have hd:=@Zy l hs i hi y;rw[e2,ql,bC];unfold Ed at hd;rw[ql]at hd;rw[<-hd];constructor
 ·rintro(h|h|h)
  ·exact .b (.a h)
  ·exact .a h
  ·exact .b (.b h)
 ·rintro(h|h|h)
  ·exact .b (.a h)
  ·exact .a h
  ·exact .b (.b h)
def doV(v:Int)(l:List Bk)(o:nK):Int:=if qp v l o=0 then v+1 else v
def Wm(v:Int)(l:List Bk)(o:nK):List Bk:=if qp v l o=0 then Iw l o else l
theorem asP(l:List Bk)(hs:DN l)(v:Int)(hv : -9223372036854775808<=v/\v<9223372036854775807)(o:nK)(hf:o.h.rE)(hw:o.w<18446744073709551616)(A:Option aT)(c:Nat)(w:ak)(hR:Fa w w.a.j A l.a l)(hn:l.a<=100000):
 aQ ah 71 #[.d #[.b .a v,.a A l.a c],.d o.ay] w (Ul w (doV v l o) (Wm v l o) (qp v l o)):=by
 by_cases h:qp v l o=0
 ·have hV:doV v l o=v+1:=by simp[doV,h]
  have hL:Wm v l o=Iw l o:=by simp[Wm,h]
  rw[hV,hL,h];obtain⟨k1,k2,k3,k4,k5,k6⟩:=Ot h;unfold Iw;by_cases h1:o.kind=1
  ·rw[if_pos h1]
   exact asM l hs v hv o hf hw h h1 A c w hR hn
  ·rw[if_neg h1]
   by_cases h2:o.kind=2
   ·rw[if_pos h2]
    exact asN l hs v hv o hf hw h h2 (k6 h1) A c w hR hn
   ·rw[if_neg h2]
    by_cases h3:o.kind=3
    ·rw[if_pos h3]
     exact aif l hs v hv o hf hw h h3 (k6 h1) A c w hR hn
    ·rw[if_neg h3]
     by_cases h4:o.kind=4
     ·rw[show(o.kind==4)=true by simpa using h4]
      exact ale l hs v hv o hf hw h h4 (k6 h1) A c w hR hn
     ·rw[show(o.kind==4)=false by simpa using h4]
      exact aoS l hs v hv o hf hw h (by omega) (k6 h1) A c w hR hn
 ·have hV:doV v l o=v:=by simp[doV,h]
  have hL:Wm v l o=l:=by simp[Wm,h]
  rw[hV,hL];exact asL l hs v o hf hw h A c w hR hn
structure oQ where
 E:List UInt8
 q:Int
deriving DecidableEq
def oQ.ay(x:oQ):Array aB:=#[.g (bU x.E),.b .a x.q]
def Ap(l:List oQ):List aB:=l.flatMap (·.ay.a)
theorem Fx(l:List oQ)(x:oQ):Ap (l++[x])=Ap l++x.ay.a:=by simp[Ap]
theorem Zz:∃i:TypeInfo,ah.l 151=some i/\i.zero=some (.d #[.g ⟨#[]⟩,.b .a 0])/\i.j=2/\i.bytes<=200:=by
 cases h:ah.l 151 with
 | none=>exact absurd h (by have:(ah.l 151).isSome=true:=by kernel_rfl
                            intro e;rw[e]at this;cases this)
 | some i=>
   have h1:(ah.l 151).map (·.j)=some 2:=by kernel_rfl
   have h2:(ah.l 151).map (fun i=>decide (i.bytes<=200))=some true:=by kernel_rfl
   have h3:(ah.l 151).map (·.zero)=some (some (.d #[.g ⟨#[]⟩,.b .a 0])):=by kernel_rfl
   rw[h]at h1 h2 h3;simp at h1 h2 h3;exact⟨i,rfl,h3,h1,h2⟩
def alg(n:Nat)(ps:Array (Nat×aB)):Sem aB:=bI 75 n ps
@[go_sem ↓]theorem awH(n:Nat)(ps:Array (Nat×aB)):bI 75 n ps=alg n ps:=rfl
@[go_sem]theorem aii(w:ak)(s:List UInt8)(q:Int):(alg 1 #[(0,.d #[.g (bU s),.b .a q])]).I ah w=.ok (.a (some ⟨w.a.j,0,none⟩) 1 1) (w.alloc (.D #[.g (bU s),.b .a q] 151)):=by
 obtain⟨i0,hi0,hz0,hz1,hzb⟩:=Zz;exact rO w _ _ i0 _ 2 vo hi0 hz0 hz1 rfl (by omega) (by omega) _ rfl
def Fy(ls:List (List UInt8))(x:Bk):oQ:=⟨x.E,if x.drain||sJ ls x.E then 0 else wQ x.w⟩
def kU(ls:List (List UInt8))(l:List Bk):List oQ:=l.map (Fy ls)
theorem WI(ls:List (List UInt8))(l:List Bk)(i:Nat)(hi:i<l.a):kU ls (l.d (i+1))=kU ls (l.d i)++[Fy ls (l.c i jk)]:=by
 rw[List.take_succ_eq_append_getElem hi,kU,kU,List.map_append,au,aC hi];rfl
def Cz(key:Vector UInt8 16)(s:List UInt8)(n:Nat):Nat:=xU key (s++[0])%n
def Ai(key:Vector UInt8 16)(s:List UInt8)(n:Nat):Nat:=xU key (s++[1])%(n-1)+1
def chF(key:Vector UInt8 16)(n:Nat)(l:List (List UInt8))(i k:Nat):Nat:=re (Cz key (l.c i []) n) (Ai key (l.c i []) n) n k
theorem Uo(key:Vector UInt8 16)(s:List UInt8){n:Nat}(hn:2<=n):1<=Ai key s n/\Ai key s n<n:=by
 unfold Ai;have:=fC (xU key (s++[1])) (show 0<n-1 by omega);omega
theorem alh(key:Vector UInt8 16)(s:List UInt8){n:Nat}(hn:2<=n):Cz key s n<n:=fC _ (by omega)
theorem ali{key:Vector UInt8 16}{n:Nat}{l:List (List UInt8)}(h:lG n=true):abR n l.a (chF key n l):=by
 intro i hi;have h2:=wT h;obtain⟨s1,s2⟩:=Uo key (l.c i []) h2;refine⟨fun t=>Oe (by omega),fun j hj=>Tw h s1 s2 hj⟩
def vX(g n:Nat)(q:List Nat)(ch:Nat->Nat->Nat):Nat->Mg
 | 0=>⟨q.map fun _=>0,List.replicate n (-1),n⟩
 | j+1=>if(vX g n q ch j).left=0 then vX g n q ch j else sI g n q ch (vX g n q ch j) (j%q.a)
theorem PW{g n:Nat}{q:List Nat}{ch:Nat->Nat->Nat}:∀j,(∀t,t<j->(jL g n q ch t).left≠0)->vX g n q ch j=jL g n q ch j
 | 0,_=>rfl
 | j+1,h=>by
   have ih:=PW (g:=g) (n:=n) (q:=q) (ch:=ch) j (fun t ht=>h t (by omega));unfold vX jL;rw[ih,if_neg (h j (by omega))]
theorem PX{g n:Nat}{q:List Nat}{ch:Nat->Nat->Nat}{j:Nat}(h:(vX g n q ch j).left=0):∀d,vX g n q ch (j+d)=vX g n q ch j
 | 0=>rfl
 | d+1=>by
   have e:vX g n q ch (j+d+1)=if(vX g n q ch (j+d)).left=0 then vX g n q ch (j+d)else sI g n q ch (vX g n q ch (j+d)) ((j+d)%q.a):=rfl
   rw[<-ng,e,PX h d,if_pos h]
def lK(q:List Nat):Nat:=q.foldl max 0
def Ef(n:Nat)(q:List Nat)(ch:Nat->Nat->Nat):List Int:=(vX (lK q) n q ch (n*q.a)).sl
theorem Xz:∀(q:List Nat)(b:Nat),q.foldl max b=b\/∃i,i<q.a/\q.c i 0=q.foldl max b
 | [],b=>.a rfl
 | x::q,b=>by
   rw[jU];rcases Xz q (max b x)with h|⟨i,hi,h⟩
   ·rw[h]
    rcases Nat.le_total x b with hx|hx
    ·left;omega
    ·right;exact⟨0,by simp,by simp;omega⟩
   ·exact .b ⟨i+1,by simpa using hi,by simpa using h⟩
theorem C8{q:List Nat}(h:q≠[])(h0:∀x∈q,0<x):∃i,i<q.a/\q.c i 0=lK q:=by
 rcases Xz q 0 with e|e
 ·cases q with
  | nil=>exact absurd rfl h
  | cons x t=>
    exfalso;have h1:∀(t:List Nat)(b:Nat),b<=t.foldl max b:=by
     intro t
     induction t with
     | nil=>intro b;exact av _
     | cons y t ih=>intro b;rw[jU];exact aO (Nat.le_max_left _ _) (ih _)
    have h2:=h1 t (max 0 x);have h3:=h0 x (by simp);rw[jU]at e;omega
 ·exact e
theorem XB{n:Nat}{q:List Nat}{ch:Nat->Nat->Nat}(h:q≠[])(h0:∀x∈q,0<x):∃K,K<=n*q.a/\(jL (lK q) n q ch K).left=0/\(∀j,j<K->(jL (lK q) n q ch j).left≠0)/\Ef n q ch=(jL (lK q) n q ch K).sl:=by
 obtain⟨i,hi,hg⟩:=C8 h h0;obtain⟨K,h1,h2⟩:=aos (n:=n) (ch:=ch) hi hg;have hm:∀m,(jL (lK q) n q ch (m*q.a)).left<=n-m:=by
  intro m
  induction m with
  | zero=>simp[jL]
  | succ m ih=>have:=Zf (n:=n) (ch:=ch) hi hg m;omega
 have hK:K<=n*q.a:=by
  rcases aZ (n*q.a) K with h3|h3
  ·have:=h2 _ h3
   have:=hm n;omega
  ·exact h3
 refine⟨K,hK,h1,h2,?_⟩;unfold Ef;obtain⟨d,hd⟩:∃d,n*q.a=K+d:=⟨n*q.a-K,by omega⟩
 have e:=PW (g:=lK q) (n:=n) (q:=q) (ch:=ch) K h2;rw[hd,PX (by rw[e];exact h1),e]
structure Tl where
 h:List (List UInt8)
 uG:List Int
deriving DecidableEq
def uw(key:Vector UInt8 16)(n:Nat)(l:List oQ):Tl:=
 let r:=l.filter fun x=>decide (x.q≠0)
 if r=[]then⟨[],[]⟩else⟨r.map (·.E),Ef n (r.map fun x=>x.q.e) (chF key n (r.map (·.E)))⟩
def Gn(t:Tl)(h:Nat):Option (List UInt8):=if t.uG.a=0 then none else some (t.h.c (t.uG.c (h%t.uG.a) 0).e [])
theorem acd{n:Nat}{q:List Nat}{ch:Nat->Nat->Nat}(h:q≠[])(h0:∀x∈q,0<x)(hf:abR n q.a ch):(Ef n q ch).a=n/\∀j,j<n->∃i,i<q.a/\(Ef n q ch).c j 0=(i:Int):=by
 obtain⟨K,_,h1,h2,h3⟩:=XB (n:=n) (ch:=ch) h h0;have hq:0<q.a:=List.length_pos_iff.2 h;have ok:=akP (g:=lK q) hq hf K h2;rw[h3];refine⟨ok.sll,fun j hj=>?_⟩;rcases ok.rng j hj with e|e
 ·exfalso
  have hfr:=ok.fr;rw[h1]at hfr;have:rQ (jL (lK q) n q ch K).sl j=true:=by unfold rQ;rw[e];rfl
  have hpos:=Og _ j 0 this (by rw[ok.sll];exact hj) (by decide);omega
 ·exact e
theorem XC{key:Vector UInt8 16}{n:Nat}{l:List oQ}(hp:lG n=true)(h0:∀x∈l,0<=x.q):(uw key n l).uG=[]/\(uw key n l).h=[]\/(uw key n l).uG.a=n/\∀j,j<n->∃i,i<(uw key n l).h.a/\(uw key n l).uG.c j 0=(i:Int):=by
 unfold uw;simp only;split
 ·exact .a ⟨rfl,rfl⟩
 ·rename_i hr
  right;have:=acd (n:=n) (q:=(l.filter fun x=>decide (x.q≠0)).map fun x=>x.q.e) (ch:=chF key n ((l.filter fun x=>decide (x.q≠0)).map (·.E))) (by simpa using hr) (by
   intro x hx;obtain⟨y,hy,rfl⟩:=List.mem_map.1 hx;obtain⟨h1,h2⟩:=List.mem_filter.1 hy;have:=h0 y h1;simp at h2;omega) (by rw[bT];have:=ali (key:=key) (n:=n) (l:=(l.filter fun x=>decide (x.q≠0)).map (·.E)) hp;rwa [bT]at this)
  simp only[bT]at this ⊢;exact this
section
open Go.ChangeShapes Go.WideShapes Go.ChangeAt Go.RowKit Go.Deep
section
variable {H:Type} {enc:bK×aB->H} {w:ak} {base:Nat} {spare:Nat->Bool} {held:Bool} {fuel:Nat} {t:bK} {cs:List aB} {x:DataW H×List MemPlace}
theorem Ml(h:lT enc ah w base spare held fuel 27 cs=some x):∃a:fq,cs=a.ay.a:=by
 obtain⟨xs,n,_,_,hl,hxl,hf⟩:=uM Tryz.underlying27 h;rw[show ah.cellsOf 27=17 by kernel_rfl]at hl;obtain⟨y0,h0⟩:=JY hxl hf 0 _ rfl;obtain⟨y1,h1⟩:=JY hxl hf 1 _ rfl;obtain⟨b,hb,_⟩:=GZ (by kernel_rfl) h0;obtain⟨v,hv⟩:=LH (k:=16) (e:=5) (by kernel_rfl) (by kernel_rfl) (by kernel_rfl) (by kernel_rfl) h1;have c0:(cs.f 0).d 1=[.bool b]:=hb;have c1:(cs.f 1).d 16=v.a.map bv:=hv;refine⟨⟨b,v⟩,?_⟩;have e:=tu cs 0 1;rw[c0,tu cs (0+1) 16,c1,iQ (i:=0+1+16) (by omega)]at e;simpa[fq.ay]using e
def Bk.GH(b:Bk):Prop:=b.rE/\-9223372036854775808<=b.Y/\b.Y<=9223372036854775807
theorem aoV(h:lT enc ah w base spare held fuel 62 cs=some x):∃b:Bk,cs=b.ay.a/\b.GH:=by
 obtain⟨xs,n,_,_,hl,hxl,hf⟩:=uM Tryz.underlying62 h;rw[show ah.cellsOf 62=27 by kernel_rfl]at hl;obtain⟨y0,h0⟩:=JY hxl hf 0 _ rfl;obtain⟨y1,h1⟩:=JY hxl hf 1 _ rfl;obtain⟨y2,h2⟩:=JY hxl hf 2 _ rfl;obtain⟨y3,h3⟩:=JY hxl hf 3 _ rfl;obtain⟨y4,h4⟩:=JY hxl hf 4 _ rfl;obtain⟨y5,h5⟩:=JY hxl hf 5 _ rfl;obtain⟨s,hs,hsl⟩:=Sv (by kernel_rfl) h0;obtain⟨a,ha⟩:=Ml h1;obtain⟨p,hp,hp1,hp2⟩:=sG (by kernel_rfl) h2;obtain⟨m,hm⟩:=LH (k:=6) (e:=5) (by kernel_rfl) (by kernel_rfl) (by kernel_rfl) (by kernel_rfl) h3;obtain⟨f,hf,hf2⟩:=abq (by kernel_rfl) h4;obtain⟨d,hd,_⟩:=GZ (by kernel_rfl) h5;have c0:(cs.f 0).d 1=[.g (bU s)]:=hs;have c1:(cs.f 1).d 17=a.ay.a:=ha;have c2:(cs.f 18).d 1=[.b .a p]:=hp;have c3:(cs.f 19).d 6=m.a.map bv:=hm;have c4:(cs.f 25).d 1=[fv f]:=hf;have c5:(cs.f 26).d 1=[.bool d]:=hd;refine⟨⟨s,a,p,m,f,d⟩,?_,⟨hsl,hf2⟩,hp1,hp2⟩;have e:=tu cs 0 1;rw[c0,tu cs (0+1) 17,c1,tu cs (0+1+17) 1,c2,tu cs (0+1+17+1) 6,c3,tu cs (0+1+17+1+6) 1,c4,tu cs (0+1+17+1+6+1) 1,c5,iQ (i:=0+1+17+1+6+1+1) (by omega)]at e;simpa[Bk.ay,fq.ay]using e
def nK.GH(o:nK):Prop:=o.h.GH/\o.w<18446744073709551616/\o.E.a<=9223372036854775807
theorem ace(h:lT enc ah w base spare held fuel 64 cs=some x):∃o:nK,cs=o.ay.a/\o.GH:=by
 obtain⟨xs,n,_,_,hl,hxl,hf⟩:=uM vk h;rw[show ah.cellsOf 64=30 by kernel_rfl]at hl;obtain⟨y0,h0⟩:=JY hxl hf 0 _ rfl;obtain⟨y1,h1⟩:=JY hxl hf 1 _ rfl;obtain⟨y2,h2⟩:=JY hxl hf 2 _ rfl;obtain⟨y3,h3⟩:=JY hxl hf 3 _ rfl;obtain⟨k,hk,_,_⟩:=sG (by kernel_rfl) h0;obtain⟨b,hb,hbg⟩:=aoV h1;obtain⟨s,hs,hsl⟩:=Sv (by kernel_rfl) h2;obtain⟨f,hf,hf2⟩:=abq (by kernel_rfl) h3;have c0:(cs.f 0).d 1=[.b .a k]:=hk;have c1:(cs.f 1).d 27=b.ay.a:=hb;have c2:(cs.f 28).d 1=[.g (bU s)]:=hs;have c3:(cs.f 29).d 1=[fv f]:=hf;refine⟨⟨k,b,s,f⟩,?_,hbg,hf2,hsl⟩;have e:=tu cs 0 1;rw[c0,tu cs (0+1) 27,c1,tu cs (0+1+27) 1,c2,tu cs (0+1+27+1) 1,c3,iQ (i:=0+1+27+1+1) (by omega)]at e;simpa[nK.ay]using e
end
section
variable {H:Type} {enc:bK×aB->H} {W:ak} {base:Nat} {v:aB} {d:DataW H} {ps:List MemPlace} {held:Bool}
def asQ:nK:=⟨0,jk,[],0⟩
def aoW(l:List nK):List aB:=l.flatMap fun x=>x.ay.a
def RdO(w:ak)(B:Nat)(A:Option aT)(n:Nat)(l:List nK):Prop:=l.a=n/\Rd w B 30 A n (aoW l)/\∀a,A=some a->0<n->a=⟨a.block,a.off,none⟩
theorem aij(hval:Value.okWide ah W .any base 94 v)(h:DataW.Trod enc ah W 0 (fun _=>true) held 94 v d ps):
 ∃(A:Option aT)(n c:Nat)(l:List nK),v=.a A n c/\RdO W W.a.j A n l/\(∀o∈l,o.GH)/\n<=9223372036854775807:=by
 obtain⟨a0,len,cap,rfl⟩:=okWide_slice Tryz.underlying94 hval;obtain⟨fuel,hf⟩:=h;obtain⟨A,n,c,l,hs,hnc,hc,hll,hrd,hsp,hgd⟩:=Js nK.ay nK.GH 30 nK.G Tryz.underlying94 (by kernel_rfl) (by omega) (fun n cs y hy=>ace hy) hf;simp only[bW,List.cons.injEq,Value.slice.injEq,and_true]at hs;obtain⟨rfl,rfl,rfl⟩:=hs;exact⟨a0,len,cap,l,rfl,⟨hll,hrd,hsp⟩,hgd,by omega⟩
end
end
theorem alj{v:Int}{l:List Bk}(hs:DN l)(o:nK):DN (Wm v l o):=by
 unfold Wm;split
 ·rename_i h
  obtain⟨_,_,_,h1,_,h6⟩:=Ot h;unfold Iw;split
  ·rename_i hk
   exact aoT (x:=o.h.LV (j6 o.h.w)) hs (h1 hk).2.1
  ·rename_i hk
   have hh:=h6 hk;split
   ·exact aoU hs _
   ·split
    ·exact agP hs (sw hh) (by rw[Fv hh];exact(JE hh).2)
    ·exact agP hs (sw hh) (by rw[Fv hh];exact(JE hh).2)
 ·exact hs
theorem alk{v:Int}{l:List Bk}(o:nK):(Wm v l o).a=if qp v l o=0/\o.kind=1 then l.a+1 else if qp v l o=0/\o.kind=2 then l.a-1 else l.a:=by
 unfold Wm;by_cases h:qp v l o=0
 ·obtain⟨_,_,_,h1,_,h6⟩:=Ot h
  simp only[h,true_and,if_true];unfold Iw;by_cases h1:o.kind=1
  ·simp only[h1,if_true];exact xW _ _ _
  ·simp only[h1,if_false]
   by_cases h2:o.kind=2
   ·simp only[h2,if_true];exact Mj _ _ (sw (h6 h1))
   ·simp only[h2,if_false]
    split<;>exact aV
 ·simp[h]
theorem aeM{v:Int}{l:List Bk}(hs:DN l)(o:nK){x:Bk}(hx:x∈l)(hn:x.E≠o.Xv):x∈Wm v l o:=by
 unfold Wm;split
 ·rename_i h
  obtain⟨_,_,_,h1,_,h6⟩:=Ot h;unfold Iw;split
  ·exact agO.2 (.b hx)
  ·rename_i hk
   have hh:=h6 hk;have hw:o.Xv=o.E:=by simp[nK.Xv,hk]
   rw[hw]at hn;split
   ·exact(Zy hs (sw hh)).2 ⟨hx,by rw[Fv hh];exact hn⟩
   ·split
    ·exact(JF hs (sw hh) (by rw[Fv hh];exact(JE hh).2)).2 (.b ⟨hx,by rw[Fv hh];exact hn⟩)
    ·exact(JF hs (sw hh) (by rw[Fv hh];exact(JE hh).2)).2 (.b ⟨hx,by rw[Fv hh];exact hn⟩)
 ·exact hx
theorem acf(x:Nat):j6 x=0\/j6 x=x:=by unfold j6;split<;>simp
theorem acg{x:Nat}(h:Ws x=true):Ws (j6 x)=true:=by
 rcases acf x with h1|h1<;>rw[h1]
 ·decide +kernel
 ·exact h
theorem ach{x:Nat}(h:x<18446744073709551616):j6 x<18446744073709551616:=by
 rcases acf x with h1|h1<;>rw[h1]
 ·decide
 ·exact h
theorem aci(x:Nat):j6 (j6 x)=j6 x:=by
 unfold j6;by_cases h:(ord x 0==some .eq)=true
 ·simp only[h,if_true]
  split<;>rfl
 ·simp only[h]
  simp[h]
theorem XD(x:Nat):Wu (j6 x)=true:=by unfold Wu;rw[aci];exact ahT _
theorem acj{x:Bk}{u:Nat}(h:x.AY=true)(hu:Ws u=true):(x.LV u).AY=true:=by
 unfold Bk.AY at h ⊢;simp only[bf]at h ⊢;exact⟨⟨⟨⟨h.1.1.1.1,h.1.1.1.2⟩,h.1.1.2⟩,h.1.2⟩,hu⟩
theorem asR{x:Bk}(h:x.AY=true):Ws x.w=true:=by
 unfold Bk.AY at h;simp only[bf]at h;exact h.2
theorem aeN{v:Int}{l:List Bk}{o:nK}(hr:xQ v l=true)(hf:∀x∈l,x.rE)(hof:o.h.rE)(how:o.w<18446744073709551616)(h:qp v l o=0):
 xQ (v+1) (Wm v l o)=true/\∀x∈Wm v l o,x.rE:=by
 obtain⟨h1,h2,h3,h4,h5⟩:=uS.1 hr;obtain⟨w1,w2,w3,w4,w5,w6⟩:=Ot h;have hl:=alk (v:=v) (l:=l) o;have hs:=alj (v:=v) h5 o;have key:∀x∈Wm v l o,(x.AY=true/\Wu x.w=true)/\x.rE:=by
  unfold Wm;rw[if_pos h];unfold Iw;split
  ·rename_i hk
   intro x hx;rcases agO.1 hx with rfl|hx
   ·have hb:=(w4 hk).1
    exact⟨⟨acj hb (acg (asR hb)),XD _⟩,hof.1,ach hof.2⟩
   ·exact⟨h4 x hx,hf x hx⟩
  ·rename_i hk
   have hh:=w6 hk;have hin:=JE hh;have hnm:=Fv hh;split
   ·intro x hx
    have:=((Zy h5 (sw hh)).1 hx).1;exact⟨h4 x this,hf x this⟩
   ·split
    ·rename_i hk3
     intro x hx;rcases(JF h5 (sw hh) (z:=(pO l o.E).LV (j6 o.w)) (by rw[hnm];exact hin.2)).1 hx with rfl|⟨hx,_⟩
     ·exact⟨⟨acj (h4 _ hin.1).1 (acg (w5 hk3)),XD _⟩,(hf _ hin.1).1,ach how⟩
     ·exact⟨h4 x hx,hf x hx⟩
    ·intro x hx
     rcases(JF h5 (sw hh) (z:=(pO l o.E).toD (o.kind==4)) (by rw[hnm];exact hin.2)).1 hx with rfl|⟨hx,_⟩
     ·have e1:((pO l o.E).toD (o.kind==4)).AY=(pO l o.E).AY:=rfl
      have e2:((pO l o.E).toD (o.kind==4)).w=(pO l o.E).w:=rfl;rw[e1,e2];exact⟨h4 _ hin.1,(hf (pO l o.E) hin.1:(pO l o.E).rE)⟩
     ·exact⟨h4 x hx,hf x hx⟩
 refine⟨uS.2 ⟨by omega,by omega,?_,fun x hx=>(key x hx).1,hs⟩,fun x hx=>(key x hx).2⟩;rw[hl];split
 ·rename_i hk
  have:=(w4 hk.2).2.2;omega
 ·split<;>omega
def ZB(w:ak)(m:List oQ)(e:kZ)(w':ak):Prop:=
 ∃A c,e=.a (.a A m.a c)/\w'.c w.a.j 151 2 (.a A m.a c) m.a (Ap m)/\aM w.a.j w w'
theorem aeO{w wr:ak}{v:aB}{m:List oQ}{n:Nat}(hn:m.a=n)(ho:wr.c (w.a.j+1) 151 2 v n (Ap m))(hb:aM w.a.j w wr):ZB w m (.a v) wr:=by
 subst hn;obtain⟨A,c,rfl,_,_⟩:=jS ho;exact⟨A,c,rfl,iH ho (by omega),hb⟩
theorem aeP(l:List Bk)(hf:∀x∈l,x.rE)(v:Int)(A:Option aT)(c:Nat)(ls:List (List UInt8))(D:Option aT)(d:Nat)(w:ak)(hR:Fa w w.a.j A l.a l)(hD:Zm w w.a.j D ls.a ls)(hn:l.a<=100000)(hd:ls.a<4611686018427387904):
 aQ ah 28 #[.d #[.b .a v,.a A l.a c],.a D ls.a d] w (ZB w (kU ls l)):=by
 have HR:=ab hR;have HF:=ab hf;have HD:=ab hD;have HB0:=ab (fun ob=>((aG w.a.j w).alloc (av _) ob:aM w.a.j w (w.alloc ob)));have Dv:=ab (fun i=>WI ls l i);have HSL:=ab (show l.d l.a=l from List.take_length);obtain⟨i0,hi0,hz0,hz1,hzb⟩:=Zz;have HI0:=ab hi0;have HZ0:=ab hz0;have HZ1:=ab hz1;have HZ2:=ab (show(bY #[iC ⟨#[]⟩,aI .a 0]).D.j=2 from rfl);clear hR hf hD hi0 hz0 hz1;obtain⟨n,hnl⟩:=dw l.a;rw[<-hnl]at HR hn HSL ⊢;have HN:=ab hnl;clear hnl;go_enter Tryz.func28,Tryz.ntmps28;go_wp2;go_loopw [5,13] (fun s5 s13 wr=>∃(i:Nat)(O:Option aT)(cap:Nat),i<=n/\s5=.a O i cap/\s13=.b .a i/\wr.c (w.a.j+1) 151 2 (.a O i cap) i (Ap (kU ls (l.d i)))/\aM (w.a.j+1) (w.alloc (.D #[.b .a v,.a A n c] 32)) wr) (fun _ s13 _=>n-(intOf s13).e)
 case atStart=>exact⟨0,none,0,by omega,rfl,rfl,fE _ _ _ _,by simpa using aG _ _⟩
 case round=>
  obtain⟨i,O,cap,hin,rfl,rfl,ho,hb⟩:=hrel;have HB:=ab hb;have hbw:=(HB0.i (.D #[.b .a v,.a A n c] 32)).trans (hb.g (by simp));have HBW:=ab hbw;have hsz:=hb.j;have OW:=ab (fun ob tZ=>(ho.alloc ob).alloc tZ);have O0:=ab ho;clear hb hbw ho;by_cases hlt:i<n
  ·have hi:(i:Int)<n:=by omega
   obtain⟨b,o,rfl,hbb,hh,hc⟩:=(HR.i.S HBW.i).fD hlt;have hbs:b<wr.a.j:=by simp at hsz;omega
   have hmem:l.c i jk∈l:=by
    have:=HN.i;rw[au,aC (by omega)];simp
   obtain⟨hx1,hx2⟩:=HF.i _ hmem;have hsn:=Dv.i i (by have:=HN.i;omega);obtain⟨x,hx⟩:=dw (l.c i jk);rw[<-hx]at hc hx1 hx2 hsn;have asS:=ab hsn;clear hx hmem hsn hbb;have HDB:=ab (fun ob=>(((HD.i.S HBW.i).alloc (show w.a.j<=wr.a.j by simp at hsz;omega) ob).lu (B':=(wr.alloc ob).a.j) (by simp at hsz⊢;omega):Zm (wr.alloc ob) (wr.alloc ob).a.j D ls.a ls));have HQ:∀W,aQ ah 86 #[.float .f64 x.w] W fun e w'=>e=.a (.J #[.b .a (wQ x.w),.bool (Ws x.w)])/\W=w':=fun W=>aee x.w hx2 W
   have HQU:=ab HQ;have Rn:=ab (show i+1<=maxLen by unfold maxLen;omega);have Ro:=ab (show(i+1)*i0.bytes<=140737488355328 from aO (gP (show i+1<=100001 by omega) hzb) (by omega));have HBS:=ab (fun ob tZ=>show w.a.j+1<=((wr.alloc ob).alloc tZ).a.j by simp at hsz⊢;omega);have Qt:=ab (fun(ob:Obj) (cc:Array aB) (h2:cc.j=2)=>(⟨by simp[h2],fun _=>⟨_,rfl,mG _,Zu _ _ cc _ _ (by have:=Gc (wr.alloc ob) (.D cc 151);rwa [show(wr.alloc ob).a.j=wr.a.j+1 by simp]at this)⟩⟩:Rd ((wr.alloc ob).alloc (.D cc 151)) (wr.a.j+1+1) 2 (some ⟨wr.a.j+1,0,none⟩) 1 cc.a));have HBN:=ab (fun ob tZ=>((HB.i.alloc (show w.a.j+1<=wr.a.j by simpa using hsz) ob).alloc (by simp at hsz⊢;omega) tZ:aM (w.a.j+1) _ ((wr.alloc ob).alloc tZ)));clear HQ hx1 hx2;have hso:Fy ls x=⟨x.E,if x.drain||sJ ls x.E then 0 else wQ x.w⟩:=rfl;have HSO:=ab hso;clear hso;cases kd:x.drain
   ·have HKD:=ab kd
    have HCO:∀ob,aQ ah 87 #[.a D ls.a d,.g (bU x.E)] (wr.alloc ob) fun e w'=>e=.a (.bool (sJ ls x.E))/\wr.alloc ob=w':=fun ob=>Ma ls x.E D d _ (HDB.i ob) hd
    cases kc:sJ ls x.E
    all_goals
     rw[kc]at HCO;have awI:=ab HCO;have HKC:=ab kc;clear HCO kc
    ·go_wp2_with (first
      | (go_at_call 86;refine(HQU.i _).g ?_;rintro e w' ⟨rfl,rfl⟩)
      | (go_at_call 87;refine(awI.i _).g ?_;rintro e w' ⟨rfl,rfl⟩)
      | (at_builtin;refine jG _ rfl (.a 31) (.a 36) _ rfl (w.a.j+1) 151 i0 (.d #[.g ⟨#[]⟩,.b .a 0]) 2 i0.bytes vo HI0.i HZ0.i HZ1.i rfl HZ2.i (mI _) (.a O i cap) i (Ap (kU ls (l.d i))) rfl (OW.i _ _) (wr.a.j+1+1) (some ⟨wr.a.j+1,0,none⟩) 1 1 [.g (bU x.E),.b .a (wQ x.w)] rfl (Qt.i _ #[.g (bU x.E),.b .a (wQ x.w)] rfl) (by simp[cO]) Rn.i Ro.i (HBS.i _ _) ?_
         intro v1 w1 hown1 hg1 xJ;have O1:=ab hown1;have G1:=ab hg1;clear hown1 hg1 xJ))
     obtain⟨O',cap',rfl,_,_⟩:=jS O1.i;go_roundw
     case rel=>exact⟨i+1,O',cap',by omega,rfl,by go_num,by rw[asS.i,Fx,HSO.i,HKD.i,HKC.i];exact O1.i,(HBN.i _ _).grown G1.i (by simp at hsz⊢;omega) (fun k hk=>(O0.i.lt k hk).1)⟩
     case measure=>simp[intOf]<;>omega
    ·go_wp2_with (first
      | (go_at_call 86;refine(HQU.i _).g ?_;rintro e w' ⟨rfl,rfl⟩)
      | (go_at_call 87;refine(awI.i _).g ?_;rintro e w' ⟨rfl,rfl⟩)
      | (at_builtin;refine jG _ rfl (.a 31) (.a 36) _ rfl (w.a.j+1) 151 i0 (.d #[.g ⟨#[]⟩,.b .a 0]) 2 i0.bytes vo HI0.i HZ0.i HZ1.i rfl HZ2.i (mI _) (.a O i cap) i (Ap (kU ls (l.d i))) rfl (OW.i _ _) (wr.a.j+1+1) (some ⟨wr.a.j+1,0,none⟩) 1 1 [.g (bU x.E),.b .a 0] rfl (Qt.i _ #[.g (bU x.E),.b .a 0] rfl) (by simp[cO]) Rn.i Ro.i (HBS.i _ _) ?_
         intro v1 w1 hown1 hg1 xJ;have O1:=ab hown1;have G1:=ab hg1;clear hown1 hg1 xJ))
     obtain⟨O',cap',rfl,_,_⟩:=jS O1.i;go_roundw
     case rel=>exact⟨i+1,O',cap',by omega,rfl,by go_num,by rw[asS.i,Fx,HSO.i,HKD.i,HKC.i];exact O1.i,(HBN.i _ _).grown G1.i (by simp at hsz⊢;omega) (fun k hk=>(O0.i.lt k hk).1)⟩
     case measure=>simp[intOf]<;>omega
   ·have HKD:=ab kd
    go_wp2_with (first
     | (go_at_call 86;refine(HQU.i _).g ?_;rintro e w' ⟨rfl,rfl⟩)
     | (at_builtin;refine jG _ rfl (.a 31) (.a 36) _ rfl (w.a.j+1) 151 i0 (.d #[.g ⟨#[]⟩,.b .a 0]) 2 i0.bytes vo HI0.i HZ0.i HZ1.i rfl HZ2.i (mI _) (.a O i cap) i (Ap (kU ls (l.d i))) rfl (OW.i _ _) (wr.a.j+1+1) (some ⟨wr.a.j+1,0,none⟩) 1 1 [.g (bU x.E),.b .a 0] rfl (Qt.i _ #[.g (bU x.E),.b .a 0] rfl) (by simp[cO]) Rn.i Ro.i (HBS.i _ _) ?_
        intro v1 w1 hown1 hg1 xJ;have O1:=ab hown1;have G1:=ab hg1;clear hown1 hg1 xJ))
    obtain⟨O',cap',rfl,_,_⟩:=jS O1.i;go_roundw
    case rel=>exact⟨i+1,O',cap',by omega,rfl,by go_num,by rw[asS.i,Fx,HSO.i,HKD.i];exact O1.i,(HBN.i _ _).grown G1.i (by simp at hsz⊢;omega) (fun k hk=>(O0.i.lt k hk).1)⟩
    case measure=>simp[intOf]<;>omega
  ·obtain rfl:i=n:=by omega
   have hd:decide ((i:Int)<i)=false:=by simp
   go_wp2;go_ret;have hO:=O0.i;rw[HSL.i]at hO;exact aeO (n:=i) (by rw[kU,bT];exact HN.i.symm) hO HBW.i
end Go.Proofs.YtkjojjopamaoiaaGreat
