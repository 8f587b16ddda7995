/- Parts. -/
import Derived.Test.YtkjojjopamaoiaaGreatKp1
set_option linter.all false
set_option maxRecDepth 100000
set_option maxHeartbeats 8000000
open Array renaming ext_getElem?->eB,getElem?_eq_none->aV,size_extract->jI,getElem?_toList->dH,length_toList->bf,all_eq_true_iff_forall_mem->gG,getElem?_eq_some_iff->bW,size->Array.j,toList->Array.a,getD->Array.c
open Bool renaming and_eq_true->bB
open Go renaming Value->aC,World->au,Calls->aQ,Addr->aU,TypeId->bF,cell_of_row->sW,Ending->lu,setRow_heap->rG,setRow_other->oQ,length_splice->vP,bodyPost_ret->aO,heap_alloc_new->GX
open Go.Addr renaming add_mid->iH
open Go.Calls renaming mono->Go.Calls.g
open Go.DataW renaming trod->mq,trod_struct->uK,trod_bool->Iu,agg->Go.DataW.d
open Go.Ending renaming returned->Go.Ending.a
open Go.Instr renaming loadAt->cZ,buildSlice->bK,slice->Go.Instr.a
open Go.IntKind renaming i64->Go.IntKind.a
open Go.Lib renaming hid->ah
open Go.Obj renaming cells->Go.Obj.D
open Go.Op renaming slice->Go.Op.a
open Go.Operand renaming tmp->Go.Operand.a
open Go.Proofs.Tryz renaming prog->aj,underlying64->vk,underlying30->jo,func140->Cr,ntmps140->Ao,func71->Fv,ntmps71->Ct,underlying75->vo
open Go.ResultVar renaming tmp->Go.ResultVar.a
open Go.RowKit renaming Below->aM
open Go.RowKit.Below renaming refl->aH,size->Go.RowKit.Below.j,mono->Go.RowKit.Below.g,setCell->Go.RowKit.Below.G
open Go.RowKit.Hid renaming out->Go.RowKit.Hid.i
open Go.Sem renaming run->Go.Sem.J
open Go.Tables renaming info?->Go.Tables.l
open Go.TypeDesc renaming slice->Go.TypeDesc.a,int->Go.TypeDesc.b,string->Go.TypeDesc.g
open Go.TypeInfo renaming size->Go.TypeInfo.j
open Go.Value renaming int->aJ,string->jl,agg->cK,cells->bZ,slice->bC,oneCell'->dx,cells->Go.Value.D,slice->Go.Value.a,int->Go.Value.b,agg->Go.Value.d,tuple->Go.Value.K,oneCell'->Go.Value.h,string->Go.Value.g
open Go.World renaming frozen?->su,setRow->rW,ownsRow_nil->fB,setCell->iw,heap->Go.World.a,cell?->Go.World.b,setCell->Go.World.G,ownsRow->Go.World.c
open Int renaming toNat->Int.e
open List renaming getElem?_toArray->dY,getElem?_append->kR,take_append_drop->iK,take_append_of_le_length->gJ,length_take->bL,take_of_length_le->aL,length_drop->jG,getElem?_drop->jq,getElem?_take->jv,size_toArray->dP,drop_of_length_le->iY,eq_nil_of_length_eq_zero->bG,take_take->vN,length_set->aW,getD_eq_getElem?_getD->av,getElem?_eq_none->aT,getElem?_eq_getElem->aD,getElem_of_mem->ng,pairwise_iff_getElem->gu,getElem_mem->eY,mem_append->qy,mem_cons->bE,pairwise_cons->gU,drop_eq_getElem_cons->kS,mem_append_left->Ay,foldl_cons->jW,length_map->bV,length->List.a,toArray->List.b,getD->List.c,take->List.d,drop->List.f,below->List.S
open Nat renaming lt_or_ge->aZ,add_comm->lV,le_refl->ay,zero_add->bl,min->qw,sub_mul->Bg,mul_le_mul_right->bY,le_of_lt->mQ,min_eq_left->oI,le_trans->aP,mul_le_mul->gP,succ_pos->kX,lt_succ_self->mP,eq_zero_or_pos->eD,mod_lt->fH,add_assoc->nG,below->Nat.S
open Option renaming getD->Option.c
open Or renaming inl->Or.a,inr->Or.b
open Vector renaming toList->Vector.a
namespace Go.Proofs.YtkjojjopamaoiaaGreat
open Go.RowKit
@[go_sem]theorem Bk.eF(x:Bk):eF x.aA=27:=Bk.I x
@[go_sem]theorem fE.eF(x:fE):eF x.aA=17:=fE.I x
@[go_sem]theorem Bk.kg(x:Bk):x.aA.extract 0 27=x.aA:=by
 have:=Bk.I x;rw[<-this];simp
@[go_sem]theorem Bk.Gm(x:Bk):x.aA.extract 1 18=x.h.aA:=by
 apply eB;intro j;rcases aZ j 17 with hj|hj
 ·rw[show(18:Nat)=1+17 from rfl,oq x.aA 1 17 j hj (by rw[Bk.I];omega),lV,Bk.ML x j hj]
 ·rw[aV (by rw[jI,Bk.I];omega),aV (by rw[fE.I];exact hj)]
structure qV where
 kind:Int
 bk:Bk
 E:List UInt8
 w:Nat
def qV.aA(o:qV):Array aC:=(aJ .a o.kind::(o.bk.aA.a++[jl (bP o.E),fv o.w])).b
theorem qV.I(o:qV):o.aA.j=30:=by simp[qV.aA,Bk.I]
@[go_sem]theorem qV.eF(o:qV):eF o.aA=30:=qV.I o
@[go_sem]theorem qV.qG(o:qV):o.aA[0]? = some (.b .a o.kind):=by simp[qV.aA]
theorem qV.alQ(o:qV)(j:Nat)(hj:j<27):o.aA[j+1]? = o.bk.aA[j]?:=by
 simp[qV.aA,dY,kR,Bk.I,hj]
@[go_sem]theorem qV.Ev(o:qV):o.aA[1]? = some (.g (bP o.bk.E)):=by rw[qV.alQ o 0 (by omega),Bk.qG]
@[go_sem]theorem qV.aCQ(o:qV):o.aA[28]? = some (.g (bP o.E)):=by simp[qV.aA,dY,kR,Bk.I]
@[go_sem]theorem qV.aCR(o:qV):o.aA[29]? = some (.float .f64 o.w):=by simp[qV.aA,dY,kR,Bk.I,fv]
@[go_sem]theorem qV.atu(o:qV):o.aA.extract 1 28=o.bk.aA:=by
 apply eB;intro j;rcases aZ j 27 with hj|hj
 ·rw[show(28:Nat)=1+27 from rfl,oq o.aA 1 27 j hj (by rw[qV.I];omega),lV,qV.alQ o j hj]
 ·rw[aV (by rw[jI,qV.I];omega),aV (by rw[Bk.I];exact hj)]
@[go_sem]theorem qV.kg(o:qV):o.aA.extract 0 30=o.aA:=by
 have:=qV.I o;rw[<-this];simp
def Nh(v:aC):Sem aC:=cZ 64 v
@[go_sem ↓]theorem atv(v:aC):cZ 64 v=Nh v:=rfl
@[go_sem]theorem alR(W:au)(b o:Nat)(h:vE W b o 30):(Nh (.pointer (some ⟨b,o,none⟩))).J aj W=.ok (.d (dQ W b o 30)) W:=
 jU W b o 30 _ _ vk rfl (by kernel_rfl) h
@[go_sem]theorem aps(W:au)(c:Array aC)(x:Bk)(b:Nat)(hb:b=W.a.j)(hc:eF c=27):
 (JX (.pointer (some ⟨b,0,none⟩)) (.d x.aA)).J aj (W.alloc (.D c 62))=.ok () (W.alloc (.D x.aA 62)):=by
 subst hb;exact MP W c x hc
def arX(n:Nat)(ps:Array (Nat×aC)):Sem aC:=bK 30 n ps
@[go_sem ↓]theorem axV(n:Nat)(ps:Array (Nat×aC)):bK 30 n ps=arX n ps:=rfl
@[go_sem]theorem awr(w:au)(x:Bk):(arX 1 #[(0,.d x.aA)]).J aj w=.ok (.a (some ⟨w.a.j,0,none⟩) 1 1) (w.alloc (.D x.aA 62)):=by
 obtain⟨i0,hi0,hz0,hz1,hzb⟩:=LC;exact rR w _ _ i0 (.d jd.aA) 27 jo hi0 hz0 hz1 (Bk.I jd) (by omega) (by omega) x.aA (Bk.I x)
def qV.who(o:qV):List UInt8:=if o.kind=1 then o.bk.E else o.E
def qC(v:Int)(l:List Bk)(o:qV):Int:=
 if o.kind<1 then 1 else if 5<o.kind then 1 else if o.kind=1/\o.bk.Cx=false then 1 else if o.kind=3/\Xh o.w=false then 1
 else if o.kind=1/\sP l o.who=true then 6 else if o.kind=1/\1024<=l.a then 7 else if o.kind≠1/\sP l o.who=false then 5
 else if o.kind=4/\(qd l o.who).drain=true then 6 else if o.kind=5/\(qd l o.who).drain=false then 6 else if 1099511627776<=v then 7 else 0
theorem ac5(x:Nat)(hx:x<18446744073709551616)(w:au):aQ aj 170 #[.float .f64 x] w fun e w'=>e=.a (.bool (Xh x))/\w=w':=by
 rw[<-JZ hx];exact JY x w
theorem J9(l:List Bk)(hs:Ga l)(v:Int)(o:qV)(hf:o.bk.qg)(hw:o.w<18446744073709551616)(A:Option aU)(c:Nat)(w:au)(hR:Ez w w.a.j A l.a l)(hn:l.a<4611686018427387904):
 aQ aj 140 #[.d #[.b .a v,.a A l.a c],.d o.aA] w (gy w (.b .a (qC v l o))):=by
 obtain⟨hf1,hf2⟩:=hf;have HS:=ah hs;have HR1:=ah (fun ob sO=>((hR.alloc (ay _) ob).alloc (by simp) sO).lH (B':=((w.alloc ob).alloc sO).a.j) (by simp;omega));have HB0:=ah (fun ob sO=>(((aH w.a.j w).alloc (ay _) ob).alloc (by simp) sO:aM w.a.j w ((w.alloc ob).alloc sO)));clear hR hs;have BH:qC v l o=(if o.kind<1 then 1 else if 5<o.kind then 1 else if o.kind=1/\o.bk.Cx=false then 1 else if o.kind=3/\Xh o.w=false then 1
  else if o.kind=1/\sP l o.who=true then 6 else if o.kind=1/\1024<=l.a then 7 else if o.kind≠1/\sP l o.who=false then 5
  else if o.kind=4/\(qd l o.who).drain=true then 6 else if o.kind=5/\(qd l o.who).drain=false then 6 else if 1099511627776<=v then 7 else 0):=rfl
 have HW:=ah BH;clear BH;by_cases h1:o.kind=1
 ·have hwho:o.who=o.bk.E:=by simp[qV.who,h1]
  have afl:=ah hwho;obtain⟨K,hK⟩:=sQ o.bk.Cx;have hri:=fun W=>acC o.bk W hf1 hf2
  rw[hK]at hri;have HRI:=ah hri;have HK:=ah hK;have H1:=ah h1;clear hwho hri hK;go_enter Cr,Ao;go_wp2_with fail;refine(Bv l HS.i _ v A c _ (HR1.i _ _) hn).g ?_;rintro e w1 ⟨rfl,hb1⟩;obtain⟨hx1,hx2,hx3,hx4,hx5⟩:=Ue hb1;have hz0:w.a.j<w1.a.j:=by simp at hx5;omega
  have hz1:w.a.j+1<w1.a.j:=by simp at hx5;omega
  clear hx5;have HB1:=ah ((HB0.i _ _).trans (hb1.g (by simp;omega)));have HB2:=ah (HB1.i.alloc (by omega) (.D (qd l o.bk.E).aA 62));clear hb1;go_wp2_with fail;refine(HRI.i _).g ?_;rintro e w2 ⟨rfl,hb2⟩;obtain⟨hy1,hy2,hy3,hy4,hy5⟩:=Ue hb2;have hz2:w1.a.j<w2.a.j:=by simp at hy5;omega
  have hz3:w.a.j<w2.a.j:=by omega
  have hz4:w.a.j+1<w2.a.j:=by omega
  clear hy5;have HB2:=ah ((HB1.i.alloc (by omega) (.D (qd l o.bk.E).aA 62)).trans (hb2.g (by simp;omega)));clear hb2;cases K
  all_goals
   go_wp2_with fail
  all_goals
   go_ret;exact⟨by rw[HW.i,afl.i,HK.i,H1.i];simp[*];try omega,HB2.i⟩
 have hwho:o.who=o.E:=by simp[qV.who,h1]
 have afl:=ah hwho;have H1:=ah h1;clear hwho;have g1:(o.kind==1)=false:=by simpa using h1
 have g1':(o.kind != 1)=true:=by simpa using h1
 rcases(show o.kind<1\/5<o.kind\/o.kind=2\/o.kind=3\/o.kind=4\/o.kind=5 by omega)with h2|h2|h2|h2|h2|h2
 ·clear h1
  go_enter Cr,Ao;go_wp2_with fail;refine(Bv l HS.i _ v A c _ (HR1.i _ _) hn).g ?_;rintro e w1 ⟨rfl,hb1⟩;obtain⟨hx1,hx2,hx3,hx4,hx5⟩:=Ue hb1;have hz0:w.a.j<w1.a.j:=by simp at hx5;omega
  have hz1:w.a.j+1<w1.a.j:=by simp at hx5;omega
  clear hx5;have HB1:=ah ((HB0.i _ _).trans (hb1.g (by simp;omega)));have HB2:=ah (HB1.i.alloc (by omega) (.D (qd l o.E).aA 62));clear hb1;go_wp2_with fail;go_ret;exact⟨by rw[HW.i,afl.i];simp[*],HB2.i⟩
 ·clear h1
  have g2:¬o.kind<1:=by omega
  go_enter Cr,Ao;go_wp2_with fail;refine(Bv l HS.i _ v A c _ (HR1.i _ _) hn).g ?_;rintro e w1 ⟨rfl,hb1⟩;obtain⟨hx1,hx2,hx3,hx4,hx5⟩:=Ue hb1;have hz0:w.a.j<w1.a.j:=by simp at hx5;omega
  have hz1:w.a.j+1<w1.a.j:=by simp at hx5;omega
  clear hx5;have HB1:=ah ((HB0.i _ _).trans (hb1.g (by simp;omega)));have HB2:=ah (HB1.i.alloc (by omega) (.D (qd l o.E).aA 62));clear hb1;go_wp2_with fail;go_ret;exact⟨by rw[HW.i,afl.i];simp[*],HB2.i⟩
 ·have H2:=ah h2
  clear h1 g1 g1';go_enter Cr,Ao;go_wp2_with fail;refine(Bv l HS.i _ v A c _ (HR1.i _ _) hn).g ?_;rintro e w1 ⟨rfl,hb1⟩;obtain⟨hx1,hx2,hx3,hx4,hx5⟩:=Ue hb1;have hz0:w.a.j<w1.a.j:=by simp at hx5;omega
  have hz1:w.a.j+1<w1.a.j:=by simp at hx5;omega
  clear hx5;have HB1:=ah ((HB0.i _ _).trans (hb1.g (by simp;omega)));have HB2:=ah (HB1.i.alloc (by omega) (.D (qd l o.E).aA 62));clear hb1;go_wp2_with fail
  all_goals
   go_ret;exact⟨by rw[HW.i,afl.i,H2.i];clear hx1 hx2 hx3 hx4 HR1 HB0 HB1;first|(simp[*];done)|(simp_all;done)|(simp_all;omega),HB2.i⟩
 ·have H2:=ah h2
  clear h1 g1 g1';go_enter Cr,Ao;go_wp2_with fail;refine(Bv l HS.i _ v A c _ (HR1.i _ _) hn).g ?_;rintro e w1 ⟨rfl,hb1⟩;obtain⟨hx1,hx2,hx3,hx4,hx5⟩:=Ue hb1;have hz0:w.a.j<w1.a.j:=by simp at hx5;omega
  have hz1:w.a.j+1<w1.a.j:=by simp at hx5;omega
  clear hx5;have HB1:=ah ((HB0.i _ _).trans (hb1.g (by simp;omega)));have HB2:=ah (HB1.i.alloc (by omega) (.D (qd l o.E).aA 62));clear hb1;go_wp2_with fail;refine(ac5 o.w hw _).g ?_;rintro e w' ⟨rfl,rfl⟩;go_wp2_with fail
  all_goals
   go_ret;exact⟨by rw[HW.i,afl.i,H2.i];clear hx1 hx2 hx3 hx4 HR1 HB0 HB1;first|(simp[*];done)|(simp_all;done)|(simp_all;omega),HB2.i⟩
 all_goals
  have H2:=ah h2;clear h1 g1 g1';go_enter Cr,Ao;go_wp2_with fail;refine(Bv l HS.i _ v A c _ (HR1.i _ _) hn).g ?_;rintro e w1 ⟨rfl,hb1⟩;obtain⟨hx1,hx2,hx3,hx4,hx5⟩:=Ue hb1;have hz0:w.a.j<w1.a.j:=by simp at hx5;omega
  have hz1:w.a.j+1<w1.a.j:=by simp at hx5;omega
  clear hx5;have HB1:=ah ((HB0.i _ _).trans (hb1.g (by simp;omega)));have HB2:=ah (HB1.i.alloc (by omega) (.D (qd l o.E).aA 62));clear hb1;go_wp2_with fail
  all_goals
   go_ret;exact⟨by rw[HW.i,afl.i,H2.i];clear hx1 hx2 hx3 hx4 HR1 HB0 HB1;first|(simp[*];done)|(simp_all;done)|(simp_all;omega),HB2.i⟩
theorem yc(a b:List Bk):dO (a++b)=dO a++dO b:=by simp[dO]
theorem aaD(x:Bk)(b:List Bk):dO (x::b)=x.aA.a++dO b:=by simp[dO]
theorem Ni(l:List Bk)(i:Nat)(hi:i<=l.a):dO (l.d i)=(dO l).d (i*27):=by
 have h:=yc (l.d i) (l.f i);rw[iK]at h;rw[h,gJ (by rw[jH,bL];omega)];exact(aL (by rw[jH,bL];omega)).symm
theorem Nj(l:List Bk)(i:Nat)(hi:i<=l.a):dO (l.f i)=(dO l).f (i*27):=by
 have h:=yc (l.d i) (l.f i);rw[iK]at h;have hl:(dO (l.d i)).a=i*27:=by rw[jH,bL];omega
 rw[h,<-hl,List.drop_left]
def zO(l:List Bk)(i:Nat)(x:Bk):List Bk:=l.d i++x::l.f i
theorem yg(l:List Bk)(i:Nat)(x:Bk):(zO l i x).a=l.a+1:=by
 simp[zO];omega
theorem Jc(l:List Bk)(i:Nat)(x:Bk)(hi:i<=l.a):dO (zO l i x)=(dO l).d (i*27)++x.aA.a++(dO l).f (i*27):=by
 rw[zO,yc,aaD,Ni l i hi,Nj l i hi,List.append_assoc]
theorem aaE(w:au)(g:Nat)(c:Array aC)(t:bF)(fr:Nat×Nat)(hg:w.a[g]? = some (.D c t fr)):∀j v,c.a[j]? = some v->w.b ((⟨g,0,none⟩:aU).add j)=some v:=fun j v hv=>by
 rw[iH,sW w g _ c _ _ hg,bl]
 rwa [dH]at hv
def ac6(base:Nat)(w:au)(row:Option Nat)(m:List Bk)(e:lu)(w':au):Prop:=
 ∃A c,e=.a (.a A m.a c)/\w'.c base 62 27 (.a A m.a c) m.a (dO m)/\w.grownBy w' row
theorem Xt(w:au)(g g2:Nat)(cur Si:Array aC)(t t2:bF)(hg:w.a[g]? = some (.D cur t (0,0)))(h2:w.a[g2]? = some (.D Si t2 (0,0)))(hne:g≠g2)(hc:cur.j≠0)(o la ca lb cb:Nat):
 (callFunc 210 #[.a (some ⟨g2,0,none⟩) la ca,.a (some ⟨g,o,none⟩) lb cb]).J aj w=.ok (.value (.bool false)) w:=by
 rw[run_callFunc_extern Tryz.func210 (by kernel_rfl) (by kernel_rfl) (by kernel_rfl) (e:=Extern.SlicesOverlaps.overlaps #[30,30] #[4]) (by kernel_rfl)];obtain⟨i0,hi0,hz0,hz1,hzb⟩:=LC;rw[Lib.run_overlaps_apart w _ _ 62 jo 27 (fun w=>by simp[sizeOf,typeInfo,hi0,hz1]) ⟨g2,0,none⟩ ⟨g,o,none⟩ la ca lb cb (fun e=>hne e.symm) t2 t Si.j cur.j (by simp[World.shape?,h2]) (by simp[World.shape?,hg]) hc (by simp[su,h2]) (by simp[su,h2])];rfl
theorem aaF(l:List Bk)(x:Bk)(i:Nat)(hi:i<l.a)(base g c:Nat)(cur:Array aC)(w:au)(hb:base<=g)(hg:w.a[g]? = some (.D cur 62 (0,0)))(hc:l.a+1<=c)(hcm:c<=maxLen)(hcs:cur.j=c*27)
 (ht:cur.a.d (l.a*27)=dO l) (g2:Nat) (h2:w.a[g2]? = some (.D x.aA 62 (0,0))) (hne:g≠g2) (hn:l.a<=100000) :
 aQ aj 141 #[.a (some ⟨g,0,none⟩) l.a c,.b .a i,.a (some ⟨g2,0,none⟩) 1 1] w (ac6 base w (some g) (zO l i x)):=by
 unfold maxLen at hcm;obtain⟨n,hnl⟩:=dw l.a;rw[<-hnl]at hi hc hn ht ⊢;have HN:=ah hnl;have HG:=ah (show w.drew.a[g]? = some (.D cur 62 (0,0))from hg);have H2:=ah h2;have HT:=ah ht;have HCS:=ah hcs;have hov:=fun o la ca lb cb=>Xt w g g2 cur x.aA _ _ hg h2 hne (by omega) o la ca lb cb
 have SZ:=ah (show(aj.l 62).map (·.j)=some 27 by kernel_rfl);have M1:=ah (show n-i=qw (n+1-i) (n-i)from(Nat.min_eq_right (by omega)).symm);have M2:=ah (show((dO l).f (i*27)).a=(n-i)*27 by rw[jG,jH,<-hnl,Bg]);have M3:=ah (show∀j v,((dO l).f (i*27))[j]? = some v->w.drew.b ((⟨g,i*27,none⟩:aU).add j)=some v from fun j v hv=>by
  show w.b _=_;rw[iH,sW w g _ cur _ _ hg];rw[jq]at hv;rw[<-ht,jv]at hv;split at hv
  ·rw[dH]at hv;exact hv
  ·cases hv)
 have M4:=ah (show(i+1)*27+((dO l).f (i*27)).a<=cur.j by rw[M2.i,hcs];have:=bY 27 hc;have:=Bg n i 27;have:=bY 27 (mQ hi);omega);have M5:=ah (show∀v∈(dO l).f (i*27),v.h=true from fun v hv=>Dk l v (List.mem_of_mem_drop hv));clear hnl hg h2 ht hcs;go_enter Tryz.func141,Tryz.ntmps141;go_wp2_with fail;clear hov;have a1:IntKind.i64.wrap ((i:Int)+1)=(i:Int)+1:=IntWalk.i64_in _ (by omega);have a2:(0:Int)<=(i:Int)+1:=by omega
 have a3:(i:Int)+1<=(n:Int)+1:=by omega
 have a4:((i:Int)+1).e=i+1:=by omega
 have a5:¬c=i+1:=by omega
 have a6:¬c=i:=by omega
 have a7:(i:Int)<=(n:Int)+1:=by omega
 go_region_law (refine IY rfl (.a 73) (.a 76) _ _ rfl 62 27 jo SZ.i g ((i+1)*27) (n-i) (c-(i+1)) ⟨g,i*27,none⟩ (n+1-i) (c-i) (by kernel_rfl) (by kernel_rfl) cur _ HG.i ((dO l).f (i*27)) (n-i) M1.i M2.i M3.i M4.i M5.i ?_;intro w1 hw1;have HW1:=ah hw1;clear hw1);clear a1 a2 a3 a4 a5 a6 a7;obtain⟨uq,hc1⟩:∃uq:Array aC,uq=(splice cur.a ((i+1)*27) ((dO l).f (i*27))).b:=⟨_,rfl⟩
 have G1:=ah (show w1.a[g]? = some (.D uq 62 (0,0))by rw[HW1.i,hc1];exact rG w.drew g cur _ _ _ HG.i);have G2:=ah (show w1.a[g2]? = some (.D x.aA 62 (0,0))by rw[HW1.i,oQ w.drew g g2 _ (fun e=>hne e.symm)];exact H2.i);have G3:=ah (show w.grownBy w1 (some g)by rw[HW1.i];exact⟨rfl,rfl,rfl,by simp[rW],fun k hk hkg=>oQ w.drew g k _ (fun e=>hkg (by rw[e]))⟩);have HC1:=ah hc1;clear hc1;have N1:=ah (show 1=qw 1 (n+1-i)from(oI (by omega)).symm);have N2:=ah (show x.aA.a.a=1*27 by rw[bf,Bk.I]);have N3:=ah (show∀j v,x.aA.a[j]? = some v->w1.b ((⟨g2,0,none⟩:aU).add j)=some v from fun j v hv=>by
  rw[iH,sW w1 g2 _ x.aA _ _ G2.i,bl]
  rwa [dH]at hv)
 have hs1:uq.j=c*27:=by
  rw[HC1.i,dP,vP _ _ _ (by rw[bf];exact M4.i),bf,HCS.i]
 have N4:=ah (show i*27+x.aA.a.a<=uq.j by rw[N2.i,hs1];have:=bY 27 hc;have:=bY 27 (mQ hi);omega);have N5:=ah (show∀v∈x.aA.a,v.h=true from fun v hv=>gG.1 (Bk.cO x) v (by simpa using hv));have Te:=ah hs1;clear hs1;go_wp2_with (refine ED rfl (.a 80) (.a 81) _ _ rfl 62 27 jo SZ.i g (i*27) (n+1-i) (c-i) ⟨g2,0,none⟩ 1 1 rfl rfl uq _ G1.i x.aA.a 1 N1.i N2.i N3.i N4.i N5.i ?_;intro w2 hw2;have HW2:=ah hw2;clear hw2);go_ret;have hln:=yg l i x;rw[<-HN.i]at hln;refine⟨some ⟨g,0,none⟩,c,by rw[hln];rfl,?_,?_⟩
 ·rw[hln]
  refine⟨by rw[jH,hln],.b ⟨g,c,(splice uq.a (i*27) x.aA.a).b,rfl,hb,?_,hc,by unfold maxLen;omega,?_,?_⟩⟩
  ·rw[HW2.i];exact rG w1 g uq _ _ _ G1.i
  ·rw[dP,vP _ _ _ (by rw[bf];exact N4.i),bf,Te.i]
  ·rw[Jc l i x (by rw[<-HN.i];omega),HC1.i]
   have hx:=HT.i;have hcl:=jH l;rw[<-HN.i]at hcl;have:=aiK cur.a (dO l) x.aA.a (i*27) 27 (by rw[hcl];exact hx) (by rw[hcl];omega) (by rw[bf,Bk.I]) (by rw[hcl,bf,HCS.i];omega);rw[hcl]at this;rw[show(n+1)*27=n*27+27 by omega];rw[show(i+1)*27=i*27+27 by omega];exact this
 ·rw[HW2.i]
  refine MH G3.i ⟨rfl,rfl,rfl,by simp[rW],fun k hk hkg=>oQ w1 g k _ (fun e=>hkg (by rw[e]))⟩
theorem afm(l:List Bk)(x:Bk)(i:Nat)(hi:i<l.a)(base g c:Nat)(cur:Array aC)(w:au)(hbase:base<=w.a.j)(hg:w.a[g]? = some (.D cur 62 (0,0)))(hc:c<l.a+1)(hlc:l.a<=c)(hcs:cur.j=c*27)
 (ht:cur.a.d (l.a*27)=dO l) (g2:Nat) (h2:w.a[g2]? = some (.D x.aA 62 (0,0))) (hn:l.a<=100000) :
 aQ aj 141 #[.a (some ⟨g,0,none⟩) l.a c,.b .a i,.a (some ⟨g2,0,none⟩) 1 1] w (ac6 base w (some g) (zO l i x)):=by
 obtain⟨n,hnl⟩:=dw l.a;rw[<-hnl]at hi hc hlc hn ht ⊢;have HN:=ah hnl;have HG:=ah hg;have H2:=ah h2;have HT:=ah ht;have HCS:=ah hcs;obtain⟨i0,hi0,hz0,hz1,hzb⟩:=LC;have HI0:=ah hi0;have HZ0:=ah hz0;have HZ1:=ah hz1;have HZ2:=ah (show(cK jd.aA).D.j=27 by simp[bZ,Bk.I]);have SZ:=ah (show(aj.l 62).map (·.j)=some 27 by kernel_rfl);have hcl:=jH l;rw[<-hnl]at hcl;have HX:=ah (show aJ .a ((n:Int)+1-i)=.b .a ((n+1-i:Nat):Int)by congr 1;omega);have L1:=ah (show((dO l).d (i*27)).a=i*27 by rw[bL,hcl];omega);have L2:=ah (show∀j u,((dO l).d (i*27))[j]? = some u->w.b ((⟨g,0,none⟩:aU).add j)=some u from fun j v hv=>by
  rw[iH,sW w g _ cur _ _ hg,bl];rw[jv]at hv;split at hv
  ·rw[<-ht,jv]at hv
   split at hv
   ·rw[dH]at hv;exact hv
   ·cases hv
  ·cases hv)
 have L3:=ah (show 0<n+1-i by omega);have L4:=ah (show c<i+(n+1-i)by omega);have L5:=ah (show i+(n+1-i)<=maxLen by unfold maxLen;omega);have L6:=ah (show(i+(n+1-i))*i0.bytes<=140737488355328 from aP (gP (show i+(n+1-i)<=100001 by omega) hzb) (by omega));have M1:=ah (show n-i=qw (n-i) (n-i)from(Nat.min_self _).symm);have M2:=ah (show((dO l).f (i*27)).a=(n-i)*27 by rw[jG,hcl,Bg]);have M5:=ah (show∀v∈(dO l).f (i*27),v.h=true from fun v hv=>Dk l v (List.mem_of_mem_drop hv));have N1:=ah (show 1=qw 1 (n+1-i)from(oI (by omega)).symm);have N2:=ah (show x.aA.a.a=1*27 by rw[bf,Bk.I]);have N5:=ah (show∀v∈x.aA.a,v.h=true from fun v hv=>gG.1 (Bk.cO x) v (by simpa using hv));have HCL:=ah hcl;have EN:=ah (show i+(n+1-i)=n+1 by omega);have hgl:g<w.a.j:=(bW.1 hg).1;have aCT:g2<w.a.j:=(bW.1 h2).1;clear hnl hg h2 ht hcs hi0 hz0 hz1 hcl;go_enter Tryz.func141,Tryz.ntmps141;go_wp2_with (first
  | (refine Pb rfl (.a 34) (.a 39) _ _ rfl 62 i0 (.d jd.aA) 27 .a .a jo Tryz.underlying3 HI0.i HZ0.i HZ1.i HZ2.i ⟨g,0,none⟩ i c rfl (n+1-i) HX.i ((dO l).d (i*27)) L1.i L2.i L3.i (kX _) L4.i L5.i L6.i ?_
     rw[EN.i];intro c' uq w1 hc1 hc2 hc3 hc4 hc5 hc6;have C2:=ah hc2;have C3:=ah hc3;have C4:=ah hc4;have C6:=ah hc6;have G1:=ah (show w1.a[w.a.j]? = some (.D uq 62 (0,0))from hc5);have Gx:=ah (show w1.a[g2]? = some (.D x.aA 62 (0,0))from(hc6.block g2 aCT).trans H2.i);have Gg:=ah (show w1.a[g]? = some (.D cur 62 (0,0))from(hc6.block g hgl).trans HG.i);have N3:=ah (aaE w1 g2 x.aA _ _ Gx.i);have N4:=ah (show i*27+x.aA.a.a<=uq.j by rw[N2.i,C3.i];have:=bY 27 hc1;omega);clear hc2 hc3 hc4 hc5 hc6)
  | (refine ED rfl (.a 43) (.a 44) _ _ rfl 62 27 jo SZ.i w.a.j (i*27) (n+1-i) (c'-i) ⟨g2,0,none⟩ 1 1 rfl rfl uq _ G1.i x.aA.a 1 N1.i N2.i N3.i N4.i N5.i ?_
     intro w2 hw2;have HW2:=ah hw2;clear hw2))
 obtain⟨Si,hc2⟩:∃Si:Array aC,Si=(splice uq.a (i*27) x.aA.a).b:=⟨_,rfl⟩
 have K1:=ah (show w2.drew.a[w.a.j]? = some (.D Si 62 (0,0))by rw[HW2.i,hc2];exact rG w1 w.a.j uq _ _ _ G1.i);have Kg:=ah (show w2.a[g]? = some (.D cur 62 (0,0))by rw[HW2.i,oQ w1 w.a.j g _ (by omega)];exact Gg.i);have KB:=ah (show aM w.a.j w w2 by rw[HW2.i];exact C6.i.trans ⟨rfl,rfl,rfl,by simp[rW],fun k hk=>oQ w1 w.a.j k _ (by omega)⟩);have hs2:Si.j=c'*27:=by
  rw[hc2,dP,vP _ _ _ (by rw[bf];exact N4.i),bf,C3.i]
 have M3:=ah (show∀j v,((dO l).f (i*27))[j]? = some v->w2.drew.b ((⟨g,i*27,none⟩:aU).add j)=some v from fun j v hv=>by
  show w2.b _=_;rw[iH,sW w2 g _ cur _ _ Kg.i];rw[jq]at hv;rw[<-HT.i,jv]at hv;split at hv
  ·rw[dH]at hv;exact hv
  ·cases hv)
 have M4:=ah (show(i+1)*27+((dO l).f (i*27)).a<=Si.j by rw[M2.i,hs2];have:=bY 27 hc1;have:=Bg n i 27;have:=bY 27 (mQ hi);omega);have HC2:=ah hc2;have HS2:=ah hs2;clear hc2 hs2;have a5:¬c'=i+1:=by omega
 have a6:¬c=i:=by omega
 have a7:(i:Int)<=(n:Int):=by omega
 have a2:(0:Int)<=(i:Int)+1:=by omega
 have a3:(i:Int)+1<=(n:Int)+1:=by omega
 have a4:((i:Int)+1).e=i+1:=by omega
 have a1:IntKind.i64.wrap ((i:Int)+1)=(i:Int)+1:=IntWalk.i64_in _ (by omega);go_region_law (refine IY rfl (.a 50) (.a 53) _ _ rfl 62 27 jo SZ.i w.a.j ((i+1)*27) (n-i) (c'-(i+1)) ⟨g,i*27,none⟩ (n-i) (c-i) (by kernel_rfl) (by kernel_rfl) Si _ K1.i ((dO l).f (i*27)) (n-i) M1.i M2.i M3.i M4.i M5.i ?_;intro w3 hw3;have HW3:=ah hw3;clear hw3);clear a1 a2 a3 a4 a5 a6 a7;go_wp2_with fail;go_ret;have hln:=yg l i x;rw[<-HN.i]at hln;refine⟨some ⟨w.a.j,0,none⟩,c',by rw[hln];rfl,?_,?_⟩
 ·rw[hln]
  refine⟨by rw[jH,hln],.b ⟨w.a.j,c',(splice Si.a ((i+1)*27) ((dO l).f (i*27))).b,rfl,hbase,?_,hc1,C2.i,?_,?_⟩⟩
  ·rw[HW3.i];exact rG w2.drew w.a.j Si _ _ _ K1.i
  ·rw[dP,vP _ _ _ (by rw[bf];exact M4.i),bf,HS2.i]
  ·rw[Jc l i x (by rw[<-HN.i];omega),HC2.i]
   have:=ao5 uq.a (dO l) x.aA.a (i*27) 27 C4.i (by rw[HCL.i];omega) (by rw[bf,Bk.I]) (by rw[HCL.i,bf,C3.i];omega);rw[HCL.i]at this;rw[show(n+1)*27=n*27+27 by omega,show(i+1)*27=i*27+27 by omega];exact this
 ·rw[HW3.i]
  have hb:=KB.i;exact⟨hb.os,hb.tape,hb.output,by have:=hb.j;simpa[rW]using this,fun k hk hkg=>(oQ w2.drew w.a.j k _ (by omega)).trans (hb.block k hk)⟩
theorem aiY(l:List Bk)(x:Bk):dO (zO l l.a x)=dO l++x.aA.a:=by
 rw[Jc l l.a x (ay _),aL (by rw[jH];omega),iY (by rw[jH];omega),List.append_nil]
theorem U4(l:List Bk)(x:Bk)(base c:Nat)(A:Option aU)(w:au)(hbase:base<=w.a.j)(hown:w.c base 62 27 (.a A l.a c) l.a (dO l))(hlc:l.a<=c)(g2:Nat)(h2:w.a[g2]? = some (.D x.aA 62 (0,0)))(hn:l.a<=100000):
 aQ aj 141 #[.a A l.a c,.b .a l.a,.a (some ⟨g2,0,none⟩) 1 1] w (ac6 base w (bC A l.a c).ownBlock (zO l l.a x)):=by
 have hln:=yg l l.a x;have hce:=aiY l x;obtain⟨n,hnl⟩:=dw l.a;rw[<-hnl]at hln hce hn hlc hown ⊢;obtain⟨m,hm⟩:=dw (zO l n x);rw[<-hm]at hln hce ⊢;have HLN:=ah hln;have HCE:=ah hce;have HO:=ah hown;obtain⟨i0,hi0,hz0,hz1,hzb⟩:=LC;have HI0:=ah hi0;have HZ0:=ah hz0;have HZ1:=ah hz1;have HZ2:=ah (show(cK jd.aA).D.j=27 by simp[bZ,Bk.I]);have L5:=ah (show n+1<=maxLen by unfold maxLen;omega);have L6:=ah (show(n+1)*i0.bytes<=140737488355328 from aP (gP (show n+1<=100001 by omega) hzb) (by omega));have HR:=ah (show Rd w (g2+1) 27 (some ⟨g2,0,none⟩) 1 x.aA.a from⟨by rw[bf,Bk.I],fun _=>⟨_,rfl,mP _,aaE w g2 x.aA _ _ h2⟩⟩);have N5:=ah (show∀v∈x.aA.a,v.h=true from fun v hv=>gG.1 (Bk.cO x) v (by simpa using hv));clear hnl hm hln hce hown hi0 hz0 hz1 h2;have hnn:((n:Int)==(n:Int))=true:=by simp
 go_enter Tryz.func141,Tryz.ntmps141;go_wp2_with (refine iT _ rfl (.a 23) (.a 24) _ rfl base 62 i0 (.d jd.aA) 27 i0.bytes jo HI0.i HZ0.i HZ1.i rfl HZ2.i (kX _) (.a A n c) n (dO l) rfl HO.i (g2+1) (some ⟨g2,0,none⟩) 1 1 x.aA.a rfl HR.i N5.i L5.i L6.i hbase ?_;intro v1 w1 hown1 hg1 uN;have O1:=ah hown1;have GR:=ah hg1;clear hown1 hg1 uN)
 all_goals
  go_ret;obtain⟨A',c',rfl,_,_⟩:=jw O1.i;refine⟨A',c',by rw[HLN.i];rfl,?_,by have:=GR.i;cases A<;>exact this⟩;rw[HLN.i,HCE.i];exact O1.i
def apt(base:Nat)(w:au)(A:Option aU)(c:Nat)(l:List Bk)(g2:Nat)(x:Bk):Prop:=
 w.c base 62 27 (.a A l.a c) l.a (dO l)/\w.a[g2]? = some (.D x.aA 62 (0,0))/\(∀g,A=some g->g.block≠g2)/\base<=w.a.j/\l.a<=100000
theorem afo(l:List Bk)(x:Bk)(i:Nat)(hi:i<=l.a)(base c g2:Nat)(A:Option aU)(w:au)(h:apt base w A c l g2 x):
 aQ aj 141 #[.a A l.a c,.b .a i,.a (some ⟨g2,0,none⟩) 1 1] w (ac6 base w (bC A l.a c).ownBlock (zO l i x)):=by
 obtain⟨hown,h2,hne,hb,hn⟩:=h;have hown':=hown;rcases hown.2 with⟨hv,h0⟩|⟨g,cap,cur,hv,hbg,hg,hnc,hcm,hcs,htake⟩
 ·injection hv with e1 e2 e3
  subst e1 e3;obtain rfl:i=l.a:=by omega
  exact U4 l x base 0 none w hb hown (by omega) g2 h2 hn
 ·injection hv with e1 e2 e3
  subst e1 e3;rcases aZ i l.a with h1|h1
  ·rcases aZ c (l.a+1)with h3|h3
   ·exact afm l x i h1 base g c cur w hb hg h3 hnc hcs htake g2 h2 hn
   ·exact aaF l x i h1 base g c cur w hbg hg h3 hcm hcs htake g2 h2 (hne _ rfl) hn
  ·obtain rfl:i=l.a:=by omega
   exact U4 l x base c _ w hb hown hnc g2 h2 hn
def EI(l:List Bk)(i:Nat):List Bk:=l.d i++l.f (i+1)
theorem Nk(l:List Bk)(i:Nat)(hi:i<l.a):(EI l i).a=l.a-1:=by
 simp[EI];omega
theorem QB(l:List Bk)(i:Nat)(hi:i<l.a):dO (EI l i)=(dO l).d (i*27)++(dO l).f (i*27+27):=by
 rw[EI,yc,Ni l i (by omega),Nj l (i+1) (by omega),show(i+1)*27=i*27+27 by omega]
theorem afp(l:List Bk)(i:Nat)(hi:i<l.a)(base g c:Nat)(cur:Array aC)(w:au)(hb:base<=g)(hg:w.a[g]? = some (.D cur 62 (0,0)))(hc:l.a<=c)(hcm:c<=maxLen)(hcs:cur.j=c*27)
 (ht:cur.a.d (l.a*27)=dO l) (hn:l.a<=100000) :
 aQ aj 142 #[.a (some ⟨g,0,none⟩) l.a c,.b .a i,.b .a ((i:Int)+1)] w (ac6 base w (some g) (EI l i)):=by
 have hln:=Nk l i hi;have hcl:=jH l;unfold maxLen at hcm;obtain⟨n,hnl⟩:=dw l.a;rw[<-hnl]at hi hc hn ht hln hcl ⊢;have HN:=ah hnl;have HG:=ah (show w.drew.a[g]? = some (.D cur 62 (0,0))from hg);have HT:=ah ht;have HCS:=ah hcs;have HLN:=ah hln;have HCL:=ah hcl;obtain⟨i0,hi0,hz0,hz1,hzb⟩:=LC;have HI0:=ah hi0;have HZ0:=ah hz0;have HZ1:=ah hz1;have HZ2:=ah (show(cK jd.aA).D.j=27 by simp[bZ,Bk.I]);have HZ3:=ah (show(cK jd.aA).D.all (·.h)=true from Bk.cO jd);have M2:=ah (show((dO l).f (i*27+27)).a=(n-(i+1))*27 by rw[jG,hcl,Bg];omega);have M3:=ah (show∀j v,((dO l).f (i*27+27))[j]? = some v->w.drew.b ((⟨g,(i+1)*27,none⟩:aU).add j)=some v from fun j v hv=>by
  show w.b _=_;rw[iH,sW w g _ cur _ _ hg,show(i+1)*27=i*27+27 by omega];rw[jq]at hv;rw[<-ht,jv]at hv;split at hv
  ·rw[dH]at hv;exact hv
  ·cases hv)
 have M4:=ah (show i*27+((dO l).f (i*27+27)).a<=cur.j by rw[M2.i,hcs];have:=bY 27 hc;have:=Bg n (i+1) 27;omega);have M5:=ah (show∀v∈(dO l).f (i*27+27),v.h=true from fun v hv=>Dk l v (List.mem_of_mem_drop hv));have M6:=ah (show i+(n-(i+1))<=c by omega);have EN:=ah (show i+(n-(i+1))=n-1 by omega);have M7':=ah (show c=i+1->Hid (∀j v,((dO l).f (i*27+27))[j]? = some v->w.drew.b ((⟨g,0,none⟩:aU).add j)=some v)from fun h=>ah fun j v hv=>by
  have hz:(dO l).f (i*27+27)=[]:=bG (by rw[M2.i,show n-(i+1)=0 by omega,Nat.zero_mul]);rw[hz]at hv;simp at hv)
 have HN1:=ah (show 1<=n by omega);clear hnl hg ht hcs hi0 hz0 hz1 hcl hln;have b1:(i:Int)<=n:=by omega
 have b2:(i:Int)+1<=n:=by omega
 go_enter Tryz.func142,Tryz.ntmps142;go_wp2_with fail;by_cases hci:c=i+1;rotate_left
 ·have a4:((i:Int)+1).e=i+1:=by omega
  have a2:(0:Int)<=(i:Int)+1:=by omega
  have a8:¬c=i:=by omega
  have a9:(i:Int)<=c:=by omega
  go_region_law (refine La rfl (.a 22) (.a 25) _ rfl 62 i0 27 jo HI0.i HZ1.i g i c ⟨g,(i+1)*27,none⟩ (n-(i+1)) (c-(i+1)) (by kernel_rfl) (by kernel_rfl) cur HG.i ((dO l).f (i*27+27)) M2.i M3.i M5.i M6.i M4.i ?_;intro w1 hw1;rw[EN.i];have HW1:=ah hw1;clear hw1);clear a2 a4 a8 a9;obtain⟨uq,hc1⟩:∃uq:Array aC,uq=(splice cur.a (i*27) ((dO l).f (i*27+27))).b:=⟨_,rfl⟩
  have G1:=ah (show w1.a[g]? = some (.D uq 62 (0,0))by rw[HW1.i,hc1];exact rG w.drew g cur _ _ _ HG.i);have hs1:uq.j=c*27:=by
   rw[hc1,dP,vP _ _ _ (by rw[bf];exact M4.i),bf,HCS.i]
  have E1:=ah (show 0<n-(n-1)by have:=HN1.i;omega);have E2:=ah (show(n-1)*27+(n-(n-1))*27<=uq.j by rw[hs1,show n-(n-1)=1 by have:=HN1.i;omega];have:=HN1.i;omega);have HC1:=ah hc1;have Te:=ah hs1;clear hc1 hs1;go_wp2_with (refine EF rfl (.a 31) _ rfl 62 i0 (.d jd.aA) 27 jo HI0.i HZ0.i HZ2.i HZ3.i g ((n-1)*27) (n-(n-1)) (c-(n-1)) rfl E1.i uq _ G1.i E2.i ?_;intro w2 zs hzs hw2;have HW2:=ah hw2;have HZS:=ah hzs;clear hw2 hzs);go_ret;refine⟨some ⟨g,0,none⟩,c,by rw[HLN.i];rfl,?_,?_⟩
  ·rw[HLN.i]
   refine⟨by rw[jH,HLN.i],.b ⟨g,c,(splice uq.a ((n-1)*27) zs).b,rfl,hb,?_,by omega,by unfold maxLen;omega,?_,?_⟩⟩
   ·rw[HW2.i];exact rG w1 g uq _ _ _ G1.i
   ·rw[dP,vP _ _ _ (by rw[bf];have h1:=HZS.i;have h2:=E2.i;first|(rw[h1];exact h2)|(simp only[dP,h1];exact h2)),bf,Te.i]
   ·rw[QB l i (by rw[<-HN.i];exact hi)]
    have h1:=Yg cur.a (dO l) (i*27) 27 (by rw[HCL.i];exact HT.i) (by rw[HCL.i];omega);have hcu:uq.a=splice cur.a (i*27) ((dO l).f (i*27+27)):=by rw[HC1.i]
    rw[HCL.i,show n*27-27=(n-1)*27 by omega,<-hcu]at h1;show List.take ((n-1)*27) (splice uq.a ((n-1)*27) zs)=_;rw[splice,gJ (by rw[bL,bf,Te.i];omega),vN,Nat.min_self];exact h1
  ·rw[HW2.i]
   have hG:w.grownBy w1 (some g):=by rw[HW1.i];exact⟨rfl,rfl,rfl,by simp[rW],fun k hk hkg=>oQ w.drew g k _ (fun e=>hkg (by rw[e]))⟩
   refine MH hG ⟨rfl,rfl,rfl,by simp[rW],fun k hk hkg=>oQ w1 g k _ (fun e=>hkg (by rw[e]))⟩
 ·have M3:=M7'.i hci
  have HCI:=ah hci;have a0:(c=i+1)=True:=by simpa using hci
  clear hci;have a4:((i:Int)+1).e=i+1:=by omega
  have a2:(0:Int)<=(i:Int)+1:=by omega
  have a8:¬c=i:=by have:=HCI.i;omega
  have a9:(i:Int)<=c:=by omega
  go_region_law (refine La rfl (.a 22) (.a 25) _ rfl 62 i0 27 jo HI0.i HZ1.i g i c ⟨g,0,none⟩ (n-(i+1)) (c-(i+1)) (by kernel_rfl) (by kernel_rfl) cur HG.i ((dO l).f (i*27+27)) M2.i M3.i M5.i M6.i M4.i ?_;intro w1 hw1;rw[EN.i];have HW1:=ah hw1;clear hw1);clear a2 a4 a8 a9;obtain⟨uq,hc1⟩:∃uq:Array aC,uq=(splice cur.a (i*27) ((dO l).f (i*27+27))).b:=⟨_,rfl⟩
  have G1:=ah (show w1.a[g]? = some (.D uq 62 (0,0))by rw[HW1.i,hc1];exact rG w.drew g cur _ _ _ HG.i);have hs1:uq.j=c*27:=by
   rw[hc1,dP,vP _ _ _ (by rw[bf];exact M4.i),bf,HCS.i]
  have E1:=ah (show 0<n-(n-1)by have:=HN1.i;omega);have E2:=ah (show(n-1)*27+(n-(n-1))*27<=uq.j by rw[hs1,show n-(n-1)=1 by have:=HN1.i;omega];have:=HN1.i;omega);have HC1:=ah hc1;have Te:=ah hs1;clear hc1 hs1;go_wp2_with (refine EF rfl (.a 31) _ rfl 62 i0 (.d jd.aA) 27 jo HI0.i HZ0.i HZ2.i HZ3.i g ((n-1)*27) (n-(n-1)) (c-(n-1)) rfl E1.i uq _ G1.i E2.i ?_;intro w2 zs hzs hw2;have HW2:=ah hw2;have HZS:=ah hzs;clear hw2 hzs);go_ret;refine⟨some ⟨g,0,none⟩,c,by rw[HLN.i];rfl,?_,?_⟩
  ·rw[HLN.i]
   refine⟨by rw[jH,HLN.i],.b ⟨g,c,(splice uq.a ((n-1)*27) zs).b,rfl,hb,?_,by omega,by unfold maxLen;omega,?_,?_⟩⟩
   ·rw[HW2.i];exact rG w1 g uq _ _ _ G1.i
   ·rw[dP,vP _ _ _ (by rw[bf];have h1:=HZS.i;have h2:=E2.i;first|(rw[h1];exact h2)|(simp only[dP,h1];exact h2)),bf,Te.i]
   ·rw[QB l i (by rw[<-HN.i];exact hi)]
    have h1:=Yg cur.a (dO l) (i*27) 27 (by rw[HCL.i];exact HT.i) (by rw[HCL.i];omega);have hcu:uq.a=splice cur.a (i*27) ((dO l).f (i*27+27)):=by rw[HC1.i]
    rw[HCL.i,show n*27-27=(n-1)*27 by omega,<-hcu]at h1;show List.take ((n-1)*27) (splice uq.a ((n-1)*27) zs)=_;rw[splice,gJ (by rw[bL,bf,Te.i];omega),vN,Nat.min_self];exact h1
  ·rw[HW2.i]
   have hG:w.grownBy w1 (some g):=by rw[HW1.i];exact⟨rfl,rfl,rfl,by simp[rW],fun k hk hkg=>oQ w.drew g k _ (fun e=>hkg (by rw[e]))⟩
   refine MH hG ⟨rfl,rfl,rfl,by simp[rW],fun k hk hkg=>oQ w1 g k _ (fun e=>hkg (by rw[e]))⟩
def aaG(w:au)(l:List Bk)(e:lu)(w':au):Prop:=
 ∃A c,e=.a (.a A l.a c)/\w'.c w.a.j 62 27 (.a A l.a c) l.a (dO l)/\aM w.a.j w w'
theorem xI(l:List Bk)(A:Option aU)(c:Nat)(w:au)(hR:Ez w w.a.j A l.a l)(hn:l.a<=100000):
 aQ aj 61 #[.a A l.a c] w (aaG w l):=by
 cases A with
 | some a=>exact acL l a c w hR (by omega)
 | none=>
   have h0:l.a=0:=by
    rcases eD l.a with h0|h0
    ·exact h0
    ·obtain⟨a,ha,_⟩:=hR.2.1.2 h0;cases ha
   have hl:l=[]:=bG h0;subst hl;have hnil:∀W:au,(binOp .eql 30 (.a none 0 c) (.a none 0 0)).J aj W=.ok (.bool true) W:=fun W=>by
    simp only[binOp];simp[run_equal_slice_nil,jo]
   have XZ:aaG w [] (.a (.a none 0 0)) w:=⟨none,0,rfl,fB _ _ _ _,aH _ _⟩
   have FIN:=ah XZ;clear XZ;clear hR;simp only[List.length_nil];go_enter Tryz.func61,Tryz.ntmps61;go_wp2;go_ret;exact FIN.i
theorem oM{w:au}{base:Nat}{l:List Bk}{A:Option aU}{c:Nat}(h:w.c base 62 27 (.a A l.a c) l.a (dO l)):Ez w w.a.j A l.a l:=
 ⟨rfl,Rd.gV h,fun a ha _=>by
  rcases h.2 with⟨hv,h0⟩|⟨g,cap,cur,hv,_⟩
  ·injection hv with e1 _ _
   rw[e1]at ha;cases ha
  ·injection hv with e1 _ _
   rw[e1]at ha;injection ha with ha
   rw[<-ha]⟩
theorem Jd(l:List Bk)(k:Nat)(hk:k<l.a)(y:Bk)(j:Nat)(hj:j<27)(u:aC)(h:y.aA=(l.c k jd).aA.setIfInBounds j u):(dO l).set (k*27+j) u=dO (l.set k y):=by
 have hs:=Bk.I (l.c k jd);have hlen:=jH l;have U6:=jH (l.set k y);rw[aW]at U6;apply List.ext_getElem?;intro i;rcases aZ i (l.a*27)with h1|h1
 ·have e1:i=i/27*27+i%27:=by omega
  have h2:i/27<l.a:=by omega
  have h3:i%27<27:=fH _ (by omega);have g1:=IW l (i/27) (i%27) h2 h3;have g2:=IW (l.set k y) (i/27) (i%27) (by rw[aW];exact h2) h3;rw[<-e1]at g1 g2;rw[g2,List.getElem?_set,hlen];by_cases h4:i/27=k
  ·have e2:(l.set k y).c (i/27) jd=y:=by
    rw[av,h4,List.getElem?_set_self hk];rfl
   rw[e2,h,Array.getElem?_setIfInBounds,hs];by_cases h5:j=i%27
   ·have:k*27+j=i:=by omega
    simp[h5,h3];rw[if_pos (by omega),if_pos (by omega)]
   ·have:¬k*27+j=i:=by omega
    rw[if_neg this,if_neg h5,g1,h4]
  ·have e2:(l.set k y).c (i/27) jd=l.c (i/27) jd:=by
    rw[av,av,List.getElem?_set_ne (fun e=>h4 e.symm)]
   have:¬k*27+j=i:=by omega
   rw[if_neg this,e2,g1]
 ·rw[aT (by rw[aW,hlen];exact h1),aT (by rw[U6];exact h1)]
theorem aaH{v:Int}{l:List Bk}{o:qV}(h:qC v l o=0):1<=o.kind/\o.kind<=5/\v<1099511627776/\(o.kind=1->o.bk.Cx=true/\sP l o.bk.E=false/\l.a<1024)/\(o.kind=3->Xh o.w=true)/\(o.kind≠1->sP l o.E=true):=by
 unfold qC at h
 repeat' split at h
 all_goals first|(exact absurd h (by decide))|skip
 rename_i h1 h2 h3 h4 h5 h6 h7 h8 h9 h10;refine⟨by omega,by omega,by omega,fun hk=>⟨?_,?_,?_⟩,fun hk=>?_,fun hk=>?_⟩
 ·simpa[hk]using h3
 ·simpa[hk,qV.who]using h5
 ·simp[hk]at h6;omega
 ·simpa[hk]using h4
 ·simpa[hk,qV.who]using h7
def Pv(l:List Bk)(o:qV):List Bk:=
 if o.kind=1 then zO l (kH l o.bk.E) (o.bk.OH (kG o.bk.w))
 else if o.kind=2 then EI l (kH l o.E)
 else if o.kind=3 then l.set (kH l o.E) ((qd l o.E).OH (kG o.w))
 else l.set (kH l o.E) ((qd l o.E).toD (o.kind==4))
def U8(w:au)(v:Int)(l:List Bk)(er:Int)(e:lu)(w':au):Prop:=
 ∃A c,e=.a (.K #[.d #[.b .a v,.a A l.a c],.b .a er])/\w'.c w.a.j 62 27 (.a A l.a c) l.a (dO l)/\aM w.a.j w w'
theorem EJ{fn:Func}{p u:Tmp}(h:fn.results = #[.cell p 32,.a u])(tmps:Array aC)(W:au)(b o:Nat)(hp:tmps.c p undef=.pointer (some ⟨b,o,none⟩))(hh:vE W b o 2):
 (results fn tmps).J aj W=.ok (.K #[.d (dQ W b o 2),tmps.c u undef]) W:=by
 have hl:=jU W b o 2 _ _ Tryz.underlying32 rfl (by kernel_rfl) hh;simp only[cZ,Instr.sureAddr,Sem.run_bind,Sem.run_pure,Result.andThen_ok]at hl;rw[results_cell_tmp h,hp];simp[asAddr,Result.andThen,hl]
theorem atx(l:List Bk)(hs:Ga l)(v:Int)(o:qV)(hf:o.bk.qg)(hw:o.w<18446744073709551616)(BH:qC v l o≠0)(A:Option aU)(c:Nat)(w:au)(hR:Ez w w.a.j A l.a l)(hn:l.a<=100000):
 aQ aj 71 #[.d #[.b .a v,.a A l.a c],.d o.aA] w (U8 w v l (qC v l o)):=by
 have HS:=ah hs;have HR1:=ah (fun ob sO Hg=>(((hR.alloc (ay _) ob).alloc (by simp) sO).alloc (by simp;omega) Hg).lH (B':=(((w.alloc ob).alloc sO).alloc Hg).a.j) (by simp;omega));have HB0:=ah (fun ob sO Hg=>((((aH w.a.j w).alloc (ay _) ob).alloc (by simp) sO).alloc (by simp;omega) Hg:aM w.a.j w (((w.alloc ob).alloc sO).alloc Hg)));obtain⟨K,hK⟩:=sQ (qC v l o);have OJ:=fun A c W (hR:Ez W W.a.j A l.a l)=>J9 l hs v o hf hw A c W hR (by omega)
 rw[hK]at BH OJ ⊢;have Nl:=ah OJ;clear hR hs OJ hK;have hk0:(K != 0)=true:=by simpa using BH
 clear BH;go_enter Fv,Ct;go_wp2_with fail;refine(xI l A c _ (HR1.i _ _ _) hn).g ?_;rintro e w1 ⟨A1,c1,rfl,ho1,hb1⟩;have b0:=(((dN.new w _ _).alloc _).alloc _).S hb1 (by simp;omega);have b1:=((dN.Rb w _ _ _).alloc _).S hb1 (by simp);have b2:=(dN.aij w _ _ _ _).S hb1 (by simp);have hz1:w.a.j+2<w1.a.j:=b2.lt;have O1:=ah (iM ho1 (show w.a.j+3<=_ by simp));have HB1:=ah ((HB0.i _ _ _).trans (hb1.g (by simp;omega)));clear ho1 hb1;obtain⟨x1,x2,x3,x4⟩:=b0.M;obtain⟨y1,y2,y3,y4⟩:=b1.M;have B0:=ah b0;have B1:=ah b1;have B2:=ah b2;clear b0 b1 b2;go_wp2_with fail;refine(Nl.i A1 c1 _ (oM (jD O1.i (by simp) _))).g ?_;rintro e w2 ⟨rfl,hb2⟩;have hsz:(w1.G ⟨w.a.j,1,none⟩ (bC A1 l.a c1)).a.j=w1.a.j:=by simp[iw]
 have b0:=(B0.i.eH 1 (bC A1 l.a c1)).S hb2 (by rw[hsz];omega);have b2:=(B2.i.dR ⟨w.a.j,1,none⟩ (bC A1 l.a c1) (by simp)).S hb2 (by rw[hsz];omega);have O2:=ah (fQ (jD O1.i (by simp) _) hb2);have HB2:=ah ((HB1.i.G (ay _) _).trans (hb2.g (by rw[hsz];omega)));clear hb2 hsz x1 x2 x3 x4 y1 y2 y3 y4;obtain⟨x1,x2,x3,x4⟩:=b0.M;obtain⟨y1,y2,y3,y4⟩:=b2.M;have B0:=ah b0;have B2:=ah b2;clear b0 b2;go_wp2_with fail;have b2:=(B2.i.eH 0 (.b .a v)).eH 1 (.a A1 l.a c1);obtain⟨z1,z2,z3,z4⟩:=b2.M;have hZ:=z3 0 2 (ay _);refine aO (EJ rfl _ _ _ _ rfl (by rw[hZ];trivial)) rfl ⟨A1,c1,?_,iM (jD (jD O2.i (by simp) _) (by simp) _) (by omega),(HB2.i.G (show w.a.j<=w.a.j+2 by omega) _).G (show w.a.j<=w.a.j+2 by omega) _⟩;rw[z4 0 2 (ay _)];rfl
theorem apu(l:List Bk)(s:List UInt8):kH l s<=l.a:=by
 unfold kH;exact(List.takeWhile_sublist _).length_le
theorem aty(l:List Bk)(hs:Ga l)(v:Int)(hv : -9223372036854775808<=v/\v<9223372036854775807)(o:qV)(hf:o.bk.qg)(hw:o.w<18446744073709551616)(BH:qC v l o=0)(h1:o.kind=1)(A:Option aU)(c:Nat)(w:au)(hR:Ez w w.a.j A l.a l)(hn:l.a<=100000):
 aQ aj 71 #[.d #[.b .a v,.a A l.a c],.d o.aA] w (U8 w (v+1) (zO l (kH l o.bk.E) (o.bk.OH (kG o.bk.w))) 0):=by
 have HS:=ah hs;have HR1:=ah (fun ob sO Hg=>(((hR.alloc (ay _) ob).alloc (by simp) sO).alloc (by simp;omega) Hg).lH (B':=(((w.alloc ob).alloc sO).alloc Hg).a.j) (by simp;omega));have HB0:=ah (fun ob sO Hg=>((((aH w.a.j w).alloc (ay _) ob).alloc (by simp) sO).alloc (by simp;omega) Hg:aM w.a.j w (((w.alloc ob).alloc sO).alloc Hg)));have OJ:=fun A c W (hR:Ez W W.a.j A l.a l)=>J9 l hs v o hf hw A c W hR (by omega)
 rw[BH]at OJ;have Nl:=ah OJ;clear hR hs OJ BH;obtain⟨hv1,hv2⟩:=hv;go_enter Fv,Ct;go_wp2_with fail;refine(xI l A c _ (HR1.i _ _ _) hn).g ?_;rintro e w1 ⟨A1,c1,rfl,ho1,hb1⟩;have b0:=(((dN.new w _ _).alloc _).alloc _).S hb1 (by simp;omega);have b1:=((dN.Rb w _ _ _).alloc _).S hb1 (by simp);have b2:=(dN.aij w _ _ _ _).S hb1 (by simp);have hz1:w.a.j+2<w1.a.j:=b2.lt;have O1:=ah (iM ho1 (show w.a.j+3<=_ by simp));have HB1:=ah ((HB0.i _ _ _).trans (hb1.g (by simp;omega)));clear ho1 hb1;obtain⟨x1,x2,x3,x4⟩:=b0.M;obtain⟨y1,y2,y3,y4⟩:=b1.M;have B0:=ah b0;have B1:=ah b1;have B2:=ah b2;clear b0 b1 b2;go_wp2_with fail;refine(Nl.i A1 c1 _ (oM (jD O1.i (by simp) _))).g ?_;rintro e w2 ⟨rfl,hb2⟩;have hsz:(w1.G ⟨w.a.j,1,none⟩ (bC A1 l.a c1)).a.j=w1.a.j:=by simp[iw]
 have b0:=(B0.i.eH 1 (bC A1 l.a c1)).S hb2 (by rw[hsz];omega);have b1:=(B1.i.dR ⟨w.a.j,1,none⟩ (bC A1 l.a c1) (by simp)).S hb2 (by rw[hsz];omega);have b2:=(B2.i.dR ⟨w.a.j,1,none⟩ (bC A1 l.a c1) (by simp)).S hb2 (by rw[hsz];omega);have O2:=ah (fQ (jD O1.i (by simp) _) hb2);have HB2:=ah ((HB1.i.G (ay _) _).trans (hb2.g (by rw[hsz];omega)));have hz2:w.a.j+2<w2.a.j:=b2.lt;have apv:w.a.j+1<w2.a.j:=b1.lt;have apw:w.a.j<w2.a.j:=b0.lt;clear hb2 hsz x1 x2 x3 x4 y1 y2 y3 y4 hz1 HB1 O1 HR1 Nl;obtain⟨x1,x2,x3,x4⟩:=b0.M;obtain⟨y1,y2,y3,y4⟩:=b1.M;have B0:=ah b0;have B1:=ah b1;have B2:=ah b2;clear b0 b1 b2;go_wp2_with fail;refine(zh _ _).g ?_;rintro e w' ⟨rfl,rfl⟩;go_wp2_with fail;refine(LA l HS.i o.bk.E (v+1) A1 c1 _ (oM (vF (jD O2.i (by simp) _) _)) (by omega)).g ?_;rintro e w3 ⟨rfl,hb3⟩;have hsz:((w2.G ⟨w.a.j,0,none⟩ (aJ .a (v+1))).alloc (.D (o.bk.OH (kG o.bk.w)).aA 62)).a.j=w2.a.j+1:=by simp[iw]
 have b0:=((B0.i.eH 0 (aJ .a (v+1))).alloc (.D (o.bk.OH (kG o.bk.w)).aA 62)).S hb3 (by rw[hsz];omega);have b2:=((B2.i.dR ⟨w.a.j,0,none⟩ (aJ .a (v+1)) (by simp)).alloc (.D (o.bk.OH (kG o.bk.w)).aA 62)).S hb3 (by rw[hsz];omega);have b3:=(dN.new (w2.G ⟨w.a.j,0,none⟩ (aJ .a (v+1))) (o.bk.OH (kG o.bk.w)).aA 62).S hb3 (by simp);rw[show(w2.G ⟨w.a.j,0,none⟩ (aJ .a (v+1))).a.j=w2.a.j by simp[iw]]at b3;have O3:=ah (fQ (vF (jD O2.i (by simp) _) (.D (o.bk.OH (kG o.bk.w)).aA 62)) hb3);have HB3:=ah (((HB2.i.G (ay _) (aJ .a (v+1))).alloc (by simp[iw];omega) (.D (o.bk.OH (kG o.bk.w)).aA 62)).trans (hb3.g (by rw[hsz];omega)));have hz3:w2.a.j<w3.a.j:=b3.lt;clear hb3 hsz x1 x2 x3 x4 y1 y2 y3 y4 HB2 O2;obtain⟨x1,x2,x3,x4⟩:=b0.M;obtain⟨z1,z2,z3,z4⟩:=b3.M;have B0:=ah b0;have B2:=ah b2;have B3:=ah b3;clear b0 b2 b3;go_wp2_with fail;have hli:kH l o.bk.E<=l.a:=apu l _;have hrow:∀k,(bC A1 l.a c1).ownBlock=some k->w.a.j+3<=k:=fun k hk=>(O3.i.lt k hk).1
 refine(afo l (o.bk.OH (kG o.bk.w)) (kH l o.bk.E) hli (w.a.j+3) c1 w3.a.j A1 _ ⟨vF O3.i _,GX w3 _,fun g hg=>?_,by simp;omega,hn⟩).g ?_
 ·have:=(O3.i.lt g.block (by rw[hg];rfl)).2
  omega
 rintro e w4 ⟨A4,c4,rfl,ho4,hg4⟩;have b0:=(B0.i.alloc (.D (o.bk.OH (kG o.bk.w)).aA 62)).grown hg4 (fun e=>by have:=hrow _ e.symm;omega);have b2:=(B2.i.alloc (.D (o.bk.OH (kG o.bk.w)).aA 62)).grown hg4 (fun e=>by have:=hrow _ e.symm;omega);have O4:=ah ho4;have hz4:w.a.j+2<w4.a.j:=b2.lt;have HB4:=ah ((HB3.i.alloc (by omega) (.D (o.bk.OH (kG o.bk.w)).aA 62)).grown hg4 (by simp;omega) (fun k hk=>by have:=hrow k hk;omega));have hil:=yg l (kH l o.bk.E) (o.bk.OH (kG o.bk.w));obtain⟨l4,hl4⟩:=dw (zO l (kH l o.bk.E) (o.bk.OH (kG o.bk.w)));rw[<-hl4]at ho4 O4 ⊢;have HL4:=ah hl4;clear hg4 ho4 x1 x2 x3 x4 z1 z2 z3 z4 HB3 O3 hl4 hil;obtain⟨x1,x2,x3,x4⟩:=b0.M;obtain⟨y1,y2,y3,y4⟩:=b2.M;have B0:=ah b0;have B2:=ah b2;clear b0 b2;go_wp2_with fail;have b2:=(B2.i.dR ⟨w.a.j,1,none⟩ (.a A4 l4.a c4) (by simp)).eH 0 (.b .a (v+1)) |>.eH 1 (.a A4 l4.a c4)
 obtain⟨z1,z2,z3,z4⟩:=b2.M;have hl4:=HL4.i;subst hl4;have hZ:=z3 0 2 (ay _);refine aO (EJ rfl _ _ _ _ rfl (by rw[hZ];trivial)) rfl ⟨A4,c4,?_,iM (base:=w.a.j+3) (jD (jD (jD O4.i (show w.a.j<w.a.j+3 by omega) _) (show w.a.j+2<w.a.j+3 by omega) _) (show w.a.j+2<w.a.j+3 by omega) _) (by omega),((HB4.i.G (ay _) _).G (show w.a.j<=w.a.j+2 by omega) _).G (show w.a.j<=w.a.j+2 by omega) _⟩;rw[z4 0 2 (ay _)];rfl
theorem yh{l:List Bk}{s:List UInt8}(h:sP l s=true):kH l s<l.a:=by
 unfold sP at h;simp at h;exact h.1
theorem atz(l:List Bk)(hs:Ga l)(v:Int)(hv : -9223372036854775808<=v/\v<9223372036854775807)(o:qV)(hf:o.bk.qg)(hw:o.w<18446744073709551616)(BH:qC v l o=0)(h1:o.kind=2)(hn0:sP l o.E=true)(A:Option aU)(c:Nat)(w:au)(hR:Ez w w.a.j A l.a l)(hn:l.a<=100000):
 aQ aj 71 #[.d #[.b .a v,.a A l.a c],.d o.aA] w (U8 w (v+1) (EI l (kH l o.E)) 0):=by
 have HS:=ah hs;have HR1:=ah (fun ob sO Hg=>(((hR.alloc (ay _) ob).alloc (by simp) sO).alloc (by simp;omega) Hg).lH (B':=(((w.alloc ob).alloc sO).alloc Hg).a.j) (by simp;omega));have HB0:=ah (fun ob sO Hg=>((((aH w.a.j w).alloc (ay _) ob).alloc (by simp) sO).alloc (by simp;omega) Hg:aM w.a.j w (((w.alloc ob).alloc sO).alloc Hg)));have OJ:=fun A c W (hR:Ez W W.a.j A l.a l)=>J9 l hs v o hf hw A c W hR (by omega)
 rw[BH]at OJ;have Nl:=ah OJ;clear hR hs OJ BH;obtain⟨hv1,hv2⟩:=hv;have hli:=yh hn0;have hin:((kH l o.E:Nat):Int)<(l.a:Nat):=by omega
 clear hn0;go_enter Fv,Ct;go_wp2_with fail;refine(xI l A c _ (HR1.i _ _ _) hn).g ?_;rintro e w1 ⟨A1,c1,rfl,ho1,hb1⟩;have b0:=(((dN.new w _ _).alloc _).alloc _).S hb1 (by simp;omega);have b1:=((dN.Rb w _ _ _).alloc _).S hb1 (by simp);have b2:=(dN.aij w _ _ _ _).S hb1 (by simp);have hz1:w.a.j+2<w1.a.j:=b2.lt;have O1:=ah (iM ho1 (show w.a.j+3<=_ by simp));have HB1:=ah ((HB0.i _ _ _).trans (hb1.g (by simp;omega)));clear ho1 hb1;obtain⟨x1,x2,x3,x4⟩:=b0.M;obtain⟨y1,y2,y3,y4⟩:=b1.M;have B0:=ah b0;have B1:=ah b1;have B2:=ah b2;clear b0 b1 b2;go_wp2_with fail;refine(Nl.i A1 c1 _ (oM (jD O1.i (by simp) _))).g ?_;rintro e w2 ⟨rfl,hb2⟩;have hsz:(w1.G ⟨w.a.j,1,none⟩ (bC A1 l.a c1)).a.j=w1.a.j:=by simp[iw]
 have b0:=(B0.i.eH 1 (bC A1 l.a c1)).S hb2 (by rw[hsz];omega);have b1:=(B1.i.dR ⟨w.a.j,1,none⟩ (bC A1 l.a c1) (by simp)).S hb2 (by rw[hsz];omega);have b2:=(B2.i.dR ⟨w.a.j,1,none⟩ (bC A1 l.a c1) (by simp)).S hb2 (by rw[hsz];omega);have O2:=ah (fQ (jD O1.i (by simp) _) hb2);have HB2:=ah ((HB1.i.G (ay _) _).trans (hb2.g (by rw[hsz];omega)));have hz2:w.a.j+2<w2.a.j:=b2.lt;have apv:w.a.j+1<w2.a.j:=b1.lt;have apw:w.a.j<w2.a.j:=b0.lt;clear hb2 hsz x1 x2 x3 x4 y1 y2 y3 y4 hz1 HB1 O1 HR1 Nl;obtain⟨x1,x2,x3,x4⟩:=b0.M;obtain⟨y1,y2,y3,y4⟩:=b1.M;have B0:=ah b0;have B1:=ah b1;have B2:=ah b2;clear b0 b1 b2;go_wp2_with fail;refine(LA l HS.i o.E (v+1) A1 c1 _ (oM (jD O2.i (by simp) _)) (by omega)).g ?_;rintro e w3 ⟨rfl,hb3⟩;have hsz:(w2.G ⟨w.a.j,0,none⟩ (aJ .a (v+1))).a.j=w2.a.j:=by simp[iw]
 have b0:=(B0.i.eH 0 (aJ .a (v+1))).S hb3 (by rw[hsz];omega);have b1:=(B1.i.dR ⟨w.a.j,0,none⟩ (aJ .a (v+1)) (by simp)).S hb3 (by rw[hsz];omega);have b2:=(B2.i.dR ⟨w.a.j,0,none⟩ (aJ .a (v+1)) (by simp)).S hb3 (by rw[hsz];omega);have ho3:=fQ (jD O2.i (show w.a.j<w.a.j+3 by omega) (aJ .a (v+1))) hb3;have HB3:=ah ((HB2.i.G (ay _) (aJ .a (v+1))).trans (hb3.g (by rw[hsz];omega)));obtain⟨g,hA1⟩:∃g,A1=some ⟨g,0,none⟩:=by
  rcases ho3.2 with⟨hv,h0⟩|⟨g,cap,cur,hv,_⟩
  ·omega
  ·injection hv with e1 _ _
   exact⟨g,e1⟩
 subst hA1;have hgb:w.a.j+3<=g:=(ho3.lt g rfl).1;have hgl:g<w3.a.j:=(ho3.lt g rfl).2;obtain⟨bb,oo,hbo,_,hcc⟩:=(oM ho3).cell hli;injection hbo with hbo
 injection hbo with e1 e2
 subst e1 e2;have O3:=ah ho3;have hz3:w.a.j<w3.a.j:=b0.lt;have atA:w.a.j+1<w3.a.j:=b1.lt;have hz32:w.a.j+2<w3.a.j:=b2.lt;clear hb3 hsz x1 x2 x3 x4 y1 y2 y3 y4 HB2 O2 ho3;obtain⟨x1,x2,x3,x4⟩:=b0.M;obtain⟨y1,y2,y3,y4⟩:=b1.M;obtain⟨u1,u2,u3,u4⟩:=b2.M;have B0:=ah b0;have B2:=ah b2;clear b0 b1 b2;clear hcc;go_wp2_with fail;rcases O3.i.2 with⟨hv,h0⟩|⟨g',cap,cur,hv,q2,q3,q4,q5,q6,q7⟩
 ·cases hv
 injection hv with e1 e2 e3
 injection e1 with e1
 injection e1 with e1
 subst e1 e3;refine(afp l (kH l o.E) hli (w.a.j+3) g c1 cur _ q2 q3 q4 q5 q6 q7 hn).g ?_;rintro e w4 ⟨A4,c4,rfl,ho4,hg4⟩;have b0:=B0.i.grown hg4 (fun e=>by injection e with e;omega);have b2:=B2.i.grown hg4 (fun e=>by injection e with e;omega);have hz4:w.a.j+2<w4.a.j:=b2.lt;have HB4:=ah (HB3.i.grown hg4 (by omega) (fun k hk=>by injection hk with hk;omega));obtain⟨l4,hl4⟩:=dw (EI l (kH l o.E));rw[<-hl4]at ho4 ⊢;have O4:=ah ho4;have HL4:=ah hl4;clear hg4 ho4 x1 x2 x3 x4 y1 y2 y3 y4 u1 u2 u3 u4 HB3 O3 hl4 q3 q6 q7;obtain⟨x1,x2,x3,x4⟩:=b0.M;obtain⟨y1,y2,y3,y4⟩:=b2.M;have B0:=ah b0;have B2:=ah b2;clear b0 b2;go_wp2_with fail;have b2:=(B2.i.dR ⟨w.a.j,1,none⟩ (.a A4 l4.a c4) (by simp)).eH 0 (.b .a (v+1)) |>.eH 1 (.a A4 l4.a c4)
 obtain⟨z1,z2,z3,z4⟩:=b2.M;have hl4:=HL4.i;subst hl4;have hZ:=z3 0 2 (ay _);refine aO (EJ rfl _ _ _ _ rfl (by rw[hZ];trivial)) rfl ⟨A4,c4,?_,iM (base:=w.a.j+3) (jD (jD (jD O4.i (show w.a.j<w.a.j+3 by omega) _) (show w.a.j+2<w.a.j+3 by omega) _) (show w.a.j+2<w.a.j+3 by omega) _) (by omega),((HB4.i.G (ay _) _).G (show w.a.j<=w.a.j+2 by omega) _).G (show w.a.j<=w.a.j+2 by omega) _⟩;rw[z4 0 2 (ay _)];rfl
theorem aiZ(l:List Bk)(hs:Ga l)(v:Int)(hv : -9223372036854775808<=v/\v<9223372036854775807)(o:qV)(hf:o.bk.qg)(hw:o.w<18446744073709551616)(BH:qC v l o=0)(h1:o.kind=3)(hn0:sP l o.E=true)(A:Option aU)(c:Nat)(w:au)(hR:Ez w w.a.j A l.a l)(hn:l.a<=100000):
 aQ aj 71 #[.d #[.b .a v,.a A l.a c],.d o.aA] w (U8 w (v+1) (l.set (kH l o.E) ((qd l o.E).OH (kG o.w))) 0):=by
 have HS:=ah hs;have HR1:=ah (fun ob sO Hg=>(((hR.alloc (ay _) ob).alloc (by simp) sO).alloc (by simp;omega) Hg).lH (B':=(((w.alloc ob).alloc sO).alloc Hg).a.j) (by simp;omega));have HB0:=ah (fun ob sO Hg=>((((aH w.a.j w).alloc (ay _) ob).alloc (by simp) sO).alloc (by simp;omega) Hg:aM w.a.j w (((w.alloc ob).alloc sO).alloc Hg)));have OJ:=fun A c W (hR:Ez W W.a.j A l.a l)=>J9 l hs v o hf hw A c W hR (by omega)
 rw[BH]at OJ;have Nl:=ah OJ;clear hR hs OJ BH;obtain⟨hv1,hv2⟩:=hv;have hli:=yh hn0;have hin:((kH l o.E:Nat):Int)<(l.a:Nat):=by omega
 have HG:=ah (EA hn0);clear hn0;go_enter Fv,Ct;go_wp2_with fail;refine(xI l A c _ (HR1.i _ _ _) hn).g ?_;rintro e w1 ⟨A1,c1,rfl,ho1,hb1⟩;have b0:=(((dN.new w _ _).alloc _).alloc _).S hb1 (by simp;omega);have b1:=((dN.Rb w _ _ _).alloc _).S hb1 (by simp);have b2:=(dN.aij w _ _ _ _).S hb1 (by simp);have hz1:w.a.j+2<w1.a.j:=b2.lt;have O1:=ah (iM ho1 (show w.a.j+3<=_ by simp));have HB1:=ah ((HB0.i _ _ _).trans (hb1.g (by simp;omega)));clear ho1 hb1;obtain⟨x1,x2,x3,x4⟩:=b0.M;obtain⟨y1,y2,y3,y4⟩:=b1.M;have B0:=ah b0;have B1:=ah b1;have B2:=ah b2;clear b0 b1 b2;go_wp2_with fail;refine(Nl.i A1 c1 _ (oM (jD O1.i (by simp) _))).g ?_;rintro e w2 ⟨rfl,hb2⟩;have hsz:(w1.G ⟨w.a.j,1,none⟩ (bC A1 l.a c1)).a.j=w1.a.j:=by simp[iw]
 have b0:=(B0.i.eH 1 (bC A1 l.a c1)).S hb2 (by rw[hsz];omega);have b1:=(B1.i.dR ⟨w.a.j,1,none⟩ (bC A1 l.a c1) (by simp)).S hb2 (by rw[hsz];omega);have b2:=(B2.i.dR ⟨w.a.j,1,none⟩ (bC A1 l.a c1) (by simp)).S hb2 (by rw[hsz];omega);have O2:=ah (fQ (jD O1.i (by simp) _) hb2);have HB2:=ah ((HB1.i.G (ay _) _).trans (hb2.g (by rw[hsz];omega)));have hz2:w.a.j+2<w2.a.j:=b2.lt;have apv:w.a.j+1<w2.a.j:=b1.lt;have apw:w.a.j<w2.a.j:=b0.lt;clear hb2 hsz x1 x2 x3 x4 y1 y2 y3 y4 hz1 HB1 O1 HR1 Nl;obtain⟨x1,x2,x3,x4⟩:=b0.M;obtain⟨y1,y2,y3,y4⟩:=b1.M;have B0:=ah b0;have B1:=ah b1;have B2:=ah b2;clear b0 b1 b2;go_wp2_with fail;refine(LA l HS.i o.E (v+1) A1 c1 _ (oM (jD O2.i (by simp) _)) (by omega)).g ?_;rintro e w3 ⟨rfl,hb3⟩;have hsz:(w2.G ⟨w.a.j,0,none⟩ (aJ .a (v+1))).a.j=w2.a.j:=by simp[iw]
 have b0:=(B0.i.eH 0 (aJ .a (v+1))).S hb3 (by rw[hsz];omega);have b1:=(B1.i.dR ⟨w.a.j,0,none⟩ (aJ .a (v+1)) (by simp)).S hb3 (by rw[hsz];omega);have b2:=(B2.i.dR ⟨w.a.j,0,none⟩ (aJ .a (v+1)) (by simp)).S hb3 (by rw[hsz];omega);have ho3:=fQ (jD O2.i (show w.a.j<w.a.j+3 by omega) (aJ .a (v+1))) hb3;have HB3:=ah ((HB2.i.G (ay _) (aJ .a (v+1))).trans (hb3.g (by rw[hsz];omega)));obtain⟨g,hA1⟩:∃g,A1=some ⟨g,0,none⟩:=by
  rcases ho3.2 with⟨hv,h0⟩|⟨g,cap,cur,hv,_⟩
  ·omega
  ·injection hv with e1 _ _
   exact⟨g,e1⟩
 subst hA1;have hgb:w.a.j+3<=g:=(ho3.lt g rfl).1;have hgl:g<w3.a.j:=(ho3.lt g rfl).2;obtain⟨bb,oo,hbo,_,hcc⟩:=(oM ho3).cell hli;injection hbo with hbo
 injection hbo with e1 e2
 subst e1 e2;have O3:=ah ho3;have hz3:w.a.j<w3.a.j:=b0.lt;have atA:w.a.j+1<w3.a.j:=b1.lt;have hz32:w.a.j+2<w3.a.j:=b2.lt;clear hb3 hsz x1 x2 x3 x4 y1 y2 y3 y4 HB2 O2 ho3;have hcl:w3.b ⟨g,kH l o.E*27+25,none⟩=some (.float .f64 (qd l o.E).w):=by
  have:=hcc 25 (by omega);rw[bl]at this;rw[this,<-HG.i];exact Bk.aeS _
 have hfr:w3.frozen? ⟨g,kH l o.E*27+25,none⟩=false:=by
  rcases O3.i.2 with⟨hv,h0⟩|⟨g',cap,cur,hv,q2,q3,q4,q5,q6,q7⟩
  ·cases hv
  injection hv with e1 e2 e3
  injection e1 with e1
  injection e1 with e1
  subst e1;simp[su,q3]
 clear hcc;obtain⟨x1,x2,x3,x4⟩:=b0.M;obtain⟨y1,y2,y3,y4⟩:=b1.M;obtain⟨u1,u2,u3,u4⟩:=b2.M;have B0:=ah b0;have B2:=ah b2;clear b0 b1 b2;go_wp2_with fail;refine(zh _ _).g ?_;rintro e w' ⟨rfl,rfl⟩;go_wp2_with fail;have O4:=ah (SA O3.i (kH l o.E*27+25) (by omega) (.float .f64 (kG o.w)));have hxs:(dO l).set (kH l o.E*27+25) (.float .f64 (kG o.w))=dO (l.set (kH l o.E) ((qd l o.E).OH (kG o.w))):=
  Jd l (kH l o.E) hli _ 25 (by omega) _ (by rw[<-HG.i];exact(Bk.axL (qd l o.E) _).symm)
 rw[hxs]at O4;have b2:=((B2.i.dR ⟨g,kH l o.E*27+25,none⟩ (.float .f64 (kG o.w)) (by show g≠_;omega)).eH 0 (.b .a (v+1))).eH 1 (.a (some ⟨g,0,none⟩) l.a c1);obtain⟨z1,z2,z3,z4⟩:=b2.M;have hZ:=z3 0 2 (ay _);have hlen:(l.set (kH l o.E) ((qd l o.E).OH (kG o.w))).a=l.a:=aW;refine aO (EJ rfl _ _ _ _ rfl (by rw[hZ];trivial)) rfl ⟨some ⟨g,0,none⟩,c1,?_,?_,((HB3.i.G (show w.a.j<=g by omega) _).G (show w.a.j<=w.a.j+2 by omega) _).G (show w.a.j<=w.a.j+2 by omega) _⟩
 ·rw[z4 0 2 (ay _),hlen]
  rfl
 ·rw[hlen]
  exact iM (base:=w.a.j+3) (jD (jD O4.i (show w.a.j+2<w.a.j+3 by omega) _) (show w.a.j+2<w.a.j+3 by omega) _) (by omega)
theorem alT(l:List Bk)(hs:Ga l)(v:Int)(hv : -9223372036854775808<=v/\v<9223372036854775807)(o:qV)(hf:o.bk.qg)(hw:o.w<18446744073709551616)(BH:qC v l o=0)(h1:o.kind=4)(hn0:sP l o.E=true)(A:Option aU)(c:Nat)(w:au)(hR:Ez w w.a.j A l.a l)(hn:l.a<=100000):
 aQ aj 71 #[.d #[.b .a v,.a A l.a c],.d o.aA] w (U8 w (v+1) (l.set (kH l o.E) ((qd l o.E).toD true)) 0):=by
 have HS:=ah hs;have HR1:=ah (fun ob sO Hg=>(((hR.alloc (ay _) ob).alloc (by simp) sO).alloc (by simp;omega) Hg).lH (B':=(((w.alloc ob).alloc sO).alloc Hg).a.j) (by simp;omega));have HB0:=ah (fun ob sO Hg=>((((aH w.a.j w).alloc (ay _) ob).alloc (by simp) sO).alloc (by simp;omega) Hg:aM w.a.j w (((w.alloc ob).alloc sO).alloc Hg)));have OJ:=fun A c W (hR:Ez W W.a.j A l.a l)=>J9 l hs v o hf hw A c W hR (by omega)
 rw[BH]at OJ;have Nl:=ah OJ;clear hR hs OJ BH;obtain⟨hv1,hv2⟩:=hv;have hli:=yh hn0;have hin:((kH l o.E:Nat):Int)<(l.a:Nat):=by omega
 have HG:=ah (EA hn0);clear hn0;go_enter Fv,Ct;go_wp2_with fail;refine(xI l A c _ (HR1.i _ _ _) hn).g ?_;rintro e w1 ⟨A1,c1,rfl,ho1,hb1⟩;have b0:=(((dN.new w _ _).alloc _).alloc _).S hb1 (by simp;omega);have b1:=((dN.Rb w _ _ _).alloc _).S hb1 (by simp);have b2:=(dN.aij w _ _ _ _).S hb1 (by simp);have hz1:w.a.j+2<w1.a.j:=b2.lt;have O1:=ah (iM ho1 (show w.a.j+3<=_ by simp));have HB1:=ah ((HB0.i _ _ _).trans (hb1.g (by simp;omega)));clear ho1 hb1;obtain⟨x1,x2,x3,x4⟩:=b0.M;obtain⟨y1,y2,y3,y4⟩:=b1.M;have B0:=ah b0;have B1:=ah b1;have B2:=ah b2;clear b0 b1 b2;go_wp2_with fail;refine(Nl.i A1 c1 _ (oM (jD O1.i (by simp) _))).g ?_;rintro e w2 ⟨rfl,hb2⟩;have hsz:(w1.G ⟨w.a.j,1,none⟩ (bC A1 l.a c1)).a.j=w1.a.j:=by simp[iw]
 have b0:=(B0.i.eH 1 (bC A1 l.a c1)).S hb2 (by rw[hsz];omega);have b1:=(B1.i.dR ⟨w.a.j,1,none⟩ (bC A1 l.a c1) (by simp)).S hb2 (by rw[hsz];omega);have b2:=(B2.i.dR ⟨w.a.j,1,none⟩ (bC A1 l.a c1) (by simp)).S hb2 (by rw[hsz];omega);have O2:=ah (fQ (jD O1.i (by simp) _) hb2);have HB2:=ah ((HB1.i.G (ay _) _).trans (hb2.g (by rw[hsz];omega)));have hz2:w.a.j+2<w2.a.j:=b2.lt;have apv:w.a.j+1<w2.a.j:=b1.lt;have apw:w.a.j<w2.a.j:=b0.lt;clear hb2 hsz x1 x2 x3 x4 y1 y2 y3 y4 hz1 HB1 O1 HR1 Nl;obtain⟨x1,x2,x3,x4⟩:=b0.M;obtain⟨y1,y2,y3,y4⟩:=b1.M;have B0:=ah b0;have B1:=ah b1;have B2:=ah b2;clear b0 b1 b2;go_wp2_with fail;refine(LA l HS.i o.E (v+1) A1 c1 _ (oM (jD O2.i (by simp) _)) (by omega)).g ?_;rintro e w3 ⟨rfl,hb3⟩;have hsz:(w2.G ⟨w.a.j,0,none⟩ (aJ .a (v+1))).a.j=w2.a.j:=by simp[iw]
 have b0:=(B0.i.eH 0 (aJ .a (v+1))).S hb3 (by rw[hsz];omega);have b1:=(B1.i.dR ⟨w.a.j,0,none⟩ (aJ .a (v+1)) (by simp)).S hb3 (by rw[hsz];omega);have b2:=(B2.i.dR ⟨w.a.j,0,none⟩ (aJ .a (v+1)) (by simp)).S hb3 (by rw[hsz];omega);have ho3:=fQ (jD O2.i (show w.a.j<w.a.j+3 by omega) (aJ .a (v+1))) hb3;have HB3:=ah ((HB2.i.G (ay _) (aJ .a (v+1))).trans (hb3.g (by rw[hsz];omega)));obtain⟨g,hA1⟩:∃g,A1=some ⟨g,0,none⟩:=by
  rcases ho3.2 with⟨hv,h0⟩|⟨g,cap,cur,hv,_⟩
  ·omega
  ·injection hv with e1 _ _
   exact⟨g,e1⟩
 subst hA1;have hgb:w.a.j+3<=g:=(ho3.lt g rfl).1;have hgl:g<w3.a.j:=(ho3.lt g rfl).2;obtain⟨bb,oo,hbo,_,hcc⟩:=(oM ho3).cell hli;injection hbo with hbo
 injection hbo with e1 e2
 subst e1 e2;have O3:=ah ho3;have hz3:w.a.j<w3.a.j:=b0.lt;have atA:w.a.j+1<w3.a.j:=b1.lt;have hz32:w.a.j+2<w3.a.j:=b2.lt;clear hb3 hsz x1 x2 x3 x4 y1 y2 y3 y4 HB2 O2 ho3;have hcl:w3.b ⟨g,kH l o.E*27+26,none⟩=some (.bool (qd l o.E).drain):=by
  have:=hcc 26 (by omega);rw[bl]at this;rw[this,<-HG.i];exact Bk.aeT _
 have hfr:w3.frozen? ⟨g,kH l o.E*27+26,none⟩=false:=by
  rcases O3.i.2 with⟨hv,h0⟩|⟨g',cap,cur,hv,q2,q3,q4,q5,q6,q7⟩
  ·cases hv
  injection hv with e1 e2 e3
  injection e1 with e1
  injection e1 with e1
  subst e1;simp[su,q3]
 clear hcc;obtain⟨x1,x2,x3,x4⟩:=b0.M;obtain⟨y1,y2,y3,y4⟩:=b1.M;obtain⟨u1,u2,u3,u4⟩:=b2.M;have B0:=ah b0;have B2:=ah b2;clear b0 b1 b2;go_wp2_with fail;have O4:=ah (SA O3.i (kH l o.E*27+26) (by omega) (.bool true));have hxs:(dO l).set (kH l o.E*27+26) (.bool true)=dO (l.set (kH l o.E) ((qd l o.E).toD true)):=
  Jd l (kH l o.E) hli _ 26 (by omega) _ (by rw[<-HG.i];exact(Bk.arN (qd l o.E) _).symm)
 rw[hxs]at O4;have b2:=((B2.i.dR ⟨g,kH l o.E*27+26,none⟩ (.bool true) (by show g≠_;omega)).eH 0 (.b .a (v+1))).eH 1 (.a (some ⟨g,0,none⟩) l.a c1);obtain⟨z1,z2,z3,z4⟩:=b2.M;have hZ:=z3 0 2 (ay _);have hlen:(l.set (kH l o.E) ((qd l o.E).toD true)).a=l.a:=aW;refine aO (EJ rfl _ _ _ _ rfl (by rw[hZ];trivial)) rfl ⟨some ⟨g,0,none⟩,c1,?_,?_,((HB3.i.G (show w.a.j<=g by omega) _).G (show w.a.j<=w.a.j+2 by omega) _).G (show w.a.j<=w.a.j+2 by omega) _⟩
 ·rw[z4 0 2 (ay _),hlen]
  rfl
 ·rw[hlen]
  exact iM (base:=w.a.j+3) (jD (jD O4.i (show w.a.j+2<w.a.j+3 by omega) _) (show w.a.j+2<w.a.j+3 by omega) _) (by omega)
theorem apy(l:List Bk)(hs:Ga l)(v:Int)(hv : -9223372036854775808<=v/\v<9223372036854775807)(o:qV)(hf:o.bk.qg)(hw:o.w<18446744073709551616)(BH:qC v l o=0)(h1:o.kind=5)(hn0:sP l o.E=true)(A:Option aU)(c:Nat)(w:au)(hR:Ez w w.a.j A l.a l)(hn:l.a<=100000):
 aQ aj 71 #[.d #[.b .a v,.a A l.a c],.d o.aA] w (U8 w (v+1) (l.set (kH l o.E) ((qd l o.E).toD false)) 0):=by
 have HS:=ah hs;have HR1:=ah (fun ob sO Hg=>(((hR.alloc (ay _) ob).alloc (by simp) sO).alloc (by simp;omega) Hg).lH (B':=(((w.alloc ob).alloc sO).alloc Hg).a.j) (by simp;omega));have HB0:=ah (fun ob sO Hg=>((((aH w.a.j w).alloc (ay _) ob).alloc (by simp) sO).alloc (by simp;omega) Hg:aM w.a.j w (((w.alloc ob).alloc sO).alloc Hg)));have OJ:=fun A c W (hR:Ez W W.a.j A l.a l)=>J9 l hs v o hf hw A c W hR (by omega)
 rw[BH]at OJ;have Nl:=ah OJ;clear hR hs OJ BH;obtain⟨hv1,hv2⟩:=hv;have hli:=yh hn0;have hin:((kH l o.E:Nat):Int)<(l.a:Nat):=by omega
 have HG:=ah (EA hn0);clear hn0;go_enter Fv,Ct;go_wp2_with fail;refine(xI l A c _ (HR1.i _ _ _) hn).g ?_;rintro e w1 ⟨A1,c1,rfl,ho1,hb1⟩;have b0:=(((dN.new w _ _).alloc _).alloc _).S hb1 (by simp;omega);have b1:=((dN.Rb w _ _ _).alloc _).S hb1 (by simp);have b2:=(dN.aij w _ _ _ _).S hb1 (by simp);have hz1:w.a.j+2<w1.a.j:=b2.lt;have O1:=ah (iM ho1 (show w.a.j+3<=_ by simp));have HB1:=ah ((HB0.i _ _ _).trans (hb1.g (by simp;omega)));clear ho1 hb1;obtain⟨x1,x2,x3,x4⟩:=b0.M;obtain⟨y1,y2,y3,y4⟩:=b1.M;have B0:=ah b0;have B1:=ah b1;have B2:=ah b2;clear b0 b1 b2;go_wp2_with fail;refine(Nl.i A1 c1 _ (oM (jD O1.i (by simp) _))).g ?_;rintro e w2 ⟨rfl,hb2⟩;have hsz:(w1.G ⟨w.a.j,1,none⟩ (bC A1 l.a c1)).a.j=w1.a.j:=by simp[iw]
 have b0:=(B0.i.eH 1 (bC A1 l.a c1)).S hb2 (by rw[hsz];omega);have b1:=(B1.i.dR ⟨w.a.j,1,none⟩ (bC A1 l.a c1) (by simp)).S hb2 (by rw[hsz];omega);have b2:=(B2.i.dR ⟨w.a.j,1,none⟩ (bC A1 l.a c1) (by simp)).S hb2 (by rw[hsz];omega);have O2:=ah (fQ (jD O1.i (by simp) _) hb2);have HB2:=ah ((HB1.i.G (ay _) _).trans (hb2.g (by rw[hsz];omega)));have hz2:w.a.j+2<w2.a.j:=b2.lt;have apv:w.a.j+1<w2.a.j:=b1.lt;have apw:w.a.j<w2.a.j:=b0.lt;clear hb2 hsz x1 x2 x3 x4 y1 y2 y3 y4 hz1 HB1 O1 HR1 Nl;obtain⟨x1,x2,x3,x4⟩:=b0.M;obtain⟨y1,y2,y3,y4⟩:=b1.M;have B0:=ah b0;have B1:=ah b1;have B2:=ah b2;clear b0 b1 b2;go_wp2_with fail;refine(LA l HS.i o.E (v+1) A1 c1 _ (oM (jD O2.i (by simp) _)) (by omega)).g ?_;rintro e w3 ⟨rfl,hb3⟩;have hsz:(w2.G ⟨w.a.j,0,none⟩ (aJ .a (v+1))).a.j=w2.a.j:=by simp[iw]
 have b0:=(B0.i.eH 0 (aJ .a (v+1))).S hb3 (by rw[hsz];omega);have b1:=(B1.i.dR ⟨w.a.j,0,none⟩ (aJ .a (v+1)) (by simp)).S hb3 (by rw[hsz];omega);have b2:=(B2.i.dR ⟨w.a.j,0,none⟩ (aJ .a (v+1)) (by simp)).S hb3 (by rw[hsz];omega);have ho3:=fQ (jD O2.i (show w.a.j<w.a.j+3 by omega) (aJ .a (v+1))) hb3;have HB3:=ah ((HB2.i.G (ay _) (aJ .a (v+1))).trans (hb3.g (by rw[hsz];omega)));obtain⟨g,hA1⟩:∃g,A1=some ⟨g,0,none⟩:=by
  rcases ho3.2 with⟨hv,h0⟩|⟨g,cap,cur,hv,_⟩
  ·omega
  ·injection hv with e1 _ _
   exact⟨g,e1⟩
 subst hA1;have hgb:w.a.j+3<=g:=(ho3.lt g rfl).1;have hgl:g<w3.a.j:=(ho3.lt g rfl).2;obtain⟨bb,oo,hbo,_,hcc⟩:=(oM ho3).cell hli;injection hbo with hbo
 injection hbo with e1 e2
 subst e1 e2;have O3:=ah ho3;have hz3:w.a.j<w3.a.j:=b0.lt;have atA:w.a.j+1<w3.a.j:=b1.lt;have hz32:w.a.j+2<w3.a.j:=b2.lt;clear hb3 hsz x1 x2 x3 x4 y1 y2 y3 y4 HB2 O2 ho3;have hcl:w3.b ⟨g,kH l o.E*27+26,none⟩=some (.bool (qd l o.E).drain):=by
  have:=hcc 26 (by omega);rw[bl]at this;rw[this,<-HG.i];exact Bk.aeT _
 have hfr:w3.frozen? ⟨g,kH l o.E*27+26,none⟩=false:=by
  rcases O3.i.2 with⟨hv,h0⟩|⟨g',cap,cur,hv,q2,q3,q4,q5,q6,q7⟩
  ·cases hv
  injection hv with e1 e2 e3
  injection e1 with e1
  injection e1 with e1
  subst e1;simp[su,q3]
 clear hcc;obtain⟨x1,x2,x3,x4⟩:=b0.M;obtain⟨y1,y2,y3,y4⟩:=b1.M;obtain⟨u1,u2,u3,u4⟩:=b2.M;have B0:=ah b0;have B2:=ah b2;clear b0 b1 b2;go_wp2_with fail;have O4:=ah (SA O3.i (kH l o.E*27+26) (by omega) (.bool false));have hxs:(dO l).set (kH l o.E*27+26) (.bool false)=dO (l.set (kH l o.E) ((qd l o.E).toD false)):=
  Jd l (kH l o.E) hli _ 26 (by omega) _ (by rw[<-HG.i];exact(Bk.arN (qd l o.E) _).symm)
 rw[hxs]at O4;have b2:=((B2.i.dR ⟨g,kH l o.E*27+26,none⟩ (.bool false) (by show g≠_;omega)).eH 0 (.b .a (v+1))).eH 1 (.a (some ⟨g,0,none⟩) l.a c1);obtain⟨z1,z2,z3,z4⟩:=b2.M;have hZ:=z3 0 2 (ay _);have hlen:(l.set (kH l o.E) ((qd l o.E).toD false)).a=l.a:=aW;refine aO (EJ rfl _ _ _ _ rfl (by rw[hZ];trivial)) rfl ⟨some ⟨g,0,none⟩,c1,?_,?_,((HB3.i.G (show w.a.j<=g by omega) _).G (show w.a.j<=w.a.j+2 by omega) _).G (show w.a.j<=w.a.j+2 by omega) _⟩
 ·rw[z4 0 2 (ay _),hlen]
  rfl
 ·rw[hlen]
  exact iM (base:=w.a.j+3) (jD (jD O4.i (show w.a.j+2<w.a.j+3 by omega) _) (show w.a.j+2<w.a.j+3 by omega) _) (by omega)
theorem Gn(l:List Bk)(i:Nat)(hi:i<l.a):nm l i=(l[i]'hi).E:=by
 unfold nm;rw[av,aD hi];rfl
theorem Yp(a:List UInt8):mK a a=0:=J4.2 rfl
theorem wZ{v:Int}{l:List Bk}:xX v l=true↔0<=v/\v<=1099511627776/\l.a<=1024/\(∀x∈l,x.Cx=true/\Xj x.w=true)/\Ga l:=by
 unfold xX Ky;simp only[bB,decide_eq_true_eq,List.all_eq_true,List.mem_range,Bool.or_eq_true];constructor
 ·rintro⟨⟨⟨h1,h2⟩,h3⟩,h4⟩
  refine⟨h1,h2,h3,fun x hx=>?_,?_⟩
  ·obtain⟨i,hi,rfl⟩:=ng hx
   have:=(h4 i hi).1;rw[av,aD hi]at this;exact this
  ·unfold Ga
   have key:∀d i (hi:i+d+1<l.a),mK (nm l i) (nm l (i+d+1))<0:=by
    intro d
    induction d with
    | zero=>
      intro i hi;have:=(h4 (i+1) hi).2;rcases this with h|h
      ·omega
      ·simpa using h
    | succ d ih=>
      intro i hi;have h5:=ih i (by omega);have h6:=(h4 (i+d+1+1) hi).2;rcases h6 with h|h
      ·omega
      ·have h7:mK (nm l (i+d+1)) (nm l (i+(d+1)+1))<0:=by simpa[nG]using h
       exact FZ h5 h7
   rw[gu];intro i j hi hj hij;have:=key (j-i-1) i (by omega);rw[show i+(j-i-1)+1=j by omega,Gn l i hi,Gn l j hj]at this;exact this
 ·rintro⟨h1,h2,h3,h4,h5⟩
  refine⟨⟨⟨h1,h2⟩,h3⟩,fun i hi=>⟨?_,?_⟩⟩
  ·have:=h4 (l[i]'hi) (eY hi)
   rw[av,aD hi];exact this
  ·rcases eD i with h|h
   ·exact .a h
   ·exact .b (h5.lt (by omega) hi)
theorem alU{l:List Bk}(hs:Ga l){x:Bk}(hx:x∈l):qd l x.E=x:=by
 obtain⟨i,hi,rfl⟩:=ng hx;obtain⟨h1,h2⟩:=ao6 hs hi (Gn l i hi);rw[EA h2,h1,av,aD hi];rfl
theorem Tf{l:List Bk}{s:List UInt8}(h:sP l s=true):qd l s∈l/\(qd l s).E=s:=by
 have hl:=yh h;rw[EA h,av,aD hl];refine⟨eY hl,?_⟩;unfold sP at h;simp at h;show(l[kH l s]).E=s;rw[<-Gn l _ hl];exact J4.1 h.2
theorem afs{l:List Bk}{s:List UInt8}(h:sP l s=true):nm l (kH l s)=s:=by
 unfold sP at h;simp at h;exact J4.1 h.2
theorem Yq(l:List Bk)(s:List UInt8):(∀i,i<kH l s->mK (nm l i) s<0)/\(kH l s<l.a->¬mK (nm l (kH l s)) s<0):=by
 induction l with
 | nil=>exact⟨fun i hi=>absurd hi (by simp[kH]),fun h=>absurd h (by simp)⟩
 | cons x l ih=>
   by_cases hx:mK x.E s<0
   ·have e:kH (x::l) s=kH l s+1:=by unfold kH;rw[List.takeWhile_cons];simp[hx]
    rw[e];refine⟨fun i hi=>?_,fun h=>?_⟩
    ·rcases i with _|i
     ·exact hx
     ·exact ih.1 i (by omega)
    ·exact ih.2 (by simpa using h)
   ·have e:kH (x::l) s=0:=by unfold kH;rw[List.takeWhile_cons];simp[hx]
    rw[e];exact⟨fun i hi=>by omega,fun _=>hx⟩
theorem Va{l:List Bk}(s:List UInt8){x:Bk}(hx:x∈l.d (kH l s)):mK x.E s<0:=by
 obtain⟨i,hi,rfl⟩:=ng hx;rw[bL]at hi;rw[List.getElem_take,<-Gn l i (by omega)];exact(Yq l s).1 i (by omega)
theorem alV{l:List Bk}(s:List UInt8)(h:kH l s<l.a):¬mK (nm l (kH l s)) s<0:=(Yq l s).2 h
theorem Yr{l:List Bk}(hs:Ga l)(s:List UInt8)(hno:sP l s=false){x:Bk}(hx:x∈l.f (kH l s)):mK s x.E<0:=by
 obtain⟨i,hi,rfl⟩:=ng hx;rw[jG]at hi;rw[List.getElem_drop];have h0:=alV s (show kH l s<l.a by omega);have h1:mK (nm l (kH l s)) s≠0:=by
  intro h;unfold sP at hno;simp[show kH l s<l.a by omega,h]at hno
 have h2:mK s (nm l (kH l s))<0:=by
  rw[aiz];have:=ae1 (nm l (kH l s)) s;omega
 rw[<-Gn l _ (by omega)];rcases eD i with h|h
 ·subst h;simpa using h2
 ·exact FZ h2 (hs.lt (by omega) (by omega))
theorem apz{l:List Bk}{k:Nat}{x y:Bk}:y∈zO l k x↔y=x\/y∈l:=by
 unfold zO;rw[qy,bE];have:y∈l↔y∈l.d k\/y∈l.f k:=by rw[<-qy,iK]
 rw[this];constructor
 ·rintro(h|h|h)
  ·exact .b (.a h)
  ·exact .a h
  ·exact .b (.b h)
 ·rintro(h|h|h)
  ·exact .b (.a h)
  ·exact .a h
  ·exact .b (.b h)
theorem apA{l:List Bk}(hs:Ga l){x:Bk}(hno:sP l x.E=false):Ga (zO l (kH l x.E) x):=by
 unfold Ga zO;rw[List.pairwise_append];refine⟨hs.sublist (List.take_sublist _ _),?_,?_⟩
 ·rw[gU]
  exact⟨fun y hy=>Yr hs x.E hno hy,hs.sublist (List.drop_sublist _ _)⟩
 ·intro a ha b hb
  rcases bE.1 hb with rfl|hb
  ·exact Va _ ha
  ·exact FZ (Va _ ha) (Yr hs x.E hno hb)
theorem apB{l:List Bk}(hs:Ga l)(i:Nat):Ga (EI l i):=by
 unfold EI;refine hs.sublist ?_
 conv=>rhs;rw[<-iK i l]
 exact List.Sublist.append_left (by rw[<-List.drop_drop];exact List.drop_sublist _ _) _
theorem ahr{l:List Bk}(hs:Ga l){i:Nat}(hi:i<l.a){y:Bk}:y∈EI l i↔y∈l/\y.E≠nm l i:=by
 have e:l=l.d i++l[i]::l.f (i+1):=by
  conv=>lhs;rw[<-iK i l,kS hi]
 unfold EI;constructor
 ·intro h
  have hm:y∈l:=by
   rw[e];rcases qy.1 h with h|h
   ·exact Ay _ h
   ·exact List.mem_append_right _ (List.mem_cons_of_mem _ h)
  refine⟨hm,fun hn=>?_⟩;rw[Gn l i hi]at hn;have hs2:=hs;unfold Ga at hs2;rw[e,List.pairwise_append,gU]at hs2;rcases qy.1 h with h|h
  ·have:=hs2.2.2 y h l[i] (List.mem_cons_self ..)
   rw[hn,Yp]at this;omega
  ·have:=hs2.2.1.1 y h
   rw[hn,Yp]at this;omega
 ·rintro⟨hm,hn⟩
  rw[e]at hm;rcases qy.1 hm with h|h
  ·exact Ay _ h
  ·rcases bE.1 h with rfl|h
   ·exact absurd (Gn l i hi).symm hn
   ·exact List.mem_append_right _ h
theorem ahs{l:List Bk}(hs:Ga l){i:Nat}(hi:i<l.a){z:Bk}(hz:z.E=nm l i):Ga (l.set i z):=by
 unfold Ga;rw[gu];intro a b ha hb hab;rw[aW]at ha hb;have hn:∀j (hj:j<(l.set i z).a),((l.set i z)[j]).E=nm l j:=by
  intro j hj;rw[aW]at hj;rw[List.getElem_set];split
  ·rename_i h;subst h;exact hz
  ·exact(Gn l j hj).symm
 rw[hn,hn];exact hs.lt hab hb
theorem aht{l:List Bk}(hs:Ga l){i:Nat}(hi:i<l.a){z y:Bk}(hz:z.E=nm l i):y∈l.set i z↔y=z\/(y∈l/\y.E≠nm l i):=by
 have e:l=l.d i++l[i]::l.f (i+1):=by
  conv=>lhs;rw[<-iK i l,kS hi]
 have e2:l.set i z=l.d i++z::l.f (i+1):=List.set_eq_take_append_cons_drop ▸ (by rw[if_pos hi]);have hd:=@ahr l hs i hi y;rw[e2,qy,bE];unfold EI at hd;rw[qy]at hd;rw[<-hd];constructor
 ·rintro(h|h|h)
  ·exact .b (.a h)
  ·exact .a h
  ·exact .b (.b h)
 ·rintro(h|h|h)
  ·exact .b (.a h)
  ·exact .a h
  ·exact .b (.b h)
def doV(v:Int)(l:List Bk)(o:qV):Int:=if qC v l o=0 then v+1 else v
def doL(v:Int)(l:List Bk)(o:qV):List Bk:=if qC v l o=0 then Pv l o else l
theorem atB(l:List Bk)(hs:Ga l)(v:Int)(hv : -9223372036854775808<=v/\v<9223372036854775807)(o:qV)(hf:o.bk.qg)(hw:o.w<18446744073709551616)(A:Option aU)(c:Nat)(w:au)(hR:Ez w w.a.j A l.a l)(hn:l.a<=100000):
 aQ aj 71 #[.d #[.b .a v,.a A l.a c],.d o.aA] w (U8 w (doV v l o) (doL v l o) (qC v l o)):=by
 by_cases h:qC v l o=0
 ·have hV:doV v l o=v+1:=by simp[doV,h]
  have hL:doL v l o=Pv l o:=by simp[doL,h]
  rw[hV,hL,h];obtain⟨k1,k2,k3,k4,k5,k6⟩:=aaH h;unfold Pv;by_cases h1:o.kind=1
  ·rw[if_pos h1]
   exact aty l hs v hv o hf hw h h1 A c w hR hn
  ·rw[if_neg h1]
   by_cases h2:o.kind=2
   ·rw[if_pos h2]
    exact atz l hs v hv o hf hw h h2 (k6 h1) A c w hR hn
   ·rw[if_neg h2]
    by_cases h3:o.kind=3
    ·rw[if_pos h3]
     exact aiZ l hs v hv o hf hw h h3 (k6 h1) A c w hR hn
    ·rw[if_neg h3]
     by_cases h4:o.kind=4
     ·rw[show(o.kind==4)=true by simpa using h4]
      exact alT l hs v hv o hf hw h h4 (k6 h1) A c w hR hn
     ·rw[show(o.kind==4)=false by simpa using h4]
      exact apy l hs v hv o hf hw h (by omega) (k6 h1) A c w hR hn
 ·have hV:doV v l o=v:=by simp[doV,h]
  have hL:doL v l o=l:=by simp[doL,h]
  rw[hV,hL];exact atx l hs v o hf hw h A c w hR hn
structure pE where
 E:List UInt8
 q:Int
deriving DecidableEq
def pE.aA(x:pE):Array aC:=#[.g (bP x.E),.b .a x.q]
def AJ(l:List pE):List aC:=l.flatMap (·.aA.a)
theorem Gp(l:List pE)(x:pE):AJ (l++[x])=AJ l++x.aA.a:=by simp[AJ]
theorem aaI:∃i:TypeInfo,aj.l 151=some i/\i.zero=some (.d #[.g ⟨#[]⟩,.b .a 0])/\i.j=2/\i.bytes<=200:=by
 cases h:aj.l 151 with
 | none=>exact absurd h (by have:(aj.l 151).isSome=true:=by kernel_rfl
                            intro e;rw[e]at this;cases this)
 | some i=>
   have h1:(aj.l 151).map (·.j)=some 2:=by kernel_rfl
   have h2:(aj.l 151).map (fun i=>decide (i.bytes<=200))=some true:=by kernel_rfl
   have h3:(aj.l 151).map (·.zero)=some (some (.d #[.g ⟨#[]⟩,.b .a 0])):=by kernel_rfl
   rw[h]at h1 h2 h3;simp at h1 h2 h3;exact⟨i,rfl,h3,h1,h2⟩
def alW(n:Nat)(ps:Array (Nat×aC)):Sem aC:=bK 75 n ps
@[go_sem ↓]theorem axX(n:Nat)(ps:Array (Nat×aC)):bK 75 n ps=alW n ps:=rfl
@[go_sem]theorem ai0(w:au)(s:List UInt8)(q:Int):(alW 1 #[(0,.d #[.g (bP s),.b .a q])]).J aj w=.ok (.a (some ⟨w.a.j,0,none⟩) 1 1) (w.alloc (.D #[.g (bP s),.b .a q] 151)):=by
 obtain⟨i0,hi0,hz0,hz1,hzb⟩:=aaI;exact rR w _ _ i0 _ 2 vo hi0 hz0 hz1 rfl (by omega) (by omega) _ rfl
def Gq(ls:List (List UInt8))(x:Bk):pE:=⟨x.E,if x.drain||xH ls x.E then 0 else wQ x.w⟩
def kU(ls:List (List UInt8))(l:List Bk):List pE:=l.map (Gq ls)
theorem Xu(ls:List (List UInt8))(l:List Bk)(i:Nat)(hi:i<l.a):kU ls (l.d (i+1))=kU ls (l.d i)++[Gq ls (l.c i jd)]:=by
 rw[List.take_succ_eq_append_getElem hi,kU,kU,List.map_append,av,aD hi];rfl
def Dm(key:Vector UInt8 16)(s:List UInt8)(n:Nat):Nat:=xZ key (s++[0])%n
def Au(key:Vector UInt8 16)(s:List UInt8)(n:Nat):Nat:=xZ key (s++[1])%(n-1)+1
def chF(key:Vector UInt8 16)(n:Nat)(l:List (List UInt8))(i k:Nat):Nat:=rF (Dm key (l.c i []) n) (Au key (l.c i []) n) n k
theorem Vb(key:Vector UInt8 16)(s:List UInt8){n:Nat}(hn:2<=n):1<=Au key s n/\Au key s n<n:=by
 unfold Au;have:=fH (xZ key (s++[1])) (show 0<n-1 by omega);omega
theorem alX(key:Vector UInt8 16)(s:List UInt8){n:Nat}(hn:2<=n):Dm key s n<n:=fH _ (by omega)
theorem alY{key:Vector UInt8 16}{n:Nat}{l:List (List UInt8)}(h:lK n=true):acO n l.a (chF key n l):=by
 intro i hi;have h2:=wV h;obtain⟨s1,s2⟩:=Vb key (l.c i []) h2;refine⟨fun t=>Pf (by omega),fun j hj=>UD h s1 s2 hj⟩
def vV(g n:Nat)(q:List Nat)(ch:Nat->Nat->Nat):Nat->Mg
 | 0=>⟨q.map fun _=>0,List.replicate n (-1),n⟩
 | j+1=>if(vV g n q ch j).left=0 then vV g n q ch j else sI g n q ch (vV g n q ch j) (j%q.a)
theorem QC{g n:Nat}{q:List Nat}{ch:Nat->Nat->Nat}:∀j,(∀t,t<j->(jO g n q ch t).left≠0)->vV g n q ch j=jO g n q ch j
 | 0,_=>rfl
 | j+1,h=>by
   have ih:=QC (g:=g) (n:=n) (q:=q) (ch:=ch) j (fun t ht=>h t (by omega));unfold vV jO;rw[ih,if_neg (h j (by omega))]
theorem QD{g n:Nat}{q:List Nat}{ch:Nat->Nat->Nat}{j:Nat}(h:(vV g n q ch j).left=0):∀d,vV g n q ch (j+d)=vV g n q ch j
 | 0=>rfl
 | d+1=>by
   have e:vV g n q ch (j+d+1)=if(vV g n q ch (j+d)).left=0 then vV g n q ch (j+d)else sI g n q ch (vV g n q ch (j+d)) ((j+d)%q.a):=rfl
   rw[<-nG,e,QD h d,if_pos h]
def lX(q:List Nat):Nat:=q.foldl max 0
def EK(n:Nat)(q:List Nat)(ch:Nat->Nat->Nat):List Int:=(vV (lX q) n q ch (n*q.a)).sl
theorem Yt:∀(q:List Nat)(b:Nat),q.foldl max b=b\/∃i,i<q.a/\q.c i 0=q.foldl max b
 | [],b=>.a rfl
 | x::q,b=>by
   rw[jW];rcases Yt q (max b x)with h|⟨i,hi,h⟩
   ·rw[h]
    rcases Nat.le_total x b with hx|hx
    ·left;omega
    ·right;exact⟨0,by simp,by simp;omega⟩
   ·exact .b ⟨i+1,by simpa using hi,by simpa using h⟩
theorem Dn{q:List Nat}(h:q≠[])(h0:∀x∈q,0<x):∃i,i<q.a/\q.c i 0=lX q:=by
 rcases Yt q 0 with e|e
 ·cases q with
  | nil=>exact absurd rfl h
  | cons x t=>
    exfalso;have h1:∀(t:List Nat)(b:Nat),b<=t.foldl max b:=by
     intro t
     induction t with
     | nil=>intro b;exact ay _
     | cons y t ih=>intro b;rw[jW];exact aP (Nat.le_max_left _ _) (ih _)
    have h2:=h1 t (max 0 x);have h3:=h0 x (by simp);rw[jW]at e;omega
 ·exact e
theorem Yu{n:Nat}{q:List Nat}{ch:Nat->Nat->Nat}(h:q≠[])(h0:∀x∈q,0<x):∃K,K<=n*q.a/\(jO (lX q) n q ch K).left=0/\(∀j,j<K->(jO (lX q) n q ch j).left≠0)/\EK n q ch=(jO (lX q) n q ch K).sl:=by
 obtain⟨i,hi,hg⟩:=Dn h h0;obtain⟨K,h1,h2⟩:=ao7 (n:=n) (ch:=ch) hi hg;have hm:∀m,(jO (lX q) n q ch (m*q.a)).left<=n-m:=by
  intro m
  induction m with
  | zero=>simp[jO]
  | succ m ih=>have:=aaq (n:=n) (ch:=ch) hi hg m;omega
 have hK:K<=n*q.a:=by
  rcases aZ (n*q.a) K with h3|h3
  ·have:=h2 _ h3
   have:=hm n;omega
  ·exact h3
 refine⟨K,hK,h1,h2,?_⟩;unfold EK;obtain⟨d,hd⟩:∃d,n*q.a=K+d:=⟨n*q.a-K,by omega⟩
 have e:=QC (g:=lX q) (n:=n) (q:=q) (ch:=ch) K h2;rw[hd,QD (by rw[e];exact h1),e]
structure Tl where
 h:List (List UInt8)
 rJ:List Int
deriving DecidableEq
def uw(key:Vector UInt8 16)(n:Nat)(l:List pE):Tl:=
 let r:=l.filter fun x=>decide (x.q≠0)
 if r=[]then⟨[],[]⟩else⟨r.map (·.E),EK n (r.map fun x=>x.q.e) (chF key n (r.map (·.E)))⟩
def Hr(t:Tl)(h:Nat):Option (List UInt8):=if t.rJ.a=0 then none else some (t.h.c (t.rJ.c (h%t.rJ.a) 0).e [])
theorem ac8{n:Nat}{q:List Nat}{ch:Nat->Nat->Nat}(h:q≠[])(h0:∀x∈q,0<x)(hf:acO n q.a ch):(EK n q ch).a=n/\∀j,j<n->∃i,i<q.a/\(EK n q ch).c j 0=(i:Int):=by
 obtain⟨K,_,h1,h2,h3⟩:=Yu (n:=n) (ch:=ch) h h0;have hq:0<q.a:=List.length_pos_iff.2 h;have ok:=alr (g:=lX q) hq hf K h2;rw[h3];refine⟨ok.sll,fun j hj=>?_⟩;rcases ok.rng j hj with e|e
 ·exfalso
  have hfr:=ok.fr;rw[h1]at hfr;have:rU (jO (lX q) n q ch K).sl j=true:=by unfold rU;rw[e];rfl
  have hpos:=Pg _ j 0 this (by rw[ok.sll];exact hj) (by decide);omega
 ·exact e
theorem Yv{key:Vector UInt8 16}{n:Nat}{l:List pE}(hp:lK n=true)(h0:∀x∈l,0<=x.q):(uw key n l).rJ=[]/\(uw key n l).h=[]\/(uw key n l).rJ.a=n/\∀j,j<n->∃i,i<(uw key n l).h.a/\(uw key n l).rJ.c j 0=(i:Int):=by
 unfold uw;simp only;split
 ·exact .a ⟨rfl,rfl⟩
 ·rename_i hr
  right;have:=ac8 (n:=n) (q:=(l.filter fun x=>decide (x.q≠0)).map fun x=>x.q.e) (ch:=chF key n ((l.filter fun x=>decide (x.q≠0)).map (·.E))) (by simpa using hr) (by
   intro x hx;obtain⟨y,hy,rfl⟩:=List.mem_map.1 hx;obtain⟨h1,h2⟩:=List.mem_filter.1 hy;have:=h0 y h1;simp at h2;omega) (by rw[bV];have:=alY (key:=key) (n:=n) (l:=(l.filter fun x=>decide (x.q≠0)).map (·.E)) hp;rwa [bV]at this)
  simp only[bV]at this ⊢;exact this
section
open Go.ChangeShapes Go.WideShapes Go.ChangeAt Go.RowKit Go.Deep
section
variable {H:Type} {enc:bF×aC->H} {w:au} {base:Nat} {spare:Nat->Bool} {held:Bool} {fuel:Nat} {t:bF} {cs:List aC} {x:DataW H×List MemPlace}
theorem Nn(h:mq enc aj w base spare held fuel 27 cs=some x):∃a:fE,cs=a.aA.a:=by
 obtain⟨xs,n,_,_,hl,hxl,hf⟩:=uK Tryz.underlying27 h;rw[show aj.cellsOf 27=17 by kernel_rfl]at hl;obtain⟨y0,h0⟩:=Kv hxl hf 0 _ rfl;obtain⟨y1,h1⟩:=Kv hxl hf 1 _ rfl;obtain⟨b,hb,_⟩:=Iu (by kernel_rfl) h0;obtain⟨v,hv⟩:=MJ (k:=16) (e:=5) (by kernel_rfl) (by kernel_rfl) (by kernel_rfl) (by kernel_rfl) h1;have c0:(cs.f 0).d 1=[.bool b]:=hb;have c1:(cs.f 1).d 16=v.a.map bv:=hv;refine⟨⟨b,v⟩,?_⟩;have e:=tu cs 0 1;rw[c0,tu cs (0+1) 16,c1,iY (i:=0+1+16) (by omega)]at e;simpa[fE.aA]using e
def Bk.OU(b:Bk):Prop:=b.qg/\-9223372036854775808<=b.nu/\b.nu<=9223372036854775807
theorem apC(h:mq enc aj w base spare held fuel 62 cs=some x):∃b:Bk,cs=b.aA.a/\b.OU:=by
 obtain⟨xs,n,_,_,hl,hxl,hf⟩:=uK Tryz.underlying62 h;rw[show aj.cellsOf 62=27 by kernel_rfl]at hl;obtain⟨y0,h0⟩:=Kv hxl hf 0 _ rfl;obtain⟨y1,h1⟩:=Kv hxl hf 1 _ rfl;obtain⟨y2,h2⟩:=Kv hxl hf 2 _ rfl;obtain⟨y3,h3⟩:=Kv hxl hf 3 _ rfl;obtain⟨y4,h4⟩:=Kv hxl hf 4 _ rfl;obtain⟨y5,h5⟩:=Kv hxl hf 5 _ rfl;obtain⟨s,hs,hsl⟩:=Ug (by kernel_rfl) h0;obtain⟨a,ha⟩:=Nn h1;obtain⟨p,hp,hp1,hp2⟩:=sH (by kernel_rfl) h2;obtain⟨m,hm⟩:=MJ (k:=6) (e:=5) (by kernel_rfl) (by kernel_rfl) (by kernel_rfl) (by kernel_rfl) h3;obtain⟨f,hf,hf2⟩:=ab8 (by kernel_rfl) h4;obtain⟨d,hd,_⟩:=Iu (by kernel_rfl) h5;have c0:(cs.f 0).d 1=[.g (bP s)]:=hs;have c1:(cs.f 1).d 17=a.aA.a:=ha;have c2:(cs.f 18).d 1=[.b .a p]:=hp;have c3:(cs.f 19).d 6=m.a.map bv:=hm;have c4:(cs.f 25).d 1=[fv f]:=hf;have c5:(cs.f 26).d 1=[.bool d]:=hd;refine⟨⟨s,a,p,m,f,d⟩,?_,⟨hsl,hf2⟩,hp1,hp2⟩;have e:=tu cs 0 1;rw[c0,tu cs (0+1) 17,c1,tu cs (0+1+17) 1,c2,tu cs (0+1+17+1) 6,c3,tu cs (0+1+17+1+6) 1,c4,tu cs (0+1+17+1+6+1) 1,c5,iY (i:=0+1+17+1+6+1+1) (by omega)]at e;simpa[Bk.aA,fE.aA]using e
def qV.OU(o:qV):Prop:=o.bk.OU/\o.w<18446744073709551616/\o.E.a<=9223372036854775807
theorem alZ(h:mq enc aj w base spare held fuel 64 cs=some x):∃o:qV,cs=o.aA.a/\o.OU:=by
 obtain⟨xs,n,_,_,hl,hxl,hf⟩:=uK vk h;rw[show aj.cellsOf 64=30 by kernel_rfl]at hl;obtain⟨y0,h0⟩:=Kv hxl hf 0 _ rfl;obtain⟨y1,h1⟩:=Kv hxl hf 1 _ rfl;obtain⟨y2,h2⟩:=Kv hxl hf 2 _ rfl;obtain⟨y3,h3⟩:=Kv hxl hf 3 _ rfl;obtain⟨k,hk,_,_⟩:=sH (by kernel_rfl) h0;obtain⟨b,hb,hbg⟩:=apC h1;obtain⟨s,hs,hsl⟩:=Ug (by kernel_rfl) h2;obtain⟨f,hf,hf2⟩:=ab8 (by kernel_rfl) h3;have c0:(cs.f 0).d 1=[.b .a k]:=hk;have c1:(cs.f 1).d 27=b.aA.a:=hb;have c2:(cs.f 28).d 1=[.g (bP s)]:=hs;have c3:(cs.f 29).d 1=[fv f]:=hf;refine⟨⟨k,b,s,f⟩,?_,hbg,hf2,hsl⟩;have e:=tu cs 0 1;rw[c0,tu cs (0+1) 27,c1,tu cs (0+1+27) 1,c2,tu cs (0+1+27+1) 1,c3,iY (i:=0+1+27+1+1) (by omega)]at e;simpa[qV.aA]using e
end
end
theorem al0{v:Int}{l:List Bk}(hs:Ga l)(o:qV):Ga (doL v l o):=by
 unfold doL;split
 ·rename_i h
  obtain⟨_,_,_,h1,_,h6⟩:=aaH h;unfold Pv;split
  ·rename_i hk
   exact apA (x:=o.bk.OH (kG o.bk.w)) hs (h1 hk).2.1
  ·rename_i hk
   have hh:=h6 hk;split
   ·exact apB hs _
   ·split
    ·exact ahs hs (yh hh) (by rw[afs hh];exact(Tf hh).2)
    ·exact ahs hs (yh hh) (by rw[afs hh];exact(Tf hh).2)
 ·exact hs
theorem al1{v:Int}{l:List Bk}(o:qV):(doL v l o).a=if qC v l o=0/\o.kind=1 then l.a+1 else if qC v l o=0/\o.kind=2 then l.a-1 else l.a:=by
 unfold doL;by_cases h:qC v l o=0
 ·obtain⟨_,_,_,h1,_,h6⟩:=aaH h
  simp only[h,true_and,if_true];unfold Pv;by_cases h1:o.kind=1
  ·simp only[h1,if_true];exact yg _ _ _
  ·simp only[h1,if_false]
   by_cases h2:o.kind=2
   ·simp only[h2,if_true];exact Nk _ _ (yh (h6 h1))
   ·simp only[h2,if_false]
    split<;>exact aW
 ·simp[h]
theorem ac9(x:Nat):kG x=0\/kG x=x:=by unfold kG;split<;>simp
theorem ac'{x:Nat}(h:Xh x=true):Xh (kG x)=true:=by
 rcases ac9 x with h1|h1<;>rw[h1]
 ·decide +kernel
 ·exact h
theorem ada{x:Nat}(h:x<18446744073709551616):kG x<18446744073709551616:=by
 rcases ac9 x with h1|h1<;>rw[h1]
 ·decide
 ·exact h
theorem adb(x:Nat):kG (kG x)=kG x:=by
 unfold kG;by_cases h:(ord x 0==some .eq)=true
 ·simp only[h,if_true]
  split<;>rfl
 ·simp only[h]
  simp[h]
theorem Yw(x:Nat):Xj (kG x)=true:=by unfold Xj;rw[adb];exact aiB _
theorem ade{x:Bk}{u:Nat}(h:x.Cx=true)(hu:Xh u=true):(x.OH u).Cx=true:=by
 unfold Bk.Cx at h ⊢;simp only[bB]at h ⊢;exact⟨⟨⟨⟨h.1.1.1.1,h.1.1.1.2⟩,h.1.1.2⟩,h.1.2⟩,hu⟩
theorem atC{x:Bk}(h:x.Cx=true):Xh x.w=true:=by
 unfold Bk.Cx at h;simp only[bB]at h;exact h.2
theorem aft{v:Int}{l:List Bk}{o:qV}(hr:xX v l=true)(hf:∀x∈l,x.qg)(hof:o.bk.qg)(how:o.w<18446744073709551616)(h:qC v l o=0):
 xX (v+1) (doL v l o)=true/\∀x∈doL v l o,x.qg:=by
 obtain⟨h1,h2,h3,h4,h5⟩:=wZ.1 hr;obtain⟨w1,w2,w3,w4,w5,w6⟩:=aaH h;have hl:=al1 (v:=v) (l:=l) o;have hs:=al0 (v:=v) h5 o;have key:∀x∈doL v l o,(x.Cx=true/\Xj x.w=true)/\x.qg:=by
  unfold doL;rw[if_pos h];unfold Pv;split
  ·rename_i hk
   intro x hx;rcases apz.1 hx with rfl|hx
   ·have hb:=(w4 hk).1
    exact⟨⟨ade hb (ac' (atC hb)),Yw _⟩,hof.1,ada hof.2⟩
   ·exact⟨h4 x hx,hf x hx⟩
  ·rename_i hk
   have hh:=w6 hk;have hin:=Tf hh;have hnm:=afs hh;split
   ·intro x hx
    have:=((ahr h5 (yh hh)).1 hx).1;exact⟨h4 x this,hf x this⟩
   ·split
    ·rename_i hk3
     intro x hx;rcases(aht h5 (yh hh) (z:=(qd l o.E).OH (kG o.w)) (by rw[hnm];exact hin.2)).1 hx with rfl|⟨hx,_⟩
     ·exact⟨⟨ade (h4 _ hin.1).1 (ac' (w5 hk3)),Yw _⟩,(hf _ hin.1).1,ada how⟩
     ·exact⟨h4 x hx,hf x hx⟩
    ·intro x hx
     rcases(aht h5 (yh hh) (z:=(qd l o.E).toD (o.kind==4)) (by rw[hnm];exact hin.2)).1 hx with rfl|⟨hx,_⟩
     ·have e1:((qd l o.E).toD (o.kind==4)).Cx=(qd l o.E).Cx:=rfl
      have e2:((qd l o.E).toD (o.kind==4)).w=(qd l o.E).w:=rfl;rw[e1,e2];exact⟨h4 _ hin.1,(hf (qd l o.E) hin.1:(qd l o.E).qg)⟩
     ·exact⟨h4 x hx,hf x hx⟩
 refine⟨wZ.2 ⟨by omega,by omega,?_,fun x hx=>(key x hx).1,hs⟩,fun x hx=>(key x hx).2⟩;rw[hl];split
 ·rename_i hk
  have:=(w4 hk.2).2.2;omega
 ·split<;>omega
def aaJ(w:au)(m:List pE)(e:lu)(w':au):Prop:=
 ∃A c,e=.a (.a A m.a c)/\w'.c w.a.j 151 2 (.a A m.a c) m.a (AJ m)/\aM w.a.j w w'
theorem afu{w wr:au}{v:aC}{m:List pE}{n:Nat}(hn:m.a=n)(ho:wr.c (w.a.j+1) 151 2 v n (AJ m))(hb:aM w.a.j w wr):aaJ w m (.a v) wr:=by
 subst hn;obtain⟨A,c,rfl,_,_⟩:=jw ho;exact⟨A,c,rfl,iM ho (by omega),hb⟩
theorem afv(l:List Bk)(hf:∀x∈l,x.qg)(v:Int)(A:Option aU)(c:Nat)(ls:List (List UInt8))(D:Option aU)(d:Nat)(w:au)(hR:Ez w w.a.j A l.a l)(hD:aax w w.a.j D ls.a ls)(hn:l.a<=100000)(hd:ls.a<4611686018427387904):
 aQ aj 28 #[.d #[.b .a v,.a A l.a c],.a D ls.a d] w (aaJ w (kU ls l)):=by
 have HR:=ah hR;have HF:=ah hf;have HD:=ah hD;have HB0:=ah (fun ob=>((aH w.a.j w).alloc (ay _) ob:aM w.a.j w (w.alloc ob)));have DV:=ah (fun i=>Xu ls l i);have HSL:=ah (show l.d l.a=l from List.take_length);obtain⟨i0,hi0,hz0,hz1,hzb⟩:=aaI;have HI0:=ah hi0;have HZ0:=ah hz0;have HZ1:=ah hz1;have HZ2:=ah (show(cK #[jl ⟨#[]⟩,aJ .a 0]).D.j=2 from rfl);clear hR hf hD hi0 hz0 hz1;obtain⟨n,hnl⟩:=dw l.a;rw[<-hnl]at HR hn HSL ⊢;have HN:=ah hnl;clear hnl;go_enter Tryz.func28,Tryz.ntmps28;go_wp2;go_loopw [5,13] (fun s5 s13 wr=>∃(i:Nat)(O:Option aU)(cap:Nat),i<=n/\s5=.a O i cap/\s13=.b .a i/\wr.c (w.a.j+1) 151 2 (.a O i cap) i (AJ (kU ls (l.d i)))/\aM (w.a.j+1) (w.alloc (.D #[.b .a v,.a A n c] 32)) wr) (fun _ s13 _=>n-(intOf s13).e)
 case atStart=>exact⟨0,none,0,by omega,rfl,rfl,fB _ _ _ _,by simpa using aH _ _⟩
 case round=>
  obtain⟨i,O,cap,hin,rfl,rfl,ho,hb⟩:=hrel;have HB:=ah hb;have hbw:=(HB0.i (.D #[.b .a v,.a A n c] 32)).trans (hb.g (by simp));have HBW:=ah hbw;have hsz:=hb.j;have OW:=ah (fun ob sO=>(ho.alloc ob).alloc sO);have O0:=ah ho;clear hb hbw ho;by_cases hlt:i<n
  ·have hi:(i:Int)<n:=by omega
   obtain⟨b,o,rfl,hbb,hh,hc⟩:=(HR.i.S HBW.i).fG hlt;have hbs:b<wr.a.j:=by simp at hsz;omega
   have hmem:l.c i jd∈l:=by
    have:=HN.i;rw[av,aD (by omega)];simp
   obtain⟨hx1,hx2⟩:=HF.i _ hmem;have hsn:=DV.i i (by have:=HN.i;omega);obtain⟨x,hx⟩:=dw (l.c i jd);rw[<-hx]at hc hx1 hx2 hsn;have atD:=ah hsn;clear hx hmem hsn hbb;have HDB:=ah (fun ob=>(((HD.i.S HBW.i).alloc (show w.a.j<=wr.a.j by simp at hsz;omega) ob).lH (B':=(wr.alloc ob).a.j) (by simp at hsz⊢;omega):aax (wr.alloc ob) (wr.alloc ob).a.j D ls.a ls));have HQ:∀W,aQ aj 86 #[.float .f64 x.w] W fun e w'=>e=.a (.K #[.b .a (wQ x.w),.bool (Xh x.w)])/\W=w':=fun W=>aeX x.w hx2 W
   have HQU:=ah HQ;have ME:=ah (show i+1<=maxLen by unfold maxLen;omega);have Kw:=ah (show(i+1)*i0.bytes<=140737488355328 from aP (gP (show i+1<=100001 by omega) hzb) (by omega));have HBS:=ah (fun ob sO=>show w.a.j+1<=((wr.alloc ob).alloc sO).a.j by simp at hsz⊢;omega);have Rj:=ah (fun(ob:Obj) (cc:Array aC) (h2:cc.j=2)=>(⟨by simp[h2],fun _=>⟨_,rfl,mP _,aaE _ _ cc _ _ (by have:=GX (wr.alloc ob) (.D cc 151);rwa [show(wr.alloc ob).a.j=wr.a.j+1 by simp]at this)⟩⟩:Rd ((wr.alloc ob).alloc (.D cc 151)) (wr.a.j+1+1) 2 (some ⟨wr.a.j+1,0,none⟩) 1 cc.a));have HBN:=ah (fun ob sO=>((HB.i.alloc (show w.a.j+1<=wr.a.j by simpa using hsz) ob).alloc (by simp at hsz⊢;omega) sO:aM (w.a.j+1) _ ((wr.alloc ob).alloc sO)));clear HQ hx1 hx2;have hso:Gq ls x=⟨x.E,if x.drain||xH ls x.E then 0 else wQ x.w⟩:=rfl;have HSO:=ah hso;clear hso;cases kd:x.drain
   ·have HKD:=ah kd
    have HCO:∀ob,aQ aj 87 #[.a D ls.a d,.g (bP x.E)] (wr.alloc ob) fun e w'=>e=.a (.bool (xH ls x.E))/\wr.alloc ob=w':=fun ob=>Nb ls x.E D d _ (HDB.i ob) hd
    cases kc:xH ls x.E
    all_goals
     rw[kc]at HCO;have axY:=ah HCO;have HKC:=ah kc;clear HCO kc
    ·go_wp2_with (first
      | (go_at_call 86;refine(HQU.i _).g ?_;rintro e w' ⟨rfl,rfl⟩)
      | (go_at_call 87;refine(axY.i _).g ?_;rintro e w' ⟨rfl,rfl⟩)
      | (at_builtin;refine iT _ rfl (.a 31) (.a 36) _ rfl (w.a.j+1) 151 i0 (.d #[.g ⟨#[]⟩,.b .a 0]) 2 i0.bytes vo HI0.i HZ0.i HZ1.i rfl HZ2.i (kX _) (.a O i cap) i (AJ (kU ls (l.d i))) rfl (OW.i _ _) (wr.a.j+1+1) (some ⟨wr.a.j+1,0,none⟩) 1 1 [.g (bP x.E),.b .a (wQ x.w)] rfl (Rj.i _ #[.g (bP x.E),.b .a (wQ x.w)] rfl) (by simp[dx]) ME.i Kw.i (HBS.i _ _) ?_
         intro v1 w1 hown1 hg1 uN;have O1:=ah hown1;have G1:=ah hg1;clear hown1 hg1 uN))
     obtain⟨O',cap',rfl,_,_⟩:=jw O1.i;go_roundw
     case rel=>exact⟨i+1,O',cap',by omega,rfl,by go_num,by rw[atD.i,Gp,HSO.i,HKD.i,HKC.i];exact O1.i,(HBN.i _ _).grown G1.i (by simp at hsz⊢;omega) (fun k hk=>(O0.i.lt k hk).1)⟩
     case measure=>simp[intOf]<;>omega
    ·go_wp2_with (first
      | (go_at_call 86;refine(HQU.i _).g ?_;rintro e w' ⟨rfl,rfl⟩)
      | (go_at_call 87;refine(axY.i _).g ?_;rintro e w' ⟨rfl,rfl⟩)
      | (at_builtin;refine iT _ rfl (.a 31) (.a 36) _ rfl (w.a.j+1) 151 i0 (.d #[.g ⟨#[]⟩,.b .a 0]) 2 i0.bytes vo HI0.i HZ0.i HZ1.i rfl HZ2.i (kX _) (.a O i cap) i (AJ (kU ls (l.d i))) rfl (OW.i _ _) (wr.a.j+1+1) (some ⟨wr.a.j+1,0,none⟩) 1 1 [.g (bP x.E),.b .a 0] rfl (Rj.i _ #[.g (bP x.E),.b .a 0] rfl) (by simp[dx]) ME.i Kw.i (HBS.i _ _) ?_
         intro v1 w1 hown1 hg1 uN;have O1:=ah hown1;have G1:=ah hg1;clear hown1 hg1 uN))
     obtain⟨O',cap',rfl,_,_⟩:=jw O1.i;go_roundw
     case rel=>exact⟨i+1,O',cap',by omega,rfl,by go_num,by rw[atD.i,Gp,HSO.i,HKD.i,HKC.i];exact O1.i,(HBN.i _ _).grown G1.i (by simp at hsz⊢;omega) (fun k hk=>(O0.i.lt k hk).1)⟩
     case measure=>simp[intOf]<;>omega
   ·have HKD:=ah kd
    go_wp2_with (first
     | (go_at_call 86;refine(HQU.i _).g ?_;rintro e w' ⟨rfl,rfl⟩)
     | (at_builtin;refine iT _ rfl (.a 31) (.a 36) _ rfl (w.a.j+1) 151 i0 (.d #[.g ⟨#[]⟩,.b .a 0]) 2 i0.bytes vo HI0.i HZ0.i HZ1.i rfl HZ2.i (kX _) (.a O i cap) i (AJ (kU ls (l.d i))) rfl (OW.i _ _) (wr.a.j+1+1) (some ⟨wr.a.j+1,0,none⟩) 1 1 [.g (bP x.E),.b .a 0] rfl (Rj.i _ #[.g (bP x.E),.b .a 0] rfl) (by simp[dx]) ME.i Kw.i (HBS.i _ _) ?_
        intro v1 w1 hown1 hg1 uN;have O1:=ah hown1;have G1:=ah hg1;clear hown1 hg1 uN))
    obtain⟨O',cap',rfl,_,_⟩:=jw O1.i;go_roundw
    case rel=>exact⟨i+1,O',cap',by omega,rfl,by go_num,by rw[atD.i,Gp,HSO.i,HKD.i];exact O1.i,(HBN.i _ _).grown G1.i (by simp at hsz⊢;omega) (fun k hk=>(O0.i.lt k hk).1)⟩
    case measure=>simp[intOf]<;>omega
  ·obtain rfl:i=n:=by omega
   have hd:decide ((i:Int)<i)=false:=by simp
   go_wp2;go_ret;have hO:=O0.i;rw[HSL.i]at hO;exact afu (n:=i) (by rw[kU,bV];exact HN.i.symm) hO HBW.i
end Go.Proofs.YtkjojjopamaoiaaGreat
