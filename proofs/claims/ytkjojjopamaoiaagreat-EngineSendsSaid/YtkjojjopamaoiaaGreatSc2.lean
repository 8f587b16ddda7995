/- Parts. -/
import Derived.Test.YtkjojjopamaoiaaGreatSc1
set_option linter.unusedSimpArgs false
set_option linter.unusedVariables false
set_option linter.unusedSectionVars false
set_option maxRecDepth 100000
set_option maxHeartbeats 8000000
open Array renaming ext_getElem?->dZ,getElem?_eq_none->aW,size_extract->jA,getElem?_toList->dH,length_toList->aY,all_eq_true_iff_forall_mem->gK,getElem?_eq_some_iff->bY,size->Array.j,toList->Array.a,getD->Array.b
open Bool renaming and_eq_true->bf
open Go renaming Value->aB,World->ak,Calls->aR,Addr->aV,TypeId->bL,cell_of_row->uy,Ending->lJ,setRow_heap->su,setRow_other->pJ,length_splice->wY,bodyPost_ret->aO,heap_alloc_new->Ia
open Go.Addr renaming add_mid->iL
open Go.Calls renaming mono->Go.Calls.g
open Go.DataW renaming trod->mM,trod_struct->vL,trod_bool->IY,agg->Go.DataW.d
open Go.Ending renaming returned->Go.Ending.a
open Go.Instr renaming loadAt->dw,buildSlice->bJ,slice->Go.Instr.a
open Go.IntKind renaming i64->Go.IntKind.a
open Go.Lib renaming hid->ab
open Go.Obj renaming cells->Go.Obj.D
open Go.Op renaming slice->Go.Op.a
open Go.Operand renaming tmp->Go.Operand.a
open Go.Proofs.Tryz renaming prog->ah,underlying64->wG,underlying30->jy,func140->DJ,ntmps140->BH,func71->Gf,ntmps71->DK,underlying75->wH
open Go.ResultVar renaming tmp->Go.ResultVar.a
open Go.RowKit renaming Below->aM
open Go.RowKit.Below renaming refl->aG,size->Go.RowKit.Below.j,mono->Go.RowKit.Below.g,setCell->Go.RowKit.Below.I
open Go.RowKit.Hid renaming out->Go.RowKit.Hid.i
open Go.Sem renaming run->Go.Sem.O
open Go.Tables renaming info?->Go.Tables.l
open Go.TypeDesc renaming slice->Go.TypeDesc.a,int->Go.TypeDesc.b,string->Go.TypeDesc.g
open Go.TypeInfo renaming size->Go.TypeInfo.j
open Go.Value renaming int->aI,string->iK,agg->cO,cells->dz,slice->bB,oneCell'->dA,cells->Go.Value.D,slice->Go.Value.a,int->Go.Value.b,agg->Go.Value.d,tuple->Go.Value.K,oneCell'->Go.Value.h,string->Go.Value.g
open Go.World renaming frozen?->tF,setRow->sV,ownsRow_nil->fQ,setCell->iA,heap->Go.World.a,cell?->Go.World.b,setCell->Go.World.I,ownsRow->Go.World.c
open Int renaming toNat->Int.e
open List renaming getElem?_toArray->eO,getElem?_append->ko,take_append_drop->iQ,take_append_of_le_length->fV,length_take->bE,take_of_length_le->aK,length_drop->fZ,getElem?_drop->iY,getElem?_take->jc,size_toArray->dN,drop_of_length_le->jg,eq_nil_of_length_eq_zero->bF,take_take->qw,length_set->aS,getD_eq_getElem?_getD->au,getElem?_eq_none->aT,getElem?_eq_getElem->aC,getElem_of_mem->kM,pairwise_iff_getElem->gF,getElem_mem->eZ,mem_append->qP,mem_cons->bD,pairwise_cons->gX,drop_eq_getElem_cons->lG,mem_append_left->BZ,foldl_cons->j4,length_map->bW,length->List.a,take->List.E,getD->List.b,toArray->List.c,drop->List.G,below->List.Y
open Nat renaming lt_or_ge->aZ,add_comm->vB,le_refl->av,zero_add->bC,min->qO,sub_mul->Co,mul_le_mul_right->dB,le_of_lt->nE,min_eq_left->lU,le_trans->aP,mul_le_mul->iq,succ_pos->nG,lt_succ_self->nD,eq_zero_or_pos->eB,mod_lt->fP,add_assoc->kY,below->Nat.Y
open Option renaming getD->Option.b
open Or renaming inr->Or.a,inl->Or.b
open Vector renaming toList->Vector.a
namespace Go.Proofs.YtkjojjopamaoiaaGreat
open Go.RowKit
@[go_sem]theorem Bk.eU(x:Bk):eU x.ay=27:=Bk.J x
@[go_sem]theorem fD.eU(x:fD):eU x.ay=17:=fD.J x
@[go_sem]theorem Bk.kG(x:Bk):x.ay.extract 0 27=x.ay:=by
 have:=Bk.J x;rw[<-this];simp
@[go_sem]theorem Bk.GK(x:Bk):x.ay.extract 1 18=x.h.ay:=by
 apply dZ;intro j;rcases aZ j 17 with hj|hj
 ·rw[show(18:Nat)=1+17 from rfl,oL x.ay 1 17 j hj (by rw[Bk.J];omega),vB,Bk.acs x j hj]
 ·rw[aW (by rw[jA,Bk.J];omega),aW (by rw[fD.J];exact hj)]
structure rJ where
 kind:Int
 h:Bk
 F:List UInt8
 w:Nat
def rJ.ay(o:rJ):Array aB:=(aI .a o.kind::(o.h.ay.a++[iK (bK o.F),fv o.w])).c
theorem rJ.J(o:rJ):o.ay.j=30:=by simp[rJ.ay,Bk.J]
@[go_sem]theorem rJ.eU(o:rJ):eU o.ay=30:=rJ.J o
@[go_sem]theorem rJ.qW(o:rJ):o.ay[0]? = some (.b .a o.kind):=by simp[rJ.ay]
theorem rJ.amf(o:rJ)(j:Nat)(hj:j<27):o.ay[j+1]? = o.h.ay[j]?:=by
 simp[rJ.ay,eO,ko,Bk.J,hj]
@[go_sem]theorem rJ.Ij(o:rJ):o.ay[1]? = some (.g (bK o.h.F)):=by rw[rJ.amf o 0 (by omega),Bk.qW]
@[go_sem]theorem rJ.aCU(o:rJ):o.ay[28]? = some (.g (bK o.F)):=by simp[rJ.ay,eO,ko,Bk.J]
@[go_sem]theorem rJ.aCV(o:rJ):o.ay[29]? = some (.float .f64 o.w):=by simp[rJ.ay,eO,ko,Bk.J,fv]
@[go_sem]theorem rJ.atP(o:rJ):o.ay.extract 1 28=o.h.ay:=by
 apply dZ;intro j;rcases aZ j 27 with hj|hj
 ·rw[show(28:Nat)=1+27 from rfl,oL o.ay 1 27 j hj (by rw[rJ.J];omega),vB,rJ.amf o j hj]
 ·rw[aW (by rw[jA,rJ.J];omega),aW (by rw[Bk.J];exact hj)]
@[go_sem]theorem rJ.kG(o:rJ):o.ay.extract 0 30=o.ay:=by
 have:=rJ.J o;rw[<-this];simp
def Nw(v:aB):Sem aB:=dw 64 v
@[go_sem ↓]theorem atQ(v:aB):dw 64 v=Nw v:=rfl
@[go_sem]theorem amg(W:ak)(b o:Nat)(h:yE W b o 30):(Nw (.pointer (some ⟨b,o,none⟩))).O ah W=.ok (.d (eH W b o 30)) W:=
 kH W b o 30 _ _ wG rfl (by kernel_rfl) h
@[go_sem]theorem apQ(W:ak)(c:Array aB)(x:Bk)(b:Nat)(hb:b=W.a.j)(hc:eU c=27):
 (Km (.pointer (some ⟨b,0,none⟩)) (.d x.ay)).O ah (W.alloc (.D c 62))=.ok () (W.alloc (.D x.ay 62)):=by
 subst hb;exact Nf W c x hc
def ash(n:Nat)(ps:Array (Nat×aB)):Sem aB:=bJ 30 n ps
@[go_sem ↓]theorem ax8(n:Nat)(ps:Array (Nat×aB)):bJ 30 n ps=ash n ps:=rfl
@[go_sem]theorem awJ(w:ak)(x:Bk):(ash 1 #[(0,.d x.ay)]).O ah w=.ok (.a (some ⟨w.a.j,0,none⟩) 1 1) (w.alloc (.D x.ay 62)):=by
 obtain⟨i0,hi0,hz0,hz1,hzb⟩:=Py;exact sM w _ _ i0 (.d jq.ay) 27 jy hi0 hz0 hz1 (Bk.J jq) (by omega) (by omega) x.ay (Bk.J x)
def rJ.who(o:rJ):List UInt8:=if o.kind=1 then o.h.F else o.F
def qU(v:Int)(l:List Bk)(o:rJ):Int:=
 if o.kind<1 then 1 else if 5<o.kind then 1 else if o.kind=1/\o.h.Cz=false then 1 else if o.kind=3/\Xm o.w=false then 1
 else if o.kind=1/\rX l o.who=true then 6 else if o.kind=1/\1024<=l.a then 7 else if o.kind≠1/\rX l o.who=false then 5
 else if o.kind=4/\(qg l o.who).drain=true then 6 else if o.kind=5/\(qg l o.who).drain=false then 6 else if 1099511627776<=v then 7 else 0
theorem ade(x:Nat)(hx:x<18446744073709551616)(w:ak):aR ah 170 #[.float .f64 x] w fun e w'=>e=.a (.bool (Xm x))/\w=w':=by
 rw[<-Ko hx];exact Kn x w
theorem Kw(l:List Bk)(hs:Fj l)(v:Int)(o:rJ)(hf:o.h.sD)(hw:o.w<18446744073709551616)(A:Option aV)(c:Nat)(w:ak)(hR:Gw w w.a.j A l.a l)(hn:l.a<4611686018427387904):
 aR ah 140 #[.d #[.b .a v,.a A l.a c],.d o.ay] w (gY w (.b .a (qU v l o))):=by
 obtain⟨hf1,hf2⟩:=hf;have HS:=ab hs;have HR1:=ab (fun ob uS=>((hR.alloc (av _) ob).alloc (by simp) uS).lD (B':=((w.alloc ob).alloc uS).a.j) (by simp;omega));have HB0:=ab (fun ob uS=>(((aG w.a.j w).alloc (av _) ob).alloc (by simp) uS:aM w.a.j w ((w.alloc ob).alloc uS)));clear hR hs;have Dc:qU v l o=(if o.kind<1 then 1 else if 5<o.kind then 1 else if o.kind=1/\o.h.Cz=false then 1 else if o.kind=3/\Xm o.w=false then 1
  else if o.kind=1/\rX l o.who=true then 6 else if o.kind=1/\1024<=l.a then 7 else if o.kind≠1/\rX l o.who=false then 5
  else if o.kind=4/\(qg l o.who).drain=true then 6 else if o.kind=5/\(qg l o.who).drain=false then 6 else if 1099511627776<=v then 7 else 0):=rfl
 have HW:=ab Dc;clear Dc;by_cases h1:o.kind=1
 ·have hwho:o.who=o.h.F:=by simp[rJ.who,h1]
  have aft:=ab hwho;obtain⟨K,hK⟩:=uP o.h.Cz;have hri:=fun W=>acL o.h W hf1 hf2
  rw[hK]at hri;have HRI:=ab hri;have HK:=ab hK;have H1:=ab h1;clear hwho hri hK;go_enter DJ,BH;go_wp2_with fail;refine(AJ l HS.i _ v A c _ (HR1.i _ _) hn).g ?_;rintro e w1 ⟨rfl,hb1⟩;obtain⟨hx1,hx2,hx3,hx4,hx5⟩:=Ur hb1;have hz0:w.a.j<w1.a.j:=by simp at hx5;omega
  have hz1:w.a.j+1<w1.a.j:=by simp at hx5;omega
  clear hx5;have HB1:=ab ((HB0.i _ _).trans (hb1.g (by simp;omega)));have HB2:=ab (HB1.i.alloc (by omega) (.D (qg l o.h.F).ay 62));clear hb1;go_wp2_with fail;refine(HRI.i _).g ?_;rintro e w2 ⟨rfl,hb2⟩;obtain⟨hy1,hy2,hy3,hy4,hy5⟩:=Ur hb2;have hz2:w1.a.j<w2.a.j:=by simp at hy5;omega
  have hz3:w.a.j<w2.a.j:=by omega
  have hz4:w.a.j+1<w2.a.j:=by omega
  clear hy5;have HB2:=ab ((HB1.i.alloc (by omega) (.D (qg l o.h.F).ay 62)).trans (hb2.g (by simp;omega)));clear hb2;cases K
  all_goals
   go_wp2_with fail
  all_goals
   go_ret;exact⟨by rw[HW.i,aft.i,HK.i,H1.i];simp[*];try omega,HB2.i⟩
 have hwho:o.who=o.F:=by simp[rJ.who,h1]
 have aft:=ab hwho;have H1:=ab h1;clear hwho;have g1:(o.kind==1)=false:=by simpa using h1
 have g1':(o.kind != 1)=true:=by simpa using h1
 rcases(show o.kind<1\/5<o.kind\/o.kind=2\/o.kind=3\/o.kind=4\/o.kind=5 by omega)with h2|h2|h2|h2|h2|h2
 ·clear h1
  go_enter DJ,BH;go_wp2_with fail;refine(AJ l HS.i _ v A c _ (HR1.i _ _) hn).g ?_;rintro e w1 ⟨rfl,hb1⟩;obtain⟨hx1,hx2,hx3,hx4,hx5⟩:=Ur hb1;have hz0:w.a.j<w1.a.j:=by simp at hx5;omega
  have hz1:w.a.j+1<w1.a.j:=by simp at hx5;omega
  clear hx5;have HB1:=ab ((HB0.i _ _).trans (hb1.g (by simp;omega)));have HB2:=ab (HB1.i.alloc (by omega) (.D (qg l o.F).ay 62));clear hb1;go_wp2_with fail;go_ret;exact⟨by rw[HW.i,aft.i];simp[*],HB2.i⟩
 ·clear h1
  have g2:¬o.kind<1:=by omega
  go_enter DJ,BH;go_wp2_with fail;refine(AJ l HS.i _ v A c _ (HR1.i _ _) hn).g ?_;rintro e w1 ⟨rfl,hb1⟩;obtain⟨hx1,hx2,hx3,hx4,hx5⟩:=Ur hb1;have hz0:w.a.j<w1.a.j:=by simp at hx5;omega
  have hz1:w.a.j+1<w1.a.j:=by simp at hx5;omega
  clear hx5;have HB1:=ab ((HB0.i _ _).trans (hb1.g (by simp;omega)));have HB2:=ab (HB1.i.alloc (by omega) (.D (qg l o.F).ay 62));clear hb1;go_wp2_with fail;go_ret;exact⟨by rw[HW.i,aft.i];simp[*],HB2.i⟩
 ·have H2:=ab h2
  clear h1 g1 g1';go_enter DJ,BH;go_wp2_with fail;refine(AJ l HS.i _ v A c _ (HR1.i _ _) hn).g ?_;rintro e w1 ⟨rfl,hb1⟩;obtain⟨hx1,hx2,hx3,hx4,hx5⟩:=Ur hb1;have hz0:w.a.j<w1.a.j:=by simp at hx5;omega
  have hz1:w.a.j+1<w1.a.j:=by simp at hx5;omega
  clear hx5;have HB1:=ab ((HB0.i _ _).trans (hb1.g (by simp;omega)));have HB2:=ab (HB1.i.alloc (by omega) (.D (qg l o.F).ay 62));clear hb1;go_wp2_with fail
  all_goals
   go_ret;exact⟨by rw[HW.i,aft.i,H2.i];clear hx1 hx2 hx3 hx4 HR1 HB0 HB1;first|(simp[*];done)|(simp_all;done)|(simp_all;omega),HB2.i⟩
 ·have H2:=ab h2
  clear h1 g1 g1';go_enter DJ,BH;go_wp2_with fail;refine(AJ l HS.i _ v A c _ (HR1.i _ _) hn).g ?_;rintro e w1 ⟨rfl,hb1⟩;obtain⟨hx1,hx2,hx3,hx4,hx5⟩:=Ur hb1;have hz0:w.a.j<w1.a.j:=by simp at hx5;omega
  have hz1:w.a.j+1<w1.a.j:=by simp at hx5;omega
  clear hx5;have HB1:=ab ((HB0.i _ _).trans (hb1.g (by simp;omega)));have HB2:=ab (HB1.i.alloc (by omega) (.D (qg l o.F).ay 62));clear hb1;go_wp2_with fail;refine(ade o.w hw _).g ?_;rintro e w' ⟨rfl,rfl⟩;go_wp2_with fail
  all_goals
   go_ret;exact⟨by rw[HW.i,aft.i,H2.i];clear hx1 hx2 hx3 hx4 HR1 HB0 HB1;first|(simp[*];done)|(simp_all;done)|(simp_all;omega),HB2.i⟩
 all_goals
  have H2:=ab h2;clear h1 g1 g1';go_enter DJ,BH;go_wp2_with fail;refine(AJ l HS.i _ v A c _ (HR1.i _ _) hn).g ?_;rintro e w1 ⟨rfl,hb1⟩;obtain⟨hx1,hx2,hx3,hx4,hx5⟩:=Ur hb1;have hz0:w.a.j<w1.a.j:=by simp at hx5;omega
  have hz1:w.a.j+1<w1.a.j:=by simp at hx5;omega
  clear hx5;have HB1:=ab ((HB0.i _ _).trans (hb1.g (by simp;omega)));have HB2:=ab (HB1.i.alloc (by omega) (.D (qg l o.F).ay 62));clear hb1;go_wp2_with fail
  all_goals
   go_ret;exact⟨by rw[HW.i,aft.i,H2.i];clear hx1 hx2 hx3 hx4 HR1 HB0 HB1;first|(simp[*];done)|(simp_all;done)|(simp_all;omega),HB2.i⟩
theorem zo(a b:List Bk):dL (a++b)=dL a++dL b:=by simp[dL]
theorem aaD(x:Bk)(b:List Bk):dL (x::b)=x.ay.a++dL b:=by simp[dL]
theorem Ny(l:List Bk)(i:Nat)(hi:i<=l.a):dL (l.E i)=(dL l).E (i*27):=by
 have h:=zo (l.E i) (l.G i);rw[iQ]at h;rw[h,fV (by rw[jL,bE];omega)];exact(aK (by rw[jL,bE];omega)).symm
theorem Nz(l:List Bk)(i:Nat)(hi:i<=l.a):dL (l.G i)=(dL l).G (i*27):=by
 have h:=zo (l.E i) (l.G i);rw[iQ]at h;have hl:(dL (l.E i)).a=i*27:=by rw[jL,bE];omega
 rw[h,<-hl,List.drop_left]
def AY(l:List Bk)(i:Nat)(x:Bk):List Bk:=l.E i++x::l.G i
theorem zq(l:List Bk)(i:Nat)(x:Bk):(AY l i x).a=l.a+1:=by
 simp[AY];omega
theorem Ju(l:List Bk)(i:Nat)(x:Bk)(hi:i<=l.a):dL (AY l i x)=(dL l).E (i*27)++x.ay.a++(dL l).G (i*27):=by
 rw[AY,zo,aaD,Ny l i hi,Nz l i hi,List.append_assoc]
theorem aaE(w:ak)(g:Nat)(c:Array aB)(t:bL)(fr:Nat×Nat)(hg:w.a[g]? = some (.D c t fr)):∀j v,c.a[j]? = some v->w.b ((⟨g,0,none⟩:aV).add j)=some v:=fun j v hv=>by
 rw[iL,uy w g _ c _ _ hg,bC]
 rwa [dH]at hv
def adf(base:Nat)(w:ak)(row:Option Nat)(m:List Bk)(e:lJ)(w':ak):Prop:=
 ∃A c,e=.a (.a A m.a c)/\w'.c base 62 27 (.a A m.a c) m.a (dL m)/\w.grownBy w' row
theorem Xx(w:ak)(g g2:Nat)(cur Vj:Array aB)(t t2:bL)(hg:w.a[g]? = some (.D cur t (0,0)))(h2:w.a[g2]? = some (.D Vj t2 (0,0)))(hne:g≠g2)(hc:cur.j≠0)(o la ca lb cb:Nat):
 (callFunc 210 #[.a (some ⟨g2,0,none⟩) la ca,.a (some ⟨g,o,none⟩) lb cb]).O ah w=.ok (.value (.bool false)) w:=by
 rw[run_callFunc_extern Tryz.func210 (by kernel_rfl) (by kernel_rfl) (by kernel_rfl) (e:=Extern.SlicesOverlaps.overlaps #[30,30] #[4]) (by kernel_rfl)];obtain⟨i0,hi0,hz0,hz1,hzb⟩:=Py;rw[Lib.run_overlaps_apart w _ _ 62 jy 27 (fun w=>by simp[sizeOf,typeInfo,hi0,hz1]) ⟨g2,0,none⟩ ⟨g,o,none⟩ la ca lb cb (fun e=>hne e.symm) t2 t Vj.j cur.j (by simp[World.shape?,h2]) (by simp[World.shape?,hg]) hc (by simp[tF,h2]) (by simp[tF,h2])];rfl
theorem aaF(l:List Bk)(x:Bk)(i:Nat)(hi:i<l.a)(base g c:Nat)(cur:Array aB)(w:ak)(hb:base<=g)(hg:w.a[g]? = some (.D cur 62 (0,0)))(hc:l.a+1<=c)(hcm:c<=maxLen)(hcs:cur.j=c*27)
 (ht:cur.a.E (l.a*27)=dL l) (g2:Nat) (h2:w.a[g2]? = some (.D x.ay 62 (0,0))) (hne:g≠g2) (hn:l.a<=100000) :
 aR ah 141 #[.a (some ⟨g,0,none⟩) l.a c,.b .a i,.a (some ⟨g2,0,none⟩) 1 1] w (adf base w (some g) (AY l i x)):=by
 unfold maxLen at hcm;obtain⟨n,hnl⟩:=cB l.a;rw[<-hnl]at hi hc hn ht ⊢;have HN:=ab hnl;have HG:=ab (show w.drew.a[g]? = some (.D cur 62 (0,0))from hg);have H2:=ab h2;have HT:=ab ht;have HCS:=ab hcs;have hov:=fun o la ca lb cb=>Xx w g g2 cur x.ay _ _ hg h2 hne (by omega) o la ca lb cb
 have SZ:=ab (show(ah.l 62).map (·.j)=some 27 by kernel_rfl);have M1:=ab (show n-i=qO (n+1-i) (n-i)from(Nat.min_eq_right (by omega)).symm);have M2:=ab (show((dL l).G (i*27)).a=(n-i)*27 by rw[fZ,jL,<-hnl,Co]);have M3:=ab (show∀j v,((dL l).G (i*27))[j]? = some v->w.drew.b ((⟨g,i*27,none⟩:aV).add j)=some v from fun j v hv=>by
  show w.b _=_;rw[iL,uy w g _ cur _ _ hg];rw[iY]at hv;rw[<-ht,jc]at hv;split at hv
  ·rw[dH]at hv;exact hv
  ·cases hv)
 have M4:=ab (show(i+1)*27+((dL l).G (i*27)).a<=cur.j by rw[M2.i,hcs];have:=dB 27 hc;have:=Co n i 27;have:=dB 27 (nE hi);omega);have M5:=ab (show∀v∈(dL l).G (i*27),v.h=true from fun v hv=>D7 l v (List.mem_of_mem_drop hv));clear hnl hg h2 ht hcs;go_enter Tryz.func141,Tryz.ntmps141;go_wp2_with fail;clear hov;have a1:IntKind.i64.wrap ((i:Int)+1)=(i:Int)+1:=IntWalk.i64_in _ (by omega);have a2:(0:Int)<=(i:Int)+1:=by omega
 have a3:(i:Int)+1<=(n:Int)+1:=by omega
 have a4:((i:Int)+1).e=i+1:=by omega
 have a5:¬c=i+1:=by omega
 have a6:¬c=i:=by omega
 have a7:(i:Int)<=(n:Int)+1:=by omega
 go_region_law (refine Jj rfl (.a 73) (.a 76) _ _ rfl 62 27 jy SZ.i g ((i+1)*27) (n-i) (c-(i+1)) ⟨g,i*27,none⟩ (n+1-i) (c-i) (by kernel_rfl) (by kernel_rfl) cur _ HG.i ((dL l).G (i*27)) (n-i) M1.i M2.i M3.i M4.i M5.i ?_;intro w1 hw1;have HW1:=ab hw1;clear hw1);clear a1 a2 a3 a4 a5 a6 a7;obtain⟨uY,hc1⟩:∃uY:Array aB,uY=(splice cur.a ((i+1)*27) ((dL l).G (i*27))).c:=⟨_,rfl⟩
 have G1:=ab (show w1.a[g]? = some (.D uY 62 (0,0))by rw[HW1.i,hc1];exact su w.drew g cur _ _ _ HG.i);have G2:=ab (show w1.a[g2]? = some (.D x.ay 62 (0,0))by rw[HW1.i,pJ w.drew g g2 _ (fun e=>hne e.symm)];exact H2.i);have G3:=ab (show w.grownBy w1 (some g)by rw[HW1.i];exact⟨rfl,rfl,rfl,by simp[sV],fun k hk hkg=>pJ w.drew g k _ (fun e=>hkg (by rw[e]))⟩);have HC1:=ab hc1;clear hc1;have N1:=ab (show 1=qO 1 (n+1-i)from(lU (by omega)).symm);have N2:=ab (show x.ay.a.a=1*27 by rw[aY,Bk.J]);have N3:=ab (show∀j v,x.ay.a[j]? = some v->w1.b ((⟨g2,0,none⟩:aV).add j)=some v from fun j v hv=>by
  rw[iL,uy w1 g2 _ x.ay _ _ G2.i,bC]
  rwa [dH]at hv)
 have hs1:uY.j=c*27:=by
  rw[HC1.i,dN,wY _ _ _ (by rw[aY];exact M4.i),aY,HCS.i]
 have N4:=ab (show i*27+x.ay.a.a<=uY.j by rw[N2.i,hs1];have:=dB 27 hc;have:=dB 27 (nE hi);omega);have N5:=ab (show∀v∈x.ay.a,v.h=true from fun v hv=>gK.1 (Bk.dx x) v (by simpa using hv));have SG:=ab hs1;clear hs1;go_wp2_with (refine Fq rfl (.a 80) (.a 81) _ _ rfl 62 27 jy SZ.i g (i*27) (n+1-i) (c-i) ⟨g2,0,none⟩ 1 1 rfl rfl uY _ G1.i x.ay.a 1 N1.i N2.i N3.i N4.i N5.i ?_;intro w2 hw2;have HW2:=ab hw2;clear hw2);go_ret;have hln:=zq l i x;rw[<-HN.i]at hln;refine⟨some ⟨g,0,none⟩,c,by rw[hln];rfl,?_,?_⟩
 ·rw[hln]
  refine⟨by rw[jL,hln],.a ⟨g,c,(splice uY.a (i*27) x.ay.a).c,rfl,hb,?_,hc,by unfold maxLen;omega,?_,?_⟩⟩
  ·rw[HW2.i];exact su w1 g uY _ _ _ G1.i
  ·rw[dN,wY _ _ _ (by rw[aY];exact N4.i),aY,SG.i]
  ·rw[Ju l i x (by rw[<-HN.i];omega),HC1.i]
   have hx:=HT.i;have hcl:=jL l;rw[<-HN.i]at hcl;have:=ai2 cur.a (dL l) x.ay.a (i*27) 27 (by rw[hcl];exact hx) (by rw[hcl];omega) (by rw[aY,Bk.J]) (by rw[hcl,aY,HCS.i];omega);rw[hcl]at this;rw[show(n+1)*27=n*27+27 by omega];rw[show(i+1)*27=i*27+27 by omega];exact this
 ·rw[HW2.i]
  refine M8 G3.i ⟨rfl,rfl,rfl,by simp[sV],fun k hk hkg=>pJ w1 g k _ (fun e=>hkg (by rw[e]))⟩
theorem afu(l:List Bk)(x:Bk)(i:Nat)(hi:i<l.a)(base g c:Nat)(cur:Array aB)(w:ak)(hbase:base<=w.a.j)(hg:w.a[g]? = some (.D cur 62 (0,0)))(hc:c<l.a+1)(hlc:l.a<=c)(hcs:cur.j=c*27)
 (ht:cur.a.E (l.a*27)=dL l) (g2:Nat) (h2:w.a[g2]? = some (.D x.ay 62 (0,0))) (hn:l.a<=100000) :
 aR ah 141 #[.a (some ⟨g,0,none⟩) l.a c,.b .a i,.a (some ⟨g2,0,none⟩) 1 1] w (adf base w (some g) (AY l i x)):=by
 obtain⟨n,hnl⟩:=cB l.a;rw[<-hnl]at hi hc hlc hn ht ⊢;have HN:=ab hnl;have HG:=ab hg;have H2:=ab h2;have HT:=ab ht;have HCS:=ab hcs;obtain⟨i0,hi0,hz0,hz1,hzb⟩:=Py;have HI0:=ab hi0;have HZ0:=ab hz0;have HZ1:=ab hz1;have HZ2:=ab (show(cO jq.ay).D.j=27 by simp[dz,Bk.J]);have SZ:=ab (show(ah.l 62).map (·.j)=some 27 by kernel_rfl);have hcl:=jL l;rw[<-hnl]at hcl;have HX:=ab (show aI .a ((n:Int)+1-i)=.b .a ((n+1-i:Nat):Int)by congr 1;omega);have L1:=ab (show((dL l).E (i*27)).a=i*27 by rw[bE,hcl];omega);have L2:=ab (show∀j u,((dL l).E (i*27))[j]? = some u->w.b ((⟨g,0,none⟩:aV).add j)=some u from fun j v hv=>by
  rw[iL,uy w g _ cur _ _ hg,bC];rw[jc]at hv;split at hv
  ·rw[<-ht,jc]at hv
   split at hv
   ·rw[dH]at hv;exact hv
   ·cases hv
  ·cases hv)
 have L3:=ab (show 0<n+1-i by omega);have L4:=ab (show c<i+(n+1-i)by omega);have L5:=ab (show i+(n+1-i)<=maxLen by unfold maxLen;omega);have L6:=ab (show(i+(n+1-i))*i0.bytes<=140737488355328 from aP (iq (show i+(n+1-i)<=100001 by omega) hzb) (by omega));have M1:=ab (show n-i=qO (n-i) (n-i)from(Nat.min_self _).symm);have M2:=ab (show((dL l).G (i*27)).a=(n-i)*27 by rw[fZ,hcl,Co]);have M5:=ab (show∀v∈(dL l).G (i*27),v.h=true from fun v hv=>D7 l v (List.mem_of_mem_drop hv));have N1:=ab (show 1=qO 1 (n+1-i)from(lU (by omega)).symm);have N2:=ab (show x.ay.a.a=1*27 by rw[aY,Bk.J]);have N5:=ab (show∀v∈x.ay.a,v.h=true from fun v hv=>gK.1 (Bk.dx x) v (by simpa using hv));have HCL:=ab hcl;have EN:=ab (show i+(n+1-i)=n+1 by omega);have hgl:g<w.a.j:=(bY.1 hg).1;have aCX:g2<w.a.j:=(bY.1 h2).1;clear hnl hg h2 ht hcs hi0 hz0 hz1 hcl;go_enter Tryz.func141,Tryz.ntmps141;go_wp2_with (first
  | (refine PE rfl (.a 34) (.a 39) _ _ rfl 62 i0 (.d jq.ay) 27 .a .a jy Tryz.underlying3 HI0.i HZ0.i HZ1.i HZ2.i ⟨g,0,none⟩ i c rfl (n+1-i) HX.i ((dL l).E (i*27)) L1.i L2.i L3.i (nG _) L4.i L5.i L6.i ?_
     rw[EN.i];intro c' uY w1 hc1 hc2 hc3 hc4 hc5 hc6;have C2:=ab hc2;have C3:=ab hc3;have C4:=ab hc4;have C6:=ab hc6;have G1:=ab (show w1.a[w.a.j]? = some (.D uY 62 (0,0))from hc5);have Gx:=ab (show w1.a[g2]? = some (.D x.ay 62 (0,0))from(hc6.block g2 aCX).trans H2.i);have Gg:=ab (show w1.a[g]? = some (.D cur 62 (0,0))from(hc6.block g hgl).trans HG.i);have N3:=ab (aaE w1 g2 x.ay _ _ Gx.i);have N4:=ab (show i*27+x.ay.a.a<=uY.j by rw[N2.i,C3.i];have:=dB 27 hc1;omega);clear hc2 hc3 hc4 hc5 hc6)
  | (refine Fq rfl (.a 43) (.a 44) _ _ rfl 62 27 jy SZ.i w.a.j (i*27) (n+1-i) (c'-i) ⟨g2,0,none⟩ 1 1 rfl rfl uY _ G1.i x.ay.a 1 N1.i N2.i N3.i N4.i N5.i ?_
     intro w2 hw2;have HW2:=ab hw2;clear hw2))
 obtain⟨Vj,hc2⟩:∃Vj:Array aB,Vj=(splice uY.a (i*27) x.ay.a).c:=⟨_,rfl⟩
 have K1:=ab (show w2.drew.a[w.a.j]? = some (.D Vj 62 (0,0))by rw[HW2.i,hc2];exact su w1 w.a.j uY _ _ _ G1.i);have Kg:=ab (show w2.a[g]? = some (.D cur 62 (0,0))by rw[HW2.i,pJ w1 w.a.j g _ (by omega)];exact Gg.i);have KB:=ab (show aM w.a.j w w2 by rw[HW2.i];exact C6.i.trans ⟨rfl,rfl,rfl,by simp[sV],fun k hk=>pJ w1 w.a.j k _ (by omega)⟩);have hs2:Vj.j=c'*27:=by
  rw[hc2,dN,wY _ _ _ (by rw[aY];exact N4.i),aY,C3.i]
 have M3:=ab (show∀j v,((dL l).G (i*27))[j]? = some v->w2.drew.b ((⟨g,i*27,none⟩:aV).add j)=some v from fun j v hv=>by
  show w2.b _=_;rw[iL,uy w2 g _ cur _ _ Kg.i];rw[iY]at hv;rw[<-HT.i,jc]at hv;split at hv
  ·rw[dH]at hv;exact hv
  ·cases hv)
 have M4:=ab (show(i+1)*27+((dL l).G (i*27)).a<=Vj.j by rw[M2.i,hs2];have:=dB 27 hc1;have:=Co n i 27;have:=dB 27 (nE hi);omega);have HC2:=ab hc2;have HS2:=ab hs2;clear hc2 hs2;have a5:¬c'=i+1:=by omega
 have a6:¬c=i:=by omega
 have a7:(i:Int)<=(n:Int):=by omega
 have a2:(0:Int)<=(i:Int)+1:=by omega
 have a3:(i:Int)+1<=(n:Int)+1:=by omega
 have a4:((i:Int)+1).e=i+1:=by omega
 have a1:IntKind.i64.wrap ((i:Int)+1)=(i:Int)+1:=IntWalk.i64_in _ (by omega);go_region_law (refine Jj rfl (.a 50) (.a 53) _ _ rfl 62 27 jy SZ.i w.a.j ((i+1)*27) (n-i) (c'-(i+1)) ⟨g,i*27,none⟩ (n-i) (c-i) (by kernel_rfl) (by kernel_rfl) Vj _ K1.i ((dL l).G (i*27)) (n-i) M1.i M2.i M3.i M4.i M5.i ?_;intro w3 hw3;have HW3:=ab hw3;clear hw3);clear a1 a2 a3 a4 a5 a6 a7;go_wp2_with fail;go_ret;have hln:=zq l i x;rw[<-HN.i]at hln;refine⟨some ⟨w.a.j,0,none⟩,c',by rw[hln];rfl,?_,?_⟩
 ·rw[hln]
  refine⟨by rw[jL,hln],.a ⟨w.a.j,c',(splice Vj.a ((i+1)*27) ((dL l).G (i*27))).c,rfl,hbase,?_,hc1,C2.i,?_,?_⟩⟩
  ·rw[HW3.i];exact su w2.drew w.a.j Vj _ _ _ K1.i
  ·rw[dN,wY _ _ _ (by rw[aY];exact M4.i),aY,HS2.i]
  ·rw[Ju l i x (by rw[<-HN.i];omega),HC2.i]
   have:=apv uY.a (dL l) x.ay.a (i*27) 27 C4.i (by rw[HCL.i];omega) (by rw[aY,Bk.J]) (by rw[HCL.i,aY,C3.i];omega);rw[HCL.i]at this;rw[show(n+1)*27=n*27+27 by omega,show(i+1)*27=i*27+27 by omega];exact this
 ·rw[HW3.i]
  have hb:=KB.i;exact⟨hb.os,hb.tape,hb.output,by have:=hb.j;simpa[sV]using this,fun k hk hkg=>(pJ w2.drew w.a.j k _ (by omega)).trans (hb.block k hk)⟩
theorem ajf(l:List Bk)(x:Bk):dL (AY l l.a x)=dL l++x.ay.a:=by
 rw[Ju l l.a x (av _),aK (by rw[jL];omega),jg (by rw[jL];omega),List.append_nil]
theorem Vk(l:List Bk)(x:Bk)(base c:Nat)(A:Option aV)(w:ak)(hbase:base<=w.a.j)(hown:w.c base 62 27 (.a A l.a c) l.a (dL l))(hlc:l.a<=c)(g2:Nat)(h2:w.a[g2]? = some (.D x.ay 62 (0,0)))(hn:l.a<=100000):
 aR ah 141 #[.a A l.a c,.b .a l.a,.a (some ⟨g2,0,none⟩) 1 1] w (adf base w (bB A l.a c).ownBlock (AY l l.a x)):=by
 have hln:=zq l l.a x;have hce:=ajf l x;obtain⟨n,hnl⟩:=cB l.a;rw[<-hnl]at hln hce hn hlc hown ⊢;obtain⟨m,hm⟩:=cB (AY l n x);rw[<-hm]at hln hce ⊢;have HLN:=ab hln;have HCE:=ab hce;have HO:=ab hown;obtain⟨i0,hi0,hz0,hz1,hzb⟩:=Py;have HI0:=ab hi0;have HZ0:=ab hz0;have HZ1:=ab hz1;have HZ2:=ab (show(cO jq.ay).D.j=27 by simp[dz,Bk.J]);have L5:=ab (show n+1<=maxLen by unfold maxLen;omega);have L6:=ab (show(n+1)*i0.bytes<=140737488355328 from aP (iq (show n+1<=100001 by omega) hzb) (by omega));have HR:=ab (show Rd w (g2+1) 27 (some ⟨g2,0,none⟩) 1 x.ay.a from⟨by rw[aY,Bk.J],fun _=>⟨_,rfl,nD _,aaE w g2 x.ay _ _ h2⟩⟩);have N5:=ab (show∀v∈x.ay.a,v.h=true from fun v hv=>gK.1 (Bk.dx x) v (by simpa using hv));clear hnl hm hln hce hown hi0 hz0 hz1 h2;have hnn:((n:Int)==(n:Int))=true:=by simp
 go_enter Tryz.func141,Tryz.ntmps141;go_wp2_with (refine jQ _ rfl (.a 23) (.a 24) _ rfl base 62 i0 (.d jq.ay) 27 i0.bytes jy HI0.i HZ0.i HZ1.i rfl HZ2.i (nG _) (.a A n c) n (dL l) rfl HO.i (g2+1) (some ⟨g2,0,none⟩) 1 1 x.ay.a rfl HR.i N5.i L5.i L6.i hbase ?_;intro v1 w1 hown1 hg1 yN;have O1:=ab hown1;have GR:=ab hg1;clear hown1 hg1 yN)
 all_goals
  go_ret;obtain⟨A',c',rfl,_,_⟩:=j3 O1.i;refine⟨A',c',by rw[HLN.i];rfl,?_,by have:=GR.i;cases A<;>exact this⟩;rw[HLN.i,HCE.i];exact O1.i
def apR(base:Nat)(w:ak)(A:Option aV)(c:Nat)(l:List Bk)(g2:Nat)(x:Bk):Prop:=
 w.c base 62 27 (.a A l.a c) l.a (dL l)/\w.a[g2]? = some (.D x.ay 62 (0,0))/\(∀g,A=some g->g.block≠g2)/\base<=w.a.j/\l.a<=100000
theorem afw(l:List Bk)(x:Bk)(i:Nat)(hi:i<=l.a)(base c g2:Nat)(A:Option aV)(w:ak)(h:apR base w A c l g2 x):
 aR ah 141 #[.a A l.a c,.b .a i,.a (some ⟨g2,0,none⟩) 1 1] w (adf base w (bB A l.a c).ownBlock (AY l i x)):=by
 obtain⟨hown,h2,hne,hb,hn⟩:=h;have hown':=hown;rcases hown.2 with⟨hv,h0⟩|⟨g,cap,cur,hv,hbg,hg,hnc,hcm,hcs,htake⟩
 ·injection hv with e1 e2 e3
  subst e1 e3;obtain rfl:i=l.a:=by omega
  exact Vk l x base 0 none w hb hown (by omega) g2 h2 hn
 ·injection hv with e1 e2 e3
  subst e1 e3;rcases aZ i l.a with h1|h1
  ·rcases aZ c (l.a+1)with h3|h3
   ·exact afu l x i h1 base g c cur w hb hg h3 hnc hcs htake g2 h2 hn
   ·exact aaF l x i h1 base g c cur w hbg hg h3 hcm hcs htake g2 h2 (hne _ rfl) hn
  ·obtain rfl:i=l.a:=by omega
   exact Vk l x base c _ w hb hown hnc g2 h2 hn
def Fx(l:List Bk)(i:Nat):List Bk:=l.E i++l.G (i+1)
theorem NA(l:List Bk)(i:Nat)(hi:i<l.a):(Fx l i).a=l.a-1:=by
 simp[Fx];omega
theorem QT(l:List Bk)(i:Nat)(hi:i<l.a):dL (Fx l i)=(dL l).E (i*27)++(dL l).G (i*27+27):=by
 rw[Fx,zo,Ny l i (by omega),Nz l (i+1) (by omega),show(i+1)*27=i*27+27 by omega]
theorem afx(l:List Bk)(i:Nat)(hi:i<l.a)(base g c:Nat)(cur:Array aB)(w:ak)(hb:base<=g)(hg:w.a[g]? = some (.D cur 62 (0,0)))(hc:l.a<=c)(hcm:c<=maxLen)(hcs:cur.j=c*27)
 (ht:cur.a.E (l.a*27)=dL l) (hn:l.a<=100000) :
 aR ah 142 #[.a (some ⟨g,0,none⟩) l.a c,.b .a i,.b .a ((i:Int)+1)] w (adf base w (some g) (Fx l i)):=by
 have hln:=NA l i hi;have hcl:=jL l;unfold maxLen at hcm;obtain⟨n,hnl⟩:=cB l.a;rw[<-hnl]at hi hc hn ht hln hcl ⊢;have HN:=ab hnl;have HG:=ab (show w.drew.a[g]? = some (.D cur 62 (0,0))from hg);have HT:=ab ht;have HCS:=ab hcs;have HLN:=ab hln;have HCL:=ab hcl;obtain⟨i0,hi0,hz0,hz1,hzb⟩:=Py;have HI0:=ab hi0;have HZ0:=ab hz0;have HZ1:=ab hz1;have HZ2:=ab (show(cO jq.ay).D.j=27 by simp[dz,Bk.J]);have HZ3:=ab (show(cO jq.ay).D.all (·.h)=true from Bk.dx jq);have M2:=ab (show((dL l).G (i*27+27)).a=(n-(i+1))*27 by rw[fZ,hcl,Co];omega);have M3:=ab (show∀j v,((dL l).G (i*27+27))[j]? = some v->w.drew.b ((⟨g,(i+1)*27,none⟩:aV).add j)=some v from fun j v hv=>by
  show w.b _=_;rw[iL,uy w g _ cur _ _ hg,show(i+1)*27=i*27+27 by omega];rw[iY]at hv;rw[<-ht,jc]at hv;split at hv
  ·rw[dH]at hv;exact hv
  ·cases hv)
 have M4:=ab (show i*27+((dL l).G (i*27+27)).a<=cur.j by rw[M2.i,hcs];have:=dB 27 hc;have:=Co n (i+1) 27;omega);have M5:=ab (show∀v∈(dL l).G (i*27+27),v.h=true from fun v hv=>D7 l v (List.mem_of_mem_drop hv));have M6:=ab (show i+(n-(i+1))<=c by omega);have EN:=ab (show i+(n-(i+1))=n-1 by omega);have M7':=ab (show c=i+1->Hid (∀j v,((dL l).G (i*27+27))[j]? = some v->w.drew.b ((⟨g,0,none⟩:aV).add j)=some v)from fun h=>ab fun j v hv=>by
  have hz:(dL l).G (i*27+27)=[]:=bF (by rw[M2.i,show n-(i+1)=0 by omega,Nat.zero_mul]);rw[hz]at hv;simp at hv)
 have HN1:=ab (show 1<=n by omega);clear hnl hg ht hcs hi0 hz0 hz1 hcl hln;have b1:(i:Int)<=n:=by omega
 have b2:(i:Int)+1<=n:=by omega
 go_enter Tryz.func142,Tryz.ntmps142;go_wp2_with fail;by_cases hci:c=i+1;rotate_left
 ·have a4:((i:Int)+1).e=i+1:=by omega
  have a2:(0:Int)<=(i:Int)+1:=by omega
  have a8:¬c=i:=by omega
  have a9:(i:Int)<=c:=by omega
  go_region_law (refine LA rfl (.a 22) (.a 25) _ rfl 62 i0 27 jy HI0.i HZ1.i g i c ⟨g,(i+1)*27,none⟩ (n-(i+1)) (c-(i+1)) (by kernel_rfl) (by kernel_rfl) cur HG.i ((dL l).G (i*27+27)) M2.i M3.i M5.i M6.i M4.i ?_;intro w1 hw1;rw[EN.i];have HW1:=ab hw1;clear hw1);clear a2 a4 a8 a9;obtain⟨uY,hc1⟩:∃uY:Array aB,uY=(splice cur.a (i*27) ((dL l).G (i*27+27))).c:=⟨_,rfl⟩
  have G1:=ab (show w1.a[g]? = some (.D uY 62 (0,0))by rw[HW1.i,hc1];exact su w.drew g cur _ _ _ HG.i);have hs1:uY.j=c*27:=by
   rw[hc1,dN,wY _ _ _ (by rw[aY];exact M4.i),aY,HCS.i]
  have E1:=ab (show 0<n-(n-1)by have:=HN1.i;omega);have E2:=ab (show(n-1)*27+(n-(n-1))*27<=uY.j by rw[hs1,show n-(n-1)=1 by have:=HN1.i;omega];have:=HN1.i;omega);have HC1:=ab hc1;have SG:=ab hs1;clear hc1 hs1;go_wp2_with (refine Fu rfl (.a 31) _ rfl 62 i0 (.d jq.ay) 27 jy HI0.i HZ0.i HZ2.i HZ3.i g ((n-1)*27) (n-(n-1)) (c-(n-1)) rfl E1.i uY _ G1.i E2.i ?_;intro w2 zs hzs hw2;have HW2:=ab hw2;have HZS:=ab hzs;clear hw2 hzs);go_ret;refine⟨some ⟨g,0,none⟩,c,by rw[HLN.i];rfl,?_,?_⟩
  ·rw[HLN.i]
   refine⟨by rw[jL,HLN.i],.a ⟨g,c,(splice uY.a ((n-1)*27) zs).c,rfl,hb,?_,by omega,by unfold maxLen;omega,?_,?_⟩⟩
   ·rw[HW2.i];exact su w1 g uY _ _ _ G1.i
   ·rw[dN,wY _ _ _ (by rw[aY];have h1:=HZS.i;have h2:=E2.i;first|(rw[h1];exact h2)|(simp only[dN,h1];exact h2)),aY,SG.i]
   ·rw[QT l i (by rw[<-HN.i];exact hi)]
    have h1:=Yj cur.a (dL l) (i*27) 27 (by rw[HCL.i];exact HT.i) (by rw[HCL.i];omega);have hcu:uY.a=splice cur.a (i*27) ((dL l).G (i*27+27)):=by rw[HC1.i]
    rw[HCL.i,show n*27-27=(n-1)*27 by omega,<-hcu]at h1;show List.take ((n-1)*27) (splice uY.a ((n-1)*27) zs)=_;rw[splice,fV (by rw[bE,aY,SG.i];omega),qw,Nat.min_self];exact h1
  ·rw[HW2.i]
   have hG:w.grownBy w1 (some g):=by rw[HW1.i];exact⟨rfl,rfl,rfl,by simp[sV],fun k hk hkg=>pJ w.drew g k _ (fun e=>hkg (by rw[e]))⟩
   refine M8 hG ⟨rfl,rfl,rfl,by simp[sV],fun k hk hkg=>pJ w1 g k _ (fun e=>hkg (by rw[e]))⟩
 ·have M3:=M7'.i hci
  have HCI:=ab hci;have a0:(c=i+1)=True:=by simpa using hci
  clear hci;have a4:((i:Int)+1).e=i+1:=by omega
  have a2:(0:Int)<=(i:Int)+1:=by omega
  have a8:¬c=i:=by have:=HCI.i;omega
  have a9:(i:Int)<=c:=by omega
  go_region_law (refine LA rfl (.a 22) (.a 25) _ rfl 62 i0 27 jy HI0.i HZ1.i g i c ⟨g,0,none⟩ (n-(i+1)) (c-(i+1)) (by kernel_rfl) (by kernel_rfl) cur HG.i ((dL l).G (i*27+27)) M2.i M3.i M5.i M6.i M4.i ?_;intro w1 hw1;rw[EN.i];have HW1:=ab hw1;clear hw1);clear a2 a4 a8 a9;obtain⟨uY,hc1⟩:∃uY:Array aB,uY=(splice cur.a (i*27) ((dL l).G (i*27+27))).c:=⟨_,rfl⟩
  have G1:=ab (show w1.a[g]? = some (.D uY 62 (0,0))by rw[HW1.i,hc1];exact su w.drew g cur _ _ _ HG.i);have hs1:uY.j=c*27:=by
   rw[hc1,dN,wY _ _ _ (by rw[aY];exact M4.i),aY,HCS.i]
  have E1:=ab (show 0<n-(n-1)by have:=HN1.i;omega);have E2:=ab (show(n-1)*27+(n-(n-1))*27<=uY.j by rw[hs1,show n-(n-1)=1 by have:=HN1.i;omega];have:=HN1.i;omega);have HC1:=ab hc1;have SG:=ab hs1;clear hc1 hs1;go_wp2_with (refine Fu rfl (.a 31) _ rfl 62 i0 (.d jq.ay) 27 jy HI0.i HZ0.i HZ2.i HZ3.i g ((n-1)*27) (n-(n-1)) (c-(n-1)) rfl E1.i uY _ G1.i E2.i ?_;intro w2 zs hzs hw2;have HW2:=ab hw2;have HZS:=ab hzs;clear hw2 hzs);go_ret;refine⟨some ⟨g,0,none⟩,c,by rw[HLN.i];rfl,?_,?_⟩
  ·rw[HLN.i]
   refine⟨by rw[jL,HLN.i],.a ⟨g,c,(splice uY.a ((n-1)*27) zs).c,rfl,hb,?_,by omega,by unfold maxLen;omega,?_,?_⟩⟩
   ·rw[HW2.i];exact su w1 g uY _ _ _ G1.i
   ·rw[dN,wY _ _ _ (by rw[aY];have h1:=HZS.i;have h2:=E2.i;first|(rw[h1];exact h2)|(simp only[dN,h1];exact h2)),aY,SG.i]
   ·rw[QT l i (by rw[<-HN.i];exact hi)]
    have h1:=Yj cur.a (dL l) (i*27) 27 (by rw[HCL.i];exact HT.i) (by rw[HCL.i];omega);have hcu:uY.a=splice cur.a (i*27) ((dL l).G (i*27+27)):=by rw[HC1.i]
    rw[HCL.i,show n*27-27=(n-1)*27 by omega,<-hcu]at h1;show List.take ((n-1)*27) (splice uY.a ((n-1)*27) zs)=_;rw[splice,fV (by rw[bE,aY,SG.i];omega),qw,Nat.min_self];exact h1
  ·rw[HW2.i]
   have hG:w.grownBy w1 (some g):=by rw[HW1.i];exact⟨rfl,rfl,rfl,by simp[sV],fun k hk hkg=>pJ w.drew g k _ (fun e=>hkg (by rw[e]))⟩
   refine M8 hG ⟨rfl,rfl,rfl,by simp[sV],fun k hk hkg=>pJ w1 g k _ (fun e=>hkg (by rw[e]))⟩
def aaG(w:ak)(l:List Bk)(e:lJ)(w':ak):Prop:=
 ∃A c,e=.a (.a A l.a c)/\w'.c w.a.j 62 27 (.a A l.a c) l.a (dL l)/\aM w.a.j w w'
theorem yH(l:List Bk)(A:Option aV)(c:Nat)(w:ak)(hR:Gw w w.a.j A l.a l)(hn:l.a<=100000):
 aR ah 61 #[.a A l.a c] w (aaG w l):=by
 cases A with
 | some a=>exact acR l a c w hR (by omega)
 | none=>
   have h0:l.a=0:=by
    rcases eB l.a with h0|h0
    ·exact h0
    ·obtain⟨a,ha,_⟩:=hR.2.1.2 h0;cases ha
   have hl:l=[]:=bF h0;subst hl;have hnil:∀W:ak,(binOp .eql 30 (.a none 0 c) (.a none 0 0)).O ah W=.ok (.bool true) W:=fun W=>by
    simp only[binOp];simp[run_equal_slice_nil,jy]
   have fin:aaG w [] (.a (.a none 0 0)) w:=⟨none,0,rfl,fQ _ _ _ _,aG _ _⟩
   have FIN:=ab fin;clear fin;clear hR;simp only[List.length_nil];go_enter Tryz.func61,Tryz.ntmps61;go_wp2;go_ret;exact FIN.i
theorem pF{w:ak}{base:Nat}{l:List Bk}{A:Option aV}{c:Nat}(h:w.c base 62 27 (.a A l.a c) l.a (dL l)):Gw w w.a.j A l.a l:=
 ⟨rfl,Rd.jh h,fun a ha _=>by
  rcases h.2 with⟨hv,h0⟩|⟨g,cap,cur,hv,_⟩
  ·injection hv with e1 _ _
   rw[e1]at ha;cases ha
  ·injection hv with e1 _ _
   rw[e1]at ha;injection ha with ha
   rw[<-ha]⟩
theorem Jv(l:List Bk)(k:Nat)(hk:k<l.a)(y:Bk)(j:Nat)(hj:j<27)(u:aB)(h:y.ay=(l.b k jq).ay.setIfInBounds j u):(dL l).set (k*27+j) u=dL (l.set k y):=by
 have hs:=Bk.J (l.b k jq);have hlen:=jL l;have Vl:=jL (l.set k y);rw[aS]at Vl;apply List.ext_getElem?;intro i;rcases aZ i (l.a*27)with h1|h1
 ·have e1:i=i/27*27+i%27:=by omega
  have h2:i/27<l.a:=by omega
  have h3:i%27<27:=fP _ (by omega);have g1:=Jg l (i/27) (i%27) h2 h3;have g2:=Jg (l.set k y) (i/27) (i%27) (by rw[aS];exact h2) h3;rw[<-e1]at g1 g2;rw[g2,List.getElem?_set,hlen];by_cases h4:i/27=k
  ·have e2:(l.set k y).b (i/27) jq=y:=by
    rw[au,h4,List.getElem?_set_self hk];rfl
   rw[e2,h,Array.getElem?_setIfInBounds,hs];by_cases h5:j=i%27
   ·have:k*27+j=i:=by omega
    simp[h5,h3];rw[if_pos (by omega),if_pos (by omega)]
   ·have:¬k*27+j=i:=by omega
    rw[if_neg this,if_neg h5,g1,h4]
  ·have e2:(l.set k y).b (i/27) jq=l.b (i/27) jq:=by
    rw[au,au,List.getElem?_set_ne (fun e=>h4 e.symm)]
   have:¬k*27+j=i:=by omega
   rw[if_neg this,e2,g1]
 ·rw[aT (by rw[aS,hlen];exact h1),aT (by rw[Vl];exact h1)]
theorem aaH{v:Int}{l:List Bk}{o:rJ}(h:qU v l o=0):1<=o.kind/\o.kind<=5/\v<1099511627776/\(o.kind=1->o.h.Cz=true/\rX l o.h.F=false/\l.a<1024)/\(o.kind=3->Xm o.w=true)/\(o.kind≠1->rX l o.F=true):=by
 unfold qU at h
 repeat' split at h
 all_goals first|(exact absurd h (by decide))|skip
 rename_i h1 h2 h3 h4 h5 h6 h7 h8 h9 h10;refine⟨by omega,by omega,by omega,fun hk=>⟨?_,?_,?_⟩,fun hk=>?_,fun hk=>?_⟩
 ·simpa[hk]using h3
 ·simpa[hk,rJ.who]using h5
 ·simp[hk]at h6;omega
 ·simpa[hk]using h4
 ·simpa[hk,rJ.who]using h7
def P9(l:List Bk)(o:rJ):List Bk:=
 if o.kind=1 then AY l (kP l o.h.F) (o.h.OY (kS o.h.w))
 else if o.kind=2 then Fx l (kP l o.F)
 else if o.kind=3 then l.set (kP l o.F) ((qg l o.F).OY (kS o.w))
 else l.set (kP l o.F) ((qg l o.F).toD (o.kind==4))
def Vm(w:ak)(v:Int)(l:List Bk)(er:Int)(e:lJ)(w':ak):Prop:=
 ∃A c,e=.a (.K #[.d #[.b .a v,.a A l.a c],.b .a er])/\w'.c w.a.j 62 27 (.a A l.a c) l.a (dL l)/\aM w.a.j w w'
theorem Fy{fn:Func}{p u:Tmp}(h:fn.results = #[.cell p 32,.a u])(tmps:Array aB)(W:ak)(b o:Nat)(hp:tmps.b p undef=.pointer (some ⟨b,o,none⟩))(hh:yE W b o 2):
 (results fn tmps).O ah W=.ok (.K #[.d (eH W b o 2),tmps.b u undef]) W:=by
 have hl:=kH W b o 2 _ _ Tryz.underlying32 rfl (by kernel_rfl) hh;simp only[dw,Instr.sureAddr,Sem.run_bind,Sem.run_pure,Result.andThen_ok]at hl;rw[results_cell_tmp h,hp];simp[asAddr,Result.andThen,hl]
theorem atT(l:List Bk)(hs:Fj l)(v:Int)(o:rJ)(hf:o.h.sD)(hw:o.w<18446744073709551616)(Dc:qU v l o≠0)(A:Option aV)(c:Nat)(w:ak)(hR:Gw w w.a.j A l.a l)(hn:l.a<=100000):
 aR ah 71 #[.d #[.b .a v,.a A l.a c],.d o.ay] w (Vm w v l (qU v l o)):=by
 have HS:=ab hs;have HR1:=ab (fun ob uS Ih=>(((hR.alloc (av _) ob).alloc (by simp) uS).alloc (by simp;omega) Ih).lD (B':=(((w.alloc ob).alloc uS).alloc Ih).a.j) (by simp;omega));have HB0:=ab (fun ob uS Ih=>((((aG w.a.j w).alloc (av _) ob).alloc (by simp) uS).alloc (by simp;omega) Ih:aM w.a.j w (((w.alloc ob).alloc uS).alloc Ih)));obtain⟨K,hK⟩:=uP (qU v l o);have OZ:=fun A c W (hR:Gw W W.a.j A l.a l)=>Kw l hs v o hf hw A c W hR (by omega)
 rw[hK]at Dc OZ ⊢;have NC:=ab OZ;clear hR hs OZ hK;have hk0:(K != 0)=true:=by simpa using Dc
 clear Dc;go_enter Gf,DK;go_wp2_with fail;refine(yH l A c _ (HR1.i _ _ _) hn).g ?_;rintro e w1 ⟨A1,c1,rfl,ho1,hb1⟩;have b0:=(((dP.new w _ _).alloc _).alloc _).Y hb1 (by simp;omega);have b1:=((dP.Us w _ _ _).alloc _).Y hb1 (by simp);have b2:=(dP.aiD w _ _ _ _).Y hb1 (by simp);have hz1:w.a.j+2<w1.a.j:=b2.lt;have O1:=ab (iU ho1 (show w.a.j+3<=_ by simp));have HB1:=ab ((HB0.i _ _ _).trans (hb1.g (by simp;omega)));clear ho1 hb1;obtain⟨x1,x2,x3,x4⟩:=b0.R;obtain⟨y1,y2,y3,y4⟩:=b1.R;have B0:=ab b0;have B1:=ab b1;have B2:=ab b2;clear b0 b1 b2;go_wp2_with fail;refine(NC.i A1 c1 _ (pF (jT O1.i (by simp) _))).g ?_;rintro e w2 ⟨rfl,hb2⟩;have hsz:(w1.I ⟨w.a.j,1,none⟩ (bB A1 l.a c1)).a.j=w1.a.j:=by simp[iA]
 have b0:=(B0.i.fC 1 (bB A1 l.a c1)).Y hb2 (by rw[hsz];omega);have b2:=(B2.i.dQ ⟨w.a.j,1,none⟩ (bB A1 l.a c1) (by simp)).Y hb2 (by rw[hsz];omega);have O2:=ab (jH (jT O1.i (by simp) _) hb2);have HB2:=ab ((HB1.i.I (av _) _).trans (hb2.g (by rw[hsz];omega)));clear hb2 hsz x1 x2 x3 x4 y1 y2 y3 y4;obtain⟨x1,x2,x3,x4⟩:=b0.R;obtain⟨y1,y2,y3,y4⟩:=b2.R;have B0:=ab b0;have B2:=ab b2;clear b0 b2;go_wp2_with fail;have b2:=(B2.i.fC 0 (.b .a v)).fC 1 (.a A1 l.a c1);obtain⟨z1,z2,z3,z4⟩:=b2.R;have hZ:=z3 0 2 (av _);refine aO (Fy rfl _ _ _ _ rfl (by rw[hZ];trivial)) rfl ⟨A1,c1,?_,iU (jT (jT O2.i (by simp) _) (by simp) _) (by omega),(HB2.i.I (show w.a.j<=w.a.j+2 by omega) _).I (show w.a.j<=w.a.j+2 by omega) _⟩;rw[z4 0 2 (av _)];rfl
theorem apS(l:List Bk)(s:List UInt8):kP l s<=l.a:=by
 unfold kP;exact(List.takeWhile_sublist _).length_le
theorem atU(l:List Bk)(hs:Fj l)(v:Int)(hv : -9223372036854775808<=v/\v<9223372036854775807)(o:rJ)(hf:o.h.sD)(hw:o.w<18446744073709551616)(Dc:qU v l o=0)(h1:o.kind=1)(A:Option aV)(c:Nat)(w:ak)(hR:Gw w w.a.j A l.a l)(hn:l.a<=100000):
 aR ah 71 #[.d #[.b .a v,.a A l.a c],.d o.ay] w (Vm w (v+1) (AY l (kP l o.h.F) (o.h.OY (kS o.h.w))) 0):=by
 have HS:=ab hs;have HR1:=ab (fun ob uS Ih=>(((hR.alloc (av _) ob).alloc (by simp) uS).alloc (by simp;omega) Ih).lD (B':=(((w.alloc ob).alloc uS).alloc Ih).a.j) (by simp;omega));have HB0:=ab (fun ob uS Ih=>((((aG w.a.j w).alloc (av _) ob).alloc (by simp) uS).alloc (by simp;omega) Ih:aM w.a.j w (((w.alloc ob).alloc uS).alloc Ih)));have OZ:=fun A c W (hR:Gw W W.a.j A l.a l)=>Kw l hs v o hf hw A c W hR (by omega)
 rw[Dc]at OZ;have NC:=ab OZ;clear hR hs OZ Dc;obtain⟨hv1,hv2⟩:=hv;go_enter Gf,DK;go_wp2_with fail;refine(yH l A c _ (HR1.i _ _ _) hn).g ?_;rintro e w1 ⟨A1,c1,rfl,ho1,hb1⟩;have b0:=(((dP.new w _ _).alloc _).alloc _).Y hb1 (by simp;omega);have b1:=((dP.Us w _ _ _).alloc _).Y hb1 (by simp);have b2:=(dP.aiD w _ _ _ _).Y hb1 (by simp);have hz1:w.a.j+2<w1.a.j:=b2.lt;have O1:=ab (iU ho1 (show w.a.j+3<=_ by simp));have HB1:=ab ((HB0.i _ _ _).trans (hb1.g (by simp;omega)));clear ho1 hb1;obtain⟨x1,x2,x3,x4⟩:=b0.R;obtain⟨y1,y2,y3,y4⟩:=b1.R;have B0:=ab b0;have B1:=ab b1;have B2:=ab b2;clear b0 b1 b2;go_wp2_with fail;refine(NC.i A1 c1 _ (pF (jT O1.i (by simp) _))).g ?_;rintro e w2 ⟨rfl,hb2⟩;have hsz:(w1.I ⟨w.a.j,1,none⟩ (bB A1 l.a c1)).a.j=w1.a.j:=by simp[iA]
 have b0:=(B0.i.fC 1 (bB A1 l.a c1)).Y hb2 (by rw[hsz];omega);have b1:=(B1.i.dQ ⟨w.a.j,1,none⟩ (bB A1 l.a c1) (by simp)).Y hb2 (by rw[hsz];omega);have b2:=(B2.i.dQ ⟨w.a.j,1,none⟩ (bB A1 l.a c1) (by simp)).Y hb2 (by rw[hsz];omega);have O2:=ab (jH (jT O1.i (by simp) _) hb2);have HB2:=ab ((HB1.i.I (av _) _).trans (hb2.g (by rw[hsz];omega)));have hz2:w.a.j+2<w2.a.j:=b2.lt;have apT:w.a.j+1<w2.a.j:=b1.lt;have apU:w.a.j<w2.a.j:=b0.lt;clear hb2 hsz x1 x2 x3 x4 y1 y2 y3 y4 hz1 HB1 O1 HR1 NC;obtain⟨x1,x2,x3,x4⟩:=b0.R;obtain⟨y1,y2,y3,y4⟩:=b1.R;have B0:=ab b0;have B1:=ab b1;have B2:=ab b2;clear b0 b1 b2;go_wp2_with fail;refine(Ag _ _).g ?_;rintro e w' ⟨rfl,rfl⟩;go_wp2_with fail;refine(Ma l HS.i o.h.F (v+1) A1 c1 _ (pF (wJ (jT O2.i (by simp) _) _)) (by omega)).g ?_;rintro e w3 ⟨rfl,hb3⟩;have hsz:((w2.I ⟨w.a.j,0,none⟩ (aI .a (v+1))).alloc (.D (o.h.OY (kS o.h.w)).ay 62)).a.j=w2.a.j+1:=by simp[iA]
 have b0:=((B0.i.fC 0 (aI .a (v+1))).alloc (.D (o.h.OY (kS o.h.w)).ay 62)).Y hb3 (by rw[hsz];omega);have b2:=((B2.i.dQ ⟨w.a.j,0,none⟩ (aI .a (v+1)) (by simp)).alloc (.D (o.h.OY (kS o.h.w)).ay 62)).Y hb3 (by rw[hsz];omega);have b3:=(dP.new (w2.I ⟨w.a.j,0,none⟩ (aI .a (v+1))) (o.h.OY (kS o.h.w)).ay 62).Y hb3 (by simp);rw[show(w2.I ⟨w.a.j,0,none⟩ (aI .a (v+1))).a.j=w2.a.j by simp[iA]]at b3;have O3:=ab (jH (wJ (jT O2.i (by simp) _) (.D (o.h.OY (kS o.h.w)).ay 62)) hb3);have HB3:=ab (((HB2.i.I (av _) (aI .a (v+1))).alloc (by simp[iA];omega) (.D (o.h.OY (kS o.h.w)).ay 62)).trans (hb3.g (by rw[hsz];omega)));have hz3:w2.a.j<w3.a.j:=b3.lt;clear hb3 hsz x1 x2 x3 x4 y1 y2 y3 y4 HB2 O2;obtain⟨x1,x2,x3,x4⟩:=b0.R;obtain⟨z1,z2,z3,z4⟩:=b3.R;have B0:=ab b0;have B2:=ab b2;have B3:=ab b3;clear b0 b2 b3;go_wp2_with fail;have hli:kP l o.h.F<=l.a:=apS l _;have hrow:∀k,(bB A1 l.a c1).ownBlock=some k->w.a.j+3<=k:=fun k hk=>(O3.i.lt k hk).1
 refine(afw l (o.h.OY (kS o.h.w)) (kP l o.h.F) hli (w.a.j+3) c1 w3.a.j A1 _ ⟨wJ O3.i _,Ia w3 _,fun g hg=>?_,by simp;omega,hn⟩).g ?_
 ·have:=(O3.i.lt g.block (by rw[hg];rfl)).2
  omega
 rintro e w4 ⟨A4,c4,rfl,ho4,hg4⟩;have b0:=(B0.i.alloc (.D (o.h.OY (kS o.h.w)).ay 62)).grown hg4 (fun e=>by have:=hrow _ e.symm;omega);have b2:=(B2.i.alloc (.D (o.h.OY (kS o.h.w)).ay 62)).grown hg4 (fun e=>by have:=hrow _ e.symm;omega);have O4:=ab ho4;have hz4:w.a.j+2<w4.a.j:=b2.lt;have HB4:=ab ((HB3.i.alloc (by omega) (.D (o.h.OY (kS o.h.w)).ay 62)).grown hg4 (by simp;omega) (fun k hk=>by have:=hrow k hk;omega));have hil:=zq l (kP l o.h.F) (o.h.OY (kS o.h.w));obtain⟨l4,hl4⟩:=cB (AY l (kP l o.h.F) (o.h.OY (kS o.h.w)));rw[<-hl4]at ho4 O4 ⊢;have HL4:=ab hl4;clear hg4 ho4 x1 x2 x3 x4 z1 z2 z3 z4 HB3 O3 hl4 hil;obtain⟨x1,x2,x3,x4⟩:=b0.R;obtain⟨y1,y2,y3,y4⟩:=b2.R;have B0:=ab b0;have B2:=ab b2;clear b0 b2;go_wp2_with fail;have b2:=(B2.i.dQ ⟨w.a.j,1,none⟩ (.a A4 l4.a c4) (by simp)).fC 0 (.b .a (v+1)) |>.fC 1 (.a A4 l4.a c4)
 obtain⟨z1,z2,z3,z4⟩:=b2.R;have hl4:=HL4.i;subst hl4;have hZ:=z3 0 2 (av _);refine aO (Fy rfl _ _ _ _ rfl (by rw[hZ];trivial)) rfl ⟨A4,c4,?_,iU (base:=w.a.j+3) (jT (jT (jT O4.i (show w.a.j<w.a.j+3 by omega) _) (show w.a.j+2<w.a.j+3 by omega) _) (show w.a.j+2<w.a.j+3 by omega) _) (by omega),((HB4.i.I (av _) _).I (show w.a.j<=w.a.j+2 by omega) _).I (show w.a.j<=w.a.j+2 by omega) _⟩;rw[z4 0 2 (av _)];rfl
theorem xU{l:List Bk}{s:List UInt8}(h:rX l s=true):kP l s<l.a:=by
 unfold rX at h;simp at h;exact h.1
theorem atV(l:List Bk)(hs:Fj l)(v:Int)(hv : -9223372036854775808<=v/\v<9223372036854775807)(o:rJ)(hf:o.h.sD)(hw:o.w<18446744073709551616)(Dc:qU v l o=0)(h1:o.kind=2)(hn0:rX l o.F=true)(A:Option aV)(c:Nat)(w:ak)(hR:Gw w w.a.j A l.a l)(hn:l.a<=100000):
 aR ah 71 #[.d #[.b .a v,.a A l.a c],.d o.ay] w (Vm w (v+1) (Fx l (kP l o.F)) 0):=by
 have HS:=ab hs;have HR1:=ab (fun ob uS Ih=>(((hR.alloc (av _) ob).alloc (by simp) uS).alloc (by simp;omega) Ih).lD (B':=(((w.alloc ob).alloc uS).alloc Ih).a.j) (by simp;omega));have HB0:=ab (fun ob uS Ih=>((((aG w.a.j w).alloc (av _) ob).alloc (by simp) uS).alloc (by simp;omega) Ih:aM w.a.j w (((w.alloc ob).alloc uS).alloc Ih)));have OZ:=fun A c W (hR:Gw W W.a.j A l.a l)=>Kw l hs v o hf hw A c W hR (by omega)
 rw[Dc]at OZ;have NC:=ab OZ;clear hR hs OZ Dc;obtain⟨hv1,hv2⟩:=hv;have hli:=xU hn0;have hin:((kP l o.F:Nat):Int)<(l.a:Nat):=by omega
 clear hn0;go_enter Gf,DK;go_wp2_with fail;refine(yH l A c _ (HR1.i _ _ _) hn).g ?_;rintro e w1 ⟨A1,c1,rfl,ho1,hb1⟩;have b0:=(((dP.new w _ _).alloc _).alloc _).Y hb1 (by simp;omega);have b1:=((dP.Us w _ _ _).alloc _).Y hb1 (by simp);have b2:=(dP.aiD w _ _ _ _).Y hb1 (by simp);have hz1:w.a.j+2<w1.a.j:=b2.lt;have O1:=ab (iU ho1 (show w.a.j+3<=_ by simp));have HB1:=ab ((HB0.i _ _ _).trans (hb1.g (by simp;omega)));clear ho1 hb1;obtain⟨x1,x2,x3,x4⟩:=b0.R;obtain⟨y1,y2,y3,y4⟩:=b1.R;have B0:=ab b0;have B1:=ab b1;have B2:=ab b2;clear b0 b1 b2;go_wp2_with fail;refine(NC.i A1 c1 _ (pF (jT O1.i (by simp) _))).g ?_;rintro e w2 ⟨rfl,hb2⟩;have hsz:(w1.I ⟨w.a.j,1,none⟩ (bB A1 l.a c1)).a.j=w1.a.j:=by simp[iA]
 have b0:=(B0.i.fC 1 (bB A1 l.a c1)).Y hb2 (by rw[hsz];omega);have b1:=(B1.i.dQ ⟨w.a.j,1,none⟩ (bB A1 l.a c1) (by simp)).Y hb2 (by rw[hsz];omega);have b2:=(B2.i.dQ ⟨w.a.j,1,none⟩ (bB A1 l.a c1) (by simp)).Y hb2 (by rw[hsz];omega);have O2:=ab (jH (jT O1.i (by simp) _) hb2);have HB2:=ab ((HB1.i.I (av _) _).trans (hb2.g (by rw[hsz];omega)));have hz2:w.a.j+2<w2.a.j:=b2.lt;have apT:w.a.j+1<w2.a.j:=b1.lt;have apU:w.a.j<w2.a.j:=b0.lt;clear hb2 hsz x1 x2 x3 x4 y1 y2 y3 y4 hz1 HB1 O1 HR1 NC;obtain⟨x1,x2,x3,x4⟩:=b0.R;obtain⟨y1,y2,y3,y4⟩:=b1.R;have B0:=ab b0;have B1:=ab b1;have B2:=ab b2;clear b0 b1 b2;go_wp2_with fail;refine(Ma l HS.i o.F (v+1) A1 c1 _ (pF (jT O2.i (by simp) _)) (by omega)).g ?_;rintro e w3 ⟨rfl,hb3⟩;have hsz:(w2.I ⟨w.a.j,0,none⟩ (aI .a (v+1))).a.j=w2.a.j:=by simp[iA]
 have b0:=(B0.i.fC 0 (aI .a (v+1))).Y hb3 (by rw[hsz];omega);have b1:=(B1.i.dQ ⟨w.a.j,0,none⟩ (aI .a (v+1)) (by simp)).Y hb3 (by rw[hsz];omega);have b2:=(B2.i.dQ ⟨w.a.j,0,none⟩ (aI .a (v+1)) (by simp)).Y hb3 (by rw[hsz];omega);have ho3:=jH (jT O2.i (show w.a.j<w.a.j+3 by omega) (aI .a (v+1))) hb3;have HB3:=ab ((HB2.i.I (av _) (aI .a (v+1))).trans (hb3.g (by rw[hsz];omega)));obtain⟨g,hA1⟩:∃g,A1=some ⟨g,0,none⟩:=by
  rcases ho3.2 with⟨hv,h0⟩|⟨g,cap,cur,hv,_⟩
  ·omega
  ·injection hv with e1 _ _
   exact⟨g,e1⟩
 subst hA1;have hgb:w.a.j+3<=g:=(ho3.lt g rfl).1;have hgl:g<w3.a.j:=(ho3.lt g rfl).2;obtain⟨bb,oo,hbo,_,hcc⟩:=(pF ho3).cell hli;injection hbo with hbo
 injection hbo with e1 e2
 subst e1 e2;have O3:=ab ho3;have hz3:w.a.j<w3.a.j:=b0.lt;have atW:w.a.j+1<w3.a.j:=b1.lt;have hz32:w.a.j+2<w3.a.j:=b2.lt;clear hb3 hsz x1 x2 x3 x4 y1 y2 y3 y4 HB2 O2 ho3;obtain⟨x1,x2,x3,x4⟩:=b0.R;obtain⟨y1,y2,y3,y4⟩:=b1.R;obtain⟨u1,u2,u3,u4⟩:=b2.R;have B0:=ab b0;have B2:=ab b2;clear b0 b1 b2;clear hcc;go_wp2_with fail;rcases O3.i.2 with⟨hv,h0⟩|⟨g',cap,cur,hv,q2,q3,q4,q5,q6,q7⟩
 ·cases hv
 injection hv with e1 e2 e3
 injection e1 with e1
 injection e1 with e1
 subst e1 e3;refine(afx l (kP l o.F) hli (w.a.j+3) g c1 cur _ q2 q3 q4 q5 q6 q7 hn).g ?_;rintro e w4 ⟨A4,c4,rfl,ho4,hg4⟩;have b0:=B0.i.grown hg4 (fun e=>by injection e with e;omega);have b2:=B2.i.grown hg4 (fun e=>by injection e with e;omega);have hz4:w.a.j+2<w4.a.j:=b2.lt;have HB4:=ab (HB3.i.grown hg4 (by omega) (fun k hk=>by injection hk with hk;omega));obtain⟨l4,hl4⟩:=cB (Fx l (kP l o.F));rw[<-hl4]at ho4 ⊢;have O4:=ab ho4;have HL4:=ab hl4;clear hg4 ho4 x1 x2 x3 x4 y1 y2 y3 y4 u1 u2 u3 u4 HB3 O3 hl4 q3 q6 q7;obtain⟨x1,x2,x3,x4⟩:=b0.R;obtain⟨y1,y2,y3,y4⟩:=b2.R;have B0:=ab b0;have B2:=ab b2;clear b0 b2;go_wp2_with fail;have b2:=(B2.i.dQ ⟨w.a.j,1,none⟩ (.a A4 l4.a c4) (by simp)).fC 0 (.b .a (v+1)) |>.fC 1 (.a A4 l4.a c4)
 obtain⟨z1,z2,z3,z4⟩:=b2.R;have hl4:=HL4.i;subst hl4;have hZ:=z3 0 2 (av _);refine aO (Fy rfl _ _ _ _ rfl (by rw[hZ];trivial)) rfl ⟨A4,c4,?_,iU (base:=w.a.j+3) (jT (jT (jT O4.i (show w.a.j<w.a.j+3 by omega) _) (show w.a.j+2<w.a.j+3 by omega) _) (show w.a.j+2<w.a.j+3 by omega) _) (by omega),((HB4.i.I (av _) _).I (show w.a.j<=w.a.j+2 by omega) _).I (show w.a.j<=w.a.j+2 by omega) _⟩;rw[z4 0 2 (av _)];rfl
theorem ajg(l:List Bk)(hs:Fj l)(v:Int)(hv : -9223372036854775808<=v/\v<9223372036854775807)(o:rJ)(hf:o.h.sD)(hw:o.w<18446744073709551616)(Dc:qU v l o=0)(h1:o.kind=3)(hn0:rX l o.F=true)(A:Option aV)(c:Nat)(w:ak)(hR:Gw w w.a.j A l.a l)(hn:l.a<=100000):
 aR ah 71 #[.d #[.b .a v,.a A l.a c],.d o.ay] w (Vm w (v+1) (l.set (kP l o.F) ((qg l o.F).OY (kS o.w))) 0):=by
 have HS:=ab hs;have HR1:=ab (fun ob uS Ih=>(((hR.alloc (av _) ob).alloc (by simp) uS).alloc (by simp;omega) Ih).lD (B':=(((w.alloc ob).alloc uS).alloc Ih).a.j) (by simp;omega));have HB0:=ab (fun ob uS Ih=>((((aG w.a.j w).alloc (av _) ob).alloc (by simp) uS).alloc (by simp;omega) Ih:aM w.a.j w (((w.alloc ob).alloc uS).alloc Ih)));have OZ:=fun A c W (hR:Gw W W.a.j A l.a l)=>Kw l hs v o hf hw A c W hR (by omega)
 rw[Dc]at OZ;have NC:=ab OZ;clear hR hs OZ Dc;obtain⟨hv1,hv2⟩:=hv;have hli:=xU hn0;have hin:((kP l o.F:Nat):Int)<(l.a:Nat):=by omega
 have HG:=ab (Fp hn0);clear hn0;go_enter Gf,DK;go_wp2_with fail;refine(yH l A c _ (HR1.i _ _ _) hn).g ?_;rintro e w1 ⟨A1,c1,rfl,ho1,hb1⟩;have b0:=(((dP.new w _ _).alloc _).alloc _).Y hb1 (by simp;omega);have b1:=((dP.Us w _ _ _).alloc _).Y hb1 (by simp);have b2:=(dP.aiD w _ _ _ _).Y hb1 (by simp);have hz1:w.a.j+2<w1.a.j:=b2.lt;have O1:=ab (iU ho1 (show w.a.j+3<=_ by simp));have HB1:=ab ((HB0.i _ _ _).trans (hb1.g (by simp;omega)));clear ho1 hb1;obtain⟨x1,x2,x3,x4⟩:=b0.R;obtain⟨y1,y2,y3,y4⟩:=b1.R;have B0:=ab b0;have B1:=ab b1;have B2:=ab b2;clear b0 b1 b2;go_wp2_with fail;refine(NC.i A1 c1 _ (pF (jT O1.i (by simp) _))).g ?_;rintro e w2 ⟨rfl,hb2⟩;have hsz:(w1.I ⟨w.a.j,1,none⟩ (bB A1 l.a c1)).a.j=w1.a.j:=by simp[iA]
 have b0:=(B0.i.fC 1 (bB A1 l.a c1)).Y hb2 (by rw[hsz];omega);have b1:=(B1.i.dQ ⟨w.a.j,1,none⟩ (bB A1 l.a c1) (by simp)).Y hb2 (by rw[hsz];omega);have b2:=(B2.i.dQ ⟨w.a.j,1,none⟩ (bB A1 l.a c1) (by simp)).Y hb2 (by rw[hsz];omega);have O2:=ab (jH (jT O1.i (by simp) _) hb2);have HB2:=ab ((HB1.i.I (av _) _).trans (hb2.g (by rw[hsz];omega)));have hz2:w.a.j+2<w2.a.j:=b2.lt;have apT:w.a.j+1<w2.a.j:=b1.lt;have apU:w.a.j<w2.a.j:=b0.lt;clear hb2 hsz x1 x2 x3 x4 y1 y2 y3 y4 hz1 HB1 O1 HR1 NC;obtain⟨x1,x2,x3,x4⟩:=b0.R;obtain⟨y1,y2,y3,y4⟩:=b1.R;have B0:=ab b0;have B1:=ab b1;have B2:=ab b2;clear b0 b1 b2;go_wp2_with fail;refine(Ma l HS.i o.F (v+1) A1 c1 _ (pF (jT O2.i (by simp) _)) (by omega)).g ?_;rintro e w3 ⟨rfl,hb3⟩;have hsz:(w2.I ⟨w.a.j,0,none⟩ (aI .a (v+1))).a.j=w2.a.j:=by simp[iA]
 have b0:=(B0.i.fC 0 (aI .a (v+1))).Y hb3 (by rw[hsz];omega);have b1:=(B1.i.dQ ⟨w.a.j,0,none⟩ (aI .a (v+1)) (by simp)).Y hb3 (by rw[hsz];omega);have b2:=(B2.i.dQ ⟨w.a.j,0,none⟩ (aI .a (v+1)) (by simp)).Y hb3 (by rw[hsz];omega);have ho3:=jH (jT O2.i (show w.a.j<w.a.j+3 by omega) (aI .a (v+1))) hb3;have HB3:=ab ((HB2.i.I (av _) (aI .a (v+1))).trans (hb3.g (by rw[hsz];omega)));obtain⟨g,hA1⟩:∃g,A1=some ⟨g,0,none⟩:=by
  rcases ho3.2 with⟨hv,h0⟩|⟨g,cap,cur,hv,_⟩
  ·omega
  ·injection hv with e1 _ _
   exact⟨g,e1⟩
 subst hA1;have hgb:w.a.j+3<=g:=(ho3.lt g rfl).1;have hgl:g<w3.a.j:=(ho3.lt g rfl).2;obtain⟨bb,oo,hbo,_,hcc⟩:=(pF ho3).cell hli;injection hbo with hbo
 injection hbo with e1 e2
 subst e1 e2;have O3:=ab ho3;have hz3:w.a.j<w3.a.j:=b0.lt;have atW:w.a.j+1<w3.a.j:=b1.lt;have hz32:w.a.j+2<w3.a.j:=b2.lt;clear hb3 hsz x1 x2 x3 x4 y1 y2 y3 y4 HB2 O2 ho3;have hcl:w3.b ⟨g,kP l o.F*27+25,none⟩=some (.float .f64 (qg l o.F).w):=by
  have:=hcc 25 (by omega);rw[bC]at this;rw[this,<-HG.i];exact Bk.ae0 _
 have hfr:w3.frozen? ⟨g,kP l o.F*27+25,none⟩=false:=by
  rcases O3.i.2 with⟨hv,h0⟩|⟨g',cap,cur,hv,q2,q3,q4,q5,q6,q7⟩
  ·cases hv
  injection hv with e1 e2 e3
  injection e1 with e1
  injection e1 with e1
  subst e1;simp[tF,q3]
 clear hcc;obtain⟨x1,x2,x3,x4⟩:=b0.R;obtain⟨y1,y2,y3,y4⟩:=b1.R;obtain⟨u1,u2,u3,u4⟩:=b2.R;have B0:=ab b0;have B2:=ab b2;clear b0 b1 b2;go_wp2_with fail;refine(Ag _ _).g ?_;rintro e w' ⟨rfl,rfl⟩;go_wp2_with fail;have O4:=ab (Tp O3.i (kP l o.F*27+25) (by omega) (.float .f64 (kS o.w)));have hxs:(dL l).set (kP l o.F*27+25) (.float .f64 (kS o.w))=dL (l.set (kP l o.F) ((qg l o.F).OY (kS o.w))):=
  Jv l (kP l o.F) hli _ 25 (by omega) _ (by rw[<-HG.i];exact(Bk.axY (qg l o.F) _).symm)
 rw[hxs]at O4;have b2:=((B2.i.dQ ⟨g,kP l o.F*27+25,none⟩ (.float .f64 (kS o.w)) (by show g≠_;omega)).fC 0 (.b .a (v+1))).fC 1 (.a (some ⟨g,0,none⟩) l.a c1);obtain⟨z1,z2,z3,z4⟩:=b2.R;have hZ:=z3 0 2 (av _);have hlen:(l.set (kP l o.F) ((qg l o.F).OY (kS o.w))).a=l.a:=aS;refine aO (Fy rfl _ _ _ _ rfl (by rw[hZ];trivial)) rfl ⟨some ⟨g,0,none⟩,c1,?_,?_,((HB3.i.I (show w.a.j<=g by omega) _).I (show w.a.j<=w.a.j+2 by omega) _).I (show w.a.j<=w.a.j+2 by omega) _⟩
 ·rw[z4 0 2 (av _),hlen]
  rfl
 ·rw[hlen]
  exact iU (base:=w.a.j+3) (jT (jT O4.i (show w.a.j+2<w.a.j+3 by omega) _) (show w.a.j+2<w.a.j+3 by omega) _) (by omega)
theorem ami(l:List Bk)(hs:Fj l)(v:Int)(hv : -9223372036854775808<=v/\v<9223372036854775807)(o:rJ)(hf:o.h.sD)(hw:o.w<18446744073709551616)(Dc:qU v l o=0)(h1:o.kind=4)(hn0:rX l o.F=true)(A:Option aV)(c:Nat)(w:ak)(hR:Gw w w.a.j A l.a l)(hn:l.a<=100000):
 aR ah 71 #[.d #[.b .a v,.a A l.a c],.d o.ay] w (Vm w (v+1) (l.set (kP l o.F) ((qg l o.F).toD true)) 0):=by
 have HS:=ab hs;have HR1:=ab (fun ob uS Ih=>(((hR.alloc (av _) ob).alloc (by simp) uS).alloc (by simp;omega) Ih).lD (B':=(((w.alloc ob).alloc uS).alloc Ih).a.j) (by simp;omega));have HB0:=ab (fun ob uS Ih=>((((aG w.a.j w).alloc (av _) ob).alloc (by simp) uS).alloc (by simp;omega) Ih:aM w.a.j w (((w.alloc ob).alloc uS).alloc Ih)));have OZ:=fun A c W (hR:Gw W W.a.j A l.a l)=>Kw l hs v o hf hw A c W hR (by omega)
 rw[Dc]at OZ;have NC:=ab OZ;clear hR hs OZ Dc;obtain⟨hv1,hv2⟩:=hv;have hli:=xU hn0;have hin:((kP l o.F:Nat):Int)<(l.a:Nat):=by omega
 have HG:=ab (Fp hn0);clear hn0;go_enter Gf,DK;go_wp2_with fail;refine(yH l A c _ (HR1.i _ _ _) hn).g ?_;rintro e w1 ⟨A1,c1,rfl,ho1,hb1⟩;have b0:=(((dP.new w _ _).alloc _).alloc _).Y hb1 (by simp;omega);have b1:=((dP.Us w _ _ _).alloc _).Y hb1 (by simp);have b2:=(dP.aiD w _ _ _ _).Y hb1 (by simp);have hz1:w.a.j+2<w1.a.j:=b2.lt;have O1:=ab (iU ho1 (show w.a.j+3<=_ by simp));have HB1:=ab ((HB0.i _ _ _).trans (hb1.g (by simp;omega)));clear ho1 hb1;obtain⟨x1,x2,x3,x4⟩:=b0.R;obtain⟨y1,y2,y3,y4⟩:=b1.R;have B0:=ab b0;have B1:=ab b1;have B2:=ab b2;clear b0 b1 b2;go_wp2_with fail;refine(NC.i A1 c1 _ (pF (jT O1.i (by simp) _))).g ?_;rintro e w2 ⟨rfl,hb2⟩;have hsz:(w1.I ⟨w.a.j,1,none⟩ (bB A1 l.a c1)).a.j=w1.a.j:=by simp[iA]
 have b0:=(B0.i.fC 1 (bB A1 l.a c1)).Y hb2 (by rw[hsz];omega);have b1:=(B1.i.dQ ⟨w.a.j,1,none⟩ (bB A1 l.a c1) (by simp)).Y hb2 (by rw[hsz];omega);have b2:=(B2.i.dQ ⟨w.a.j,1,none⟩ (bB A1 l.a c1) (by simp)).Y hb2 (by rw[hsz];omega);have O2:=ab (jH (jT O1.i (by simp) _) hb2);have HB2:=ab ((HB1.i.I (av _) _).trans (hb2.g (by rw[hsz];omega)));have hz2:w.a.j+2<w2.a.j:=b2.lt;have apT:w.a.j+1<w2.a.j:=b1.lt;have apU:w.a.j<w2.a.j:=b0.lt;clear hb2 hsz x1 x2 x3 x4 y1 y2 y3 y4 hz1 HB1 O1 HR1 NC;obtain⟨x1,x2,x3,x4⟩:=b0.R;obtain⟨y1,y2,y3,y4⟩:=b1.R;have B0:=ab b0;have B1:=ab b1;have B2:=ab b2;clear b0 b1 b2;go_wp2_with fail;refine(Ma l HS.i o.F (v+1) A1 c1 _ (pF (jT O2.i (by simp) _)) (by omega)).g ?_;rintro e w3 ⟨rfl,hb3⟩;have hsz:(w2.I ⟨w.a.j,0,none⟩ (aI .a (v+1))).a.j=w2.a.j:=by simp[iA]
 have b0:=(B0.i.fC 0 (aI .a (v+1))).Y hb3 (by rw[hsz];omega);have b1:=(B1.i.dQ ⟨w.a.j,0,none⟩ (aI .a (v+1)) (by simp)).Y hb3 (by rw[hsz];omega);have b2:=(B2.i.dQ ⟨w.a.j,0,none⟩ (aI .a (v+1)) (by simp)).Y hb3 (by rw[hsz];omega);have ho3:=jH (jT O2.i (show w.a.j<w.a.j+3 by omega) (aI .a (v+1))) hb3;have HB3:=ab ((HB2.i.I (av _) (aI .a (v+1))).trans (hb3.g (by rw[hsz];omega)));obtain⟨g,hA1⟩:∃g,A1=some ⟨g,0,none⟩:=by
  rcases ho3.2 with⟨hv,h0⟩|⟨g,cap,cur,hv,_⟩
  ·omega
  ·injection hv with e1 _ _
   exact⟨g,e1⟩
 subst hA1;have hgb:w.a.j+3<=g:=(ho3.lt g rfl).1;have hgl:g<w3.a.j:=(ho3.lt g rfl).2;obtain⟨bb,oo,hbo,_,hcc⟩:=(pF ho3).cell hli;injection hbo with hbo
 injection hbo with e1 e2
 subst e1 e2;have O3:=ab ho3;have hz3:w.a.j<w3.a.j:=b0.lt;have atW:w.a.j+1<w3.a.j:=b1.lt;have hz32:w.a.j+2<w3.a.j:=b2.lt;clear hb3 hsz x1 x2 x3 x4 y1 y2 y3 y4 HB2 O2 ho3;have hcl:w3.b ⟨g,kP l o.F*27+26,none⟩=some (.bool (qg l o.F).drain):=by
  have:=hcc 26 (by omega);rw[bC]at this;rw[this,<-HG.i];exact Bk.ae1 _
 have hfr:w3.frozen? ⟨g,kP l o.F*27+26,none⟩=false:=by
  rcases O3.i.2 with⟨hv,h0⟩|⟨g',cap,cur,hv,q2,q3,q4,q5,q6,q7⟩
  ·cases hv
  injection hv with e1 e2 e3
  injection e1 with e1
  injection e1 with e1
  subst e1;simp[tF,q3]
 clear hcc;obtain⟨x1,x2,x3,x4⟩:=b0.R;obtain⟨y1,y2,y3,y4⟩:=b1.R;obtain⟨u1,u2,u3,u4⟩:=b2.R;have B0:=ab b0;have B2:=ab b2;clear b0 b1 b2;go_wp2_with fail;have O4:=ab (Tp O3.i (kP l o.F*27+26) (by omega) (.bool true));have hxs:(dL l).set (kP l o.F*27+26) (.bool true)=dL (l.set (kP l o.F) ((qg l o.F).toD true)):=
  Jv l (kP l o.F) hli _ 26 (by omega) _ (by rw[<-HG.i];exact(Bk.ar9 (qg l o.F) _).symm)
 rw[hxs]at O4;have b2:=((B2.i.dQ ⟨g,kP l o.F*27+26,none⟩ (.bool true) (by show g≠_;omega)).fC 0 (.b .a (v+1))).fC 1 (.a (some ⟨g,0,none⟩) l.a c1);obtain⟨z1,z2,z3,z4⟩:=b2.R;have hZ:=z3 0 2 (av _);have hlen:(l.set (kP l o.F) ((qg l o.F).toD true)).a=l.a:=aS;refine aO (Fy rfl _ _ _ _ rfl (by rw[hZ];trivial)) rfl ⟨some ⟨g,0,none⟩,c1,?_,?_,((HB3.i.I (show w.a.j<=g by omega) _).I (show w.a.j<=w.a.j+2 by omega) _).I (show w.a.j<=w.a.j+2 by omega) _⟩
 ·rw[z4 0 2 (av _),hlen]
  rfl
 ·rw[hlen]
  exact iU (base:=w.a.j+3) (jT (jT O4.i (show w.a.j+2<w.a.j+3 by omega) _) (show w.a.j+2<w.a.j+3 by omega) _) (by omega)
theorem apW(l:List Bk)(hs:Fj l)(v:Int)(hv : -9223372036854775808<=v/\v<9223372036854775807)(o:rJ)(hf:o.h.sD)(hw:o.w<18446744073709551616)(Dc:qU v l o=0)(h1:o.kind=5)(hn0:rX l o.F=true)(A:Option aV)(c:Nat)(w:ak)(hR:Gw w w.a.j A l.a l)(hn:l.a<=100000):
 aR ah 71 #[.d #[.b .a v,.a A l.a c],.d o.ay] w (Vm w (v+1) (l.set (kP l o.F) ((qg l o.F).toD false)) 0):=by
 have HS:=ab hs;have HR1:=ab (fun ob uS Ih=>(((hR.alloc (av _) ob).alloc (by simp) uS).alloc (by simp;omega) Ih).lD (B':=(((w.alloc ob).alloc uS).alloc Ih).a.j) (by simp;omega));have HB0:=ab (fun ob uS Ih=>((((aG w.a.j w).alloc (av _) ob).alloc (by simp) uS).alloc (by simp;omega) Ih:aM w.a.j w (((w.alloc ob).alloc uS).alloc Ih)));have OZ:=fun A c W (hR:Gw W W.a.j A l.a l)=>Kw l hs v o hf hw A c W hR (by omega)
 rw[Dc]at OZ;have NC:=ab OZ;clear hR hs OZ Dc;obtain⟨hv1,hv2⟩:=hv;have hli:=xU hn0;have hin:((kP l o.F:Nat):Int)<(l.a:Nat):=by omega
 have HG:=ab (Fp hn0);clear hn0;go_enter Gf,DK;go_wp2_with fail;refine(yH l A c _ (HR1.i _ _ _) hn).g ?_;rintro e w1 ⟨A1,c1,rfl,ho1,hb1⟩;have b0:=(((dP.new w _ _).alloc _).alloc _).Y hb1 (by simp;omega);have b1:=((dP.Us w _ _ _).alloc _).Y hb1 (by simp);have b2:=(dP.aiD w _ _ _ _).Y hb1 (by simp);have hz1:w.a.j+2<w1.a.j:=b2.lt;have O1:=ab (iU ho1 (show w.a.j+3<=_ by simp));have HB1:=ab ((HB0.i _ _ _).trans (hb1.g (by simp;omega)));clear ho1 hb1;obtain⟨x1,x2,x3,x4⟩:=b0.R;obtain⟨y1,y2,y3,y4⟩:=b1.R;have B0:=ab b0;have B1:=ab b1;have B2:=ab b2;clear b0 b1 b2;go_wp2_with fail;refine(NC.i A1 c1 _ (pF (jT O1.i (by simp) _))).g ?_;rintro e w2 ⟨rfl,hb2⟩;have hsz:(w1.I ⟨w.a.j,1,none⟩ (bB A1 l.a c1)).a.j=w1.a.j:=by simp[iA]
 have b0:=(B0.i.fC 1 (bB A1 l.a c1)).Y hb2 (by rw[hsz];omega);have b1:=(B1.i.dQ ⟨w.a.j,1,none⟩ (bB A1 l.a c1) (by simp)).Y hb2 (by rw[hsz];omega);have b2:=(B2.i.dQ ⟨w.a.j,1,none⟩ (bB A1 l.a c1) (by simp)).Y hb2 (by rw[hsz];omega);have O2:=ab (jH (jT O1.i (by simp) _) hb2);have HB2:=ab ((HB1.i.I (av _) _).trans (hb2.g (by rw[hsz];omega)));have hz2:w.a.j+2<w2.a.j:=b2.lt;have apT:w.a.j+1<w2.a.j:=b1.lt;have apU:w.a.j<w2.a.j:=b0.lt;clear hb2 hsz x1 x2 x3 x4 y1 y2 y3 y4 hz1 HB1 O1 HR1 NC;obtain⟨x1,x2,x3,x4⟩:=b0.R;obtain⟨y1,y2,y3,y4⟩:=b1.R;have B0:=ab b0;have B1:=ab b1;have B2:=ab b2;clear b0 b1 b2;go_wp2_with fail;refine(Ma l HS.i o.F (v+1) A1 c1 _ (pF (jT O2.i (by simp) _)) (by omega)).g ?_;rintro e w3 ⟨rfl,hb3⟩;have hsz:(w2.I ⟨w.a.j,0,none⟩ (aI .a (v+1))).a.j=w2.a.j:=by simp[iA]
 have b0:=(B0.i.fC 0 (aI .a (v+1))).Y hb3 (by rw[hsz];omega);have b1:=(B1.i.dQ ⟨w.a.j,0,none⟩ (aI .a (v+1)) (by simp)).Y hb3 (by rw[hsz];omega);have b2:=(B2.i.dQ ⟨w.a.j,0,none⟩ (aI .a (v+1)) (by simp)).Y hb3 (by rw[hsz];omega);have ho3:=jH (jT O2.i (show w.a.j<w.a.j+3 by omega) (aI .a (v+1))) hb3;have HB3:=ab ((HB2.i.I (av _) (aI .a (v+1))).trans (hb3.g (by rw[hsz];omega)));obtain⟨g,hA1⟩:∃g,A1=some ⟨g,0,none⟩:=by
  rcases ho3.2 with⟨hv,h0⟩|⟨g,cap,cur,hv,_⟩
  ·omega
  ·injection hv with e1 _ _
   exact⟨g,e1⟩
 subst hA1;have hgb:w.a.j+3<=g:=(ho3.lt g rfl).1;have hgl:g<w3.a.j:=(ho3.lt g rfl).2;obtain⟨bb,oo,hbo,_,hcc⟩:=(pF ho3).cell hli;injection hbo with hbo
 injection hbo with e1 e2
 subst e1 e2;have O3:=ab ho3;have hz3:w.a.j<w3.a.j:=b0.lt;have atW:w.a.j+1<w3.a.j:=b1.lt;have hz32:w.a.j+2<w3.a.j:=b2.lt;clear hb3 hsz x1 x2 x3 x4 y1 y2 y3 y4 HB2 O2 ho3;have hcl:w3.b ⟨g,kP l o.F*27+26,none⟩=some (.bool (qg l o.F).drain):=by
  have:=hcc 26 (by omega);rw[bC]at this;rw[this,<-HG.i];exact Bk.ae1 _
 have hfr:w3.frozen? ⟨g,kP l o.F*27+26,none⟩=false:=by
  rcases O3.i.2 with⟨hv,h0⟩|⟨g',cap,cur,hv,q2,q3,q4,q5,q6,q7⟩
  ·cases hv
  injection hv with e1 e2 e3
  injection e1 with e1
  injection e1 with e1
  subst e1;simp[tF,q3]
 clear hcc;obtain⟨x1,x2,x3,x4⟩:=b0.R;obtain⟨y1,y2,y3,y4⟩:=b1.R;obtain⟨u1,u2,u3,u4⟩:=b2.R;have B0:=ab b0;have B2:=ab b2;clear b0 b1 b2;go_wp2_with fail;have O4:=ab (Tp O3.i (kP l o.F*27+26) (by omega) (.bool false));have hxs:(dL l).set (kP l o.F*27+26) (.bool false)=dL (l.set (kP l o.F) ((qg l o.F).toD false)):=
  Jv l (kP l o.F) hli _ 26 (by omega) _ (by rw[<-HG.i];exact(Bk.ar9 (qg l o.F) _).symm)
 rw[hxs]at O4;have b2:=((B2.i.dQ ⟨g,kP l o.F*27+26,none⟩ (.bool false) (by show g≠_;omega)).fC 0 (.b .a (v+1))).fC 1 (.a (some ⟨g,0,none⟩) l.a c1);obtain⟨z1,z2,z3,z4⟩:=b2.R;have hZ:=z3 0 2 (av _);have hlen:(l.set (kP l o.F) ((qg l o.F).toD false)).a=l.a:=aS;refine aO (Fy rfl _ _ _ _ rfl (by rw[hZ];trivial)) rfl ⟨some ⟨g,0,none⟩,c1,?_,?_,((HB3.i.I (show w.a.j<=g by omega) _).I (show w.a.j<=w.a.j+2 by omega) _).I (show w.a.j<=w.a.j+2 by omega) _⟩
 ·rw[z4 0 2 (av _),hlen]
  rfl
 ·rw[hlen]
  exact iU (base:=w.a.j+3) (jT (jT O4.i (show w.a.j+2<w.a.j+3 by omega) _) (show w.a.j+2<w.a.j+3 by omega) _) (by omega)
theorem Df(l:List Bk)(i:Nat)(hi:i<l.a):nm l i=(l[i]'hi).F:=by
 unfold nm;rw[au,aC hi];rfl
theorem Yw(a:List UInt8):nu a a=0:=Fh.2 rfl
theorem vT{v:Int}{l:List Bk}:zf v l=true↔0<=v/\v<=1099511627776/\l.a<=1024/\(∀x∈l,x.Cz=true/\Xo x.w=true)/\Fj l:=by
 unfold zf K7;simp only[bf,decide_eq_true_eq,List.all_eq_true,List.mem_range,Bool.or_eq_true];constructor
 ·rintro⟨⟨⟨h1,h2⟩,h3⟩,h4⟩
  refine⟨h1,h2,h3,fun x hx=>?_,?_⟩
  ·obtain⟨i,hi,rfl⟩:=kM hx
   have:=(h4 i hi).1;rw[au,aC hi]at this;exact this
  ·unfold Fj
   have key:∀d i (hi:i+d+1<l.a),nu (nm l i) (nm l (i+d+1))<0:=by
    intro d
    induction d with
    | zero=>
      intro i hi;have:=(h4 (i+1) hi).2;rcases this with h|h
      ·omega
      ·simpa using h
    | succ d ih=>
      intro i hi;have h5:=ih i (by omega);have h6:=(h4 (i+d+1+1) hi).2;rcases h6 with h|h
      ·omega
      ·have h7:nu (nm l (i+d+1)) (nm l (i+(d+1)+1))<0:=by simpa[kY]using h
       exact Gy h5 h7
   rw[gF];intro i j hi hj hij;have:=key (j-i-1) i (by omega);rw[show i+(j-i-1)+1=j by omega,Df l i hi,Df l j hj]at this;exact this
 ·rintro⟨h1,h2,h3,h4,h5⟩
  refine⟨⟨⟨h1,h2⟩,h3⟩,fun i hi=>⟨?_,?_⟩⟩
  ·have:=h4 (l[i]'hi) (eZ hi)
   rw[au,aC hi];exact this
  ·rcases eB i with h|h
   ·exact .b h
   ·exact .a (h5.lt (by omega) hi)
theorem amj{l:List Bk}(hs:Fj l){s:List UInt8}:rX l s=true↔∃x∈l,x.F=s:=by
 constructor
 ·intro h
  have hl:=xU h;unfold rX at h;simp at h;refine⟨l[kP l s]'hl,eZ hl,?_⟩;rw[<-Df l _ hl];exact Fh.1 h.2
 ·rintro⟨x,hx,rfl⟩
  obtain⟨i,hi,rfl⟩:=kM hx;exact(ahl hs hi (Df l i hi)).2
theorem adg{l:List Bk}(hs:Fj l){x:Bk}(hx:x∈l):qg l x.F=x:=by
 obtain⟨i,hi,rfl⟩:=kM hx;obtain⟨h1,h2⟩:=ahl hs hi (Df l i hi);rw[Fp h2,h1,au,aC hi];rfl
theorem TL{l:List Bk}{s:List UInt8}(h:rX l s=true):qg l s∈l/\(qg l s).F=s:=by
 have hl:=xU h;rw[Fp h,au,aC hl];refine⟨eZ hl,?_⟩;unfold rX at h;simp at h;show(l[kP l s]).F=s;rw[<-Df l _ hl];exact Fh.1 h.2
theorem afA{l:List Bk}{s:List UInt8}(h:rX l s=true):nm l (kP l s)=s:=by
 unfold rX at h;simp at h;exact Fh.1 h.2
theorem Yx(l:List Bk)(s:List UInt8):(∀i,i<kP l s->nu (nm l i) s<0)/\(kP l s<l.a->¬nu (nm l (kP l s)) s<0):=by
 induction l with
 | nil=>exact⟨fun i hi=>absurd hi (by simp[kP]),fun h=>absurd h (by simp)⟩
 | cons x l ih=>
   by_cases hx:nu x.F s<0
   ·have e:kP (x::l) s=kP l s+1:=by unfold kP;rw[List.takeWhile_cons];simp[hx]
    rw[e];refine⟨fun i hi=>?_,fun h=>?_⟩
    ·rcases i with _|i
     ·exact hx
     ·exact ih.1 i (by omega)
    ·exact ih.2 (by simpa using h)
   ·have e:kP (x::l) s=0:=by unfold kP;rw[List.takeWhile_cons];simp[hx]
    rw[e];exact⟨fun i hi=>by omega,fun _=>hx⟩
theorem Vn{l:List Bk}(s:List UInt8){x:Bk}(hx:x∈l.E (kP l s)):nu x.F s<0:=by
 obtain⟨i,hi,rfl⟩:=kM hx;rw[bE]at hi;rw[List.getElem_take,<-Df l i (by omega)];exact(Yx l s).1 i (by omega)
theorem amk{l:List Bk}(s:List UInt8)(h:kP l s<l.a):¬nu (nm l (kP l s)) s<0:=(Yx l s).2 h
theorem Yy{l:List Bk}(hs:Fj l)(s:List UInt8)(hno:rX l s=false){x:Bk}(hx:x∈l.G (kP l s)):nu s x.F<0:=by
 obtain⟨i,hi,rfl⟩:=kM hx;rw[fZ]at hi;rw[List.getElem_drop];have h0:=amk s (show kP l s<l.a by omega);have h1:nu (nm l (kP l s)) s≠0:=by
  intro h;unfold rX at hno;simp[show kP l s<l.a by omega,h]at hno
 have h2:nu s (nm l (kP l s))<0:=by
  rw[aiU];have:=ae9 (nm l (kP l s)) s;omega
 rw[<-Df l _ (by omega)];rcases eB i with h|h
 ·subst h;simpa using h2
 ·exact Gy h2 (hs.lt (by omega) (by omega))
theorem apX{l:List Bk}{k:Nat}{x y:Bk}:y∈AY l k x↔y=x\/y∈l:=by
 unfold AY;rw[qP,bD];have:y∈l↔y∈l.E k\/y∈l.G k:=by rw[<-qP,iQ]
 rw[this];constructor
 ·rintro(h|h|h)
  ·exact .a (.b h)
  ·exact .b h
  ·exact .a (.a h)
 ·rintro(h|h|h)
  ·exact .a (.b h)
  ·exact .b h
  ·exact .a (.a h)
theorem apY{l:List Bk}(hs:Fj l){x:Bk}(hno:rX l x.F=false):Fj (AY l (kP l x.F) x):=by
 unfold Fj AY;rw[List.pairwise_append];refine⟨hs.sublist (List.take_sublist _ _),?_,?_⟩
 ·rw[gX]
  exact⟨fun y hy=>Yy hs x.F hno hy,hs.sublist (List.drop_sublist _ _)⟩
 ·intro a ha b hb
  rcases bD.1 hb with rfl|hb
  ·exact Vn _ ha
  ·exact Gy (Vn _ ha) (Yy hs x.F hno hb)
theorem apZ{l:List Bk}(hs:Fj l)(i:Nat):Fj (Fx l i):=by
 unfold Fx;refine hs.sublist ?_
 conv=>rhs;rw[<-iQ i l]
 exact List.Sublist.append_left (by rw[<-List.drop_drop];exact List.drop_sublist _ _) _
theorem ahF{l:List Bk}(hs:Fj l){i:Nat}(hi:i<l.a){y:Bk}:y∈Fx l i↔y∈l/\y.F≠nm l i:=by
 have e:l=l.E i++l[i]::l.G (i+1):=by
  conv=>lhs;rw[<-iQ i l,lG hi]
 unfold Fx;constructor
 ·intro h
  have hm:y∈l:=by
   rw[e];rcases qP.1 h with h|h
   ·exact BZ _ h
   ·exact List.mem_append_right _ (List.mem_cons_of_mem _ h)
  refine⟨hm,fun hn=>?_⟩;rw[Df l i hi]at hn;have hs2:=hs;unfold Fj at hs2;rw[e,List.pairwise_append,gX]at hs2;rcases qP.1 h with h|h
  ·have:=hs2.2.2 y h l[i] (List.mem_cons_self ..)
   rw[hn,Yw]at this;omega
  ·have:=hs2.2.1.1 y h
   rw[hn,Yw]at this;omega
 ·rintro⟨hm,hn⟩
  rw[e]at hm;rcases qP.1 hm with h|h
  ·exact BZ _ h
  ·rcases bD.1 h with rfl|h
   ·exact absurd (Df l i hi).symm hn
   ·exact List.mem_append_right _ h
theorem ahG{l:List Bk}(hs:Fj l){i:Nat}(hi:i<l.a){z:Bk}(hz:z.F=nm l i):Fj (l.set i z):=by
 unfold Fj;rw[gF];intro a b ha hb hab;rw[aS]at ha hb;have hn:∀j (hj:j<(l.set i z).a),((l.set i z)[j]).F=nm l j:=by
  intro j hj;rw[aS]at hj;rw[List.getElem_set];split
  ·rename_i h;subst h;exact hz
  ·exact(Df l j hj).symm
 rw[hn,hn];exact hs.lt hab hb
theorem ahH{l:List Bk}(hs:Fj l){i:Nat}(hi:i<l.a){z y:Bk}(hz:z.F=nm l i):y∈l.set i z↔y=z\/(y∈l/\y.F≠nm l i):=by
 have e:l=l.E i++l[i]::l.G (i+1):=by
  conv=>lhs;rw[<-iQ i l,lG hi]
 have e2:l.set i z=l.E i++z::l.G (i+1):=List.set_eq_take_append_cons_drop ▸ (by rw[if_pos hi]);have hd:=@ahF l hs i hi y;rw[e2,qP,bD];unfold Fx at hd;rw[qP]at hd;rw[<-hd];constructor
 ·rintro(h|h|h)
  ·exact .a (.b h)
  ·exact .b h
  ·exact .a (.a h)
 ·rintro(h|h|h)
  ·exact .a (.b h)
  ·exact .b h
  ·exact .a (.a h)
def doV(v:Int)(l:List Bk)(o:rJ):Int:=if qU v l o=0 then v+1 else v
def doL(v:Int)(l:List Bk)(o:rJ):List Bk:=if qU v l o=0 then P9 l o else l
theorem atX(l:List Bk)(hs:Fj l)(v:Int)(hv : -9223372036854775808<=v/\v<9223372036854775807)(o:rJ)(hf:o.h.sD)(hw:o.w<18446744073709551616)(A:Option aV)(c:Nat)(w:ak)(hR:Gw w w.a.j A l.a l)(hn:l.a<=100000):
 aR ah 71 #[.d #[.b .a v,.a A l.a c],.d o.ay] w (Vm w (doV v l o) (doL v l o) (qU v l o)):=by
 by_cases h:qU v l o=0
 ·have hV:doV v l o=v+1:=by simp[doV,h]
  have hL:doL v l o=P9 l o:=by simp[doL,h]
  rw[hV,hL,h];obtain⟨k1,k2,k3,k4,k5,k6⟩:=aaH h;unfold P9;by_cases h1:o.kind=1
  ·rw[if_pos h1]
   exact atU l hs v hv o hf hw h h1 A c w hR hn
  ·rw[if_neg h1]
   by_cases h2:o.kind=2
   ·rw[if_pos h2]
    exact atV l hs v hv o hf hw h h2 (k6 h1) A c w hR hn
   ·rw[if_neg h2]
    by_cases h3:o.kind=3
    ·rw[if_pos h3]
     exact ajg l hs v hv o hf hw h h3 (k6 h1) A c w hR hn
    ·rw[if_neg h3]
     by_cases h4:o.kind=4
     ·rw[show(o.kind==4)=true by simpa using h4]
      exact ami l hs v hv o hf hw h h4 (k6 h1) A c w hR hn
     ·rw[show(o.kind==4)=false by simpa using h4]
      exact apW l hs v hv o hf hw h (by omega) (k6 h1) A c w hR hn
 ·have hV:doV v l o=v:=by simp[doV,h]
  have hL:doL v l o=l:=by simp[doL,h]
  rw[hV,hL];exact atT l hs v o hf hw h A c w hR hn
structure pW where
 F:List UInt8
 q:Int
deriving DecidableEq
def pW.ay(x:pW):Array aB:=#[.g (bK x.F),.b .a x.q]
def Cc(l:List pW):List aB:=l.flatMap (·.ay.a)
theorem GL(l:List pW)(x:pW):Cc (l++[x])=Cc l++x.ay.a:=by simp[Cc]
theorem aaI:∃i:TypeInfo,ah.l 151=some i/\i.zero=some (.d #[.g ⟨#[]⟩,.b .a 0])/\i.j=2/\i.bytes<=200:=by
 cases h:ah.l 151 with
 | none=>exact absurd h (by have:(ah.l 151).isSome=true:=by kernel_rfl
                            intro e;rw[e]at this;cases this)
 | some i=>
   have h1:(ah.l 151).map (·.j)=some 2:=by kernel_rfl
   have h2:(ah.l 151).map (fun i=>decide (i.bytes<=200))=some true:=by kernel_rfl
   have h3:(ah.l 151).map (·.zero)=some (some (.d #[.g ⟨#[]⟩,.b .a 0])):=by kernel_rfl
   rw[h]at h1 h2 h3;simp at h1 h2 h3;exact⟨i,rfl,h3,h1,h2⟩
def aml(n:Nat)(ps:Array (Nat×aB)):Sem aB:=bJ 75 n ps
@[go_sem ↓]theorem ax'(n:Nat)(ps:Array (Nat×aB)):bJ 75 n ps=aml n ps:=rfl
@[go_sem]theorem ajh(w:ak)(s:List UInt8)(q:Int):(aml 1 #[(0,.d #[.g (bK s),.b .a q])]).O ah w=.ok (.a (some ⟨w.a.j,0,none⟩) 1 1) (w.alloc (.D #[.g (bK s),.b .a q] 151)):=by
 obtain⟨i0,hi0,hz0,hz1,hzb⟩:=aaI;exact sM w _ _ i0 _ 2 wH hi0 hz0 hz1 rfl (by omega) (by omega) _ rfl
def GN(ls:List (List UInt8))(x:Bk):pW:=⟨x.F,if x.drain||yG ls x.F then 0 else wQ x.w⟩
def lH(ls:List (List UInt8))(l:List Bk):List pW:=l.map (GN ls)
theorem Xy(ls:List (List UInt8))(l:List Bk)(i:Nat)(hi:i<l.a):lH ls (l.E (i+1))=lH ls (l.E i)++[GN ls (l.b i jq)]:=by
 rw[List.take_succ_eq_append_getElem hi,lH,lH,List.map_append,au,aC hi];rfl
def D8(key:Vector UInt8 16)(s:List UInt8)(n:Nat):Nat:=zi key (s++[0])%n
def BR(key:Vector UInt8 16)(s:List UInt8)(n:Nat):Nat:=zi key (s++[1])%(n-1)+1
def chF(key:Vector UInt8 16)(n:Nat)(l:List (List UInt8))(i k:Nat):Nat:=rY (D8 key (l.b i []) n) (BR key (l.b i []) n) n k
theorem Vo(key:Vector UInt8 16)(s:List UInt8){n:Nat}(hn:2<=n):1<=BR key s n/\BR key s n<n:=by
 unfold BR;have:=fP (zi key (s++[1])) (show 0<n-1 by omega);omega
theorem amm(key:Vector UInt8 16)(s:List UInt8){n:Nat}(hn:2<=n):D8 key s n<n:=fP _ (by omega)
theorem amn{key:Vector UInt8 16}{n:Nat}{l:List (List UInt8)}(h:mh n=true):acU n l.a (chF key n l):=by
 intro i hi;have h2:=yc h;obtain⟨s1,s2⟩:=Vo key (l.b i []) h2;refine⟨fun t=>PG (by omega),fun j hj=>UR h s1 s2 hj⟩
def xA(g n:Nat)(q:List Nat)(ch:Nat->Nat->Nat):Nat->Mg
 | 0=>⟨q.map fun _=>0,List.replicate n (-1),n⟩
 | j+1=>if(xA g n q ch j).left=0 then xA g n q ch j else tT g n q ch (xA g n q ch j) (j%q.a)
theorem QU{g n:Nat}{q:List Nat}{ch:Nat->Nat->Nat}:∀j,(∀t,t<j->(jU g n q ch t).left≠0)->xA g n q ch j=jU g n q ch j
 | 0,_=>rfl
 | j+1,h=>by
   have ih:=QU (g:=g) (n:=n) (q:=q) (ch:=ch) j (fun t ht=>h t (by omega));unfold xA jU;rw[ih,if_neg (h j (by omega))]
theorem QV{g n:Nat}{q:List Nat}{ch:Nat->Nat->Nat}{j:Nat}(h:(xA g n q ch j).left=0):∀d,xA g n q ch (j+d)=xA g n q ch j
 | 0=>rfl
 | d+1=>by
   have e:xA g n q ch (j+d+1)=if(xA g n q ch (j+d)).left=0 then xA g n q ch (j+d)else tT g n q ch (xA g n q ch (j+d)) ((j+d)%q.a):=rfl
   rw[<-kY,e,QV h d,if_pos h]
def mF(q:List Nat):Nat:=q.foldl max 0
def Fz(n:Nat)(q:List Nat)(ch:Nat->Nat->Nat):List Int:=(xA (mF q) n q ch (n*q.a)).sl
theorem Yz:∀(q:List Nat)(b:Nat),q.foldl max b=b\/∃i,i<q.a/\q.b i 0=q.foldl max b
 | [],b=>.b rfl
 | x::q,b=>by
   rw[j4];rcases Yz q (max b x)with h|⟨i,hi,h⟩
   ·rw[h]
    rcases Nat.le_total x b with hx|hx
    ·left;omega
    ·right;exact⟨0,by simp,by simp;omega⟩
   ·exact .a ⟨i+1,by simpa using hi,by simpa using h⟩
theorem Ea{q:List Nat}(h:q≠[])(h0:∀x∈q,0<x):∃i,i<q.a/\q.b i 0=mF q:=by
 rcases Yz q 0 with e|e
 ·cases q with
  | nil=>exact absurd rfl h
  | cons x t=>
    exfalso;have h1:∀(t:List Nat)(b:Nat),b<=t.foldl max b:=by
     intro t
     induction t with
     | nil=>intro b;exact av _
     | cons y t ih=>intro b;rw[j4];exact aP (Nat.le_max_left _ _) (ih _)
    have h2:=h1 t (max 0 x);have h3:=h0 x (by simp);rw[j4]at e;omega
 ·exact e
theorem YA{n:Nat}{q:List Nat}{ch:Nat->Nat->Nat}(h:q≠[])(h0:∀x∈q,0<x):∃K,K<=n*q.a/\(jU (mF q) n q ch K).left=0/\(∀j,j<K->(jU (mF q) n q ch j).left≠0)/\Fz n q ch=(jU (mF q) n q ch K).sl:=by
 obtain⟨i,hi,hg⟩:=Ea h h0;obtain⟨K,h1,h2⟩:=apw (n:=n) (ch:=ch) hi hg;have hm:∀m,(jU (mF q) n q ch (m*q.a)).left<=n-m:=by
  intro m
  induction m with
  | zero=>simp[jU]
  | succ m ih=>have:=aar (n:=n) (ch:=ch) hi hg m;omega
 have hK:K<=n*q.a:=by
  rcases aZ (n*q.a) K with h3|h3
  ·have:=h2 _ h3
   have:=hm n;omega
  ·exact h3
 refine⟨K,hK,h1,h2,?_⟩;unfold Fz;obtain⟨d,hd⟩:∃d,n*q.a=K+d:=⟨n*q.a-K,by omega⟩
 have e:=QU (g:=mF q) (n:=n) (q:=q) (ch:=ch) K h2;rw[hd,QV (by rw[e];exact h1),e]
structure Tl where
 h:List (List UInt8)
 vD:List Int
deriving DecidableEq
def uZ(key:Vector UInt8 16)(n:Nat)(l:List pW):Tl:=
 let r:=l.filter fun x=>decide (x.q≠0)
 if r=[]then⟨[],[]⟩else⟨r.map (·.F),Fz n (r.map fun x=>x.q.e) (chF key n (r.map (·.F)))⟩
def Il(t:Tl)(h:Nat):Option (List UInt8):=if t.vD.a=0 then none else some (t.h.b (t.vD.b (h%t.vD.a) 0).e [])
theorem adi{n:Nat}{q:List Nat}{ch:Nat->Nat->Nat}(h:q≠[])(h0:∀x∈q,0<x)(hf:acU n q.a ch):(Fz n q ch).a=n/\∀j,j<n->∃i,i<q.a/\(Fz n q ch).b j 0=(i:Int):=by
 obtain⟨K,_,h1,h2,h3⟩:=YA (n:=n) (ch:=ch) h h0;have hq:0<q.a:=List.length_pos_iff.2 h;have ok:=alR (g:=mF q) hq hf K h2;rw[h3];refine⟨ok.sll,fun j hj=>?_⟩;rcases ok.rng j hj with e|e
 ·exfalso
  have hfr:=ok.fr;rw[h1]at hfr;have:sN (jU (mF q) n q ch K).sl j=true:=by unfold sN;rw[e];rfl
  have hpos:=PI _ j 0 this (by rw[ok.sll];exact hj) (by decide);omega
 ·exact e
theorem YB{key:Vector UInt8 16}{n:Nat}{l:List pW}(hp:mh n=true)(h0:∀x∈l,0<=x.q):(uZ key n l).vD=[]/\(uZ key n l).h=[]\/(uZ key n l).vD.a=n/\∀j,j<n->∃i,i<(uZ key n l).h.a/\(uZ key n l).vD.b j 0=(i:Int):=by
 unfold uZ;simp only;split
 ·exact .b ⟨rfl,rfl⟩
 ·rename_i hr
  right;have:=adi (n:=n) (q:=(l.filter fun x=>decide (x.q≠0)).map fun x=>x.q.e) (ch:=chF key n ((l.filter fun x=>decide (x.q≠0)).map (·.F))) (by simpa using hr) (by
   intro x hx;obtain⟨y,hy,rfl⟩:=List.mem_map.1 hx;obtain⟨h1,h2⟩:=List.mem_filter.1 hy;have:=h0 y h1;simp at h2;omega) (by rw[bW];have:=amn (key:=key) (n:=n) (l:=(l.filter fun x=>decide (x.q≠0)).map (·.F)) hp;rwa [bW]at this)
  simp only[bW]at this ⊢;exact this
section
open Go.ChangeShapes Go.WideShapes Go.ChangeAt Go.RowKit Go.Deep
section
variable {H:Type} {enc:bL×aB->H} {w:ak} {base:Nat} {spare:Nat->Bool} {held:Bool} {fuel:Nat} {t:bL} {cs:List aB} {x:DataW H×List MemPlace}
theorem ND(h:mM enc ah w base spare held fuel 27 cs=some x):∃a:fD,cs=a.ay.a:=by
 obtain⟨xs,n,_,_,hl,hxl,hf⟩:=vL Tryz.underlying27 h;rw[show ah.cellsOf 27=17 by kernel_rfl]at hl;obtain⟨y0,h0⟩:=K6 hxl hf 0 _ rfl;obtain⟨y1,h1⟩:=K6 hxl hf 1 _ rfl;obtain⟨b,hb,_⟩:=IY (by kernel_rfl) h0;obtain⟨v,hv⟩:=Nb (k:=16) (e:=5) (by kernel_rfl) (by kernel_rfl) (by kernel_rfl) (by kernel_rfl) h1;have c0:(cs.G 0).E 1=[.bool b]:=hb;have c1:(cs.G 1).E 16=v.a.map bv:=hv;refine⟨⟨b,v⟩,?_⟩;have e:=ru cs 0 1;rw[c0,ru cs (0+1) 16,c1,jg (i:=0+1+16) (by omega)]at e;simpa[fD.ay]using e
def Bk.Po(b:Bk):Prop:=b.sD/\-9223372036854775808<=b.ni/\b.ni<=9223372036854775807
theorem ap0(h:mM enc ah w base spare held fuel 62 cs=some x):∃b:Bk,cs=b.ay.a/\b.Po:=by
 obtain⟨xs,n,_,_,hl,hxl,hf⟩:=vL Tryz.underlying62 h;rw[show ah.cellsOf 62=27 by kernel_rfl]at hl;obtain⟨y0,h0⟩:=K6 hxl hf 0 _ rfl;obtain⟨y1,h1⟩:=K6 hxl hf 1 _ rfl;obtain⟨y2,h2⟩:=K6 hxl hf 2 _ rfl;obtain⟨y3,h3⟩:=K6 hxl hf 3 _ rfl;obtain⟨y4,h4⟩:=K6 hxl hf 4 _ rfl;obtain⟨y5,h5⟩:=K6 hxl hf 5 _ rfl;obtain⟨s,hs,hsl⟩:=Uu (by kernel_rfl) h0;obtain⟨a,ha⟩:=ND h1;obtain⟨p,hp,hp1,hp2⟩:=tN (by kernel_rfl) h2;obtain⟨m,hm⟩:=Nb (k:=6) (e:=5) (by kernel_rfl) (by kernel_rfl) (by kernel_rfl) (by kernel_rfl) h3;obtain⟨f,hf,hf2⟩:=acp (by kernel_rfl) h4;obtain⟨d,hd,_⟩:=IY (by kernel_rfl) h5;have c0:(cs.G 0).E 1=[.g (bK s)]:=hs;have c1:(cs.G 1).E 17=a.ay.a:=ha;have c2:(cs.G 18).E 1=[.b .a p]:=hp;have c3:(cs.G 19).E 6=m.a.map bv:=hm;have c4:(cs.G 25).E 1=[fv f]:=hf;have c5:(cs.G 26).E 1=[.bool d]:=hd;refine⟨⟨s,a,p,m,f,d⟩,?_,⟨hsl,hf2⟩,hp1,hp2⟩;have e:=ru cs 0 1;rw[c0,ru cs (0+1) 17,c1,ru cs (0+1+17) 1,c2,ru cs (0+1+17+1) 6,c3,ru cs (0+1+17+1+6) 1,c4,ru cs (0+1+17+1+6+1) 1,c5,jg (i:=0+1+17+1+6+1+1) (by omega)]at e;simpa[Bk.ay,fD.ay]using e
def rJ.Po(o:rJ):Prop:=o.h.Po/\o.w<18446744073709551616/\o.F.a<=9223372036854775807
theorem amo(h:mM enc ah w base spare held fuel 64 cs=some x):∃o:rJ,cs=o.ay.a/\o.Po:=by
 obtain⟨xs,n,_,_,hl,hxl,hf⟩:=vL wG h;rw[show ah.cellsOf 64=30 by kernel_rfl]at hl;obtain⟨y0,h0⟩:=K6 hxl hf 0 _ rfl;obtain⟨y1,h1⟩:=K6 hxl hf 1 _ rfl;obtain⟨y2,h2⟩:=K6 hxl hf 2 _ rfl;obtain⟨y3,h3⟩:=K6 hxl hf 3 _ rfl;obtain⟨k,hk,_,_⟩:=tN (by kernel_rfl) h0;obtain⟨b,hb,hbg⟩:=ap0 h1;obtain⟨s,hs,hsl⟩:=Uu (by kernel_rfl) h2;obtain⟨f,hf,hf2⟩:=acp (by kernel_rfl) h3;have c0:(cs.G 0).E 1=[.b .a k]:=hk;have c1:(cs.G 1).E 27=b.ay.a:=hb;have c2:(cs.G 28).E 1=[.g (bK s)]:=hs;have c3:(cs.G 29).E 1=[fv f]:=hf;refine⟨⟨k,b,s,f⟩,?_,hbg,hf2,hsl⟩;have e:=ru cs 0 1;rw[c0,ru cs (0+1) 27,c1,ru cs (0+1+27) 1,c2,ru cs (0+1+27+1) 1,c3,jg (i:=0+1+27+1+1) (by omega)]at e;simpa[rJ.ay]using e
end
end
theorem amq{v:Int}{l:List Bk}(hs:Fj l)(o:rJ):Fj (doL v l o):=by
 unfold doL;split
 ·rename_i h
  obtain⟨_,_,_,h1,_,h6⟩:=aaH h;unfold P9;split
  ·rename_i hk
   exact apY (x:=o.h.OY (kS o.h.w)) hs (h1 hk).2.1
  ·rename_i hk
   have hh:=h6 hk;split
   ·exact apZ hs _
   ·split
    ·exact ahG hs (xU hh) (by rw[afA hh];exact(TL hh).2)
    ·exact ahG hs (xU hh) (by rw[afA hh];exact(TL hh).2)
 ·exact hs
theorem amr{v:Int}{l:List Bk}(o:rJ):(doL v l o).a=if qU v l o=0/\o.kind=1 then l.a+1 else if qU v l o=0/\o.kind=2 then l.a-1 else l.a:=by
 unfold doL;by_cases h:qU v l o=0
 ·obtain⟨_,_,_,h1,_,h6⟩:=aaH h
  simp only[h,true_and,if_true];unfold P9;by_cases h1:o.kind=1
  ·simp only[h1,if_true];exact zq _ _ _
  ·simp only[h1,if_false]
   by_cases h2:o.kind=2
   ·simp only[h2,if_true];exact NA _ _ (xU (h6 h1))
   ·simp only[h2,if_false]
    split<;>exact aS
 ·simp[h]
theorem adj(x:Nat):kS x=0\/kS x=x:=by unfold kS;split<;>simp
theorem adk{x:Nat}(h:Xm x=true):Xm (kS x)=true:=by
 rcases adj x with h1|h1<;>rw[h1]
 ·decide +kernel
 ·exact h
theorem adl{x:Nat}(h:x<18446744073709551616):kS x<18446744073709551616:=by
 rcases adj x with h1|h1<;>rw[h1]
 ·decide
 ·exact h
theorem adn(x:Nat):kS (kS x)=kS x:=by
 unfold kS;by_cases h:(ord x 0==some .eq)=true
 ·simp only[h,if_true]
  split<;>rfl
 ·simp only[h]
  simp[h]
theorem YC(x:Nat):Xo (kS x)=true:=by unfold Xo;rw[adn];exact aiW _
theorem ado{x:Bk}{u:Nat}(h:x.Cz=true)(hu:Xm u=true):(x.OY u).Cz=true:=by
 unfold Bk.Cz at h ⊢;simp only[bf]at h ⊢;exact⟨⟨⟨⟨h.1.1.1.1,h.1.1.1.2⟩,h.1.1.2⟩,h.1.2⟩,hu⟩
theorem atY{x:Bk}(h:x.Cz=true):Xm x.w=true:=by
 unfold Bk.Cz at h;simp only[bf]at h;exact h.2
theorem afB{v:Int}{l:List Bk}{o:rJ}(hr:zf v l=true)(hf:∀x∈l,x.sD)(hof:o.h.sD)(how:o.w<18446744073709551616)(h:qU v l o=0):
 zf (v+1) (doL v l o)=true/\∀x∈doL v l o,x.sD:=by
 obtain⟨h1,h2,h3,h4,h5⟩:=vT.1 hr;obtain⟨w1,w2,w3,w4,w5,w6⟩:=aaH h;have hl:=amr (v:=v) (l:=l) o;have hs:=amq (v:=v) h5 o;have key:∀x∈doL v l o,(x.Cz=true/\Xo x.w=true)/\x.sD:=by
  unfold doL;rw[if_pos h];unfold P9;split
  ·rename_i hk
   intro x hx;rcases apX.1 hx with rfl|hx
   ·have hb:=(w4 hk).1
    exact⟨⟨ado hb (adk (atY hb)),YC _⟩,hof.1,adl hof.2⟩
   ·exact⟨h4 x hx,hf x hx⟩
  ·rename_i hk
   have hh:=w6 hk;have hin:=TL hh;have hnm:=afA hh;split
   ·intro x hx
    have:=((ahF h5 (xU hh)).1 hx).1;exact⟨h4 x this,hf x this⟩
   ·split
    ·rename_i hk3
     intro x hx;rcases(ahH h5 (xU hh) (z:=(qg l o.F).OY (kS o.w)) (by rw[hnm];exact hin.2)).1 hx with rfl|⟨hx,_⟩
     ·exact⟨⟨ado (h4 _ hin.1).1 (adk (w5 hk3)),YC _⟩,(hf _ hin.1).1,adl how⟩
     ·exact⟨h4 x hx,hf x hx⟩
    ·intro x hx
     rcases(ahH h5 (xU hh) (z:=(qg l o.F).toD (o.kind==4)) (by rw[hnm];exact hin.2)).1 hx with rfl|⟨hx,_⟩
     ·have e1:((qg l o.F).toD (o.kind==4)).Cz=(qg l o.F).Cz:=rfl
      have e2:((qg l o.F).toD (o.kind==4)).w=(qg l o.F).w:=rfl;rw[e1,e2];exact⟨h4 _ hin.1,(hf (qg l o.F) hin.1:(qg l o.F).sD)⟩
     ·exact⟨h4 x hx,hf x hx⟩
 refine⟨vT.2 ⟨by omega,by omega,?_,fun x hx=>(key x hx).1,hs⟩,fun x hx=>(key x hx).2⟩;rw[hl];split
 ·rename_i hk
  have:=(w4 hk.2).2.2;omega
 ·split<;>omega
def aaJ(w:ak)(m:List pW)(e:lJ)(w':ak):Prop:=
 ∃A c,e=.a (.a A m.a c)/\w'.c w.a.j 151 2 (.a A m.a c) m.a (Cc m)/\aM w.a.j w w'
theorem afC{w wr:ak}{v:aB}{m:List pW}{n:Nat}(hn:m.a=n)(ho:wr.c (w.a.j+1) 151 2 v n (Cc m))(hb:aM w.a.j w wr):aaJ w m (.a v) wr:=by
 subst hn;obtain⟨A,c,rfl,_,_⟩:=j3 ho;exact⟨A,c,rfl,iU ho (by omega),hb⟩
theorem afD(l:List Bk)(hf:∀x∈l,x.sD)(v:Int)(A:Option aV)(c:Nat)(ls:List (List UInt8))(D:Option aV)(d:Nat)(w:ak)(hR:Gw w w.a.j A l.a l)(hD:aay w w.a.j D ls.a ls)(hn:l.a<=100000)(hd:ls.a<4611686018427387904):
 aR ah 28 #[.d #[.b .a v,.a A l.a c],.a D ls.a d] w (aaJ w (lH ls l)):=by
 have HR:=ab hR;have HF:=ab hf;have HD:=ab hD;have HB0:=ab (fun ob=>((aG w.a.j w).alloc (av _) ob:aM w.a.j w (w.alloc ob)));have Ew:=ab (fun i=>Xy ls l i);have HSL:=ab (show l.E l.a=l from List.take_length);obtain⟨i0,hi0,hz0,hz1,hzb⟩:=aaI;have HI0:=ab hi0;have HZ0:=ab hz0;have HZ1:=ab hz1;have HZ2:=ab (show(cO #[iK ⟨#[]⟩,aI .a 0]).D.j=2 from rfl);clear hR hf hD hi0 hz0 hz1;obtain⟨n,hnl⟩:=cB l.a;rw[<-hnl]at HR hn HSL ⊢;have HN:=ab hnl;clear hnl;go_enter Tryz.func28,Tryz.ntmps28;go_wp2;go_loopw [5,13] (fun s5 s13 wr=>∃(i:Nat)(O:Option aV)(cap:Nat),i<=n/\s5=.a O i cap/\s13=.b .a i/\wr.c (w.a.j+1) 151 2 (.a O i cap) i (Cc (lH ls (l.E i)))/\aM (w.a.j+1) (w.alloc (.D #[.b .a v,.a A n c] 32)) wr) (fun _ s13 _=>n-(intOf s13).e)
 case atStart=>exact⟨0,none,0,by omega,rfl,rfl,fQ _ _ _ _,by simpa using aG _ _⟩
 case round=>
  obtain⟨i,O,cap,hin,rfl,rfl,ho,hb⟩:=hrel;have HB:=ab hb;have hbw:=(HB0.i (.D #[.b .a v,.a A n c] 32)).trans (hb.g (by simp));have HBW:=ab hbw;have hsz:=hb.j;have OW:=ab (fun ob uS=>(ho.alloc ob).alloc uS);have O0:=ab ho;clear hb hbw ho;by_cases hlt:i<n
  ·have hi:(i:Int)<n:=by omega
   obtain⟨b,o,rfl,hbb,hh,hc⟩:=(HR.i.Y HBW.i).dW hlt;have hbs:b<wr.a.j:=by simp at hsz;omega
   have hmem:l.b i jq∈l:=by
    have:=HN.i;rw[au,aC (by omega)];simp
   obtain⟨hx1,hx2⟩:=HF.i _ hmem;have hsn:=Ew.i i (by have:=HN.i;omega);obtain⟨x,hx⟩:=cB (l.b i jq);rw[<-hx]at hc hx1 hx2 hsn;have atZ:=ab hsn;clear hx hmem hsn hbb;have HDB:=ab (fun ob=>(((HD.i.Y HBW.i).alloc (show w.a.j<=wr.a.j by simp at hsz;omega) ob).lD (B':=(wr.alloc ob).a.j) (by simp at hsz⊢;omega):aay (wr.alloc ob) (wr.alloc ob).a.j D ls.a ls));have HQ:∀W,aR ah 86 #[.float .f64 x.w] W fun e w'=>e=.a (.K #[.b .a (wQ x.w),.bool (Xm x.w)])/\W=w':=fun W=>ae5 x.w hx2 W
   have HQU:=ab HQ;have TD:=ab (show i+1<=maxLen by unfold maxLen;omega);have TJ:=ab (show(i+1)*i0.bytes<=140737488355328 from aP (iq (show i+1<=100001 by omega) hzb) (by omega));have HBS:=ab (fun ob uS=>show w.a.j+1<=((wr.alloc ob).alloc uS).a.j by simp at hsz⊢;omega);have Rx:=ab (fun(ob:Obj) (cc:Array aB) (h2:cc.j=2)=>(⟨by simp[h2],fun _=>⟨_,rfl,nD _,aaE _ _ cc _ _ (by have:=Ia (wr.alloc ob) (.D cc 151);rwa [show(wr.alloc ob).a.j=wr.a.j+1 by simp]at this)⟩⟩:Rd ((wr.alloc ob).alloc (.D cc 151)) (wr.a.j+1+1) 2 (some ⟨wr.a.j+1,0,none⟩) 1 cc.a));have HBN:=ab (fun ob uS=>((HB.i.alloc (show w.a.j+1<=wr.a.j by simpa using hsz) ob).alloc (by simp at hsz⊢;omega) uS:aM (w.a.j+1) _ ((wr.alloc ob).alloc uS)));clear HQ hx1 hx2;have hso:GN ls x=⟨x.F,if x.drain||yG ls x.F then 0 else wQ x.w⟩:=rfl;have HSO:=ab hso;clear hso;cases kd:x.drain
   ·have HKD:=ab kd
    have HCO:∀ob,aR ah 87 #[.a D ls.a d,.g (bK x.F)] (wr.alloc ob) fun e w'=>e=.a (.bool (yG ls x.F))/\wr.alloc ob=w':=fun ob=>Np ls x.F D d _ (HDB.i ob) hd
    cases kc:yG ls x.F
    all_goals
     rw[kc]at HCO;have aya:=ab HCO;have HKC:=ab kc;clear HCO kc
    ·go_wp2_with (first
      | (go_at_call 86;refine(HQU.i _).g ?_;rintro e w' ⟨rfl,rfl⟩)
      | (go_at_call 87;refine(aya.i _).g ?_;rintro e w' ⟨rfl,rfl⟩)
      | (at_builtin;refine jQ _ rfl (.a 31) (.a 36) _ rfl (w.a.j+1) 151 i0 (.d #[.g ⟨#[]⟩,.b .a 0]) 2 i0.bytes wH HI0.i HZ0.i HZ1.i rfl HZ2.i (nG _) (.a O i cap) i (Cc (lH ls (l.E i))) rfl (OW.i _ _) (wr.a.j+1+1) (some ⟨wr.a.j+1,0,none⟩) 1 1 [.g (bK x.F),.b .a (wQ x.w)] rfl (Rx.i _ #[.g (bK x.F),.b .a (wQ x.w)] rfl) (by simp[dA]) TD.i TJ.i (HBS.i _ _) ?_
         intro v1 w1 hown1 hg1 yN;have O1:=ab hown1;have G1:=ab hg1;clear hown1 hg1 yN))
     obtain⟨O',cap',rfl,_,_⟩:=j3 O1.i;go_roundw
     case rel=>exact⟨i+1,O',cap',by omega,rfl,by go_num,by rw[atZ.i,GL,HSO.i,HKD.i,HKC.i];exact O1.i,(HBN.i _ _).grown G1.i (by simp at hsz⊢;omega) (fun k hk=>(O0.i.lt k hk).1)⟩
     case measure=>simp[intOf]<;>omega
    ·go_wp2_with (first
      | (go_at_call 86;refine(HQU.i _).g ?_;rintro e w' ⟨rfl,rfl⟩)
      | (go_at_call 87;refine(aya.i _).g ?_;rintro e w' ⟨rfl,rfl⟩)
      | (at_builtin;refine jQ _ rfl (.a 31) (.a 36) _ rfl (w.a.j+1) 151 i0 (.d #[.g ⟨#[]⟩,.b .a 0]) 2 i0.bytes wH HI0.i HZ0.i HZ1.i rfl HZ2.i (nG _) (.a O i cap) i (Cc (lH ls (l.E i))) rfl (OW.i _ _) (wr.a.j+1+1) (some ⟨wr.a.j+1,0,none⟩) 1 1 [.g (bK x.F),.b .a 0] rfl (Rx.i _ #[.g (bK x.F),.b .a 0] rfl) (by simp[dA]) TD.i TJ.i (HBS.i _ _) ?_
         intro v1 w1 hown1 hg1 yN;have O1:=ab hown1;have G1:=ab hg1;clear hown1 hg1 yN))
     obtain⟨O',cap',rfl,_,_⟩:=j3 O1.i;go_roundw
     case rel=>exact⟨i+1,O',cap',by omega,rfl,by go_num,by rw[atZ.i,GL,HSO.i,HKD.i,HKC.i];exact O1.i,(HBN.i _ _).grown G1.i (by simp at hsz⊢;omega) (fun k hk=>(O0.i.lt k hk).1)⟩
     case measure=>simp[intOf]<;>omega
   ·have HKD:=ab kd
    go_wp2_with (first
     | (go_at_call 86;refine(HQU.i _).g ?_;rintro e w' ⟨rfl,rfl⟩)
     | (at_builtin;refine jQ _ rfl (.a 31) (.a 36) _ rfl (w.a.j+1) 151 i0 (.d #[.g ⟨#[]⟩,.b .a 0]) 2 i0.bytes wH HI0.i HZ0.i HZ1.i rfl HZ2.i (nG _) (.a O i cap) i (Cc (lH ls (l.E i))) rfl (OW.i _ _) (wr.a.j+1+1) (some ⟨wr.a.j+1,0,none⟩) 1 1 [.g (bK x.F),.b .a 0] rfl (Rx.i _ #[.g (bK x.F),.b .a 0] rfl) (by simp[dA]) TD.i TJ.i (HBS.i _ _) ?_
        intro v1 w1 hown1 hg1 yN;have O1:=ab hown1;have G1:=ab hg1;clear hown1 hg1 yN))
    obtain⟨O',cap',rfl,_,_⟩:=j3 O1.i;go_roundw
    case rel=>exact⟨i+1,O',cap',by omega,rfl,by go_num,by rw[atZ.i,GL,HSO.i,HKD.i];exact O1.i,(HBN.i _ _).grown G1.i (by simp at hsz⊢;omega) (fun k hk=>(O0.i.lt k hk).1)⟩
    case measure=>simp[intOf]<;>omega
  ·obtain rfl:i=n:=by omega
   have hd:decide ((i:Int)<i)=false:=by simp
   go_wp2;go_ret;have hO:=O0.i;rw[HSL.i]at hO;exact afC (n:=i) (by rw[lH,bW];exact HN.i.symm) hO HBW.i
end Go.Proofs.YtkjojjopamaoiaaGreat
