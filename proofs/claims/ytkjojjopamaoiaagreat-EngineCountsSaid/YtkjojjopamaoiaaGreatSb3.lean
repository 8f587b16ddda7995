/- Parts. -/
import Derived.Test.YtkjojjopamaoiaaGreatSb1
set_option linter.unusedSimpArgs false
set_option linter.unusedVariables false
set_option linter.unusedSectionVars false
set_option maxRecDepth 100000
set_option maxHeartbeats 8000000
open Array renaming ext_getElem?->dZ,getElem?_eq_none->aU,size_extract->jG,getElem?_toList->dD,length_toList->aZ,all_eq_true_iff_forall_mem->gu,getElem?_eq_some_iff->bW,size->Array.j,toList->Array.a,getD->Array.c
open Bool renaming and_eq_true->bl
open Go renaming Value->aB,World->ak,Calls->aP,Addr->aT,TypeId->bF,cell_of_row->sQ,Ending->lq,setRow_heap->rD,setRow_other->oL,length_splice->vM,bodyPost_ret->aN,heap_alloc_new->Gl
open Go.Addr renaming add_mid->iC
open Go.Calls renaming mono->Go.Calls.g
open Go.DataW renaming trod->lX,trod_struct->uI,trod_bool->Hr,agg->Go.DataW.d
open Go.Ending renaming returned->Go.Ending.a
open Go.Instr renaming loadAt->bZ,buildSlice->bJ,slice->Go.Instr.a
open Go.IntKind renaming i64->Go.IntKind.a
open Go.Lib renaming hid->ab
open Go.Obj renaming cells->Go.Obj.D
open Go.Op renaming slice->Go.Op.a
open Go.Operand renaming tmp->Go.Operand.a
open Go.Proofs.Tryz renaming prog->ah,underlying64->uZ,underlying30->jl,func140->Cb,ntmps140->Ab,func71->EJ,ntmps71->Cc,underlying75->vg
open Go.Result renaming ok->Go.Result.Z
open Go.ResultVar renaming tmp->Go.ResultVar.a
open Go.RowKit renaming Below->aL
open Go.RowKit.Below renaming refl->aG,size->Go.RowKit.Below.j,mono->Go.RowKit.Below.g,setCell->Go.RowKit.Below.F
open Go.RowKit.Hid renaming out->Go.RowKit.Hid.i
open Go.Sem renaming run->Go.Sem.I
open Go.Tables renaming info?->Go.Tables.l
open Go.TypeDesc renaming slice->Go.TypeDesc.a,int->Go.TypeDesc.b,string->Go.TypeDesc.g
open Go.TypeInfo renaming size->Go.TypeInfo.j
open Go.Value renaming int->aI,string->iB,agg->bY,cells->cK,slice->bD,oneCell'->cZ,cells->Go.Value.D,slice->Go.Value.a,int->Go.Value.b,agg->Go.Value.d,tuple->Go.Value.J,oneCell'->Go.Value.h,string->Go.Value.g
open Go.World renaming frozen?->rY,setRow->rT,ownsRow_nil->fu,setCell->gX,heap->Go.World.a,cell?->Go.World.b,setCell->Go.World.F,ownsRow->Go.World.c
open Int renaming toNat->Int.e
open List renaming getElem?_toArray->dV,getElem?_append->kR,take_append_drop->iF,take_append_of_le_length->gF,length_take->bK,take_of_length_le->aK,length_drop->jD,getElem?_drop->jo,getElem?_take->jq,size_toArray->dI,drop_of_length_le->iW,eq_nil_of_length_eq_zero->bE,take_take->vL,length_set->aV,getD_eq_getElem?_getD->au,getElem?_eq_none->aS,getElem?_eq_getElem->aC,getElem_of_mem->mP,pairwise_iff_getElem->fT,getElem_mem->eU,mem_append->qm,mem_cons->bg,pairwise_cons->gN,drop_eq_getElem_cons->kU,mem_append_left->Ai,foldl_cons->jW,length_map->bU,length->List.a,toArray->List.b,getD->List.c,take->List.d,drop->List.f,below->List.O
open Nat renaming lt_or_ge->aY,add_comm->lM,le_refl->av,zero_add->bB,min->ql,sub_mul->Az,mul_le_mul_right->dw,le_of_lt->mG,min_eq_left->oC,le_trans->aO,mul_le_mul->gU,succ_pos->mH,lt_succ_self->mF,eq_zero_or_pos->eu,mod_lt->fH,add_assoc->mZ,below->Nat.O
open Option renaming getD->Option.c
open Or renaming inl->Or.a,inr->Or.b
open Vector renaming toList->Vector.a
namespace Go.Proofs.YtkjojjopamaoiaaGreat
open Go.RowKit
@[go_sem]theorem Bk.dY(x:Bk):dY x.ay=27:=Bk.G x
@[go_sem]theorem fC.dY(x:fC):dY x.ay=17:=fC.G x
@[go_sem]theorem Bk.kr(x:Bk):x.ay.extract 0 27=x.ay:=by
 have:=Bk.G x;rw[<-this];simp
@[go_sem]theorem Bk.FH(x:Bk):x.ay.extract 1 18=x.h.ay:=by
 apply dZ;intro j;rcases aY j 17 with hj|hj
 ·rw[show(18:Nat)=1+17 from rfl,nW x.ay 1 17 j hj (by rw[Bk.G];omega),lM,Bk.Mf x j hj]
 ·rw[aU (by rw[jG,Bk.G];omega),aU (by rw[fC.G];exact hj)]
structure qO where
 kind:Int
 X:Bk
 E:List UInt8
 w:Nat
def qO.ay(o:qO):Array aB:=(aI .a o.kind::(o.X.ay.a++[iB (bT o.E),fv o.w])).b
theorem qO.G(o:qO):o.ay.j=30:=by simp[qO.ay,Bk.G]
@[go_sem]theorem qO.dY(o:qO):dY o.ay=30:=qO.G o
@[go_sem]theorem qO.qw(o:qO):o.ay[0]? = some (.b .a o.kind):=by simp[qO.ay]
theorem qO.alA(o:qO)(j:Nat)(hj:j<27):o.ay[j+1]? = o.X.ay[j]?:=by
 simp[qO.ay,dV,kR,Bk.G,hj]
@[go_sem]theorem qO.Gu(o:qO):o.ay[1]? = some (.g (bT o.X.E)):=by rw[qO.alA o 0 (by omega),Bk.qw]
@[go_sem]theorem qO.aCa(o:qO):o.ay[28]? = some (.g (bT o.E)):=by simp[qO.ay,dV,kR,Bk.G]
@[go_sem]theorem qO.aCb(o:qO):o.ay[29]? = some (.float .f64 o.w):=by simp[qO.ay,dV,kR,Bk.G,fv]
@[go_sem]theorem qO.as3(o:qO):o.ay.extract 1 28=o.X.ay:=by
 apply dZ;intro j;rcases aY j 27 with hj|hj
 ·rw[show(28:Nat)=1+27 from rfl,nW o.ay 1 27 j hj (by rw[qO.G];omega),lM,qO.alA o j hj]
 ·rw[aU (by rw[jG,qO.G];omega),aU (by rw[Bk.G];exact hj)]
@[go_sem]theorem qO.kr(o:qO):o.ay.extract 0 30=o.ay:=by
 have:=qO.G o;rw[<-this];simp
def MH(v:aB):Sem aB:=bZ 64 v
@[go_sem ↓]theorem as4(v:aB):bZ 64 v=MH v:=rfl
@[go_sem]theorem alB(W:ak)(b o:Nat)(h:vw W b o 30):(MH (.pointer (some ⟨b,o,none⟩))).I ah W = .Z (.d (dM W b o 30)) W:=
 jV W b o 30 _ _ uZ rfl (by kernel_rfl) h
@[go_sem]theorem ao7(W:ak)(c:Array aB)(x:Bk)(b:Nat)(hb:b=W.a.j)(hc:dY c=27):
 (JB (.pointer (some ⟨b,0,none⟩)) (.d x.ay)).I ah (W.alloc (.D c 62)) = .Z () (W.alloc (.D x.ay 62)):=by
 subst hb;exact Mi W c x hc
def arA(n:Nat)(ps:Array (Nat×aB)):Sem aB:=bJ 30 n ps
@[go_sem ↓]theorem axk(n:Nat)(ps:Array (Nat×aB)):bJ 30 n ps=arA n ps:=rfl
@[go_sem]theorem avT(w:ak)(x:Bk):(arA 1 #[(0,.d x.ay)]).I ah w = .Z (.a (some ⟨w.a.j,0,none⟩) 1 1) (w.alloc (.D x.ay 62)):=by
 obtain⟨i0,hi0,hz0,hz1,hzb⟩:=OU;exact rP w _ _ i0 (.d jg.ay) 27 jl hi0 hz0 hz1 (Bk.G jg) (by omega) (by omega) x.ay (Bk.G x)
def qO.who(o:qO):List UInt8:=if o.kind=1 then o.X.E else o.E
def pU(v:Int)(l:List Bk)(o:qO):Int:=
 if o.kind<1 then 1 else if 5<o.kind then 1 else if o.kind=1/\o.X.Ci=false then 1 else if o.kind=3/\Xd o.w=false then 1
 else if o.kind=1/\sM l o.who=true then 6 else if o.kind=1/\1024<=l.a then 7 else if o.kind≠1/\sM l o.who=false then 5
 else if o.kind=4/\(qc l o.who).drain=true then 6 else if o.kind=5/\(qc l o.who).drain=false then 6 else if 1099511627776<=v then 7 else 0
theorem acP(x:Nat)(hx:x<18446744073709551616)(w:ak):aP ah 170 #[.float .f64 x] w fun e w'=>e=.a (.bool (Xd x))/\w=w':=by
 rw[<-JD hx];exact JC x w
theorem JK(l:List Bk)(hs:Fp l)(v:Int)(o:qO)(hf:o.X.pJ)(hw:o.w<18446744073709551616)(A:Option aT)(c:Nat)(w:ak)(hR:Ea w w.a.j A l.a l)(hn:l.a<4611686018427387904):
 aP ah 140 #[.d #[.b .a v,.a A l.a c],.d o.ay] w (gD w (.b .a (pU v l o))):=by
 obtain⟨hf1,hf2⟩:=hf;have HS:=ab hs;have HR1:=ab (fun ob sK=>((hR.alloc (av _) ob).alloc (by simp) sK).lF (B':=((w.alloc ob).alloc sK).a.j) (by simp;omega));have HB0:=ab (fun ob sK=>(((aG w.a.j w).alloc (av _) ob).alloc (by simp) sK:aL w.a.j w ((w.alloc ob).alloc sK)));clear hR hs;have Bn:pU v l o=(if o.kind<1 then 1 else if 5<o.kind then 1 else if o.kind=1/\o.X.Ci=false then 1 else if o.kind=3/\Xd o.w=false then 1
  else if o.kind=1/\sM l o.who=true then 6 else if o.kind=1/\1024<=l.a then 7 else if o.kind≠1/\sM l o.who=false then 5
  else if o.kind=4/\(qc l o.who).drain=true then 6 else if o.kind=5/\(qc l o.who).drain=false then 6 else if 1099511627776<=v then 7 else 0):=rfl
 have HW:=ab Bn;clear Bn;by_cases h1:o.kind=1
 ·have hwho:o.who=o.X.E:=by simp[qO.who,h1]
  have ae5:=ab hwho;obtain⟨K,hK⟩:=tN o.X.Ci;have hri:=fun W=>acg o.X W hf1 hf2
  rw[hK]at hri;have HRI:=ab hri;have HK:=ab hK;have H1:=ab h1;clear hwho hri hK;go_enter Cb,Ab;go_wp2_with fail;refine(Bf l HS.i _ v A c _ (HR1.i _ _) hn).g ?_;rintro e w1 ⟨rfl,hb1⟩;obtain⟨hx1,hx2,hx3,hx4,hx5⟩:=Uc hb1;have hz0:w.a.j<w1.a.j:=by simp at hx5;omega
  have hz1:w.a.j+1<w1.a.j:=by simp at hx5;omega
  clear hx5;have HB1:=ab ((HB0.i _ _).trans (hb1.g (by simp;omega)));have HB2:=ab (HB1.i.alloc (by omega) (.D (qc l o.X.E).ay 62));clear hb1;go_wp2_with fail;refine(HRI.i _).g ?_;rintro e w2 ⟨rfl,hb2⟩;obtain⟨hy1,hy2,hy3,hy4,hy5⟩:=Uc hb2;have hz2:w1.a.j<w2.a.j:=by simp at hy5;omega
  have hz3:w.a.j<w2.a.j:=by omega
  have hz4:w.a.j+1<w2.a.j:=by omega
  clear hy5;have HB2:=ab ((HB1.i.alloc (by omega) (.D (qc l o.X.E).ay 62)).trans (hb2.g (by simp;omega)));clear hb2;cases K
  all_goals
   go_wp2_with fail
  all_goals
   go_ret;exact⟨by rw[HW.i,ae5.i,HK.i,H1.i];simp[*];try omega,HB2.i⟩
 have hwho:o.who=o.E:=by simp[qO.who,h1]
 have ae5:=ab hwho;have H1:=ab h1;clear hwho;have g1:(o.kind==1)=false:=by simpa using h1
 have g1':(o.kind != 1)=true:=by simpa using h1
 rcases(show o.kind<1\/5<o.kind\/o.kind=2\/o.kind=3\/o.kind=4\/o.kind=5 by omega)with h2|h2|h2|h2|h2|h2
 ·clear h1
  go_enter Cb,Ab;go_wp2_with fail;refine(Bf l HS.i _ v A c _ (HR1.i _ _) hn).g ?_;rintro e w1 ⟨rfl,hb1⟩;obtain⟨hx1,hx2,hx3,hx4,hx5⟩:=Uc hb1;have hz0:w.a.j<w1.a.j:=by simp at hx5;omega
  have hz1:w.a.j+1<w1.a.j:=by simp at hx5;omega
  clear hx5;have HB1:=ab ((HB0.i _ _).trans (hb1.g (by simp;omega)));have HB2:=ab (HB1.i.alloc (by omega) (.D (qc l o.E).ay 62));clear hb1;go_wp2_with fail;go_ret;exact⟨by rw[HW.i,ae5.i];simp[*],HB2.i⟩
 ·clear h1
  have g2:¬o.kind<1:=by omega
  go_enter Cb,Ab;go_wp2_with fail;refine(Bf l HS.i _ v A c _ (HR1.i _ _) hn).g ?_;rintro e w1 ⟨rfl,hb1⟩;obtain⟨hx1,hx2,hx3,hx4,hx5⟩:=Uc hb1;have hz0:w.a.j<w1.a.j:=by simp at hx5;omega
  have hz1:w.a.j+1<w1.a.j:=by simp at hx5;omega
  clear hx5;have HB1:=ab ((HB0.i _ _).trans (hb1.g (by simp;omega)));have HB2:=ab (HB1.i.alloc (by omega) (.D (qc l o.E).ay 62));clear hb1;go_wp2_with fail;go_ret;exact⟨by rw[HW.i,ae5.i];simp[*],HB2.i⟩
 ·have H2:=ab h2
  clear h1 g1 g1';go_enter Cb,Ab;go_wp2_with fail;refine(Bf l HS.i _ v A c _ (HR1.i _ _) hn).g ?_;rintro e w1 ⟨rfl,hb1⟩;obtain⟨hx1,hx2,hx3,hx4,hx5⟩:=Uc hb1;have hz0:w.a.j<w1.a.j:=by simp at hx5;omega
  have hz1:w.a.j+1<w1.a.j:=by simp at hx5;omega
  clear hx5;have HB1:=ab ((HB0.i _ _).trans (hb1.g (by simp;omega)));have HB2:=ab (HB1.i.alloc (by omega) (.D (qc l o.E).ay 62));clear hb1;go_wp2_with fail
  all_goals
   go_ret;exact⟨by rw[HW.i,ae5.i,H2.i];clear hx1 hx2 hx3 hx4 HR1 HB0 HB1;first|(simp[*];done)|(simp_all;done)|(simp_all;omega),HB2.i⟩
 ·have H2:=ab h2
  clear h1 g1 g1';go_enter Cb,Ab;go_wp2_with fail;refine(Bf l HS.i _ v A c _ (HR1.i _ _) hn).g ?_;rintro e w1 ⟨rfl,hb1⟩;obtain⟨hx1,hx2,hx3,hx4,hx5⟩:=Uc hb1;have hz0:w.a.j<w1.a.j:=by simp at hx5;omega
  have hz1:w.a.j+1<w1.a.j:=by simp at hx5;omega
  clear hx5;have HB1:=ab ((HB0.i _ _).trans (hb1.g (by simp;omega)));have HB2:=ab (HB1.i.alloc (by omega) (.D (qc l o.E).ay 62));clear hb1;go_wp2_with fail;refine(acP o.w hw _).g ?_;rintro e w' ⟨rfl,rfl⟩;go_wp2_with fail
  all_goals
   go_ret;exact⟨by rw[HW.i,ae5.i,H2.i];clear hx1 hx2 hx3 hx4 HR1 HB0 HB1;first|(simp[*];done)|(simp_all;done)|(simp_all;omega),HB2.i⟩
 all_goals
  have H2:=ab h2;clear h1 g1 g1';go_enter Cb,Ab;go_wp2_with fail;refine(Bf l HS.i _ v A c _ (HR1.i _ _) hn).g ?_;rintro e w1 ⟨rfl,hb1⟩;obtain⟨hx1,hx2,hx3,hx4,hx5⟩:=Uc hb1;have hz0:w.a.j<w1.a.j:=by simp at hx5;omega
  have hz1:w.a.j+1<w1.a.j:=by simp at hx5;omega
  clear hx5;have HB1:=ab ((HB0.i _ _).trans (hb1.g (by simp;omega)));have HB2:=ab (HB1.i.alloc (by omega) (.D (qc l o.E).ay 62));clear hb1;go_wp2_with fail
  all_goals
   go_ret;exact⟨by rw[HW.i,ae5.i,H2.i];clear hx1 hx2 hx3 hx4 HR1 HB0 HB1;first|(simp[*];done)|(simp_all;done)|(simp_all;omega),HB2.i⟩
theorem xR(a b:List Bk):dH (a++b)=dH a++dH b:=by simp[dH]
theorem aas(x:Bk)(b:List Bk):dH (x::b)=x.ay.a++dH b:=by simp[dH]
theorem MI(l:List Bk)(i:Nat)(hi:i<=l.a):dH (l.d i)=(dH l).d (i*27):=by
 have h:=xR (l.d i) (l.f i);rw[iF]at h;rw[h,gF (by rw[jF,bK];omega)];exact(aK (by rw[jF,bK];omega)).symm
theorem MJ(l:List Bk)(i:Nat)(hi:i<=l.a):dH (l.f i)=(dH l).f (i*27):=by
 have h:=xR (l.d i) (l.f i);rw[iF]at h;have hl:(dH (l.d i)).a=i*27:=by rw[jF,bK];omega
 rw[h,<-hl,List.drop_left]
def zF(l:List Bk)(i:Nat)(x:Bk):List Bk:=l.d i++x::l.f i
theorem xS(l:List Bk)(i:Nat)(x:Bk):(zF l i x).a=l.a+1:=by
 simp[zF];omega
theorem IE(l:List Bk)(i:Nat)(x:Bk)(hi:i<=l.a):dH (zF l i x)=(dH l).d (i*27)++x.ay.a++(dH l).f (i*27):=by
 rw[zF,xR,aas,MI l i hi,MJ l i hi,List.append_assoc]
theorem aat(w:ak)(g:Nat)(c:Array aB)(t:bF)(fr:Nat×Nat)(hg:w.a[g]? = some (.D c t fr)):∀j v,c.a[j]? = some v->w.b ((⟨g,0,none⟩:aT).add j)=some v:=fun j v hv=>by
 rw[iC,sQ w g _ c _ _ hg,bB]
 rwa [dD]at hv
def acQ(base:Nat)(w:ak)(row:Option Nat)(m:List Bk)(e:lq)(w':ak):Prop:=
 ∃A c,e=.a (.a A m.a c)/\w'.c base 62 27 (.a A m.a c) m.a (dH m)/\w.grownBy w' row
theorem Xn(w:ak)(g g2:Nat)(cur UQ:Array aB)(t t2:bF)(hg:w.a[g]? = some (.D cur t (0,0)))(h2:w.a[g2]? = some (.D UQ t2 (0,0)))(hne:g≠g2)(hc:cur.j≠0)(o la ca lb cb:Nat):
 (callFunc 210 #[.a (some ⟨g2,0,none⟩) la ca,.a (some ⟨g,o,none⟩) lb cb]).I ah w = .Z (.value (.bool false)) w:=by
 rw[run_callFunc_extern Tryz.func210 (by kernel_rfl) (by kernel_rfl) (by kernel_rfl) (e:=Extern.SlicesOverlaps.overlaps #[30,30] #[4]) (by kernel_rfl)];obtain⟨i0,hi0,hz0,hz1,hzb⟩:=OU;rw[Lib.run_overlaps_apart w _ _ 62 jl 27 (fun w=>by simp[sizeOf,typeInfo,hi0,hz1]) ⟨g2,0,none⟩ ⟨g,o,none⟩ la ca lb cb (fun e=>hne e.symm) t2 t UQ.j cur.j (by simp[World.shape?,h2]) (by simp[World.shape?,hg]) hc (by simp[rY,h2]) (by simp[rY,h2])];rfl
theorem aau(l:List Bk)(x:Bk)(i:Nat)(hi:i<l.a)(base g c:Nat)(cur:Array aB)(w:ak)(hb:base<=g)(hg:w.a[g]? = some (.D cur 62 (0,0)))(hc:l.a+1<=c)(hcm:c<=maxLen)(hcs:cur.j=c*27)
 (ht:cur.a.d (l.a*27)=dH l) (g2:Nat) (h2:w.a[g2]? = some (.D x.ay 62 (0,0))) (hne:g≠g2) (hn:l.a<=100000) :
 aP ah 141 #[.a (some ⟨g,0,none⟩) l.a c,.b .a i,.a (some ⟨g2,0,none⟩) 1 1] w (acQ base w (some g) (zF l i x)):=by
 unfold maxLen at hcm;obtain⟨n,hnl⟩:=cB l.a;rw[<-hnl]at hi hc hn ht ⊢;have HN:=ab hnl;have HG:=ab (show w.drew.a[g]? = some (.D cur 62 (0,0))from hg);have H2:=ab h2;have HT:=ab ht;have HCS:=ab hcs;have hov:=fun o la ca lb cb=>Xn w g g2 cur x.ay _ _ hg h2 hne (by omega) o la ca lb cb
 have SZ:=ab (show(ah.l 62).map (·.j)=some 27 by kernel_rfl);have M1:=ab (show n-i=ql (n+1-i) (n-i)from(Nat.min_eq_right (by omega)).symm);have M2:=ab (show((dH l).f (i*27)).a=(n-i)*27 by rw[jD,jF,<-hnl,Az]);have M3:=ab (show∀j v,((dH l).f (i*27))[j]? = some v->w.drew.b ((⟨g,i*27,none⟩:aT).add j)=some v from fun j v hv=>by
  show w.b _=_;rw[iC,sQ w g _ cur _ _ hg];rw[jo]at hv;rw[<-ht,jq]at hv;split at hv
  ·rw[dD]at hv;exact hv
  ·cases hv)
 have M4:=ab (show(i+1)*27+((dH l).f (i*27)).a<=cur.j by rw[M2.i,hcs];have:=dw 27 hc;have:=Az n i 27;have:=dw 27 (mG hi);omega);have M5:=ab (show∀v∈(dH l).f (i*27),v.h=true from fun v hv=>Cy l v (List.mem_of_mem_drop hv));clear hnl hg h2 ht hcs;go_enter Tryz.func141,Tryz.ntmps141;go_wp2_with fail;clear hov;have a1:IntKind.i64.wrap ((i:Int)+1)=(i:Int)+1:=IntWalk.i64_in _ (by omega);have a2:(0:Int)<=(i:Int)+1:=by omega
 have a3:(i:Int)+1<=(n:Int)+1:=by omega
 have a4:((i:Int)+1).e=i+1:=by omega
 have a5:¬c=i+1:=by omega
 have a6:¬c=i:=by omega
 have a7:(i:Int)<=(n:Int)+1:=by omega
 go_region_law (refine Im rfl (.a 73) (.a 76) _ _ rfl 62 27 jl SZ.i g ((i+1)*27) (n-i) (c-(i+1)) ⟨g,i*27,none⟩ (n+1-i) (c-i) (by kernel_rfl) (by kernel_rfl) cur _ HG.i ((dH l).f (i*27)) (n-i) M1.i M2.i M3.i M4.i M5.i ?_;intro w1 hw1;have HW1:=ab hw1;clear hw1);clear a1 a2 a3 a4 a5 a6 a7;obtain⟨uh,hc1⟩:∃uh:Array aB,uh=(splice cur.a ((i+1)*27) ((dH l).f (i*27))).b:=⟨_,rfl⟩
 have G1:=ab (show w1.a[g]? = some (.D uh 62 (0,0))by rw[HW1.i,hc1];exact rD w.drew g cur _ _ _ HG.i);have G2:=ab (show w1.a[g2]? = some (.D x.ay 62 (0,0))by rw[HW1.i,oL w.drew g g2 _ (fun e=>hne e.symm)];exact H2.i);have G3:=ab (show w.grownBy w1 (some g)by rw[HW1.i];exact⟨rfl,rfl,rfl,by simp[rT],fun k hk hkg=>oL w.drew g k _ (fun e=>hkg (by rw[e]))⟩);have HC1:=ab hc1;clear hc1;have N1:=ab (show 1=ql 1 (n+1-i)from(oC (by omega)).symm);have N2:=ab (show x.ay.a.a=1*27 by rw[aZ,Bk.G]);have N3:=ab (show∀j v,x.ay.a[j]? = some v->w1.b ((⟨g2,0,none⟩:aT).add j)=some v from fun j v hv=>by
  rw[iC,sQ w1 g2 _ x.ay _ _ G2.i,bB]
  rwa [dD]at hv)
 have hs1:uh.j=c*27:=by
  rw[HC1.i,dI,vM _ _ _ (by rw[aZ];exact M4.i),aZ,HCS.i]
 have N4:=ab (show i*27+x.ay.a.a<=uh.j by rw[N2.i,hs1];have:=dw 27 hc;have:=dw 27 (mG hi);omega);have N5:=ab (show∀v∈x.ay.a,v.h=true from fun v hv=>gu.1 (Bk.cO x) v (by simpa using hv));have Te:=ab hs1;clear hs1;go_wp2_with (refine Ed rfl (.a 80) (.a 81) _ _ rfl 62 27 jl SZ.i g (i*27) (n+1-i) (c-i) ⟨g2,0,none⟩ 1 1 rfl rfl uh _ G1.i x.ay.a 1 N1.i N2.i N3.i N4.i N5.i ?_;intro w2 hw2;have HW2:=ab hw2;clear hw2);go_ret;have hln:=xS l i x;rw[<-HN.i]at hln;refine⟨some ⟨g,0,none⟩,c,by rw[hln];rfl,?_,?_⟩
 ·rw[hln]
  refine⟨by rw[jF,hln],.b ⟨g,c,(splice uh.a (i*27) x.ay.a).b,rfl,hb,?_,hc,by unfold maxLen;omega,?_,?_⟩⟩
  ·rw[HW2.i];exact rD w1 g uh _ _ _ G1.i
  ·rw[dI,vM _ _ _ (by rw[aZ];exact N4.i),aZ,Te.i]
  ·rw[IE l i x (by rw[<-HN.i];omega),HC1.i]
   have hx:=HT.i;have hcl:=jF l;rw[<-HN.i]at hcl;have:=aiu cur.a (dH l) x.ay.a (i*27) 27 (by rw[hcl];exact hx) (by rw[hcl];omega) (by rw[aZ,Bk.G]) (by rw[hcl,aZ,HCS.i];omega);rw[hcl]at this;rw[show(n+1)*27=n*27+27 by omega];rw[show(i+1)*27=i*27+27 by omega];exact this
 ·rw[HW2.i]
  refine Mc G3.i ⟨rfl,rfl,rfl,by simp[rT],fun k hk hkg=>oL w1 g k _ (fun e=>hkg (by rw[e]))⟩
theorem ae6(l:List Bk)(x:Bk)(i:Nat)(hi:i<l.a)(base g c:Nat)(cur:Array aB)(w:ak)(hbase:base<=w.a.j)(hg:w.a[g]? = some (.D cur 62 (0,0)))(hc:c<l.a+1)(hlc:l.a<=c)(hcs:cur.j=c*27)
 (ht:cur.a.d (l.a*27)=dH l) (g2:Nat) (h2:w.a[g2]? = some (.D x.ay 62 (0,0))) (hn:l.a<=100000) :
 aP ah 141 #[.a (some ⟨g,0,none⟩) l.a c,.b .a i,.a (some ⟨g2,0,none⟩) 1 1] w (acQ base w (some g) (zF l i x)):=by
 obtain⟨n,hnl⟩:=cB l.a;rw[<-hnl]at hi hc hlc hn ht ⊢;have HN:=ab hnl;have HG:=ab hg;have H2:=ab h2;have HT:=ab ht;have HCS:=ab hcs;obtain⟨i0,hi0,hz0,hz1,hzb⟩:=OU;have HI0:=ab hi0;have HZ0:=ab hz0;have HZ1:=ab hz1;have HZ2:=ab (show(bY jg.ay).D.j=27 by simp[cK,Bk.G]);have SZ:=ab (show(ah.l 62).map (·.j)=some 27 by kernel_rfl);have hcl:=jF l;rw[<-hnl]at hcl;have HX:=ab (show aI .a ((n:Int)+1-i)=.b .a ((n+1-i:Nat):Int)by congr 1;omega);have L1:=ab (show((dH l).d (i*27)).a=i*27 by rw[bK,hcl];omega);have L2:=ab (show∀j u,((dH l).d (i*27))[j]? = some u->w.b ((⟨g,0,none⟩:aT).add j)=some u from fun j v hv=>by
  rw[iC,sQ w g _ cur _ _ hg,bB];rw[jq]at hv;split at hv
  ·rw[<-ht,jq]at hv
   split at hv
   ·rw[dD]at hv;exact hv
   ·cases hv
  ·cases hv)
 have L3:=ab (show 0<n+1-i by omega);have L4:=ab (show c<i+(n+1-i)by omega);have L5:=ab (show i+(n+1-i)<=maxLen by unfold maxLen;omega);have L6:=ab (show(i+(n+1-i))*i0.bytes<=140737488355328 from aO (gU (show i+(n+1-i)<=100001 by omega) hzb) (by omega));have M1:=ab (show n-i=ql (n-i) (n-i)from(Nat.min_self _).symm);have M2:=ab (show((dH l).f (i*27)).a=(n-i)*27 by rw[jD,hcl,Az]);have M5:=ab (show∀v∈(dH l).f (i*27),v.h=true from fun v hv=>Cy l v (List.mem_of_mem_drop hv));have N1:=ab (show 1=ql 1 (n+1-i)from(oC (by omega)).symm);have N2:=ab (show x.ay.a.a=1*27 by rw[aZ,Bk.G]);have N5:=ab (show∀v∈x.ay.a,v.h=true from fun v hv=>gu.1 (Bk.cO x) v (by simpa using hv));have HCL:=ab hcl;have EN:=ab (show i+(n+1-i)=n+1 by omega);have hgl:g<w.a.j:=(bW.1 hg).1;have aCd:g2<w.a.j:=(bW.1 h2).1;clear hnl hg h2 ht hcs hi0 hz0 hz1 hcl;go_enter Tryz.func141,Tryz.ntmps141;go_wp2_with (first
  | (refine OV rfl (.a 34) (.a 39) _ _ rfl 62 i0 (.d jg.ay) 27 .a .a jl Tryz.underlying3 HI0.i HZ0.i HZ1.i HZ2.i ⟨g,0,none⟩ i c rfl (n+1-i) HX.i ((dH l).d (i*27)) L1.i L2.i L3.i (mH _) L4.i L5.i L6.i ?_
     rw[EN.i];intro c' uh w1 hc1 hc2 hc3 hc4 hc5 hc6;have C2:=ab hc2;have C3:=ab hc3;have C4:=ab hc4;have C6:=ab hc6;have G1:=ab (show w1.a[w.a.j]? = some (.D uh 62 (0,0))from hc5);have Gx:=ab (show w1.a[g2]? = some (.D x.ay 62 (0,0))from(hc6.block g2 aCd).trans H2.i);have Gg:=ab (show w1.a[g]? = some (.D cur 62 (0,0))from(hc6.block g hgl).trans HG.i);have N3:=ab (aat w1 g2 x.ay _ _ Gx.i);have N4:=ab (show i*27+x.ay.a.a<=uh.j by rw[N2.i,C3.i];have:=dw 27 hc1;omega);clear hc2 hc3 hc4 hc5 hc6)
  | (refine Ed rfl (.a 43) (.a 44) _ _ rfl 62 27 jl SZ.i w.a.j (i*27) (n+1-i) (c'-i) ⟨g2,0,none⟩ 1 1 rfl rfl uh _ G1.i x.ay.a 1 N1.i N2.i N3.i N4.i N5.i ?_
     intro w2 hw2;have HW2:=ab hw2;clear hw2))
 obtain⟨UQ,hc2⟩:∃UQ:Array aB,UQ=(splice uh.a (i*27) x.ay.a).b:=⟨_,rfl⟩
 have K1:=ab (show w2.drew.a[w.a.j]? = some (.D UQ 62 (0,0))by rw[HW2.i,hc2];exact rD w1 w.a.j uh _ _ _ G1.i);have Kg:=ab (show w2.a[g]? = some (.D cur 62 (0,0))by rw[HW2.i,oL w1 w.a.j g _ (by omega)];exact Gg.i);have KB:=ab (show aL w.a.j w w2 by rw[HW2.i];exact C6.i.trans ⟨rfl,rfl,rfl,by simp[rT],fun k hk=>oL w1 w.a.j k _ (by omega)⟩);have hs2:UQ.j=c'*27:=by
  rw[hc2,dI,vM _ _ _ (by rw[aZ];exact N4.i),aZ,C3.i]
 have M3:=ab (show∀j v,((dH l).f (i*27))[j]? = some v->w2.drew.b ((⟨g,i*27,none⟩:aT).add j)=some v from fun j v hv=>by
  show w2.b _=_;rw[iC,sQ w2 g _ cur _ _ Kg.i];rw[jo]at hv;rw[<-HT.i,jq]at hv;split at hv
  ·rw[dD]at hv;exact hv
  ·cases hv)
 have M4:=ab (show(i+1)*27+((dH l).f (i*27)).a<=UQ.j by rw[M2.i,hs2];have:=dw 27 hc1;have:=Az n i 27;have:=dw 27 (mG hi);omega);have HC2:=ab hc2;have HS2:=ab hs2;clear hc2 hs2;have a5:¬c'=i+1:=by omega
 have a6:¬c=i:=by omega
 have a7:(i:Int)<=(n:Int):=by omega
 have a2:(0:Int)<=(i:Int)+1:=by omega
 have a3:(i:Int)+1<=(n:Int)+1:=by omega
 have a4:((i:Int)+1).e=i+1:=by omega
 have a1:IntKind.i64.wrap ((i:Int)+1)=(i:Int)+1:=IntWalk.i64_in _ (by omega);go_region_law (refine Im rfl (.a 50) (.a 53) _ _ rfl 62 27 jl SZ.i w.a.j ((i+1)*27) (n-i) (c'-(i+1)) ⟨g,i*27,none⟩ (n-i) (c-i) (by kernel_rfl) (by kernel_rfl) UQ _ K1.i ((dH l).f (i*27)) (n-i) M1.i M2.i M3.i M4.i M5.i ?_;intro w3 hw3;have HW3:=ab hw3;clear hw3);clear a1 a2 a3 a4 a5 a6 a7;go_wp2_with fail;go_ret;have hln:=xS l i x;rw[<-HN.i]at hln;refine⟨some ⟨w.a.j,0,none⟩,c',by rw[hln];rfl,?_,?_⟩
 ·rw[hln]
  refine⟨by rw[jF,hln],.b ⟨w.a.j,c',(splice UQ.a ((i+1)*27) ((dH l).f (i*27))).b,rfl,hbase,?_,hc1,C2.i,?_,?_⟩⟩
  ·rw[HW3.i];exact rD w2.drew w.a.j UQ _ _ _ K1.i
  ·rw[dI,vM _ _ _ (by rw[aZ];exact M4.i),aZ,HS2.i]
  ·rw[IE l i x (by rw[<-HN.i];omega),HC2.i]
   have:=aoL uh.a (dH l) x.ay.a (i*27) 27 C4.i (by rw[HCL.i];omega) (by rw[aZ,Bk.G]) (by rw[HCL.i,aZ,C3.i];omega);rw[HCL.i]at this;rw[show(n+1)*27=n*27+27 by omega,show(i+1)*27=i*27+27 by omega];exact this
 ·rw[HW3.i]
  have hb:=KB.i;exact⟨hb.os,hb.tape,hb.output,by have:=hb.j;simpa[rT]using this,fun k hk hkg=>(oL w2.drew w.a.j k _ (by omega)).trans (hb.block k hk)⟩
theorem aiI(l:List Bk)(x:Bk):dH (zF l l.a x)=dH l++x.ay.a:=by
 rw[IE l l.a x (av _),aK (by rw[jF];omega),iW (by rw[jF];omega),List.append_nil]
theorem UR(l:List Bk)(x:Bk)(base c:Nat)(A:Option aT)(w:ak)(hbase:base<=w.a.j)(hown:w.c base 62 27 (.a A l.a c) l.a (dH l))(hlc:l.a<=c)(g2:Nat)(h2:w.a[g2]? = some (.D x.ay 62 (0,0)))(hn:l.a<=100000):
 aP ah 141 #[.a A l.a c,.b .a l.a,.a (some ⟨g2,0,none⟩) 1 1] w (acQ base w (bD A l.a c).ownBlock (zF l l.a x)):=by
 have hln:=xS l l.a x;have hce:=aiI l x;obtain⟨n,hnl⟩:=cB l.a;rw[<-hnl]at hln hce hn hlc hown ⊢;obtain⟨m,hm⟩:=cB (zF l n x);rw[<-hm]at hln hce ⊢;have HLN:=ab hln;have HCE:=ab hce;have HO:=ab hown;obtain⟨i0,hi0,hz0,hz1,hzb⟩:=OU;have HI0:=ab hi0;have HZ0:=ab hz0;have HZ1:=ab hz1;have HZ2:=ab (show(bY jg.ay).D.j=27 by simp[cK,Bk.G]);have L5:=ab (show n+1<=maxLen by unfold maxLen;omega);have L6:=ab (show(n+1)*i0.bytes<=140737488355328 from aO (gU (show n+1<=100001 by omega) hzb) (by omega));have HR:=ab (show Rd w (g2+1) 27 (some ⟨g2,0,none⟩) 1 x.ay.a from⟨by rw[aZ,Bk.G],fun _=>⟨_,rfl,mF _,aat w g2 x.ay _ _ h2⟩⟩);have N5:=ab (show∀v∈x.ay.a,v.h=true from fun v hv=>gu.1 (Bk.cO x) v (by simpa using hv));clear hnl hm hln hce hown hi0 hz0 hz1 h2;have hnn:((n:Int)==(n:Int))=true:=by simp
 go_enter Tryz.func141,Tryz.ntmps141;go_wp2_with (refine jv _ rfl (.a 23) (.a 24) _ rfl base 62 i0 (.d jg.ay) 27 i0.bytes jl HI0.i HZ0.i HZ1.i rfl HZ2.i (mH _) (.a A n c) n (dH l) rfl HO.i (g2+1) (some ⟨g2,0,none⟩) 1 1 x.ay.a rfl HR.i N5.i L5.i L6.i hbase ?_;intro v1 w1 hown1 hg1 wM;have O1:=ab hown1;have GR:=ab hg1;clear hown1 hg1 wM)
 all_goals
  go_ret;obtain⟨A',c',rfl,_,_⟩:=jE O1.i;refine⟨A',c',by rw[HLN.i];rfl,?_,by have:=GR.i;cases A<;>exact this⟩;rw[HLN.i,HCE.i];exact O1.i
def ao8(base:Nat)(w:ak)(A:Option aT)(c:Nat)(l:List Bk)(g2:Nat)(x:Bk):Prop:=
 w.c base 62 27 (.a A l.a c) l.a (dH l)/\w.a[g2]? = some (.D x.ay 62 (0,0))/\(∀g,A=some g->g.block≠g2)/\base<=w.a.j/\l.a<=100000
theorem ae8(l:List Bk)(x:Bk)(i:Nat)(hi:i<=l.a)(base c g2:Nat)(A:Option aT)(w:ak)(h:ao8 base w A c l g2 x):
 aP ah 141 #[.a A l.a c,.b .a i,.a (some ⟨g2,0,none⟩) 1 1] w (acQ base w (bD A l.a c).ownBlock (zF l i x)):=by
 obtain⟨hown,h2,hne,hb,hn⟩:=h;have hown':=hown;rcases hown.2 with⟨hv,h0⟩|⟨g,cap,cur,hv,hbg,hg,hnc,hcm,hcs,htake⟩
 ·injection hv with e1 e2 e3
  subst e1 e3;obtain rfl:i=l.a:=by omega
  exact UR l x base 0 none w hb hown (by omega) g2 h2 hn
 ·injection hv with e1 e2 e3
  subst e1 e3;rcases aY i l.a with h1|h1
  ·rcases aY c (l.a+1)with h3|h3
   ·exact ae6 l x i h1 base g c cur w hb hg h3 hnc hcs htake g2 h2 hn
   ·exact aau l x i h1 base g c cur w hbg hg h3 hcm hcs htake g2 h2 (hne _ rfl) hn
  ·obtain rfl:i=l.a:=by omega
   exact UR l x base c _ w hb hown hnc g2 h2 hn
def Eh(l:List Bk)(i:Nat):List Bk:=l.d i++l.f (i+1)
theorem ML(l:List Bk)(i:Nat)(hi:i<l.a):(Eh l i).a=l.a-1:=by
 simp[Eh];omega
theorem QU(l:List Bk)(i:Nat)(hi:i<l.a):dH (Eh l i)=(dH l).d (i*27)++(dH l).f (i*27+27):=by
 rw[Eh,xR,MI l i (by omega),MJ l (i+1) (by omega),show(i+1)*27=i*27+27 by omega]
theorem ae9(l:List Bk)(i:Nat)(hi:i<l.a)(base g c:Nat)(cur:Array aB)(w:ak)(hb:base<=g)(hg:w.a[g]? = some (.D cur 62 (0,0)))(hc:l.a<=c)(hcm:c<=maxLen)(hcs:cur.j=c*27)
 (ht:cur.a.d (l.a*27)=dH l) (hn:l.a<=100000) :
 aP ah 142 #[.a (some ⟨g,0,none⟩) l.a c,.b .a i,.b .a ((i:Int)+1)] w (acQ base w (some g) (Eh l i)):=by
 have hln:=ML l i hi;have hcl:=jF l;unfold maxLen at hcm;obtain⟨n,hnl⟩:=cB l.a;rw[<-hnl]at hi hc hn ht hln hcl ⊢;have HN:=ab hnl;have HG:=ab (show w.drew.a[g]? = some (.D cur 62 (0,0))from hg);have HT:=ab ht;have HCS:=ab hcs;have HLN:=ab hln;have HCL:=ab hcl;obtain⟨i0,hi0,hz0,hz1,hzb⟩:=OU;have HI0:=ab hi0;have HZ0:=ab hz0;have HZ1:=ab hz1;have HZ2:=ab (show(bY jg.ay).D.j=27 by simp[cK,Bk.G]);have HZ3:=ab (show(bY jg.ay).D.all (·.h)=true from Bk.cO jg);have M2:=ab (show((dH l).f (i*27+27)).a=(n-(i+1))*27 by rw[jD,hcl,Az];omega);have M3:=ab (show∀j v,((dH l).f (i*27+27))[j]? = some v->w.drew.b ((⟨g,(i+1)*27,none⟩:aT).add j)=some v from fun j v hv=>by
  show w.b _=_;rw[iC,sQ w g _ cur _ _ hg,show(i+1)*27=i*27+27 by omega];rw[jo]at hv;rw[<-ht,jq]at hv;split at hv
  ·rw[dD]at hv;exact hv
  ·cases hv)
 have M4:=ab (show i*27+((dH l).f (i*27+27)).a<=cur.j by rw[M2.i,hcs];have:=dw 27 hc;have:=Az n (i+1) 27;omega);have M5:=ab (show∀v∈(dH l).f (i*27+27),v.h=true from fun v hv=>Cy l v (List.mem_of_mem_drop hv));have M6:=ab (show i+(n-(i+1))<=c by omega);have EN:=ab (show i+(n-(i+1))=n-1 by omega);have M7':=ab (show c=i+1->Hid (∀j v,((dH l).f (i*27+27))[j]? = some v->w.drew.b ((⟨g,0,none⟩:aT).add j)=some v)from fun h=>ab fun j v hv=>by
  have hz:(dH l).f (i*27+27)=[]:=bE (by rw[M2.i,show n-(i+1)=0 by omega,Nat.zero_mul]);rw[hz]at hv;simp at hv)
 have HN1:=ab (show 1<=n by omega);clear hnl hg ht hcs hi0 hz0 hz1 hcl hln;have b1:(i:Int)<=n:=by omega
 have b2:(i:Int)+1<=n:=by omega
 go_enter Tryz.func142,Tryz.ntmps142;go_wp2_with fail;by_cases hci:c=i+1;rotate_left
 ·have a4:((i:Int)+1).e=i+1:=by omega
  have a2:(0:Int)<=(i:Int)+1:=by omega
  have a8:¬c=i:=by omega
  have a9:(i:Int)<=c:=by omega
  go_region_law (refine Ky rfl (.a 22) (.a 25) _ rfl 62 i0 27 jl HI0.i HZ1.i g i c ⟨g,(i+1)*27,none⟩ (n-(i+1)) (c-(i+1)) (by kernel_rfl) (by kernel_rfl) cur HG.i ((dH l).f (i*27+27)) M2.i M3.i M5.i M6.i M4.i ?_;intro w1 hw1;rw[EN.i];have HW1:=ab hw1;clear hw1);clear a2 a4 a8 a9;obtain⟨uh,hc1⟩:∃uh:Array aB,uh=(splice cur.a (i*27) ((dH l).f (i*27+27))).b:=⟨_,rfl⟩
  have G1:=ab (show w1.a[g]? = some (.D uh 62 (0,0))by rw[HW1.i,hc1];exact rD w.drew g cur _ _ _ HG.i);have hs1:uh.j=c*27:=by
   rw[hc1,dI,vM _ _ _ (by rw[aZ];exact M4.i),aZ,HCS.i]
  have E1:=ab (show 0<n-(n-1)by have:=HN1.i;omega);have E2:=ab (show(n-1)*27+(n-(n-1))*27<=uh.j by rw[hs1,show n-(n-1)=1 by have:=HN1.i;omega];have:=HN1.i;omega);have HC1:=ab hc1;have Te:=ab hs1;clear hc1 hs1;go_wp2_with (refine Ee rfl (.a 31) _ rfl 62 i0 (.d jg.ay) 27 jl HI0.i HZ0.i HZ2.i HZ3.i g ((n-1)*27) (n-(n-1)) (c-(n-1)) rfl E1.i uh _ G1.i E2.i ?_;intro w2 zs hzs hw2;have HW2:=ab hw2;have HZS:=ab hzs;clear hw2 hzs);go_ret;refine⟨some ⟨g,0,none⟩,c,by rw[HLN.i];rfl,?_,?_⟩
  ·rw[HLN.i]
   refine⟨by rw[jF,HLN.i],.b ⟨g,c,(splice uh.a ((n-1)*27) zs).b,rfl,hb,?_,by omega,by unfold maxLen;omega,?_,?_⟩⟩
   ·rw[HW2.i];exact rD w1 g uh _ _ _ G1.i
   ·rw[dI,vM _ _ _ (by rw[aZ];have h1:=HZS.i;have h2:=E2.i;first|(rw[h1];exact h2)|(simp only[dI,h1];exact h2)),aZ,Te.i]
   ·rw[QU l i (by rw[<-HN.i];exact hi)]
    have h1:=Ya cur.a (dH l) (i*27) 27 (by rw[HCL.i];exact HT.i) (by rw[HCL.i];omega);have hcu:uh.a=splice cur.a (i*27) ((dH l).f (i*27+27)):=by rw[HC1.i]
    rw[HCL.i,show n*27-27=(n-1)*27 by omega,<-hcu]at h1;show List.take ((n-1)*27) (splice uh.a ((n-1)*27) zs)=_;rw[splice,gF (by rw[bK,aZ,Te.i];omega),vL,Nat.min_self];exact h1
  ·rw[HW2.i]
   have hG:w.grownBy w1 (some g):=by rw[HW1.i];exact⟨rfl,rfl,rfl,by simp[rT],fun k hk hkg=>oL w.drew g k _ (fun e=>hkg (by rw[e]))⟩
   refine Mc hG ⟨rfl,rfl,rfl,by simp[rT],fun k hk hkg=>oL w1 g k _ (fun e=>hkg (by rw[e]))⟩
 ·have M3:=M7'.i hci
  have HCI:=ab hci;have a0:(c=i+1)=True:=by simpa using hci
  clear hci;have a4:((i:Int)+1).e=i+1:=by omega
  have a2:(0:Int)<=(i:Int)+1:=by omega
  have a8:¬c=i:=by have:=HCI.i;omega
  have a9:(i:Int)<=c:=by omega
  go_region_law (refine Ky rfl (.a 22) (.a 25) _ rfl 62 i0 27 jl HI0.i HZ1.i g i c ⟨g,0,none⟩ (n-(i+1)) (c-(i+1)) (by kernel_rfl) (by kernel_rfl) cur HG.i ((dH l).f (i*27+27)) M2.i M3.i M5.i M6.i M4.i ?_;intro w1 hw1;rw[EN.i];have HW1:=ab hw1;clear hw1);clear a2 a4 a8 a9;obtain⟨uh,hc1⟩:∃uh:Array aB,uh=(splice cur.a (i*27) ((dH l).f (i*27+27))).b:=⟨_,rfl⟩
  have G1:=ab (show w1.a[g]? = some (.D uh 62 (0,0))by rw[HW1.i,hc1];exact rD w.drew g cur _ _ _ HG.i);have hs1:uh.j=c*27:=by
   rw[hc1,dI,vM _ _ _ (by rw[aZ];exact M4.i),aZ,HCS.i]
  have E1:=ab (show 0<n-(n-1)by have:=HN1.i;omega);have E2:=ab (show(n-1)*27+(n-(n-1))*27<=uh.j by rw[hs1,show n-(n-1)=1 by have:=HN1.i;omega];have:=HN1.i;omega);have HC1:=ab hc1;have Te:=ab hs1;clear hc1 hs1;go_wp2_with (refine Ee rfl (.a 31) _ rfl 62 i0 (.d jg.ay) 27 jl HI0.i HZ0.i HZ2.i HZ3.i g ((n-1)*27) (n-(n-1)) (c-(n-1)) rfl E1.i uh _ G1.i E2.i ?_;intro w2 zs hzs hw2;have HW2:=ab hw2;have HZS:=ab hzs;clear hw2 hzs);go_ret;refine⟨some ⟨g,0,none⟩,c,by rw[HLN.i];rfl,?_,?_⟩
  ·rw[HLN.i]
   refine⟨by rw[jF,HLN.i],.b ⟨g,c,(splice uh.a ((n-1)*27) zs).b,rfl,hb,?_,by omega,by unfold maxLen;omega,?_,?_⟩⟩
   ·rw[HW2.i];exact rD w1 g uh _ _ _ G1.i
   ·rw[dI,vM _ _ _ (by rw[aZ];have h1:=HZS.i;have h2:=E2.i;first|(rw[h1];exact h2)|(simp only[dI,h1];exact h2)),aZ,Te.i]
   ·rw[QU l i (by rw[<-HN.i];exact hi)]
    have h1:=Ya cur.a (dH l) (i*27) 27 (by rw[HCL.i];exact HT.i) (by rw[HCL.i];omega);have hcu:uh.a=splice cur.a (i*27) ((dH l).f (i*27+27)):=by rw[HC1.i]
    rw[HCL.i,show n*27-27=(n-1)*27 by omega,<-hcu]at h1;show List.take ((n-1)*27) (splice uh.a ((n-1)*27) zs)=_;rw[splice,gF (by rw[bK,aZ,Te.i];omega),vL,Nat.min_self];exact h1
  ·rw[HW2.i]
   have hG:w.grownBy w1 (some g):=by rw[HW1.i];exact⟨rfl,rfl,rfl,by simp[rT],fun k hk hkg=>oL w.drew g k _ (fun e=>hkg (by rw[e]))⟩
   refine Mc hG ⟨rfl,rfl,rfl,by simp[rT],fun k hk hkg=>oL w1 g k _ (fun e=>hkg (by rw[e]))⟩
def aav(w:ak)(l:List Bk)(e:lq)(w':ak):Prop:=
 ∃A c,e=.a (.a A l.a c)/\w'.c w.a.j 62 27 (.a A l.a c) l.a (dH l)/\aL w.a.j w w'
theorem xu(l:List Bk)(A:Option aT)(c:Nat)(w:ak)(hR:Ea w w.a.j A l.a l)(hn:l.a<=100000):
 aP ah 61 #[.a A l.a c] w (aav w l):=by
 cases A with
 | some a=>exact acp l a c w hR (by omega)
 | none=>
   have h0:l.a=0:=by
    rcases eu l.a with h0|h0
    ·exact h0
    ·obtain⟨a,ha,_⟩:=hR.2.1.2 h0;cases ha
   have hl:l=[]:=bE h0;subst hl;have hnil:∀W:ak,(binOp .eql 30 (.a none 0 c) (.a none 0 0)).I ah W = .Z (.bool true) W:=fun W=>by
    simp only[binOp];simp[run_equal_slice_nil,jl]
   have XP:aav w [] (.a (.a none 0 0)) w:=⟨none,0,rfl,fu _ _ _ _,aG _ _⟩
   have FIN:=ab XP;clear XP;clear hR;simp only[List.length_nil];go_enter Tryz.func61,Tryz.ntmps61;go_wp2;go_ret;exact FIN.i
theorem oH{w:ak}{base:Nat}{l:List Bk}{A:Option aT}{c:Nat}(h:w.c base 62 27 (.a A l.a c) l.a (dH l)):Ea w w.a.j A l.a l:=
 ⟨rfl,Rd.iQ h,fun a ha _=>by
  rcases h.2 with⟨hv,h0⟩|⟨g,cap,cur,hv,_⟩
  ·injection hv with e1 _ _
   rw[e1]at ha;cases ha
  ·injection hv with e1 _ _
   rw[e1]at ha;injection ha with ha
   rw[<-ha]⟩
theorem IG(l:List Bk)(k:Nat)(hk:k<l.a)(y:Bk)(j:Nat)(hj:j<27)(u:aB)(h:y.ay=(l.c k jg).ay.setIfInBounds j u):(dH l).set (k*27+j) u=dH (l.set k y):=by
 have hs:=Bk.G (l.c k jg);have hlen:=jF l;have UU:=jF (l.set k y);rw[aV]at UU;apply List.ext_getElem?;intro i;rcases aY i (l.a*27)with h1|h1
 ·have e1:i=i/27*27+i%27:=by omega
  have h2:i/27<l.a:=by omega
  have h3:i%27<27:=fH _ (by omega);have g1:=Ik l (i/27) (i%27) h2 h3;have g2:=Ik (l.set k y) (i/27) (i%27) (by rw[aV];exact h2) h3;rw[<-e1]at g1 g2;rw[g2,List.getElem?_set,hlen];by_cases h4:i/27=k
  ·have e2:(l.set k y).c (i/27) jg=y:=by
    rw[au,h4,List.getElem?_set_self hk];rfl
   rw[e2,h,Array.getElem?_setIfInBounds,hs];by_cases h5:j=i%27
   ·have:k*27+j=i:=by omega
    simp[h5,h3];rw[if_pos (by omega),if_pos (by omega)]
   ·have:¬k*27+j=i:=by omega
    rw[if_neg this,if_neg h5,g1,h4]
  ·have e2:(l.set k y).c (i/27) jg=l.c (i/27) jg:=by
    rw[au,au,List.getElem?_set_ne (fun e=>h4 e.symm)]
   have:¬k*27+j=i:=by omega
   rw[if_neg this,e2,g1]
 ·rw[aS (by rw[aV,hlen];exact h1),aS (by rw[UU];exact h1)]
theorem aaw{v:Int}{l:List Bk}{o:qO}(h:pU v l o=0):1<=o.kind/\o.kind<=5/\v<1099511627776/\(o.kind=1->o.X.Ci=true/\sM l o.X.E=false/\l.a<1024)/\(o.kind=3->Xd o.w=true)/\(o.kind≠1->sM l o.E=true):=by
 unfold pU at h
 repeat' split at h
 all_goals first|(exact absurd h (by decide))|skip
 rename_i h1 h2 h3 h4 h5 h6 h7 h8 h9 h10;refine⟨by omega,by omega,by omega,fun hk=>⟨?_,?_,?_⟩,fun hk=>?_,fun hk=>?_⟩
 ·simpa[hk]using h3
 ·simpa[hk,qO.who]using h5
 ·simp[hk]at h6;omega
 ·simpa[hk]using h4
 ·simpa[hk,qO.who]using h7
def Qc(l:List Bk)(o:qO):List Bk:=
 if o.kind=1 then zF l (kJ l o.X.E) (o.X.Ol (kI o.X.w))
 else if o.kind=2 then Eh l (kJ l o.E)
 else if o.kind=3 then l.set (kJ l o.E) ((qc l o.E).Ol (kI o.w))
 else l.set (kJ l o.E) ((qc l o.E).toD (o.kind==4))
def UW(w:ak)(v:Int)(l:List Bk)(er:Int)(e:lq)(w':ak):Prop:=
 ∃A c,e=.a (.J #[.d #[.b .a v,.a A l.a c],.b .a er])/\w'.c w.a.j 62 27 (.a A l.a c) l.a (dH l)/\aL w.a.j w w'
theorem Ei{fn:Func}{p u:Tmp}(h:fn.results = #[.cell p 32,.a u])(tmps:Array aB)(W:ak)(b o:Nat)(hp:tmps.c p undef=.pointer (some ⟨b,o,none⟩))(hh:vw W b o 2):
 (results fn tmps).I ah W = .Z (.J #[.d (dM W b o 2),tmps.c u undef]) W:=by
 have hl:=jV W b o 2 _ _ Tryz.underlying32 rfl (by kernel_rfl) hh;simp only[bZ,Instr.sureAddr,Sem.run_bind,Sem.run_pure,Result.andThen_ok]at hl;rw[results_cell_tmp h,hp];simp[asAddr,Result.andThen,hl]
theorem as6(l:List Bk)(hs:Fp l)(v:Int)(o:qO)(hf:o.X.pJ)(hw:o.w<18446744073709551616)(Bn:pU v l o≠0)(A:Option aT)(c:Nat)(w:ak)(hR:Ea w w.a.j A l.a l)(hn:l.a<=100000):
 aP ah 71 #[.d #[.b .a v,.a A l.a c],.d o.ay] w (UW w v l (pU v l o)):=by
 have HS:=ab hs;have HR1:=ab (fun ob sK Gs=>(((hR.alloc (av _) ob).alloc (by simp) sK).alloc (by simp;omega) Gs).lF (B':=(((w.alloc ob).alloc sK).alloc Gs).a.j) (by simp;omega));have HB0:=ab (fun ob sK Gs=>((((aG w.a.j w).alloc (av _) ob).alloc (by simp) sK).alloc (by simp;omega) Gs:aL w.a.j w (((w.alloc ob).alloc sK).alloc Gs)));obtain⟨K,hK⟩:=tN (pU v l o);have Om:=fun A c W (hR:Ea W W.a.j A l.a l)=>JK l hs v o hf hw A c W hR (by omega)
 rw[hK]at Bn Om ⊢;have MO:=ab Om;clear hR hs Om hK;have hk0:(K != 0)=true:=by simpa using Bn
 clear Bn;go_enter EJ,Cc;go_wp2_with fail;refine(xu l A c _ (HR1.i _ _ _) hn).g ?_;rintro e w1 ⟨A1,c1,rfl,ho1,hb1⟩;have b0:=(((dK.new w _ _).alloc _).alloc _).O hb1 (by simp;omega);have b1:=((dK.Rv w _ _ _).alloc _).O hb1 (by simp);have b2:=(dK.ah0 w _ _ _ _).O hb1 (by simp);have hz1:w.a.j+2<w1.a.j:=b2.lt;have O1:=ab (iI ho1 (show w.a.j+3<=_ by simp));have HB1:=ab ((HB0.i _ _ _).trans (hb1.g (by simp;omega)));clear ho1 hb1;obtain⟨x1,x2,x3,x4⟩:=b0.K;obtain⟨y1,y2,y3,y4⟩:=b1.K;have B0:=ab b0;have B1:=ab b1;have B2:=ab b2;clear b0 b1 b2;go_wp2_with fail;refine(MO.i A1 c1 _ (oH (jM O1.i (by simp) _))).g ?_;rintro e w2 ⟨rfl,hb2⟩;have hsz:(w1.F ⟨w.a.j,1,none⟩ (bD A1 l.a c1)).a.j=w1.a.j:=by simp[gX]
 have b0:=(B0.i.eF 1 (bD A1 l.a c1)).O hb2 (by rw[hsz];omega);have b2:=(B2.i.dN ⟨w.a.j,1,none⟩ (bD A1 l.a c1) (by simp)).O hb2 (by rw[hsz];omega);have O2:=ab (jA (jM O1.i (by simp) _) hb2);have HB2:=ab ((HB1.i.F (av _) _).trans (hb2.g (by rw[hsz];omega)));clear hb2 hsz x1 x2 x3 x4 y1 y2 y3 y4;obtain⟨x1,x2,x3,x4⟩:=b0.K;obtain⟨y1,y2,y3,y4⟩:=b2.K;have B0:=ab b0;have B2:=ab b2;clear b0 b2;go_wp2_with fail;have b2:=(B2.i.eF 0 (.b .a v)).eF 1 (.a A1 l.a c1);obtain⟨z1,z2,z3,z4⟩:=b2.K;have hZ:=z3 0 2 (av _);refine aN (Ei rfl _ _ _ _ rfl (by rw[hZ];trivial)) rfl ⟨A1,c1,?_,iI (jM (jM O2.i (by simp) _) (by simp) _) (by omega),(HB2.i.F (show w.a.j<=w.a.j+2 by omega) _).F (show w.a.j<=w.a.j+2 by omega) _⟩;rw[z4 0 2 (av _)];rfl
theorem ao9(l:List Bk)(s:List UInt8):kJ l s<=l.a:=by
 unfold kJ;exact(List.takeWhile_sublist _).length_le
theorem as7(l:List Bk)(hs:Fp l)(v:Int)(hv : -9223372036854775808<=v/\v<9223372036854775807)(o:qO)(hf:o.X.pJ)(hw:o.w<18446744073709551616)(Bn:pU v l o=0)(h1:o.kind=1)(A:Option aT)(c:Nat)(w:ak)(hR:Ea w w.a.j A l.a l)(hn:l.a<=100000):
 aP ah 71 #[.d #[.b .a v,.a A l.a c],.d o.ay] w (UW w (v+1) (zF l (kJ l o.X.E) (o.X.Ol (kI o.X.w))) 0):=by
 have HS:=ab hs;have HR1:=ab (fun ob sK Gs=>(((hR.alloc (av _) ob).alloc (by simp) sK).alloc (by simp;omega) Gs).lF (B':=(((w.alloc ob).alloc sK).alloc Gs).a.j) (by simp;omega));have HB0:=ab (fun ob sK Gs=>((((aG w.a.j w).alloc (av _) ob).alloc (by simp) sK).alloc (by simp;omega) Gs:aL w.a.j w (((w.alloc ob).alloc sK).alloc Gs)));have Om:=fun A c W (hR:Ea W W.a.j A l.a l)=>JK l hs v o hf hw A c W hR (by omega)
 rw[Bn]at Om;have MO:=ab Om;clear hR hs Om Bn;obtain⟨hv1,hv2⟩:=hv;go_enter EJ,Cc;go_wp2_with fail;refine(xu l A c _ (HR1.i _ _ _) hn).g ?_;rintro e w1 ⟨A1,c1,rfl,ho1,hb1⟩;have b0:=(((dK.new w _ _).alloc _).alloc _).O hb1 (by simp;omega);have b1:=((dK.Rv w _ _ _).alloc _).O hb1 (by simp);have b2:=(dK.ah0 w _ _ _ _).O hb1 (by simp);have hz1:w.a.j+2<w1.a.j:=b2.lt;have O1:=ab (iI ho1 (show w.a.j+3<=_ by simp));have HB1:=ab ((HB0.i _ _ _).trans (hb1.g (by simp;omega)));clear ho1 hb1;obtain⟨x1,x2,x3,x4⟩:=b0.K;obtain⟨y1,y2,y3,y4⟩:=b1.K;have B0:=ab b0;have B1:=ab b1;have B2:=ab b2;clear b0 b1 b2;go_wp2_with fail;refine(MO.i A1 c1 _ (oH (jM O1.i (by simp) _))).g ?_;rintro e w2 ⟨rfl,hb2⟩;have hsz:(w1.F ⟨w.a.j,1,none⟩ (bD A1 l.a c1)).a.j=w1.a.j:=by simp[gX]
 have b0:=(B0.i.eF 1 (bD A1 l.a c1)).O hb2 (by rw[hsz];omega);have b1:=(B1.i.dN ⟨w.a.j,1,none⟩ (bD A1 l.a c1) (by simp)).O hb2 (by rw[hsz];omega);have b2:=(B2.i.dN ⟨w.a.j,1,none⟩ (bD A1 l.a c1) (by simp)).O hb2 (by rw[hsz];omega);have O2:=ab (jA (jM O1.i (by simp) _) hb2);have HB2:=ab ((HB1.i.F (av _) _).trans (hb2.g (by rw[hsz];omega)));have hz2:w.a.j+2<w2.a.j:=b2.lt;have ao':w.a.j+1<w2.a.j:=b1.lt;have apa:w.a.j<w2.a.j:=b0.lt;clear hb2 hsz x1 x2 x3 x4 y1 y2 y3 y4 hz1 HB1 O1 HR1 MO;obtain⟨x1,x2,x3,x4⟩:=b0.K;obtain⟨y1,y2,y3,y4⟩:=b1.K;have B0:=ab b0;have B1:=ab b1;have B2:=ab b2;clear b0 b1 b2;go_wp2_with fail;refine(yS _ _).g ?_;rintro e w' ⟨rfl,rfl⟩;go_wp2_with fail;refine(K6 l HS.i o.X.E (v+1) A1 c1 _ (oH (vC (jM O2.i (by simp) _) _)) (by omega)).g ?_;rintro e w3 ⟨rfl,hb3⟩;have hsz:((w2.F ⟨w.a.j,0,none⟩ (aI .a (v+1))).alloc (.D (o.X.Ol (kI o.X.w)).ay 62)).a.j=w2.a.j+1:=by simp[gX]
 have b0:=((B0.i.eF 0 (aI .a (v+1))).alloc (.D (o.X.Ol (kI o.X.w)).ay 62)).O hb3 (by rw[hsz];omega);have b2:=((B2.i.dN ⟨w.a.j,0,none⟩ (aI .a (v+1)) (by simp)).alloc (.D (o.X.Ol (kI o.X.w)).ay 62)).O hb3 (by rw[hsz];omega);have b3:=(dK.new (w2.F ⟨w.a.j,0,none⟩ (aI .a (v+1))) (o.X.Ol (kI o.X.w)).ay 62).O hb3 (by simp);rw[show(w2.F ⟨w.a.j,0,none⟩ (aI .a (v+1))).a.j=w2.a.j by simp[gX]]at b3;have O3:=ab (jA (vC (jM O2.i (by simp) _) (.D (o.X.Ol (kI o.X.w)).ay 62)) hb3);have HB3:=ab (((HB2.i.F (av _) (aI .a (v+1))).alloc (by simp[gX];omega) (.D (o.X.Ol (kI o.X.w)).ay 62)).trans (hb3.g (by rw[hsz];omega)));have hz3:w2.a.j<w3.a.j:=b3.lt;clear hb3 hsz x1 x2 x3 x4 y1 y2 y3 y4 HB2 O2;obtain⟨x1,x2,x3,x4⟩:=b0.K;obtain⟨z1,z2,z3,z4⟩:=b3.K;have B0:=ab b0;have B2:=ab b2;have B3:=ab b3;clear b0 b2 b3;go_wp2_with fail;have hli:kJ l o.X.E<=l.a:=ao9 l _;have hrow:∀k,(bD A1 l.a c1).ownBlock=some k->w.a.j+3<=k:=fun k hk=>(O3.i.lt k hk).1
 refine(ae8 l (o.X.Ol (kI o.X.w)) (kJ l o.X.E) hli (w.a.j+3) c1 w3.a.j A1 _ ⟨vC O3.i _,Gl w3 _,fun g hg=>?_,by simp;omega,hn⟩).g ?_
 ·have:=(O3.i.lt g.block (by rw[hg];rfl)).2
  omega
 rintro e w4 ⟨A4,c4,rfl,ho4,hg4⟩;have b0:=(B0.i.alloc (.D (o.X.Ol (kI o.X.w)).ay 62)).grown hg4 (fun e=>by have:=hrow _ e.symm;omega);have b2:=(B2.i.alloc (.D (o.X.Ol (kI o.X.w)).ay 62)).grown hg4 (fun e=>by have:=hrow _ e.symm;omega);have O4:=ab ho4;have hz4:w.a.j+2<w4.a.j:=b2.lt;have HB4:=ab ((HB3.i.alloc (by omega) (.D (o.X.Ol (kI o.X.w)).ay 62)).grown hg4 (by simp;omega) (fun k hk=>by have:=hrow k hk;omega));have hil:=xS l (kJ l o.X.E) (o.X.Ol (kI o.X.w));obtain⟨l4,hl4⟩:=cB (zF l (kJ l o.X.E) (o.X.Ol (kI o.X.w)));rw[<-hl4]at ho4 O4 ⊢;have HL4:=ab hl4;clear hg4 ho4 x1 x2 x3 x4 z1 z2 z3 z4 HB3 O3 hl4 hil;obtain⟨x1,x2,x3,x4⟩:=b0.K;obtain⟨y1,y2,y3,y4⟩:=b2.K;have B0:=ab b0;have B2:=ab b2;clear b0 b2;go_wp2_with fail;have b2:=(B2.i.dN ⟨w.a.j,1,none⟩ (.a A4 l4.a c4) (by simp)).eF 0 (.b .a (v+1)) |>.eF 1 (.a A4 l4.a c4)
 obtain⟨z1,z2,z3,z4⟩:=b2.K;have hl4:=HL4.i;subst hl4;have hZ:=z3 0 2 (av _);refine aN (Ei rfl _ _ _ _ rfl (by rw[hZ];trivial)) rfl ⟨A4,c4,?_,iI (base:=w.a.j+3) (jM (jM (jM O4.i (show w.a.j<w.a.j+3 by omega) _) (show w.a.j+2<w.a.j+3 by omega) _) (show w.a.j+2<w.a.j+3 by omega) _) (by omega),((HB4.i.F (av _) _).F (show w.a.j<=w.a.j+2 by omega) _).F (show w.a.j<=w.a.j+2 by omega) _⟩;rw[z4 0 2 (av _)];rfl
theorem xU{l:List Bk}{s:List UInt8}(h:sM l s=true):kJ l s<l.a:=by
 unfold sM at h;simp at h;exact h.1
theorem as8(l:List Bk)(hs:Fp l)(v:Int)(hv : -9223372036854775808<=v/\v<9223372036854775807)(o:qO)(hf:o.X.pJ)(hw:o.w<18446744073709551616)(Bn:pU v l o=0)(h1:o.kind=2)(hn0:sM l o.E=true)(A:Option aT)(c:Nat)(w:ak)(hR:Ea w w.a.j A l.a l)(hn:l.a<=100000):
 aP ah 71 #[.d #[.b .a v,.a A l.a c],.d o.ay] w (UW w (v+1) (Eh l (kJ l o.E)) 0):=by
 have HS:=ab hs;have HR1:=ab (fun ob sK Gs=>(((hR.alloc (av _) ob).alloc (by simp) sK).alloc (by simp;omega) Gs).lF (B':=(((w.alloc ob).alloc sK).alloc Gs).a.j) (by simp;omega));have HB0:=ab (fun ob sK Gs=>((((aG w.a.j w).alloc (av _) ob).alloc (by simp) sK).alloc (by simp;omega) Gs:aL w.a.j w (((w.alloc ob).alloc sK).alloc Gs)));have Om:=fun A c W (hR:Ea W W.a.j A l.a l)=>JK l hs v o hf hw A c W hR (by omega)
 rw[Bn]at Om;have MO:=ab Om;clear hR hs Om Bn;obtain⟨hv1,hv2⟩:=hv;have hli:=xU hn0;have hin:((kJ l o.E:Nat):Int)<(l.a:Nat):=by omega
 clear hn0;go_enter EJ,Cc;go_wp2_with fail;refine(xu l A c _ (HR1.i _ _ _) hn).g ?_;rintro e w1 ⟨A1,c1,rfl,ho1,hb1⟩;have b0:=(((dK.new w _ _).alloc _).alloc _).O hb1 (by simp;omega);have b1:=((dK.Rv w _ _ _).alloc _).O hb1 (by simp);have b2:=(dK.ah0 w _ _ _ _).O hb1 (by simp);have hz1:w.a.j+2<w1.a.j:=b2.lt;have O1:=ab (iI ho1 (show w.a.j+3<=_ by simp));have HB1:=ab ((HB0.i _ _ _).trans (hb1.g (by simp;omega)));clear ho1 hb1;obtain⟨x1,x2,x3,x4⟩:=b0.K;obtain⟨y1,y2,y3,y4⟩:=b1.K;have B0:=ab b0;have B1:=ab b1;have B2:=ab b2;clear b0 b1 b2;go_wp2_with fail;refine(MO.i A1 c1 _ (oH (jM O1.i (by simp) _))).g ?_;rintro e w2 ⟨rfl,hb2⟩;have hsz:(w1.F ⟨w.a.j,1,none⟩ (bD A1 l.a c1)).a.j=w1.a.j:=by simp[gX]
 have b0:=(B0.i.eF 1 (bD A1 l.a c1)).O hb2 (by rw[hsz];omega);have b1:=(B1.i.dN ⟨w.a.j,1,none⟩ (bD A1 l.a c1) (by simp)).O hb2 (by rw[hsz];omega);have b2:=(B2.i.dN ⟨w.a.j,1,none⟩ (bD A1 l.a c1) (by simp)).O hb2 (by rw[hsz];omega);have O2:=ab (jA (jM O1.i (by simp) _) hb2);have HB2:=ab ((HB1.i.F (av _) _).trans (hb2.g (by rw[hsz];omega)));have hz2:w.a.j+2<w2.a.j:=b2.lt;have ao':w.a.j+1<w2.a.j:=b1.lt;have apa:w.a.j<w2.a.j:=b0.lt;clear hb2 hsz x1 x2 x3 x4 y1 y2 y3 y4 hz1 HB1 O1 HR1 MO;obtain⟨x1,x2,x3,x4⟩:=b0.K;obtain⟨y1,y2,y3,y4⟩:=b1.K;have B0:=ab b0;have B1:=ab b1;have B2:=ab b2;clear b0 b1 b2;go_wp2_with fail;refine(K6 l HS.i o.E (v+1) A1 c1 _ (oH (jM O2.i (by simp) _)) (by omega)).g ?_;rintro e w3 ⟨rfl,hb3⟩;have hsz:(w2.F ⟨w.a.j,0,none⟩ (aI .a (v+1))).a.j=w2.a.j:=by simp[gX]
 have b0:=(B0.i.eF 0 (aI .a (v+1))).O hb3 (by rw[hsz];omega);have b1:=(B1.i.dN ⟨w.a.j,0,none⟩ (aI .a (v+1)) (by simp)).O hb3 (by rw[hsz];omega);have b2:=(B2.i.dN ⟨w.a.j,0,none⟩ (aI .a (v+1)) (by simp)).O hb3 (by rw[hsz];omega);have ho3:=jA (jM O2.i (show w.a.j<w.a.j+3 by omega) (aI .a (v+1))) hb3;have HB3:=ab ((HB2.i.F (av _) (aI .a (v+1))).trans (hb3.g (by rw[hsz];omega)));obtain⟨g,hA1⟩:∃g,A1=some ⟨g,0,none⟩:=by
  rcases ho3.2 with⟨hv,h0⟩|⟨g,cap,cur,hv,_⟩
  ·omega
  ·injection hv with e1 _ _
   exact⟨g,e1⟩
 subst hA1;have hgb:w.a.j+3<=g:=(ho3.lt g rfl).1;have hgl:g<w3.a.j:=(ho3.lt g rfl).2;obtain⟨bb,oo,ZL,_,hcc⟩:=(oH ho3).cell hli;injection ZL with ZL
 injection ZL with e1 e2
 subst e1 e2;have O3:=ab ho3;have hz3:w.a.j<w3.a.j:=b0.lt;have as9:w.a.j+1<w3.a.j:=b1.lt;have hz32:w.a.j+2<w3.a.j:=b2.lt;clear hb3 hsz x1 x2 x3 x4 y1 y2 y3 y4 HB2 O2 ho3;obtain⟨x1,x2,x3,x4⟩:=b0.K;obtain⟨y1,y2,y3,y4⟩:=b1.K;obtain⟨u1,u2,u3,u4⟩:=b2.K;have B0:=ab b0;have B2:=ab b2;clear b0 b1 b2;clear hcc;go_wp2_with fail;rcases O3.i.2 with⟨hv,h0⟩|⟨g',cap,cur,hv,q2,q3,q4,q5,q6,q7⟩
 ·cases hv
 injection hv with e1 e2 e3
 injection e1 with e1
 injection e1 with e1
 subst e1 e3;refine(ae9 l (kJ l o.E) hli (w.a.j+3) g c1 cur _ q2 q3 q4 q5 q6 q7 hn).g ?_;rintro e w4 ⟨A4,c4,rfl,ho4,hg4⟩;have b0:=B0.i.grown hg4 (fun e=>by injection e with e;omega);have b2:=B2.i.grown hg4 (fun e=>by injection e with e;omega);have hz4:w.a.j+2<w4.a.j:=b2.lt;have HB4:=ab (HB3.i.grown hg4 (by omega) (fun k hk=>by injection hk with hk;omega));obtain⟨l4,hl4⟩:=cB (Eh l (kJ l o.E));rw[<-hl4]at ho4 ⊢;have O4:=ab ho4;have HL4:=ab hl4;clear hg4 ho4 x1 x2 x3 x4 y1 y2 y3 y4 u1 u2 u3 u4 HB3 O3 hl4 q3 q6 q7;obtain⟨x1,x2,x3,x4⟩:=b0.K;obtain⟨y1,y2,y3,y4⟩:=b2.K;have B0:=ab b0;have B2:=ab b2;clear b0 b2;go_wp2_with fail;have b2:=(B2.i.dN ⟨w.a.j,1,none⟩ (.a A4 l4.a c4) (by simp)).eF 0 (.b .a (v+1)) |>.eF 1 (.a A4 l4.a c4)
 obtain⟨z1,z2,z3,z4⟩:=b2.K;have hl4:=HL4.i;subst hl4;have hZ:=z3 0 2 (av _);refine aN (Ei rfl _ _ _ _ rfl (by rw[hZ];trivial)) rfl ⟨A4,c4,?_,iI (base:=w.a.j+3) (jM (jM (jM O4.i (show w.a.j<w.a.j+3 by omega) _) (show w.a.j+2<w.a.j+3 by omega) _) (show w.a.j+2<w.a.j+3 by omega) _) (by omega),((HB4.i.F (av _) _).F (show w.a.j<=w.a.j+2 by omega) _).F (show w.a.j<=w.a.j+2 by omega) _⟩;rw[z4 0 2 (av _)];rfl
theorem aiJ(l:List Bk)(hs:Fp l)(v:Int)(hv : -9223372036854775808<=v/\v<9223372036854775807)(o:qO)(hf:o.X.pJ)(hw:o.w<18446744073709551616)(Bn:pU v l o=0)(h1:o.kind=3)(hn0:sM l o.E=true)(A:Option aT)(c:Nat)(w:ak)(hR:Ea w w.a.j A l.a l)(hn:l.a<=100000):
 aP ah 71 #[.d #[.b .a v,.a A l.a c],.d o.ay] w (UW w (v+1) (l.set (kJ l o.E) ((qc l o.E).Ol (kI o.w))) 0):=by
 have HS:=ab hs;have HR1:=ab (fun ob sK Gs=>(((hR.alloc (av _) ob).alloc (by simp) sK).alloc (by simp;omega) Gs).lF (B':=(((w.alloc ob).alloc sK).alloc Gs).a.j) (by simp;omega));have HB0:=ab (fun ob sK Gs=>((((aG w.a.j w).alloc (av _) ob).alloc (by simp) sK).alloc (by simp;omega) Gs:aL w.a.j w (((w.alloc ob).alloc sK).alloc Gs)));have Om:=fun A c W (hR:Ea W W.a.j A l.a l)=>JK l hs v o hf hw A c W hR (by omega)
 rw[Bn]at Om;have MO:=ab Om;clear hR hs Om Bn;obtain⟨hv1,hv2⟩:=hv;have hli:=xU hn0;have hin:((kJ l o.E:Nat):Int)<(l.a:Nat):=by omega
 have HG:=ab (Eb hn0);clear hn0;go_enter EJ,Cc;go_wp2_with fail;refine(xu l A c _ (HR1.i _ _ _) hn).g ?_;rintro e w1 ⟨A1,c1,rfl,ho1,hb1⟩;have b0:=(((dK.new w _ _).alloc _).alloc _).O hb1 (by simp;omega);have b1:=((dK.Rv w _ _ _).alloc _).O hb1 (by simp);have b2:=(dK.ah0 w _ _ _ _).O hb1 (by simp);have hz1:w.a.j+2<w1.a.j:=b2.lt;have O1:=ab (iI ho1 (show w.a.j+3<=_ by simp));have HB1:=ab ((HB0.i _ _ _).trans (hb1.g (by simp;omega)));clear ho1 hb1;obtain⟨x1,x2,x3,x4⟩:=b0.K;obtain⟨y1,y2,y3,y4⟩:=b1.K;have B0:=ab b0;have B1:=ab b1;have B2:=ab b2;clear b0 b1 b2;go_wp2_with fail;refine(MO.i A1 c1 _ (oH (jM O1.i (by simp) _))).g ?_;rintro e w2 ⟨rfl,hb2⟩;have hsz:(w1.F ⟨w.a.j,1,none⟩ (bD A1 l.a c1)).a.j=w1.a.j:=by simp[gX]
 have b0:=(B0.i.eF 1 (bD A1 l.a c1)).O hb2 (by rw[hsz];omega);have b1:=(B1.i.dN ⟨w.a.j,1,none⟩ (bD A1 l.a c1) (by simp)).O hb2 (by rw[hsz];omega);have b2:=(B2.i.dN ⟨w.a.j,1,none⟩ (bD A1 l.a c1) (by simp)).O hb2 (by rw[hsz];omega);have O2:=ab (jA (jM O1.i (by simp) _) hb2);have HB2:=ab ((HB1.i.F (av _) _).trans (hb2.g (by rw[hsz];omega)));have hz2:w.a.j+2<w2.a.j:=b2.lt;have ao':w.a.j+1<w2.a.j:=b1.lt;have apa:w.a.j<w2.a.j:=b0.lt;clear hb2 hsz x1 x2 x3 x4 y1 y2 y3 y4 hz1 HB1 O1 HR1 MO;obtain⟨x1,x2,x3,x4⟩:=b0.K;obtain⟨y1,y2,y3,y4⟩:=b1.K;have B0:=ab b0;have B1:=ab b1;have B2:=ab b2;clear b0 b1 b2;go_wp2_with fail;refine(K6 l HS.i o.E (v+1) A1 c1 _ (oH (jM O2.i (by simp) _)) (by omega)).g ?_;rintro e w3 ⟨rfl,hb3⟩;have hsz:(w2.F ⟨w.a.j,0,none⟩ (aI .a (v+1))).a.j=w2.a.j:=by simp[gX]
 have b0:=(B0.i.eF 0 (aI .a (v+1))).O hb3 (by rw[hsz];omega);have b1:=(B1.i.dN ⟨w.a.j,0,none⟩ (aI .a (v+1)) (by simp)).O hb3 (by rw[hsz];omega);have b2:=(B2.i.dN ⟨w.a.j,0,none⟩ (aI .a (v+1)) (by simp)).O hb3 (by rw[hsz];omega);have ho3:=jA (jM O2.i (show w.a.j<w.a.j+3 by omega) (aI .a (v+1))) hb3;have HB3:=ab ((HB2.i.F (av _) (aI .a (v+1))).trans (hb3.g (by rw[hsz];omega)));obtain⟨g,hA1⟩:∃g,A1=some ⟨g,0,none⟩:=by
  rcases ho3.2 with⟨hv,h0⟩|⟨g,cap,cur,hv,_⟩
  ·omega
  ·injection hv with e1 _ _
   exact⟨g,e1⟩
 subst hA1;have hgb:w.a.j+3<=g:=(ho3.lt g rfl).1;have hgl:g<w3.a.j:=(ho3.lt g rfl).2;obtain⟨bb,oo,ZL,_,hcc⟩:=(oH ho3).cell hli;injection ZL with ZL
 injection ZL with e1 e2
 subst e1 e2;have O3:=ab ho3;have hz3:w.a.j<w3.a.j:=b0.lt;have as9:w.a.j+1<w3.a.j:=b1.lt;have hz32:w.a.j+2<w3.a.j:=b2.lt;clear hb3 hsz x1 x2 x3 x4 y1 y2 y3 y4 HB2 O2 ho3;have hcl:w3.b ⟨g,kJ l o.E*27+25,none⟩=some (.float .f64 (qc l o.E).w):=by
  have:=hcc 25 (by omega);rw[bB]at this;rw[this,<-HG.i];exact Bk.aeB _
 have hfr:w3.frozen? ⟨g,kJ l o.E*27+25,none⟩=false:=by
  rcases O3.i.2 with⟨hv,h0⟩|⟨g',cap,cur,hv,q2,q3,q4,q5,q6,q7⟩
  ·cases hv
  injection hv with e1 e2 e3
  injection e1 with e1
  injection e1 with e1
  subst e1;simp[rY,q3]
 clear hcc;obtain⟨x1,x2,x3,x4⟩:=b0.K;obtain⟨y1,y2,y3,y4⟩:=b1.K;obtain⟨u1,u2,u3,u4⟩:=b2.K;have B0:=ab b0;have B2:=ab b2;clear b0 b1 b2;go_wp2_with fail;refine(yS _ _).g ?_;rintro e w' ⟨rfl,rfl⟩;go_wp2_with fail;have O4:=ab (SA O3.i (kJ l o.E*27+25) (by omega) (.float .f64 (kI o.w)));have hxs:(dH l).set (kJ l o.E*27+25) (.float .f64 (kI o.w))=dH (l.set (kJ l o.E) ((qc l o.E).Ol (kI o.w))):=
  IG l (kJ l o.E) hli _ 25 (by omega) _ (by rw[<-HG.i];exact(Bk.axa (qc l o.E) _).symm)
 rw[hxs]at O4;have b2:=((B2.i.dN ⟨g,kJ l o.E*27+25,none⟩ (.float .f64 (kI o.w)) (by show g≠_;omega)).eF 0 (.b .a (v+1))).eF 1 (.a (some ⟨g,0,none⟩) l.a c1);obtain⟨z1,z2,z3,z4⟩:=b2.K;have hZ:=z3 0 2 (av _);have hlen:(l.set (kJ l o.E) ((qc l o.E).Ol (kI o.w))).a=l.a:=aV;refine aN (Ei rfl _ _ _ _ rfl (by rw[hZ];trivial)) rfl ⟨some ⟨g,0,none⟩,c1,?_,?_,((HB3.i.F (show w.a.j<=g by omega) _).F (show w.a.j<=w.a.j+2 by omega) _).F (show w.a.j<=w.a.j+2 by omega) _⟩
 ·rw[z4 0 2 (av _),hlen]
  rfl
 ·rw[hlen]
  exact iI (base:=w.a.j+3) (jM (jM O4.i (show w.a.j+2<w.a.j+3 by omega) _) (show w.a.j+2<w.a.j+3 by omega) _) (by omega)
theorem alD(l:List Bk)(hs:Fp l)(v:Int)(hv : -9223372036854775808<=v/\v<9223372036854775807)(o:qO)(hf:o.X.pJ)(hw:o.w<18446744073709551616)(Bn:pU v l o=0)(h1:o.kind=4)(hn0:sM l o.E=true)(A:Option aT)(c:Nat)(w:ak)(hR:Ea w w.a.j A l.a l)(hn:l.a<=100000):
 aP ah 71 #[.d #[.b .a v,.a A l.a c],.d o.ay] w (UW w (v+1) (l.set (kJ l o.E) ((qc l o.E).toD true)) 0):=by
 have HS:=ab hs;have HR1:=ab (fun ob sK Gs=>(((hR.alloc (av _) ob).alloc (by simp) sK).alloc (by simp;omega) Gs).lF (B':=(((w.alloc ob).alloc sK).alloc Gs).a.j) (by simp;omega));have HB0:=ab (fun ob sK Gs=>((((aG w.a.j w).alloc (av _) ob).alloc (by simp) sK).alloc (by simp;omega) Gs:aL w.a.j w (((w.alloc ob).alloc sK).alloc Gs)));have Om:=fun A c W (hR:Ea W W.a.j A l.a l)=>JK l hs v o hf hw A c W hR (by omega)
 rw[Bn]at Om;have MO:=ab Om;clear hR hs Om Bn;obtain⟨hv1,hv2⟩:=hv;have hli:=xU hn0;have hin:((kJ l o.E:Nat):Int)<(l.a:Nat):=by omega
 have HG:=ab (Eb hn0);clear hn0;go_enter EJ,Cc;go_wp2_with fail;refine(xu l A c _ (HR1.i _ _ _) hn).g ?_;rintro e w1 ⟨A1,c1,rfl,ho1,hb1⟩;have b0:=(((dK.new w _ _).alloc _).alloc _).O hb1 (by simp;omega);have b1:=((dK.Rv w _ _ _).alloc _).O hb1 (by simp);have b2:=(dK.ah0 w _ _ _ _).O hb1 (by simp);have hz1:w.a.j+2<w1.a.j:=b2.lt;have O1:=ab (iI ho1 (show w.a.j+3<=_ by simp));have HB1:=ab ((HB0.i _ _ _).trans (hb1.g (by simp;omega)));clear ho1 hb1;obtain⟨x1,x2,x3,x4⟩:=b0.K;obtain⟨y1,y2,y3,y4⟩:=b1.K;have B0:=ab b0;have B1:=ab b1;have B2:=ab b2;clear b0 b1 b2;go_wp2_with fail;refine(MO.i A1 c1 _ (oH (jM O1.i (by simp) _))).g ?_;rintro e w2 ⟨rfl,hb2⟩;have hsz:(w1.F ⟨w.a.j,1,none⟩ (bD A1 l.a c1)).a.j=w1.a.j:=by simp[gX]
 have b0:=(B0.i.eF 1 (bD A1 l.a c1)).O hb2 (by rw[hsz];omega);have b1:=(B1.i.dN ⟨w.a.j,1,none⟩ (bD A1 l.a c1) (by simp)).O hb2 (by rw[hsz];omega);have b2:=(B2.i.dN ⟨w.a.j,1,none⟩ (bD A1 l.a c1) (by simp)).O hb2 (by rw[hsz];omega);have O2:=ab (jA (jM O1.i (by simp) _) hb2);have HB2:=ab ((HB1.i.F (av _) _).trans (hb2.g (by rw[hsz];omega)));have hz2:w.a.j+2<w2.a.j:=b2.lt;have ao':w.a.j+1<w2.a.j:=b1.lt;have apa:w.a.j<w2.a.j:=b0.lt;clear hb2 hsz x1 x2 x3 x4 y1 y2 y3 y4 hz1 HB1 O1 HR1 MO;obtain⟨x1,x2,x3,x4⟩:=b0.K;obtain⟨y1,y2,y3,y4⟩:=b1.K;have B0:=ab b0;have B1:=ab b1;have B2:=ab b2;clear b0 b1 b2;go_wp2_with fail;refine(K6 l HS.i o.E (v+1) A1 c1 _ (oH (jM O2.i (by simp) _)) (by omega)).g ?_;rintro e w3 ⟨rfl,hb3⟩;have hsz:(w2.F ⟨w.a.j,0,none⟩ (aI .a (v+1))).a.j=w2.a.j:=by simp[gX]
 have b0:=(B0.i.eF 0 (aI .a (v+1))).O hb3 (by rw[hsz];omega);have b1:=(B1.i.dN ⟨w.a.j,0,none⟩ (aI .a (v+1)) (by simp)).O hb3 (by rw[hsz];omega);have b2:=(B2.i.dN ⟨w.a.j,0,none⟩ (aI .a (v+1)) (by simp)).O hb3 (by rw[hsz];omega);have ho3:=jA (jM O2.i (show w.a.j<w.a.j+3 by omega) (aI .a (v+1))) hb3;have HB3:=ab ((HB2.i.F (av _) (aI .a (v+1))).trans (hb3.g (by rw[hsz];omega)));obtain⟨g,hA1⟩:∃g,A1=some ⟨g,0,none⟩:=by
  rcases ho3.2 with⟨hv,h0⟩|⟨g,cap,cur,hv,_⟩
  ·omega
  ·injection hv with e1 _ _
   exact⟨g,e1⟩
 subst hA1;have hgb:w.a.j+3<=g:=(ho3.lt g rfl).1;have hgl:g<w3.a.j:=(ho3.lt g rfl).2;obtain⟨bb,oo,ZL,_,hcc⟩:=(oH ho3).cell hli;injection ZL with ZL
 injection ZL with e1 e2
 subst e1 e2;have O3:=ab ho3;have hz3:w.a.j<w3.a.j:=b0.lt;have as9:w.a.j+1<w3.a.j:=b1.lt;have hz32:w.a.j+2<w3.a.j:=b2.lt;clear hb3 hsz x1 x2 x3 x4 y1 y2 y3 y4 HB2 O2 ho3;have hcl:w3.b ⟨g,kJ l o.E*27+26,none⟩=some (.bool (qc l o.E).drain):=by
  have:=hcc 26 (by omega);rw[bB]at this;rw[this,<-HG.i];exact Bk.aeC _
 have hfr:w3.frozen? ⟨g,kJ l o.E*27+26,none⟩=false:=by
  rcases O3.i.2 with⟨hv,h0⟩|⟨g',cap,cur,hv,q2,q3,q4,q5,q6,q7⟩
  ·cases hv
  injection hv with e1 e2 e3
  injection e1 with e1
  injection e1 with e1
  subst e1;simp[rY,q3]
 clear hcc;obtain⟨x1,x2,x3,x4⟩:=b0.K;obtain⟨y1,y2,y3,y4⟩:=b1.K;obtain⟨u1,u2,u3,u4⟩:=b2.K;have B0:=ab b0;have B2:=ab b2;clear b0 b1 b2;go_wp2_with fail;have O4:=ab (SA O3.i (kJ l o.E*27+26) (by omega) (.bool true));have hxs:(dH l).set (kJ l o.E*27+26) (.bool true)=dH (l.set (kJ l o.E) ((qc l o.E).toD true)):=
  IG l (kJ l o.E) hli _ 26 (by omega) _ (by rw[<-HG.i];exact(Bk.aro (qc l o.E) _).symm)
 rw[hxs]at O4;have b2:=((B2.i.dN ⟨g,kJ l o.E*27+26,none⟩ (.bool true) (by show g≠_;omega)).eF 0 (.b .a (v+1))).eF 1 (.a (some ⟨g,0,none⟩) l.a c1);obtain⟨z1,z2,z3,z4⟩:=b2.K;have hZ:=z3 0 2 (av _);have hlen:(l.set (kJ l o.E) ((qc l o.E).toD true)).a=l.a:=aV;refine aN (Ei rfl _ _ _ _ rfl (by rw[hZ];trivial)) rfl ⟨some ⟨g,0,none⟩,c1,?_,?_,((HB3.i.F (show w.a.j<=g by omega) _).F (show w.a.j<=w.a.j+2 by omega) _).F (show w.a.j<=w.a.j+2 by omega) _⟩
 ·rw[z4 0 2 (av _),hlen]
  rfl
 ·rw[hlen]
  exact iI (base:=w.a.j+3) (jM (jM O4.i (show w.a.j+2<w.a.j+3 by omega) _) (show w.a.j+2<w.a.j+3 by omega) _) (by omega)
theorem apc(l:List Bk)(hs:Fp l)(v:Int)(hv : -9223372036854775808<=v/\v<9223372036854775807)(o:qO)(hf:o.X.pJ)(hw:o.w<18446744073709551616)(Bn:pU v l o=0)(h1:o.kind=5)(hn0:sM l o.E=true)(A:Option aT)(c:Nat)(w:ak)(hR:Ea w w.a.j A l.a l)(hn:l.a<=100000):
 aP ah 71 #[.d #[.b .a v,.a A l.a c],.d o.ay] w (UW w (v+1) (l.set (kJ l o.E) ((qc l o.E).toD false)) 0):=by
 have HS:=ab hs;have HR1:=ab (fun ob sK Gs=>(((hR.alloc (av _) ob).alloc (by simp) sK).alloc (by simp;omega) Gs).lF (B':=(((w.alloc ob).alloc sK).alloc Gs).a.j) (by simp;omega));have HB0:=ab (fun ob sK Gs=>((((aG w.a.j w).alloc (av _) ob).alloc (by simp) sK).alloc (by simp;omega) Gs:aL w.a.j w (((w.alloc ob).alloc sK).alloc Gs)));have Om:=fun A c W (hR:Ea W W.a.j A l.a l)=>JK l hs v o hf hw A c W hR (by omega)
 rw[Bn]at Om;have MO:=ab Om;clear hR hs Om Bn;obtain⟨hv1,hv2⟩:=hv;have hli:=xU hn0;have hin:((kJ l o.E:Nat):Int)<(l.a:Nat):=by omega
 have HG:=ab (Eb hn0);clear hn0;go_enter EJ,Cc;go_wp2_with fail;refine(xu l A c _ (HR1.i _ _ _) hn).g ?_;rintro e w1 ⟨A1,c1,rfl,ho1,hb1⟩;have b0:=(((dK.new w _ _).alloc _).alloc _).O hb1 (by simp;omega);have b1:=((dK.Rv w _ _ _).alloc _).O hb1 (by simp);have b2:=(dK.ah0 w _ _ _ _).O hb1 (by simp);have hz1:w.a.j+2<w1.a.j:=b2.lt;have O1:=ab (iI ho1 (show w.a.j+3<=_ by simp));have HB1:=ab ((HB0.i _ _ _).trans (hb1.g (by simp;omega)));clear ho1 hb1;obtain⟨x1,x2,x3,x4⟩:=b0.K;obtain⟨y1,y2,y3,y4⟩:=b1.K;have B0:=ab b0;have B1:=ab b1;have B2:=ab b2;clear b0 b1 b2;go_wp2_with fail;refine(MO.i A1 c1 _ (oH (jM O1.i (by simp) _))).g ?_;rintro e w2 ⟨rfl,hb2⟩;have hsz:(w1.F ⟨w.a.j,1,none⟩ (bD A1 l.a c1)).a.j=w1.a.j:=by simp[gX]
 have b0:=(B0.i.eF 1 (bD A1 l.a c1)).O hb2 (by rw[hsz];omega);have b1:=(B1.i.dN ⟨w.a.j,1,none⟩ (bD A1 l.a c1) (by simp)).O hb2 (by rw[hsz];omega);have b2:=(B2.i.dN ⟨w.a.j,1,none⟩ (bD A1 l.a c1) (by simp)).O hb2 (by rw[hsz];omega);have O2:=ab (jA (jM O1.i (by simp) _) hb2);have HB2:=ab ((HB1.i.F (av _) _).trans (hb2.g (by rw[hsz];omega)));have hz2:w.a.j+2<w2.a.j:=b2.lt;have ao':w.a.j+1<w2.a.j:=b1.lt;have apa:w.a.j<w2.a.j:=b0.lt;clear hb2 hsz x1 x2 x3 x4 y1 y2 y3 y4 hz1 HB1 O1 HR1 MO;obtain⟨x1,x2,x3,x4⟩:=b0.K;obtain⟨y1,y2,y3,y4⟩:=b1.K;have B0:=ab b0;have B1:=ab b1;have B2:=ab b2;clear b0 b1 b2;go_wp2_with fail;refine(K6 l HS.i o.E (v+1) A1 c1 _ (oH (jM O2.i (by simp) _)) (by omega)).g ?_;rintro e w3 ⟨rfl,hb3⟩;have hsz:(w2.F ⟨w.a.j,0,none⟩ (aI .a (v+1))).a.j=w2.a.j:=by simp[gX]
 have b0:=(B0.i.eF 0 (aI .a (v+1))).O hb3 (by rw[hsz];omega);have b1:=(B1.i.dN ⟨w.a.j,0,none⟩ (aI .a (v+1)) (by simp)).O hb3 (by rw[hsz];omega);have b2:=(B2.i.dN ⟨w.a.j,0,none⟩ (aI .a (v+1)) (by simp)).O hb3 (by rw[hsz];omega);have ho3:=jA (jM O2.i (show w.a.j<w.a.j+3 by omega) (aI .a (v+1))) hb3;have HB3:=ab ((HB2.i.F (av _) (aI .a (v+1))).trans (hb3.g (by rw[hsz];omega)));obtain⟨g,hA1⟩:∃g,A1=some ⟨g,0,none⟩:=by
  rcases ho3.2 with⟨hv,h0⟩|⟨g,cap,cur,hv,_⟩
  ·omega
  ·injection hv with e1 _ _
   exact⟨g,e1⟩
 subst hA1;have hgb:w.a.j+3<=g:=(ho3.lt g rfl).1;have hgl:g<w3.a.j:=(ho3.lt g rfl).2;obtain⟨bb,oo,ZL,_,hcc⟩:=(oH ho3).cell hli;injection ZL with ZL
 injection ZL with e1 e2
 subst e1 e2;have O3:=ab ho3;have hz3:w.a.j<w3.a.j:=b0.lt;have as9:w.a.j+1<w3.a.j:=b1.lt;have hz32:w.a.j+2<w3.a.j:=b2.lt;clear hb3 hsz x1 x2 x3 x4 y1 y2 y3 y4 HB2 O2 ho3;have hcl:w3.b ⟨g,kJ l o.E*27+26,none⟩=some (.bool (qc l o.E).drain):=by
  have:=hcc 26 (by omega);rw[bB]at this;rw[this,<-HG.i];exact Bk.aeC _
 have hfr:w3.frozen? ⟨g,kJ l o.E*27+26,none⟩=false:=by
  rcases O3.i.2 with⟨hv,h0⟩|⟨g',cap,cur,hv,q2,q3,q4,q5,q6,q7⟩
  ·cases hv
  injection hv with e1 e2 e3
  injection e1 with e1
  injection e1 with e1
  subst e1;simp[rY,q3]
 clear hcc;obtain⟨x1,x2,x3,x4⟩:=b0.K;obtain⟨y1,y2,y3,y4⟩:=b1.K;obtain⟨u1,u2,u3,u4⟩:=b2.K;have B0:=ab b0;have B2:=ab b2;clear b0 b1 b2;go_wp2_with fail;have O4:=ab (SA O3.i (kJ l o.E*27+26) (by omega) (.bool false));have hxs:(dH l).set (kJ l o.E*27+26) (.bool false)=dH (l.set (kJ l o.E) ((qc l o.E).toD false)):=
  IG l (kJ l o.E) hli _ 26 (by omega) _ (by rw[<-HG.i];exact(Bk.aro (qc l o.E) _).symm)
 rw[hxs]at O4;have b2:=((B2.i.dN ⟨g,kJ l o.E*27+26,none⟩ (.bool false) (by show g≠_;omega)).eF 0 (.b .a (v+1))).eF 1 (.a (some ⟨g,0,none⟩) l.a c1);obtain⟨z1,z2,z3,z4⟩:=b2.K;have hZ:=z3 0 2 (av _);have hlen:(l.set (kJ l o.E) ((qc l o.E).toD false)).a=l.a:=aV;refine aN (Ei rfl _ _ _ _ rfl (by rw[hZ];trivial)) rfl ⟨some ⟨g,0,none⟩,c1,?_,?_,((HB3.i.F (show w.a.j<=g by omega) _).F (show w.a.j<=w.a.j+2 by omega) _).F (show w.a.j<=w.a.j+2 by omega) _⟩
 ·rw[z4 0 2 (av _),hlen]
  rfl
 ·rw[hlen]
  exact iI (base:=w.a.j+3) (jM (jM O4.i (show w.a.j+2<w.a.j+3 by omega) _) (show w.a.j+2<w.a.j+3 by omega) _) (by omega)
theorem FJ(l:List Bk)(i:Nat)(hi:i<l.a):nm l i=(l[i]'hi).E:=by
 unfold nm;rw[au,aC hi];rfl
theorem Yj(a:List UInt8):mD a a=0:=JF.2 rfl
theorem uO{v:Int}{l:List Bk}:xO v l=true↔0<=v/\v<=1099511627776/\l.a<=1024/\(∀x∈l,x.Ci=true/\Xf x.w=true)/\Fp l:=by
 unfold xO J7;simp only[bl,decide_eq_true_eq,List.all_eq_true,List.mem_range,Bool.or_eq_true];constructor
 ·rintro⟨⟨⟨h1,h2⟩,h3⟩,h4⟩
  refine⟨h1,h2,h3,fun x hx=>?_,?_⟩
  ·obtain⟨i,hi,rfl⟩:=mP hx
   have:=(h4 i hi).1;rw[au,aC hi]at this;exact this
  ·unfold Fp
   have key:∀d i (hi:i+d+1<l.a),mD (nm l i) (nm l (i+d+1))<0:=by
    intro d
    induction d with
    | zero=>
      intro i hi;have:=(h4 (i+1) hi).2;rcases this with h|h
      ·omega
      ·simpa using h
    | succ d ih=>
      intro i hi;have h5:=ih i (by omega);have h6:=(h4 (i+d+1+1) hi).2;rcases h6 with h|h
      ·omega
      ·have h7:mD (nm l (i+d+1)) (nm l (i+(d+1)+1))<0:=by simpa[mZ]using h
       exact Fj h5 h7
   rw[fT];intro i j hi hj hij;have:=key (j-i-1) i (by omega);rw[show i+(j-i-1)+1=j by omega,FJ l i hi,FJ l j hj]at this;exact this
 ·rintro⟨h1,h2,h3,h4,h5⟩
  refine⟨⟨⟨h1,h2⟩,h3⟩,fun i hi=>⟨?_,?_⟩⟩
  ·have:=h4 (l[i]'hi) (eU hi)
   rw[au,aC hi];exact this
  ·rcases eu i with h|h
   ·exact .a h
   ·exact .b (h5.lt (by omega) hi)
theorem alE{l:List Bk}(hs:Fp l){x:Bk}(hx:x∈l):qc l x.E=x:=by
 obtain⟨i,hi,rfl⟩:=mP hx;obtain⟨h1,h2⟩:=aoM hs hi (FJ l i hi);rw[Eb h2,h1,au,aC hi];rfl
theorem Tf{l:List Bk}{s:List UInt8}(h:sM l s=true):qc l s∈l/\(qc l s).E=s:=by
 have hl:=xU h;rw[Eb h,au,aC hl];refine⟨eU hl,?_⟩;unfold sM at h;simp at h;show(l[kJ l s]).E=s;rw[<-FJ l _ hl];exact JF.1 h.2
theorem afb{l:List Bk}{s:List UInt8}(h:sM l s=true):nm l (kJ l s)=s:=by
 unfold sM at h;simp at h;exact JF.1 h.2
theorem Yk(l:List Bk)(s:List UInt8):(∀i,i<kJ l s->mD (nm l i) s<0)/\(kJ l s<l.a->¬mD (nm l (kJ l s)) s<0):=by
 induction l with
 | nil=>exact⟨fun i hi=>absurd hi (by simp[kJ]),fun h=>absurd h (by simp)⟩
 | cons x l ih=>
   by_cases hx:mD x.E s<0
   ·have e:kJ (x::l) s=kJ l s+1:=by unfold kJ;rw[List.takeWhile_cons];simp[hx]
    rw[e];refine⟨fun i hi=>?_,fun h=>?_⟩
    ·rcases i with _|i
     ·exact hx
     ·exact ih.1 i (by omega)
    ·exact ih.2 (by simpa using h)
   ·have e:kJ (x::l) s=0:=by unfold kJ;rw[List.takeWhile_cons];simp[hx]
    rw[e];exact⟨fun i hi=>by omega,fun _=>hx⟩
theorem UY{l:List Bk}(s:List UInt8){x:Bk}(hx:x∈l.d (kJ l s)):mD x.E s<0:=by
 obtain⟨i,hi,rfl⟩:=mP hx;rw[bK]at hi;rw[List.getElem_take,<-FJ l i (by omega)];exact(Yk l s).1 i (by omega)
theorem alF{l:List Bk}(s:List UInt8)(h:kJ l s<l.a):¬mD (nm l (kJ l s)) s<0:=(Yk l s).2 h
theorem Yl{l:List Bk}(hs:Fp l)(s:List UInt8)(hno:sM l s=false){x:Bk}(hx:x∈l.f (kJ l s)):mD s x.E<0:=by
 obtain⟨i,hi,rfl⟩:=mP hx;rw[jD]at hi;rw[List.getElem_drop];have h0:=alF s (show kJ l s<l.a by omega);have h1:mD (nm l (kJ l s)) s≠0:=by
  intro h;unfold sM at hno;simp[show kJ l s<l.a by omega,h]at hno
 have h2:mD s (nm l (kJ l s))<0:=by
  rw[aii];have:=aeK (nm l (kJ l s)) s;omega
 rw[<-FJ l _ (by omega)];rcases eu i with h|h
 ·subst h;simpa using h2
 ·exact Fj h2 (hs.lt (by omega) (by omega))
theorem apd{l:List Bk}{k:Nat}{x y:Bk}:y∈zF l k x↔y=x\/y∈l:=by
 unfold zF;rw[qm,bg];have:y∈l↔y∈l.d k\/y∈l.f k:=by rw[<-qm,iF]
 rw[this];constructor
 ·rintro(h|h|h)
  ·exact .b (.a h)
  ·exact .a h
  ·exact .b (.b h)
 ·rintro(h|h|h)
  ·exact .b (.a h)
  ·exact .a h
  ·exact .b (.b h)
theorem ape{l:List Bk}(hs:Fp l){x:Bk}(hno:sM l x.E=false):Fp (zF l (kJ l x.E) x):=by
 unfold Fp zF;rw[List.pairwise_append];refine⟨hs.sublist (List.take_sublist _ _),?_,?_⟩
 ·rw[gN]
  exact⟨fun y hy=>Yl hs x.E hno hy,hs.sublist (List.drop_sublist _ _)⟩
 ·intro a ha b hb
  rcases bg.1 hb with rfl|hb
  ·exact UY _ ha
  ·exact Fj (UY _ ha) (Yl hs x.E hno hb)
theorem apf{l:List Bk}(hs:Fp l)(i:Nat):Fp (Eh l i):=by
 unfold Eh;refine hs.sublist ?_
 conv=>rhs;rw[<-iF i l]
 exact List.Sublist.append_left (by rw[<-List.drop_drop];exact List.drop_sublist _ _) _
theorem ag'{l:List Bk}(hs:Fp l){i:Nat}(hi:i<l.a){y:Bk}:y∈Eh l i↔y∈l/\y.E≠nm l i:=by
 have e:l=l.d i++l[i]::l.f (i+1):=by
  conv=>lhs;rw[<-iF i l,kU hi]
 unfold Eh;constructor
 ·intro h
  have hm:y∈l:=by
   rw[e];rcases qm.1 h with h|h
   ·exact Ai _ h
   ·exact List.mem_append_right _ (List.mem_cons_of_mem _ h)
  refine⟨hm,fun hn=>?_⟩;rw[FJ l i hi]at hn;have hs2:=hs;unfold Fp at hs2;rw[e,List.pairwise_append,gN]at hs2;rcases qm.1 h with h|h
  ·have:=hs2.2.2 y h l[i] (List.mem_cons_self ..)
   rw[hn,Yj]at this;omega
  ·have:=hs2.2.1.1 y h
   rw[hn,Yj]at this;omega
 ·rintro⟨hm,hn⟩
  rw[e]at hm;rcases qm.1 hm with h|h
  ·exact Ai _ h
  ·rcases bg.1 h with rfl|h
   ·exact absurd (FJ l i hi).symm hn
   ·exact List.mem_append_right _ h
theorem aha{l:List Bk}(hs:Fp l){i:Nat}(hi:i<l.a){z:Bk}(hz:z.E=nm l i):Fp (l.set i z):=by
 unfold Fp;rw[fT];intro a b ha hb hab;rw[aV]at ha hb;have hn:∀j (hj:j<(l.set i z).a),((l.set i z)[j]).E=nm l j:=by
  intro j hj;rw[aV]at hj;rw[List.getElem_set];split
  ·rename_i h;subst h;exact hz
  ·exact(FJ l j hj).symm
 rw[hn,hn];exact hs.lt hab hb
theorem ahb{l:List Bk}(hs:Fp l){i:Nat}(hi:i<l.a){z y:Bk}(hz:z.E=nm l i):y∈l.set i z↔y=z\/(y∈l/\y.E≠nm l i):=by
 have e:l=l.d i++l[i]::l.f (i+1):=by
  conv=>lhs;rw[<-iF i l,kU hi]
 have e2:l.set i z=l.d i++z::l.f (i+1):=List.set_eq_take_append_cons_drop ▸ (by rw[if_pos hi]);have hd:=@ag' l hs i hi y;rw[e2,qm,bg];unfold Eh at hd;rw[qm]at hd;rw[<-hd];constructor
 ·rintro(h|h|h)
  ·exact .b (.a h)
  ·exact .a h
  ·exact .b (.b h)
 ·rintro(h|h|h)
  ·exact .b (.a h)
  ·exact .a h
  ·exact .b (.b h)
def doV(v:Int)(l:List Bk)(o:qO):Int:=if pU v l o=0 then v+1 else v
def doL(v:Int)(l:List Bk)(o:qO):List Bk:=if pU v l o=0 then Qc l o else l
theorem ata(l:List Bk)(hs:Fp l)(v:Int)(hv : -9223372036854775808<=v/\v<9223372036854775807)(o:qO)(hf:o.X.pJ)(hw:o.w<18446744073709551616)(A:Option aT)(c:Nat)(w:ak)(hR:Ea w w.a.j A l.a l)(hn:l.a<=100000):
 aP ah 71 #[.d #[.b .a v,.a A l.a c],.d o.ay] w (UW w (doV v l o) (doL v l o) (pU v l o)):=by
 by_cases h:pU v l o=0
 ·have hV:doV v l o=v+1:=by simp[doV,h]
  have hL:doL v l o=Qc l o:=by simp[doL,h]
  rw[hV,hL,h];obtain⟨k1,k2,k3,k4,k5,k6⟩:=aaw h;unfold Qc;by_cases h1:o.kind=1
  ·rw[if_pos h1]
   exact as7 l hs v hv o hf hw h h1 A c w hR hn
  ·rw[if_neg h1]
   by_cases h2:o.kind=2
   ·rw[if_pos h2]
    exact as8 l hs v hv o hf hw h h2 (k6 h1) A c w hR hn
   ·rw[if_neg h2]
    by_cases h3:o.kind=3
    ·rw[if_pos h3]
     exact aiJ l hs v hv o hf hw h h3 (k6 h1) A c w hR hn
    ·rw[if_neg h3]
     by_cases h4:o.kind=4
     ·rw[show(o.kind==4)=true by simpa using h4]
      exact alD l hs v hv o hf hw h h4 (k6 h1) A c w hR hn
     ·rw[show(o.kind==4)=false by simpa using h4]
      exact apc l hs v hv o hf hw h (by omega) (k6 h1) A c w hR hn
 ·have hV:doV v l o=v:=by simp[doV,h]
  have hL:doL v l o=l:=by simp[doL,h]
  rw[hV,hL];exact as6 l hs v o hf hw h A c w hR hn
structure oU where
 E:List UInt8
 q:Int
deriving DecidableEq
def oU.ay(x:oU):Array aB:=#[.g (bT x.E),.b .a x.q]
def Am(l:List oU):List aB:=l.flatMap (·.ay.a)
theorem FK(l:List oU)(x:oU):Am (l++[x])=Am l++x.ay.a:=by simp[Am]
theorem aax:∃i:TypeInfo,ah.l 151=some i/\i.zero=some (.d #[.g ⟨#[]⟩,.b .a 0])/\i.j=2/\i.bytes<=200:=by
 cases h:ah.l 151 with
 | none=>exact absurd h (by have:(ah.l 151).isSome=true:=by kernel_rfl
                            intro e;rw[e]at this;cases this)
 | some i=>
   have h1:(ah.l 151).map (·.j)=some 2:=by kernel_rfl
   have h2:(ah.l 151).map (fun i=>decide (i.bytes<=200))=some true:=by kernel_rfl
   have h3:(ah.l 151).map (·.zero)=some (some (.d #[.g ⟨#[]⟩,.b .a 0])):=by kernel_rfl
   rw[h]at h1 h2 h3;simp at h1 h2 h3;exact⟨i,rfl,h3,h1,h2⟩
def alG(n:Nat)(ps:Array (Nat×aB)):Sem aB:=bJ 75 n ps
@[go_sem ↓]theorem axn(n:Nat)(ps:Array (Nat×aB)):bJ 75 n ps=alG n ps:=rfl
@[go_sem]theorem aiK(w:ak)(s:List UInt8)(q:Int):(alG 1 #[(0,.d #[.g (bT s),.b .a q])]).I ah w = .Z (.a (some ⟨w.a.j,0,none⟩) 1 1) (w.alloc (.D #[.g (bT s),.b .a q] 151)):=by
 obtain⟨i0,hi0,hz0,hz1,hzb⟩:=aax;exact rP w _ _ i0 _ 2 vg hi0 hz0 hz1 rfl (by omega) (by omega) _ rfl
def FL(ls:List (List UInt8))(x:Bk):oU:=⟨x.E,if x.drain||xq ls x.E then 0 else wQ x.w⟩
def kW(ls:List (List UInt8))(l:List Bk):List oU:=l.map (FL ls)
theorem Xo(ls:List (List UInt8))(l:List Bk)(i:Nat)(hi:i<l.a):kW ls (l.d (i+1))=kW ls (l.d i)++[FL ls (l.c i jg)]:=by
 rw[List.take_succ_eq_append_getElem hi,kW,kW,List.map_append,au,aC hi];rfl
def C8(key:Vector UInt8 16)(s:List UInt8)(n:Nat):Nat:=xQ key (s++[0])%n
def Ag(key:Vector UInt8 16)(s:List UInt8)(n:Nat):Nat:=xQ key (s++[1])%(n-1)+1
def chF(key:Vector UInt8 16)(n:Nat)(l:List (List UInt8))(i k:Nat):Nat:=re (C8 key (l.c i []) n) (Ag key (l.c i []) n) n k
theorem UZ(key:Vector UInt8 16)(s:List UInt8){n:Nat}(hn:2<=n):1<=Ag key s n/\Ag key s n<n:=by
 unfold Ag;have:=fH (xQ key (s++[1])) (show 0<n-1 by omega);omega
theorem alH(key:Vector UInt8 16)(s:List UInt8){n:Nat}(hn:2<=n):C8 key s n<n:=fH _ (by omega)
theorem alI{key:Vector UInt8 16}{n:Nat}{l:List (List UInt8)}(h:lH n=true):acu n l.a (chF key n l):=by
 intro i hi;have h2:=wO h;obtain⟨s1,s2⟩:=UZ key (l.c i []) h2;refine⟨fun t=>OX (by omega),fun j hj=>UA h s1 s2 hj⟩
def vS(g n:Nat)(q:List Nat)(ch:Nat->Nat->Nat):Nat->Mg
 | 0=>⟨q.map fun _=>0,List.replicate n (-1),n⟩
 | j+1=>if(vS g n q ch j).left=0 then vS g n q ch j else sF g n q ch (vS g n q ch j) (j%q.a)
theorem QV{g n:Nat}{q:List Nat}{ch:Nat->Nat->Nat}:∀j,(∀t,t<j->(jO g n q ch t).left≠0)->vS g n q ch j=jO g n q ch j
 | 0,_=>rfl
 | j+1,h=>by
   have ih:=QV (g:=g) (n:=n) (q:=q) (ch:=ch) j (fun t ht=>h t (by omega));unfold vS jO;rw[ih,if_neg (h j (by omega))]
theorem QW{g n:Nat}{q:List Nat}{ch:Nat->Nat->Nat}{j:Nat}(h:(vS g n q ch j).left=0):∀d,vS g n q ch (j+d)=vS g n q ch j
 | 0=>rfl
 | d+1=>by
   have e:vS g n q ch (j+d+1)=if(vS g n q ch (j+d)).left=0 then vS g n q ch (j+d)else sF g n q ch (vS g n q ch (j+d)) ((j+d)%q.a):=rfl
   rw[<-mZ,e,QW h d,if_pos h]
def lQ(q:List Nat):Nat:=q.foldl max 0
def Ej(n:Nat)(q:List Nat)(ch:Nat->Nat->Nat):List Int:=(vS (lQ q) n q ch (n*q.a)).sl
theorem Ym:∀(q:List Nat)(b:Nat),q.foldl max b=b\/∃i,i<q.a/\q.c i 0=q.foldl max b
 | [],b=>.a rfl
 | x::q,b=>by
   rw[jW];rcases Ym q (max b x)with h|⟨i,hi,h⟩
   ·rw[h]
    rcases Nat.le_total x b with hx|hx
    ·left;omega
    ·right;exact⟨0,by simp,by simp;omega⟩
   ·exact .b ⟨i+1,by simpa using hi,by simpa using h⟩
theorem C9{q:List Nat}(h:q≠[])(h0:∀x∈q,0<x):∃i,i<q.a/\q.c i 0=lQ q:=by
 rcases Ym q 0 with e|e
 ·cases q with
  | nil=>exact absurd rfl h
  | cons x t=>
    exfalso;have h1:∀(t:List Nat)(b:Nat),b<=t.foldl max b:=by
     intro t
     induction t with
     | nil=>intro b;exact av _
     | cons y t ih=>intro b;rw[jW];exact aO (Nat.le_max_left _ _) (ih _)
    have h2:=h1 t (max 0 x);have h3:=h0 x (by simp);rw[jW]at e;omega
 ·exact e
theorem Yn{n:Nat}{q:List Nat}{ch:Nat->Nat->Nat}(h:q≠[])(h0:∀x∈q,0<x):∃K,K<=n*q.a/\(jO (lQ q) n q ch K).left=0/\(∀j,j<K->(jO (lQ q) n q ch j).left≠0)/\Ej n q ch=(jO (lQ q) n q ch K).sl:=by
 obtain⟨i,hi,hg⟩:=C9 h h0;obtain⟨K,h1,h2⟩:=aoN (n:=n) (ch:=ch) hi hg;have hm:∀m,(jO (lQ q) n q ch (m*q.a)).left<=n-m:=by
  intro m
  induction m with
  | zero=>simp[jO]
  | succ m ih=>have:=aaf (n:=n) (ch:=ch) hi hg m;omega
 have hK:K<=n*q.a:=by
  rcases aY (n*q.a) K with h3|h3
  ·have:=h2 _ h3
   have:=hm n;omega
  ·exact h3
 refine⟨K,hK,h1,h2,?_⟩;unfold Ej;obtain⟨d,hd⟩:∃d,n*q.a=K+d:=⟨n*q.a-K,by omega⟩
 have e:=QV (g:=lQ q) (n:=n) (q:=q) (ch:=ch) K h2;rw[hd,QW (by rw[e];exact h1),e]
structure Tl where
 h:List (List UInt8)
 uy:List Int
deriving DecidableEq
def uj(key:Vector UInt8 16)(n:Nat)(l:List oU):Tl:=
 let r:=l.filter fun x=>decide (x.q≠0)
 if r=[]then⟨[],[]⟩else⟨r.map (·.E),Ej n (r.map fun x=>x.q.e) (chF key n (r.map (·.E)))⟩
def Gw(t:Tl)(h:Nat):Option (List UInt8):=if t.uy.a=0 then none else some (t.h.c (t.uy.c (h%t.uy.a) 0).e [])
theorem acS{n:Nat}{q:List Nat}{ch:Nat->Nat->Nat}(h:q≠[])(h0:∀x∈q,0<x)(hf:acu n q.a ch):(Ej n q ch).a=n/\∀j,j<n->∃i,i<q.a/\(Ej n q ch).c j 0=(i:Int):=by
 obtain⟨K,_,h1,h2,h3⟩:=Yn (n:=n) (ch:=ch) h h0;have hq:0<q.a:=List.length_pos_iff.2 h;have ok:=ala (g:=lQ q) hq hf K h2;rw[h3];refine⟨ok.sll,fun j hj=>?_⟩;rcases ok.rng j hj with e|e
 ·exfalso
  have hfr:=ok.fr;rw[h1]at hfr;have:rQ (jO (lQ q) n q ch K).sl j=true:=by unfold rQ;rw[e];rfl
  have hpos:=OY _ j 0 this (by rw[ok.sll];exact hj) (by decide);omega
 ·exact e
theorem Yo{key:Vector UInt8 16}{n:Nat}{l:List oU}(hp:lH n=true)(h0:∀x∈l,0<=x.q):(uj key n l).uy=[]/\(uj key n l).h=[]\/(uj key n l).uy.a=n/\∀j,j<n->∃i,i<(uj key n l).h.a/\(uj key n l).uy.c j 0=(i:Int):=by
 unfold uj;simp only;split
 ·exact .a ⟨rfl,rfl⟩
 ·rename_i hr
  right;have:=acS (n:=n) (q:=(l.filter fun x=>decide (x.q≠0)).map fun x=>x.q.e) (ch:=chF key n ((l.filter fun x=>decide (x.q≠0)).map (·.E))) (by simpa using hr) (by
   intro x hx;obtain⟨y,hy,rfl⟩:=List.mem_map.1 hx;obtain⟨h1,h2⟩:=List.mem_filter.1 hy;have:=h0 y h1;simp at h2;omega) (by rw[bU];have:=alI (key:=key) (n:=n) (l:=(l.filter fun x=>decide (x.q≠0)).map (·.E)) hp;rwa [bU]at this)
  simp only[bU]at this ⊢;exact this
section
open Go.ChangeShapes Go.WideShapes Go.ChangeAt Go.RowKit Go.Deep
section
variable {H:Type} {enc:bF×aB->H} {w:ak} {base:Nat} {spare:Nat->Bool} {held:Bool} {fuel:Nat} {t:bF} {cs:List aB} {x:DataW H×List MemPlace}
theorem MP(h:lX enc ah w base spare held fuel 27 cs=some x):∃a:fC,cs=a.ay.a:=by
 obtain⟨xs,n,_,_,hl,hxl,hf⟩:=uI Tryz.underlying27 h;rw[show ah.cellsOf 27=17 by kernel_rfl]at hl;obtain⟨y0,h0⟩:=J6 hxl hf 0 _ rfl;obtain⟨y1,h1⟩:=J6 hxl hf 1 _ rfl;obtain⟨b,hb,_⟩:=Hr (by kernel_rfl) h0;obtain⟨v,hv⟩:=Me (k:=16) (e:=5) (by kernel_rfl) (by kernel_rfl) (by kernel_rfl) (by kernel_rfl) h1;have c0:(cs.f 0).d 1=[.bool b]:=hb;have c1:(cs.f 1).d 16=v.a.map bv:=hv;refine⟨⟨b,v⟩,?_⟩;have e:=sV cs 0 1;rw[c0,sV cs (0+1) 16,c1,iW (i:=0+1+16) (by omega)]at e;simpa[fC.ay]using e
def Bk.OH(b:Bk):Prop:=b.pJ/\-9223372036854775808<=b.mR/\b.mR<=9223372036854775807
theorem apg(h:lX enc ah w base spare held fuel 62 cs=some x):∃b:Bk,cs=b.ay.a/\b.OH:=by
 obtain⟨xs,n,_,_,hl,hxl,hf⟩:=uI Tryz.underlying62 h;rw[show ah.cellsOf 62=27 by kernel_rfl]at hl;obtain⟨y0,h0⟩:=J6 hxl hf 0 _ rfl;obtain⟨y1,h1⟩:=J6 hxl hf 1 _ rfl;obtain⟨y2,h2⟩:=J6 hxl hf 2 _ rfl;obtain⟨y3,h3⟩:=J6 hxl hf 3 _ rfl;obtain⟨y4,h4⟩:=J6 hxl hf 4 _ rfl;obtain⟨y5,h5⟩:=J6 hxl hf 5 _ rfl;obtain⟨s,hs,hsl⟩:=Ue (by kernel_rfl) h0;obtain⟨a,ha⟩:=MP h1;obtain⟨p,hp,hp1,hp2⟩:=sD (by kernel_rfl) h2;obtain⟨m,hm⟩:=Me (k:=6) (e:=5) (by kernel_rfl) (by kernel_rfl) (by kernel_rfl) (by kernel_rfl) h3;obtain⟨f,hf,hf2⟩:=abT (by kernel_rfl) h4;obtain⟨d,hd,_⟩:=Hr (by kernel_rfl) h5;have c0:(cs.f 0).d 1=[.g (bT s)]:=hs;have c1:(cs.f 1).d 17=a.ay.a:=ha;have c2:(cs.f 18).d 1=[.b .a p]:=hp;have c3:(cs.f 19).d 6=m.a.map bv:=hm;have c4:(cs.f 25).d 1=[fv f]:=hf;have c5:(cs.f 26).d 1=[.bool d]:=hd;refine⟨⟨s,a,p,m,f,d⟩,?_,⟨hsl,hf2⟩,hp1,hp2⟩;have e:=sV cs 0 1;rw[c0,sV cs (0+1) 17,c1,sV cs (0+1+17) 1,c2,sV cs (0+1+17+1) 6,c3,sV cs (0+1+17+1+6) 1,c4,sV cs (0+1+17+1+6+1) 1,c5,iW (i:=0+1+17+1+6+1+1) (by omega)]at e;simpa[Bk.ay,fC.ay]using e
def qO.OH(o:qO):Prop:=o.X.OH/\o.w<18446744073709551616/\o.E.a<=9223372036854775807
theorem alJ(h:lX enc ah w base spare held fuel 64 cs=some x):∃o:qO,cs=o.ay.a/\o.OH:=by
 obtain⟨xs,n,_,_,hl,hxl,hf⟩:=uI uZ h;rw[show ah.cellsOf 64=30 by kernel_rfl]at hl;obtain⟨y0,h0⟩:=J6 hxl hf 0 _ rfl;obtain⟨y1,h1⟩:=J6 hxl hf 1 _ rfl;obtain⟨y2,h2⟩:=J6 hxl hf 2 _ rfl;obtain⟨y3,h3⟩:=J6 hxl hf 3 _ rfl;obtain⟨k,hk,_,_⟩:=sD (by kernel_rfl) h0;obtain⟨b,hb,hbg⟩:=apg h1;obtain⟨s,hs,hsl⟩:=Ue (by kernel_rfl) h2;obtain⟨f,hf,hf2⟩:=abT (by kernel_rfl) h3;have c0:(cs.f 0).d 1=[.b .a k]:=hk;have c1:(cs.f 1).d 27=b.ay.a:=hb;have c2:(cs.f 28).d 1=[.g (bT s)]:=hs;have c3:(cs.f 29).d 1=[fv f]:=hf;refine⟨⟨k,b,s,f⟩,?_,hbg,hf2,hsl⟩;have e:=sV cs 0 1;rw[c0,sV cs (0+1) 27,c1,sV cs (0+1+27) 1,c2,sV cs (0+1+27+1) 1,c3,iW (i:=0+1+27+1+1) (by omega)]at e;simpa[qO.ay]using e
end
end
theorem alK{v:Int}{l:List Bk}(hs:Fp l)(o:qO):Fp (doL v l o):=by
 unfold doL;split
 ·rename_i h
  obtain⟨_,_,_,h1,_,h6⟩:=aaw h;unfold Qc;split
  ·rename_i hk
   exact ape (x:=o.X.Ol (kI o.X.w)) hs (h1 hk).2.1
  ·rename_i hk
   have hh:=h6 hk;split
   ·exact apf hs _
   ·split
    ·exact aha hs (xU hh) (by rw[afb hh];exact(Tf hh).2)
    ·exact aha hs (xU hh) (by rw[afb hh];exact(Tf hh).2)
 ·exact hs
theorem alL{v:Int}{l:List Bk}(o:qO):(doL v l o).a=if pU v l o=0/\o.kind=1 then l.a+1 else if pU v l o=0/\o.kind=2 then l.a-1 else l.a:=by
 unfold doL;by_cases h:pU v l o=0
 ·obtain⟨_,_,_,h1,_,h6⟩:=aaw h
  simp only[h,true_and,if_true];unfold Qc;by_cases h1:o.kind=1
  ·simp only[h1,if_true];exact xS _ _ _
  ·simp only[h1,if_false]
   by_cases h2:o.kind=2
   ·simp only[h2,if_true];exact ML _ _ (xU (h6 h1))
   ·simp only[h2,if_false]
    split<;>exact aV
 ·simp[h]
theorem acT(x:Nat):kI x=0\/kI x=x:=by unfold kI;split<;>simp
theorem acU{x:Nat}(h:Xd x=true):Xd (kI x)=true:=by
 rcases acT x with h1|h1<;>rw[h1]
 ·decide +kernel
 ·exact h
theorem acV{x:Nat}(h:x<18446744073709551616):kI x<18446744073709551616:=by
 rcases acT x with h1|h1<;>rw[h1]
 ·decide
 ·exact h
theorem acW(x:Nat):kI (kI x)=kI x:=by
 unfold kI;by_cases h:(ord x 0==some .eq)=true
 ·simp only[h,if_true]
  split<;>rfl
 ·simp only[h]
  simp[h]
theorem Yp(x:Nat):Xf (kI x)=true:=by unfold Xf;rw[acW];exact aik _
theorem acX{x:Bk}{u:Nat}(h:x.Ci=true)(hu:Xd u=true):(x.Ol u).Ci=true:=by
 unfold Bk.Ci at h ⊢;simp only[bl]at h ⊢;exact⟨⟨⟨⟨h.1.1.1.1,h.1.1.1.2⟩,h.1.1.2⟩,h.1.2⟩,hu⟩
theorem atb{x:Bk}(h:x.Ci=true):Xd x.w=true:=by
 unfold Bk.Ci at h;simp only[bl]at h;exact h.2
theorem afc{v:Int}{l:List Bk}{o:qO}(hr:xO v l=true)(hf:∀x∈l,x.pJ)(hof:o.X.pJ)(how:o.w<18446744073709551616)(h:pU v l o=0):
 xO (v+1) (doL v l o)=true/\∀x∈doL v l o,x.pJ:=by
 obtain⟨h1,h2,h3,h4,h5⟩:=uO.1 hr;obtain⟨w1,w2,w3,w4,w5,w6⟩:=aaw h;have hl:=alL (v:=v) (l:=l) o;have hs:=alK (v:=v) h5 o;have key:∀x∈doL v l o,(x.Ci=true/\Xf x.w=true)/\x.pJ:=by
  unfold doL;rw[if_pos h];unfold Qc;split
  ·rename_i hk
   intro x hx;rcases apd.1 hx with rfl|hx
   ·have hb:=(w4 hk).1
    exact⟨⟨acX hb (acU (atb hb)),Yp _⟩,hof.1,acV hof.2⟩
   ·exact⟨h4 x hx,hf x hx⟩
  ·rename_i hk
   have hh:=w6 hk;have hin:=Tf hh;have hnm:=afb hh;split
   ·intro x hx
    have:=((ag' h5 (xU hh)).1 hx).1;exact⟨h4 x this,hf x this⟩
   ·split
    ·rename_i hk3
     intro x hx;rcases(ahb h5 (xU hh) (z:=(qc l o.E).Ol (kI o.w)) (by rw[hnm];exact hin.2)).1 hx with rfl|⟨hx,_⟩
     ·exact⟨⟨acX (h4 _ hin.1).1 (acU (w5 hk3)),Yp _⟩,(hf _ hin.1).1,acV how⟩
     ·exact⟨h4 x hx,hf x hx⟩
    ·intro x hx
     rcases(ahb h5 (xU hh) (z:=(qc l o.E).toD (o.kind==4)) (by rw[hnm];exact hin.2)).1 hx with rfl|⟨hx,_⟩
     ·have e1:((qc l o.E).toD (o.kind==4)).Ci=(qc l o.E).Ci:=rfl
      have e2:((qc l o.E).toD (o.kind==4)).w=(qc l o.E).w:=rfl;rw[e1,e2];exact⟨h4 _ hin.1,(hf (qc l o.E) hin.1:(qc l o.E).pJ)⟩
     ·exact⟨h4 x hx,hf x hx⟩
 refine⟨uO.2 ⟨by omega,by omega,?_,fun x hx=>(key x hx).1,hs⟩,fun x hx=>(key x hx).2⟩;rw[hl];split
 ·rename_i hk
  have:=(w4 hk.2).2.2;omega
 ·split<;>omega
def aay(w:ak)(m:List oU)(e:lq)(w':ak):Prop:=
 ∃A c,e=.a (.a A m.a c)/\w'.c w.a.j 151 2 (.a A m.a c) m.a (Am m)/\aL w.a.j w w'
theorem afd{w wr:ak}{v:aB}{m:List oU}{n:Nat}(hn:m.a=n)(ho:wr.c (w.a.j+1) 151 2 v n (Am m))(hb:aL w.a.j w wr):aay w m (.a v) wr:=by
 subst hn;obtain⟨A,c,rfl,_,_⟩:=jE ho;exact⟨A,c,rfl,iI ho (by omega),hb⟩
theorem afe(l:List Bk)(hf:∀x∈l,x.pJ)(v:Int)(A:Option aT)(c:Nat)(ls:List (List UInt8))(D:Option aT)(d:Nat)(w:ak)(hR:Ea w w.a.j A l.a l)(hD:aam w w.a.j D ls.a ls)(hn:l.a<=100000)(hd:ls.a<4611686018427387904):
 aP ah 28 #[.d #[.b .a v,.a A l.a c],.a D ls.a d] w (aay w (kW ls l)):=by
 have HR:=ab hR;have HF:=ab hf;have HD:=ab hD;have HB0:=ab (fun ob=>((aG w.a.j w).alloc (av _) ob:aL w.a.j w (w.alloc ob)));have Dx:=ab (fun i=>Xo ls l i);have HSL:=ab (show l.d l.a=l from List.take_length);obtain⟨i0,hi0,hz0,hz1,hzb⟩:=aax;have HI0:=ab hi0;have HZ0:=ab hz0;have HZ1:=ab hz1;have HZ2:=ab (show(bY #[iB ⟨#[]⟩,aI .a 0]).D.j=2 from rfl);clear hR hf hD hi0 hz0 hz1;obtain⟨n,hnl⟩:=cB l.a;rw[<-hnl]at HR hn HSL ⊢;have HN:=ab hnl;clear hnl;go_enter Tryz.func28,Tryz.ntmps28;go_wp2;go_loopw [5,13] (fun s5 s13 wr=>∃(i:Nat)(O:Option aT)(cap:Nat),i<=n/\s5=.a O i cap/\s13=.b .a i/\wr.c (w.a.j+1) 151 2 (.a O i cap) i (Am (kW ls (l.d i)))/\aL (w.a.j+1) (w.alloc (.D #[.b .a v,.a A n c] 32)) wr) (fun _ s13 _=>n-(intOf s13).e)
 case atStart=>exact⟨0,none,0,by omega,rfl,rfl,fu _ _ _ _,by simpa using aG _ _⟩
 case round=>
  obtain⟨i,O,cap,hin,rfl,rfl,ho,hb⟩:=hrel;have HB:=ab hb;have hbw:=(HB0.i (.D #[.b .a v,.a A n c] 32)).trans (hb.g (by simp));have HBW:=ab hbw;have hsz:=hb.j;have OW:=ab (fun ob sK=>(ho.alloc ob).alloc sK);have O0:=ab ho;clear hb hbw ho;by_cases hlt:i<n
  ·have hi:(i:Int)<n:=by omega
   obtain⟨b,o,rfl,hbb,hh,hc⟩:=(HR.i.O HBW.i).fI hlt;have hbs:b<wr.a.j:=by simp at hsz;omega
   have hmem:l.c i jg∈l:=by
    have:=HN.i;rw[au,aC (by omega)];simp
   obtain⟨hx1,hx2⟩:=HF.i _ hmem;have hsn:=Dx.i i (by have:=HN.i;omega);obtain⟨x,hx⟩:=cB (l.c i jg);rw[<-hx]at hc hx1 hx2 hsn;have atc:=ab hsn;clear hx hmem hsn hbb;have HDB:=ab (fun ob=>(((HD.i.O HBW.i).alloc (show w.a.j<=wr.a.j by simp at hsz;omega) ob).lF (B':=(wr.alloc ob).a.j) (by simp at hsz⊢;omega):aam (wr.alloc ob) (wr.alloc ob).a.j D ls.a ls));have HQ:∀W,aP ah 86 #[.float .f64 x.w] W fun e w'=>e=.a (.J #[.b .a (wQ x.w),.bool (Xd x.w)])/\W=w':=fun W=>aeG x.w hx2 W
   have HQU:=ab HQ;have S9:=ab (show i+1<=maxLen by unfold maxLen;omega);have OQ:=ab (show(i+1)*i0.bytes<=140737488355328 from aO (gU (show i+1<=100001 by omega) hzb) (by omega));have HBS:=ab (fun ob sK=>show w.a.j+1<=((wr.alloc ob).alloc sK).a.j by simp at hsz⊢;omega);have RJ:=ab (fun(ob:Obj) (cc:Array aB) (h2:cc.j=2)=>(⟨by simp[h2],fun _=>⟨_,rfl,mF _,aat _ _ cc _ _ (by have:=Gl (wr.alloc ob) (.D cc 151);rwa [show(wr.alloc ob).a.j=wr.a.j+1 by simp]at this)⟩⟩:Rd ((wr.alloc ob).alloc (.D cc 151)) (wr.a.j+1+1) 2 (some ⟨wr.a.j+1,0,none⟩) 1 cc.a));have HBN:=ab (fun ob sK=>((HB.i.alloc (show w.a.j+1<=wr.a.j by simpa using hsz) ob).alloc (by simp at hsz⊢;omega) sK:aL (w.a.j+1) _ ((wr.alloc ob).alloc sK)));clear HQ hx1 hx2;have hso:FL ls x=⟨x.E,if x.drain||xq ls x.E then 0 else wQ x.w⟩:=rfl;have HSO:=ab hso;clear hso;cases kd:x.drain
   ·have HKD:=ab kd
    have HCO:∀ob,aP ah 87 #[.a D ls.a d,.g (bT x.E)] (wr.alloc ob) fun e w'=>e=.a (.bool (xq ls x.E))/\wr.alloc ob=w':=fun ob=>Mx ls x.E D d _ (HDB.i ob) hd
    cases kc:xq ls x.E
    all_goals
     rw[kc]at HCO;have axo:=ab HCO;have HKC:=ab kc;clear HCO kc
    ·go_wp2_with (first
      | (go_at_call 86;refine(HQU.i _).g ?_;rintro e w' ⟨rfl,rfl⟩)
      | (go_at_call 87;refine(axo.i _).g ?_;rintro e w' ⟨rfl,rfl⟩)
      | (at_builtin;refine jv _ rfl (.a 31) (.a 36) _ rfl (w.a.j+1) 151 i0 (.d #[.g ⟨#[]⟩,.b .a 0]) 2 i0.bytes vg HI0.i HZ0.i HZ1.i rfl HZ2.i (mH _) (.a O i cap) i (Am (kW ls (l.d i))) rfl (OW.i _ _) (wr.a.j+1+1) (some ⟨wr.a.j+1,0,none⟩) 1 1 [.g (bT x.E),.b .a (wQ x.w)] rfl (RJ.i _ #[.g (bT x.E),.b .a (wQ x.w)] rfl) (by simp[cZ]) S9.i OQ.i (HBS.i _ _) ?_
         intro v1 w1 hown1 hg1 wM;have O1:=ab hown1;have G1:=ab hg1;clear hown1 hg1 wM))
     obtain⟨O',cap',rfl,_,_⟩:=jE O1.i;go_roundw
     case rel=>exact⟨i+1,O',cap',by omega,rfl,by go_num,by rw[atc.i,FK,HSO.i,HKD.i,HKC.i];exact O1.i,(HBN.i _ _).grown G1.i (by simp at hsz⊢;omega) (fun k hk=>(O0.i.lt k hk).1)⟩
     case measure=>simp[intOf]<;>omega
    ·go_wp2_with (first
      | (go_at_call 86;refine(HQU.i _).g ?_;rintro e w' ⟨rfl,rfl⟩)
      | (go_at_call 87;refine(axo.i _).g ?_;rintro e w' ⟨rfl,rfl⟩)
      | (at_builtin;refine jv _ rfl (.a 31) (.a 36) _ rfl (w.a.j+1) 151 i0 (.d #[.g ⟨#[]⟩,.b .a 0]) 2 i0.bytes vg HI0.i HZ0.i HZ1.i rfl HZ2.i (mH _) (.a O i cap) i (Am (kW ls (l.d i))) rfl (OW.i _ _) (wr.a.j+1+1) (some ⟨wr.a.j+1,0,none⟩) 1 1 [.g (bT x.E),.b .a 0] rfl (RJ.i _ #[.g (bT x.E),.b .a 0] rfl) (by simp[cZ]) S9.i OQ.i (HBS.i _ _) ?_
         intro v1 w1 hown1 hg1 wM;have O1:=ab hown1;have G1:=ab hg1;clear hown1 hg1 wM))
     obtain⟨O',cap',rfl,_,_⟩:=jE O1.i;go_roundw
     case rel=>exact⟨i+1,O',cap',by omega,rfl,by go_num,by rw[atc.i,FK,HSO.i,HKD.i,HKC.i];exact O1.i,(HBN.i _ _).grown G1.i (by simp at hsz⊢;omega) (fun k hk=>(O0.i.lt k hk).1)⟩
     case measure=>simp[intOf]<;>omega
   ·have HKD:=ab kd
    go_wp2_with (first
     | (go_at_call 86;refine(HQU.i _).g ?_;rintro e w' ⟨rfl,rfl⟩)
     | (at_builtin;refine jv _ rfl (.a 31) (.a 36) _ rfl (w.a.j+1) 151 i0 (.d #[.g ⟨#[]⟩,.b .a 0]) 2 i0.bytes vg HI0.i HZ0.i HZ1.i rfl HZ2.i (mH _) (.a O i cap) i (Am (kW ls (l.d i))) rfl (OW.i _ _) (wr.a.j+1+1) (some ⟨wr.a.j+1,0,none⟩) 1 1 [.g (bT x.E),.b .a 0] rfl (RJ.i _ #[.g (bT x.E),.b .a 0] rfl) (by simp[cZ]) S9.i OQ.i (HBS.i _ _) ?_
        intro v1 w1 hown1 hg1 wM;have O1:=ab hown1;have G1:=ab hg1;clear hown1 hg1 wM))
    obtain⟨O',cap',rfl,_,_⟩:=jE O1.i;go_roundw
    case rel=>exact⟨i+1,O',cap',by omega,rfl,by go_num,by rw[atc.i,FK,HSO.i,HKD.i];exact O1.i,(HBN.i _ _).grown G1.i (by simp at hsz⊢;omega) (fun k hk=>(O0.i.lt k hk).1)⟩
    case measure=>simp[intOf]<;>omega
  ·obtain rfl:i=n:=by omega
   have hd:decide ((i:Int)<i)=false:=by simp
   go_wp2;go_ret;have hO:=O0.i;rw[HSL.i]at hO;exact afd (n:=i) (by rw[kW,bU];exact HN.i.symm) hO HBW.i
end Go.Proofs.YtkjojjopamaoiaaGreat
