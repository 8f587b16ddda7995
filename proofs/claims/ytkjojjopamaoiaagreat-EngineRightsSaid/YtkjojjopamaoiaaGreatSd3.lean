/- Parts. -/
import Derived.Test.YtkjojjopamaoiaaGreatSd1
set_option linter.all false
set_option maxRecDepth 100000
set_option maxHeartbeats 8000000
open Array renaming ext_getElem?->dZ,getElem?_eq_none->aU,size_extract->jJ,getElem?_toList->dG,length_toList->aY,all_eq_true_iff_forall_mem->gG,getElem?_eq_some_iff->bW,size->Array.j,toList->Array.a,getD->Array.b
open Bool renaming and_eq_true->bf
open Go renaming Value->aB,World->ak,Calls->aP,Addr->aT,TypeId->bE,cell_of_row->tN,Ending->lU,setRow_heap->rY,setRow_other->pF,length_splice->vY,bodyPost_ret->aN,heap_alloc_new->Ii,MemPlace->oZ
open Go.Addr renaming add_mid->iJ
open Go.Calls renaming mono->Go.Calls.e
open Go.DataW renaming trod->kY,trod_struct->om,trod_bool->I7,agg->Go.DataW.d
open Go.Ending renaming returned->Go.Ending.a
open Go.Instr renaming loadAt->cK,buildSlice->bM,slice->Go.Instr.a
open Go.IntKind renaming i64->Go.IntKind.a
open Go.Lib renaming hid->ab
open Go.Obj renaming cells->Go.Obj.D
open Go.Op renaming slice->Go.Op.a
open Go.Operand renaming tmp->Go.Operand.a
open Go.Proofs.Tryz renaming prog->ah,underlying30->jm,func140->Dk,ntmps140->Az,func71->Ga,ntmps71->Dl,underlying75->vH
open Go.Result renaming ok->Go.Result.Y
open Go.ResultVar renaming tmp->Go.ResultVar.a
open Go.RowKit renaming Below->aL
open Go.RowKit.Below renaming refl->aG,size->Go.RowKit.Below.j,mono->Go.RowKit.Below.e,setCell->Go.RowKit.Below.F
open Go.RowKit.Hid renaming out->Go.RowKit.Hid.i
open Go.Sem renaming run->Go.Sem.G
open Go.Tables renaming info?->Go.Tables.l
open Go.TypeDesc renaming slice->Go.TypeDesc.a,int->Go.TypeDesc.b,string->Go.TypeDesc.g
open Go.TypeInfo renaming size->Go.TypeInfo.j
open Go.Value renaming int->aI,string->jk,agg->cB,cells->cZ,slice->bC,oneCell'->dx,cells->Go.Value.D,slice->Go.Value.a,int->Go.Value.b,agg->Go.Value.d,tuple->Go.Value.I,oneCell'->Go.Value.h,string->Go.Value.g
open Go.World renaming frozen?->sN,setRow->sH,ownsRow_nil->fu,setCell->iq,heap->Go.World.a,cell?->Go.World.b,setCell->Go.World.F,ownsRow->Go.World.c
open Int renaming toNat->Int.g
open List renaming getElem?_toArray->dW,getElem?_append->kW,take_append_drop->iN,take_append_of_le_length->gJ,length_take->bH,take_of_length_le->aJ,length_drop->jF,getElem?_drop->jq,getElem?_take->jr,size_toArray->dL,drop_of_length_le->gq,eq_nil_of_length_eq_zero->bG,take_take->vX,length_set->aV,getD_eq_getElem?_getD->au,getElem?_eq_none->aS,getElem?_eq_getElem->aC,getElem_of_mem->nD,pairwise_iff_getElem->gy,getElem_mem->fG,mem_append->qJ,mem_cons->bB,pairwise_cons->gT,drop_eq_getElem_cons->kZ,mem_append_left->AQ,foldl_cons->j3,length_map->bV,length->List.a,getD->List.b,toArray->List.c,take->List.d,drop->List.f,below->List.M
open Nat renaming lt_or_ge->aZ,add_comm->kM,le_refl->av,zero_add->bl,min->qI,sub_mul->Bu,mul_le_mul_right->dz,le_of_lt->mX,min_eq_left->oN,le_trans->aO,mul_le_mul->gY,succ_pos->mY,lt_succ_self->mV,eq_zero_or_pos->eu,mod_lt->fE,add_assoc->nP,below->Nat.M
open Option renaming getD->Option.b
open Or renaming inl->Or.a,inr->Or.b
open Vector renaming toList->Vector.a
namespace Go.Proofs.YtkjojjopamaoiaaGreat
open Go.RowKit
@[go_sem]theorem Bk.eB(x:Bk):eB x.ay=27:=Bk.r x
@[go_sem]theorem fC.eB(x:fC):eB x.ay=17:=fC.r x
@[go_sem]theorem Bk.kD(x:Bk):x.ay.extract 0 27=x.ay:=by
 have:=Bk.r x;rw[<-this];simp
@[go_sem]theorem Bk.GV(x:Bk):x.ay.extract 1 18=x.h.ay:=by
 apply dZ;intro j;rcases aZ j 17 with hj|hj
 ·rw[show(18:Nat)=1+17 from rfl,oz x.ay 1 17 j hj (by rw[Bk.r];omega),kM,Bk.Nz x j hj]
 ·rw[aU (by rw[jJ,Bk.r];omega),aU (by rw[fC.r];exact hj)]
structure su where
 kind:Int
 bk:Bk
 E:List UInt8
 w:Nat
def su.ay(o:su):Array aB:=(aI .a o.kind::(o.bk.ay.a++[jk (bP o.E),fv o.w])).c
theorem su.r(o:su):o.ay.j=30:=by simp[su.ay,Bk.r]
@[go_sem]theorem su.eB(o:su):eB o.ay=30:=su.r o
@[go_sem]theorem su.nS(o:su):o.ay[0]? = some (.b .a o.kind):=by simp[su.ay]
theorem su.amk(o:su)(j:Nat)(hj:j<27):o.ay[j+1]? = o.bk.ay[j]?:=by
 simp[su.ay,dW,kW,Bk.r,hj]
@[go_sem]theorem su.DK(o:su):o.ay[1]? = some (.g (bP o.bk.E)):=by rw[su.amk o 0 (by omega),Bk.nS]
@[go_sem]theorem su.aDf(o:su):o.ay[28]? = some (.g (bP o.E)):=by simp[su.ay,dW,kW,Bk.r]
@[go_sem]theorem su.aDg(o:su):o.ay[29]? = some (.float .f64 o.w):=by simp[su.ay,dW,kW,Bk.r,fv]
@[go_sem]theorem su.atU(o:su):o.ay.extract 1 28=o.bk.ay:=by
 apply dZ;intro j;rcases aZ j 27 with hj|hj
 ·rw[show(28:Nat)=1+27 from rfl,oz o.ay 1 27 j hj (by rw[su.r];omega),kM,su.amk o j hj]
 ·rw[aU (by rw[jJ,su.r];omega),aU (by rw[Bk.r];exact hj)]
@[go_sem]theorem su.kD(o:su):o.ay.extract 0 30=o.ay:=by
 have:=su.r o;rw[<-this];simp
def Og(v:aB):Sem aB:=cK 64 v
@[go_sem ↓]theorem atV(v:aB):cK 64 v=Og v:=rfl
@[go_sem]theorem aml(W:ak)(b o:Nat)(h:vK W b o 30):(Og (.pointer (some ⟨b,o,none⟩))).G ah W = .Y (.d (dO W b o 30)) W:=
 jZ W b o 30 _ _ Tryz.underlying64 rfl (by kernel_rfl) h
@[go_sem]theorem ap2(W:ak)(c:Array aB)(x:Bk)(b:Nat)(hb:b=W.a.j)(hc:eB c=27):
 (Kz (.pointer (some ⟨b,0,none⟩)) (.d x.ay)).G ah (W.alloc (.D c 62)) = .Y () (W.alloc (.D x.ay 62)):=by
 subst hb;exact NC W c x hc
def asz(n:Nat)(ps:Array (Nat×aB)):Sem aB:=bM 30 n ps
@[go_sem ↓]theorem ayn(n:Nat)(ps:Array (Nat×aB)):bM 30 n ps=asz n ps:=rfl
@[go_sem]theorem awX(w:ak)(x:Bk):(asz 1 #[(0,.d x.ay)]).G ah w = .Y (.a (some ⟨w.a.j,0,none⟩) 1 1) (w.alloc (.D x.ay 62)):=by
 obtain⟨i0,hi0,hz0,hz1,hzb⟩:=Qq;exact sD w _ _ i0 (.d iO.ay) 27 jm hi0 hz0 hz1 (Bk.r iO) (by omega) (by omega) x.ay (Bk.r x)
def su.who(o:su):List UInt8:=if o.kind=1 then o.bk.E else o.E
def qL(v:Int)(l:List Bk)(o:su):Int:=
 if o.kind<1 then 1 else if 5<o.kind then 1 else if o.kind=1/\o.bk.yh=false then 1 else if o.kind=3/\Gi o.w=false then 1
 else if o.kind=1/\tJ l o.who=true then 6 else if o.kind=1/\1024<=l.a then 7 else if o.kind≠1/\tJ l o.who=false then 5
 else if o.kind=4/\(qD l o.who).drain=true then 6 else if o.kind=5/\(qD l o.who).drain=false then 6 else if 1099511627776<=v then 7 else 0
theorem adA(x:Nat)(hx:x<18446744073709551616)(w:ak):aP ah 170 #[.float .f64 x] w fun e w'=>e=.a (.bool (Gi x))/\w=w':=by
 rw[<-KE hx];exact KD x w
theorem KT(l:List Bk)(hs:GA l)(v:Int)(o:su)(hf:o.bk.oQ)(hw:o.w<18446744073709551616)(A:Option aT)(c:Nat)(w:ak)(hR:Dg w w.a.j A l.a l)(hn:l.a<4611686018427387904):
 aP ah 140 #[.d #[.b .a v,.a A l.a c],.d o.ay] w (fT w (.b .a (qL v l o))):=by
 obtain⟨hf1,hf2⟩:=hf;have HS:=ab hs;have HR1:=ab (fun ob tH=>((hR.alloc (av _) ob).alloc (by simp) tH).lN (B':=((w.alloc ob).alloc tH).a.j) (by simp;omega));have HB0:=ab (fun ob tH=>(((aG w.a.j w).alloc (av _) ob).alloc (by simp) tH:aL w.a.j w ((w.alloc ob).alloc tH)));clear hR hs;have Ck:qL v l o=(if o.kind<1 then 1 else if 5<o.kind then 1 else if o.kind=1/\o.bk.yh=false then 1 else if o.kind=3/\Gi o.w=false then 1
  else if o.kind=1/\tJ l o.who=true then 6 else if o.kind=1/\1024<=l.a then 7 else if o.kind≠1/\tJ l o.who=false then 5
  else if o.kind=4/\(qD l o.who).drain=true then 6 else if o.kind=5/\(qD l o.who).drain=false then 6 else if 1099511627776<=v then 7 else 0):=rfl
 have HW:=ab Ck;clear Ck;by_cases h1:o.kind=1
 ·have hwho:o.who=o.bk.E:=by simp[su.who,h1]
  have afV:=ab hwho;obtain⟨K,hK⟩:=rT o.bk.yh;have hri:=fun W=>ac7 o.bk W hf1 hf2
  rw[hK]at hri;have XV:=ab hri;have HK:=ab hK;have H1:=ab h1;clear hwho hri hK;go_enter Dk,Az;go_wp2_with fail;refine(Cb l HS.i _ v A c _ (HR1.i _ _) hn).e ?_;rintro e w1 ⟨rfl,hb1⟩;obtain⟨hx1,hx2,hx3,hx4,hx5⟩:=U1 hb1;have hz0:w.a.j<w1.a.j:=by simp at hx5;omega
  have hz1:w.a.j+1<w1.a.j:=by simp at hx5;omega
  clear hx5;have HB1:=ab ((HB0.i _ _).trans (hb1.e (by simp;omega)));have HB2:=ab (HB1.i.alloc (by omega) (.D (qD l o.bk.E).ay 62));clear hb1;go_wp2_with fail;refine(XV.i _).e ?_;rintro e w2 ⟨rfl,hb2⟩;obtain⟨hy1,hy2,hy3,hy4,hy5⟩:=U1 hb2;have hz2:w1.a.j<w2.a.j:=by simp at hy5;omega
  have hz3:w.a.j<w2.a.j:=by omega
  have hz4:w.a.j+1<w2.a.j:=by omega
  clear hy5;have HB2:=ab ((HB1.i.alloc (by omega) (.D (qD l o.bk.E).ay 62)).trans (hb2.e (by simp;omega)));clear hb2;cases K
  all_goals
   go_wp2_with fail
  all_goals
   go_ret;exact⟨by rw[HW.i,afV.i,HK.i,H1.i];simp[*];try omega,HB2.i⟩
 have hwho:o.who=o.E:=by simp[su.who,h1]
 have afV:=ab hwho;have H1:=ab h1;clear hwho;have g1:(o.kind==1)=false:=by simpa using h1
 have g1':(o.kind != 1)=true:=by simpa using h1
 rcases(show o.kind<1\/5<o.kind\/o.kind=2\/o.kind=3\/o.kind=4\/o.kind=5 by omega)with h2|h2|h2|h2|h2|h2
 ·clear h1
  go_enter Dk,Az;go_wp2_with fail;refine(Cb l HS.i _ v A c _ (HR1.i _ _) hn).e ?_;rintro e w1 ⟨rfl,hb1⟩;obtain⟨hx1,hx2,hx3,hx4,hx5⟩:=U1 hb1;have hz0:w.a.j<w1.a.j:=by simp at hx5;omega
  have hz1:w.a.j+1<w1.a.j:=by simp at hx5;omega
  clear hx5;have HB1:=ab ((HB0.i _ _).trans (hb1.e (by simp;omega)));have HB2:=ab (HB1.i.alloc (by omega) (.D (qD l o.E).ay 62));clear hb1;go_wp2_with fail;go_ret;exact⟨by rw[HW.i,afV.i];simp[*],HB2.i⟩
 ·clear h1
  have g2:¬o.kind<1:=by omega
  go_enter Dk,Az;go_wp2_with fail;refine(Cb l HS.i _ v A c _ (HR1.i _ _) hn).e ?_;rintro e w1 ⟨rfl,hb1⟩;obtain⟨hx1,hx2,hx3,hx4,hx5⟩:=U1 hb1;have hz0:w.a.j<w1.a.j:=by simp at hx5;omega
  have hz1:w.a.j+1<w1.a.j:=by simp at hx5;omega
  clear hx5;have HB1:=ab ((HB0.i _ _).trans (hb1.e (by simp;omega)));have HB2:=ab (HB1.i.alloc (by omega) (.D (qD l o.E).ay 62));clear hb1;go_wp2_with fail;go_ret;exact⟨by rw[HW.i,afV.i];simp[*],HB2.i⟩
 ·have H2:=ab h2
  clear h1 g1 g1';go_enter Dk,Az;go_wp2_with fail;refine(Cb l HS.i _ v A c _ (HR1.i _ _) hn).e ?_;rintro e w1 ⟨rfl,hb1⟩;obtain⟨hx1,hx2,hx3,hx4,hx5⟩:=U1 hb1;have hz0:w.a.j<w1.a.j:=by simp at hx5;omega
  have hz1:w.a.j+1<w1.a.j:=by simp at hx5;omega
  clear hx5;have HB1:=ab ((HB0.i _ _).trans (hb1.e (by simp;omega)));have HB2:=ab (HB1.i.alloc (by omega) (.D (qD l o.E).ay 62));clear hb1;go_wp2_with fail
  all_goals
   go_ret;exact⟨by rw[HW.i,afV.i,H2.i];clear hx1 hx2 hx3 hx4 HR1 HB0 HB1;first|(simp[*];done)|(simp_all;done)|(simp_all;omega),HB2.i⟩
 ·have H2:=ab h2
  clear h1 g1 g1';go_enter Dk,Az;go_wp2_with fail;refine(Cb l HS.i _ v A c _ (HR1.i _ _) hn).e ?_;rintro e w1 ⟨rfl,hb1⟩;obtain⟨hx1,hx2,hx3,hx4,hx5⟩:=U1 hb1;have hz0:w.a.j<w1.a.j:=by simp at hx5;omega
  have hz1:w.a.j+1<w1.a.j:=by simp at hx5;omega
  clear hx5;have HB1:=ab ((HB0.i _ _).trans (hb1.e (by simp;omega)));have HB2:=ab (HB1.i.alloc (by omega) (.D (qD l o.E).ay 62));clear hb1;go_wp2_with fail;refine(adA o.w hw _).e ?_;rintro e w' ⟨rfl,rfl⟩;go_wp2_with fail
  all_goals
   go_ret;exact⟨by rw[HW.i,afV.i,H2.i];clear hx1 hx2 hx3 hx4 HR1 HB0 HB1;first|(simp[*];done)|(simp_all;done)|(simp_all;omega),HB2.i⟩
 all_goals
  have H2:=ab h2;clear h1 g1 g1';go_enter Dk,Az;go_wp2_with fail;refine(Cb l HS.i _ v A c _ (HR1.i _ _) hn).e ?_;rintro e w1 ⟨rfl,hb1⟩;obtain⟨hx1,hx2,hx3,hx4,hx5⟩:=U1 hb1;have hz0:w.a.j<w1.a.j:=by simp at hx5;omega
  have hz1:w.a.j+1<w1.a.j:=by simp at hx5;omega
  clear hx5;have HB1:=ab ((HB0.i _ _).trans (hb1.e (by simp;omega)));have HB2:=ab (HB1.i.alloc (by omega) (.D (qD l o.E).ay 62));clear hb1;go_wp2_with fail
  all_goals
   go_ret;exact⟨by rw[HW.i,afV.i,H2.i];clear hx1 hx2 hx3 hx4 HR1 HB0 HB1;first|(simp[*];done)|(simp_all;done)|(simp_all;omega),HB2.i⟩
theorem yx(a b:List Bk):dK (a++b)=dK a++dK b:=by simp[dK]
theorem aa4(x:Bk)(b:List Bk):dK (x::b)=x.ay.a++dK b:=by simp[dK]
theorem Oh(l:List Bk)(i:Nat)(hi:i<=l.a):dK (l.d i)=(dK l).d (i*27):=by
 have h:=yx (l.d i) (l.f i);rw[iN]at h;rw[h,gJ (by rw[jH,bH];omega)];exact(aJ (by rw[jH,bH];omega)).symm
theorem Oi(l:List Bk)(i:Nat)(hi:i<=l.a):dK (l.f i)=(dK l).f (i*27):=by
 have h:=yx (l.d i) (l.f i);rw[iN]at h;have hl:(dK (l.d i)).a=i*27:=by rw[jH,bH];omega
 rw[h,<-hl,List.drop_left]
def zW(l:List Bk)(i:Nat)(x:Bk):List Bk:=l.d i++x::l.f i
theorem yA(l:List Bk)(i:Nat)(x:Bk):(zW l i x).a=l.a+1:=by
 simp[zW];omega
theorem JC(l:List Bk)(i:Nat)(x:Bk)(hi:i<=l.a):dK (zW l i x)=(dK l).d (i*27)++x.ay.a++(dK l).f (i*27):=by
 rw[zW,yx,aa4,Oh l i hi,Oi l i hi,List.append_assoc]
theorem aa5(w:ak)(g:Nat)(c:Array aB)(t:bE)(fr:Nat×Nat)(hg:w.a[g]? = some (.D c t fr)):∀j v,c.a[j]? = some v->w.b ((⟨g,0,none⟩:aT).add j)=some v:=fun j v hv=>by
 rw[iJ,tN w g _ c _ _ hg,bl]
 rwa [dG]at hv
def adB(base:Nat)(w:ak)(row:Option Nat)(m:List Bk)(e:lU)(w':ak):Prop:=
 ∃A c,e=.a (.a A m.a c)/\w'.c base 62 27 (.a A m.a c) m.a (dK m)/\w.grownBy w' row
theorem Yf(w:ak)(g g2:Nat)(cur VG:Array aB)(t t2:bE)(hg:w.a[g]? = some (.D cur t (0,0)))(h2:w.a[g2]? = some (.D VG t2 (0,0)))(hne:g≠g2)(hc:cur.j≠0)(o la ca lb cb:Nat):
 (callFunc 210 #[.a (some ⟨g2,0,none⟩) la ca,.a (some ⟨g,o,none⟩) lb cb]).G ah w = .Y (.value (.bool false)) w:=by
 rw[run_callFunc_extern Tryz.func210 (by kernel_rfl) (by kernel_rfl) (by kernel_rfl) (e:=Extern.SlicesOverlaps.overlaps #[30,30] #[4]) (by kernel_rfl)];obtain⟨i0,hi0,hz0,hz1,hzb⟩:=Qq;rw[Lib.run_overlaps_apart w _ _ 62 jm 27 (fun w=>by simp[sizeOf,typeInfo,hi0,hz1]) ⟨g2,0,none⟩ ⟨g,o,none⟩ la ca lb cb (fun e=>hne e.symm) t2 t VG.j cur.j (by simp[World.shape?,h2]) (by simp[World.shape?,hg]) hc (by simp[sN,h2]) (by simp[sN,h2])];rfl
theorem aa6(l:List Bk)(x:Bk)(i:Nat)(hi:i<l.a)(base g c:Nat)(cur:Array aB)(w:ak)(hb:base<=g)(hg:w.a[g]? = some (.D cur 62 (0,0)))(hc:l.a+1<=c)(hcm:c<=maxLen)(hcs:cur.j=c*27)
 (ht:cur.a.d (l.a*27)=dK l) (g2:Nat) (h2:w.a[g2]? = some (.D x.ay 62 (0,0))) (hne:g≠g2) (hn:l.a<=100000) :
 aP ah 141 #[.a (some ⟨g,0,none⟩) l.a c,.b .a i,.a (some ⟨g2,0,none⟩) 1 1] w (adB base w (some g) (zW l i x)):=by
 unfold maxLen at hcm;obtain⟨n,hnl⟩:=bZ l.a;rw[<-hnl]at hi hc hn ht ⊢;have HN:=ab hnl;have HG:=ab (show w.drew.a[g]? = some (.D cur 62 (0,0))from hg);have H2:=ab h2;have HT:=ab ht;have HCS:=ab hcs;have hov:=fun o la ca lb cb=>Yf w g g2 cur x.ay _ _ hg h2 hne (by omega) o la ca lb cb
 have SZ:=ab (show(ah.l 62).map (·.j)=some 27 by kernel_rfl);have M1:=ab (show n-i=qI (n+1-i) (n-i)from(Nat.min_eq_right (by omega)).symm);have M2:=ab (show((dK l).f (i*27)).a=(n-i)*27 by rw[jF,jH,<-hnl,Bu]);have M3:=ab (show∀j v,((dK l).f (i*27))[j]? = some v->w.drew.b ((⟨g,i*27,none⟩:aT).add j)=some v from fun j v hv=>by
  show w.b _=_;rw[iJ,tN w g _ cur _ _ hg];rw[jq]at hv;rw[<-ht,jr]at hv;split at hv
  ·rw[dG]at hv;exact hv
  ·cases hv)
 have M4:=ab (show(i+1)*27+((dK l).f (i*27)).a<=cur.j by rw[M2.i,hcs];have:=dz 27 hc;have:=Bu n i 27;have:=dz 27 (mX hi);omega);have M5:=ab (show∀v∈(dK l).f (i*27),v.h=true from fun v hv=>DN l v (List.mem_of_mem_drop hv));clear hnl hg h2 ht hcs;go_enter Tryz.func141,Tryz.ntmps141;go_wp2_with fail;clear hov;have a1:IntKind.i64.wrap ((i:Int)+1)=(i:Int)+1:=IntWalk.i64_in _ (by omega);have a2:(0:Int)<=(i:Int)+1:=by omega
 have a3:(i:Int)+1<=(n:Int)+1:=by omega
 have a4:((i:Int)+1).g=i+1:=by omega
 have a5:¬c=i+1:=by omega
 have a6:¬c=i:=by omega
 have a7:(i:Int)<=(n:Int)+1:=by omega
 go_region_law (refine Jr rfl (.a 73) (.a 76) _ _ rfl 62 27 jm SZ.i g ((i+1)*27) (n-i) (c-(i+1)) ⟨g,i*27,none⟩ (n+1-i) (c-i) (by kernel_rfl) (by kernel_rfl) cur _ HG.i ((dK l).f (i*27)) (n-i) M1.i M2.i M3.i M4.i M5.i ?_;intro w1 hw1;have HW1:=ab hw1;clear hw1);clear a1 a2 a3 a4 a5 a6 a7;obtain⟨uK,hc1⟩:∃uK:Array aB,uK=(splice cur.a ((i+1)*27) ((dK l).f (i*27))).c:=⟨_,rfl⟩
 have G1:=ab (show w1.a[g]? = some (.D uK 62 (0,0))by rw[HW1.i,hc1];exact rY w.drew g cur _ _ _ HG.i);have G2:=ab (show w1.a[g2]? = some (.D x.ay 62 (0,0))by rw[HW1.i,pF w.drew g g2 _ (fun e=>hne e.symm)];exact H2.i);have G3:=ab (show w.grownBy w1 (some g)by rw[HW1.i];exact⟨rfl,rfl,rfl,by simp[sH],fun k hk hkg=>pF w.drew g k _ (fun e=>hkg (by rw[e]))⟩);have HC1:=ab hc1;clear hc1;have N1:=ab (show 1=qI 1 (n+1-i)from(oN (by omega)).symm);have N2:=ab (show x.ay.a.a=1*27 by rw[aY,Bk.r]);have N3:=ab (show∀j v,x.ay.a[j]? = some v->w1.b ((⟨g2,0,none⟩:aT).add j)=some v from fun j v hv=>by
  rw[iJ,tN w1 g2 _ x.ay _ _ G2.i,bl]
  rwa [dG]at hv)
 have hs1:uK.j=c*27:=by
  rw[HC1.i,dL,vY _ _ _ (by rw[aY];exact M4.i),aY,HCS.i]
 have N4:=ab (show i*27+x.ay.a.a<=uK.j by rw[N2.i,hs1];have:=dz 27 hc;have:=dz 27 (mX hi);omega);have N5:=ab (show∀v∈x.ay.a,v.h=true from fun v hv=>gG.1 (Bk.dw x) v (by simpa using hv));have Ey:=ab hs1;clear hs1;go_wp2_with (refine Fg rfl (.a 80) (.a 81) _ _ rfl 62 27 jm SZ.i g (i*27) (n+1-i) (c-i) ⟨g2,0,none⟩ 1 1 rfl rfl uK _ G1.i x.ay.a 1 N1.i N2.i N3.i N4.i N5.i ?_;intro w2 hw2;have HW2:=ab hw2;clear hw2);go_ret;have hln:=yA l i x;rw[<-HN.i]at hln;refine⟨some ⟨g,0,none⟩,c,by rw[hln];rfl,?_,?_⟩
 ·rw[hln]
  refine⟨by rw[jH,hln],.b ⟨g,c,(splice uK.a (i*27) x.ay.a).c,rfl,hb,?_,hc,by unfold maxLen;omega,?_,?_⟩⟩
  ·rw[HW2.i];exact rY w1 g uK _ _ _ G1.i
  ·rw[dL,vY _ _ _ (by rw[aY];exact N4.i),aY,Ey.i]
  ·rw[JC l i x (by rw[<-HN.i];omega),HC1.i]
   have hx:=HT.i;have hcl:=jH l;rw[<-HN.i]at hcl;have:=aja cur.a (dK l) x.ay.a (i*27) 27 (by rw[hcl];exact hx) (by rw[hcl];omega) (by rw[aY,Bk.r]) (by rw[hcl,aY,HCS.i];omega);rw[hcl]at this;rw[show(n+1)*27=n*27+27 by omega];rw[show(i+1)*27=i*27+27 by omega];exact this
 ·rw[HW2.i]
  refine Ns G3.i ⟨rfl,rfl,rfl,by simp[sH],fun k hk hkg=>pF w1 g k _ (fun e=>hkg (by rw[e]))⟩
theorem afW(l:List Bk)(x:Bk)(i:Nat)(hi:i<l.a)(base g c:Nat)(cur:Array aB)(w:ak)(hbase:base<=w.a.j)(hg:w.a[g]? = some (.D cur 62 (0,0)))(hc:c<l.a+1)(hlc:l.a<=c)(hcs:cur.j=c*27)
 (ht:cur.a.d (l.a*27)=dK l) (g2:Nat) (h2:w.a[g2]? = some (.D x.ay 62 (0,0))) (hn:l.a<=100000) :
 aP ah 141 #[.a (some ⟨g,0,none⟩) l.a c,.b .a i,.a (some ⟨g2,0,none⟩) 1 1] w (adB base w (some g) (zW l i x)):=by
 obtain⟨n,hnl⟩:=bZ l.a;rw[<-hnl]at hi hc hlc hn ht ⊢;have HN:=ab hnl;have HG:=ab hg;have H2:=ab h2;have HT:=ab ht;have HCS:=ab hcs;obtain⟨i0,hi0,hz0,hz1,hzb⟩:=Qq;have HI0:=ab hi0;have HZ0:=ab hz0;have HZ1:=ab hz1;have HZ2:=ab (show(cB iO.ay).D.j=27 by simp[cZ,Bk.r]);have SZ:=ab (show(ah.l 62).map (·.j)=some 27 by kernel_rfl);have hcl:=jH l;rw[<-hnl]at hcl;have HX:=ab (show aI .a ((n:Int)+1-i)=.b .a ((n+1-i:Nat):Int)by congr 1;omega);have L1:=ab (show((dK l).d (i*27)).a=i*27 by rw[bH,hcl];omega);have L2:=ab (show∀j u,((dK l).d (i*27))[j]? = some u->w.b ((⟨g,0,none⟩:aT).add j)=some u from fun j v hv=>by
  rw[iJ,tN w g _ cur _ _ hg,bl];rw[jr]at hv;split at hv
  ·rw[<-ht,jr]at hv
   split at hv
   ·rw[dG]at hv;exact hv
   ·cases hv
  ·cases hv)
 have L3:=ab (show 0<n+1-i by omega);have L4:=ab (show c<i+(n+1-i)by omega);have L5:=ab (show i+(n+1-i)<=maxLen by unfold maxLen;omega);have L6:=ab (show(i+(n+1-i))*i0.bytes<=140737488355328 from aO (gY (show i+(n+1-i)<=100001 by omega) hzb) (by omega));have M1:=ab (show n-i=qI (n-i) (n-i)from(Nat.min_self _).symm);have M2:=ab (show((dK l).f (i*27)).a=(n-i)*27 by rw[jF,hcl,Bu]);have M5:=ab (show∀v∈(dK l).f (i*27),v.h=true from fun v hv=>DN l v (List.mem_of_mem_drop hv));have N1:=ab (show 1=qI 1 (n+1-i)from(oN (by omega)).symm);have N2:=ab (show x.ay.a.a=1*27 by rw[aY,Bk.r]);have N5:=ab (show∀v∈x.ay.a,v.h=true from fun v hv=>gG.1 (Bk.dw x) v (by simpa using hv));have HCL:=ab hcl;have EN:=ab (show i+(n+1-i)=n+1 by omega);have hgl:g<w.a.j:=(bW.1 hg).1;have aDi:g2<w.a.j:=(bW.1 h2).1;clear hnl hg h2 ht hcs hi0 hz0 hz1 hcl;go_enter Tryz.func141,Tryz.ntmps141;go_wp2_with (first
  | (refine Qr rfl (.a 34) (.a 39) _ _ rfl 62 i0 (.d iO.ay) 27 .a .a jm Tryz.underlying3 HI0.i HZ0.i HZ1.i HZ2.i ⟨g,0,none⟩ i c rfl (n+1-i) HX.i ((dK l).d (i*27)) L1.i L2.i L3.i (mY _) L4.i L5.i L6.i ?_
     rw[EN.i];intro c' uK w1 hc1 hc2 hc3 hc4 hc5 hc6;have C2:=ab hc2;have C3:=ab hc3;have C4:=ab hc4;have C6:=ab hc6;have G1:=ab (show w1.a[w.a.j]? = some (.D uK 62 (0,0))from hc5);have Gx:=ab (show w1.a[g2]? = some (.D x.ay 62 (0,0))from(hc6.block g2 aDi).trans H2.i);have Gg:=ab (show w1.a[g]? = some (.D cur 62 (0,0))from(hc6.block g hgl).trans HG.i);have N3:=ab (aa5 w1 g2 x.ay _ _ Gx.i);have N4:=ab (show i*27+x.ay.a.a<=uK.j by rw[N2.i,C3.i];have:=dz 27 hc1;omega);clear hc2 hc3 hc4 hc5 hc6)
  | (refine Fg rfl (.a 43) (.a 44) _ _ rfl 62 27 jm SZ.i w.a.j (i*27) (n+1-i) (c'-i) ⟨g2,0,none⟩ 1 1 rfl rfl uK _ G1.i x.ay.a 1 N1.i N2.i N3.i N4.i N5.i ?_
     intro w2 hw2;have HW2:=ab hw2;clear hw2))
 obtain⟨VG,hc2⟩:∃VG:Array aB,VG=(splice uK.a (i*27) x.ay.a).c:=⟨_,rfl⟩
 have K1:=ab (show w2.drew.a[w.a.j]? = some (.D VG 62 (0,0))by rw[HW2.i,hc2];exact rY w1 w.a.j uK _ _ _ G1.i);have Kg:=ab (show w2.a[g]? = some (.D cur 62 (0,0))by rw[HW2.i,pF w1 w.a.j g _ (by omega)];exact Gg.i);have KB:=ab (show aL w.a.j w w2 by rw[HW2.i];exact C6.i.trans ⟨rfl,rfl,rfl,by simp[sH],fun k hk=>pF w1 w.a.j k _ (by omega)⟩);have hs2:VG.j=c'*27:=by
  rw[hc2,dL,vY _ _ _ (by rw[aY];exact N4.i),aY,C3.i]
 have M3:=ab (show∀j v,((dK l).f (i*27))[j]? = some v->w2.drew.b ((⟨g,i*27,none⟩:aT).add j)=some v from fun j v hv=>by
  show w2.b _=_;rw[iJ,tN w2 g _ cur _ _ Kg.i];rw[jq]at hv;rw[<-HT.i,jr]at hv;split at hv
  ·rw[dG]at hv;exact hv
  ·cases hv)
 have M4:=ab (show(i+1)*27+((dK l).f (i*27)).a<=VG.j by rw[M2.i,hs2];have:=dz 27 hc1;have:=Bu n i 27;have:=dz 27 (mX hi);omega);have HC2:=ab hc2;have HS2:=ab hs2;clear hc2 hs2;have a5:¬c'=i+1:=by omega
 have a6:¬c=i:=by omega
 have a7:(i:Int)<=(n:Int):=by omega
 have a2:(0:Int)<=(i:Int)+1:=by omega
 have a3:(i:Int)+1<=(n:Int)+1:=by omega
 have a4:((i:Int)+1).g=i+1:=by omega
 have a1:IntKind.i64.wrap ((i:Int)+1)=(i:Int)+1:=IntWalk.i64_in _ (by omega);go_region_law (refine Jr rfl (.a 50) (.a 53) _ _ rfl 62 27 jm SZ.i w.a.j ((i+1)*27) (n-i) (c'-(i+1)) ⟨g,i*27,none⟩ (n-i) (c-i) (by kernel_rfl) (by kernel_rfl) VG _ K1.i ((dK l).f (i*27)) (n-i) M1.i M2.i M3.i M4.i M5.i ?_;intro w3 hw3;have HW3:=ab hw3;clear hw3);clear a1 a2 a3 a4 a5 a6 a7;go_wp2_with fail;go_ret;have hln:=yA l i x;rw[<-HN.i]at hln;refine⟨some ⟨w.a.j,0,none⟩,c',by rw[hln];rfl,?_,?_⟩
 ·rw[hln]
  refine⟨by rw[jH,hln],.b ⟨w.a.j,c',(splice VG.a ((i+1)*27) ((dK l).f (i*27))).c,rfl,hbase,?_,hc1,C2.i,?_,?_⟩⟩
  ·rw[HW3.i];exact rY w2.drew w.a.j VG _ _ _ K1.i
  ·rw[dL,vY _ _ _ (by rw[aY];exact M4.i),aY,HS2.i]
  ·rw[JC l i x (by rw[<-HN.i];omega),HC2.i]
   have:=apG uK.a (dK l) x.ay.a (i*27) 27 C4.i (by rw[HCL.i];omega) (by rw[aY,Bk.r]) (by rw[HCL.i,aY,C3.i];omega);rw[HCL.i]at this;rw[show(n+1)*27=n*27+27 by omega,show(i+1)*27=i*27+27 by omega];exact this
 ·rw[HW3.i]
  have hb:=KB.i;exact⟨hb.os,hb.tape,hb.output,by have:=hb.j;simpa[sH]using this,fun k hk hkg=>(pF w2.drew w.a.j k _ (by omega)).trans (hb.block k hk)⟩
theorem ajr(l:List Bk)(x:Bk):dK (zW l l.a x)=dK l++x.ay.a:=by
 rw[JC l l.a x (av _),aJ (by rw[jH];omega),gq (by rw[jH];omega),List.append_nil]
theorem VH(l:List Bk)(x:Bk)(base c:Nat)(A:Option aT)(w:ak)(hbase:base<=w.a.j)(hown:w.c base 62 27 (.a A l.a c) l.a (dK l))(hlc:l.a<=c)(g2:Nat)(h2:w.a[g2]? = some (.D x.ay 62 (0,0)))(hn:l.a<=100000):
 aP ah 141 #[.a A l.a c,.b .a l.a,.a (some ⟨g2,0,none⟩) 1 1] w (adB base w (bC A l.a c).ownBlock (zW l l.a x)):=by
 have hln:=yA l l.a x;have hce:=ajr l x;obtain⟨n,hnl⟩:=bZ l.a;rw[<-hnl]at hln hce hn hlc hown ⊢;obtain⟨m,hm⟩:=bZ (zW l n x);rw[<-hm]at hln hce ⊢;have HLN:=ab hln;have HCE:=ab hce;have HO:=ab hown;obtain⟨i0,hi0,hz0,hz1,hzb⟩:=Qq;have HI0:=ab hi0;have HZ0:=ab hz0;have HZ1:=ab hz1;have HZ2:=ab (show(cB iO.ay).D.j=27 by simp[cZ,Bk.r]);have L5:=ab (show n+1<=maxLen by unfold maxLen;omega);have L6:=ab (show(n+1)*i0.bytes<=140737488355328 from aO (gY (show n+1<=100001 by omega) hzb) (by omega));have HR:=ab (show Rd w (g2+1) 27 (some ⟨g2,0,none⟩) 1 x.ay.a from⟨by rw[aY,Bk.r],fun _=>⟨_,rfl,mV _,aa5 w g2 x.ay _ _ h2⟩⟩);have N5:=ab (show∀v∈x.ay.a,v.h=true from fun v hv=>gG.1 (Bk.dw x) v (by simpa using hv));clear hnl hm hln hce hown hi0 hz0 hz1 h2;have hnn:((n:Int)==(n:Int))=true:=by simp
 go_enter Tryz.func141,Tryz.ntmps141;go_wp2_with (refine jC _ rfl (.a 23) (.a 24) _ rfl base 62 i0 (.d iO.ay) 27 i0.bytes jm HI0.i HZ0.i HZ1.i rfl HZ2.i (mY _) (.a A n c) n (dK l) rfl HO.i (g2+1) (some ⟨g2,0,none⟩) 1 1 x.ay.a rfl HR.i N5.i L5.i L6.i hbase ?_;intro v1 w1 hown1 hg1 xu;have O1:=ab hown1;have GR:=ab hg1;clear hown1 hg1 xu)
 all_goals
  go_ret;obtain⟨A',c',rfl,_,_⟩:=jG O1.i;refine⟨A',c',by rw[HLN.i];rfl,?_,by have:=GR.i;cases A<;>exact this⟩;rw[HLN.i,HCE.i];exact O1.i
def ap3(base:Nat)(w:ak)(A:Option aT)(c:Nat)(l:List Bk)(g2:Nat)(x:Bk):Prop:=
 w.c base 62 27 (.a A l.a c) l.a (dK l)/\w.a[g2]? = some (.D x.ay 62 (0,0))/\(∀g,A=some g->g.block≠g2)/\base<=w.a.j/\l.a<=100000
theorem afY(l:List Bk)(x:Bk)(i:Nat)(hi:i<=l.a)(base c g2:Nat)(A:Option aT)(w:ak)(h:ap3 base w A c l g2 x):
 aP ah 141 #[.a A l.a c,.b .a i,.a (some ⟨g2,0,none⟩) 1 1] w (adB base w (bC A l.a c).ownBlock (zW l i x)):=by
 obtain⟨hown,h2,hne,hb,hn⟩:=h;have hown':=hown;rcases hown.2 with⟨hv,h0⟩|⟨g,cap,cur,hv,hbg,hg,hnc,hcm,hcs,htake⟩
 ·injection hv with e1 e2 e3
  subst e1 e3;obtain rfl:i=l.a:=by omega
  exact VH l x base 0 none w hb hown (by omega) g2 h2 hn
 ·injection hv with e1 e2 e3
  subst e1 e3;rcases aZ i l.a with h1|h1
  ·rcases aZ c (l.a+1)with h3|h3
   ·exact afW l x i h1 base g c cur w hb hg h3 hnc hcs htake g2 h2 hn
   ·exact aa6 l x i h1 base g c cur w hbg hg h3 hcm hcs htake g2 h2 (hne _ rfl) hn
  ·obtain rfl:i=l.a:=by omega
   exact VH l x base c _ w hb hown hnc g2 h2 hn
def Fp(l:List Bk)(i:Nat):List Bk:=l.d i++l.f (i+1)
theorem Oj(l:List Bk)(i:Nat)(hi:i<l.a):(Fp l i).a=l.a-1:=by
 simp[Fp];omega
theorem Sr(l:List Bk)(i:Nat)(hi:i<l.a):dK (Fp l i)=(dK l).d (i*27)++(dK l).f (i*27+27):=by
 rw[Fp,yx,Oh l i (by omega),Oi l (i+1) (by omega),show(i+1)*27=i*27+27 by omega]
theorem afZ(l:List Bk)(i:Nat)(hi:i<l.a)(base g c:Nat)(cur:Array aB)(w:ak)(hb:base<=g)(hg:w.a[g]? = some (.D cur 62 (0,0)))(hc:l.a<=c)(hcm:c<=maxLen)(hcs:cur.j=c*27)
 (ht:cur.a.d (l.a*27)=dK l) (hn:l.a<=100000) :
 aP ah 142 #[.a (some ⟨g,0,none⟩) l.a c,.b .a i,.b .a ((i:Int)+1)] w (adB base w (some g) (Fp l i)):=by
 have hln:=Oj l i hi;have hcl:=jH l;unfold maxLen at hcm;obtain⟨n,hnl⟩:=bZ l.a;rw[<-hnl]at hi hc hn ht hln hcl ⊢;have HN:=ab hnl;have HG:=ab (show w.drew.a[g]? = some (.D cur 62 (0,0))from hg);have HT:=ab ht;have HCS:=ab hcs;have HLN:=ab hln;have HCL:=ab hcl;obtain⟨i0,hi0,hz0,hz1,hzb⟩:=Qq;have HI0:=ab hi0;have HZ0:=ab hz0;have HZ1:=ab hz1;have HZ2:=ab (show(cB iO.ay).D.j=27 by simp[cZ,Bk.r]);have HZ3:=ab (show(cB iO.ay).D.all (·.h)=true from Bk.dw iO);have M2:=ab (show((dK l).f (i*27+27)).a=(n-(i+1))*27 by rw[jF,hcl,Bu];omega);have M3:=ab (show∀j v,((dK l).f (i*27+27))[j]? = some v->w.drew.b ((⟨g,(i+1)*27,none⟩:aT).add j)=some v from fun j v hv=>by
  show w.b _=_;rw[iJ,tN w g _ cur _ _ hg,show(i+1)*27=i*27+27 by omega];rw[jq]at hv;rw[<-ht,jr]at hv;split at hv
  ·rw[dG]at hv;exact hv
  ·cases hv)
 have M4:=ab (show i*27+((dK l).f (i*27+27)).a<=cur.j by rw[M2.i,hcs];have:=dz 27 hc;have:=Bu n (i+1) 27;omega);have M5:=ab (show∀v∈(dK l).f (i*27+27),v.h=true from fun v hv=>DN l v (List.mem_of_mem_drop hv));have M6:=ab (show i+(n-(i+1))<=c by omega);have EN:=ab (show i+(n-(i+1))=n-1 by omega);have M7':=ab (show c=i+1->Hid (∀j v,((dK l).f (i*27+27))[j]? = some v->w.drew.b ((⟨g,0,none⟩:aT).add j)=some v)from fun h=>ab fun j v hv=>by
  have hz:(dK l).f (i*27+27)=[]:=bG (by rw[M2.i,show n-(i+1)=0 by omega,Nat.zero_mul]);rw[hz]at hv;simp at hv)
 have HN1:=ab (show 1<=n by omega);clear hnl hg ht hcs hi0 hz0 hz1 hcl hln;have b1:(i:Int)<=n:=by omega
 have b2:(i:Int)+1<=n:=by omega
 go_enter Tryz.func142,Tryz.ntmps142;go_wp2_with fail;by_cases hci:c=i+1;rotate_left
 ·have a4:((i:Int)+1).g=i+1:=by omega
  have a2:(0:Int)<=(i:Int)+1:=by omega
  have a8:¬c=i:=by omega
  have a9:(i:Int)<=c:=by omega
  go_region_law (refine LW rfl (.a 22) (.a 25) _ rfl 62 i0 27 jm HI0.i HZ1.i g i c ⟨g,(i+1)*27,none⟩ (n-(i+1)) (c-(i+1)) (by kernel_rfl) (by kernel_rfl) cur HG.i ((dK l).f (i*27+27)) M2.i M3.i M5.i M6.i M4.i ?_;intro w1 hw1;rw[EN.i];have HW1:=ab hw1;clear hw1);clear a2 a4 a8 a9;obtain⟨uK,hc1⟩:∃uK:Array aB,uK=(splice cur.a (i*27) ((dK l).f (i*27+27))).c:=⟨_,rfl⟩
  have G1:=ab (show w1.a[g]? = some (.D uK 62 (0,0))by rw[HW1.i,hc1];exact rY w.drew g cur _ _ _ HG.i);have hs1:uK.j=c*27:=by
   rw[hc1,dL,vY _ _ _ (by rw[aY];exact M4.i),aY,HCS.i]
  have E1:=ab (show 0<n-(n-1)by have:=HN1.i;omega);have E2:=ab (show(n-1)*27+(n-(n-1))*27<=uK.j by rw[hs1,show n-(n-1)=1 by have:=HN1.i;omega];have:=HN1.i;omega);have HC1:=ab hc1;have Ey:=ab hs1;clear hc1 hs1;go_wp2_with (refine Fh rfl (.a 31) _ rfl 62 i0 (.d iO.ay) 27 jm HI0.i HZ0.i HZ2.i HZ3.i g ((n-1)*27) (n-(n-1)) (c-(n-1)) rfl E1.i uK _ G1.i E2.i ?_;intro w2 zs hzs hw2;have HW2:=ab hw2;have HZS:=ab hzs;clear hw2 hzs);go_ret;refine⟨some ⟨g,0,none⟩,c,by rw[HLN.i];rfl,?_,?_⟩
  ·rw[HLN.i]
   refine⟨by rw[jH,HLN.i],.b ⟨g,c,(splice uK.a ((n-1)*27) zs).c,rfl,hb,?_,by omega,by unfold maxLen;omega,?_,?_⟩⟩
   ·rw[HW2.i];exact rY w1 g uK _ _ _ G1.i
   ·rw[dL,vY _ _ _ (by rw[aY];have h1:=HZS.i;have h2:=E2.i;first|(rw[h1];exact h2)|(simp only[dL,h1];exact h2)),aY,Ey.i]
   ·rw[Sr l i (by rw[<-HN.i];exact hi)]
    have h1:=YJ cur.a (dK l) (i*27) 27 (by rw[HCL.i];exact HT.i) (by rw[HCL.i];omega);have hcu:uK.a=splice cur.a (i*27) ((dK l).f (i*27+27)):=by rw[HC1.i]
    rw[HCL.i,show n*27-27=(n-1)*27 by omega,<-hcu]at h1;show List.take ((n-1)*27) (splice uK.a ((n-1)*27) zs)=_;rw[splice,gJ (by rw[bH,aY,Ey.i];omega),vX,Nat.min_self];exact h1
  ·rw[HW2.i]
   have hG:w.grownBy w1 (some g):=by rw[HW1.i];exact⟨rfl,rfl,rfl,by simp[sH],fun k hk hkg=>pF w.drew g k _ (fun e=>hkg (by rw[e]))⟩
   refine Ns hG ⟨rfl,rfl,rfl,by simp[sH],fun k hk hkg=>pF w1 g k _ (fun e=>hkg (by rw[e]))⟩
 ·have M3:=M7'.i hci
  have HCI:=ab hci;have a0:(c=i+1)=True:=by simpa using hci
  clear hci;have a4:((i:Int)+1).g=i+1:=by omega
  have a2:(0:Int)<=(i:Int)+1:=by omega
  have a8:¬c=i:=by have:=HCI.i;omega
  have a9:(i:Int)<=c:=by omega
  go_region_law (refine LW rfl (.a 22) (.a 25) _ rfl 62 i0 27 jm HI0.i HZ1.i g i c ⟨g,0,none⟩ (n-(i+1)) (c-(i+1)) (by kernel_rfl) (by kernel_rfl) cur HG.i ((dK l).f (i*27+27)) M2.i M3.i M5.i M6.i M4.i ?_;intro w1 hw1;rw[EN.i];have HW1:=ab hw1;clear hw1);clear a2 a4 a8 a9;obtain⟨uK,hc1⟩:∃uK:Array aB,uK=(splice cur.a (i*27) ((dK l).f (i*27+27))).c:=⟨_,rfl⟩
  have G1:=ab (show w1.a[g]? = some (.D uK 62 (0,0))by rw[HW1.i,hc1];exact rY w.drew g cur _ _ _ HG.i);have hs1:uK.j=c*27:=by
   rw[hc1,dL,vY _ _ _ (by rw[aY];exact M4.i),aY,HCS.i]
  have E1:=ab (show 0<n-(n-1)by have:=HN1.i;omega);have E2:=ab (show(n-1)*27+(n-(n-1))*27<=uK.j by rw[hs1,show n-(n-1)=1 by have:=HN1.i;omega];have:=HN1.i;omega);have HC1:=ab hc1;have Ey:=ab hs1;clear hc1 hs1;go_wp2_with (refine Fh rfl (.a 31) _ rfl 62 i0 (.d iO.ay) 27 jm HI0.i HZ0.i HZ2.i HZ3.i g ((n-1)*27) (n-(n-1)) (c-(n-1)) rfl E1.i uK _ G1.i E2.i ?_;intro w2 zs hzs hw2;have HW2:=ab hw2;have HZS:=ab hzs;clear hw2 hzs);go_ret;refine⟨some ⟨g,0,none⟩,c,by rw[HLN.i];rfl,?_,?_⟩
  ·rw[HLN.i]
   refine⟨by rw[jH,HLN.i],.b ⟨g,c,(splice uK.a ((n-1)*27) zs).c,rfl,hb,?_,by omega,by unfold maxLen;omega,?_,?_⟩⟩
   ·rw[HW2.i];exact rY w1 g uK _ _ _ G1.i
   ·rw[dL,vY _ _ _ (by rw[aY];have h1:=HZS.i;have h2:=E2.i;first|(rw[h1];exact h2)|(simp only[dL,h1];exact h2)),aY,Ey.i]
   ·rw[Sr l i (by rw[<-HN.i];exact hi)]
    have h1:=YJ cur.a (dK l) (i*27) 27 (by rw[HCL.i];exact HT.i) (by rw[HCL.i];omega);have hcu:uK.a=splice cur.a (i*27) ((dK l).f (i*27+27)):=by rw[HC1.i]
    rw[HCL.i,show n*27-27=(n-1)*27 by omega,<-hcu]at h1;show List.take ((n-1)*27) (splice uK.a ((n-1)*27) zs)=_;rw[splice,gJ (by rw[bH,aY,Ey.i];omega),vX,Nat.min_self];exact h1
  ·rw[HW2.i]
   have hG:w.grownBy w1 (some g):=by rw[HW1.i];exact⟨rfl,rfl,rfl,by simp[sH],fun k hk hkg=>pF w.drew g k _ (fun e=>hkg (by rw[e]))⟩
   refine Ns hG ⟨rfl,rfl,rfl,by simp[sH],fun k hk hkg=>pF w1 g k _ (fun e=>hkg (by rw[e]))⟩
def aa7(w:ak)(l:List Bk)(e:lU)(w':ak):Prop:=
 ∃A c,e=.a (.a A l.a c)/\w'.c w.a.j 62 27 (.a A l.a c) l.a (dK l)/\aL w.a.j w w'
theorem xO(l:List Bk)(A:Option aT)(c:Nat)(w:ak)(hR:Dg w w.a.j A l.a l)(hn:l.a<=100000):
 aP ah 61 #[.a A l.a c] w (aa7 w l):=by
 cases A with
 | some a=>exact adf l a c w hR (by omega)
 | none=>
   have h0:l.a=0:=by
    rcases eu l.a with h0|h0
    ·exact h0
    ·obtain⟨a,ha,_⟩:=hR.2.1.2 h0;cases ha
   have hl:l=[]:=bG h0;subst hl;have hnil:∀W:ak,(binOp .eql 30 (.a none 0 c) (.a none 0 0)).G ah W = .Y (.bool true) W:=fun W=>by
    simp only[binOp];simp[run_equal_slice_nil,jm]
   have TN:aa7 w [] (.a (.a none 0 0)) w:=⟨none,0,rfl,fu _ _ _ _,aG _ _⟩
   have FIN:=ab TN;clear TN;clear hR;simp only[List.length_nil];go_enter Tryz.func61,Tryz.ntmps61;go_wp2;go_ret;exact FIN.i
theorem oU{w:ak}{base:Nat}{l:List Bk}{A:Option aT}{c:Nat}(h:w.c base 62 27 (.a A l.a c) l.a (dK l)):Dg w w.a.j A l.a l:=
 ⟨rfl,Rd.iG h,fun a ha _=>by
  rcases h.2 with⟨hv,h0⟩|⟨g,cap,cur,hv,_⟩
  ·injection hv with e1 _ _
   rw[e1]at ha;cases ha
  ·injection hv with e1 _ _
   rw[e1]at ha;injection ha with ha
   rw[<-ha]⟩
theorem JD(l:List Bk)(k:Nat)(hk:k<l.a)(y:Bk)(j:Nat)(hj:j<27)(u:aB)(h:y.ay=(l.b k iO).ay.setIfInBounds j u):(dK l).set (k*27+j) u=dK (l.set k y):=by
 have hs:=Bk.r (l.b k iO);have hlen:=jH l;have VI:=jH (l.set k y);rw[aV]at VI;apply List.ext_getElem?;intro i;rcases aZ i (l.a*27)with h1|h1
 ·have e1:i=i/27*27+i%27:=by omega
  have h2:i/27<l.a:=by omega
  have h3:i%27<27:=fE _ (by omega);have g1:=Jo l (i/27) (i%27) h2 h3;have g2:=Jo (l.set k y) (i/27) (i%27) (by rw[aV];exact h2) h3;rw[<-e1]at g1 g2;rw[g2,List.getElem?_set,hlen];by_cases h4:i/27=k
  ·have e2:(l.set k y).b (i/27) iO=y:=by
    rw[au,h4,List.getElem?_set_self hk];rfl
   rw[e2,h,Array.getElem?_setIfInBounds,hs];by_cases h5:j=i%27
   ·have:k*27+j=i:=by omega
    simp[h5,h3];rw[if_pos (by omega),if_pos (by omega)]
   ·have:¬k*27+j=i:=by omega
    rw[if_neg this,if_neg h5,g1,h4]
  ·have e2:(l.set k y).b (i/27) iO=l.b (i/27) iO:=by
    rw[au,au,List.getElem?_set_ne (fun e=>h4 e.symm)]
   have:¬k*27+j=i:=by omega
   rw[if_neg this,e2,g1]
 ·rw[aS (by rw[aV,hlen];exact h1),aS (by rw[VI];exact h1)]
theorem aa8{v:Int}{l:List Bk}{o:su}(h:qL v l o=0):1<=o.kind/\o.kind<=5/\v<1099511627776/\(o.kind=1->o.bk.yh=true/\tJ l o.bk.E=false/\l.a<1024)/\(o.kind=3->Gi o.w=true)/\(o.kind≠1->tJ l o.E=true):=by
 unfold qL at h
 repeat' split at h
 all_goals first|(exact absurd h (by decide))|skip
 rename_i h1 h2 h3 h4 h5 h6 h7 h8 h9 h10;refine⟨by omega,by omega,by omega,fun hk=>⟨?_,?_,?_⟩,fun hk=>?_,fun hk=>?_⟩
 ·simpa[hk]using h3
 ·simpa[hk,su.who]using h5
 ·simp[hk]at h6;omega
 ·simpa[hk]using h4
 ·simpa[hk,su.who]using h7
def QZ(l:List Bk)(o:su):List Bk:=
 if o.kind=1 then zW l (kN l o.bk.E) (o.bk.Qd (kg o.bk.w))
 else if o.kind=2 then Fp l (kN l o.E)
 else if o.kind=3 then l.set (kN l o.E) ((qD l o.E).Qd (kg o.w))
 else l.set (kN l o.E) ((qD l o.E).toD (o.kind==4))
def VJ(w:ak)(v:Int)(l:List Bk)(er:Int)(e:lU)(w':ak):Prop:=
 ∃A c,e=.a (.I #[.d #[.b .a v,.a A l.a c],.b .a er])/\w'.c w.a.j 62 27 (.a A l.a c) l.a (dK l)/\aL w.a.j w w'
theorem Fq{fn:Func}{p u:Tmp}(h:fn.results = #[.cell p 32,.a u])(tmps:Array aB)(W:ak)(b o:Nat)(hp:tmps.b p undef=.pointer (some ⟨b,o,none⟩))(hh:vK W b o 2):
 (results fn tmps).G ah W = .Y (.I #[.d (dO W b o 2),tmps.b u undef]) W:=by
 have hl:=jZ W b o 2 _ _ Tryz.underlying32 rfl (by kernel_rfl) hh;simp only[cK,Instr.sureAddr,Sem.run_bind,Sem.run_pure,Result.andThen_ok]at hl;rw[results_cell_tmp h,hp];simp[asAddr,Result.andThen,hl]
theorem atX(l:List Bk)(hs:GA l)(v:Int)(o:su)(hf:o.bk.oQ)(hw:o.w<18446744073709551616)(Ck:qL v l o≠0)(A:Option aT)(c:Nat)(w:ak)(hR:Dg w w.a.j A l.a l)(hn:l.a<=100000):
 aP ah 71 #[.d #[.b .a v,.a A l.a c],.d o.ay] w (VJ w v l (qL v l o)):=by
 have HS:=ab hs;have HR1:=ab (fun ob tH Im=>(((hR.alloc (av _) ob).alloc (by simp) tH).alloc (by simp;omega) Im).lN (B':=(((w.alloc ob).alloc tH).alloc Im).a.j) (by simp;omega));have HB0:=ab (fun ob tH Im=>((((aG w.a.j w).alloc (av _) ob).alloc (by simp) tH).alloc (by simp;omega) Im:aL w.a.j w (((w.alloc ob).alloc tH).alloc Im)));obtain⟨K,hK⟩:=rT (qL v l o);have Qe:=fun A c W (hR:Dg W W.a.j A l.a l)=>KT l hs v o hf hw A c W hR (by omega)
 rw[hK]at Ck Qe ⊢;have Ol:=ab Qe;clear hR hs Qe hK;have hk0:(K != 0)=true:=by simpa using Ck
 clear Ck;go_enter Ga,Dl;go_wp2_with fail;refine(xO l A c _ (HR1.i _ _ _) hn).e ?_;rintro e w1 ⟨A1,c1,rfl,ho1,hb1⟩;have b0:=(((dM.new w _ _).alloc _).alloc _).M hb1 (by simp;omega);have b1:=((dM.TJ w _ _ _).alloc _).M hb1 (by simp);have b2:=(dM.aiK w _ _ _ _).M hb1 (by simp);have hz1:w.a.j+2<w1.a.j:=b2.lt;have O1:=ab (iH ho1 (show w.a.j+3<=_ by simp));have HB1:=ab ((HB0.i _ _ _).trans (hb1.e (by simp;omega)));clear ho1 hb1;obtain⟨x1,x2,x3,x4⟩:=b0.J;obtain⟨y1,y2,y3,y4⟩:=b1.J;have B0:=ab b0;have B1:=ab b1;have B2:=ab b2;clear b0 b1 b2;go_wp2_with fail;refine(Ol.i A1 c1 _ (oU (jR O1.i (by simp) _))).e ?_;rintro e w2 ⟨rfl,hb2⟩;have hsz:(w1.F ⟨w.a.j,1,none⟩ (bC A1 l.a c1)).a.j=w1.a.j:=by simp[iq]
 have b0:=(B0.i.eX 1 (bC A1 l.a c1)).M hb2 (by rw[hsz];omega);have b2:=(B2.i.dP ⟨w.a.j,1,none⟩ (bC A1 l.a c1) (by simp)).M hb2 (by rw[hsz];omega);have O2:=ab (jE (jR O1.i (by simp) _) hb2);have HB2:=ab ((HB1.i.F (av _) _).trans (hb2.e (by rw[hsz];omega)));clear hb2 hsz x1 x2 x3 x4 y1 y2 y3 y4;obtain⟨x1,x2,x3,x4⟩:=b0.J;obtain⟨y1,y2,y3,y4⟩:=b2.J;have B0:=ab b0;have B2:=ab b2;clear b0 b2;go_wp2_with fail;have b2:=(B2.i.eX 0 (.b .a v)).eX 1 (.a A1 l.a c1);obtain⟨z1,z2,z3,z4⟩:=b2.J;have hZ:=z3 0 2 (av _);refine aN (Fq rfl _ _ _ _ rfl (by rw[hZ];trivial)) rfl ⟨A1,c1,?_,iH (jR (jR O2.i (by simp) _) (by simp) _) (by omega),(HB2.i.F (show w.a.j<=w.a.j+2 by omega) _).F (show w.a.j<=w.a.j+2 by omega) _⟩;rw[z4 0 2 (av _)];rfl
theorem ap4(l:List Bk)(s:List UInt8):kN l s<=l.a:=by
 unfold kN;exact(List.takeWhile_sublist _).length_le
theorem atY(l:List Bk)(hs:GA l)(v:Int)(hv : -9223372036854775808<=v/\v<9223372036854775807)(o:su)(hf:o.bk.oQ)(hw:o.w<18446744073709551616)(Ck:qL v l o=0)(h1:o.kind=1)(A:Option aT)(c:Nat)(w:ak)(hR:Dg w w.a.j A l.a l)(hn:l.a<=100000):
 aP ah 71 #[.d #[.b .a v,.a A l.a c],.d o.ay] w (VJ w (v+1) (zW l (kN l o.bk.E) (o.bk.Qd (kg o.bk.w))) 0):=by
 have HS:=ab hs;have HR1:=ab (fun ob tH Im=>(((hR.alloc (av _) ob).alloc (by simp) tH).alloc (by simp;omega) Im).lN (B':=(((w.alloc ob).alloc tH).alloc Im).a.j) (by simp;omega));have HB0:=ab (fun ob tH Im=>((((aG w.a.j w).alloc (av _) ob).alloc (by simp) tH).alloc (by simp;omega) Im:aL w.a.j w (((w.alloc ob).alloc tH).alloc Im)));have Qe:=fun A c W (hR:Dg W W.a.j A l.a l)=>KT l hs v o hf hw A c W hR (by omega)
 rw[Ck]at Qe;have Ol:=ab Qe;clear hR hs Qe Ck;obtain⟨hv1,hv2⟩:=hv;go_enter Ga,Dl;go_wp2_with fail;refine(xO l A c _ (HR1.i _ _ _) hn).e ?_;rintro e w1 ⟨A1,c1,rfl,ho1,hb1⟩;have b0:=(((dM.new w _ _).alloc _).alloc _).M hb1 (by simp;omega);have b1:=((dM.TJ w _ _ _).alloc _).M hb1 (by simp);have b2:=(dM.aiK w _ _ _ _).M hb1 (by simp);have hz1:w.a.j+2<w1.a.j:=b2.lt;have O1:=ab (iH ho1 (show w.a.j+3<=_ by simp));have HB1:=ab ((HB0.i _ _ _).trans (hb1.e (by simp;omega)));clear ho1 hb1;obtain⟨x1,x2,x3,x4⟩:=b0.J;obtain⟨y1,y2,y3,y4⟩:=b1.J;have B0:=ab b0;have B1:=ab b1;have B2:=ab b2;clear b0 b1 b2;go_wp2_with fail;refine(Ol.i A1 c1 _ (oU (jR O1.i (by simp) _))).e ?_;rintro e w2 ⟨rfl,hb2⟩;have hsz:(w1.F ⟨w.a.j,1,none⟩ (bC A1 l.a c1)).a.j=w1.a.j:=by simp[iq]
 have b0:=(B0.i.eX 1 (bC A1 l.a c1)).M hb2 (by rw[hsz];omega);have b1:=(B1.i.dP ⟨w.a.j,1,none⟩ (bC A1 l.a c1) (by simp)).M hb2 (by rw[hsz];omega);have b2:=(B2.i.dP ⟨w.a.j,1,none⟩ (bC A1 l.a c1) (by simp)).M hb2 (by rw[hsz];omega);have O2:=ab (jE (jR O1.i (by simp) _) hb2);have HB2:=ab ((HB1.i.F (av _) _).trans (hb2.e (by rw[hsz];omega)));have hz2:w.a.j+2<w2.a.j:=b2.lt;have ap5:w.a.j+1<w2.a.j:=b1.lt;have ap6:w.a.j<w2.a.j:=b0.lt;clear hb2 hsz x1 x2 x3 x4 y1 y2 y3 y4 hz1 HB1 O1 HR1 Ol;obtain⟨x1,x2,x3,x4⟩:=b0.J;obtain⟨y1,y2,y3,y4⟩:=b1.J;have B0:=ab b0;have B1:=ab b1;have B2:=ab b2;clear b0 b1 b2;go_wp2_with fail;refine(zG _ _).e ?_;rintro e w' ⟨rfl,rfl⟩;go_wp2_with fail;refine(Mw l HS.i o.bk.E (v+1) A1 c1 _ (oU (vM (jR O2.i (by simp) _) _)) (by omega)).e ?_;rintro e w3 ⟨rfl,hb3⟩;have hsz:((w2.F ⟨w.a.j,0,none⟩ (aI .a (v+1))).alloc (.D (o.bk.Qd (kg o.bk.w)).ay 62)).a.j=w2.a.j+1:=by simp[iq]
 have b0:=((B0.i.eX 0 (aI .a (v+1))).alloc (.D (o.bk.Qd (kg o.bk.w)).ay 62)).M hb3 (by rw[hsz];omega);have b2:=((B2.i.dP ⟨w.a.j,0,none⟩ (aI .a (v+1)) (by simp)).alloc (.D (o.bk.Qd (kg o.bk.w)).ay 62)).M hb3 (by rw[hsz];omega);have b3:=(dM.new (w2.F ⟨w.a.j,0,none⟩ (aI .a (v+1))) (o.bk.Qd (kg o.bk.w)).ay 62).M hb3 (by simp);rw[show(w2.F ⟨w.a.j,0,none⟩ (aI .a (v+1))).a.j=w2.a.j by simp[iq]]at b3;have O3:=ab (jE (vM (jR O2.i (by simp) _) (.D (o.bk.Qd (kg o.bk.w)).ay 62)) hb3);have HB3:=ab (((HB2.i.F (av _) (aI .a (v+1))).alloc (by simp[iq];omega) (.D (o.bk.Qd (kg o.bk.w)).ay 62)).trans (hb3.e (by rw[hsz];omega)));have hz3:w2.a.j<w3.a.j:=b3.lt;clear hb3 hsz x1 x2 x3 x4 y1 y2 y3 y4 HB2 O2;obtain⟨x1,x2,x3,x4⟩:=b0.J;obtain⟨z1,z2,z3,z4⟩:=b3.J;have B0:=ab b0;have B2:=ab b2;have B3:=ab b3;clear b0 b2 b3;go_wp2_with fail;have hli:kN l o.bk.E<=l.a:=ap4 l _;have hrow:∀k,(bC A1 l.a c1).ownBlock=some k->w.a.j+3<=k:=fun k hk=>(O3.i.lt k hk).1
 refine(afY l (o.bk.Qd (kg o.bk.w)) (kN l o.bk.E) hli (w.a.j+3) c1 w3.a.j A1 _ ⟨vM O3.i _,Ii w3 _,fun g hg=>?_,by simp;omega,hn⟩).e ?_
 ·have:=(O3.i.lt g.block (by rw[hg];rfl)).2
  omega
 rintro e w4 ⟨A4,c4,rfl,ho4,hg4⟩;have b0:=(B0.i.alloc (.D (o.bk.Qd (kg o.bk.w)).ay 62)).grown hg4 (fun e=>by have:=hrow _ e.symm;omega);have b2:=(B2.i.alloc (.D (o.bk.Qd (kg o.bk.w)).ay 62)).grown hg4 (fun e=>by have:=hrow _ e.symm;omega);have O4:=ab ho4;have hz4:w.a.j+2<w4.a.j:=b2.lt;have HB4:=ab ((HB3.i.alloc (by omega) (.D (o.bk.Qd (kg o.bk.w)).ay 62)).grown hg4 (by simp;omega) (fun k hk=>by have:=hrow k hk;omega));have hil:=yA l (kN l o.bk.E) (o.bk.Qd (kg o.bk.w));obtain⟨l4,hl4⟩:=bZ (zW l (kN l o.bk.E) (o.bk.Qd (kg o.bk.w)));rw[<-hl4]at ho4 O4 ⊢;have HL4:=ab hl4;clear hg4 ho4 x1 x2 x3 x4 z1 z2 z3 z4 HB3 O3 hl4 hil;obtain⟨x1,x2,x3,x4⟩:=b0.J;obtain⟨y1,y2,y3,y4⟩:=b2.J;have B0:=ab b0;have B2:=ab b2;clear b0 b2;go_wp2_with fail;have b2:=(B2.i.dP ⟨w.a.j,1,none⟩ (.a A4 l4.a c4) (by simp)).eX 0 (.b .a (v+1)) |>.eX 1 (.a A4 l4.a c4)
 obtain⟨z1,z2,z3,z4⟩:=b2.J;have hl4:=HL4.i;subst hl4;have hZ:=z3 0 2 (av _);refine aN (Fq rfl _ _ _ _ rfl (by rw[hZ];trivial)) rfl ⟨A4,c4,?_,iH (base:=w.a.j+3) (jR (jR (jR O4.i (show w.a.j<w.a.j+3 by omega) _) (show w.a.j+2<w.a.j+3 by omega) _) (show w.a.j+2<w.a.j+3 by omega) _) (by omega),((HB4.i.F (av _) _).F (show w.a.j<=w.a.j+2 by omega) _).F (show w.a.j<=w.a.j+2 by omega) _⟩;rw[z4 0 2 (av _)];rfl
theorem yB{l:List Bk}{s:List UInt8}(h:tJ l s=true):kN l s<l.a:=by
 unfold tJ at h;simp at h;exact h.1
theorem atZ(l:List Bk)(hs:GA l)(v:Int)(hv : -9223372036854775808<=v/\v<9223372036854775807)(o:su)(hf:o.bk.oQ)(hw:o.w<18446744073709551616)(Ck:qL v l o=0)(h1:o.kind=2)(hn0:tJ l o.E=true)(A:Option aT)(c:Nat)(w:ak)(hR:Dg w w.a.j A l.a l)(hn:l.a<=100000):
 aP ah 71 #[.d #[.b .a v,.a A l.a c],.d o.ay] w (VJ w (v+1) (Fp l (kN l o.E)) 0):=by
 have HS:=ab hs;have HR1:=ab (fun ob tH Im=>(((hR.alloc (av _) ob).alloc (by simp) tH).alloc (by simp;omega) Im).lN (B':=(((w.alloc ob).alloc tH).alloc Im).a.j) (by simp;omega));have HB0:=ab (fun ob tH Im=>((((aG w.a.j w).alloc (av _) ob).alloc (by simp) tH).alloc (by simp;omega) Im:aL w.a.j w (((w.alloc ob).alloc tH).alloc Im)));have Qe:=fun A c W (hR:Dg W W.a.j A l.a l)=>KT l hs v o hf hw A c W hR (by omega)
 rw[Ck]at Qe;have Ol:=ab Qe;clear hR hs Qe Ck;obtain⟨hv1,hv2⟩:=hv;have hli:=yB hn0;have hin:((kN l o.E:Nat):Int)<(l.a:Nat):=by omega
 clear hn0;go_enter Ga,Dl;go_wp2_with fail;refine(xO l A c _ (HR1.i _ _ _) hn).e ?_;rintro e w1 ⟨A1,c1,rfl,ho1,hb1⟩;have b0:=(((dM.new w _ _).alloc _).alloc _).M hb1 (by simp;omega);have b1:=((dM.TJ w _ _ _).alloc _).M hb1 (by simp);have b2:=(dM.aiK w _ _ _ _).M hb1 (by simp);have hz1:w.a.j+2<w1.a.j:=b2.lt;have O1:=ab (iH ho1 (show w.a.j+3<=_ by simp));have HB1:=ab ((HB0.i _ _ _).trans (hb1.e (by simp;omega)));clear ho1 hb1;obtain⟨x1,x2,x3,x4⟩:=b0.J;obtain⟨y1,y2,y3,y4⟩:=b1.J;have B0:=ab b0;have B1:=ab b1;have B2:=ab b2;clear b0 b1 b2;go_wp2_with fail;refine(Ol.i A1 c1 _ (oU (jR O1.i (by simp) _))).e ?_;rintro e w2 ⟨rfl,hb2⟩;have hsz:(w1.F ⟨w.a.j,1,none⟩ (bC A1 l.a c1)).a.j=w1.a.j:=by simp[iq]
 have b0:=(B0.i.eX 1 (bC A1 l.a c1)).M hb2 (by rw[hsz];omega);have b1:=(B1.i.dP ⟨w.a.j,1,none⟩ (bC A1 l.a c1) (by simp)).M hb2 (by rw[hsz];omega);have b2:=(B2.i.dP ⟨w.a.j,1,none⟩ (bC A1 l.a c1) (by simp)).M hb2 (by rw[hsz];omega);have O2:=ab (jE (jR O1.i (by simp) _) hb2);have HB2:=ab ((HB1.i.F (av _) _).trans (hb2.e (by rw[hsz];omega)));have hz2:w.a.j+2<w2.a.j:=b2.lt;have ap5:w.a.j+1<w2.a.j:=b1.lt;have ap6:w.a.j<w2.a.j:=b0.lt;clear hb2 hsz x1 x2 x3 x4 y1 y2 y3 y4 hz1 HB1 O1 HR1 Ol;obtain⟨x1,x2,x3,x4⟩:=b0.J;obtain⟨y1,y2,y3,y4⟩:=b1.J;have B0:=ab b0;have B1:=ab b1;have B2:=ab b2;clear b0 b1 b2;go_wp2_with fail;refine(Mw l HS.i o.E (v+1) A1 c1 _ (oU (jR O2.i (by simp) _)) (by omega)).e ?_;rintro e w3 ⟨rfl,hb3⟩;have hsz:(w2.F ⟨w.a.j,0,none⟩ (aI .a (v+1))).a.j=w2.a.j:=by simp[iq]
 have b0:=(B0.i.eX 0 (aI .a (v+1))).M hb3 (by rw[hsz];omega);have b1:=(B1.i.dP ⟨w.a.j,0,none⟩ (aI .a (v+1)) (by simp)).M hb3 (by rw[hsz];omega);have b2:=(B2.i.dP ⟨w.a.j,0,none⟩ (aI .a (v+1)) (by simp)).M hb3 (by rw[hsz];omega);have ho3:=jE (jR O2.i (show w.a.j<w.a.j+3 by omega) (aI .a (v+1))) hb3;have HB3:=ab ((HB2.i.F (av _) (aI .a (v+1))).trans (hb3.e (by rw[hsz];omega)));obtain⟨g,hA1⟩:∃g,A1=some ⟨g,0,none⟩:=by
  rcases ho3.2 with⟨hv,h0⟩|⟨g,cap,cur,hv,_⟩
  ·omega
  ·injection hv with e1 _ _
   exact⟨g,e1⟩
 subst hA1;have hgb:w.a.j+3<=g:=(ho3.lt g rfl).1;have hgl:g<w3.a.j:=(ho3.lt g rfl).2;obtain⟨bb,oo,Vj,_,hcc⟩:=(oU ho3).cell hli;injection Vj with Vj
 injection Vj with e1 e2
 subst e1 e2;have O3:=ab ho3;have hz3:w.a.j<w3.a.j:=b0.lt;have at1:w.a.j+1<w3.a.j:=b1.lt;have hz32:w.a.j+2<w3.a.j:=b2.lt;clear hb3 hsz x1 x2 x3 x4 y1 y2 y3 y4 HB2 O2 ho3;obtain⟨x1,x2,x3,x4⟩:=b0.J;obtain⟨y1,y2,y3,y4⟩:=b1.J;obtain⟨u1,u2,u3,u4⟩:=b2.J;have B0:=ab b0;have B2:=ab b2;clear b0 b1 b2;clear hcc;go_wp2_with fail;rcases O3.i.2 with⟨hv,h0⟩|⟨g',cap,cur,hv,q2,q3,q4,q5,q6,q7⟩
 ·cases hv
 injection hv with e1 e2 e3
 injection e1 with e1
 injection e1 with e1
 subst e1 e3;refine(afZ l (kN l o.E) hli (w.a.j+3) g c1 cur _ q2 q3 q4 q5 q6 q7 hn).e ?_;rintro e w4 ⟨A4,c4,rfl,ho4,hg4⟩;have b0:=B0.i.grown hg4 (fun e=>by injection e with e;omega);have b2:=B2.i.grown hg4 (fun e=>by injection e with e;omega);have hz4:w.a.j+2<w4.a.j:=b2.lt;have HB4:=ab (HB3.i.grown hg4 (by omega) (fun k hk=>by injection hk with hk;omega));obtain⟨l4,hl4⟩:=bZ (Fp l (kN l o.E));rw[<-hl4]at ho4 ⊢;have O4:=ab ho4;have HL4:=ab hl4;clear hg4 ho4 x1 x2 x3 x4 y1 y2 y3 y4 u1 u2 u3 u4 HB3 O3 hl4 q3 q6 q7;obtain⟨x1,x2,x3,x4⟩:=b0.J;obtain⟨y1,y2,y3,y4⟩:=b2.J;have B0:=ab b0;have B2:=ab b2;clear b0 b2;go_wp2_with fail;have b2:=(B2.i.dP ⟨w.a.j,1,none⟩ (.a A4 l4.a c4) (by simp)).eX 0 (.b .a (v+1)) |>.eX 1 (.a A4 l4.a c4)
 obtain⟨z1,z2,z3,z4⟩:=b2.J;have hl4:=HL4.i;subst hl4;have hZ:=z3 0 2 (av _);refine aN (Fq rfl _ _ _ _ rfl (by rw[hZ];trivial)) rfl ⟨A4,c4,?_,iH (base:=w.a.j+3) (jR (jR (jR O4.i (show w.a.j<w.a.j+3 by omega) _) (show w.a.j+2<w.a.j+3 by omega) _) (show w.a.j+2<w.a.j+3 by omega) _) (by omega),((HB4.i.F (av _) _).F (show w.a.j<=w.a.j+2 by omega) _).F (show w.a.j<=w.a.j+2 by omega) _⟩;rw[z4 0 2 (av _)];rfl
theorem ajs(l:List Bk)(hs:GA l)(v:Int)(hv : -9223372036854775808<=v/\v<9223372036854775807)(o:su)(hf:o.bk.oQ)(hw:o.w<18446744073709551616)(Ck:qL v l o=0)(h1:o.kind=3)(hn0:tJ l o.E=true)(A:Option aT)(c:Nat)(w:ak)(hR:Dg w w.a.j A l.a l)(hn:l.a<=100000):
 aP ah 71 #[.d #[.b .a v,.a A l.a c],.d o.ay] w (VJ w (v+1) (l.set (kN l o.E) ((qD l o.E).Qd (kg o.w))) 0):=by
 have HS:=ab hs;have HR1:=ab (fun ob tH Im=>(((hR.alloc (av _) ob).alloc (by simp) tH).alloc (by simp;omega) Im).lN (B':=(((w.alloc ob).alloc tH).alloc Im).a.j) (by simp;omega));have HB0:=ab (fun ob tH Im=>((((aG w.a.j w).alloc (av _) ob).alloc (by simp) tH).alloc (by simp;omega) Im:aL w.a.j w (((w.alloc ob).alloc tH).alloc Im)));have Qe:=fun A c W (hR:Dg W W.a.j A l.a l)=>KT l hs v o hf hw A c W hR (by omega)
 rw[Ck]at Qe;have Ol:=ab Qe;clear hR hs Qe Ck;obtain⟨hv1,hv2⟩:=hv;have hli:=yB hn0;have hin:((kN l o.E:Nat):Int)<(l.a:Nat):=by omega
 have HG:=ab (Fe hn0);clear hn0;go_enter Ga,Dl;go_wp2_with fail;refine(xO l A c _ (HR1.i _ _ _) hn).e ?_;rintro e w1 ⟨A1,c1,rfl,ho1,hb1⟩;have b0:=(((dM.new w _ _).alloc _).alloc _).M hb1 (by simp;omega);have b1:=((dM.TJ w _ _ _).alloc _).M hb1 (by simp);have b2:=(dM.aiK w _ _ _ _).M hb1 (by simp);have hz1:w.a.j+2<w1.a.j:=b2.lt;have O1:=ab (iH ho1 (show w.a.j+3<=_ by simp));have HB1:=ab ((HB0.i _ _ _).trans (hb1.e (by simp;omega)));clear ho1 hb1;obtain⟨x1,x2,x3,x4⟩:=b0.J;obtain⟨y1,y2,y3,y4⟩:=b1.J;have B0:=ab b0;have B1:=ab b1;have B2:=ab b2;clear b0 b1 b2;go_wp2_with fail;refine(Ol.i A1 c1 _ (oU (jR O1.i (by simp) _))).e ?_;rintro e w2 ⟨rfl,hb2⟩;have hsz:(w1.F ⟨w.a.j,1,none⟩ (bC A1 l.a c1)).a.j=w1.a.j:=by simp[iq]
 have b0:=(B0.i.eX 1 (bC A1 l.a c1)).M hb2 (by rw[hsz];omega);have b1:=(B1.i.dP ⟨w.a.j,1,none⟩ (bC A1 l.a c1) (by simp)).M hb2 (by rw[hsz];omega);have b2:=(B2.i.dP ⟨w.a.j,1,none⟩ (bC A1 l.a c1) (by simp)).M hb2 (by rw[hsz];omega);have O2:=ab (jE (jR O1.i (by simp) _) hb2);have HB2:=ab ((HB1.i.F (av _) _).trans (hb2.e (by rw[hsz];omega)));have hz2:w.a.j+2<w2.a.j:=b2.lt;have ap5:w.a.j+1<w2.a.j:=b1.lt;have ap6:w.a.j<w2.a.j:=b0.lt;clear hb2 hsz x1 x2 x3 x4 y1 y2 y3 y4 hz1 HB1 O1 HR1 Ol;obtain⟨x1,x2,x3,x4⟩:=b0.J;obtain⟨y1,y2,y3,y4⟩:=b1.J;have B0:=ab b0;have B1:=ab b1;have B2:=ab b2;clear b0 b1 b2;go_wp2_with fail;refine(Mw l HS.i o.E (v+1) A1 c1 _ (oU (jR O2.i (by simp) _)) (by omega)).e ?_;rintro e w3 ⟨rfl,hb3⟩;have hsz:(w2.F ⟨w.a.j,0,none⟩ (aI .a (v+1))).a.j=w2.a.j:=by simp[iq]
 have b0:=(B0.i.eX 0 (aI .a (v+1))).M hb3 (by rw[hsz];omega);have b1:=(B1.i.dP ⟨w.a.j,0,none⟩ (aI .a (v+1)) (by simp)).M hb3 (by rw[hsz];omega);have b2:=(B2.i.dP ⟨w.a.j,0,none⟩ (aI .a (v+1)) (by simp)).M hb3 (by rw[hsz];omega);have ho3:=jE (jR O2.i (show w.a.j<w.a.j+3 by omega) (aI .a (v+1))) hb3;have HB3:=ab ((HB2.i.F (av _) (aI .a (v+1))).trans (hb3.e (by rw[hsz];omega)));obtain⟨g,hA1⟩:∃g,A1=some ⟨g,0,none⟩:=by
  rcases ho3.2 with⟨hv,h0⟩|⟨g,cap,cur,hv,_⟩
  ·omega
  ·injection hv with e1 _ _
   exact⟨g,e1⟩
 subst hA1;have hgb:w.a.j+3<=g:=(ho3.lt g rfl).1;have hgl:g<w3.a.j:=(ho3.lt g rfl).2;obtain⟨bb,oo,Vj,_,hcc⟩:=(oU ho3).cell hli;injection Vj with Vj
 injection Vj with e1 e2
 subst e1 e2;have O3:=ab ho3;have hz3:w.a.j<w3.a.j:=b0.lt;have at1:w.a.j+1<w3.a.j:=b1.lt;have hz32:w.a.j+2<w3.a.j:=b2.lt;clear hb3 hsz x1 x2 x3 x4 y1 y2 y3 y4 HB2 O2 ho3;have hcl:w3.b ⟨g,kN l o.E*27+25,none⟩=some (.float .f64 (qD l o.E).w):=by
  have:=hcc 25 (by omega);rw[bl]at this;rw[this,<-HG.i];exact Bk.aaz _
 have hfr:w3.frozen? ⟨g,kN l o.E*27+25,none⟩=false:=by
  rcases O3.i.2 with⟨hv,h0⟩|⟨g',cap,cur,hv,q2,q3,q4,q5,q6,q7⟩
  ·cases hv
  injection hv with e1 e2 e3
  injection e1 with e1
  injection e1 with e1
  subst e1;simp[sN,q3]
 clear hcc;obtain⟨x1,x2,x3,x4⟩:=b0.J;obtain⟨y1,y2,y3,y4⟩:=b1.J;obtain⟨u1,u2,u3,u4⟩:=b2.J;have B0:=ab b0;have B2:=ab b2;clear b0 b1 b2;go_wp2_with fail;refine(zG _ _).e ?_;rintro e w' ⟨rfl,rfl⟩;go_wp2_with fail;have O4:=ab (Ur O3.i (kN l o.E*27+25) (by omega) (.float .f64 (kg o.w)));have hxs:(dK l).set (kN l o.E*27+25) (.float .f64 (kg o.w))=dK (l.set (kN l o.E) ((qD l o.E).Qd (kg o.w))):=
  JD l (kN l o.E) hli _ 25 (by omega) _ (by rw[<-HG.i];exact(Bk.ayc (qD l o.E) _).symm)
 rw[hxs]at O4;have b2:=((B2.i.dP ⟨g,kN l o.E*27+25,none⟩ (.float .f64 (kg o.w)) (by show g≠_;omega)).eX 0 (.b .a (v+1))).eX 1 (.a (some ⟨g,0,none⟩) l.a c1);obtain⟨z1,z2,z3,z4⟩:=b2.J;have hZ:=z3 0 2 (av _);have hlen:(l.set (kN l o.E) ((qD l o.E).Qd (kg o.w))).a=l.a:=aV;refine aN (Fq rfl _ _ _ _ rfl (by rw[hZ];trivial)) rfl ⟨some ⟨g,0,none⟩,c1,?_,?_,((HB3.i.F (show w.a.j<=g by omega) _).F (show w.a.j<=w.a.j+2 by omega) _).F (show w.a.j<=w.a.j+2 by omega) _⟩
 ·rw[z4 0 2 (av _),hlen]
  rfl
 ·rw[hlen]
  exact iH (base:=w.a.j+3) (jR (jR O4.i (show w.a.j+2<w.a.j+3 by omega) _) (show w.a.j+2<w.a.j+3 by omega) _) (by omega)
theorem amo(l:List Bk)(hs:GA l)(v:Int)(hv : -9223372036854775808<=v/\v<9223372036854775807)(o:su)(hf:o.bk.oQ)(hw:o.w<18446744073709551616)(Ck:qL v l o=0)(h1:o.kind=4)(hn0:tJ l o.E=true)(A:Option aT)(c:Nat)(w:ak)(hR:Dg w w.a.j A l.a l)(hn:l.a<=100000):
 aP ah 71 #[.d #[.b .a v,.a A l.a c],.d o.ay] w (VJ w (v+1) (l.set (kN l o.E) ((qD l o.E).toD true)) 0):=by
 have HS:=ab hs;have HR1:=ab (fun ob tH Im=>(((hR.alloc (av _) ob).alloc (by simp) tH).alloc (by simp;omega) Im).lN (B':=(((w.alloc ob).alloc tH).alloc Im).a.j) (by simp;omega));have HB0:=ab (fun ob tH Im=>((((aG w.a.j w).alloc (av _) ob).alloc (by simp) tH).alloc (by simp;omega) Im:aL w.a.j w (((w.alloc ob).alloc tH).alloc Im)));have Qe:=fun A c W (hR:Dg W W.a.j A l.a l)=>KT l hs v o hf hw A c W hR (by omega)
 rw[Ck]at Qe;have Ol:=ab Qe;clear hR hs Qe Ck;obtain⟨hv1,hv2⟩:=hv;have hli:=yB hn0;have hin:((kN l o.E:Nat):Int)<(l.a:Nat):=by omega
 have HG:=ab (Fe hn0);clear hn0;go_enter Ga,Dl;go_wp2_with fail;refine(xO l A c _ (HR1.i _ _ _) hn).e ?_;rintro e w1 ⟨A1,c1,rfl,ho1,hb1⟩;have b0:=(((dM.new w _ _).alloc _).alloc _).M hb1 (by simp;omega);have b1:=((dM.TJ w _ _ _).alloc _).M hb1 (by simp);have b2:=(dM.aiK w _ _ _ _).M hb1 (by simp);have hz1:w.a.j+2<w1.a.j:=b2.lt;have O1:=ab (iH ho1 (show w.a.j+3<=_ by simp));have HB1:=ab ((HB0.i _ _ _).trans (hb1.e (by simp;omega)));clear ho1 hb1;obtain⟨x1,x2,x3,x4⟩:=b0.J;obtain⟨y1,y2,y3,y4⟩:=b1.J;have B0:=ab b0;have B1:=ab b1;have B2:=ab b2;clear b0 b1 b2;go_wp2_with fail;refine(Ol.i A1 c1 _ (oU (jR O1.i (by simp) _))).e ?_;rintro e w2 ⟨rfl,hb2⟩;have hsz:(w1.F ⟨w.a.j,1,none⟩ (bC A1 l.a c1)).a.j=w1.a.j:=by simp[iq]
 have b0:=(B0.i.eX 1 (bC A1 l.a c1)).M hb2 (by rw[hsz];omega);have b1:=(B1.i.dP ⟨w.a.j,1,none⟩ (bC A1 l.a c1) (by simp)).M hb2 (by rw[hsz];omega);have b2:=(B2.i.dP ⟨w.a.j,1,none⟩ (bC A1 l.a c1) (by simp)).M hb2 (by rw[hsz];omega);have O2:=ab (jE (jR O1.i (by simp) _) hb2);have HB2:=ab ((HB1.i.F (av _) _).trans (hb2.e (by rw[hsz];omega)));have hz2:w.a.j+2<w2.a.j:=b2.lt;have ap5:w.a.j+1<w2.a.j:=b1.lt;have ap6:w.a.j<w2.a.j:=b0.lt;clear hb2 hsz x1 x2 x3 x4 y1 y2 y3 y4 hz1 HB1 O1 HR1 Ol;obtain⟨x1,x2,x3,x4⟩:=b0.J;obtain⟨y1,y2,y3,y4⟩:=b1.J;have B0:=ab b0;have B1:=ab b1;have B2:=ab b2;clear b0 b1 b2;go_wp2_with fail;refine(Mw l HS.i o.E (v+1) A1 c1 _ (oU (jR O2.i (by simp) _)) (by omega)).e ?_;rintro e w3 ⟨rfl,hb3⟩;have hsz:(w2.F ⟨w.a.j,0,none⟩ (aI .a (v+1))).a.j=w2.a.j:=by simp[iq]
 have b0:=(B0.i.eX 0 (aI .a (v+1))).M hb3 (by rw[hsz];omega);have b1:=(B1.i.dP ⟨w.a.j,0,none⟩ (aI .a (v+1)) (by simp)).M hb3 (by rw[hsz];omega);have b2:=(B2.i.dP ⟨w.a.j,0,none⟩ (aI .a (v+1)) (by simp)).M hb3 (by rw[hsz];omega);have ho3:=jE (jR O2.i (show w.a.j<w.a.j+3 by omega) (aI .a (v+1))) hb3;have HB3:=ab ((HB2.i.F (av _) (aI .a (v+1))).trans (hb3.e (by rw[hsz];omega)));obtain⟨g,hA1⟩:∃g,A1=some ⟨g,0,none⟩:=by
  rcases ho3.2 with⟨hv,h0⟩|⟨g,cap,cur,hv,_⟩
  ·omega
  ·injection hv with e1 _ _
   exact⟨g,e1⟩
 subst hA1;have hgb:w.a.j+3<=g:=(ho3.lt g rfl).1;have hgl:g<w3.a.j:=(ho3.lt g rfl).2;obtain⟨bb,oo,Vj,_,hcc⟩:=(oU ho3).cell hli;injection Vj with Vj
 injection Vj with e1 e2
 subst e1 e2;have O3:=ab ho3;have hz3:w.a.j<w3.a.j:=b0.lt;have at1:w.a.j+1<w3.a.j:=b1.lt;have hz32:w.a.j+2<w3.a.j:=b2.lt;clear hb3 hsz x1 x2 x3 x4 y1 y2 y3 y4 HB2 O2 ho3;have hcl:w3.b ⟨g,kN l o.E*27+26,none⟩=some (.bool (qD l o.E).drain):=by
  have:=hcc 26 (by omega);rw[bl]at this;rw[this,<-HG.i];exact Bk.afk _
 have hfr:w3.frozen? ⟨g,kN l o.E*27+26,none⟩=false:=by
  rcases O3.i.2 with⟨hv,h0⟩|⟨g',cap,cur,hv,q2,q3,q4,q5,q6,q7⟩
  ·cases hv
  injection hv with e1 e2 e3
  injection e1 with e1
  injection e1 with e1
  subst e1;simp[sN,q3]
 clear hcc;obtain⟨x1,x2,x3,x4⟩:=b0.J;obtain⟨y1,y2,y3,y4⟩:=b1.J;obtain⟨u1,u2,u3,u4⟩:=b2.J;have B0:=ab b0;have B2:=ab b2;clear b0 b1 b2;go_wp2_with fail;have O4:=ab (Ur O3.i (kN l o.E*27+26) (by omega) (.bool true));have hxs:(dK l).set (kN l o.E*27+26) (.bool true)=dK (l.set (kN l o.E) ((qD l o.E).toD true)):=
  JD l (kN l o.E) hli _ 26 (by omega) _ (by rw[<-HG.i];exact(Bk.asl (qD l o.E) _).symm)
 rw[hxs]at O4;have b2:=((B2.i.dP ⟨g,kN l o.E*27+26,none⟩ (.bool true) (by show g≠_;omega)).eX 0 (.b .a (v+1))).eX 1 (.a (some ⟨g,0,none⟩) l.a c1);obtain⟨z1,z2,z3,z4⟩:=b2.J;have hZ:=z3 0 2 (av _);have hlen:(l.set (kN l o.E) ((qD l o.E).toD true)).a=l.a:=aV;refine aN (Fq rfl _ _ _ _ rfl (by rw[hZ];trivial)) rfl ⟨some ⟨g,0,none⟩,c1,?_,?_,((HB3.i.F (show w.a.j<=g by omega) _).F (show w.a.j<=w.a.j+2 by omega) _).F (show w.a.j<=w.a.j+2 by omega) _⟩
 ·rw[z4 0 2 (av _),hlen]
  rfl
 ·rw[hlen]
  exact iH (base:=w.a.j+3) (jR (jR O4.i (show w.a.j+2<w.a.j+3 by omega) _) (show w.a.j+2<w.a.j+3 by omega) _) (by omega)
theorem ap7(l:List Bk)(hs:GA l)(v:Int)(hv : -9223372036854775808<=v/\v<9223372036854775807)(o:su)(hf:o.bk.oQ)(hw:o.w<18446744073709551616)(Ck:qL v l o=0)(h1:o.kind=5)(hn0:tJ l o.E=true)(A:Option aT)(c:Nat)(w:ak)(hR:Dg w w.a.j A l.a l)(hn:l.a<=100000):
 aP ah 71 #[.d #[.b .a v,.a A l.a c],.d o.ay] w (VJ w (v+1) (l.set (kN l o.E) ((qD l o.E).toD false)) 0):=by
 have HS:=ab hs;have HR1:=ab (fun ob tH Im=>(((hR.alloc (av _) ob).alloc (by simp) tH).alloc (by simp;omega) Im).lN (B':=(((w.alloc ob).alloc tH).alloc Im).a.j) (by simp;omega));have HB0:=ab (fun ob tH Im=>((((aG w.a.j w).alloc (av _) ob).alloc (by simp) tH).alloc (by simp;omega) Im:aL w.a.j w (((w.alloc ob).alloc tH).alloc Im)));have Qe:=fun A c W (hR:Dg W W.a.j A l.a l)=>KT l hs v o hf hw A c W hR (by omega)
 rw[Ck]at Qe;have Ol:=ab Qe;clear hR hs Qe Ck;obtain⟨hv1,hv2⟩:=hv;have hli:=yB hn0;have hin:((kN l o.E:Nat):Int)<(l.a:Nat):=by omega
 have HG:=ab (Fe hn0);clear hn0;go_enter Ga,Dl;go_wp2_with fail;refine(xO l A c _ (HR1.i _ _ _) hn).e ?_;rintro e w1 ⟨A1,c1,rfl,ho1,hb1⟩;have b0:=(((dM.new w _ _).alloc _).alloc _).M hb1 (by simp;omega);have b1:=((dM.TJ w _ _ _).alloc _).M hb1 (by simp);have b2:=(dM.aiK w _ _ _ _).M hb1 (by simp);have hz1:w.a.j+2<w1.a.j:=b2.lt;have O1:=ab (iH ho1 (show w.a.j+3<=_ by simp));have HB1:=ab ((HB0.i _ _ _).trans (hb1.e (by simp;omega)));clear ho1 hb1;obtain⟨x1,x2,x3,x4⟩:=b0.J;obtain⟨y1,y2,y3,y4⟩:=b1.J;have B0:=ab b0;have B1:=ab b1;have B2:=ab b2;clear b0 b1 b2;go_wp2_with fail;refine(Ol.i A1 c1 _ (oU (jR O1.i (by simp) _))).e ?_;rintro e w2 ⟨rfl,hb2⟩;have hsz:(w1.F ⟨w.a.j,1,none⟩ (bC A1 l.a c1)).a.j=w1.a.j:=by simp[iq]
 have b0:=(B0.i.eX 1 (bC A1 l.a c1)).M hb2 (by rw[hsz];omega);have b1:=(B1.i.dP ⟨w.a.j,1,none⟩ (bC A1 l.a c1) (by simp)).M hb2 (by rw[hsz];omega);have b2:=(B2.i.dP ⟨w.a.j,1,none⟩ (bC A1 l.a c1) (by simp)).M hb2 (by rw[hsz];omega);have O2:=ab (jE (jR O1.i (by simp) _) hb2);have HB2:=ab ((HB1.i.F (av _) _).trans (hb2.e (by rw[hsz];omega)));have hz2:w.a.j+2<w2.a.j:=b2.lt;have ap5:w.a.j+1<w2.a.j:=b1.lt;have ap6:w.a.j<w2.a.j:=b0.lt;clear hb2 hsz x1 x2 x3 x4 y1 y2 y3 y4 hz1 HB1 O1 HR1 Ol;obtain⟨x1,x2,x3,x4⟩:=b0.J;obtain⟨y1,y2,y3,y4⟩:=b1.J;have B0:=ab b0;have B1:=ab b1;have B2:=ab b2;clear b0 b1 b2;go_wp2_with fail;refine(Mw l HS.i o.E (v+1) A1 c1 _ (oU (jR O2.i (by simp) _)) (by omega)).e ?_;rintro e w3 ⟨rfl,hb3⟩;have hsz:(w2.F ⟨w.a.j,0,none⟩ (aI .a (v+1))).a.j=w2.a.j:=by simp[iq]
 have b0:=(B0.i.eX 0 (aI .a (v+1))).M hb3 (by rw[hsz];omega);have b1:=(B1.i.dP ⟨w.a.j,0,none⟩ (aI .a (v+1)) (by simp)).M hb3 (by rw[hsz];omega);have b2:=(B2.i.dP ⟨w.a.j,0,none⟩ (aI .a (v+1)) (by simp)).M hb3 (by rw[hsz];omega);have ho3:=jE (jR O2.i (show w.a.j<w.a.j+3 by omega) (aI .a (v+1))) hb3;have HB3:=ab ((HB2.i.F (av _) (aI .a (v+1))).trans (hb3.e (by rw[hsz];omega)));obtain⟨g,hA1⟩:∃g,A1=some ⟨g,0,none⟩:=by
  rcases ho3.2 with⟨hv,h0⟩|⟨g,cap,cur,hv,_⟩
  ·omega
  ·injection hv with e1 _ _
   exact⟨g,e1⟩
 subst hA1;have hgb:w.a.j+3<=g:=(ho3.lt g rfl).1;have hgl:g<w3.a.j:=(ho3.lt g rfl).2;obtain⟨bb,oo,Vj,_,hcc⟩:=(oU ho3).cell hli;injection Vj with Vj
 injection Vj with e1 e2
 subst e1 e2;have O3:=ab ho3;have hz3:w.a.j<w3.a.j:=b0.lt;have at1:w.a.j+1<w3.a.j:=b1.lt;have hz32:w.a.j+2<w3.a.j:=b2.lt;clear hb3 hsz x1 x2 x3 x4 y1 y2 y3 y4 HB2 O2 ho3;have hcl:w3.b ⟨g,kN l o.E*27+26,none⟩=some (.bool (qD l o.E).drain):=by
  have:=hcc 26 (by omega);rw[bl]at this;rw[this,<-HG.i];exact Bk.afk _
 have hfr:w3.frozen? ⟨g,kN l o.E*27+26,none⟩=false:=by
  rcases O3.i.2 with⟨hv,h0⟩|⟨g',cap,cur,hv,q2,q3,q4,q5,q6,q7⟩
  ·cases hv
  injection hv with e1 e2 e3
  injection e1 with e1
  injection e1 with e1
  subst e1;simp[sN,q3]
 clear hcc;obtain⟨x1,x2,x3,x4⟩:=b0.J;obtain⟨y1,y2,y3,y4⟩:=b1.J;obtain⟨u1,u2,u3,u4⟩:=b2.J;have B0:=ab b0;have B2:=ab b2;clear b0 b1 b2;go_wp2_with fail;have O4:=ab (Ur O3.i (kN l o.E*27+26) (by omega) (.bool false));have hxs:(dK l).set (kN l o.E*27+26) (.bool false)=dK (l.set (kN l o.E) ((qD l o.E).toD false)):=
  JD l (kN l o.E) hli _ 26 (by omega) _ (by rw[<-HG.i];exact(Bk.asl (qD l o.E) _).symm)
 rw[hxs]at O4;have b2:=((B2.i.dP ⟨g,kN l o.E*27+26,none⟩ (.bool false) (by show g≠_;omega)).eX 0 (.b .a (v+1))).eX 1 (.a (some ⟨g,0,none⟩) l.a c1);obtain⟨z1,z2,z3,z4⟩:=b2.J;have hZ:=z3 0 2 (av _);have hlen:(l.set (kN l o.E) ((qD l o.E).toD false)).a=l.a:=aV;refine aN (Fq rfl _ _ _ _ rfl (by rw[hZ];trivial)) rfl ⟨some ⟨g,0,none⟩,c1,?_,?_,((HB3.i.F (show w.a.j<=g by omega) _).F (show w.a.j<=w.a.j+2 by omega) _).F (show w.a.j<=w.a.j+2 by omega) _⟩
 ·rw[z4 0 2 (av _),hlen]
  rfl
 ·rw[hlen]
  exact iH (base:=w.a.j+3) (jR (jR O4.i (show w.a.j+2<w.a.j+3 by omega) _) (show w.a.j+2<w.a.j+3 by omega) _) (by omega)
theorem GX(l:List Bk)(i:Nat)(hi:i<l.a):nm l i=(l[i]'hi).E:=by
 unfold nm;rw[au,aC hi];rfl
theorem YT(a:List UInt8):mg a a=0:=KJ.2 rfl
theorem xC{v:Int}{l:List Bk}:rU v l=true↔0<=v/\v<=1099511627776/\l.a<=1024/\(∀x∈l,x.yh=true/\Li x.w=true)/\GA l:=by
 unfold rU xV;simp only[bf,decide_eq_true_eq,List.all_eq_true,List.mem_range,Bool.or_eq_true];constructor
 ·rintro⟨⟨⟨h1,h2⟩,h3⟩,h4⟩
  refine⟨h1,h2,h3,fun x hx=>?_,?_⟩
  ·obtain⟨i,hi,rfl⟩:=nD hx
   have:=(h4 i hi).1;rw[au,aC hi]at this;exact this
  ·unfold GA
   have key:∀d i (hi:i+d+1<l.a),mg (nm l i) (nm l (i+d+1))<0:=by
    intro d
    induction d with
    | zero=>
      intro i hi;have:=(h4 (i+1) hi).2;rcases this with h|h
      ·omega
      ·simpa using h
    | succ d ih=>
      intro i hi;have h5:=ih i (by omega);have h6:=(h4 (i+d+1+1) hi).2;rcases h6 with h|h
      ·omega
      ·have h7:mg (nm l (i+d+1)) (nm l (i+(d+1)+1))<0:=by simpa[nP]using h
       exact Gz h5 h7
   rw[gy];intro i j hi hj hij;have:=key (j-i-1) i (by omega);rw[show i+(j-i-1)+1=j by omega,GX l i hi,GX l j hj]at this;exact this
 ·rintro⟨h1,h2,h3,h4,h5⟩
  refine⟨⟨⟨h1,h2⟩,h3⟩,fun i hi=>⟨?_,?_⟩⟩
  ·have:=h4 (l[i]'hi) (fG hi)
   rw[au,aC hi];exact this
  ·rcases eu i with h|h
   ·exact .a h
   ·exact .b (h5.lt (by omega) hi)
theorem amq{l:List Bk}(hs:GA l){x:Bk}(hx:x∈l):qD l x.E=x:=by
 obtain⟨i,hi,rfl⟩:=nD hx;obtain⟨h1,h2⟩:=apH hs hi (GX l i hi);rw[Fe h2,h1,au,aC hi];rfl
theorem UA{l:List Bk}{s:List UInt8}(h:tJ l s=true):qD l s∈l/\(qD l s).E=s:=by
 have hl:=yB h;rw[Fe h,au,aC hl];refine⟨fG hl,?_⟩;unfold tJ at h;simp at h;show(l[kN l s]).E=s;rw[<-GX l _ hl];exact KJ.1 h.2
theorem af3{l:List Bk}{s:List UInt8}(h:tJ l s=true):nm l (kN l s)=s:=by
 unfold tJ at h;simp at h;exact KJ.1 h.2
theorem YU(l:List Bk)(s:List UInt8):(∀i,i<kN l s->mg (nm l i) s<0)/\(kN l s<l.a->¬mg (nm l (kN l s)) s<0):=by
 induction l with
 | nil=>exact⟨fun i hi=>absurd hi (by simp[kN]),fun h=>absurd h (by simp)⟩
 | cons x l ih=>
   by_cases hx:mg x.E s<0
   ·have e:kN (x::l) s=kN l s+1:=by unfold kN;rw[List.takeWhile_cons];simp[hx]
    rw[e];refine⟨fun i hi=>?_,fun h=>?_⟩
    ·rcases i with _|i
     ·exact hx
     ·exact ih.1 i (by omega)
    ·exact ih.2 (by simpa using h)
   ·have e:kN (x::l) s=0:=by unfold kN;rw[List.takeWhile_cons];simp[hx]
    rw[e];exact⟨fun i hi=>by omega,fun _=>hx⟩
theorem VK{l:List Bk}(s:List UInt8){x:Bk}(hx:x∈l.d (kN l s)):mg x.E s<0:=by
 obtain⟨i,hi,rfl⟩:=nD hx;rw[bH]at hi;rw[List.getElem_take,<-GX l i (by omega)];exact(YU l s).1 i (by omega)
theorem amr{l:List Bk}(s:List UInt8)(h:kN l s<l.a):¬mg (nm l (kN l s)) s<0:=(YU l s).2 h
theorem YV{l:List Bk}(hs:GA l)(s:List UInt8)(hno:tJ l s=false){x:Bk}(hx:x∈l.f (kN l s)):mg s x.E<0:=by
 obtain⟨i,hi,rfl⟩:=nD hx;rw[jF]at hi;rw[List.getElem_drop];have h0:=amr s (show kN l s<l.a by omega);have h1:mg (nm l (kN l s)) s≠0:=by
  intro h;unfold tJ at hno;simp[show kN l s<l.a by omega,h]at hno
 have h2:mg s (nm l (kN l s))<0:=by
  rw[ai1];have:=afx (nm l (kN l s)) s;omega
 rw[<-GX l _ (by omega)];rcases eu i with h|h
 ·subst h;simpa using h2
 ·exact Gz h2 (hs.lt (by omega) (by omega))
theorem ap8{l:List Bk}{k:Nat}{x y:Bk}:y∈zW l k x↔y=x\/y∈l:=by
 unfold zW;rw[qJ,bB];have:y∈l↔y∈l.d k\/y∈l.f k:=by rw[<-qJ,iN]
 rw[this];constructor
 ·rintro(h|h|h)
  ·exact .b (.a h)
  ·exact .a h
  ·exact .b (.b h)
 ·rintro(h|h|h)
  ·exact .b (.a h)
  ·exact .a h
  ·exact .b (.b h)
theorem ap9{l:List Bk}(hs:GA l){x:Bk}(hno:tJ l x.E=false):GA (zW l (kN l x.E) x):=by
 unfold GA zW;rw[List.pairwise_append];refine⟨hs.sublist (List.take_sublist _ _),?_,?_⟩
 ·rw[gT]
  exact⟨fun y hy=>YV hs x.E hno hy,hs.sublist (List.drop_sublist _ _)⟩
 ·intro a ha b hb
  rcases bB.1 hb with rfl|hb
  ·exact VK _ ha
  ·exact Gz (VK _ ha) (YV hs x.E hno hb)
theorem ap'{l:List Bk}(hs:GA l)(i:Nat):GA (Fp l i):=by
 unfold Fp;refine hs.sublist ?_
 conv=>rhs;rw[<-iN i l]
 exact List.Sublist.append_left (by rw[<-List.drop_drop];exact List.drop_sublist _ _) _
theorem ahR{l:List Bk}(hs:GA l){i:Nat}(hi:i<l.a){y:Bk}:y∈Fp l i↔y∈l/\y.E≠nm l i:=by
 have e:l=l.d i++l[i]::l.f (i+1):=by
  conv=>lhs;rw[<-iN i l,kZ hi]
 unfold Fp;constructor
 ·intro h
  have hm:y∈l:=by
   rw[e];rcases qJ.1 h with h|h
   ·exact AQ _ h
   ·exact List.mem_append_right _ (List.mem_cons_of_mem _ h)
  refine⟨hm,fun hn=>?_⟩;rw[GX l i hi]at hn;have hs2:=hs;unfold GA at hs2;rw[e,List.pairwise_append,gT]at hs2;rcases qJ.1 h with h|h
  ·have:=hs2.2.2 y h l[i] (List.mem_cons_self ..)
   rw[hn,YT]at this;omega
  ·have:=hs2.2.1.1 y h
   rw[hn,YT]at this;omega
 ·rintro⟨hm,hn⟩
  rw[e]at hm;rcases qJ.1 hm with h|h
  ·exact AQ _ h
  ·rcases bB.1 h with rfl|h
   ·exact absurd (GX l i hi).symm hn
   ·exact List.mem_append_right _ h
theorem ahS{l:List Bk}(hs:GA l){i:Nat}(hi:i<l.a){z:Bk}(hz:z.E=nm l i):GA (l.set i z):=by
 unfold GA;rw[gy];intro a b ha hb hab;rw[aV]at ha hb;have hn:∀j (hj:j<(l.set i z).a),((l.set i z)[j]).E=nm l j:=by
  intro j hj;rw[aV]at hj;rw[List.getElem_set];split
  ·rename_i h;subst h;exact hz
  ·exact(GX l j hj).symm
 rw[hn,hn];exact hs.lt hab hb
theorem ahT{l:List Bk}(hs:GA l){i:Nat}(hi:i<l.a){z y:Bk}(hz:z.E=nm l i):y∈l.set i z↔y=z\/(y∈l/\y.E≠nm l i):=by
 have e:l=l.d i++l[i]::l.f (i+1):=by
  conv=>lhs;rw[<-iN i l,kZ hi]
 have e2:l.set i z=l.d i++z::l.f (i+1):=List.set_eq_take_append_cons_drop ▸ (by rw[if_pos hi]);have hd:=@ahR l hs i hi y;rw[e2,qJ,bB];unfold Fp at hd;rw[qJ]at hd;rw[<-hd];constructor
 ·rintro(h|h|h)
  ·exact .b (.a h)
  ·exact .a h
  ·exact .b (.b h)
 ·rintro(h|h|h)
  ·exact .b (.a h)
  ·exact .a h
  ·exact .b (.b h)
def doV(v:Int)(l:List Bk)(o:su):Int:=if qL v l o=0 then v+1 else v
def doL(v:Int)(l:List Bk)(o:su):List Bk:=if qL v l o=0 then QZ l o else l
theorem at5(l:List Bk)(hs:GA l)(v:Int)(hv : -9223372036854775808<=v/\v<9223372036854775807)(o:su)(hf:o.bk.oQ)(hw:o.w<18446744073709551616)(A:Option aT)(c:Nat)(w:ak)(hR:Dg w w.a.j A l.a l)(hn:l.a<=100000):
 aP ah 71 #[.d #[.b .a v,.a A l.a c],.d o.ay] w (VJ w (doV v l o) (doL v l o) (qL v l o)):=by
 by_cases h:qL v l o=0
 ·have hV:doV v l o=v+1:=by simp[doV,h]
  have hL:doL v l o=QZ l o:=by simp[doL,h]
  rw[hV,hL,h];obtain⟨k1,k2,k3,k4,k5,k6⟩:=aa8 h;unfold QZ;by_cases h1:o.kind=1
  ·rw[if_pos h1]
   exact atY l hs v hv o hf hw h h1 A c w hR hn
  ·rw[if_neg h1]
   by_cases h2:o.kind=2
   ·rw[if_pos h2]
    exact atZ l hs v hv o hf hw h h2 (k6 h1) A c w hR hn
   ·rw[if_neg h2]
    by_cases h3:o.kind=3
    ·rw[if_pos h3]
     exact ajs l hs v hv o hf hw h h3 (k6 h1) A c w hR hn
    ·rw[if_neg h3]
     by_cases h4:o.kind=4
     ·rw[show(o.kind==4)=true by simpa using h4]
      exact amo l hs v hv o hf hw h h4 (k6 h1) A c w hR hn
     ·rw[show(o.kind==4)=false by simpa using h4]
      exact ap7 l hs v hv o hf hw h (by omega) (k6 h1) A c w hR hn
 ·have hV:doV v l o=v:=by simp[doV,h]
  have hL:doL v l o=l:=by simp[doL,h]
  rw[hV,hL];exact atX l hs v o hf hw h A c w hR hn
structure pR where
 E:List UInt8
 q:Int
deriving DecidableEq
def pR.ay(x:pR):Array aB:=#[.g (bP x.E),.b .a x.q]
def Bg(l:List pR):List aB:=l.flatMap (·.ay.a)
theorem GY(l:List pR)(x:pR):Bg (l++[x])=Bg l++x.ay.a:=by simp[Bg]
theorem aa9:∃i:TypeInfo,ah.l 151=some i/\i.zero=some (.d #[.g ⟨#[]⟩,.b .a 0])/\i.j=2/\i.bytes<=200:=by
 cases h:ah.l 151 with
 | none=>exact absurd h (by have:(ah.l 151).isSome=true:=by kernel_rfl
                            intro e;rw[e]at this;cases this)
 | some i=>
   have h1:(ah.l 151).map (·.j)=some 2:=by kernel_rfl
   have h2:(ah.l 151).map (fun i=>decide (i.bytes<=200))=some true:=by kernel_rfl
   have h3:(ah.l 151).map (·.zero)=some (some (.d #[.g ⟨#[]⟩,.b .a 0])):=by kernel_rfl
   rw[h]at h1 h2 h3;simp at h1 h2 h3;exact⟨i,rfl,h3,h1,h2⟩
def ams(n:Nat)(ps:Array (Nat×aB)):Sem aB:=bM 75 n ps
@[go_sem ↓]theorem ayp(n:Nat)(ps:Array (Nat×aB)):bM 75 n ps=ams n ps:=rfl
@[go_sem]theorem ajt(w:ak)(s:List UInt8)(q:Int):(ams 1 #[(0,.d #[.g (bP s),.b .a q])]).G ah w = .Y (.a (some ⟨w.a.j,0,none⟩) 1 1) (w.alloc (.D #[.g (bP s),.b .a q] 151)):=by
 obtain⟨i0,hi0,hz0,hz1,hzb⟩:=aa9;exact sD w _ _ i0 _ 2 vH hi0 hz0 hz1 rfl (by omega) (by omega) _ rfl
def GZ(ls:List (List UInt8))(x:Bk):pR:=⟨x.E,if x.drain||xM ls x.E then 0 else wQ x.w⟩
def lg(ls:List (List UInt8))(l:List Bk):List pR:=l.map (GZ ls)
theorem Yg(ls:List (List UInt8))(l:List Bk)(i:Nat)(hi:i<l.a):lg ls (l.d (i+1))=lg ls (l.d i)++[GZ ls (l.b i iO)]:=by
 rw[List.take_succ_eq_append_getElem hi,lg,lg,List.map_append,au,aC hi];rfl
def DT(key:Vector UInt8 16)(s:List UInt8)(n:Nat):Nat:=yw key (s++[0])%n
def AL(key:Vector UInt8 16)(s:List UInt8)(n:Nat):Nat:=yw key (s++[1])%(n-1)+1
def chF(key:Vector UInt8 16)(n:Nat)(l:List (List UInt8))(i k:Nat):Nat:=rV (DT key (l.b i []) n) (AL key (l.b i []) n) n k
theorem VL(key:Vector UInt8 16)(s:List UInt8){n:Nat}(hn:2<=n):1<=AL key s n/\AL key s n<n:=by
 unfold AL;have:=fE (yw key (s++[1])) (show 0<n-1 by omega);omega
theorem amt(key:Vector UInt8 16)(s:List UInt8){n:Nat}(hn:2<=n):DT key s n<n:=fE _ (by omega)
theorem amu{key:Vector UInt8 16}{n:Nat}{l:List (List UInt8)}(h:lT n=true):adi n l.a (chF key n l):=by
 intro i hi;have h2:=xw h;obtain⟨s1,s2⟩:=VL key (l.b i []) h2;refine⟨fun t=>Qt (by omega),fun j hj=>Vq h s1 s2 hj⟩
def wD(g n:Nat)(q:List Nat)(ch:Nat->Nat->Nat):Nat->Mg
 | 0=>⟨q.map fun _=>0,List.replicate n (-1),n⟩
 | j+1=>if(wD g n q ch j).left=0 then wD g n q ch j else sW g n q ch (wD g n q ch j) (j%q.a)
theorem Sv{g n:Nat}{q:List Nat}{ch:Nat->Nat->Nat}:∀j,(∀t,t<j->(jT g n q ch t).left≠0)->wD g n q ch j=jT g n q ch j
 | 0,_=>rfl
 | j+1,h=>by
   have ih:=Sv (g:=g) (n:=n) (q:=q) (ch:=ch) j (fun t ht=>h t (by omega));unfold wD jT;rw[ih,if_neg (h j (by omega))]
theorem Sw{g n:Nat}{q:List Nat}{ch:Nat->Nat->Nat}{j:Nat}(h:(wD g n q ch j).left=0):∀d,wD g n q ch (j+d)=wD g n q ch j
 | 0=>rfl
 | d+1=>by
   have e:wD g n q ch (j+d+1)=if(wD g n q ch (j+d)).left=0 then wD g n q ch (j+d)else sW g n q ch (wD g n q ch (j+d)) ((j+d)%q.a):=rfl
   rw[<-nP,e,Sw h d,if_pos h]
def mh(q:List Nat):Nat:=q.foldl max 0
def Fu(n:Nat)(q:List Nat)(ch:Nat->Nat->Nat):List Int:=(wD (mh q) n q ch (n*q.a)).sl
theorem YW:∀(q:List Nat)(b:Nat),q.foldl max b=b\/∃i,i<q.a/\q.b i 0=q.foldl max b
 | [],b=>.a rfl
 | x::q,b=>by
   rw[j3];rcases YW q (max b x)with h|⟨i,hi,h⟩
   ·rw[h]
    rcases Nat.le_total x b with hx|hx
    ·left;omega
    ·right;exact⟨0,by simp,by simp;omega⟩
   ·exact .b ⟨i+1,by simpa using hi,by simpa using h⟩
theorem DU{q:List Nat}(h:q≠[])(h0:∀x∈q,0<x):∃i,i<q.a/\q.b i 0=mh q:=by
 rcases YW q 0 with e|e
 ·cases q with
  | nil=>exact absurd rfl h
  | cons x t=>
    exfalso;have h1:∀(t:List Nat)(b:Nat),b<=t.foldl max b:=by
     intro t
     induction t with
     | nil=>intro b;exact av _
     | cons y t ih=>intro b;rw[j3];exact aO (Nat.le_max_left _ _) (ih _)
    have h2:=h1 t (max 0 x);have h3:=h0 x (by simp);rw[j3]at e;omega
 ·exact e
theorem YX{n:Nat}{q:List Nat}{ch:Nat->Nat->Nat}(h:q≠[])(h0:∀x∈q,0<x):∃K,K<=n*q.a/\(jT (mh q) n q ch K).left=0/\(∀j,j<K->(jT (mh q) n q ch j).left≠0)/\Fu n q ch=(jT (mh q) n q ch K).sl:=by
 obtain⟨i,hi,hg⟩:=DU h h0;obtain⟨K,h1,h2⟩:=apI (n:=n) (ch:=ch) hi hg;have hm:∀m,(jT (mh q) n q ch (m*q.a)).left<=n-m:=by
  intro m
  induction m with
  | zero=>simp[jT]
  | succ m ih=>have:=aaP (n:=n) (ch:=ch) hi hg m;omega
 have hK:K<=n*q.a:=by
  rcases aZ (n*q.a) K with h3|h3
  ·have:=h2 _ h3
   have:=hm n;omega
  ·exact h3
 refine⟨K,hK,h1,h2,?_⟩;unfold Fu;obtain⟨d,hd⟩:∃d,n*q.a=K+d:=⟨n*q.a-K,by omega⟩
 have e:=Sv (g:=mh q) (n:=n) (q:=q) (ch:=ch) K h2;rw[hd,Sw (by rw[e];exact h1),e]
structure Tl where
 h:List (List UInt8)
 uR:List Int
deriving DecidableEq
def uL(key:Vector UInt8 16)(n:Nat)(l:List pR):Tl:=
 let r:=l.filter fun x=>decide (x.q≠0)
 if r=[]then⟨[],[]⟩else⟨r.map (·.E),Fu n (r.map fun x=>x.q.g) (chF key n (r.map (·.E)))⟩
def Ir(t:Tl)(h:Nat):Option (List UInt8):=if t.uR.a=0 then none else some (t.h.b (t.uR.b (h%t.uR.a) 0).g [])
theorem adD{n:Nat}{q:List Nat}{ch:Nat->Nat->Nat}(h:q≠[])(h0:∀x∈q,0<x)(hf:adi n q.a ch):(Fu n q ch).a=n/\∀j,j<n->∃i,i<q.a/\(Fu n q ch).b j 0=(i:Int):=by
 obtain⟨K,_,h1,h2,h3⟩:=YX (n:=n) (ch:=ch) h h0;have hq:0<q.a:=List.length_pos_iff.2 h;have ok:=alY (g:=mh q) hq hf K h2;rw[h3];refine⟨ok.sll,fun j hj=>?_⟩;rcases ok.rng j hj with e|e
 ·exfalso
  have hfr:=ok.fr;rw[h1]at hfr;have:sF (jT (mh q) n q ch K).sl j=true:=by unfold sF;rw[e];rfl
  have hpos:=Qu _ j 0 this (by rw[ok.sll];exact hj) (by decide);omega
 ·exact e
theorem YZ{key:Vector UInt8 16}{n:Nat}{l:List pR}(hp:lT n=true)(h0:∀x∈l,0<=x.q):(uL key n l).uR=[]/\(uL key n l).h=[]\/(uL key n l).uR.a=n/\∀j,j<n->∃i,i<(uL key n l).h.a/\(uL key n l).uR.b j 0=(i:Int):=by
 unfold uL;simp only;split
 ·exact .a ⟨rfl,rfl⟩
 ·rename_i hr
  right;have:=adD (n:=n) (q:=(l.filter fun x=>decide (x.q≠0)).map fun x=>x.q.g) (ch:=chF key n ((l.filter fun x=>decide (x.q≠0)).map (·.E))) (by simpa using hr) (by
   intro x hx;obtain⟨y,hy,rfl⟩:=List.mem_map.1 hx;obtain⟨h1,h2⟩:=List.mem_filter.1 hy;have:=h0 y h1;simp at h2;omega) (by rw[bV];have:=amu (key:=key) (n:=n) (l:=(l.filter fun x=>decide (x.q≠0)).map (·.E)) hp;rwa [bV]at this)
  simp only[bV]at this ⊢;exact this
section
open Go.ChangeShapes Go.WideShapes Go.ChangeAt Go.RowKit Go.Deep
section
variable {H:Type} {enc:bE×aB->H} {w:ak} {base:Nat} {spare:Nat->Bool} {held:Bool} {fuel:Nat} {t:bE} {cs:List aB} {x:DataW H×List oZ}
theorem Fv(h:kY enc ah w base spare held fuel 27 cs=some x):∃a:fC,cs=a.ay.a:=by
 obtain⟨xs,n,_,_,hl,hxl,hf⟩:=om Tryz.underlying27 h;rw[show ah.cellsOf 27=17 by kernel_rfl]at hl;obtain⟨y0,h0⟩:=Dr hxl hf 0 _ rfl;obtain⟨y1,h1⟩:=Dr hxl hf 1 _ rfl;obtain⟨b,hb,_⟩:=I7 (by kernel_rfl) h0;obtain⟨v,hv⟩:=Nv (k:=16) (e:=5) (by kernel_rfl) (by kernel_rfl) (by kernel_rfl) (by kernel_rfl) h1;have c0:(cs.f 0).d 1=[.bool b]:=hb;have c1:(cs.f 1).d 16=v.a.map bv:=hv;refine⟨⟨b,v⟩,?_⟩;have e:=rP cs 0 1;rw[c0,rP cs (0+1) 16,c1,gq (i:=0+1+16) (by omega)]at e;simpa[fC.ay]using e
def Bk.Nw(b:Bk):Prop:=b.oQ/\-9223372036854775808<=b.S/\b.S<=9223372036854775807
theorem aqa(h:kY enc ah w base spare held fuel 62 cs=some x):∃b:Bk,cs=b.ay.a/\b.Nw:=by
 obtain⟨xs,n,_,_,hl,hxl,hf⟩:=om Tryz.underlying62 h;rw[show ah.cellsOf 62=27 by kernel_rfl]at hl;obtain⟨y0,h0⟩:=Dr hxl hf 0 _ rfl;obtain⟨y1,h1⟩:=Dr hxl hf 1 _ rfl;obtain⟨y2,h2⟩:=Dr hxl hf 2 _ rfl;obtain⟨y3,h3⟩:=Dr hxl hf 3 _ rfl;obtain⟨y4,h4⟩:=Dr hxl hf 4 _ rfl;obtain⟨y5,h5⟩:=Dr hxl hf 5 _ rfl;obtain⟨s,hs,hsl⟩:=U3 (by kernel_rfl) h0;obtain⟨a,ha⟩:=Fv h1;obtain⟨p,hp,hp1,hp2⟩:=nE (by kernel_rfl) h2;obtain⟨m,hm⟩:=Nv (k:=6) (e:=5) (by kernel_rfl) (by kernel_rfl) (by kernel_rfl) (by kernel_rfl) h3;obtain⟨f,hf,hf2⟩:=alp (by kernel_rfl) h4;obtain⟨d,hd,_⟩:=I7 (by kernel_rfl) h5;have c0:(cs.f 0).d 1=[.g (bP s)]:=hs;have c1:(cs.f 1).d 17=a.ay.a:=ha;have c2:(cs.f 18).d 1=[.b .a p]:=hp;have c3:(cs.f 19).d 6=m.a.map bv:=hm;have c4:(cs.f 25).d 1=[fv f]:=hf;have c5:(cs.f 26).d 1=[.bool d]:=hd;refine⟨⟨s,a,p,m,f,d⟩,?_,⟨hsl,hf2⟩,hp1,hp2⟩;have e:=rP cs 0 1;rw[c0,rP cs (0+1) 17,c1,rP cs (0+1+17) 1,c2,rP cs (0+1+17+1) 6,c3,rP cs (0+1+17+1+6) 1,c4,rP cs (0+1+17+1+6+1) 1,c5,gq (i:=0+1+17+1+6+1+1) (by omega)]at e;simpa[Bk.ay,fC.ay]using e
end
section
variable {H:Type} {enc:bE×aB->H} {W:ak} {base:Nat} {v:aB} {d:DataW H} {ps:List oZ} {held:Bool}
theorem aju{fuel:Nat}{cs:List aB}{x:DataW H×List oZ}(h:kY enc ah W 0 (fun _=>true) held fuel 32 cs=some x):
 ∃(v:Int)(A:Option aT)(n c:Nat)(l:List Bk),cs=[.b .a v,.a A n c]/\(-9223372036854775808<=v/\v<=9223372036854775807)/\Dg W W.a.j A n l/\(∀b∈l,b.Nw)/\n<=9223372036854775807:=by
 obtain⟨xs,n,_,_,hl,hxl,hf⟩:=om Tryz.underlying32 h;rw[show ah.cellsOf 32=2 by kernel_rfl]at hl;obtain⟨y0,h0⟩:=Dr hxl hf 0 _ rfl;obtain⟨y1,h1⟩:=Dr hxl hf 1 _ rfl;obtain⟨z,hz,hz1,hz2⟩:=nE (by kernel_rfl) h0;obtain⟨A,n,c,l,hs,hnc,hc,hll,hrd,hsp,hgd⟩:=Ky Bk.ay Bk.Nw 27 Bk.r (by kernel_rfl:ah.underlying _=some (.a 62)) (by kernel_rfl) (by omega) (fun n cs y hy=>aqa hy) h1;have c0:(cs.f 0).d 1=[.b .a z]:=hz;have c1:(cs.f 1).d 1=[.a A n c]:=hs;refine⟨z,A,n,c,l,?_,⟨hz1,hz2⟩,⟨hll,hrd,hsp⟩,hgd,by omega⟩;have e:=rP cs 0 1;rw[c0,rP cs (0+1) 1,c1,gq (i:=0+1+1) (by omega)]at e;simpa using e
end
end
theorem amv{v:Int}{l:List Bk}(hs:GA l)(o:su):GA (doL v l o):=by
 unfold doL;split
 ·rename_i h
  obtain⟨_,_,_,h1,_,h6⟩:=aa8 h;unfold QZ;split
  ·rename_i hk
   exact ap9 (x:=o.bk.Qd (kg o.bk.w)) hs (h1 hk).2.1
  ·rename_i hk
   have hh:=h6 hk;split
   ·exact ap' hs _
   ·split
    ·exact ahS hs (yB hh) (by rw[af3 hh];exact(UA hh).2)
    ·exact ahS hs (yB hh) (by rw[af3 hh];exact(UA hh).2)
 ·exact hs
theorem amw{v:Int}{l:List Bk}(o:su):(doL v l o).a=if qL v l o=0/\o.kind=1 then l.a+1 else if qL v l o=0/\o.kind=2 then l.a-1 else l.a:=by
 unfold doL;by_cases h:qL v l o=0
 ·obtain⟨_,_,_,h1,_,h6⟩:=aa8 h
  simp only[h,true_and,if_true];unfold QZ;by_cases h1:o.kind=1
  ·simp only[h1,if_true];exact yA _ _ _
  ·simp only[h1,if_false]
   by_cases h2:o.kind=2
   ·simp only[h2,if_true];exact Oj _ _ (yB (h6 h1))
   ·simp only[h2,if_false]
    split<;>exact aV
 ·simp[h]
theorem adE(x:Nat):kg x=0\/kg x=x:=by unfold kg;split<;>simp
theorem adF{x:Nat}(h:Gi x=true):Gi (kg x)=true:=by
 rcases adE x with h1|h1<;>rw[h1]
 ·decide +kernel
 ·exact h
theorem adG{x:Nat}(h:x<18446744073709551616):kg x<18446744073709551616:=by
 rcases adE x with h1|h1<;>rw[h1]
 ·decide
 ·exact h
theorem adH(x:Nat):kg (kg x)=kg x:=by
 unfold kg;by_cases h:(ord x 0==some .eq)=true
 ·simp only[h,if_true]
  split<;>rfl
 ·simp only[h]
  simp[h]
theorem Y0(x:Nat):Li (kg x)=true:=by unfold Li;rw[adH];exact YE _
theorem adI{x:Bk}{u:Nat}(h:x.yh=true)(hu:Gi u=true):(x.Qd u).yh=true:=by
 unfold Bk.yh at h ⊢;simp only[bf]at h ⊢;exact⟨⟨⟨⟨h.1.1.1.1,h.1.1.1.2⟩,h.1.1.2⟩,h.1.2⟩,hu⟩
theorem at6{x:Bk}(h:x.yh=true):Gi x.w=true:=by
 unfold Bk.yh at h;simp only[bf]at h;exact h.2
theorem af4{v:Int}{l:List Bk}{o:su}(hr:rU v l=true)(hf:∀x∈l,x.oQ)(hof:o.bk.oQ)(how:o.w<18446744073709551616)(h:qL v l o=0):
 rU (v+1) (doL v l o)=true/\∀x∈doL v l o,x.oQ:=by
 obtain⟨h1,h2,h3,h4,h5⟩:=xC.1 hr;obtain⟨w1,w2,w3,w4,w5,w6⟩:=aa8 h;have hl:=amw (v:=v) (l:=l) o;have hs:=amv (v:=v) h5 o;have key:∀x∈doL v l o,(x.yh=true/\Li x.w=true)/\x.oQ:=by
  unfold doL;rw[if_pos h];unfold QZ;split
  ·rename_i hk
   intro x hx;rcases ap8.1 hx with rfl|hx
   ·have hb:=(w4 hk).1
    exact⟨⟨adI hb (adF (at6 hb)),Y0 _⟩,hof.1,adG hof.2⟩
   ·exact⟨h4 x hx,hf x hx⟩
  ·rename_i hk
   have hh:=w6 hk;have hin:=UA hh;have hnm:=af3 hh;split
   ·intro x hx
    have:=((ahR h5 (yB hh)).1 hx).1;exact⟨h4 x this,hf x this⟩
   ·split
    ·rename_i hk3
     intro x hx;rcases(ahT h5 (yB hh) (z:=(qD l o.E).Qd (kg o.w)) (by rw[hnm];exact hin.2)).1 hx with rfl|⟨hx,_⟩
     ·exact⟨⟨adI (h4 _ hin.1).1 (adF (w5 hk3)),Y0 _⟩,(hf _ hin.1).1,adG how⟩
     ·exact⟨h4 x hx,hf x hx⟩
    ·intro x hx
     rcases(ahT h5 (yB hh) (z:=(qD l o.E).toD (o.kind==4)) (by rw[hnm];exact hin.2)).1 hx with rfl|⟨hx,_⟩
     ·have e1:((qD l o.E).toD (o.kind==4)).yh=(qD l o.E).yh:=rfl
      have e2:((qD l o.E).toD (o.kind==4)).w=(qD l o.E).w:=rfl;rw[e1,e2];exact⟨h4 _ hin.1,(hf (qD l o.E) hin.1:(qD l o.E).oQ)⟩
     ·exact⟨h4 x hx,hf x hx⟩
 refine⟨xC.2 ⟨by omega,by omega,?_,fun x hx=>(key x hx).1,hs⟩,fun x hx=>(key x hx).2⟩;rw[hl];split
 ·rename_i hk
  have:=(w4 hk.2).2.2;omega
 ·split<;>omega
def aa'(w:ak)(m:List pR)(e:lU)(w':ak):Prop:=
 ∃A c,e=.a (.a A m.a c)/\w'.c w.a.j 151 2 (.a A m.a c) m.a (Bg m)/\aL w.a.j w w'
theorem af5{w wr:ak}{v:aB}{m:List pR}{n:Nat}(hn:m.a=n)(ho:wr.c (w.a.j+1) 151 2 v n (Bg m))(hb:aL w.a.j w wr):aa' w m (.a v) wr:=by
 subst hn;obtain⟨A,c,rfl,_,_⟩:=jG ho;exact⟨A,c,rfl,iH ho (by omega),hb⟩
theorem af6(l:List Bk)(hf:∀x∈l,x.oQ)(v:Int)(A:Option aT)(c:Nat)(ls:List (List UInt8))(D:Option aT)(d:Nat)(w:ak)(hR:Dg w w.a.j A l.a l)(hD:aaW w w.a.j D ls.a ls)(hn:l.a<=100000)(hd:ls.a<4611686018427387904):
 aP ah 28 #[.d #[.b .a v,.a A l.a c],.a D ls.a d] w (aa' w (lg ls l)):=by
 have HR:=ab hR;have HF:=ab hf;have HD:=ab hD;have HB0:=ab (fun ob=>((aG w.a.j w).alloc (av _) ob:aL w.a.j w (w.alloc ob)));have Et:=ab (fun i=>Yg ls l i);have HSL:=ab (show l.d l.a=l from List.take_length);obtain⟨i0,hi0,hz0,hz1,hzb⟩:=aa9;have HI0:=ab hi0;have HZ0:=ab hz0;have HZ1:=ab hz1;have HZ2:=ab (show(cB #[jk ⟨#[]⟩,aI .a 0]).D.j=2 from rfl);clear hR hf hD hi0 hz0 hz1;obtain⟨n,hnl⟩:=bZ l.a;rw[<-hnl]at HR hn HSL ⊢;have HN:=ab hnl;clear hnl;go_enter Tryz.func28,Tryz.ntmps28;go_wp2;go_loopw [5,13] (fun s5 s13 wr=>∃(i:Nat)(O:Option aT)(cap:Nat),i<=n/\s5=.a O i cap/\s13=.b .a i/\wr.c (w.a.j+1) 151 2 (.a O i cap) i (Bg (lg ls (l.d i)))/\aL (w.a.j+1) (w.alloc (.D #[.b .a v,.a A n c] 32)) wr) (fun _ s13 _=>n-(intOf s13).g)
 case atStart=>exact⟨0,none,0,by omega,rfl,rfl,fu _ _ _ _,by simpa using aG _ _⟩
 case round=>
  obtain⟨i,O,cap,hin,rfl,rfl,ho,hb⟩:=hrel;have HB:=ab hb;have hbw:=(HB0.i (.D #[.b .a v,.a A n c] 32)).trans (hb.e (by simp));have HBW:=ab hbw;have hsz:=hb.j;have OW:=ab (fun ob tH=>(ho.alloc ob).alloc tH);have O0:=ab ho;clear hb hbw ho;by_cases hlt:i<n
  ·have hi:(i:Int)<n:=by omega
   obtain⟨b,o,rfl,hbb,hh,hc⟩:=(HR.i.M HBW.i).fH hlt;have hbs:b<wr.a.j:=by simp at hsz;omega
   have hmem:l.b i iO∈l:=by
    have:=HN.i;rw[au,aC (by omega)];simp
   obtain⟨hx1,hx2⟩:=HF.i _ hmem;have hsn:=Et.i i (by have:=HN.i;omega);obtain⟨x,hx⟩:=bZ (l.b i iO);rw[<-hx]at hc hx1 hx2 hsn;have at7:=ab hsn;clear hx hmem hsn hbb;have HDB:=ab (fun ob=>(((HD.i.M HBW.i).alloc (show w.a.j<=wr.a.j by simp at hsz;omega) ob).lN (B':=(wr.alloc ob).a.j) (by simp at hsz⊢;omega):aaW (wr.alloc ob) (wr.alloc ob).a.j D ls.a ls));have HQ:∀W,aP ah 86 #[.float .f64 x.w] W fun e w'=>e=.a (.I #[.b .a (wQ x.w),.bool (Gi x.w)])/\W=w':=fun W=>afq x.w hx2 W
   have HQU:=ab HQ;have Uy:=ab (show i+1<=maxLen by unfold maxLen;omega);have Qo:=ab (show(i+1)*i0.bytes<=140737488355328 from aO (gY (show i+1<=100001 by omega) hzb) (by omega));have HBS:=ab (fun ob tH=>show w.a.j+1<=((wr.alloc ob).alloc tH).a.j by simp at hsz⊢;omega);have TS:=ab (fun(ob:Obj) (cc:Array aB) (h2:cc.j=2)=>(⟨by simp[h2],fun _=>⟨_,rfl,mV _,aa5 _ _ cc _ _ (by have:=Ii (wr.alloc ob) (.D cc 151);rwa [show(wr.alloc ob).a.j=wr.a.j+1 by simp]at this)⟩⟩:Rd ((wr.alloc ob).alloc (.D cc 151)) (wr.a.j+1+1) 2 (some ⟨wr.a.j+1,0,none⟩) 1 cc.a));have HBN:=ab (fun ob tH=>((HB.i.alloc (show w.a.j+1<=wr.a.j by simpa using hsz) ob).alloc (by simp at hsz⊢;omega) tH:aL (w.a.j+1) _ ((wr.alloc ob).alloc tH)));clear HQ hx1 hx2;have hso:GZ ls x=⟨x.E,if x.drain||xM ls x.E then 0 else wQ x.w⟩:=rfl;have HSO:=ab hso;clear hso;cases kd:x.drain
   ·have HKD:=ab kd
    have HCO:∀ob,aP ah 87 #[.a D ls.a d,.g (bP x.E)] (wr.alloc ob) fun e w'=>e=.a (.bool (xM ls x.E))/\wr.alloc ob=w':=fun ob=>NW ls x.E D d _ (HDB.i ob) hd
    cases kc:xM ls x.E
    all_goals
     rw[kc]at HCO;have ayq:=ab HCO;have HKC:=ab kc;clear HCO kc
    ·go_wp2_with (first
      | (go_at_call 86;refine(HQU.i _).e ?_;rintro e w' ⟨rfl,rfl⟩)
      | (go_at_call 87;refine(ayq.i _).e ?_;rintro e w' ⟨rfl,rfl⟩)
      | (at_builtin;refine jC _ rfl (.a 31) (.a 36) _ rfl (w.a.j+1) 151 i0 (.d #[.g ⟨#[]⟩,.b .a 0]) 2 i0.bytes vH HI0.i HZ0.i HZ1.i rfl HZ2.i (mY _) (.a O i cap) i (Bg (lg ls (l.d i))) rfl (OW.i _ _) (wr.a.j+1+1) (some ⟨wr.a.j+1,0,none⟩) 1 1 [.g (bP x.E),.b .a (wQ x.w)] rfl (TS.i _ #[.g (bP x.E),.b .a (wQ x.w)] rfl) (by simp[dx]) Uy.i Qo.i (HBS.i _ _) ?_
         intro v1 w1 hown1 hg1 xu;have O1:=ab hown1;have G1:=ab hg1;clear hown1 hg1 xu))
     obtain⟨O',cap',rfl,_,_⟩:=jG O1.i;go_roundw
     case rel=>exact⟨i+1,O',cap',by omega,rfl,by go_num,by rw[at7.i,GY,HSO.i,HKD.i,HKC.i];exact O1.i,(HBN.i _ _).grown G1.i (by simp at hsz⊢;omega) (fun k hk=>(O0.i.lt k hk).1)⟩
     case measure=>simp[intOf]<;>omega
    ·go_wp2_with (first
      | (go_at_call 86;refine(HQU.i _).e ?_;rintro e w' ⟨rfl,rfl⟩)
      | (go_at_call 87;refine(ayq.i _).e ?_;rintro e w' ⟨rfl,rfl⟩)
      | (at_builtin;refine jC _ rfl (.a 31) (.a 36) _ rfl (w.a.j+1) 151 i0 (.d #[.g ⟨#[]⟩,.b .a 0]) 2 i0.bytes vH HI0.i HZ0.i HZ1.i rfl HZ2.i (mY _) (.a O i cap) i (Bg (lg ls (l.d i))) rfl (OW.i _ _) (wr.a.j+1+1) (some ⟨wr.a.j+1,0,none⟩) 1 1 [.g (bP x.E),.b .a 0] rfl (TS.i _ #[.g (bP x.E),.b .a 0] rfl) (by simp[dx]) Uy.i Qo.i (HBS.i _ _) ?_
         intro v1 w1 hown1 hg1 xu;have O1:=ab hown1;have G1:=ab hg1;clear hown1 hg1 xu))
     obtain⟨O',cap',rfl,_,_⟩:=jG O1.i;go_roundw
     case rel=>exact⟨i+1,O',cap',by omega,rfl,by go_num,by rw[at7.i,GY,HSO.i,HKD.i,HKC.i];exact O1.i,(HBN.i _ _).grown G1.i (by simp at hsz⊢;omega) (fun k hk=>(O0.i.lt k hk).1)⟩
     case measure=>simp[intOf]<;>omega
   ·have HKD:=ab kd
    go_wp2_with (first
     | (go_at_call 86;refine(HQU.i _).e ?_;rintro e w' ⟨rfl,rfl⟩)
     | (at_builtin;refine jC _ rfl (.a 31) (.a 36) _ rfl (w.a.j+1) 151 i0 (.d #[.g ⟨#[]⟩,.b .a 0]) 2 i0.bytes vH HI0.i HZ0.i HZ1.i rfl HZ2.i (mY _) (.a O i cap) i (Bg (lg ls (l.d i))) rfl (OW.i _ _) (wr.a.j+1+1) (some ⟨wr.a.j+1,0,none⟩) 1 1 [.g (bP x.E),.b .a 0] rfl (TS.i _ #[.g (bP x.E),.b .a 0] rfl) (by simp[dx]) Uy.i Qo.i (HBS.i _ _) ?_
        intro v1 w1 hown1 hg1 xu;have O1:=ab hown1;have G1:=ab hg1;clear hown1 hg1 xu))
    obtain⟨O',cap',rfl,_,_⟩:=jG O1.i;go_roundw
    case rel=>exact⟨i+1,O',cap',by omega,rfl,by go_num,by rw[at7.i,GY,HSO.i,HKD.i];exact O1.i,(HBN.i _ _).grown G1.i (by simp at hsz⊢;omega) (fun k hk=>(O0.i.lt k hk).1)⟩
    case measure=>simp[intOf]<;>omega
  ·obtain rfl:i=n:=by omega
   have hd:decide ((i:Int)<i)=false:=by simp
   go_wp2;go_ret;have hO:=O0.i;rw[HSL.i]at hO;exact af5 (n:=i) (by rw[lg,bV];exact HN.i.symm) hO HBW.i
end Go.Proofs.YtkjojjopamaoiaaGreat
