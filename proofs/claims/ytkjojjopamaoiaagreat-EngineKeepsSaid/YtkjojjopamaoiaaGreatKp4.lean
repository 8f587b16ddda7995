/- Parts. -/
import Derived.Test.YtkjojjopamaoiaaGreatKp1
import Derived.Shelf.SortM.Plain
import Derived.Shelf.SortM.SortNone
import Derived.Shelf.SlicesG.CompactS
import Derived.Sort.OwnSorted
import Derived.RangeFuncNested
import Derived.Maps.OwnIn
set_option linter.all false
set_option maxRecDepth 100000
set_option maxHeartbeats 8000000
open Array renaming getElem?_eq_some_iff->bW,replicate_succ->gH,replicate_zero->gI,size->Array.j,toList->Array.a,getD->Array.c
open ByteArray renaming size->ByteArray.j
open Go renaming Value->aC,World->au,Addr->aU,TypeId->bF,Calls->aQ,run_equal_slice_nil->jf,Fence->KU,CallsIn->Mw,callsIn_of_wp->Cu,bodyPost_ret->aO,results_none->vw,SeqStopsK->vQ,callsIn_of_wp_marks->rz,belowK_b->vL,ownFrom_below->yT,run_takeDeferred->uE,results_tmp->Iy,callsIn_wide->ny,DataW->zI,MemPlace->sV,Program->eX
open Go.Boxed renaming new->Cv
open Go.Ending renaming returned->Go.Ending.a
open Go.Fence renaming wide->nP
open Go.FrameMode renaming run->Go.FrameMode.J
open Go.Func renaming name->Go.Func.E
open Go.Instr renaming slice->Go.Instr.a
open Go.IntKind renaming i64->Go.IntKind.a,u64->Go.IntKind.c
open Go.Lib renaming hid->ah,compact->oK
open Go.Lit renaming int->Go.Lit.b,bool->Go.Lit.e,string->Go.Lit.g
open Go.Obj renaming cells->Go.Obj.D
open Go.Op renaming bytesLess->bR,slice->Go.Op.a
open Go.Oper renaming semAt_some->qA,dst->Go.Oper.Y
open Go.OwnFrom renaming and->tJ
open Go.Proofs.Tryz renaming prog->aj,underlying56->cu,underlying0->Ib,zeroValue0->JN,underlying3->gY,zeroValue3->JO,underlying4->nU,zeroValue4->JQ,underlying9->iR,isAgg9->Lr,sizeOf9->Iw,zeroValue9->Br,underlying69->lT,underlying33->rY
open Go.RowKit renaming Below->aM
open Go.RowKit.Below renaming refl->aH,size->Go.RowKit.Below.j,setCell->Go.RowKit.Below.G
open Go.RowKit.Hid renaming out->Go.RowKit.Hid.i
open Go.Sem renaming run->Go.Sem.J
open Go.TypeDesc renaming slice->Go.TypeDesc.a,int->Go.TypeDesc.b
open Go.TypeInfo renaming size->Go.TypeInfo.j
open Go.Value renaming int->aJ,agg->cK,slice->bC,oneCell'->dx,cells->Go.Value.D,slice->Go.Value.a,int->Go.Value.b,pointer->Go.Value.c,bool->Go.Value.e,tuple->Go.Value.K,string->Go.Value.g
open Go.World renaming ownsRow_nil->fB,size_alloc->tq,heap->Go.World.a,cell?->Go.World.b,setCell->Go.World.G,ownsRow->Go.World.c,grownBy->Go.World.d
open Go.World.grownBy renaming size->Go.World.grownBy.j
open List renaming nil_append->dG,eq_nil_of_length_eq_zero->bG,map_take->Ap,mem_cons->bE,pairwise_cons->gU,foldr_cons->JM,length_cons->bD,mem_cons_self->mG,mem_cons_of_mem->jX,findIdx?_eq_some_iff_getElem->ig,getD_eq_getElem?_getD->av,getElem?_eq_getElem->aD,map_append->iW,mem_range->eG,mem_filter->mH,range->dS,length_map->bV,replicate->eu,size_toArray->dP,length_nil->gQ,push_toArray->iQ,append_toArray->gX,cons_append->iA,length_take->bL,take_of_length_le->aL,length_append->aS,getElem?_range->wO,map_cons->kK,ext_getElem?->iN,getElem?_map->jm,getElem?_eq_none->aT,getElem_mem->eY,length->List.a,toArray->List.b,getD->List.c,take->List.d,below->List.S
open Nat renaming le_refl->ay,succ_pos->kX,eq_zero_or_pos->eD,mul_one->gL,le_trans->aP,lt_of_lt_of_le->eZ,lt_or_ge->aZ,min_eq_left->oI,reduceAdd->kM,reduceSub->kN,mul_le_mul->gP
open Option renaming getD->Option.c
open Or renaming inl->Or.a,inr->Or.b
open UInt8 renaming lt_iff_toNat_lt->zK,toNat_inj->mE
namespace Go.Proofs.YtkjojjopamaoiaaGreat
open Go.RowKit
section
open Go.RowKit Go.ChangeShapes Go.WideShapes Go.ChangeAt Go.Deep
structure Sp where
 fG:Int
 err:Int
deriving DecidableEq
def Sp.aA(x:Sp):Array aC:=#[aJ .a x.fG,aJ .a x.err]
theorem Sp.I(x:Sp):x.aA.j=2:=by simp[Sp.aA]
@[go_sem]theorem Sp.eF(x:Sp):eF x.aA=2:=Sp.I x
@[go_sem]theorem Sp.qG(x:Sp):x.aA[0]? = some (.b .a x.fG):=rfl
@[go_sem]theorem Sp.Ev(x:Sp):x.aA[1]? = some (.b .a x.err):=rfl
def aCZ:Sp:=⟨0,0⟩
@[go_sem]theorem axZ:cK #[aJ IntKind.i64 0,aJ IntKind.i64 0]=cK aCZ.aA:=rfl
section
variable {W W':au} {p g N:Nat} {s:RS}
theorem fZ.atE{w W W':au}{B n:Nat}{A:Option aU}{l:List UInt8}{k:Option Nat}(h:fZ W B A n l)(hg:W.d W' k)(hne:∀a,A=some a->some a.block≠k):fZ W' B A n l:=by
 refine⟨h.1,fun hn=>?_⟩;obtain⟨a,hA,hb,hc⟩:=h.2 hn;refine⟨a,hA,hb,fun j u hu=>hg.cell (hc j u hu) ?_⟩;have:=hne a hA
 rwa [Bh]
end
end
theorem fZ.gV{w:au}{base n c:Nat}{e:bF}{A:Option aU}{l:List UInt8}(h:w.c base e 1 (.a A n c) n (l.map bv)):fZ w w.a.j A n l:=Rd.gV h
def ClY(w:au)(n:Nat)(l:List UInt8)(e:Ending)(w':au):Prop:=
 ∃A c,e=.a (.a A n c)/\w'.c w.a.j 5 1 (.a A n c) n (l.map bv)/\aM w.a.j w w'
theorem ai1(l:List UInt8)(A:Option aU)(n c:Nat)(w:au)(hR:fZ w w.a.j A n l)(hn:n<=1073741824):
 aQ aj 268 #[.a A n c] w (ClY w n l):=by
 have hll:=hR.len;cases A with
 | some a=>
   have hnil:∀W:au,(binOp .eql 56 (.a (some a) n c) (.a none 0 0)).J aj W=.ok (.e false) W:=fun W=>by
    simp only[binOp];simp[jf,cu]
   obtain⟨i0,hi0,hz0,hz1,hzb⟩:=info_parts FM;have hz2:(aJ .u8 0).D.j=1:=rfl;have O1:=ah (show(w.alloc (.D #[] 5)).c w.a.j 5 1 (.a (some ⟨w.a.j,0,none⟩) 0 0) 0 []from World.ownsRow_lit w #[] 0 (ay _) (by unfold maxLen;omega) rfl);have O2:=ah (hR.alloc (ay _) (.D #[] 5));have ME:=ah (show 0+n<=maxLen by unfold maxLen;omega);have Kw:=ah (show(0+n)*1<=140737488355328 by omega);have O3:=ah (show w.a.j<=(w.alloc (.D #[] 5)).a.j by simp);have ON:=ah (Di l);clear hR hll;go_enter Tryz.func268,Tryz.ntmps268;go_wp2_with (at_builtin;refine iT _ rfl (.tmp 5) (.tmp 6) _ rfl w.a.j 5 i0 (.b .u8 0) 1 1 cu hi0 hz0 hz1 hzb hz2 (kX _) (.a (some ⟨w.a.j,0,none⟩) 0 0) 0 [] rfl O1.i w.a.j (some a) n c (l.map bv) rfl O2.i ON.i ME.i Kw.i O3.i ?_;intro v1 w1 hown1 hg1 uN);obtain⟨A',c',hv,_,_⟩:=jw hown1;subst hv;simp only[Nat.zero_add,dG]at hown1;have hb:=qM ((aH w.a.j w).alloc (ay _) (.D #[] 5)) hg1 (ay _) O3.i;go_wp2;go_ret;exact⟨A',c',by simp,hown1,hb⟩
 | none=>
   have h0:n=0:=by
    rcases eD n with h0|h0
    ·exact h0
    ·obtain⟨a,ha,_⟩:=hR.2 h0;cases ha
   subst h0;have hl:l=[]:=bG hll;subst hl;have hnil:∀W:au,(binOp .eql 56 (.a none 0 c) (.a none 0 0)).J aj W=.ok (.e true) W:=fun W=>by
    simp only[binOp];simp[jf,cu]
   have FIN:=ah (show ClY w 0 [] (.a (.a none 0 0)) w from⟨none,0,rfl,fB _ _ _ _,aH _ _⟩);clear hR hll;go_enter Tryz.func268,Tryz.ntmps268;go_wp2;go_ret;exact FIN.i
theorem fZ.QE{w:au}{B n:Nat}{A:Option aU}{l:List UInt8}(h:fZ w B A n l){z b c:Nat}(hz:z<=b)(hb:b<=n)(hc:n<=c):fZ w B (if c=z then A else Option.map (fun x=>x.add z) A) (b-z) ((l.drop z).d (b-z)):=by
 have h1:=Rd.cut h (k:=z) (cap:=c) (by omega) hc;have h2:=Rd.upto h1 (k:=b-z) (by omega);rw[gL,gL]at h2;unfold fZ;rw[Ap,List.map_drop];exact h2
theorem fZ.from{w:au}{B n:Nat}{A:Option aU}{l:List UInt8}(h:fZ w B A n l){z c:Nat}(hz:z<=n)(hc:n<=c):fZ w B (if c=z then A else Option.map (fun x=>x.add z) A) (n-z) (l.drop z):=by
 have h1:=Rd.cut h (k:=z) (cap:=c) hz hc;rw[gL]at h1;unfold fZ;rw[List.map_drop];exact h1
structure jC(F:List Nat)(w w':au):Prop where
 os:w'.os=w.os
 tape:w'.tape=w.tape
 output:w'.output=w.output
 j:w.a.j<=w'.a.j
 block:∀k,k<w.a.j->k∉F->w'.a[k]? = w.a[k]?
theorem jC.refl(F:List Nat)(w:au):jC F w w:=⟨rfl,rfl,rfl,ay _,fun _ _ _=>rfl⟩
theorem jC.jA{F:List Nat}{w w':au}(h:aM w.a.j w w'):jC F w w':=⟨h.os,h.tape,h.output,h.j,fun k hk _=>h.block k hk⟩
theorem jC.Vd{F:List Nat}{w w':au}{g:Option Nat}(h:w.d w' g)(hg:∀k,g=some k->k∈F\/w.a.j<=k):jC F w w':=
 ⟨h.os,h.tape,h.output,h.j,fun k hk hn=>h.block k hk (fun e=>by rcases hg k e.symm with h|h;exact hn h;omega)⟩
theorem jC.trans{F F':List Nat}{a b c:au}(h:jC F a b)(k:jC F' b c)(hF:∀g∈F',g∈F\/a.a.j<=g):jC F a c:=
 ⟨k.os.trans h.os,k.tape.trans h.tape,k.output.trans h.output,aP h.j k.j,fun i hi hn=>(k.block i (eZ hi h.j) (fun hm=>by rcases hF i hm with h|h;exact hn h;omega)).trans (h.block i hi hn)⟩
theorem jC.pO{F:List Nat}{a b c:au}(h:jC F a b)(k:jC F b c):jC F a c:=h.trans k (fun g hg=>.a hg)
theorem jC.grown{F:List Nat}{a b c:au}{g:Option Nat}(h:jC F a b)(k:b.d c g)(hg:∀j,g=some j->j∈F\/a.a.j<=j):jC F a c:=
 ⟨k.os.trans h.os,k.tape.trans h.tape,k.output.trans h.output,aP h.j k.j,fun i hi hn=>(k.block i (eZ hi h.j) (fun e=>by rcases hg i e.symm with h|h;exact hn h;omega)).trans (h.block i hi hn)⟩
theorem jC.S{F:List Nat}{a b c:au}{B:Nat}(h:jC F a b)(k:aM B b c)(hB:a.a.j<=B):jC F a c:=
 ⟨k.os.trans h.os,k.tape.trans h.tape,k.output.trans h.output,aP h.j k.j,fun i hi hn=>(k.block i (by omega)).trans (h.block i hi hn)⟩
theorem jC.set{F:List Nat}{a b:au}(h:jC F a b)(p:aU)(u:aC)(hp:p.block∈F\/a.a.j<=p.block):jC F a (b.G p u):=
 ⟨h.os,h.tape,h.output,by simpa[World.setCell]using h.j,fun i hi hn=>(Below.heap_setCell b p u i (fun e=>by subst e;rcases hp with h|h;exact hn h;omega)).trans (h.block i hi hn)⟩
theorem jC.alloc{F:List Nat}{a b:au}(h:jC F a b)(o:Obj):jC F a (b.alloc o):=
 ⟨h.os,h.tape,h.output,aP h.j (by simp),fun i hi hn=>(Below.heap_alloc b o i (eZ hi h.j)).trans (h.block i hi hn)⟩
theorem jC.drewN{F:List Nat}{a b:au}(h:jC F a b)(n:Nat):jC F a (b.drewN n):=⟨h.os,h.tape,h.output,h.j,h.block⟩
theorem jC.qO{F:List Nat}{B:Nat}{a b:au}(h:jC F a b)(hF:∀g∈F,B<=g)(hB:B<=a.a.j):aM B a b:=
 ⟨h.os,h.tape,h.output,h.j,fun i hi=>h.block i (by omega) (fun hm=>by have:=hF i hm;omega)⟩
theorem jC.lH{F F':List Nat}{a b:au}(h:jC F a b)(hF:∀g∈F,g∈F'):jC F' a b:=⟨h.os,h.tape,h.output,h.j,fun i hi hn=>h.block i hi (fun hm=>hn (hF i hm))⟩
theorem jC.box{F:List Nat}{a b:au}(h:jC F a b){k:Nat}{c:Array aC}(hB:dN a k c)(hk:k∉F):dN b k c:=by
 have hl:=hB.lt;obtain⟨t,ht⟩:=hB;exact⟨t,by rw[h.block k hl hk];exact ht⟩
section
open Go.RowKit Go.ChangeShapes Go.WideShapes Go.ChangeAt Go.Deep
theorem sJ:∀a:List UInt8,bR a a=false
 | []=>rfl
 | x::a=>by rw[bR,sJ a];simp
theorem yj:∀a b c:List UInt8,bR a b=true->bR b c=true->bR a c=true
 | _,[],_,h,_=>by cases ‹List UInt8› <;> simp[bR]at h
 | _,_::_,[],_,h=>by simp[bR]at h
 | [],_::_,_::_,_,_=>rfl
 | x::a,y::b,z::c,h1,h2=>by
   have ih:=yj a b c;simp only[bR,Bool.or_eq_true,Bool.and_eq_true,decide_eq_true_eq,beq_iff_eq,zK,<-mE]at h1 h2 ⊢;rcases h1 with h1|⟨h1,h3⟩<;>rcases h2 with h2|⟨h2,h4⟩
   ·exact .a (by omega)
   ·exact .a (by omega)
   ·exact .a (by omega)
   ·exact .b ⟨by omega,ih h3 h4⟩
theorem zP:∀a b:List UInt8,bR a b=false->bR b a=false->a=b
 | [],[],_,_=>rfl
 | [],_::_,h,_=>by simp[bR]at h
 | _::_,[],_,h=>by simp[bR]at h
 | x::a,y::b,h1,h2=>by
   have ih:=zP a b;simp only[bR,Bool.or_eq_false_iff,Bool.and_eq_false_iff,decide_eq_false_iff_not,beq_eq_false_iff_ne,zK,ne_eq,<-mE]at h1 h2;have e:x.toNat=y.toNat:=by omega
   have e2:=mE.1 e;rw[e2,ih (h1.2.resolve_left (fun h=>h e)) (h2.2.resolve_left (fun h=>h e.symm))]
theorem al2{a b:List UInt8}(h:bR a b=true):bR b a=false:=by
 cases hc:bR b a
 ·rfl
 ·have:=yj _ _ _ h hc;rw[sJ]at this;cases this
def afw(ls:List (List UInt8)):Prop:=ls.Pairwise (fun a b=>bR a b=true)
def Ve(s:List UInt8):List (List UInt8)->List (List UInt8)
 | []=>[s]
 | x::r=>if bR s x then s::x::r else if bR x s then x::Ve s r else x::r
def Ih(names:List (List UInt8)):List (List UInt8):=names.foldr Ve []
theorem Vf(s y:List UInt8):∀l,y∈Ve s l↔y=s\/y∈l
 | []=>by simp[Ve]
 | x::r=>by
   unfold Ve;split
   ·simp
   ·split
    ·rw[bE,Vf s y r,bE]
     constructor
     ·rintro(h|h|h)
      ·exact .b (.a h)
      ·exact .a h
      ·exact .b (.b h)
     ·rintro(h|h|h)
      ·exact .b (.a h)
      ·exact .a h
      ·exact .b (.b h)
    ·rename_i h1 h2
     have:=zP s x (by simpa using h1) (by simpa using h2);subst this;simp
theorem adf(s:List UInt8):∀l,afw l->afw (Ve s l)
 | [],_=>List.pairwise_singleton _ _
 | x::r,h=>by
   unfold Ve;obtain⟨h1,h2⟩:=gU.1 h;split
   ·rename_i hs
    refine gU.2 ⟨fun y hy=>?_,h⟩;rcases bE.1 hy with rfl|hy
    ·exact hs
    ·exact yj _ _ _ hs (h1 y hy)
   ·split
    ·rename_i hs hx
     refine gU.2 ⟨fun y hy=>?_,adf s r h2⟩;rcases(Vf s y r).1 hy with rfl|hy
     ·exact hx
     ·exact h1 y hy
    ·exact h
theorem Vg(s:List UInt8):∀names,s∈Ih names↔s∈names
 | []=>by simp[Ih]
 | x::r=>by
   have ih:=Vg s r;unfold Ih at ih ⊢;rw[JM,Vf,ih,bE]
theorem adg:∀names,afw (Ih names)
 | []=>List.Pairwise.nil
 | x::r=>by
   have ih:=adg r;unfold Ih at ih ⊢;rw[JM];exact adf _ _ ih
theorem adh(s:List UInt8):∀l,(Ve s l).a<=l.a+1
 | []=>by simp[Ve]
 | x::r=>by
   have:=adh s r;unfold Ve;split
   ·simp
   ·split
    ·simp;omega
    ·simp
theorem adi:∀names,(Ih names).a<=names.a
 | []=>by simp[Ih]
 | x::r=>by
   have ih:=adi r;have:=adh x (Ih r);unfold Ih at ih this ⊢;rw[JM,bD];omega
theorem Vh:∀P Q:List (List UInt8),afw P->afw Q->(∀s,s∈P↔s∈Q)->P=Q
 | [],[],_,_,_=>rfl
 | [],y::Q,_,_,h=>by have:=(h y).2 (mG ..);cases this
 | x::P,[],_,_,h=>by have:=(h x).1 (mG ..);cases this
 | x::P,y::Q,hP,hQ,h=>by
   obtain⟨p1,p2⟩:=gU.1 hP;obtain⟨q1,q2⟩:=gU.1 hQ;have e:x=y:=by
    rcases bE.1 ((h x).1 (mG ..))with h1|h1
    ·exact h1
    ·rcases bE.1 ((h y).2 (mG ..))with h2|h2
     ·exact h2.symm
     ·have a:=q1 x h1
      have b:=p1 y h2;have:=yj _ _ _ a b;rw[sJ]at this;cases this
   subst e;congr 1;refine Vh P Q p2 q2 (fun s=>?_);constructor
   ·intro hs
    rcases bE.1 ((h s).1 (jX _ hs))with rfl|h1
    ·have:=p1 s hs;rw[sJ]at this;cases this
    ·exact h1
   ·intro hs
    rcases bE.1 ((h s).2 (jX _ hs))with rfl|h1
    ·have:=q1 s hs;rw[sJ]at this;cases this
    ·exact h1
end
def BI(l:List Hl)(s:List UInt8):Hl:=if zL l s<0 then⟨s,false,0⟩else l.c (zL l s).toNat kQ
theorem afx(l:List Hl)(s:List UInt8):(BI l s).E=s:=by
 unfold BI;split
 ·rfl
 ·rename_i h
  unfold zL at h ⊢;cases hf:l.findIdx? (fun x=>x.E==s)with
  | none=>rw[hf]at h;simp at h
  | some i=>
    obtain⟨hi,hn,_⟩:=ig.1 hf;simp only[Int.toNat_natCast];rw[av,aD hi];simpa using hn
def EL(l:List Hl)(names:List (List UInt8)):List Hl:=(Ih names).map (BI l)
def arZ:aC->Nat
 | .a _ n _=>n
 | _=>0
theorem ai2(l:List Hl)(U:List (List UInt8))(k:Nat)(hk:k<U.a):wY ((U.d k).map (BI l))++(BI l (U.c k [])).aA.a=wY ((U.d (k+1)).map (BI l)):=by
 rw[ac4,<-lW [] U k hk,iW];rfl
def Vi:Go.Shelf.Ren:=⟨fun|6=>214|8=>219|9=>274|19=>283|20=>284|21=>319|22=>320|23=>321|24=>322|25=>323|26=>324|27=>325|28=>326|29=>327|36=>355|31=>329|32=>330|37=>356|38=>357|39=>358|41=>370|n=>n,fun|27=>69|29=>9|3=>3|32=>259|26=>69|0=>0|44=>323|46=>92|4=>4|36=>352|35=>351|41=>158|5=>5|9=>9|53=>388|57=>392|63=>410|64=>152|n=>n,fun|n=>n⟩
theorem Vj:Go.Proofs.SlLaysM.n6 aj Vi:={
 mixed:=by kernel_rfl,
 f6:=⟨Tryz.f214.E,by decide,Tryz.func214.trans (congrArg some (by kernel_rfl))⟩,
 f8:=Tryz.func219.trans (congrArg some (by kernel_rfl)),
 f9:=⟨Tryz.f274.E,by decide,Tryz.func274.trans (congrArg some (by kernel_rfl))⟩,
 f19:=Tryz.func283.trans (congrArg some (by kernel_rfl)),
 f20:=Tryz.func284.trans (congrArg some (by kernel_rfl)),
 f21:=⟨Tryz.f319.E,by decide,Tryz.func319.trans (congrArg some (by kernel_rfl))⟩,
 f22:=⟨Tryz.f320.E,by decide,Tryz.func320.trans (congrArg some (by kernel_rfl))⟩,
 f23:=⟨Tryz.f321.E,by decide,Tryz.func321.trans (congrArg some (by kernel_rfl))⟩,
 f24:=⟨Tryz.f322.E,by decide,Tryz.func322.trans (congrArg some (by kernel_rfl))⟩,
 f25:=⟨Tryz.f323.E,by decide,Tryz.func323.trans (congrArg some (by kernel_rfl))⟩,
 f26:=⟨Tryz.f324.E,by decide,Tryz.func324.trans (congrArg some (by kernel_rfl))⟩,
 f27:=⟨Tryz.f325.E,by decide,Tryz.func325.trans (congrArg some (by kernel_rfl))⟩,
 f28:=⟨Tryz.f326.E,by decide,Tryz.func326.trans (congrArg some (by kernel_rfl))⟩,
 f29:=⟨Tryz.f327.E,by decide,Tryz.func327.trans (congrArg some (by kernel_rfl))⟩,
 f31:=Tryz.func329.trans (congrArg some (by kernel_rfl)),
 f32:=Tryz.func330.trans (congrArg some (by kernel_rfl)),
 f36:=⟨Tryz.f355.E,by decide,Tryz.func355.trans (congrArg some (by kernel_rfl))⟩,
 f37:=⟨Tryz.f356.E,by decide,Tryz.func356.trans (congrArg some (by kernel_rfl))⟩,
 f38:=⟨Tryz.f357.E,by decide,Tryz.func357.trans (congrArg some (by kernel_rfl))⟩,
 f39:=⟨Tryz.f358.E,by decide,Tryz.func358.trans (congrArg some (by kernel_rfl))⟩,
 f41:=⟨Tryz.f370.E,by decide,Tryz.func370.trans (congrArg some (by kernel_rfl))⟩,
 t0:=Ib,
 a0:=Tryz.isAgg0,
 z0:=Tryz.sizeOf0,
 v0:=JN,
 t3:=gY,
 a3:=Tryz.isAgg3,
 z3:=Tryz.sizeOf3,
 v3:=JO,
 t4:=nU,
 a4:=Tryz.isAgg4,
 z4:=Tryz.sizeOf4,
 v4:=JQ,
 t5:=Tryz.underlying5,
 a5:=Tryz.isAgg5,
 z5:=Tryz.sizeOf5,
 v5:=Tryz.zeroValue5,
 t9:=iR,
 a9:=Lr,
 z9:=Iw,
 v9:=Br,
 t26:=lT,
 a26:=Tryz.isAgg69,
 z26:=Tryz.sizeOf69,
 v26:=Tryz.zeroValue69,
 t27:=lT,
 a27:=Tryz.isAgg69,
 z27:=Tryz.sizeOf69,
 v27:=Tryz.zeroValue69,
 t29:=iR,
 a29:=Lr,
 z29:=Iw,
 v29:=Br,
 t32:=Tryz.underlying259,
 a32:=Tryz.isAgg259,
 z32:=Tryz.sizeOf259,
 v32:=Tryz.zeroValue259,
 t35:=Tryz.underlying351,
 a35:=Tryz.isAgg351,
 z35:=Tryz.sizeOf351,
 v35:=Tryz.zeroValue351,
 t36:=Tryz.underlying352,
 a36:=Tryz.isAgg352,
 z36:=Tryz.sizeOf352,
 v36:=Tryz.zeroValue352,
 t41:=Tryz.underlying158,
 a41:=Tryz.isAgg158,
 z41:=Tryz.sizeOf158,
 v41:=Tryz.zeroValue158,
 t44:=Tryz.underlying323,
 a44:=Tryz.isAgg323,
 z44:=Tryz.sizeOf323,
 v44:=Tryz.zeroValue323,
 t46:=Tryz.underlying92,
 a46:=Tryz.isAgg92,
 z46:=Tryz.sizeOf92,
 v46:=Tryz.zeroValue92,
 t53:=Tryz.underlying388,
 a53:=Tryz.isAgg388,
 z53:=Tryz.sizeOf388,
 v53:=Tryz.zeroValue388,
 t57:=Tryz.underlying392,
 a57:=Tryz.isAgg392,
 z57:=Tryz.sizeOf392,
 v57:=Tryz.zeroValue392,
 t63:=Tryz.underlying410,
 a63:=Tryz.isAgg410,
 z63:=Tryz.sizeOf410,
 v63:=Tryz.zeroValue410,
 t64:=Tryz.underlying152,
 a64:=Tryz.isAgg152,
 z64:=Tryz.sizeOf152,
 v64:=Tryz.zeroValue152}
def Pw:Go.Shelf.Ren:=⟨fun|44=>144|n=>n,fun|25=>69|26=>9|3=>3|4=>4|0=>0|n=>n,fun|n=>n⟩
theorem Np:Go.Proofs.SlLaysN.n44 aj Pw:={
 mixed:=by kernel_rfl,
 f44:=⟨Tryz.f144.E,by decide,Tryz.func144.trans (congrArg some (by kernel_rfl))⟩,
 t0:=Ib,
 a0:=Tryz.isAgg0,
 z0:=Tryz.sizeOf0,
 v0:=JN,
 t3:=gY,
 a3:=Tryz.isAgg3,
 z3:=Tryz.sizeOf3,
 v3:=JO,
 t4:=nU,
 a4:=Tryz.isAgg4,
 z4:=Tryz.sizeOf4,
 v4:=JQ,
 t25:=lT,
 a25:=Tryz.isAgg69,
 z25:=Tryz.sizeOf69,
 v25:=Tryz.zeroValue69,
 t26:=iR,
 a26:=Lr,
 z26:=Iw,
 v26:=Br,
 i26:=by kernel_rfl}
theorem BJ(l:List (List UInt8)):vS l=l.map encStr:=by
 unfold vS
 induction l with
 | nil=>rfl
 | cons x l ih=>rw[List.flatMap_cons,ih];rfl
def Ii(l:List (List UInt8)):List (List UInt8):=l.mergeSort fun x y=>decide (x<=y)
theorem ahu(x y:List UInt8):decide (x<=y) = !bR y x:=by
 rw[bytesLess_eq,Bool.eq_iff_iff];simp
theorem Nq(l:List (List UInt8)):(Ii l).a=l.a:=List.length_mergeSort _
theorem al3(s:List UInt8)(l:List (List UInt8)):s∈Ii l↔s∈l:=List.mem_mergeSort
theorem Je{a b c:List UInt8}(h1:bR b a=false)(h2:bR c b=false):bR c a=false:=by
 cases hc:bR c a
 ·rfl
 ·exfalso
  cases hb:bR a b
  ·have:=zP _ _ hb h1
   subst this;rw[hc]at h2;cases h2
  ·have:=yj _ _ _ hc hb
   rw[this]at h2;cases h2
theorem apD(l:List (List UInt8)):(Ii l).Pairwise (fun x y=>bR y x=false):=by
 have h:=List.pairwise_mergeSort (le:=fun x y:List UInt8=>decide (x<=y)) (fun a b c h1 h2=>by
  rw[ahu]at h1 h2 ⊢;simp only[Bool.not_eq_true']at h1 h2 ⊢;exact Je h1 h2) (fun a b=>by
  rw[ahu,ahu];cases h1:bR b a
  ·rfl
  ·rw[al2 h1];rfl) l
 refine h.imp ?_;intro a b hab;rw[ahu]at hab;simpa using hab
theorem ahv{l:List (List UInt8)}{i j:Nat}(hij:i<=j)(hj:j<l.a):bR ((Ii l).b[j]!) ((Ii l).b[i]!)=false:=by
 have hl:=Nq l;rw[getElem!_pos _ j (by simp;omega),getElem!_pos _ i (by simp;omega)];simp only[List.getElem_toArray];rcases aZ i j with h|h
 ·exact List.pairwise_iff_getElem.1 (apD l) i j (by omega) (by omega) h
 ·have:i=j:=by omega
  subst this;exact sJ _
theorem adj(zs:List (List UInt8))(s:List UInt8):s∈oK zs↔s∈zs:=by
 unfold oK Lib.compactUpTo;rw[List.mem_map];constructor
 ·rintro⟨j,hj,rfl⟩
  have hj2:=eG.1 (mH.1 hj).1;rw[getElem!_pos _ j (by simpa using hj2)];simp
 ·intro hs
  obtain⟨j0,hj0,he0⟩:=List.getElem_of_mem hs;have key:∀k,∀j (hj:j<zs.a),j<=k->zs[j]=s->∃i,i<zs.a/\Lib.keeps zs.b i=true/\zs.b[i]! = s:=by
   intro k
   induction k with
   | zero=>
     intro j hj hjk he;obtain rfl:j=0:=by omega
     refine⟨0,hj,by simp[Lib.keeps],?_⟩;rw[getElem!_pos _ 0 (by simpa using hj)];simpa using he
   | succ k ih=>
     intro j hj hjk he;by_cases hk:j=0\/zs.b[j]!≠zs.b[j-1]!
     ·refine⟨j,hj,by simp only[Lib.keeps];exact decide_eq_true hk,?_⟩
      rw[getElem!_pos _ j (by simpa using hj)];simpa using he
     ·have h1:j≠0:=fun h=>hk (.a h)
      have h2:zs.b[j]! = zs.b[j-1]!:=Classical.byContradiction fun h=>hk (.b h)
      rw[getElem!_pos _ j (by simpa using hj),getElem!_pos _ (j-1) (by simp;omega)]at h2;simp only[List.getElem_toArray]at h2;exact ih (j-1) (by omega) (by omega) (by rw[<-h2];exact he)
  obtain⟨i,hi,hk,he⟩:=key j0 j0 hj0 (ay _) he0;exact⟨i,mH.2 ⟨eG.2 hi,hk⟩,he⟩
theorem adk(l:List (List UInt8)):afw (oK (Ii l)):=by
 unfold afw oK Lib.compactUpTo;rw[List.pairwise_map];have hp:((dS (Ii l).a).filter (Lib.keeps (Ii l).b)).Pairwise (fun a b=>a<b):=List.Pairwise.filter _ List.pairwise_lt_range;refine(List.Pairwise.and_mem.1 hp).imp ?_;rintro a b ⟨ha,hb,hab⟩;obtain⟨hb1,hb2⟩:=mH.1 hb;have hbl:=eG.1 hb1;rw[Nq]at hbl;simp only[Lib.keeps,decide_eq_true_eq]at hb2;have hne:=hb2.resolve_left (by omega);have h1:=ahv (l:=l) (show a<=b-1 by omega) (by omega);have h2:=ahv (l:=l) (show b-1<=b by omega) hbl;cases hc:bR ((Ii l).b[a]!) ((Ii l).b[b]!)
 ·exfalso
  have h3:=Je h1 h2;have e:=zP _ _ hc h3;have h4:bR ((Ii l).b[b-1]!) ((Ii l).b[b]!)=false:=by rw[<-e];exact h1
  exact hne (zP _ _ h2 h4)
 ·rfl
theorem Nr(l:List (List UInt8)):oK (Ii l)=Ih l:=
 Vh _ _ (adk l) (adg l) (fun s=>by rw[adj,al3,Vg])
theorem ai3(base:Nat)(names:List (List UInt8))(A:Option aU)(n c:Nat)(w:au)(hn:n<=100000)(hl:names.a=n)(h:w.c base 9 1 (.a A n c) n (vS names)):
 aQ aj 214 #[.a A n c] w fun e w'=>e=.a (.K #[])/\w'.c base 9 1 (.a A n c) n (vS (Ii names))/\w.d w' (bC A n c).ownBlock:=by
 subst hl;rcases h.2 with⟨hv,h0⟩|⟨g,cap,cur,hv,h2,h3,h4,h5,h6,h7⟩
 ·injection hv with e1 e2 e3
  subst e1 e3;have hnil:names=[]:=bG h0;subst hnil;refine(AnyM.slices_Sort_string_none Vj none 0 w).mono ?_;rintro e w' ⟨rfl,rfl⟩;refine⟨rfl,?_,World.grownBy.refl _ _⟩;rw[show Ii []=[]by simp[Ii]];exact h
 ·injection hv with e1 e2 e3
  subst e1 e3;have hg:g<w.a.j:=(bW.1 h3).1;rw[gL]at h7;have hH:Go.Sort.Holds encStr w g 0 names.b:=Go.holds_of_block h3 (by rw[h7,BJ]);refine(AnyM.slices_Sort_string Vj g 0 c names w hH hg (by omega)).mono ?_;rintro e w' ⟨rfl,nn,os,rfl⟩;refine⟨rfl,?_,Go.grownBy_sorted _⟩;rw[BJ];exact Go.ownsRow_sorted (ss:=names) (Nq names) h2 h3 h4 h5 h6
theorem aaK(base:Nat)(zs:List (List UInt8))(A:Option aU)(n c:Nat)(w:au)(hn:n<=100000)(hl:zs.a=n)(h:w.c base 9 1 (.a A n c) n (vS zs))(m:Nat)(hm:(oK zs).a=m):
 aQ aj 144 #[.a A n c] w fun e w'=>e=.a (.a A m c)/\w'.c base 9 1 (.a A m c) m (vS (oK zs))/\w.d w' (bC A n c).ownBlock:=by
 subst hl hm;rcases h.2 with⟨hv,h0⟩|⟨g,cap,cur,hv,h2,h3,h4,h5,h6,h7⟩
 ·injection hv with e1 e2 e3
  subst e1 e3;have hnil:zs=[]:=bG h0;subst hnil;refine(AnyG.slices_Compact_string_empty Np none 0 w).mono ?_;rintro e w' ⟨rfl,rfl⟩;exact⟨rfl,h,World.grownBy.refl _ _⟩
 ·injection hv with e1 e2 e3
  subst e1 e3;rw[gL]at h7;have hH:Go.Sort.Holds encStr w g 0 zs.b:=Go.holds_of_block h3 (by rw[h7,BJ]);refine(AnyG.slices_Compact_string Np g 0 c zs w hH (by omega) h4).mono ?_;rintro e w' ⟨rfl,q,rfl⟩;have hle:(oK zs).a<=zs.a:=by
   unfold oK Lib.compactUpTo;rw[bV];exact aP (List.length_filter_le _ _) (by simp)
  have hs:=Go.ownsRow_sorted (n:=q) (os:=#[]) (e:=9) (base:=base) (w:=w) (g:=g) (cap:=c) (cur:=cur) (ss:=zs) (ts:=oK zs++eu (zs.a-(oK zs).a) []) (by simp;omega) h2 h3 h4 h5 h6;have hg:=Go.grownBy_sorted (w:=w) (g:=g) (n:=q) (os:=#[]) (oK zs++eu (zs.a-(oK zs).a) []).b;rw[Go.Sort.grow_empty]at hs hg;refine⟨rfl,⟨by rw[BJ];simp,.b ?_⟩,hg⟩;rcases hs.2 with⟨hv,_⟩|⟨g',cap',cur',hv,k2,k3,k4,k5,k6,k7⟩
  ·cases hv
  ·injection hv with e1 _ e3
   injection e1 with e1
   injection e1 with e1
   subst e1 e3;refine⟨g,c,cur',rfl,k2,k3,by omega,k5,k6,?_⟩;rw[gL]at k7 ⊢;have:=congrArg (List.take (oK zs).a) k7;rw[List.take_take,oI hle]at this;rw[this,BJ,iW,List.take_left' (by simp)]
section
open Go.RowKit Go.Shelf
attribute [local go_sem] qA
theorem afy(F:KU)(n:Nat)(hf:F.fn 215)(hro:F.round=none)(hn:1<=n)(l Bs n₀:Nat)(A:Option aU)(len cap:Nat)(zs:List (List UInt8))(hlen:len<=100000)(J Jx:List (List UInt8)->au->Prop)
 (hY:∀pre x W,J pre W->pre.a<len->YieldAt F (n-1) aj l #[.g (bP x)] W fun e W'=>
  (e=.a (.e true)/\J (pre++[x]) W'/\aM n₀ W W')\/(e=.a (.e false)/\Jx (pre++[x]) W'))
 (W:au) (Px:W.b ⟨Bs,0,none⟩=some (.a A len cap)) (hR:RdT W n₀ A len zs) (h0:J [] W) :
 Mw F n aj 215 #[.func (.yield l) #[] #[],.c (some ⟨Bs,0,none⟩)] W fun e W'=>(∃v,e=.a v) /\
  ((∃ys,ys=zs/\J ys W')\/(∃pre,pre <+: zs/\Jx pre W')):=by
 have hzl:=hR.1;refine Cu Tryz.func215 rfl hf ?_ hro;simp only[Tryz.ntmps215,dP,bD,gQ,kM,kN,gH,gI,iQ,gX,dG,iA];gi_wp2;gi_loopw [7] (fun i wr=>∃k:Nat,k<=len/\i=.b .a k/\J (zs.d k) wr/\aM n₀ W wr)
  (fun i _=>len-(intOf i).toNat)
 case atStart=>exact⟨0,Nat.zero_le _,rfl,h0,aH _ _⟩
 case round=>
  obtain⟨k,hk,rfl,hJs,hnx⟩:=hrel;by_cases hlt:k<len
  ·have hki:(k:Int)<len:=by omega
   obtain⟨b,o,rfl,hbb,hc⟩:=(hR.S hnx).text hlt;obtain⟨x,hx⟩:=dw (zs.c k []);rw[<-hx]at hc;have hsn:zs.d k++[x]=zs.d (k+1):=by rw[hx];exact lW [] zs k (by omega)
   have DV:=ah hsn;clear hx hsn hbb;obtain⟨fn,tmps,assign,body,hy,hRd⟩:=hY _ x wr hJs (by rw[bL];omega);gi_wp2;refine hRd.mono ?_;rintro e W3 (⟨rfl,hJ3,hk3⟩|⟨rfl,hJx3⟩)
   ·gi_wp2
    go_roundw
    case rel=>exact⟨k+1,by omega,by simp,by rw[<-DV.i];exact hJ3,hnx.trans hk3⟩
    case measure=>simp[intOf];omega
   ·gi_wp2
    refine aO (vw rfl _ _ _) rfl ?_;exact⟨⟨_,rfl⟩,.b ⟨_,by rw[DV.i];exact List.take_prefix _ _,hJx3⟩⟩
  ·obtain rfl:k=len:=by omega
   have hd:decide ((k:Int)<k)=false:=by simp
   gi_wp2;go_end0;exact⟨⟨_,rfl⟩,.a ⟨_,aL (by omega),hJs⟩⟩
theorem afz(A:Option aU)(len cap:Nat)(w:au):
 aQ aj 146 #[.a A len cap] w fun e w'=>e=.a (.func (.func 215) #[] #[.c (some ⟨w.a.j,0,none⟩)])/\w.alloc (.D #[.a A len cap] 69)=w':=by
 go_enter Tryz.func146,Tryz.ntmps146;go_wp2;go_ret;exact⟨rfl,rfl⟩
theorem aaL(F:KU)(n:Nat)(hf:F.fn 215)(hro:F.round=none)(hn:1<=n)(Bs n₀:Nat)(A:Option aU)(len cap:Nat)(zs:List (List UInt8))(hlen:len<=100000)(w:au)(Px:Bs<w.a.j)(hn₀:n₀<=w.a.j)
 (hc:w.b ⟨Bs,0,none⟩=some (.a A len cap)) (hR:RdT w n₀ A len zs) :
 vQ F n aj 215 #[.c (some ⟨Bs,0,none⟩)] (fun x:List UInt8=>#[Value.string (bP x)]) (aM n₀) (fun ys=>ys=zs) (fun pre=>pre <+: zs) len w:=fun l J Jx W hW _ _ hY h0=>by
 have hc':=(hW.cell (p:=⟨Bs,0,none⟩) Px).trans hc;exact afy F n hf hro hn l Bs n₀ A len cap zs hlen J Jx hY W hc' (hR.to hW hn₀) h0
theorem aaM(F:KU)(n:Nat)(h3:F.fn 273)(h5:F.fn 215)(hro:F.round=none)(hn:3<=n)(Bs:Nat)(A:Option aU)(len cap:Nat)(zs:List (List UInt8))(hlen:len<=100000)(w:au)(Px:Bs<w.a.j)
 (hc:w.b ⟨Bs,0,none⟩=some (.a A len cap)) (hR:RdT w w.a.j A len zs) :
 Mw F n aj 273 #[.a none 0 0,.func (.func 215) #[] #[.c (some ⟨Bs,0,none⟩)]] w fun e W'=>
  ∃A' c',e=.a (.a A' len c')/\W'.c w.a.j 9 1 (.a A' len c') len (vS zs)/\aM w.a.j w W':=by
 have h1:1<=n:=by omega
 have hzl:=hR.1;obtain⟨i0,hi,hz0,hz1,hzb⟩:=ZU;refine rz Tryz.func273 rfl h3 ?_ hro;simp only[Tryz.ntmps273,dP,bD,gQ,kM,kN,gH,gI,iQ,gX,dG,iA];gi_wp2;have bO:=Cv w 69 (.a none 0 0);have hB0:aM w.a.j w (w.alloc (.D #[.a none 0 0] 69)):=(aH _ w).alloc (ay _) _;refine wpIn_rangeFunc_ownG hro h1 (gf:=215) (lb:=#[.c (some ⟨Bs,0,none⟩)]) rfl h5 (enters_of Tryz.func215 (by kernel_rfl) rfl)
  (aaL F (n-1) h5 hro (by omega) Bs w.a.j A len cap zs hlen _ (by simp;omega) (by simp) ((hB0.cell (p:=⟨Bs,0,none⟩) Px).trans hc) (hR.S hB0)) belowK_t (vL (by simp)) (aH _ _) (fun _=>rfl)
  (fun pre W=>(∃v,Boxed W w.a.j 69 v/\W.c w.a.j 9 1 v pre.a (vS pre)/\True)/\aM w.a.j w W)
  (fun _ _ _=>False)
  (tJ (Own.from (holdsRow_own w.a.j w.a.j 69 9 1 (fun pre=>pre.a) (fun pre=>vS pre) (fun _ _=>True)) _) (yT (ay _) (by simp)))
  (fun _ _ _ _ _ hs _ _=>hs)
  ⟨⟨_,bO,fB _ _ _ _,trivial⟩,hB0⟩
  (fun x=>{tmps:=#[.a none 0 0,.func (.func 215) #[] #[.c (some ⟨Bs,0,none⟩)],.c (some ⟨w.a.j,0,none⟩),undef,.a none 0 0,.g (bP x),.func (.func 215) #[] #[.c (some ⟨Bs,0,none⟩)],.g (bP x),undef,undef,undef,undef,undef],defers:=[]}) ?assign ?body ?done ?stop
 case assign=>
  intro l x W K hK;gi_wp2;exact hK
 case body=>
  rintro l pre x W ⟨⟨v,hv,hrow,_⟩,hB⟩ hlt;have hcv:=hv.cell;have hby:(pre.a+1)*i0.bytes<=140737488355328:=aP (gP (show pre.a+1<=100002 by omega) hzb) (by omega);gi_wp2_with (gi_at_builtin;refine wpListIn_append_own _ rfl _ _ 69 rfl w.a.j 9 i0 (.g ⟨#[]⟩) 1 i0.bytes lT hi hz0 hz1 rfl rfl (by decide) _ _ _ rfl (hrow.alloc _) ⟨W.a.j,0,none⟩ 1 1 [.g (bP x)] rfl rfl (cell_one_new _ _ _) (by simp[dx]) (by unfold maxLen;omega) hby (by have:=hB.j;simp;omega) ?_;intro v' w1 hown' hgrow _;obtain⟨g',cap',rfl⟩:=ownsRow_succ hown';obtain⟨hv1,hv2,hr2,hk2,hb2⟩:=hv.appended (by decide) hrow hB.j (ay _) hown' hgrow;have hc1:=hv1.cell;have hf1:=hv1.frozen);exact⟨hk2.from _,hb2,⟨_,hv2,by rw[aS,<-Qq];exact hr2,trivial⟩,hB.trans hb2⟩
 case done=>
  rintro D ys W hD rfl ⟨⟨v,hv,hrow,_⟩,hB⟩ hK;have hcv:=hv.cell;gi_wp2;refine⟨by simp,.a ⟨_,_,rfl,uE hK,?_⟩⟩;rw[hzl]at hrow;obtain⟨A',c',hv',_,_⟩:=jw hrow;refine⟨_,Iy rfl _ _ _,A',c',by rw[<-hv'];rfl,?_,hB.trans (vL (w:=w) (ay _) W D _ _ (by simp at hD;omega) hK rfl rfl)⟩;rw[<-hv'];exact ownsRow_putObj hrow _ hK rfl
 case stop=>
  rintro D c pre W _ _ h _;exact h.elim
def TxN(w:au)(n:Nat)(m:List (List UInt8))(e:Ending)(w':au):Prop:=
 ∃A c,e=.a (.a A n c)/\w'.c w.a.j 9 1 (.a A n c) n (vS m)/\aM w.a.j w w'
theorem Xv(Bs:Nat)(A:Option aU)(len cap:Nat)(zs:List (List UInt8))(hlen:len<=100000)(w:au)(Px:Bs<w.a.j)
 (hc:w.b ⟨Bs,0,none⟩=some (.a A len cap)) (hR:RdT w w.a.j A len zs) :
 aQ aj 273 #[.a none 0 0,.func (.func 215) #[] #[.c (some ⟨Bs,0,none⟩)]] w (TxN w len zs):=
 (ny (n:=6)).1 (aaM nP 6 trivial trivial rfl (by omega) Bs A len cap zs hlen w Px hc hR)
theorem adl(Bs:Nat)(A:Option aU)(len cap:Nat)(zs:List (List UInt8))(hlen:len<=100000)(w:au)(Px:Bs<w.a.j)
 (hc:w.b ⟨Bs,0,none⟩=some (.a A len cap)) (hR:RdT w w.a.j A len zs) :
 aQ aj 213 #[.func (.func 215) #[] #[.c (some ⟨Bs,0,none⟩)]] w (TxN w len zs):=by
 have AP:=ah (Xv Bs A len cap zs hlen w Px hc hR);clear hc hR;go_enter Tryz.func213,Tryz.ntmps213;go_wp2_with fail;refine AP.i.mono ?_;rintro e w1 ⟨A1,c1,rfl,ho,hb⟩;have HO:=ah ho;have HB:=ah hb;clear ho hb;go_wp2;go_ret;exact⟨A1,c1,rfl,HO.i,HB.i⟩
theorem adn(Bs:Nat)(A:Option aU)(len cap:Nat)(zs:List (List UInt8))(hlen:len<=100000)(w:au)(Px:Bs<w.a.j)
 (hc:w.b ⟨Bs,0,none⟩=some (.a A len cap)) (hR:RdT w w.a.j A len zs) :
 aQ aj 145 #[.func (.func 215) #[] #[.c (some ⟨Bs,0,none⟩)]] w (TxN w len (Ii zs)):=by
 have HZ:=ah hR.1;have AP:=ah (adl Bs A len cap zs hlen w Px hc hR);clear hc hR;go_enter Tryz.func145,Tryz.ntmps145;go_wp2_with fail;refine AP.i.mono ?_;rintro e w1 ⟨A1,c1,rfl,ho,hb⟩;have HO:=ah ho;have HB:=ah hb;have ST:=ah (ai3 w.a.j zs A1 len c1 w1 hlen HZ.i ho);clear ho hb;go_wp2_with fail;refine ST.i.mono ?_;rintro e w2 ⟨rfl,ho2,hg⟩;have HO2:=ah ho2;have HB2:=ah (HB.i.grown hg HB.i.j (fun k hk=>(HO.i.lt k hk).1));clear ho2 hg;go_wp2;go_ret;exact⟨A1,c1,rfl,HO2.i,HB2.i⟩
end
section
open Go.RowKit Go.Shelf
attribute [local go_sem] qA
def uF(n:Nat):List Nat:=(dS n).reverse
theorem Yx(n:Nat):(uF n).a=n:=by simp[uF]
theorem Vk(n j:Nat)(hj:j<n):(uF n).d (n-1-j)++[j]=(uF n).d (n-j):=by
 have h:(uF n)[n-1-j]? = some j:=by
  unfold uF;rw[List.getElem?_reverse (by simp;omega),List.length_range,show n-1-(n-1-j)=j by omega,wO hj]
 obtain⟨h1,h2⟩:=List.getElem?_eq_some_iff.1 h;rw[show n-j=n-1-j+1 by omega,List.take_succ_eq_append_getElem h1,h2]
def KpB(n₀ Bs:Nat)(W W':au):Prop:=aM n₀ W W'/\W'.a[Bs]? = W.a[Bs]?
theorem KpB.refl(n₀ Bs:Nat)(W:au):KpB n₀ Bs W W:=⟨aH _ _,rfl⟩
theorem KpB.trans{n₀ Bs:Nat}{A B C:au}(h:KpB n₀ Bs A B)(k:KpB n₀ Bs B C):KpB n₀ Bs A C:=⟨h.1.trans k.1,k.2.trans h.2⟩
theorem KpB.cell{n₀ Bs:Nat}{W W':au}{v:aC}(h:KpB n₀ Bs W W')(hc:W.b ⟨Bs,0,none⟩=some v):W'.b ⟨Bs,0,none⟩=some v:=by
 rw[<-hc];simp only[World.cell?,h.2]
theorem al6(F:KU)(n:Nat)(hf:F.fn 212)(hro:F.round=none)(hn:1<=n)(l Bs n₀:Nat)(A:Option aU)(len cap:Nat)(zs:List Hl)(hlen:len<=100000)(J Jx:List Nat->au->Prop)
 (hY:∀pre x W,J pre W->pre.a<len->YieldAt F (n-1) aj l #[.b .a (x:Nat),.agg (zs.c x kQ).aA] W fun e W'=>
  (e=.a (.e true)/\J (pre++[x]) W'/\KpB n₀ Bs W W')\/(e=.a (.e false)/\Jx (pre++[x]) W'))
 (W:au) (Px:W.b ⟨Bs,0,none⟩=some (.a A len cap)) (hR:RdH W n₀ A len zs) (h0:J [] W) :
 Mw F n aj 212 #[.func (.yield l) #[] #[],.c (some ⟨Bs,0,none⟩)] W fun e W'=>(∃v,e=.a v) /\
  ((∃ys,ys=uF len/\J ys W')\/(∃pre,True/\Jx pre W')):=by
 have hzl:=hR.1;have hbl:=Yx len;refine Cu Tryz.func212 rfl hf ?_ hro;simp only[Tryz.ntmps212,dP,bD,gQ,kM,kN,gH,gI,iQ,gX,dG,iA];have hst:∃i0:Int,(len:Int)-1=i0/\((i0 = -1/\len=0)\/(∃j:Nat,i0=j/\j+1=len)):=by
  refine⟨_,rfl,?_⟩;rcases eD len with h|h
  ·exact .a ⟨by omega,h⟩
  ·exact .b ⟨len-1,by omega,by omega⟩
 obtain⟨i0,hi0,hst⟩:=hst;gi_wp2;gi_loopw [3] (fun i wr=>∃i1:Int,i=.b .a i1/\((i1 = -1/\J (uF len) wr)\/(∃j:Nat,i1=j/\j<len/\J ((uF len).d (len-1-j)) wr))/\KpB n₀ Bs W wr)
  (fun i _=>(intOf i+1).toNat)
 case atStart=>
  refine⟨i0,rfl,?_,KpB.refl _ _ _⟩;rcases hst with⟨h1,h2⟩|⟨j,h1,h2⟩
  ·refine .a ⟨h1,?_⟩
   have:uF len=[]:=bG (by omega);rw[this];exact h0
  ·refine .b ⟨j,h1,by omega,?_⟩
   rw[show len-1-j=0 by omega];exact h0
 case round=>
  obtain⟨i1,rfl,hcase,hnx⟩:=hrel;clear hst hi0;have hBw:wr.b ⟨Bs,0,none⟩=some (.a A len cap):=hnx.cell Px;rcases hcase with⟨rfl,hJs⟩|⟨j,rfl,hjl,hJs⟩
  ·gi_wp2
   go_end0;exact⟨⟨_,rfl⟩,.a ⟨_,rfl,hJs⟩⟩
  ·have hj0:decide ((0:Int)<=(j:Int))=true:=by simp
   have aC1:(j:Int)<len:=by omega
   obtain⟨b,o,rfl,hbb,hh,hc,_,_⟩:=(hR.S hnx.1).hl hjl;obtain⟨x,hx⟩:=dw (zs.c j kQ);rw[<-hx]at hc;have DV:=ah (show(uF len).d (len-1-j)++[j]=(uF len).d (len-j)from Vk len j (by omega));obtain⟨fn,tmps,assign,body,hy,hRd⟩:=hY _ j wr hJs (by rw[bL];omega);rw[<-hx]at hy;clear hx hbb;gi_wp2;refine hRd.mono ?_;rintro e W3 (⟨rfl,hJ3,hk3⟩|⟨rfl,hJx3⟩)
   ·gi_wp2
    go_roundw
    case rel=>
     refine⟨_,rfl,?_,hnx.trans hk3⟩;rw[DV.i]at hJ3;rcases eD j with h|h
     ·refine .a ⟨by omega,?_⟩
      rw[aL (by omega)]at hJ3;exact hJ3
     ·refine .b ⟨j-1,by omega,by omega,?_⟩
      rw[show len-1-(j-1)=len-j by omega];exact hJ3
    case measure=>simp[intOf]<;>omega
   ·gi_wp2
    refine aO (vw rfl _ _ _) rfl ?_;exact⟨⟨_,rfl⟩,.b ⟨_,trivial,hJx3⟩⟩
theorem al7(A:Option aU)(len cap:Nat)(w:au):
 aQ aj 143 #[.a A len cap] w fun e w'=>e=.a (.func (.func 212) #[] #[.c (some ⟨w.a.j,0,none⟩)])/\w.alloc (.D #[.a A len cap] 33)=w':=by
 go_enter Tryz.func143,Tryz.ntmps143;go_wp2;go_ret;exact⟨rfl,rfl⟩
theorem afA(F:KU)(n:Nat)(hf:F.fn 212)(hro:F.round=none)(hn:1<=n)(Bs n₀:Nat)(A:Option aU)(len cap:Nat)(zs:List Hl)(hlen:len<=100000)(w:au)(Px:Bs<w.a.j)(hn₀:n₀<=w.a.j)
 (hc:w.b ⟨Bs,0,none⟩=some (.a A len cap)) (hR:RdH w n₀ A len zs) :
 vQ F n aj 212 #[.c (some ⟨Bs,0,none⟩)] (fun x:Nat=>#[aJ .a (x:Nat),.agg (zs.c x kQ).aA]) (KpB n₀ Bs) (fun ys=>ys=uF len) (fun _=>True) len w:=fun l J Jx W hW _ _ hY h0=>by
 have hc':=(hW.cell (p:=⟨Bs,0,none⟩) Px).trans hc;exact al6 F n hf hro hn l Bs n₀ A len cap zs hlen J Jx hY W hc' (hR.to hW hn₀) h0
section
variable {H:Type}
def hlD(x:Hl):zI H:=.agg [.lit (.g x.E),.lit (.e x.down),.lit (.b .a x.J)]
def Jf:aC->Option (zI H×List sV)
 | .agg c=>match c.a with
   | [.g s,.e b,.b .a r]=>some (hlD ⟨s.data.a,b,r⟩,[])
   | _=>none
 | _=>none
theorem Yy(x:Hl):Jf (H:=H) (.agg x.aA)=some (hlD x,[]):=by
 simp[Jf,Hl.aA,bP]
theorem afB{v:aC}{z:zI H×List sV}(h:Jf v=some z):∃x:Hl,v=.agg x.aA/\z=(hlD x,[]):=by
 unfold Jf at h;split at h
 ·rename_i c
  split at h
  ·rename_i s b r hc
   injection h with h
   refine⟨⟨s.data.a,b,r⟩,?_,h.symm⟩;have:c = #[.g s,.e b,.b .a r]:=by rw[<-Array.toArray_toList (xs:=c),hc]
   rw[this];simp[Hl.aA,Qo]
  ·cases h
 ·cases h
theorem ahw{x y:Hl}(h:hlD (H:=H) x=hlD y):x=y:=by
 cases x;cases y;simp[hlD]at h;obtain⟨rfl,rfl,rfl⟩:=h;rfl
def Yz(D:zI H)(f:List UInt8->Option Hl):Prop:=
 Maps.IsMap D/\∀s,Maps.has D (.g s)=(f s).isSome/\∀zd,D.atKey (.g s) zd=match f s with|some x=>hlD x|none=>zd
def Gs(l:List Hl)(pre:List Nat)(s:List UInt8):Option Hl:=(pre.reverse.map (fun k=>l.c k kQ)).find? (fun x=>x.E==s)
theorem ado(l:List Hl)(pre:List Nat)(p:Nat)(s:List UInt8):Gs l (pre++[p]) s=if(l.c p kQ).E==s then some (l.c p kQ)else Gs l pre s:=by
 unfold Gs;rw[List.reverse_append];simp only[List.reverse_cons,List.reverse_nil,dG,iA,kK,List.find?_cons];cases(l.c p kQ).E==s<;>rfl
theorem afC(l:List Hl)(s:List UInt8):Gs l (uF l.a) s=l.find? (fun x=>x.E==s):=by
 unfold Gs uF;rw[List.reverse_reverse];congr 1;apply iN;intro i;rw[jm];rcases aZ i l.a with h|h
 ·rw[wO h,aD h]
  simp only[Option.map_some];rw[av,aD h];rfl
 ·rw[aT (by simpa using h),aT h];rfl
theorem ai4(l:List Hl):Yz (H:=H) (.map []) (Gs l []):=⟨⟨[],rfl⟩,fun s=>⟨rfl,fun zd=>rfl⟩⟩
theorem ai5{D:zI H}{l:List Hl}{pre:List Nat}(h:Yz D (Gs l pre))(k:Nat)(p:Hl)(hp:p=l.c k kQ):Yz (D.put (.g p.E) (hlD p)) (Gs l (pre++[k])):=by
 obtain⟨hm,hs⟩:=h;have hk:Go.WideAt.IsKeyLit (.g p.E):=trivial;refine⟨hm.put _ _,fun s=>?_⟩;rw[ado,<-hp];by_cases hn:p.E=s
 ·subst hn
  have:(p.E==p.E)=true:=by simp
  rw[this];exact⟨Maps.has_put_same hm hk _,fun zd=>Maps.atKey_put_same hm hk _ _⟩
 ·have hb:(p.E==s)=false:=by simpa using hn
  rw[hb];have hne:(Lit.string s)≠.g p.E:=fun e=>hn (by injection e with e;exact e.symm)
  obtain⟨h1,h2⟩:=hs s;exact⟨by rw[Maps.has_put_other hne];exact h1,fun zd=>by rw[Maps.atKey_put_other hne];exact h2 zd⟩
end
end
section
open Go.RowKit Go.Shelf
attribute [local go_sem] qA
theorem ai6(F:KU)(n:Nat)(hf:F.fn 306)(hro:F.round=none)(hn:1<=n)(l Bs n₀:Nat)(A:Option aU)(len cap:Nat)(zs:List UInt8)(hlen:len<=100000)(J Jx:List Nat->au->Prop)
 (hY:∀pre x W,J pre W->pre.a<len->YieldAt F (n-1) aj l #[.b .a (x:Nat),bv (zs.c x 0)] W fun e W'=>
  (e=.a (.e true)/\J (pre++[x]) W'/\KpB n₀ Bs W W')\/(e=.a (.e false)/\Jx (pre++[x]) W'))
 (W:au) (Px:W.b ⟨Bs,0,none⟩=some (.a A len cap)) (hR:fZ W n₀ A len zs) (h0:J [] W) :
 Mw F n aj 306 #[.func (.yield l) #[] #[],.c (some ⟨Bs,0,none⟩)] W fun e W'=>(∃v,e=.a v) /\
  ((∃ys,ys=uF len/\J ys W')\/(∃pre,True/\Jx pre W')):=by
 have hzl:=hR.len;have hbl:=Yx len;refine Cu Tryz.func306 rfl hf ?_ hro;simp only[Tryz.ntmps306,dP,bD,gQ,kM,kN,gH,gI,iQ,gX,dG,iA];have hst:∃i0:Int,(len:Int)-1=i0/\((i0 = -1/\len=0)\/(∃j:Nat,i0=j/\j+1=len)):=by
  refine⟨_,rfl,?_⟩;rcases eD len with h|h
  ·exact .a ⟨by omega,h⟩
  ·exact .b ⟨len-1,by omega,by omega⟩
 obtain⟨i0,hi0,hst⟩:=hst;gi_wp2;gi_loopw [3] (fun i wr=>∃i1:Int,i=.b .a i1/\((i1 = -1/\J (uF len) wr)\/(∃j:Nat,i1=j/\j<len/\J ((uF len).d (len-1-j)) wr))/\KpB n₀ Bs W wr)
  (fun i _=>(intOf i+1).toNat)
 case atStart=>
  refine⟨i0,rfl,?_,KpB.refl _ _ _⟩;rcases hst with⟨h1,h2⟩|⟨j,h1,h2⟩
  ·refine .a ⟨h1,?_⟩
   have:uF len=[]:=bG (by omega);rw[this];exact h0
  ·refine .b ⟨j,h1,by omega,?_⟩
   rw[show len-1-j=0 by omega];exact h0
 case round=>
  obtain⟨i1,rfl,hcase,hnx⟩:=hrel;clear hst hi0;have hBw:wr.b ⟨Bs,0,none⟩=some (.a A len cap):=hnx.cell Px;rcases hcase with⟨rfl,hJs⟩|⟨j,rfl,hjl,hJs⟩
  ·gi_wp2
   go_end0;exact⟨⟨_,rfl⟩,.a ⟨_,rfl,hJs⟩⟩
  ·have hj0:decide ((0:Int)<=(j:Int))=true:=by simp
   have aC1:(j:Int)<len:=by omega
   obtain⟨a,rfl,hab,hc⟩:=(hR.S hnx.1).fG (k:=j) (by omega);obtain⟨x,hx⟩:=dw (zs.c j 0);rw[<-hx]at hc;have DV:=ah (show(uF len).d (len-1-j)++[j]=(uF len).d (len-j)from Vk len j (by omega));obtain⟨fn,tmps,assign,body,hy,hRd⟩:=hY _ j wr hJs (by rw[bL];omega);rw[<-hx]at hy;clear hx;gi_wp2;refine hRd.mono ?_;rintro e W3 (⟨rfl,hJ3,hk3⟩|⟨rfl,hJx3⟩)
   ·gi_wp2
    go_roundw
    case rel=>
     refine⟨_,rfl,?_,hnx.trans hk3⟩;rw[DV.i]at hJ3;rcases eD j with h|h
     ·refine .a ⟨by omega,?_⟩
      rw[aL (by omega)]at hJ3;exact hJ3
     ·refine .b ⟨j-1,by omega,by omega,?_⟩
      rw[show len-1-(j-1)=len-j by omega];exact hJ3
    case measure=>simp[intOf]<;>omega
   ·gi_wp2
    refine aO (vw rfl _ _ _) rfl ?_;exact⟨⟨_,rfl⟩,.b ⟨_,trivial,hJx3⟩⟩
theorem ai7(A:Option aU)(len cap:Nat)(w:au):
 aQ aj 252 #[.a A len cap] w fun e w'=>e=.a (.func (.func 306) #[] #[.c (some ⟨w.a.j,0,none⟩)])/\w.alloc (.D #[.a A len cap] 56)=w':=by
 go_enter Tryz.func252,Tryz.ntmps252;go_wp2;go_ret;exact⟨rfl,rfl⟩
theorem adp(F:KU)(n:Nat)(hf:F.fn 306)(hro:F.round=none)(hn:1<=n)(Bs n₀:Nat)(A:Option aU)(len cap:Nat)(zs:List UInt8)(hlen:len<=100000)(w:au)(Px:Bs<w.a.j)(hn₀:n₀<=w.a.j)
 (hc:w.b ⟨Bs,0,none⟩=some (.a A len cap)) (hR:fZ w n₀ A len zs) :
 vQ F n aj 306 #[.c (some ⟨Bs,0,none⟩)] (fun x:Nat=>#[aJ .a (x:Nat),bv (zs.c x 0)]) (KpB n₀ Bs) (fun ys=>ys=uF len) (fun _=>True) len w:=fun l J Jx W hW _ _ hY h0=>by
 have hc':=(hW.cell (p:=⟨Bs,0,none⟩) Px).trans hc;exact ai6 F n hf hro hn l Bs n₀ A len cap zs hlen J Jx hY W hc' (hR.to hW hn₀) h0
theorem fZ.upM{w:au}{B n k:Nat}{A:Option aU}{l:List UInt8}(h:fZ w B A n l)(hk:k<=n):fZ w B A k (l.d k):=by
 have:=Rd.upto h hk
 rwa [gL,<-Ap]at this
theorem al8(zs:List UInt8)(m:Nat)(hm:zs.a=m):(uF m).map (fun i=>zs.c i 0)=zs.reverse:=by
 subst hm;unfold uF;rw[List.map_reverse];congr 1;apply iN;intro i;rw[jm];rcases aZ i zs.a with h|h
 ·rw[wO h,aD h];simp[av,h]
 ·rw[aT (by simpa using h),aT h];rfl
theorem LU(A:Option aU)(n c:Nat)(l:List UInt8)(w:au)(hnc:n<=c)(hc:c<=9223372036854775807)(hr:fZ w w.a.j A n l):
 aQ aj 180 #[.a A n c,.e false] w (gy w (.b .c (leN (l.d 8)))):=by
 refine(ny (n:=8)).1 ?_;have hlen:=hr.len;obtain⟨m,hm,hm8,hmn⟩:∃m:Nat,(if(8:Int)<(n:Int)then(8:Int)else(n:Int))=m/\m<=8/\m<=n:=⟨min n 8,by split<;>omega,by omega,by omega⟩
 have hmm:m=min n 8:=by split at hm<;>omega
 have hm2:min (n:Int) 8=m:=by omega
 have HR:=ah (hr.upM hmn);obtain⟨zs,hzs⟩:=dw (l.d m);have HZL:=ah (show zs.a=m by rw[hzs,bL];omega);have HZ8:=ah (show l.d 8=zs by
  rw[hzs,hmm];by_cases h8:n<=8
  ·rw[oI h8,aL (by omega),aL (by omega)]
  ·rw[Nat.min_eq_right (by omega)])
 rw[<-hzs]at HR;rw[HZ8.i];clear hr hmm hzs HZ8 hlen;have hfn:∀f,nP.fn f:=fun _=>trivial
 refine rz Tryz.func180 rfl trivial ?_ rfl;simp only[Tryz.ntmps180,dP,bD,gQ,kM,kN,gH,gI,iQ,gX,dG,iA];gi_wp2_with (gi_at_call 252;refine(ny.2 (ai7 A m c _)).mono ?_;rintro e w' ⟨rfl,rfl⟩);clear hm hm2;have hB0:aM w.a.j w (w.alloc (.D #[.b .c 0] 92)):=(aH _ w).alloc (ay _) _;have bN:=Cv w 92 (.b .c 0);have hs1:(w.alloc (.D #[.b .c 0] 92)).a.j=w.a.j+1:=by simp
 generalize w.alloc (.D #[.b .c 0] 92)=W1 at hB0 bN hs1 ⊢;have bS:=Cv W1 56 (.a A m c);have bN2:=bN.alloc (.D #[.a A m c] 56);have hB1:=hB0.alloc (Nat.le_of_eq hs1 |> fun _=>(by omega:w.a.j<=W1.a.j)) (.D #[.a A m c] 56);have hs2:(W1.alloc (.D #[.a A m c] 56)).a.j=w.a.j+2:=by simp[hs1]
 rw[hs1]at bS
 try simp only[hs1]
 generalize W1.alloc (.D #[.a A m c] 56)=W2 at hB1 bN2 bS hs2 ⊢;clear hB0 bN hs1;refine wpIn_rangeFunc_ownG rfl (by omega) (gf:=306) (lb:=#[.c (some ⟨w.a.j+1,0,none⟩)]) rfl trivial (enters_of Tryz.func306 (by kernel_rfl) rfl)
  (adp nP 7 trivial rfl (by omega) (w.a.j+1) w.a.j A m c zs (by omega) W2 (by omega) (by omega) bS.cell (HR.i.S hB1)) KpB.trans (fun W q o o' hq ho hc hw=>⟨vL (w:=w) (ay _) W q o o' (by omega) ho hc hw,(grownBy_putObj' W q o').block _ (by have:=(bW.1 ho).1;omega) (fun e=>by injection e with e;omega)⟩) (aH _ _) (fun _=>rfl)
  (fun pre W=>(Boxed W w.a.j 92 (.b .c (oL (pre.map fun i=>zs.c i 0):Nat))/\w.a.j+2<=W.a.j)/\aM w.a.j w W)
  (fun _ _ _=>False)
  (tJ (tJ (Own.from (boxed_own _ _ _) _) (fun s X Y row hs hg hr=>aP hs hg.j)) (yT (ay _) (by omega)))
  (fun _ _ _ _ _ hs _ _=>hs)
  ⟨⟨bN2,by omega⟩,hB1⟩
  (fun x=>{tmps:=#[.a A m c,.e false,undef,undef,.b .c 0,.c (some ⟨w.a.j,0,none⟩),undef,undef,undef,bv (zs.c x 0),.a A n c,.a A n c,.b .a n,.b .a m,.a A m c,.e false,undef,undef,undef,undef,undef,undef,undef,undef,undef,undef,undef,undef,undef,.a A m c,.func (.func 306) #[] #[.c (some ⟨w.a.j+1,0,none⟩)],.b .a (x:Nat),bv (zs.c x 0),undef,undef,undef,undef,undef,undef],defers:=[]})
  ?assign ?body ?done ?stop
 case assign=>
  intro l x W K hK;gi_wp2;exact hK
 case body=>
  rintro l pre x W ⟨⟨hv,hsz⟩,hB⟩ hlt;have cS:=hv.cell;have fS:=hv.frozen;have HV:=ah hv;have HB:=ah hB;clear hv hB;obtain⟨y,hy⟩:=dw (zs.c x 0);obtain⟨nn,hnn⟩:=dw (oL (pre.map fun i=>zs.c i 0));have XQ:nn*256<18446744073709551616:=by
   have h1:=JV (pre.map fun i=>zs.c i 0);have h2:256^(pre.map fun i=>zs.c i 0).a<=256^7:=Nat.pow_le_pow_right (by omega) (by rw[bV];omega);omega
  have DV:=ah (show oL ((pre++[x]).map fun i=>zs.c i 0)=nn*256+y.toNat by rw[iW,kK,List.map_nil,IG,<-hy,<-hnn]);rw[<-hnn]at cS HV;have aif:=y.toNat_lt;have hor:=ag1 nn y.toNat XQ aif;unfold bv;rw[<-hy];clear hy hnn;generalize y.toNat=ch at *;have G:=grownBy_setCell' W w.a.j (.b .c (nn*256+ch:Nat));have HX:=ah (show KeepsFrom W2.a.j W (W.G ⟨w.a.j,0,none⟩ (.b .c (nn*256+ch:Nat)))/\KpB w.a.j (w.a.j+1) W (W.G ⟨w.a.j,0,none⟩ (.b .c (nn*256+ch:Nat)))/\(Boxed (W.G ⟨w.a.j,0,none⟩ (.b .c (nn*256+ch:Nat))) w.a.j 92 (.b .c (nn*256+ch:Nat))/\w.a.j+2<=(W.G ⟨w.a.j,0,none⟩ (.b .c (nn*256+ch:Nat))).a.j)/\aM w.a.j w (W.G ⟨w.a.j,0,none⟩ (.b .c (nn*256+ch:Nat)))from
   ⟨KeepsFrom.of_grownBy G (fun j e=>by cases e;omega),⟨(aH w.a.j W).G (p:=⟨w.a.j,0,none⟩) (ay w.a.j) _,G.block _ (by omega) (fun e=>by injection e with e;omega)⟩,⟨HV.i.set _,by have:=G.j;omega⟩,HB.i.G (p:=⟨w.a.j,0,none⟩) (ay w.a.j) _⟩)
  clear G;gi_wp2;refine⟨HX.i.1,HX.i.2.1,⟨?_,HX.i.2.2.1.2⟩,HX.i.2.2.2⟩;show Boxed _ _ _ (.b .c (oL ((pre++[x]).map fun i=>zs.c i 0):Nat));rw[DV.i];exact HX.i.2.2.1.1
 case done=>
  rintro D0 ys W hD0 rfl ⟨⟨hv,hsz⟩,hB⟩ hK;have cS:=hv.cell;rw[al8 zs m HZL.i]at cS;have HV:=ah hv;have HB:=ah hB;clear hv hB;have HL:=ah (show leN zs=oL zs.reverse from rfl);gi_wp2;refine⟨by simp,.a ⟨_,_,rfl,uE hK,?_⟩⟩;refine⟨_,Iy rfl _ _ _,?_,HB.i.trans (vL (w:=w) (ay _) W D0 _ _ (by omega) hK rfl rfl)⟩;rw[HL.i];rfl
 case stop=>
  rintro D c pre W _ _ h _;exact h.elim
end
section
open Go.RowKit Go.Shelf
attribute [local go_sem] qA
theorem Ht{P:eX}{t k e:bF}(hu:P.underlying t=some (.map k e))(n:Int)(w:au):(Instr.makeMap t (some (.b .a n))).J P w=.ok (.map (some w.a.j)) (w.alloc (.map #[] 0)):=by
 simp[Instr.makeMap,run_underlying hu,asInt,asIntOf,Result.andThen]
theorem zD(B:Nat)(c:Array aC):Own (fun(_:Unit) W=>dN W B c):=fun s X Y row hs hg hrow=>
 hs.grown hg (fun e'=>by obtain⟨o,ho,hc⟩:=hrow B e'.symm;obtain⟨t,hs⟩:=hs;rw[hs]at ho;cases ho;cases hc)
theorem apF(w:au):(zeroValue 100).J aj w=.ok (.agg kQ.aA) w:=by
 obtain⟨i0,hi0,hz0,hz1,hzb⟩:=Lu;simp[zeroValue,typeInfo,hi0,hz0]
theorem Boxed.ama{W W':au}{b B:Nat}{t:bF}{v:aC}(h:Boxed W b t v)(hb:aM B W W')(hl:b<B):Boxed W' b t v:=(hb.block b hl).trans h
theorem Xw{H:Type}{P:eX}{k:bF}{R:aC->Option (zI H×List sV)}{b n B:Nat}{D:zI H}{W W':au}(h:W.ownsMap P k R b n D)(hb:aM B W W')(hl:b<B):W'.ownsMap P k R b n D:=by
 obtain⟨es,ck,h1,h2⟩:=h;exact⟨es,ck,(hb.block b hl).trans h1,h2⟩
theorem afD{H:Type}{P:eX}{k:bF}{R:aC->Option (zI H×List sV)}{b n:Nat}{D:zI H}{W:au}(h:W.ownsMap P k R b n D):b<W.a.j:=by
 obtain⟨es,ck,h1,h2⟩:=h;exact(bW.1 h1).1
theorem EM{ops:Array Oper}{rest:List Oper}{o:Oper}{a:Act}{Q:Exit->Act->au->Prop}{w:au}(hg:o.guard=none)(m x:Operand)(Ij:o.op=Op.lookup 230 m x true)
 (b n:Nat) (D:zI Unit) (hm:a.eval m=.map (some b)) (hown:w.ownsMap aj 9 Jf b n D) (f:List UInt8->Option Hl) (hF:Yz D f) (s:List UInt8) (hs:s.a<=100000) (hx:a.eval x=.g (bP s))
 (y:Hl) (ok:Bool) (hy:(f s).c kQ=y) (hok:(f s).isSome=ok) (hK:wpList aj ops Q rest (a.put o.Y (.K #[.agg y.aA,.e ok])) w):wpList aj ops Q (o::rest) a w:=by
 have hkey:keyOf aj 9 (.g (bP s))=some (.g s):=WideMaps.keyOf_string_mk (P:=aj) iR (by unfold maxLen;rw[Dj];omega);refine wpList_lookup_own_ok w hg m x 230 Ij 9 100 (Maps.string_keyed iR) Tryz.underlying230 Jf (apF w) (hlD kQ) [] (Yy kQ) b n D hm hown _ (.g s) hx hkey ?_;intro v ps hv;obtain⟨z,rfl,hz⟩:=afB hv;obtain⟨h1,h2⟩:=hF.2 s;have hzd:=congrArg Prod.fst hz;dsimp only at hzd;rw[h2]at hzd;have e1:z=y:=by
  rw[<-hy];cases hf:f s with
  | none=>rw[hf]at hzd;exact(ahw hzd).symm
  | some u=>rw[hf]at hzd;exact(ahw hzd).symm
 rw[e1,h1,hok];exact hK
theorem afE(l:List Hl)(s:List UInt8):BI l s=match l.find? (fun x=>x.E==s)with|some x=>x|none=>⟨s,false,0⟩:=by
 unfold BI zL;cases hf:l.findIdx? (fun x=>x.E==s)with
 | none=>
   have h1:l.find? (fun x=>x.E==s)=none:=List.find?_eq_none.2 (fun x hx=>by have:=List.findIdx?_eq_none_iff.1 hf x hx;simpa using this);rw[h1];rfl
 | some i=>
   obtain⟨hi,hn,hno⟩:=ig.1 hf;have h1:l.find? (fun x=>x.E==s)=some l[i]:=List.find?_eq_some_iff_getElem.2 ⟨hn,i,hi,rfl,fun j hj=>by simpa using hno j hj⟩;rw[h1];dsimp only;rw[if_neg (by omega),Int.toNat_natCast,av,aD hi];rfl
theorem amb(l:List Hl)(names:List (List UInt8))(A:Option aU)(n c:Nat)(A2:Option aU)(n2 c2:Nat)(w:au)(hR:RdH w w.a.j A n l)(hN:RdT w w.a.j A2 n2 names)(hn:n<=100000)(hn2:n2<=100000)(hl:∀x∈l,x.E.a<=100000)(hnm:∀s∈names,s.a<=100000):
 aQ aj 72 #[.a A n c,.a A2 n2 c2] w (ClP w (EL l names).a (EL l names)):=by
 refine(ny (n:=8)).1 ?_;have HR:=ah hR;have HKL:=ah (fun k=>show(bP (l.c k kQ).E).j<=maxLen by
  have:(l.c k kQ).E.a<=100000:=by
   rw[av];rcases aZ k l.a with h|h
   ·rw[aD h];exact hl _ (eY h)
   ·rw[aT h];simp[kQ]
  unfold maxLen;rw[Dj];omega)
 have hfn:∀f,nP.fn f:=fun _=>trivial
 have HN:=ah hN;have HNM:=ah hnm;have hmm:=fun n w=>Ht (P:=aj) Tryz.underlying230 n w
 refine rz Tryz.func72 rfl trivial ?_ rfl;simp only[Tryz.ntmps72,dP,bD,gQ,kM,kN,gH,gI,iQ,gX,dG,iA];clear hR hN hl hnm;gi_wp2_with (gi_at_call 143;refine(ny.2 (al7 A n c _)).mono ?_;rintro e w' ⟨rfl,rfl⟩);obtain⟨W1,hW1⟩:=sQ (w.alloc (.map #[] 0));have hm0:=World.ownsMap_made w aj 9 (Jf (H:=Unit));rw[hW1]at hm0;have hs1:W1.a.j=w.a.j+1:=by rw[<-hW1];simp
 have bS:=Cv W1 230 (.map (some w.a.j));have bN:=Cv (W1.alloc (.D #[.map (some w.a.j)] 230)) 33 (.a A n c);rw[tq]at bN;have hB0:aM w.a.j w ((W1.alloc (.D #[.map (some w.a.j)] 230)).alloc (.D #[.a A n c] 33)):=by
  rw[<-hW1];exact(((aH _ w).alloc (ay _) _).alloc (by simp) _).alloc (by simp;omega) _
 have hm2:=(hm0.alloc (.D #[.map (some w.a.j)] 230)).alloc (.D #[.a A n c] 33);have bS2:=bS.alloc (.D #[.a A n c] 33);rw[hW1];rw[hs1]at bS bN bS2;clear hW1 hm0 bS;obtain⟨W2,hW2⟩:=sQ ((W1.alloc (.D #[.map (some w.a.j)] 230)).alloc (.D #[.a A n c] 33));have hsz:W2.a.j=w.a.j+3:=by rw[<-hW2];simp[hs1]
 try simp only[tq,hs1]
 rw[hW2]at bS2 bN hB0 hm2 ⊢;clear hW2;refine wpIn_rangeFunc_ownH rfl (by omega) (gf:=212) (lb:=#[.c (some ⟨w.a.j+1+1,0,none⟩)]) rfl trivial (enters_of Tryz.func212 (by kernel_rfl) rfl)
  (afA nP 7 trivial rfl (by omega) (w.a.j+1+1) w.a.j A n c l hn W2 (by omega) (by omega) bN.cell (HR.i.S hB0)) KpB.trans (fun W q o o' hq ho hc hw=>⟨vL (w:=w) (ay _) W q o o' (by omega) ho hc hw,(grownBy_putObj' W q o').block _ (by have:=(bW.1 ho).1;omega) (fun e=>by injection e with e;omega)⟩) (aH _ _) (fun _=>rfl)
  (fun pre W=>(Boxed W (w.a.j+1) 230 (.map (some w.a.j))/\∃D,W.ownsMap aj 9 (Jf (H:=Unit)) w.a.j pre.a D/\Yz D (Gs l pre)/\w.a.j+3<=W.a.j)/\aM w.a.j w W)
  (fun _ _ _=>False)
  (tJ (tJ (Own.from (boxed_own _ _ _) _) (fun s X Y row hs hg hr=>by obtain⟨D,h1,h2,h3⟩:=hs;exact⟨D,h1.kept hg (fun e=>by have:=(hr _ e.symm).1;omega),h2,aP h3 hg.j⟩)) (yT (ay _) (by omega)))
  (fun _ _ _ _ _ hs _ _=>hs)
  ⟨⟨bS2,_,hm2,ai4 l,by omega⟩,hB0⟩
  (fun x a' W=>∃Bx,w.a.j+1<Bx/\dN W Bx (l.c x kQ).aA/\a'={tmps:=#[.a A n c,.a A2 n2 c2,undef,undef,.a none 0 0,.c (some ⟨w.a.j+1,0,none⟩),undef,.c (some ⟨Bx,0,none⟩),undef,undef,undef,undef,undef,.a A n c,.b .a n,.map (some w.a.j),.a A n c,.func (.func 212) #[] #[.c (some ⟨w.a.j+1+1,0,none⟩)],.b .a (x:Nat),.agg (l.c x kQ).aA,undef,undef,undef,undef,undef,undef,undef,undef,undef,undef,undef,undef,undef,undef,undef,undef,undef,undef,undef,undef,undef,undef,undef,undef,undef,undef,undef,undef,undef],defers:=[]})
  (fun x a' _ X Y row hs hg hr=>by obtain⟨Bx,h1,h2,h3⟩:=hs;exact⟨Bx,h1,zD Bx (l.c x kQ).aA () X Y row h2 hg (fun r e=>(hr r e).2),h3⟩)
  ?assign ?body ?done ?stop
 case assign=>
  rintro q pre x W K ⟨⟨bS1,D,hD,hF,hsW⟩,hB1⟩ hK;gi_wp2;refine hK _ _ ((KeepsOthers.alloc _ _).from _) ⟨(aH _ W).alloc hB1.j _,Below.heap_alloc W _ _ (by omega)⟩ ⟨⟨bS1.alloc _,D,hD.alloc _,hF,by simp;omega⟩,hB1.alloc hB1.j _⟩ ⟨W.a.j,bS1.lt,dN.new W _ _,rfl⟩
 case body=>
  rintro q pre x a' W hq ⟨r,hr⟩ ⟨⟨bS1,D,hD,hF,hsW⟩,hB1⟩ ⟨Bx,hBx,bX,rfl⟩ hlt;have cS:=bS1.cell;obtain⟨f1,f2,f3,f4⟩:=bX.M;have HB1:=ah hB1;have HF:=ah hF;have HX:=ah bX;have HS:=ah bS1;clear hB1 hF bX bS1;obtain⟨y,hy⟩:=dw (l.c x kQ);have HKY:=HKL.i x;rw[<-hy]at f1 f3 f4 HKY;have hkey:keyOf aj 9 (.g (bP y.E))=some (.g y.E):=WideMaps.keyOf_string_mk (P:=aj) iR HKY;have HY:=ah hy
  try rw[<-hy]
  clear hy HKY;gi_wp2_with (gi_at_mapUpdate;refine wpListIn_mapUpdate_own _ rfl _ _ _ 230 rfl 9 100 (Maps.string_keyed iR) Tryz.underlying230 _ w.a.j pre.a D rfl hD (by unfold maxLen;omega) _ _ (.g y.E) rfl rfl hkey _ [] (Yy y) ?_;intro w1 hown1 hgrow1);have hsz1:=hgrow1.j;exact⟨KeepsFrom.of_grownBy hgrow1 (fun j e=>by cases e;omega),⟨(aH _ W).grown hgrow1 HB1.i.j (fun k e=>by cases e;exact ay _),hgrow1.block _ (by omega) (fun e=>by injection e with e;omega)⟩,
   ⟨HS.i.kept hgrow1 (fun e=>by injection e with e;omega),_,by rw[aS];exact hown1,ai5 HF.i x y HY.i,by omega⟩,HB1.i.grown hgrow1 HB1.i.j (fun k e=>by cases e;exact ay _)⟩
 case done=>
  rintro D0 ys W hD0 rfl ⟨⟨bS1,D,hD,hF,hsW⟩,hB1⟩ hK;have cS:=bS1.cell;rename_i K0 KA;refine KA _ _ (wpIn_wide.2 ?_);have HB1:=ah hB1;have hl2:=HR.i.1;rw[<-hl2]at hF;have HF:=ah (show Yz D (fun s=>l.find? (fun x=>x.E==s))by have:=funext (afC l);rw[<-this];exact hF);have HD:=ah hD;have HK:=ah hK;have HS:=ah bS1;have HM:=ah (afD hD);have RN:=ah ((HN.i.S hB1).lH hB1.j:RdT W W.a.j A2 n2 names);clear hB1 hF hD hK bS1 cS hB0 hm2 bN bS2 KA K0;go_wp2_with fail;refine(afz A2 n2 c2 W).mono ?_;rintro e w' ⟨rfl,rfl⟩;obtain⟨w2,hw2⟩:=sQ (W.alloc (.D #[.a A2 n2 c2] 69));have aI6:w2.a.j=W.a.j+1:=by rw[<-hw2];simp
  have SO:=ah (adn W.a.j A2 n2 c2 names hn2 w2 (by omega) (by rw[<-hw2];exact ni W _ _ 0) (by rw[<-hw2];exact RN.i.up _));have B2:=ah (show aM W.a.j W w2 by rw[<-hw2];exact(aH _ W).alloc (ay _) _);have HW2:=ah hw2;clear hw2;go_wp2_with fail;rw[HW2.i];refine SO.i.mono ?_;rintro e w3 ⟨A3,c3,rfl,ho3,hb3⟩;have hul:=adi names;obtain⟨U,hU⟩:=dw (Ih names);obtain⟨ul,adq⟩:=dw U.a;have hnl:=HN.i.1;have CO:=ah (aaK w2.a.j (Ii names) A3 n2 c3 w3 hn2 (by rw[Nq];exact hnl) ho3 ul (by rw[Nr,<-hU];exact adq.symm));have hlt3:=ho3.lt;rw[Nr,<-hU]at CO;have aI8:ul<=100000:=by rw[adq,hU];omega
  have HSY:=ah (show EL l names=U.map (BI l)by rw[hU];rfl);have HUN:=ah (fun k (hk:k<ul)=>show(U.c k []).a<=100000 by
   rw[adq]at hk;rw[av,aD hk,Option.getD_some];refine HNM.i _ ?_;rw[<-Vg,<-hU];exact eY hk)
  have HL:=ah adq;clear hU adq hul;have B3:=ah (B2.i.trans (hb3.mono (by omega:W.a.j<=w2.a.j)));have H3:=ah hlt3;clear hb3 ho3 hlt3;go_wp2_with fail;refine CO.i.mono ?_;rintro e w4 ⟨rfl,ho4,hg4⟩;have B4:=ah (B3.i.grown hg4 B3.i.j (fun k hk=>by have:=(H3.i k hk).1;omega));have RU:=ah (iF.gV HL.i.symm ho4:RdT w4 w4.a.j A3 ul U);have hs4:=B4.i.j;clear ho4 hg4;obtain⟨i0,hi0,hz0,hz1,hzb⟩:=Lu;have HI0:=ah hi0;have HZ0:=ah hz0;have HZ1:=ah hz1;have HZ2:=ah (show(cK kQ.aA).D.j=3 by simp[Value.cells,Hl.I]);have HZB:=ah hzb;clear hi0 hz0 hz1 hzb;go_wp2_with fail;go_loopw [8,29] (fun s8 s29 wr=>∃(k:Nat)(O:Option aU)(cap:Nat),k<=ul/\s8=.a O k cap/\s29=.b .a k/\wr.c w4.a.j 100 3 (.a O k cap) k (wY ((U.d k).map (BI l)))/\aM w4.a.j w4 wr) (fun _ s29 _=>ul-(intOf s29).toNat)
  case atStart=>exact⟨0,none,0,by omega,rfl,rfl,by simpa[wY]using fB _ _ _ _,aH _ _⟩
  case round=>
   obtain⟨k,O,cap,hku,rfl,rfl,ho,hb⟩:=hrel;have HO:=ah ho;have HB:=ah hb;have hsz:=hb.j;have hB:=ah (B4.i.trans (hb.mono hs4));have cS:=(Boxed.ama HS.i hB.i (by omega)).cell;have OM:=ah (Xw HD.i hB.i HM.i);clear ho hb;by_cases hlt:k<ul
   ·have hi:(k:Int)<ul:=by omega
    obtain⟨bb,o,rfl,hbb,hc⟩:=(RU.i.S HB.i).text hlt;have HKN:=ah (HUN.i k hlt);have SN:=ah (ai2 l U k (by rw[<-HL.i];exact hlt));obtain⟨y,hy⟩:=dw (U.c k []);rw[<-hy]at hc HKN SN;clear hy hbb;have ME:=ah (show k+1<=maxLen by unfold maxLen;omega);have Kw:=ah (show(k+1)*i0.bytes<=140737488355328 from aP (gP (show k+1<=100002 by omega) HZB.i) (by omega));have BS:=ah (fun oa ob=>show w4.a.j<=((wr.alloc oa).alloc ob).a.j by simp;omega);have HGR:=ah (fun oa ob w1 (hg:((wr.alloc oa).alloc ob).d w1 (bC O k cap).ownBlock)=>((HB.i.alloc hsz oa).alloc (by simp;omega) ob).grown hg (BS.i oa ob) (fun k hk=>(HO.i.lt k hk).1));have PF:=afE l y;cases hfd:l.find? (fun x=>x.E==y)with
    | none=>
      rw[hfd]at PF;have PK:=ah PF;have HFS:=ah (show((fun s=>l.find? (fun x=>x.E==s)) y).c kQ=kQ by dsimp only;rw[hfd];rfl);have HFB:=ah (show((fun s=>l.find? (fun x=>x.E==s)) y).isSome=false by dsimp only;rw[hfd];rfl);clear PF;have OA:=ah (vF (vF HO.i (.D (Hl.mk y false 0).aA 100)) (.D (Hl.mk y false 0).aA 100));have W1:=ah (show Rd ((wr.alloc (.D (Hl.mk y false 0).aA 100)).alloc (.D (Hl.mk y false 0).aA 100)) (wr.a.j+1+1) 3 (some ⟨wr.a.j+1,0,none⟩) 1 (Hl.mk y false 0).aA.a by simpa using ZO (wr.alloc (.D (Hl.mk y false 0).aA 100)) (Hl.mk y false 0).aA 3 (Hl.I _) 100);clear hfd;go_wp2_with (first|(at_lookup;refine EM rfl _ _ rfl w.a.j _ D rfl (OM.i) _ HF.i y HKN.i rfl kQ false HFS.i HFB.i ?_)|(at_builtin;refine iT _ rfl (.tmp 43) (.tmp 45) _ rfl w4.a.j 100 i0 (.agg kQ.aA) 3 i0.bytes rY HI0.i HZ0.i HZ1.i rfl HZ2.i (kX _) (.a O k cap) k (wY ((U.d k).map (BI l))) rfl OA.i (wr.a.j+1+1) (some ⟨wr.a.j+1,0,none⟩) 1 1 (Hl.mk y false 0).aA.a rfl W1.i (by simp[Hl.aA,dx]) ME.i Kw.i (BS.i _ _) ?_;intro v1 w1 hown1 hg1 uN;have O1:=ah hown1;have G1:=ah (HGR.i _ _ _ hg1);clear hown1 hg1 uN));obtain⟨O',cap',rfl,_,_⟩:=jw O1.i;go_roundw
      case rel=>exact⟨k+1,O',cap',by omega,rfl,by go_num,by have h1:=O1.i;have h2:=SN.i;rw[PK.i]at h2;rw[h2]at h1;exact h1,G1.i⟩
      case measure=>simp[intOf]<;>omega
    | some x=>
      rw[hfd]at PF;have PK:=ah PF;have HFS:=ah (show((fun s=>l.find? (fun x=>x.E==s)) y).c kQ=x by dsimp only;rw[hfd];rfl);have HFB:=ah (show((fun s=>l.find? (fun x=>x.E==s)) y).isSome=true by dsimp only;rw[hfd];rfl);clear PF;have OA:=ah (vF (vF HO.i (.D (x).aA 100)) (.D (x).aA 100));have W1:=ah (show Rd ((wr.alloc (.D (x).aA 100)).alloc (.D (x).aA 100)) (wr.a.j+1+1) 3 (some ⟨wr.a.j+1,0,none⟩) 1 (x).aA.a by simpa using ZO (wr.alloc (.D (x).aA 100)) (x).aA 3 (Hl.I _) 100);clear hfd;go_wp2_with (first|(at_lookup;refine EM rfl _ _ rfl w.a.j _ D rfl (OM.i) _ HF.i y HKN.i rfl x true HFS.i HFB.i ?_)|(at_builtin;refine iT _ rfl (.tmp 43) (.tmp 45) _ rfl w4.a.j 100 i0 (.agg kQ.aA) 3 i0.bytes rY HI0.i HZ0.i HZ1.i rfl HZ2.i (kX _) (.a O k cap) k (wY ((U.d k).map (BI l))) rfl OA.i (wr.a.j+1+1) (some ⟨wr.a.j+1,0,none⟩) 1 1 (x).aA.a rfl W1.i (by simp[Hl.aA,dx]) ME.i Kw.i (BS.i _ _) ?_;intro v1 w1 hown1 hg1 uN;have O1:=ah hown1;have G1:=ah (HGR.i _ _ _ hg1);clear hown1 hg1 uN));obtain⟨O',cap',rfl,_,_⟩:=jw O1.i;go_roundw
      case rel=>exact⟨k+1,O',cap',by omega,rfl,by go_num,by have h1:=O1.i;have h2:=SN.i;rw[PK.i]at h2;rw[h2]at h1;exact h1,G1.i⟩
      case measure=>simp[intOf]<;>omega
   ·obtain rfl:k=ul:=by omega
    have hd:decide ((k:Int)<k)=false:=by simp
    have HDK:=ah (show wr.a[D0]? = some (.deferred (some []))by
     rw[hB.i.block D0 (bW.1 HK.i).1];exact HK.i)
    have hle:w.a.j<=W.a.j:=by omega
    have HBW:=ah (HB1.i.trans (hB.i.mono hle));have h1:=HO.i;rw[aL (by rw[<-HL.i];exact ay _),<-HSY.i]at h1;have h2:(EL l names).a=k:=by rw[HSY.i,bV,<-HL.i]
    have HO1:=ah (iM h1 (aP hle hs4));have H2:=ah h2;clear h1 h2;go_wp2_with fail;refine⟨by simp,.a ⟨_,_,rfl,uE HDK.i,?_⟩⟩;rw[H2.i];exact⟨_,Iy rfl _ _ _,O,cap,rfl,ownsRow_putObj HO1.i _ HDK.i rfl,HBW.i.trans (vL (w:=w) (ay _) wr D0 _ _ (by omega) HDK.i rfl rfl)⟩
 case stop=>
  rintro D0 c0 pre W _ _ h _;exact h.elim
end
end Go.Proofs.YtkjojjopamaoiaaGreat
