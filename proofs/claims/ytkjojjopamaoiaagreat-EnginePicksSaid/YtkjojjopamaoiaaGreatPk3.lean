/- Parts. -/
import Derived.Test.YtkjojjopamaoiaaGreatPk1
import Derived.Shelf.SortM.Plain
import Derived.Shelf.SortM.SortNone
import Derived.Shelf.SlicesG.CompactS
import Derived.Sort.OwnSorted
import Derived.RangeFuncNested
import Derived.Maps.OwnIn
set_option linter.all false
set_option maxRecDepth 100000
set_option maxHeartbeats 8000000
open Array renaming getElem?_eq_some_iff->bV,replicate_succ->fV,replicate_zero->fZ,size->Array.j,toList->Array.a,getD->Array.b
open ByteArray renaming size->ByteArray.j
open Go renaming Value->aB,World->ak,Addr->aS,TypeId->bM,Calls->aQ,run_equal_slice_nil->iV,Fence->KI,CallsIn->Mh,callsIn_of_wp->Cq,bodyPost_ret->aN,results_none->vE,SeqStopsK->vX,callsIn_of_wp_marks->qY,belowK_b->vQ,ownFrom_below->yQ,run_takeDeferred->uH,results_tmp->Ih,callsIn_wide->mU,DataW->zB,MemPlace->sU,Program->eG
open Go.Boxed renaming new->Cr
open Go.Ending renaming returned->Go.Ending.a
open Go.Fence renaming wide->nG
open Go.FrameMode renaming run->Go.FrameMode.I
open Go.Func renaming name->Go.Func.E
open Go.Instr renaming slice->Go.Instr.a
open Go.IntKind renaming i64->Go.IntKind.a,u64->Go.IntKind.c
open Go.Lib renaming hid->ab,compact->oz
open Go.Lit renaming int->Go.Lit.b,bool->Go.Lit.e,string->Go.Lit.g
open Go.Obj renaming cells->Go.Obj.D
open Go.Op renaming bytesLess->bR,slice->Go.Op.a
open Go.Oper renaming semAt_some->qj,dst->Go.Oper.Y
open Go.OwnFrom renaming and->tH
open Go.Proofs.Tryz renaming prog->ah,underlying56->dx,underlying0->Hf,zeroValue0->JC,underlying3->gQ,zeroValue3->JD,underlying4->nK,zeroValue4->JE,underlying9->iM,isAgg9->Lf,sizeOf9->Ig,zeroValue9->Bp,underlying69->kM,underlying33->rX
open Go.RowKit renaming Below->aL
open Go.RowKit.Below renaming refl->aH,size->Go.RowKit.Below.j,setCell->Go.RowKit.Below.F
open Go.RowKit.Hid renaming out->Go.RowKit.Hid.i
open Go.Sem renaming run->Go.Sem.I
open Go.TypeDesc renaming slice->Go.TypeDesc.a,int->Go.TypeDesc.b
open Go.TypeInfo renaming size->Go.TypeInfo.j
open Go.Value renaming int->aI,agg->bY,slice->bC,oneCell'->cB,cells->Go.Value.D,slice->Go.Value.a,int->Go.Value.b,pointer->Go.Value.c,tuple->Go.Value.J,bool->Go.Value.e,string->Go.Value.g
open Go.World renaming ownsRow_nil->eY,size_alloc->sZ,heap->Go.World.a,cell?->Go.World.b,setCell->Go.World.F,ownsRow->Go.World.c,grownBy->Go.World.d
open Go.World.grownBy renaming size->Go.World.grownBy.j
open List renaming nil_append->dG,eq_nil_of_length_eq_zero->bE,map_take->Ap,mem_cons->bB,pairwise_cons->gL,foldr_cons->JB,length_cons->bD,mem_cons_self->lZ,mem_cons_of_mem->jy,findIdx?_eq_some_iff_getElem->gT,getD_eq_getElem?_getD->au,getElem?_eq_getElem->aC,map_append->je,mem_range->dU,mem_filter->mh,range->dX,length_map->bQ,replicate->dV,size_toArray->dK,length_nil->gH,push_toArray->iL,append_toArray->gP,cons_append->iq,length_take->bJ,take_of_length_le->aK,length_append->aR,getElem?_range->wV,map_cons->kL,ext_getElem?->iJ,getElem?_map->jC,getElem?_eq_none->aT,getElem_mem->dR,length->List.a,getD->List.b,toArray->List.c,take->List.d,below->List.S
open Nat renaming le_refl->av,succ_pos->lH,eq_zero_or_pos->dY,mul_one->gB,le_trans->aO,lt_of_lt_of_le->eO,lt_or_ge->aZ,min_eq_left->ou,reduceAdd->kP,reduceSub->kQ,mul_le_mul->gG
open Option renaming getD->Option.b
open Or renaming inl->Or.a,inr->Or.b
open UInt8 renaming lt_iff_toNat_lt->zD,toNat_inj->lY
namespace Go.Proofs.YtkjojjopamaoiaaGreat
open Go.RowKit
section
open Go.RowKit Go.ChangeShapes Go.WideShapes Go.ChangeAt Go.Deep
structure Sp where
 at_:Int
 err:Int
deriving DecidableEq
def Sp.ay(x:Sp):Array aB:=#[aI .a x.at_,aI .a x.err]
theorem Sp.G(x:Sp):x.ay.j=2:=by simp[Sp.ay]
@[go_sem]theorem Sp.dZ(x:Sp):dZ x.ay=2:=Sp.G x
@[go_sem]theorem Sp.pW(x:Sp):x.ay[0]? = some (.b .a x.at_):=rfl
@[go_sem]theorem Sp.GL(x:Sp):x.ay[1]? = some (.b .a x.err):=rfl
def aCu:Sp:=⟨0,0⟩
@[go_sem]theorem axF:bY #[aI IntKind.i64 0,aI IntKind.i64 0]=bY aCu.ay:=rfl
section
variable {W W':ak} {p g N:Nat} {s:RS}
theorem gq.aty{w W W':ak}{B n:Nat}{A:Option aS}{l:List UInt8}{k:Option Nat}(h:gq W B A n l)(hg:W.d W' k)(hne:∀a,A=some a->some a.block≠k):gq W' B A n l:=by
 refine⟨h.1,fun hn=>?_⟩;obtain⟨a,hA,hb,hc⟩:=h.2 hn;refine⟨a,hA,hb,fun j u hu=>hg.cell (hc j u hu) ?_⟩;have:=hne a hA
 rwa [Bl]
end
end
theorem gq.gU{w:ak}{base n c:Nat}{e:bM}{A:Option aS}{l:List UInt8}(h:w.c base e 1 (.a A n c) n (l.map bv)):gq w w.a.j A n l:=Rd.gU h
def ClY(w:ak)(n:Nat)(l:List UInt8)(e:Ending)(w':ak):Prop:=
 ∃A c,e=.a (.a A n c)/\w'.c w.a.j 5 1 (.a A n c) n (l.map bv)/\aL w.a.j w w'
theorem ai9(l:List UInt8)(A:Option aS)(n c:Nat)(w:ak)(hR:gq w w.a.j A n l)(hn:n<=1073741824):
 aQ ah 268 #[.a A n c] w (ClY w n l):=by
 have hll:=hR.len;cases A with
 | some a=>
   have hnil:∀W:ak,(binOp .eql 56 (.a (some a) n c) (.a none 0 0)).I ah W=.ok (.e false) W:=fun W=>by
    simp only[binOp];simp[iV,dx]
   obtain⟨i0,hi0,hz0,hz1,hzb⟩:=info_parts Lh;have hz2:(aI .u8 0).D.j=1:=rfl;have O1:=ab (show(w.alloc (.D #[] 5)).c w.a.j 5 1 (.a (some ⟨w.a.j,0,none⟩) 0 0) 0 []from World.ownsRow_lit w #[] 0 (av _) (by unfold maxLen;omega) rfl);have O2:=ab (hR.alloc (av _) (.D #[] 5));have Qz:=ab (show 0+n<=maxLen by unfold maxLen;omega);have QA:=ab (show(0+n)*1<=140737488355328 by omega);have O3:=ab (show w.a.j<=(w.alloc (.D #[] 5)).a.j by simp);have ON:=ab (JG l);clear hR hll;go_enter Tryz.func268,Tryz.ntmps268;go_wp2_with (at_builtin;refine ji _ rfl (.tmp 5) (.tmp 6) _ rfl w.a.j 5 i0 (.b .u8 0) 1 1 dx hi0 hz0 hz1 hzb hz2 (lH _) (.a (some ⟨w.a.j,0,none⟩) 0 0) 0 [] rfl O1.i w.a.j (some a) n c (l.map bv) rfl O2.i ON.i Qz.i QA.i O3.i ?_;intro v1 w1 hown1 hg1 wJ);obtain⟨A',c',hv,_,_⟩:=jG hown1;subst hv;simp only[Nat.zero_add,dG]at hown1;have hb:=tX ((aH w.a.j w).alloc (av _) (.D #[] 5)) hg1 (av _) O3.i;go_wp2;go_ret;exact⟨A',c',by simp,hown1,hb⟩
 | none=>
   have h0:n=0:=by
    rcases dY n with h0|h0
    ·exact h0
    ·obtain⟨a,ha,_⟩:=hR.2 h0;cases ha
   subst h0;have hl:l=[]:=bE hll;subst hl;have hnil:∀W:ak,(binOp .eql 56 (.a none 0 c) (.a none 0 0)).I ah W=.ok (.e true) W:=fun W=>by
    simp only[binOp];simp[iV,dx]
   have FIN:=ab (show ClY w 0 [] (.a (.a none 0 0)) w from⟨none,0,rfl,eY _ _ _ _,aH _ _⟩);clear hR hll;go_enter Tryz.func268,Tryz.ntmps268;go_wp2;go_ret;exact FIN.i
theorem gq.QH{w:ak}{B n:Nat}{A:Option aS}{l:List UInt8}(h:gq w B A n l){z b c:Nat}(hz:z<=b)(hb:b<=n)(hc:n<=c):gq w B (if c=z then A else Option.map (fun x=>x.add z) A) (b-z) ((l.drop z).d (b-z)):=by
 have h1:=Rd.cut h (k:=z) (cap:=c) (by omega) hc;have h2:=Rd.upto h1 (k:=b-z) (by omega);rw[gB,gB]at h2;unfold gq;rw[Ap,List.map_drop];exact h2
theorem gq.from{w:ak}{B n:Nat}{A:Option aS}{l:List UInt8}(h:gq w B A n l){z c:Nat}(hz:z<=n)(hc:n<=c):gq w B (if c=z then A else Option.map (fun x=>x.add z) A) (n-z) (l.drop z):=by
 have h1:=Rd.cut h (k:=z) (cap:=c) hz hc;rw[gB]at h1;unfold gq;rw[List.map_drop];exact h1
structure jD(F:List Nat)(w w':ak):Prop where
 os:w'.os=w.os
 tape:w'.tape=w.tape
 output:w'.output=w.output
 j:w.a.j<=w'.a.j
 block:∀k,k<w.a.j->k∉F->w'.a[k]? = w.a[k]?
theorem jD.refl(F:List Nat)(w:ak):jD F w w:=⟨rfl,rfl,rfl,av _,fun _ _ _=>rfl⟩
theorem jD.jl{F:List Nat}{w w':ak}(h:aL w.a.j w w'):jD F w w':=⟨h.os,h.tape,h.output,h.j,fun k hk _=>h.block k hk⟩
theorem jD.Vl{F:List Nat}{w w':ak}{g:Option Nat}(h:w.d w' g)(hg:∀k,g=some k->k∈F\/w.a.j<=k):jD F w w':=
 ⟨h.os,h.tape,h.output,h.j,fun k hk hn=>h.block k hk (fun e=>by rcases hg k e.symm with h|h;exact hn h;omega)⟩
theorem jD.trans{F F':List Nat}{a b c:ak}(h:jD F a b)(k:jD F' b c)(hF:∀g∈F',g∈F\/a.a.j<=g):jD F a c:=
 ⟨k.os.trans h.os,k.tape.trans h.tape,k.output.trans h.output,aO h.j k.j,fun i hi hn=>(k.block i (eO hi h.j) (fun hm=>by rcases hF i hm with h|h;exact hn h;omega)).trans (h.block i hi hn)⟩
theorem jD.pQ{F:List Nat}{a b c:ak}(h:jD F a b)(k:jD F b c):jD F a c:=h.trans k (fun g hg=>.a hg)
theorem jD.grown{F:List Nat}{a b c:ak}{g:Option Nat}(h:jD F a b)(k:b.d c g)(hg:∀j,g=some j->j∈F\/a.a.j<=j):jD F a c:=
 ⟨k.os.trans h.os,k.tape.trans h.tape,k.output.trans h.output,aO h.j k.j,fun i hi hn=>(k.block i (eO hi h.j) (fun e=>by rcases hg i e.symm with h|h;exact hn h;omega)).trans (h.block i hi hn)⟩
theorem jD.S{F:List Nat}{a b c:ak}{B:Nat}(h:jD F a b)(k:aL B b c)(hB:a.a.j<=B):jD F a c:=
 ⟨k.os.trans h.os,k.tape.trans h.tape,k.output.trans h.output,aO h.j k.j,fun i hi hn=>(k.block i (by omega)).trans (h.block i hi hn)⟩
theorem jD.set{F:List Nat}{a b:ak}(h:jD F a b)(p:aS)(u:aB)(hp:p.block∈F\/a.a.j<=p.block):jD F a (b.F p u):=
 ⟨h.os,h.tape,h.output,by simpa[World.setCell]using h.j,fun i hi hn=>(Below.heap_setCell b p u i (fun e=>by subst e;rcases hp with h|h;exact hn h;omega)).trans (h.block i hi hn)⟩
theorem jD.alloc{F:List Nat}{a b:ak}(h:jD F a b)(o:Obj):jD F a (b.alloc o):=
 ⟨h.os,h.tape,h.output,aO h.j (by simp),fun i hi hn=>(Below.heap_alloc b o i (eO hi h.j)).trans (h.block i hi hn)⟩
theorem jD.drewN{F:List Nat}{a b:ak}(h:jD F a b)(n:Nat):jD F a (b.drewN n):=⟨h.os,h.tape,h.output,h.j,h.block⟩
theorem jD.rM{F:List Nat}{B:Nat}{a b:ak}(h:jD F a b)(hF:∀g∈F,B<=g)(hB:B<=a.a.j):aL B a b:=
 ⟨h.os,h.tape,h.output,h.j,fun i hi=>h.block i (by omega) (fun hm=>by have:=hF i hm;omega)⟩
theorem jD.lD{F F':List Nat}{a b:ak}(h:jD F a b)(hF:∀g∈F,g∈F'):jD F' a b:=⟨h.os,h.tape,h.output,h.j,fun i hi hn=>h.block i hi (fun hm=>hn (hF i hm))⟩
theorem jD.box{F:List Nat}{a b:ak}(h:jD F a b){k:Nat}{c:Array aB}(hB:dJ a k c)(hk:k∉F):dJ b k c:=by
 have hl:=hB.lt;obtain⟨t,ht⟩:=hB;exact⟨t,by rw[h.block k hl hk];exact ht⟩
section
open Go.RowKit Go.ChangeShapes Go.WideShapes Go.ChangeAt Go.Deep
theorem sK:∀a:List UInt8,bR a a=false
 | []=>rfl
 | x::a=>by rw[bR,sK a];simp
theorem yc:∀a b c:List UInt8,bR a b=true->bR b c=true->bR a c=true
 | _,[],_,h,_=>by cases ‹List UInt8› <;> simp[bR]at h
 | _,_::_,[],_,h=>by simp[bR]at h
 | [],_::_,_::_,_,_=>rfl
 | x::a,y::b,z::c,h1,h2=>by
   have ih:=yc a b c;simp only[bR,Bool.or_eq_true,Bool.and_eq_true,decide_eq_true_eq,beq_iff_eq,zD,<-lY]at h1 h2 ⊢;rcases h1 with h1|⟨h1,h3⟩<;>rcases h2 with h2|⟨h2,h4⟩
   ·exact .a (by omega)
   ·exact .a (by omega)
   ·exact .a (by omega)
   ·exact .b ⟨by omega,ih h3 h4⟩
theorem zK:∀a b:List UInt8,bR a b=false->bR b a=false->a=b
 | [],[],_,_=>rfl
 | [],_::_,h,_=>by simp[bR]at h
 | _::_,[],_,h=>by simp[bR]at h
 | x::a,y::b,h1,h2=>by
   have ih:=zK a b;simp only[bR,Bool.or_eq_false_iff,Bool.and_eq_false_iff,decide_eq_false_iff_not,beq_eq_false_iff_ne,zD,ne_eq,<-lY]at h1 h2;have e:x.toNat=y.toNat:=by omega
   have e2:=lY.1 e;rw[e2,ih (h1.2.resolve_left (fun h=>h e)) (h2.2.resolve_left (fun h=>h e.symm))]
theorem amc{a b:List UInt8}(h:bR a b=true):bR b a=false:=by
 cases hc:bR b a
 ·rfl
 ·have:=yc _ _ _ h hc;rw[sK]at this;cases this
def afH(ls:List (List UInt8)):Prop:=ls.Pairwise (fun a b=>bR a b=true)
def Vm(s:List UInt8):List (List UInt8)->List (List UInt8)
 | []=>[s]
 | x::r=>if bR s x then s::x::r else if bR x s then x::Vm s r else x::r
def Hr(names:List (List UInt8)):List (List UInt8):=names.foldr Vm []
theorem Vn(s y:List UInt8):∀l,y∈Vm s l↔y=s\/y∈l
 | []=>by simp[Vm]
 | x::r=>by
   unfold Vm;split
   ·simp
   ·split
    ·rw[bB,Vn s y r,bB]
     constructor
     ·rintro(h|h|h)
      ·exact .b (.a h)
      ·exact .a h
      ·exact .b (.b h)
     ·rintro(h|h|h)
      ·exact .b (.a h)
      ·exact .a h
      ·exact .b (.b h)
    ·rename_i h1 h2
     have:=zK s x (by simpa using h1) (by simpa using h2);subst this;simp
theorem adq(s:List UInt8):∀l,afH l->afH (Vm s l)
 | [],_=>List.pairwise_singleton _ _
 | x::r,h=>by
   unfold Vm;obtain⟨h1,h2⟩:=gL.1 h;split
   ·rename_i hs
    refine gL.2 ⟨fun y hy=>?_,h⟩;rcases bB.1 hy with rfl|hy
    ·exact hs
    ·exact yc _ _ _ hs (h1 y hy)
   ·split
    ·rename_i hs hx
     refine gL.2 ⟨fun y hy=>?_,adq s r h2⟩;rcases(Vn s y r).1 hy with rfl|hy
     ·exact hx
     ·exact h1 y hy
    ·exact h
theorem Vo(s:List UInt8):∀names,s∈Hr names↔s∈names
 | []=>by simp[Hr]
 | x::r=>by
   have ih:=Vo s r;unfold Hr at ih ⊢;rw[JB,Vn,ih,bB]
theorem adr:∀names,afH (Hr names)
 | []=>List.Pairwise.nil
 | x::r=>by
   have ih:=adr r;unfold Hr at ih ⊢;rw[JB];exact adq _ _ ih
theorem ads(s:List UInt8):∀l,(Vm s l).a<=l.a+1
 | []=>by simp[Vm]
 | x::r=>by
   have:=ads s r;unfold Vm;split
   ·simp
   ·split
    ·simp;omega
    ·simp
theorem adt:∀names,(Hr names).a<=names.a
 | []=>by simp[Hr]
 | x::r=>by
   have ih:=adt r;have:=ads x (Hr r);unfold Hr at ih this ⊢;rw[JB,bD];omega
theorem Vq:∀P Q:List (List UInt8),afH P->afH Q->(∀s,s∈P↔s∈Q)->P=Q
 | [],[],_,_,_=>rfl
 | [],y::Q,_,_,h=>by have:=(h y).2 (lZ ..);cases this
 | x::P,[],_,_,h=>by have:=(h x).1 (lZ ..);cases this
 | x::P,y::Q,hP,hQ,h=>by
   obtain⟨p1,p2⟩:=gL.1 hP;obtain⟨q1,q2⟩:=gL.1 hQ;have e:x=y:=by
    rcases bB.1 ((h x).1 (lZ ..))with h1|h1
    ·exact h1
    ·rcases bB.1 ((h y).2 (lZ ..))with h2|h2
     ·exact h2.symm
     ·have a:=q1 x h1
      have b:=p1 y h2;have:=yc _ _ _ a b;rw[sK]at this;cases this
   subst e;congr 1;refine Vq P Q p2 q2 (fun s=>?_);constructor
   ·intro hs
    rcases bB.1 ((h s).1 (jy _ hs))with rfl|h1
    ·have:=p1 s hs;rw[sK]at this;cases this
    ·exact h1
   ·intro hs
    rcases bB.1 ((h s).2 (jy _ hs))with rfl|h1
    ·have:=q1 s hs;rw[sK]at this;cases this
    ·exact h1
end
def Bz(l:List Hl)(s:List UInt8):Hl:=if zG l s<0 then⟨s,false,0⟩else l.b (zG l s).toNat kY
theorem afI(l:List Hl)(s:List UInt8):(Bz l s).E=s:=by
 unfold Bz;split
 ·rfl
 ·rename_i h
  unfold zG at h ⊢;cases hf:l.findIdx? (fun x=>x.E==s)with
  | none=>rw[hf]at h;simp at h
  | some i=>
    obtain⟨hi,hn,_⟩:=gT.1 hf;simp only[Int.toNat_natCast];rw[au,aC hi];simpa using hn
def EC(l:List Hl)(names:List (List UInt8)):List Hl:=(Hr names).map (Bz l)
def arZ:aB->Nat
 | .a _ n _=>n
 | _=>0
theorem ai'(l:List Hl)(U:List (List UInt8))(k:Nat)(hk:k<U.a):xk ((U.d k).map (Bz l))++(Bz l (U.b k [])).ay.a=xk ((U.d (k+1)).map (Bz l)):=by
 rw[ade,<-oD [] U k hk,je];rfl
def Vr:Go.Shelf.Ren:=⟨fun|6=>214|8=>219|9=>274|19=>283|20=>284|21=>319|22=>320|23=>321|24=>322|25=>323|26=>324|27=>325|28=>326|29=>327|36=>355|31=>329|32=>330|37=>356|38=>357|39=>358|41=>370|n=>n,fun|27=>69|29=>9|3=>3|32=>259|26=>69|0=>0|44=>323|46=>92|4=>4|36=>352|35=>351|41=>158|5=>5|9=>9|53=>388|57=>392|63=>410|64=>152|n=>n,fun|n=>n⟩
theorem Vs:Go.Proofs.SlLaysM.n6 ah Vr:={
 mixed:=by kernel_rfl,
 f6:=⟨Tryz.f214.E,by decide,Tryz.func214.trans (congrArg some (by kernel_rfl))⟩,
 f8:=Tryz.func219.trans (congrArg some (by kernel_rfl)),
 f9:=⟨Tryz.f274.E,by decide,Tryz.func274.trans (congrArg some (by kernel_rfl))⟩,
 f19:=Tryz.func283.trans (congrArg some (by kernel_rfl)),
 f20:=Tryz.func284.trans (congrArg some (by kernel_rfl)),
 f21:=⟨Tryz.f319.E,by decide,Tryz.func319.trans (congrArg some (by kernel_rfl))⟩,
 f22:=⟨Tryz.f320.E,by decide,Tryz.func320.trans (congrArg some (by kernel_rfl))⟩,
 f23:=⟨Tryz.f321.E,by decide,Tryz.func321.trans (congrArg some (by kernel_rfl))⟩,
 f24:=⟨Tryz.f322.E,by decide,Tryz.func322.trans (congrArg some (by kernel_rfl))⟩,
 f25:=⟨Tryz.f323.E,by decide,Tryz.func323.trans (congrArg some (by kernel_rfl))⟩,
 f26:=⟨Tryz.f324.E,by decide,Tryz.func324.trans (congrArg some (by kernel_rfl))⟩,
 f27:=⟨Tryz.f325.E,by decide,Tryz.func325.trans (congrArg some (by kernel_rfl))⟩,
 f28:=⟨Tryz.f326.E,by decide,Tryz.func326.trans (congrArg some (by kernel_rfl))⟩,
 f29:=⟨Tryz.f327.E,by decide,Tryz.func327.trans (congrArg some (by kernel_rfl))⟩,
 f31:=Tryz.func329.trans (congrArg some (by kernel_rfl)),
 f32:=Tryz.func330.trans (congrArg some (by kernel_rfl)),
 f36:=⟨Tryz.f355.E,by decide,Tryz.func355.trans (congrArg some (by kernel_rfl))⟩,
 f37:=⟨Tryz.f356.E,by decide,Tryz.func356.trans (congrArg some (by kernel_rfl))⟩,
 f38:=⟨Tryz.f357.E,by decide,Tryz.func357.trans (congrArg some (by kernel_rfl))⟩,
 f39:=⟨Tryz.f358.E,by decide,Tryz.func358.trans (congrArg some (by kernel_rfl))⟩,
 f41:=⟨Tryz.f370.E,by decide,Tryz.func370.trans (congrArg some (by kernel_rfl))⟩,
 t0:=Hf,
 a0:=Tryz.isAgg0,
 z0:=Tryz.sizeOf0,
 v0:=JC,
 t3:=gQ,
 a3:=Tryz.isAgg3,
 z3:=Tryz.sizeOf3,
 v3:=JD,
 t4:=nK,
 a4:=Tryz.isAgg4,
 z4:=Tryz.sizeOf4,
 v4:=JE,
 t5:=Tryz.underlying5,
 a5:=Tryz.isAgg5,
 z5:=Tryz.sizeOf5,
 v5:=Tryz.zeroValue5,
 t9:=iM,
 a9:=Lf,
 z9:=Ig,
 v9:=Bp,
 t26:=kM,
 a26:=Tryz.isAgg69,
 z26:=Tryz.sizeOf69,
 v26:=Tryz.zeroValue69,
 t27:=kM,
 a27:=Tryz.isAgg69,
 z27:=Tryz.sizeOf69,
 v27:=Tryz.zeroValue69,
 t29:=iM,
 a29:=Lf,
 z29:=Ig,
 v29:=Bp,
 t32:=Tryz.underlying259,
 a32:=Tryz.isAgg259,
 z32:=Tryz.sizeOf259,
 v32:=Tryz.zeroValue259,
 t35:=Tryz.underlying351,
 a35:=Tryz.isAgg351,
 z35:=Tryz.sizeOf351,
 v35:=Tryz.zeroValue351,
 t36:=Tryz.underlying352,
 a36:=Tryz.isAgg352,
 z36:=Tryz.sizeOf352,
 v36:=Tryz.zeroValue352,
 t41:=Tryz.underlying158,
 a41:=Tryz.isAgg158,
 z41:=Tryz.sizeOf158,
 v41:=Tryz.zeroValue158,
 t44:=Tryz.underlying323,
 a44:=Tryz.isAgg323,
 z44:=Tryz.sizeOf323,
 v44:=Tryz.zeroValue323,
 t46:=Tryz.underlying92,
 a46:=Tryz.isAgg92,
 z46:=Tryz.sizeOf92,
 v46:=Tryz.zeroValue92,
 t53:=Tryz.underlying388,
 a53:=Tryz.isAgg388,
 z53:=Tryz.sizeOf388,
 v53:=Tryz.zeroValue388,
 t57:=Tryz.underlying392,
 a57:=Tryz.isAgg392,
 z57:=Tryz.sizeOf392,
 v57:=Tryz.zeroValue392,
 t63:=Tryz.underlying410,
 a63:=Tryz.isAgg410,
 z63:=Tryz.sizeOf410,
 v63:=Tryz.zeroValue410,
 t64:=Tryz.underlying152,
 a64:=Tryz.isAgg152,
 z64:=Tryz.sizeOf152,
 v64:=Tryz.zeroValue152}
def Po:Go.Shelf.Ren:=⟨fun|44=>144|n=>n,fun|25=>69|26=>9|3=>3|4=>4|0=>0|n=>n,fun|n=>n⟩
theorem M8:Go.Proofs.SlLaysN.n44 ah Po:={
 mixed:=by kernel_rfl,
 f44:=⟨Tryz.f144.E,by decide,Tryz.func144.trans (congrArg some (by kernel_rfl))⟩,
 t0:=Hf,
 a0:=Tryz.isAgg0,
 z0:=Tryz.sizeOf0,
 v0:=JC,
 t3:=gQ,
 a3:=Tryz.isAgg3,
 z3:=Tryz.sizeOf3,
 v3:=JD,
 t4:=nK,
 a4:=Tryz.isAgg4,
 z4:=Tryz.sizeOf4,
 v4:=JE,
 t25:=kM,
 a25:=Tryz.isAgg69,
 z25:=Tryz.sizeOf69,
 v25:=Tryz.zeroValue69,
 t26:=iM,
 a26:=Lf,
 z26:=Ig,
 v26:=Bp,
 i26:=by kernel_rfl}
theorem BF(l:List (List UInt8)):uw l=l.map encStr:=by
 unfold uw
 induction l with
 | nil=>rfl
 | cons x l ih=>rw[List.flatMap_cons,ih];rfl
def Ht(l:List (List UInt8)):List (List UInt8):=l.mergeSort fun x y=>decide (x<=y)
theorem ahC(x y:List UInt8):decide (x<=y) = !bR y x:=by
 rw[bytesLess_eq,Bool.eq_iff_iff];simp
theorem Na(l:List (List UInt8)):(Ht l).a=l.a:=List.length_mergeSort _
theorem amd(s:List UInt8)(l:List (List UInt8)):s∈Ht l↔s∈l:=List.mem_mergeSort
theorem IZ{a b c:List UInt8}(h1:bR b a=false)(h2:bR c b=false):bR c a=false:=by
 cases hc:bR c a
 ·rfl
 ·exfalso
  cases hb:bR a b
  ·have:=zK _ _ hb h1
   subst this;rw[hc]at h2;cases h2
  ·have:=yc _ _ _ hc hb
   rw[this]at h2;cases h2
theorem apG(l:List (List UInt8)):(Ht l).Pairwise (fun x y=>bR y x=false):=by
 have h:=List.pairwise_mergeSort (le:=fun x y:List UInt8=>decide (x<=y)) (fun a b c h1 h2=>by
  rw[ahC]at h1 h2 ⊢;simp only[Bool.not_eq_true']at h1 h2 ⊢;exact IZ h1 h2) (fun a b=>by
  rw[ahC,ahC];cases h1:bR b a
  ·rfl
  ·rw[amc h1];rfl) l
 refine h.imp ?_;intro a b hab;rw[ahC]at hab;simpa using hab
theorem ahD{l:List (List UInt8)}{i j:Nat}(hij:i<=j)(hj:j<l.a):bR ((Ht l).c[j]!) ((Ht l).c[i]!)=false:=by
 have hl:=Na l;rw[getElem!_pos _ j (by simp;omega),getElem!_pos _ i (by simp;omega)];simp only[List.getElem_toArray];rcases aZ i j with h|h
 ·exact List.pairwise_iff_getElem.1 (apG l) i j (by omega) (by omega) h
 ·have:i=j:=by omega
  subst this;exact sK _
theorem adu(zs:List (List UInt8))(s:List UInt8):s∈oz zs↔s∈zs:=by
 unfold oz Lib.compactUpTo;rw[List.mem_map];constructor
 ·rintro⟨j,hj,rfl⟩
  have hj2:=dU.1 (mh.1 hj).1;rw[getElem!_pos _ j (by simpa using hj2)];simp
 ·intro hs
  obtain⟨j0,hj0,he0⟩:=List.getElem_of_mem hs;have key:∀k,∀j (hj:j<zs.a),j<=k->zs[j]=s->∃i,i<zs.a/\Lib.keeps zs.c i=true/\zs.c[i]! = s:=by
   intro k
   induction k with
   | zero=>
     intro j hj hjk he;obtain rfl:j=0:=by omega
     refine⟨0,hj,by simp[Lib.keeps],?_⟩;rw[getElem!_pos _ 0 (by simpa using hj)];simpa using he
   | succ k ih=>
     intro j hj hjk he;by_cases hk:j=0\/zs.c[j]!≠zs.c[j-1]!
     ·refine⟨j,hj,by simp only[Lib.keeps];exact decide_eq_true hk,?_⟩
      rw[getElem!_pos _ j (by simpa using hj)];simpa using he
     ·have h1:j≠0:=fun h=>hk (.a h)
      have h2:zs.c[j]! = zs.c[j-1]!:=Classical.byContradiction fun h=>hk (.b h)
      rw[getElem!_pos _ j (by simpa using hj),getElem!_pos _ (j-1) (by simp;omega)]at h2;simp only[List.getElem_toArray]at h2;exact ih (j-1) (by omega) (by omega) (by rw[<-h2];exact he)
  obtain⟨i,hi,hk,he⟩:=key j0 j0 hj0 (av _) he0;exact⟨i,mh.2 ⟨dU.2 hi,hk⟩,he⟩
theorem adv(l:List (List UInt8)):afH (oz (Ht l)):=by
 unfold afH oz Lib.compactUpTo;rw[List.pairwise_map];have hp:((dX (Ht l).a).filter (Lib.keeps (Ht l).c)).Pairwise (fun a b=>a<b):=List.Pairwise.filter _ List.pairwise_lt_range;refine(List.Pairwise.and_mem.1 hp).imp ?_;rintro a b ⟨ha,hb,hab⟩;obtain⟨hb1,hb2⟩:=mh.1 hb;have hbl:=dU.1 hb1;rw[Na]at hbl;simp only[Lib.keeps,decide_eq_true_eq]at hb2;have hne:=hb2.resolve_left (by omega);have h1:=ahD (l:=l) (show a<=b-1 by omega) (by omega);have h2:=ahD (l:=l) (show b-1<=b by omega) hbl;cases hc:bR ((Ht l).c[a]!) ((Ht l).c[b]!)
 ·exfalso
  have h3:=IZ h1 h2;have e:=zK _ _ hc h3;have h4:bR ((Ht l).c[b-1]!) ((Ht l).c[b]!)=false:=by rw[<-e];exact h1
  exact hne (zK _ _ h2 h4)
 ·rfl
theorem Nb(l:List (List UInt8)):oz (Ht l)=Hr l:=
 Vq _ _ (adv l) (adr l) (fun s=>by rw[adu,amd,Vo])
theorem aja(base:Nat)(names:List (List UInt8))(A:Option aS)(n c:Nat)(w:ak)(hn:n<=100000)(hl:names.a=n)(h:w.c base 9 1 (.a A n c) n (uw names)):
 aQ ah 214 #[.a A n c] w fun e w'=>e=.a (.J #[])/\w'.c base 9 1 (.a A n c) n (uw (Ht names))/\w.d w' (bC A n c).ownBlock:=by
 subst hl;rcases h.2 with⟨hv,h0⟩|⟨g,cap,cur,hv,h2,h3,h4,h5,h6,h7⟩
 ·injection hv with e1 e2 e3
  subst e1 e3;have hnil:names=[]:=bE h0;subst hnil;refine(AnyM.slices_Sort_string_none Vs none 0 w).mono ?_;rintro e w' ⟨rfl,rfl⟩;refine⟨rfl,?_,World.grownBy.refl _ _⟩;rw[show Ht []=[]by simp[Ht]];exact h
 ·injection hv with e1 e2 e3
  subst e1 e3;have hg:g<w.a.j:=(bV.1 h3).1;rw[gB]at h7;have hH:Go.Sort.Holds encStr w g 0 names.c:=Go.holds_of_block h3 (by rw[h7,BF]);refine(AnyM.slices_Sort_string Vs g 0 c names w hH hg (by omega)).mono ?_;rintro e w' ⟨rfl,nn,os,rfl⟩;refine⟨rfl,?_,Go.grownBy_sorted _⟩;rw[BF];exact Go.ownsRow_sorted (ss:=names) (Na names) h2 h3 h4 h5 h6
theorem aaW(base:Nat)(zs:List (List UInt8))(A:Option aS)(n c:Nat)(w:ak)(hn:n<=100000)(hl:zs.a=n)(h:w.c base 9 1 (.a A n c) n (uw zs))(m:Nat)(hm:(oz zs).a=m):
 aQ ah 144 #[.a A n c] w fun e w'=>e=.a (.a A m c)/\w'.c base 9 1 (.a A m c) m (uw (oz zs))/\w.d w' (bC A n c).ownBlock:=by
 subst hl hm;rcases h.2 with⟨hv,h0⟩|⟨g,cap,cur,hv,h2,h3,h4,h5,h6,h7⟩
 ·injection hv with e1 e2 e3
  subst e1 e3;have hnil:zs=[]:=bE h0;subst hnil;refine(AnyG.slices_Compact_string_empty M8 none 0 w).mono ?_;rintro e w' ⟨rfl,rfl⟩;exact⟨rfl,h,World.grownBy.refl _ _⟩
 ·injection hv with e1 e2 e3
  subst e1 e3;rw[gB]at h7;have hH:Go.Sort.Holds encStr w g 0 zs.c:=Go.holds_of_block h3 (by rw[h7,BF]);refine(AnyG.slices_Compact_string M8 g 0 c zs w hH (by omega) h4).mono ?_;rintro e w' ⟨rfl,q,rfl⟩;have hle:(oz zs).a<=zs.a:=by
   unfold oz Lib.compactUpTo;rw[bQ];exact aO (List.length_filter_le _ _) (by simp)
  have hs:=Go.ownsRow_sorted (n:=q) (os:=#[]) (e:=9) (base:=base) (w:=w) (g:=g) (cap:=c) (cur:=cur) (ss:=zs) (ts:=oz zs++dV (zs.a-(oz zs).a) []) (by simp;omega) h2 h3 h4 h5 h6;have hg:=Go.grownBy_sorted (w:=w) (g:=g) (n:=q) (os:=#[]) (oz zs++dV (zs.a-(oz zs).a) []).c;rw[Go.Sort.grow_empty]at hs hg;refine⟨rfl,⟨by rw[BF];simp,.b ?_⟩,hg⟩;rcases hs.2 with⟨hv,_⟩|⟨g',cap',cur',hv,k2,k3,k4,k5,k6,k7⟩
  ·cases hv
  ·injection hv with e1 _ e3
   injection e1 with e1
   injection e1 with e1
   subst e1 e3;refine⟨g,c,cur',rfl,k2,k3,by omega,k5,k6,?_⟩;rw[gB]at k7 ⊢;have:=congrArg (List.take (oz zs).a) k7;rw[List.take_take,ou hle]at this;rw[this,BF,je,List.take_left' (by simp)]
section
open Go.RowKit Go.Shelf
attribute [local go_sem] qj
theorem afJ(F:KI)(n:Nat)(hf:F.fn 215)(hro:F.round=none)(hn:1<=n)(l Bs n₀:Nat)(A:Option aS)(len cap:Nat)(zs:List (List UInt8))(hlen:len<=100000)(J Jx:List (List UInt8)->ak->Prop)
 (hY:∀pre x W,J pre W->pre.a<len->YieldAt F (n-1) ah l #[.g (bK x)] W fun e W'=>
  (e=.a (.e true)/\J (pre++[x]) W'/\aL n₀ W W')\/(e=.a (.e false)/\Jx (pre++[x]) W'))
 (W:ak) (Pp:W.b ⟨Bs,0,none⟩=some (.a A len cap)) (hR:RdT W n₀ A len zs) (h0:J [] W) :
 Mh F n ah 215 #[.func (.yield l) #[] #[],.c (some ⟨Bs,0,none⟩)] W fun e W'=>(∃v,e=.a v) /\
  ((∃ys,ys=zs/\J ys W')\/(∃pre,pre <+: zs/\Jx pre W')):=by
 have hzl:=hR.1;refine Cq Tryz.func215 rfl hf ?_ hro;simp only[Tryz.ntmps215,dK,bD,gH,kP,kQ,fV,fZ,iL,gP,dG,iq];gi_wp2;gi_loopw [7] (fun i wr=>∃k:Nat,k<=len/\i=.b .a k/\J (zs.d k) wr/\aL n₀ W wr)
  (fun i _=>len-(intOf i).toNat)
 case atStart=>exact⟨0,Nat.zero_le _,rfl,h0,aH _ _⟩
 case round=>
  obtain⟨k,hk,rfl,hJs,hnx⟩:=hrel;by_cases hlt:k<len
  ·have hki:(k:Int)<len:=by omega
   obtain⟨b,o,rfl,hbb,hc⟩:=(hR.S hnx).text hlt;obtain⟨x,hx⟩:=dw (zs.b k []);rw[<-hx]at hc;have hsn:zs.d k++[x]=zs.d (k+1):=by rw[hx];exact oD [] zs k (by omega)
   have DR:=ab hsn;clear hx hsn hbb;obtain⟨fn,tmps,assign,body,hy,hRd⟩:=hY _ x wr hJs (by rw[bJ];omega);gi_wp2;refine hRd.mono ?_;rintro e W3 (⟨rfl,hJ3,hk3⟩|⟨rfl,hJx3⟩)
   ·gi_wp2
    go_roundw
    case rel=>exact⟨k+1,by omega,by simp,by rw[<-DR.i];exact hJ3,hnx.trans hk3⟩
    case measure=>simp[intOf];omega
   ·gi_wp2
    refine aN (vE rfl _ _ _) rfl ?_;exact⟨⟨_,rfl⟩,.b ⟨_,by rw[DR.i];exact List.take_prefix _ _,hJx3⟩⟩
  ·obtain rfl:k=len:=by omega
   have hd:decide ((k:Int)<k)=false:=by simp
   gi_wp2;go_end0;exact⟨⟨_,rfl⟩,.a ⟨_,aK (by omega),hJs⟩⟩
theorem afK(A:Option aS)(len cap:Nat)(w:ak):
 aQ ah 146 #[.a A len cap] w fun e w'=>e=.a (.func (.func 215) #[] #[.c (some ⟨w.a.j,0,none⟩)])/\w.alloc (.D #[.a A len cap] 69)=w':=by
 go_enter Tryz.func146,Tryz.ntmps146;go_wp2;go_ret;exact⟨rfl,rfl⟩
theorem aaX(F:KI)(n:Nat)(hf:F.fn 215)(hro:F.round=none)(hn:1<=n)(Bs n₀:Nat)(A:Option aS)(len cap:Nat)(zs:List (List UInt8))(hlen:len<=100000)(w:ak)(Pp:Bs<w.a.j)(hn₀:n₀<=w.a.j)
 (hc:w.b ⟨Bs,0,none⟩=some (.a A len cap)) (hR:RdT w n₀ A len zs) :
 vX F n ah 215 #[.c (some ⟨Bs,0,none⟩)] (fun x:List UInt8=>#[Value.string (bK x)]) (aL n₀) (fun ys=>ys=zs) (fun pre=>pre <+: zs) len w:=fun l J Jx W hW _ _ hY h0=>by
 have hc':=(hW.cell (p:=⟨Bs,0,none⟩) Pp).trans hc;exact afJ F n hf hro hn l Bs n₀ A len cap zs hlen J Jx hY W hc' (hR.to hW hn₀) h0
theorem aaY(F:KI)(n:Nat)(h3:F.fn 273)(h5:F.fn 215)(hro:F.round=none)(hn:3<=n)(Bs:Nat)(A:Option aS)(len cap:Nat)(zs:List (List UInt8))(hlen:len<=100000)(w:ak)(Pp:Bs<w.a.j)
 (hc:w.b ⟨Bs,0,none⟩=some (.a A len cap)) (hR:RdT w w.a.j A len zs) :
 Mh F n ah 273 #[.a none 0 0,.func (.func 215) #[] #[.c (some ⟨Bs,0,none⟩)]] w fun e W'=>
  ∃A' c',e=.a (.a A' len c')/\W'.c w.a.j 9 1 (.a A' len c') len (uw zs)/\aL w.a.j w W':=by
 have h1:1<=n:=by omega
 have hzl:=hR.1;obtain⟨i0,hi,hz0,hz1,hzb⟩:=Uj;refine qY Tryz.func273 rfl h3 ?_ hro;simp only[Tryz.ntmps273,dK,bD,gH,kP,kQ,fV,fZ,iL,gP,dG,iq];gi_wp2;have bO:=Cr w 69 (.a none 0 0);have hB0:aL w.a.j w (w.alloc (.D #[.a none 0 0] 69)):=(aH _ w).alloc (av _) _;refine wpIn_rangeFunc_ownG hro h1 (gf:=215) (lb:=#[.c (some ⟨Bs,0,none⟩)]) rfl h5 (enters_of Tryz.func215 (by kernel_rfl) rfl)
  (aaX F (n-1) h5 hro (by omega) Bs w.a.j A len cap zs hlen _ (by simp;omega) (by simp) ((hB0.cell (p:=⟨Bs,0,none⟩) Pp).trans hc) (hR.S hB0)) belowK_t (vQ (by simp)) (aH _ _) (fun _=>rfl)
  (fun pre W=>(∃v,Boxed W w.a.j 69 v/\W.c w.a.j 9 1 v pre.a (uw pre)/\True)/\aL w.a.j w W)
  (fun _ _ _=>False)
  (tH (Own.from (holdsRow_own w.a.j w.a.j 69 9 1 (fun pre=>pre.a) (fun pre=>uw pre) (fun _ _=>True)) _) (yQ (av _) (by simp)))
  (fun _ _ _ _ _ hs _ _=>hs)
  ⟨⟨_,bO,eY _ _ _ _,trivial⟩,hB0⟩
  (fun x=>{tmps:=#[.a none 0 0,.func (.func 215) #[] #[.c (some ⟨Bs,0,none⟩)],.c (some ⟨w.a.j,0,none⟩),undef,.a none 0 0,.g (bK x),.func (.func 215) #[] #[.c (some ⟨Bs,0,none⟩)],.g (bK x),undef,undef,undef,undef,undef],defers:=[]}) ?assign ?body ?done ?stop
 case assign=>
  intro l x W K hK;gi_wp2;exact hK
 case body=>
  rintro l pre x W ⟨⟨v,hv,hrow,_⟩,hB⟩ hlt;have hcv:=hv.cell;have hby:(pre.a+1)*i0.bytes<=140737488355328:=aO (gG (show pre.a+1<=100002 by omega) hzb) (by omega);gi_wp2_with (gi_at_builtin;refine wpListIn_append_own _ rfl _ _ 69 rfl w.a.j 9 i0 (.g ⟨#[]⟩) 1 i0.bytes kM hi hz0 hz1 rfl rfl (by decide) _ _ _ rfl (hrow.alloc _) ⟨W.a.j,0,none⟩ 1 1 [.g (bK x)] rfl rfl (cell_one_new _ _ _) (by simp[cB]) (by unfold maxLen;omega) hby (by have:=hB.j;simp;omega) ?_;intro v' w1 hown' hgrow _;obtain⟨g',cap',rfl⟩:=ownsRow_succ hown';obtain⟨hv1,hv2,hr2,hk2,hb2⟩:=hv.appended (by decide) hrow hB.j (av _) hown' hgrow;have hc1:=hv1.cell;have hf1:=hv1.frozen);exact⟨hk2.from _,hb2,⟨_,hv2,by rw[aR,<-Ir];exact hr2,trivial⟩,hB.trans hb2⟩
 case done=>
  rintro D ys W hD rfl ⟨⟨v,hv,hrow,_⟩,hB⟩ hK;have hcv:=hv.cell;gi_wp2;refine⟨by simp,.a ⟨_,_,rfl,uH hK,?_⟩⟩;rw[hzl]at hrow;obtain⟨A',c',hv',_,_⟩:=jG hrow;refine⟨_,Ih rfl _ _ _,A',c',by rw[<-hv'];rfl,?_,hB.trans (vQ (w:=w) (av _) W D _ _ (by simp at hD;omega) hK rfl rfl)⟩;rw[<-hv'];exact ownsRow_putObj hrow _ hK rfl
 case stop=>
  rintro D c pre W _ _ h _;exact h.elim
def TxN(w:ak)(n:Nat)(m:List (List UInt8))(e:Ending)(w':ak):Prop:=
 ∃A c,e=.a (.a A n c)/\w'.c w.a.j 9 1 (.a A n c) n (uw m)/\aL w.a.j w w'
theorem XZ(Bs:Nat)(A:Option aS)(len cap:Nat)(zs:List (List UInt8))(hlen:len<=100000)(w:ak)(Pp:Bs<w.a.j)
 (hc:w.b ⟨Bs,0,none⟩=some (.a A len cap)) (hR:RdT w w.a.j A len zs) :
 aQ ah 273 #[.a none 0 0,.func (.func 215) #[] #[.c (some ⟨Bs,0,none⟩)]] w (TxN w len zs):=
 (mU (n:=6)).1 (aaY nG 6 trivial trivial rfl (by omega) Bs A len cap zs hlen w Pp hc hR)
theorem adw(Bs:Nat)(A:Option aS)(len cap:Nat)(zs:List (List UInt8))(hlen:len<=100000)(w:ak)(Pp:Bs<w.a.j)
 (hc:w.b ⟨Bs,0,none⟩=some (.a A len cap)) (hR:RdT w w.a.j A len zs) :
 aQ ah 213 #[.func (.func 215) #[] #[.c (some ⟨Bs,0,none⟩)]] w (TxN w len zs):=by
 have AP:=ab (XZ Bs A len cap zs hlen w Pp hc hR);clear hc hR;go_enter Tryz.func213,Tryz.ntmps213;go_wp2_with fail;refine AP.i.mono ?_;rintro e w1 ⟨A1,c1,rfl,ho,hb⟩;have HO:=ab ho;have HB:=ab hb;clear ho hb;go_wp2;go_ret;exact⟨A1,c1,rfl,HO.i,HB.i⟩
theorem adx(Bs:Nat)(A:Option aS)(len cap:Nat)(zs:List (List UInt8))(hlen:len<=100000)(w:ak)(Pp:Bs<w.a.j)
 (hc:w.b ⟨Bs,0,none⟩=some (.a A len cap)) (hR:RdT w w.a.j A len zs) :
 aQ ah 145 #[.func (.func 215) #[] #[.c (some ⟨Bs,0,none⟩)]] w (TxN w len (Ht zs)):=by
 have HZ:=ab hR.1;have AP:=ab (adw Bs A len cap zs hlen w Pp hc hR);clear hc hR;go_enter Tryz.func145,Tryz.ntmps145;go_wp2_with fail;refine AP.i.mono ?_;rintro e w1 ⟨A1,c1,rfl,ho,hb⟩;have HO:=ab ho;have HB:=ab hb;have ST:=ab (aja w.a.j zs A1 len c1 w1 hlen HZ.i ho);clear ho hb;go_wp2_with fail;refine ST.i.mono ?_;rintro e w2 ⟨rfl,ho2,hg⟩;have HO2:=ab ho2;have HB2:=ab (HB.i.grown hg HB.i.j (fun k hk=>(HO.i.lt k hk).1));clear ho2 hg;go_wp2;go_ret;exact⟨A1,c1,rfl,HO2.i,HB2.i⟩
end
section
open Go.RowKit Go.Shelf
attribute [local go_sem] qj
def uI(n:Nat):List Nat:=(dX n).reverse
theorem YT(n:Nat):(uI n).a=n:=by simp[uI]
theorem Vt(n j:Nat)(hj:j<n):(uI n).d (n-1-j)++[j]=(uI n).d (n-j):=by
 have h:(uI n)[n-1-j]? = some j:=by
  unfold uI;rw[List.getElem?_reverse (by simp;omega),List.length_range,show n-1-(n-1-j)=j by omega,wV hj]
 obtain⟨h1,h2⟩:=List.getElem?_eq_some_iff.1 h;rw[show n-j=n-1-j+1 by omega,List.take_succ_eq_append_getElem h1,h2]
def KpB(n₀ Bs:Nat)(W W':ak):Prop:=aL n₀ W W'/\W'.a[Bs]? = W.a[Bs]?
theorem KpB.refl(n₀ Bs:Nat)(W:ak):KpB n₀ Bs W W:=⟨aH _ _,rfl⟩
theorem KpB.trans{n₀ Bs:Nat}{A B C:ak}(h:KpB n₀ Bs A B)(k:KpB n₀ Bs B C):KpB n₀ Bs A C:=⟨h.1.trans k.1,k.2.trans h.2⟩
theorem KpB.cell{n₀ Bs:Nat}{W W':ak}{v:aB}(h:KpB n₀ Bs W W')(hc:W.b ⟨Bs,0,none⟩=some v):W'.b ⟨Bs,0,none⟩=some v:=by
 rw[<-hc];simp only[World.cell?,h.2]
theorem amf(F:KI)(n:Nat)(hf:F.fn 212)(hro:F.round=none)(hn:1<=n)(l Bs n₀:Nat)(A:Option aS)(len cap:Nat)(zs:List Hl)(hlen:len<=100000)(J Jx:List Nat->ak->Prop)
 (hY:∀pre x W,J pre W->pre.a<len->YieldAt F (n-1) ah l #[.b .a (x:Nat),.agg (zs.b x kY).ay] W fun e W'=>
  (e=.a (.e true)/\J (pre++[x]) W'/\KpB n₀ Bs W W')\/(e=.a (.e false)/\Jx (pre++[x]) W'))
 (W:ak) (Pp:W.b ⟨Bs,0,none⟩=some (.a A len cap)) (hR:RdH W n₀ A len zs) (h0:J [] W) :
 Mh F n ah 212 #[.func (.yield l) #[] #[],.c (some ⟨Bs,0,none⟩)] W fun e W'=>(∃v,e=.a v) /\
  ((∃ys,ys=uI len/\J ys W')\/(∃pre,True/\Jx pre W')):=by
 have hzl:=hR.1;have hbl:=YT len;refine Cq Tryz.func212 rfl hf ?_ hro;simp only[Tryz.ntmps212,dK,bD,gH,kP,kQ,fV,fZ,iL,gP,dG,iq];have hst:∃i0:Int,(len:Int)-1=i0/\((i0 = -1/\len=0)\/(∃j:Nat,i0=j/\j+1=len)):=by
  refine⟨_,rfl,?_⟩;rcases dY len with h|h
  ·exact .a ⟨by omega,h⟩
  ·exact .b ⟨len-1,by omega,by omega⟩
 obtain⟨i0,hi0,hst⟩:=hst;gi_wp2;gi_loopw [3] (fun i wr=>∃i1:Int,i=.b .a i1/\((i1 = -1/\J (uI len) wr)\/(∃j:Nat,i1=j/\j<len/\J ((uI len).d (len-1-j)) wr))/\KpB n₀ Bs W wr)
  (fun i _=>(intOf i+1).toNat)
 case atStart=>
  refine⟨i0,rfl,?_,KpB.refl _ _ _⟩;rcases hst with⟨h1,h2⟩|⟨j,h1,h2⟩
  ·refine .a ⟨h1,?_⟩
   have:uI len=[]:=bE (by omega);rw[this];exact h0
  ·refine .b ⟨j,h1,by omega,?_⟩
   rw[show len-1-j=0 by omega];exact h0
 case round=>
  obtain⟨i1,rfl,hcase,hnx⟩:=hrel;clear hst hi0;have hBw:wr.b ⟨Bs,0,none⟩=some (.a A len cap):=hnx.cell Pp;rcases hcase with⟨rfl,hJs⟩|⟨j,rfl,hjl,hJs⟩
  ·gi_wp2
   go_end0;exact⟨⟨_,rfl⟩,.a ⟨_,rfl,hJs⟩⟩
  ·have hj0:decide ((0:Int)<=(j:Int))=true:=by simp
   have aCw:(j:Int)<len:=by omega
   obtain⟨b,o,rfl,hbb,hh,hc,_,_⟩:=(hR.S hnx.1).hl hjl;obtain⟨x,hx⟩:=dw (zs.b j kY);rw[<-hx]at hc;have DR:=ab (show(uI len).d (len-1-j)++[j]=(uI len).d (len-j)from Vt len j (by omega));obtain⟨fn,tmps,assign,body,hy,hRd⟩:=hY _ j wr hJs (by rw[bJ];omega);rw[<-hx]at hy;clear hx hbb;gi_wp2;refine hRd.mono ?_;rintro e W3 (⟨rfl,hJ3,hk3⟩|⟨rfl,hJx3⟩)
   ·gi_wp2
    go_roundw
    case rel=>
     refine⟨_,rfl,?_,hnx.trans hk3⟩;rw[DR.i]at hJ3;rcases dY j with h|h
     ·refine .a ⟨by omega,?_⟩
      rw[aK (by omega)]at hJ3;exact hJ3
     ·refine .b ⟨j-1,by omega,by omega,?_⟩
      rw[show len-1-(j-1)=len-j by omega];exact hJ3
    case measure=>simp[intOf]<;>omega
   ·gi_wp2
    refine aN (vE rfl _ _ _) rfl ?_;exact⟨⟨_,rfl⟩,.b ⟨_,trivial,hJx3⟩⟩
theorem amg(A:Option aS)(len cap:Nat)(w:ak):
 aQ ah 143 #[.a A len cap] w fun e w'=>e=.a (.func (.func 212) #[] #[.c (some ⟨w.a.j,0,none⟩)])/\w.alloc (.D #[.a A len cap] 33)=w':=by
 go_enter Tryz.func143,Tryz.ntmps143;go_wp2;go_ret;exact⟨rfl,rfl⟩
theorem afL(F:KI)(n:Nat)(hf:F.fn 212)(hro:F.round=none)(hn:1<=n)(Bs n₀:Nat)(A:Option aS)(len cap:Nat)(zs:List Hl)(hlen:len<=100000)(w:ak)(Pp:Bs<w.a.j)(hn₀:n₀<=w.a.j)
 (hc:w.b ⟨Bs,0,none⟩=some (.a A len cap)) (hR:RdH w n₀ A len zs) :
 vX F n ah 212 #[.c (some ⟨Bs,0,none⟩)] (fun x:Nat=>#[aI .a (x:Nat),.agg (zs.b x kY).ay]) (KpB n₀ Bs) (fun ys=>ys=uI len) (fun _=>True) len w:=fun l J Jx W hW _ _ hY h0=>by
 have hc':=(hW.cell (p:=⟨Bs,0,none⟩) Pp).trans hc;exact amf F n hf hro hn l Bs n₀ A len cap zs hlen J Jx hY W hc' (hR.to hW hn₀) h0
section
variable {H:Type}
def hlD(x:Hl):zB H:=.agg [.lit (.g x.E),.lit (.e x.down),.lit (.b .a x.I)]
def I4:aB->Option (zB H×List sU)
 | .agg c=>match c.a with
   | [.g s,.e b,.b .a r]=>some (hlD ⟨s.data.a,b,r⟩,[])
   | _=>none
 | _=>none
theorem YU(x:Hl):I4 (H:=H) (.agg x.ay)=some (hlD x,[]):=by
 simp[I4,Hl.ay,bK]
theorem afM{v:aB}{z:zB H×List sU}(h:I4 v=some z):∃x:Hl,v=.agg x.ay/\z=(hlD x,[]):=by
 unfold I4 at h;split at h
 ·rename_i c
  split at h
  ·rename_i s b r hc
   injection h with h
   refine⟨⟨s.data.a,b,r⟩,?_,h.symm⟩;have:c = #[.g s,.e b,.b .a r]:=by rw[<-Array.toArray_toList (xs:=c),hc]
   rw[this];simp[Hl.ay,Qp]
  ·cases h
 ·cases h
theorem ahF{x y:Hl}(h:hlD (H:=H) x=hlD y):x=y:=by
 cases x;cases y;simp[hlD]at h;obtain⟨rfl,rfl,rfl⟩:=h;rfl
def YV(D:zB H)(f:List UInt8->Option Hl):Prop:=
 Maps.IsMap D/\∀s,Maps.has D (.g s)=(f s).isSome/\∀zd,D.atKey (.g s) zd=match f s with|some x=>hlD x|none=>zd
def Gc(l:List Hl)(pre:List Nat)(s:List UInt8):Option Hl:=(pre.reverse.map (fun k=>l.b k kY)).find? (fun x=>x.E==s)
theorem ady(l:List Hl)(pre:List Nat)(p:Nat)(s:List UInt8):Gc l (pre++[p]) s=if(l.b p kY).E==s then some (l.b p kY)else Gc l pre s:=by
 unfold Gc;rw[List.reverse_append];simp only[List.reverse_cons,List.reverse_nil,dG,iq,kL,List.find?_cons];cases(l.b p kY).E==s<;>rfl
theorem afN(l:List Hl)(s:List UInt8):Gc l (uI l.a) s=l.find? (fun x=>x.E==s):=by
 unfold Gc uI;rw[List.reverse_reverse];congr 1;apply iJ;intro i;rw[jC];rcases aZ i l.a with h|h
 ·rw[wV h,aC h]
  simp only[Option.map_some];rw[au,aC h];rfl
 ·rw[aT (by simpa using h),aT h];rfl
theorem ajb(l:List Hl):YV (H:=H) (.map []) (Gc l []):=⟨⟨[],rfl⟩,fun s=>⟨rfl,fun zd=>rfl⟩⟩
theorem ajc{D:zB H}{l:List Hl}{pre:List Nat}(h:YV D (Gc l pre))(k:Nat)(p:Hl)(hp:p=l.b k kY):YV (D.put (.g p.E) (hlD p)) (Gc l (pre++[k])):=by
 obtain⟨hm,hs⟩:=h;have hk:Go.WideAt.IsKeyLit (.g p.E):=trivial;refine⟨hm.put _ _,fun s=>?_⟩;rw[ady,<-hp];by_cases hn:p.E=s
 ·subst hn
  have:(p.E==p.E)=true:=by simp
  rw[this];exact⟨Maps.has_put_same hm hk _,fun zd=>Maps.atKey_put_same hm hk _ _⟩
 ·have hb:(p.E==s)=false:=by simpa using hn
  rw[hb];have hne:(Lit.string s)≠.g p.E:=fun e=>hn (by injection e with e;exact e.symm)
  obtain⟨h1,h2⟩:=hs s;exact⟨by rw[Maps.has_put_other hne];exact h1,fun zd=>by rw[Maps.atKey_put_other hne];exact h2 zd⟩
end
end
section
open Go.RowKit Go.Shelf
attribute [local go_sem] qj
theorem ajd(F:KI)(n:Nat)(hf:F.fn 306)(hro:F.round=none)(hn:1<=n)(l Bs n₀:Nat)(A:Option aS)(len cap:Nat)(zs:List UInt8)(hlen:len<=100000)(J Jx:List Nat->ak->Prop)
 (hY:∀pre x W,J pre W->pre.a<len->YieldAt F (n-1) ah l #[.b .a (x:Nat),bv (zs.b x 0)] W fun e W'=>
  (e=.a (.e true)/\J (pre++[x]) W'/\KpB n₀ Bs W W')\/(e=.a (.e false)/\Jx (pre++[x]) W'))
 (W:ak) (Pp:W.b ⟨Bs,0,none⟩=some (.a A len cap)) (hR:gq W n₀ A len zs) (h0:J [] W) :
 Mh F n ah 306 #[.func (.yield l) #[] #[],.c (some ⟨Bs,0,none⟩)] W fun e W'=>(∃v,e=.a v) /\
  ((∃ys,ys=uI len/\J ys W')\/(∃pre,True/\Jx pre W')):=by
 have hzl:=hR.len;have hbl:=YT len;refine Cq Tryz.func306 rfl hf ?_ hro;simp only[Tryz.ntmps306,dK,bD,gH,kP,kQ,fV,fZ,iL,gP,dG,iq];have hst:∃i0:Int,(len:Int)-1=i0/\((i0 = -1/\len=0)\/(∃j:Nat,i0=j/\j+1=len)):=by
  refine⟨_,rfl,?_⟩;rcases dY len with h|h
  ·exact .a ⟨by omega,h⟩
  ·exact .b ⟨len-1,by omega,by omega⟩
 obtain⟨i0,hi0,hst⟩:=hst;gi_wp2;gi_loopw [3] (fun i wr=>∃i1:Int,i=.b .a i1/\((i1 = -1/\J (uI len) wr)\/(∃j:Nat,i1=j/\j<len/\J ((uI len).d (len-1-j)) wr))/\KpB n₀ Bs W wr)
  (fun i _=>(intOf i+1).toNat)
 case atStart=>
  refine⟨i0,rfl,?_,KpB.refl _ _ _⟩;rcases hst with⟨h1,h2⟩|⟨j,h1,h2⟩
  ·refine .a ⟨h1,?_⟩
   have:uI len=[]:=bE (by omega);rw[this];exact h0
  ·refine .b ⟨j,h1,by omega,?_⟩
   rw[show len-1-j=0 by omega];exact h0
 case round=>
  obtain⟨i1,rfl,hcase,hnx⟩:=hrel;clear hst hi0;have hBw:wr.b ⟨Bs,0,none⟩=some (.a A len cap):=hnx.cell Pp;rcases hcase with⟨rfl,hJs⟩|⟨j,rfl,hjl,hJs⟩
  ·gi_wp2
   go_end0;exact⟨⟨_,rfl⟩,.a ⟨_,rfl,hJs⟩⟩
  ·have hj0:decide ((0:Int)<=(j:Int))=true:=by simp
   have aCw:(j:Int)<len:=by omega
   obtain⟨a,rfl,hab,hc⟩:=(hR.S hnx.1).at_ (k:=j) (by omega);obtain⟨x,hx⟩:=dw (zs.b j 0);rw[<-hx]at hc;have DR:=ab (show(uI len).d (len-1-j)++[j]=(uI len).d (len-j)from Vt len j (by omega));obtain⟨fn,tmps,assign,body,hy,hRd⟩:=hY _ j wr hJs (by rw[bJ];omega);rw[<-hx]at hy;clear hx;gi_wp2;refine hRd.mono ?_;rintro e W3 (⟨rfl,hJ3,hk3⟩|⟨rfl,hJx3⟩)
   ·gi_wp2
    go_roundw
    case rel=>
     refine⟨_,rfl,?_,hnx.trans hk3⟩;rw[DR.i]at hJ3;rcases dY j with h|h
     ·refine .a ⟨by omega,?_⟩
      rw[aK (by omega)]at hJ3;exact hJ3
     ·refine .b ⟨j-1,by omega,by omega,?_⟩
      rw[show len-1-(j-1)=len-j by omega];exact hJ3
    case measure=>simp[intOf]<;>omega
   ·gi_wp2
    refine aN (vE rfl _ _ _) rfl ?_;exact⟨⟨_,rfl⟩,.b ⟨_,trivial,hJx3⟩⟩
theorem aje(A:Option aS)(len cap:Nat)(w:ak):
 aQ ah 252 #[.a A len cap] w fun e w'=>e=.a (.func (.func 306) #[] #[.c (some ⟨w.a.j,0,none⟩)])/\w.alloc (.D #[.a A len cap] 56)=w':=by
 go_enter Tryz.func252,Tryz.ntmps252;go_wp2;go_ret;exact⟨rfl,rfl⟩
theorem adz(F:KI)(n:Nat)(hf:F.fn 306)(hro:F.round=none)(hn:1<=n)(Bs n₀:Nat)(A:Option aS)(len cap:Nat)(zs:List UInt8)(hlen:len<=100000)(w:ak)(Pp:Bs<w.a.j)(hn₀:n₀<=w.a.j)
 (hc:w.b ⟨Bs,0,none⟩=some (.a A len cap)) (hR:gq w n₀ A len zs) :
 vX F n ah 306 #[.c (some ⟨Bs,0,none⟩)] (fun x:Nat=>#[aI .a (x:Nat),bv (zs.b x 0)]) (KpB n₀ Bs) (fun ys=>ys=uI len) (fun _=>True) len w:=fun l J Jx W hW _ _ hY h0=>by
 have hc':=(hW.cell (p:=⟨Bs,0,none⟩) Pp).trans hc;exact ajd F n hf hro hn l Bs n₀ A len cap zs hlen J Jx hY W hc' (hR.to hW hn₀) h0
theorem gq.upM{w:ak}{B n k:Nat}{A:Option aS}{l:List UInt8}(h:gq w B A n l)(hk:k<=n):gq w B A k (l.d k):=by
 have:=Rd.upto h hk
 rwa [gB,<-Ap]at this
theorem amh(zs:List UInt8)(m:Nat)(hm:zs.a=m):(uI m).map (fun i=>zs.b i 0)=zs.reverse:=by
 subst hm;unfold uI;rw[List.map_reverse];congr 1;apply iJ;intro i;rw[jC];rcases aZ i zs.a with h|h
 ·rw[wV h,aC h];simp[au,h]
 ·rw[aT (by simpa using h),aT h];rfl
theorem Lx(A:Option aS)(n c:Nat)(l:List UInt8)(w:ak)(hnc:n<=c)(hc:c<=9223372036854775807)(hr:gq w w.a.j A n l):
 aQ ah 180 #[.a A n c,.e false] w (gM w (.b .c (leN (l.d 8)))):=by
 refine(mU (n:=8)).1 ?_;have hlen:=hr.len;obtain⟨m,hm,hm8,hmn⟩:∃m:Nat,(if(8:Int)<(n:Int)then(8:Int)else(n:Int))=m/\m<=8/\m<=n:=⟨min n 8,by split<;>omega,by omega,by omega⟩
 have hmm:m=min n 8:=by split at hm<;>omega
 have hm2:min (n:Int) 8=m:=by omega
 have HR:=ab (hr.upM hmn);obtain⟨zs,hzs⟩:=dw (l.d m);have HZL:=ab (show zs.a=m by rw[hzs,bJ];omega);have HZ8:=ab (show l.d 8=zs by
  rw[hzs,hmm];by_cases h8:n<=8
  ·rw[ou h8,aK (by omega),aK (by omega)]
  ·rw[Nat.min_eq_right (by omega)])
 rw[<-hzs]at HR;rw[HZ8.i];clear hr hmm hzs HZ8 hlen;have hfn:∀f,nG.fn f:=fun _=>trivial
 refine qY Tryz.func180 rfl trivial ?_ rfl;simp only[Tryz.ntmps180,dK,bD,gH,kP,kQ,fV,fZ,iL,gP,dG,iq];gi_wp2_with (gi_at_call 252;refine(mU.2 (aje A m c _)).mono ?_;rintro e w' ⟨rfl,rfl⟩);clear hm hm2;have hB0:aL w.a.j w (w.alloc (.D #[.b .c 0] 92)):=(aH _ w).alloc (av _) _;have bN:=Cr w 92 (.b .c 0);have hs1:(w.alloc (.D #[.b .c 0] 92)).a.j=w.a.j+1:=by simp
 generalize w.alloc (.D #[.b .c 0] 92)=W1 at hB0 bN hs1 ⊢;have bS:=Cr W1 56 (.a A m c);have bN2:=bN.alloc (.D #[.a A m c] 56);have hB1:=hB0.alloc (Nat.le_of_eq hs1 |> fun _=>(by omega:w.a.j<=W1.a.j)) (.D #[.a A m c] 56);have hs2:(W1.alloc (.D #[.a A m c] 56)).a.j=w.a.j+2:=by simp[hs1]
 rw[hs1]at bS
 try simp only[hs1]
 generalize W1.alloc (.D #[.a A m c] 56)=W2 at hB1 bN2 bS hs2 ⊢;clear hB0 bN hs1;refine wpIn_rangeFunc_ownG rfl (by omega) (gf:=306) (lb:=#[.c (some ⟨w.a.j+1,0,none⟩)]) rfl trivial (enters_of Tryz.func306 (by kernel_rfl) rfl)
  (adz nG 7 trivial rfl (by omega) (w.a.j+1) w.a.j A m c zs (by omega) W2 (by omega) (by omega) bS.cell (HR.i.S hB1)) KpB.trans (fun W q o o' hq ho hc hw=>⟨vQ (w:=w) (av _) W q o o' (by omega) ho hc hw,(grownBy_putObj' W q o').block _ (by have:=(bV.1 ho).1;omega) (fun e=>by injection e with e;omega)⟩) (aH _ _) (fun _=>rfl)
  (fun pre W=>(Boxed W w.a.j 92 (.b .c (oC (pre.map fun i=>zs.b i 0):Nat))/\w.a.j+2<=W.a.j)/\aL w.a.j w W)
  (fun _ _ _=>False)
  (tH (tH (Own.from (boxed_own _ _ _) _) (fun s X Y row hs hg hr=>aO hs hg.j)) (yQ (av _) (by omega)))
  (fun _ _ _ _ _ hs _ _=>hs)
  ⟨⟨bN2,by omega⟩,hB1⟩
  (fun x=>{tmps:=#[.a A m c,.e false,undef,undef,.b .c 0,.c (some ⟨w.a.j,0,none⟩),undef,undef,undef,bv (zs.b x 0),.a A n c,.a A n c,.b .a n,.b .a m,.a A m c,.e false,undef,undef,undef,undef,undef,undef,undef,undef,undef,undef,undef,undef,undef,.a A m c,.func (.func 306) #[] #[.c (some ⟨w.a.j+1,0,none⟩)],.b .a (x:Nat),bv (zs.b x 0),undef,undef,undef,undef,undef,undef],defers:=[]})
  ?assign ?body ?done ?stop
 case assign=>
  intro l x W K hK;gi_wp2;exact hK
 case body=>
  rintro l pre x W ⟨⟨hv,hsz⟩,hB⟩ hlt;have cS:=hv.cell;have fS:=hv.frozen;have HV:=ab hv;have HB:=ab hB;clear hv hB;obtain⟨y,hy⟩:=dw (zs.b x 0);obtain⟨nn,hnn⟩:=dw (oC (pre.map fun i=>zs.b i 0));have Yt:nn*256<18446744073709551616:=by
   have h1:=JI (pre.map fun i=>zs.b i 0);have h2:256^(pre.map fun i=>zs.b i 0).a<=256^7:=Nat.pow_le_pow_right (by omega) (by rw[bQ];omega);omega
  have DR:=ab (show oC ((pre++[x]).map fun i=>zs.b i 0)=nn*256+y.toNat by rw[je,kL,List.map_nil,Io,<-hy,<-hnn]);rw[<-hnn]at cS HV;have aiq:=y.toNat_lt;have hor:=ag8 nn y.toNat Yt aiq;unfold bv;rw[<-hy];clear hy hnn;generalize y.toNat=ch at *;have G:=grownBy_setCell' W w.a.j (.b .c (nn*256+ch:Nat));have HX:=ab (show KeepsFrom W2.a.j W (W.F ⟨w.a.j,0,none⟩ (.b .c (nn*256+ch:Nat)))/\KpB w.a.j (w.a.j+1) W (W.F ⟨w.a.j,0,none⟩ (.b .c (nn*256+ch:Nat)))/\(Boxed (W.F ⟨w.a.j,0,none⟩ (.b .c (nn*256+ch:Nat))) w.a.j 92 (.b .c (nn*256+ch:Nat))/\w.a.j+2<=(W.F ⟨w.a.j,0,none⟩ (.b .c (nn*256+ch:Nat))).a.j)/\aL w.a.j w (W.F ⟨w.a.j,0,none⟩ (.b .c (nn*256+ch:Nat)))from
   ⟨KeepsFrom.of_grownBy G (fun j e=>by cases e;omega),⟨(aH w.a.j W).F (p:=⟨w.a.j,0,none⟩) (av w.a.j) _,G.block _ (by omega) (fun e=>by injection e with e;omega)⟩,⟨HV.i.set _,by have:=G.j;omega⟩,HB.i.F (p:=⟨w.a.j,0,none⟩) (av w.a.j) _⟩)
  clear G;gi_wp2;refine⟨HX.i.1,HX.i.2.1,⟨?_,HX.i.2.2.1.2⟩,HX.i.2.2.2⟩;show Boxed _ _ _ (.b .c (oC ((pre++[x]).map fun i=>zs.b i 0):Nat));rw[DR.i];exact HX.i.2.2.1.1
 case done=>
  rintro D0 ys W hD0 rfl ⟨⟨hv,hsz⟩,hB⟩ hK;have cS:=hv.cell;rw[amh zs m HZL.i]at cS;have HV:=ab hv;have HB:=ab hB;clear hv hB;have HL:=ab (show leN zs=oC zs.reverse from rfl);gi_wp2;refine⟨by simp,.a ⟨_,_,rfl,uH hK,?_⟩⟩;refine⟨_,Ih rfl _ _ _,?_,HB.i.trans (vQ (w:=w) (av _) W D0 _ _ (by omega) hK rfl rfl)⟩;rw[HL.i];rfl
 case stop=>
  rintro D c pre W _ _ h _;exact h.elim
end
section
open Go.RowKit Go.Shelf
attribute [local go_sem] qj
theorem GQ{P:eG}{t k e:bM}(hu:P.underlying t=some (.map k e))(n:Int)(w:ak):(Instr.makeMap t (some (.b .a n))).I P w=.ok (.map (some w.a.j)) (w.alloc (.map #[] 0)):=by
 simp[Instr.makeMap,run_underlying hu,asInt,asIntOf,Result.andThen]
theorem zy(B:Nat)(c:Array aB):Own (fun(_:Unit) W=>dJ W B c):=fun s X Y row hs hg hrow=>
 hs.grown hg (fun e'=>by obtain⟨o,ho,hc⟩:=hrow B e'.symm;obtain⟨t,hs⟩:=hs;rw[hs]at ho;cases ho;cases hc)
theorem apI(w:ak):(zeroValue 100).I ah w=.ok (.agg kY.ay) w:=by
 obtain⟨i0,hi0,hz0,hz1,hzb⟩:=OJ;simp[zeroValue,typeInfo,hi0,hz0]
theorem Boxed.amj{W W':ak}{b B:Nat}{t:bM}{v:aB}(h:Boxed W b t v)(hb:aL B W W')(hl:b<B):Boxed W' b t v:=(hb.block b hl).trans h
theorem Ya{H:Type}{P:eG}{k:bM}{R:aB->Option (zB H×List sU)}{b n B:Nat}{D:zB H}{W W':ak}(h:W.ownsMap P k R b n D)(hb:aL B W W')(hl:b<B):W'.ownsMap P k R b n D:=by
 obtain⟨es,ck,h1,h2⟩:=h;exact⟨es,ck,(hb.block b hl).trans h1,h2⟩
theorem afO{H:Type}{P:eG}{k:bM}{R:aB->Option (zB H×List sU)}{b n:Nat}{D:zB H}{W:ak}(h:W.ownsMap P k R b n D):b<W.a.j:=by
 obtain⟨es,ck,h1,h2⟩:=h;exact(bV.1 h1).1
theorem ED{ops:Array Oper}{rest:List Oper}{o:Oper}{a:Act}{Q:Exit->Act->ak->Prop}{w:ak}(hg:o.guard=none)(m x:Operand)(Hu:o.op=Op.lookup 230 m x true)
 (b n:Nat) (D:zB Unit) (hm:a.eval m=.map (some b)) (hown:w.ownsMap ah 9 I4 b n D) (f:List UInt8->Option Hl) (hF:YV D f) (s:List UInt8) (hs:s.a<=100000) (hx:a.eval x=.g (bK s))
 (y:Hl) (ok:Bool) (hy:(f s).b kY=y) (hok:(f s).isSome=ok) (hK:wpList ah ops Q rest (a.put o.Y (.J #[.agg y.ay,.e ok])) w):wpList ah ops Q (o::rest) a w:=by
 have hkey:keyOf ah 9 (.g (bK s))=some (.g s):=WideMaps.keyOf_string_mk (P:=ah) iM (by unfold maxLen;rw[Dc];omega);refine wpList_lookup_own_ok w hg m x 230 Hu 9 100 (Maps.string_keyed iM) Tryz.underlying230 I4 (apI w) (hlD kY) [] (YU kY) b n D hm hown _ (.g s) hx hkey ?_;intro v ps hv;obtain⟨z,rfl,hz⟩:=afM hv;obtain⟨h1,h2⟩:=hF.2 s;have hzd:=congrArg Prod.fst hz;dsimp only at hzd;rw[h2]at hzd;have e1:z=y:=by
  rw[<-hy];cases hf:f s with
  | none=>rw[hf]at hzd;exact(ahF hzd).symm
  | some u=>rw[hf]at hzd;exact(ahF hzd).symm
 rw[e1,h1,hok];exact hK
theorem afP(l:List Hl)(s:List UInt8):Bz l s=match l.find? (fun x=>x.E==s)with|some x=>x|none=>⟨s,false,0⟩:=by
 unfold Bz zG;cases hf:l.findIdx? (fun x=>x.E==s)with
 | none=>
   have h1:l.find? (fun x=>x.E==s)=none:=List.find?_eq_none.2 (fun x hx=>by have:=List.findIdx?_eq_none_iff.1 hf x hx;simpa using this);rw[h1];rfl
 | some i=>
   obtain⟨hi,hn,hno⟩:=gT.1 hf;have h1:l.find? (fun x=>x.E==s)=some l[i]:=List.find?_eq_some_iff_getElem.2 ⟨hn,i,hi,rfl,fun j hj=>by simpa using hno j hj⟩;rw[h1];dsimp only;rw[if_neg (by omega),Int.toNat_natCast,au,aC hi];rfl
theorem amk(l:List Hl)(names:List (List UInt8))(A:Option aS)(n c:Nat)(A2:Option aS)(n2 c2:Nat)(w:ak)(hR:RdH w w.a.j A n l)(hN:RdT w w.a.j A2 n2 names)(hn:n<=100000)(hn2:n2<=100000)(hl:∀x∈l,x.E.a<=100000)(hnm:∀s∈names,s.a<=100000):
 aQ ah 72 #[.a A n c,.a A2 n2 c2] w (ClP w (EC l names).a (EC l names)):=by
 refine(mU (n:=8)).1 ?_;have HR:=ab hR;have HKL:=ab (fun k=>show(bK (l.b k kY).E).j<=maxLen by
  have:(l.b k kY).E.a<=100000:=by
   rw[au];rcases aZ k l.a with h|h
   ·rw[aC h];exact hl _ (dR h)
   ·rw[aT h];simp[kY]
  unfold maxLen;rw[Dc];omega)
 have hfn:∀f,nG.fn f:=fun _=>trivial
 have HN:=ab hN;have HNM:=ab hnm;have hmm:=fun n w=>GQ (P:=ah) Tryz.underlying230 n w
 refine qY Tryz.func72 rfl trivial ?_ rfl;simp only[Tryz.ntmps72,dK,bD,gH,kP,kQ,fV,fZ,iL,gP,dG,iq];clear hR hN hl hnm;gi_wp2_with (gi_at_call 143;refine(mU.2 (amg A n c _)).mono ?_;rintro e w' ⟨rfl,rfl⟩);obtain⟨W1,hW1⟩:=sH (w.alloc (.map #[] 0));have hm0:=World.ownsMap_made w ah 9 (I4 (H:=Unit));rw[hW1]at hm0;have hs1:W1.a.j=w.a.j+1:=by rw[<-hW1];simp
 have bS:=Cr W1 230 (.map (some w.a.j));have bN:=Cr (W1.alloc (.D #[.map (some w.a.j)] 230)) 33 (.a A n c);rw[sZ]at bN;have hB0:aL w.a.j w ((W1.alloc (.D #[.map (some w.a.j)] 230)).alloc (.D #[.a A n c] 33)):=by
  rw[<-hW1];exact(((aH _ w).alloc (av _) _).alloc (by simp) _).alloc (by simp;omega) _
 have hm2:=(hm0.alloc (.D #[.map (some w.a.j)] 230)).alloc (.D #[.a A n c] 33);have bS2:=bS.alloc (.D #[.a A n c] 33);rw[hW1];rw[hs1]at bS bN bS2;clear hW1 hm0 bS;obtain⟨W2,hW2⟩:=sH ((W1.alloc (.D #[.map (some w.a.j)] 230)).alloc (.D #[.a A n c] 33));have hsz:W2.a.j=w.a.j+3:=by rw[<-hW2];simp[hs1]
 try simp only[sZ,hs1]
 rw[hW2]at bS2 bN hB0 hm2 ⊢;clear hW2;refine wpIn_rangeFunc_ownH rfl (by omega) (gf:=212) (lb:=#[.c (some ⟨w.a.j+1+1,0,none⟩)]) rfl trivial (enters_of Tryz.func212 (by kernel_rfl) rfl)
  (afL nG 7 trivial rfl (by omega) (w.a.j+1+1) w.a.j A n c l hn W2 (by omega) (by omega) bN.cell (HR.i.S hB0)) KpB.trans (fun W q o o' hq ho hc hw=>⟨vQ (w:=w) (av _) W q o o' (by omega) ho hc hw,(grownBy_putObj' W q o').block _ (by have:=(bV.1 ho).1;omega) (fun e=>by injection e with e;omega)⟩) (aH _ _) (fun _=>rfl)
  (fun pre W=>(Boxed W (w.a.j+1) 230 (.map (some w.a.j))/\∃D,W.ownsMap ah 9 (I4 (H:=Unit)) w.a.j pre.a D/\YV D (Gc l pre)/\w.a.j+3<=W.a.j)/\aL w.a.j w W)
  (fun _ _ _=>False)
  (tH (tH (Own.from (boxed_own _ _ _) _) (fun s X Y row hs hg hr=>by obtain⟨D,h1,h2,h3⟩:=hs;exact⟨D,h1.kept hg (fun e=>by have:=(hr _ e.symm).1;omega),h2,aO h3 hg.j⟩)) (yQ (av _) (by omega)))
  (fun _ _ _ _ _ hs _ _=>hs)
  ⟨⟨bS2,_,hm2,ajb l,by omega⟩,hB0⟩
  (fun x a' W=>∃Bx,w.a.j+1<Bx/\dJ W Bx (l.b x kY).ay/\a'={tmps:=#[.a A n c,.a A2 n2 c2,undef,undef,.a none 0 0,.c (some ⟨w.a.j+1,0,none⟩),undef,.c (some ⟨Bx,0,none⟩),undef,undef,undef,undef,undef,.a A n c,.b .a n,.map (some w.a.j),.a A n c,.func (.func 212) #[] #[.c (some ⟨w.a.j+1+1,0,none⟩)],.b .a (x:Nat),.agg (l.b x kY).ay,undef,undef,undef,undef,undef,undef,undef,undef,undef,undef,undef,undef,undef,undef,undef,undef,undef,undef,undef,undef,undef,undef,undef,undef,undef,undef,undef,undef,undef],defers:=[]})
  (fun x a' _ X Y row hs hg hr=>by obtain⟨Bx,h1,h2,h3⟩:=hs;exact⟨Bx,h1,zy Bx (l.b x kY).ay () X Y row h2 hg (fun r e=>(hr r e).2),h3⟩)
  ?assign ?body ?done ?stop
 case assign=>
  rintro q pre x W K ⟨⟨bS1,D,hD,hF,hsW⟩,hB1⟩ hK;gi_wp2;refine hK _ _ ((KeepsOthers.alloc _ _).from _) ⟨(aH _ W).alloc hB1.j _,Below.heap_alloc W _ _ (by omega)⟩ ⟨⟨bS1.alloc _,D,hD.alloc _,hF,by simp;omega⟩,hB1.alloc hB1.j _⟩ ⟨W.a.j,bS1.lt,dJ.new W _ _,rfl⟩
 case body=>
  rintro q pre x a' W hq ⟨r,hr⟩ ⟨⟨bS1,D,hD,hF,hsW⟩,hB1⟩ ⟨Bx,hBx,bX,rfl⟩ hlt;have cS:=bS1.cell;obtain⟨f1,f2,f3,f4⟩:=bX.K;have HB1:=ab hB1;have HF:=ab hF;have HX:=ab bX;have HS:=ab bS1;clear hB1 hF bX bS1;obtain⟨y,hy⟩:=dw (l.b x kY);have HKY:=HKL.i x;rw[<-hy]at f1 f3 f4 HKY;have hkey:keyOf ah 9 (.g (bK y.E))=some (.g y.E):=WideMaps.keyOf_string_mk (P:=ah) iM HKY;have HY:=ab hy
  try rw[<-hy]
  clear hy HKY;gi_wp2_with (gi_at_mapUpdate;refine wpListIn_mapUpdate_own _ rfl _ _ _ 230 rfl 9 100 (Maps.string_keyed iM) Tryz.underlying230 _ w.a.j pre.a D rfl hD (by unfold maxLen;omega) _ _ (.g y.E) rfl rfl hkey _ [] (YU y) ?_;intro w1 hown1 hgrow1);have hsz1:=hgrow1.j;exact⟨KeepsFrom.of_grownBy hgrow1 (fun j e=>by cases e;omega),⟨(aH _ W).grown hgrow1 HB1.i.j (fun k e=>by cases e;exact av _),hgrow1.block _ (by omega) (fun e=>by injection e with e;omega)⟩,
   ⟨HS.i.kept hgrow1 (fun e=>by injection e with e;omega),_,by rw[aR];exact hown1,ajc HF.i x y HY.i,by omega⟩,HB1.i.grown hgrow1 HB1.i.j (fun k e=>by cases e;exact av _)⟩
 case done=>
  rintro D0 ys W hD0 rfl ⟨⟨bS1,D,hD,hF,hsW⟩,hB1⟩ hK;have cS:=bS1.cell;rename_i K0 KA;refine KA _ _ (wpIn_wide.2 ?_);have HB1:=ab hB1;have hl2:=HR.i.1;rw[<-hl2]at hF;have HF:=ab (show YV D (fun s=>l.find? (fun x=>x.E==s))by have:=funext (afN l);rw[<-this];exact hF);have HD:=ab hD;have HK:=ab hK;have HS:=ab bS1;have HM:=ab (afO hD);have RN:=ab ((HN.i.S hB1).lD hB1.j:RdT W W.a.j A2 n2 names);clear hB1 hF hD hK bS1 cS hB0 hm2 bN bS2 KA K0;go_wp2_with fail;refine(afK A2 n2 c2 W).mono ?_;rintro e w' ⟨rfl,rfl⟩;obtain⟨w2,hw2⟩:=sH (W.alloc (.D #[.a A2 n2 c2] 69));have aIv:w2.a.j=W.a.j+1:=by rw[<-hw2];simp
  have SO:=ab (adx W.a.j A2 n2 c2 names hn2 w2 (by omega) (by rw[<-hw2];exact mQ W _ _ 0) (by rw[<-hw2];exact RN.i.up _));have B2:=ab (show aL W.a.j W w2 by rw[<-hw2];exact(aH _ W).alloc (av _) _);have HW2:=ab hw2;clear hw2;go_wp2_with fail;rw[HW2.i];refine SO.i.mono ?_;rintro e w3 ⟨A3,c3,rfl,ho3,hb3⟩;have hul:=adt names;obtain⟨U,hU⟩:=dw (Hr names);obtain⟨ul,adA⟩:=dw U.a;have hnl:=HN.i.1;have CO:=ab (aaW w2.a.j (Ht names) A3 n2 c3 w3 hn2 (by rw[Na];exact hnl) ho3 ul (by rw[Nb,<-hU];exact adA.symm));have hlt3:=ho3.lt;rw[Nb,<-hU]at CO;have aIx:ul<=100000:=by rw[adA,hU];omega
  have HSY:=ab (show EC l names=U.map (Bz l)by rw[hU];rfl);have HUN:=ab (fun k (hk:k<ul)=>show(U.b k []).a<=100000 by
   rw[adA]at hk;rw[au,aC hk,Option.getD_some];refine HNM.i _ ?_;rw[<-Vo,<-hU];exact dR hk)
  have HL:=ab adA;clear hU adA hul;have B3:=ab (B2.i.trans (hb3.mono (by omega:W.a.j<=w2.a.j)));have H3:=ab hlt3;clear hb3 ho3 hlt3;go_wp2_with fail;refine CO.i.mono ?_;rintro e w4 ⟨rfl,ho4,hg4⟩;have B4:=ab (B3.i.grown hg4 B3.i.j (fun k hk=>by have:=(H3.i k hk).1;omega));have RU:=ab (gX.gU HL.i.symm ho4:RdT w4 w4.a.j A3 ul U);have hs4:=B4.i.j;clear ho4 hg4;obtain⟨i0,hi0,hz0,hz1,hzb⟩:=OJ;have HI0:=ab hi0;have HZ0:=ab hz0;have HZ1:=ab hz1;have HZ2:=ab (show(bY kY.ay).D.j=3 by simp[Value.cells,Hl.G]);have HZB:=ab hzb;clear hi0 hz0 hz1 hzb;go_wp2_with fail;go_loopw [8,29] (fun s8 s29 wr=>∃(k:Nat)(O:Option aS)(cap:Nat),k<=ul/\s8=.a O k cap/\s29=.b .a k/\wr.c w4.a.j 100 3 (.a O k cap) k (xk ((U.d k).map (Bz l)))/\aL w4.a.j w4 wr) (fun _ s29 _=>ul-(intOf s29).toNat)
  case atStart=>exact⟨0,none,0,by omega,rfl,rfl,by simpa[xk]using eY _ _ _ _,aH _ _⟩
  case round=>
   obtain⟨k,O,cap,hku,rfl,rfl,ho,hb⟩:=hrel;have HO:=ab ho;have HB:=ab hb;have hsz:=hb.j;have hB:=ab (B4.i.trans (hb.mono hs4));have cS:=(Boxed.amj HS.i hB.i (by omega)).cell;have OM:=ab (Ya HD.i hB.i HM.i);clear ho hb;by_cases hlt:k<ul
   ·have hi:(k:Int)<ul:=by omega
    obtain⟨bb,o,rfl,hbb,hc⟩:=(RU.i.S HB.i).text hlt;have HKN:=ab (HUN.i k hlt);have SN:=ab (ai' l U k (by rw[<-HL.i];exact hlt));obtain⟨y,hy⟩:=dw (U.b k []);rw[<-hy]at hc HKN SN;clear hy hbb;have Qz:=ab (show k+1<=maxLen by unfold maxLen;omega);have QA:=ab (show(k+1)*i0.bytes<=140737488355328 from aO (gG (show k+1<=100002 by omega) HZB.i) (by omega));have BS:=ab (fun oa ob=>show w4.a.j<=((wr.alloc oa).alloc ob).a.j by simp;omega);have HGR:=ab (fun oa ob w1 (hg:((wr.alloc oa).alloc ob).d w1 (bC O k cap).ownBlock)=>((HB.i.alloc hsz oa).alloc (by simp;omega) ob).grown hg (BS.i oa ob) (fun k hk=>(HO.i.lt k hk).1));have PF:=afP l y;cases hfd:l.find? (fun x=>x.E==y)with
    | none=>
      rw[hfd]at PF;have PK:=ab PF;have HFS:=ab (show((fun s=>l.find? (fun x=>x.E==s)) y).b kY=kY by dsimp only;rw[hfd];rfl);have HFB:=ab (show((fun s=>l.find? (fun x=>x.E==s)) y).isSome=false by dsimp only;rw[hfd];rfl);clear PF;have OA:=ab (vG (vG HO.i (.D (Hl.mk y false 0).ay 100)) (.D (Hl.mk y false 0).ay 100));have W1:=ab (show Rd ((wr.alloc (.D (Hl.mk y false 0).ay 100)).alloc (.D (Hl.mk y false 0).ay 100)) (wr.a.j+1+1) 3 (some ⟨wr.a.j+1,0,none⟩) 1 (Hl.mk y false 0).ay.a by simpa using Sz (wr.alloc (.D (Hl.mk y false 0).ay 100)) (Hl.mk y false 0).ay 3 (Hl.G _) 100);clear hfd;go_wp2_with (first|(at_lookup;refine ED rfl _ _ rfl w.a.j _ D rfl (OM.i) _ HF.i y HKN.i rfl kY false HFS.i HFB.i ?_)|(at_builtin;refine ji _ rfl (.tmp 43) (.tmp 45) _ rfl w4.a.j 100 i0 (.agg kY.ay) 3 i0.bytes rX HI0.i HZ0.i HZ1.i rfl HZ2.i (lH _) (.a O k cap) k (xk ((U.d k).map (Bz l))) rfl OA.i (wr.a.j+1+1) (some ⟨wr.a.j+1,0,none⟩) 1 1 (Hl.mk y false 0).ay.a rfl W1.i (by simp[Hl.ay,cB]) Qz.i QA.i (BS.i _ _) ?_;intro v1 w1 hown1 hg1 wJ;have O1:=ab hown1;have G1:=ab (HGR.i _ _ _ hg1);clear hown1 hg1 wJ));obtain⟨O',cap',rfl,_,_⟩:=jG O1.i;go_roundw
      case rel=>exact⟨k+1,O',cap',by omega,rfl,by go_num,by have h1:=O1.i;have h2:=SN.i;rw[PK.i]at h2;rw[h2]at h1;exact h1,G1.i⟩
      case measure=>simp[intOf]<;>omega
    | some x=>
      rw[hfd]at PF;have PK:=ab PF;have HFS:=ab (show((fun s=>l.find? (fun x=>x.E==s)) y).b kY=x by dsimp only;rw[hfd];rfl);have HFB:=ab (show((fun s=>l.find? (fun x=>x.E==s)) y).isSome=true by dsimp only;rw[hfd];rfl);clear PF;have OA:=ab (vG (vG HO.i (.D (x).ay 100)) (.D (x).ay 100));have W1:=ab (show Rd ((wr.alloc (.D (x).ay 100)).alloc (.D (x).ay 100)) (wr.a.j+1+1) 3 (some ⟨wr.a.j+1,0,none⟩) 1 (x).ay.a by simpa using Sz (wr.alloc (.D (x).ay 100)) (x).ay 3 (Hl.G _) 100);clear hfd;go_wp2_with (first|(at_lookup;refine ED rfl _ _ rfl w.a.j _ D rfl (OM.i) _ HF.i y HKN.i rfl x true HFS.i HFB.i ?_)|(at_builtin;refine ji _ rfl (.tmp 43) (.tmp 45) _ rfl w4.a.j 100 i0 (.agg kY.ay) 3 i0.bytes rX HI0.i HZ0.i HZ1.i rfl HZ2.i (lH _) (.a O k cap) k (xk ((U.d k).map (Bz l))) rfl OA.i (wr.a.j+1+1) (some ⟨wr.a.j+1,0,none⟩) 1 1 (x).ay.a rfl W1.i (by simp[Hl.ay,cB]) Qz.i QA.i (BS.i _ _) ?_;intro v1 w1 hown1 hg1 wJ;have O1:=ab hown1;have G1:=ab (HGR.i _ _ _ hg1);clear hown1 hg1 wJ));obtain⟨O',cap',rfl,_,_⟩:=jG O1.i;go_roundw
      case rel=>exact⟨k+1,O',cap',by omega,rfl,by go_num,by have h1:=O1.i;have h2:=SN.i;rw[PK.i]at h2;rw[h2]at h1;exact h1,G1.i⟩
      case measure=>simp[intOf]<;>omega
   ·obtain rfl:k=ul:=by omega
    have hd:decide ((k:Int)<k)=false:=by simp
    have HDK:=ab (show wr.a[D0]? = some (.deferred (some []))by
     rw[hB.i.block D0 (bV.1 HK.i).1];exact HK.i)
    have hle:w.a.j<=W.a.j:=by omega
    have HBW:=ab (HB1.i.trans (hB.i.mono hle));have h1:=HO.i;rw[aK (by rw[<-HL.i];exact av _),<-HSY.i]at h1;have h2:(EC l names).a=k:=by rw[HSY.i,bQ,<-HL.i]
    have HO1:=ab (iG h1 (aO hle hs4));have H2:=ab h2;clear h1 h2;go_wp2_with fail;refine⟨by simp,.a ⟨_,_,rfl,uH HDK.i,?_⟩⟩;rw[H2.i];exact⟨_,Ih rfl _ _ _,O,cap,rfl,ownsRow_putObj HO1.i _ HDK.i rfl,HBW.i.trans (vQ (w:=w) (av _) wr D0 _ _ (by omega) HDK.i rfl rfl)⟩
 case stop=>
  rintro D0 c0 pre W _ _ h _;exact h.elim
end
end Go.Proofs.YtkjojjopamaoiaaGreat
