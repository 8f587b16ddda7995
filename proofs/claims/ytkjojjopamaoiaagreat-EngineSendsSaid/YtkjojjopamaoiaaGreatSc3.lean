/- Parts. -/
import Derived.Test.YtkjojjopamaoiaaGreatSc1
import Derived.Shelf.SortM.Plain
import Derived.Shelf.SortM.SortNone
import Derived.Shelf.SlicesG.CompactS
import Derived.Sort.OwnSorted
import Derived.RangeFuncNested
import Derived.Maps.OwnIn
set_option linter.unusedSimpArgs false
set_option linter.unusedVariables false
set_option linter.unusedSectionVars false
set_option maxRecDepth 100000
set_option maxHeartbeats 8000000
open Array renaming getElem?_eq_some_iff->bY,replicate_succ->gL,replicate_zero->gM,size->Array.j,toList->Array.a,getD->Array.b
open ByteArray renaming size->ByteArray.j
open Go renaming Value->aB,World->ak,Addr->aV,TypeId->bL,Calls->aR,run_equal_slice_nil->jk,Fence->Ll,CallsIn->MS,callsIn_of_wp->DL,bodyPost_ret->aO,results_none->wI,SeqStopsK->wZ,callsIn_of_wp_marks->rR,belowK_b->wR,ownFrom_below->zW,run_takeDeferred->vC,results_tmp->I4,callsIn_wide->nL,DataW->Ay,MemPlace->uw,Program->fB
open Go.Boxed renaming new->DN
open Go.Ending renaming returned->Go.Ending.a
open Go.Fence renaming wide->nY
open Go.FrameMode renaming run->Go.FrameMode.O
open Go.Func renaming name->Go.Func.F
open Go.Instr renaming slice->Go.Instr.a
open Go.IntKind renaming i64->Go.IntKind.a,u64->Go.IntKind.c
open Go.Lib renaming hid->ab,compact->oZ
open Go.Lit renaming int->Go.Lit.b,bool->Go.Lit.e,string->Go.Lit.g
open Go.Obj renaming cells->Go.Obj.D
open Go.Op renaming bytesLess->bU,slice->Go.Op.a
open Go.Oper renaming semAt_some->qQ
open Go.OwnFrom renaming and->uI
open Go.Proofs.Tryz renaming prog->ah,underlying56->dD,underlying0->Iy,zeroValue0->Kc,underlying3->fI,zeroValue3->Ke,underlying4->om,zeroValue4->Kh,underlying9->iZ,isAgg9->LW,sizeOf9->IZ,zeroValue9->Cx,underlying69->mq,underlying33->tq
open Go.RowKit renaming Below->aM
open Go.RowKit.Below renaming refl->aG,size->Go.RowKit.Below.j,setCell->Go.RowKit.Below.I
open Go.RowKit.Hid renaming out->Go.RowKit.Hid.i
open Go.Sem renaming run->Go.Sem.O
open Go.TypeDesc renaming slice->Go.TypeDesc.a,int->Go.TypeDesc.b
open Go.TypeInfo renaming size->Go.TypeInfo.j
open Go.Value renaming int->aI,agg->cO,slice->bB,oneCell'->dA,cells->Go.Value.D,slice->Go.Value.a,int->Go.Value.b,pointer->Go.Value.c,tuple->Go.Value.K,bool->Go.Value.e,string->Go.Value.g
open Go.World renaming ownsRow_nil->fQ,size_alloc->pV,heap->Go.World.a,cell?->Go.World.b,setCell->Go.World.I,ownsRow->Go.World.c,grownBy->Go.World.d
open Go.World.grownBy renaming size->Go.World.grownBy.j
open List renaming nil_append->dJ,eq_nil_of_length_eq_zero->bF,map_take->BI,mem_cons->bD,pairwise_cons->gX,foldr_cons->Ka,length_cons->bl,mem_cons_self->mU,mem_cons_of_mem->kr,findIdx?_eq_some_iff_getElem->fT,getD_eq_getElem?_getD->au,getElem?_eq_getElem->aC,map_append->jC,mem_range->fq,mem_filter->mY,range->eu,length_map->bW,replicate->dY,size_toArray->dN,length_nil->gU,push_toArray->iX,append_toArray->gZ,cons_append->gQ,length_take->bE,take_of_length_le->aK,length_append->aQ,getElem?_range->xX,map_cons->kV,ext_getElem?->iC,getElem?_map->jM,getElem?_eq_none->aT,getElem_mem->eZ,length->List.a,take->List.E,getD->List.b,toArray->List.c,drop->List.G,below->List.Y
open Nat renaming le_refl->av,succ_pos->nG,eq_zero_or_pos->eB,mul_one->gP,le_trans->aP,lt_of_lt_of_le->fE,lt_or_ge->aZ,min_eq_left->lU,reduceAdd->kZ,reduceSub->lg,mul_le_mul->iq
open Option renaming getD->Option.b
open Or renaming inr->Or.a,inl->Or.b
open UInt8 renaming lt_iff_toNat_lt->AA,toNat_inj->mR
namespace Go.Proofs.YtkjojjopamaoiaaGreat
open Go.RowKit
section
open Go.RowKit Go.ChangeShapes Go.WideShapes Go.ChangeAt Go.Deep
structure Sp where
 dW:Int
 err:Int
deriving DecidableEq
def Sp.ay(x:Sp):Array aB:=#[aI .a x.dW,aI .a x.err]
theorem Sp.J(x:Sp):x.ay.j=2:=by simp[Sp.ay]
@[go_sem]theorem Sp.eU(x:Sp):eU x.ay=2:=Sp.J x
@[go_sem]theorem Sp.qW(x:Sp):x.ay[0]? = some (.b .a x.dW):=rfl
@[go_sem]theorem Sp.Ij(x:Sp):x.ay[1]? = some (.b .a x.err):=rfl
def aC3:Sp:=⟨0,0⟩
@[go_sem]theorem ayb:cO #[aI IntKind.i64 0,aI IntKind.i64 0]=cO aC3.ay:=rfl
section
variable {W W':ak} {p g N:Nat} {s:RS}
theorem gG.at1{w W W':ak}{B n:Nat}{A:Option aV}{l:List UInt8}{k:Option Nat}(h:gG W B A n l)(hg:W.d W' k)(hne:∀a,A=some a->some a.block≠k):gG W' B A n l:=by
 refine⟨h.1,fun hn=>?_⟩;obtain⟨a,hA,hb,hc⟩:=h.2 hn;refine⟨a,hA,hb,fun j u hu=>hg.cell (hc j u hu) ?_⟩;have:=hne a hA
 rwa [Cq]
end
end
theorem gG.jh{w:ak}{base n c:Nat}{e:bL}{A:Option aV}{l:List UInt8}(h:w.c base e 1 (.a A n c) n (l.map bv)):gG w w.a.j A n l:=Rd.jh h
def ClY(w:ak)(n:Nat)(l:List UInt8)(e:Ending)(w':ak):Prop:=
 ∃A c,e=.a (.a A n c)/\w'.c w.a.j 5 1 (.a A n c) n (l.map bv)/\aM w.a.j w w'
theorem aji(l:List UInt8)(A:Option aV)(n c:Nat)(w:ak)(hR:gG w w.a.j A n l)(hn:n<=1073741824):
 aR ah 268 #[.a A n c] w (ClY w n l):=by
 have hll:=hR.len;cases A with
 | some a=>
   have hnil:∀W:ak,(binOp .eql 56 (.a (some a) n c) (.a none 0 0)).O ah W=.ok (.e false) W:=fun W=>by
    simp only[binOp];simp[jk,dD]
   obtain⟨i0,hi0,hz0,hz1,hzb⟩:=info_parts LZ;have hz2:(aI .u8 0).D.j=1:=rfl;have O1:=ab (show(w.alloc (.D #[] 5)).c w.a.j 5 1 (.a (some ⟨w.a.j,0,none⟩) 0 0) 0 []from World.ownsRow_lit w #[] 0 (av _) (by unfold maxLen;omega) rfl);have O2:=ab (hR.alloc (av _) (.D #[] 5));have TD:=ab (show 0+n<=maxLen by unfold maxLen;omega);have TJ:=ab (show(0+n)*1<=140737488355328 by omega);have O3:=ab (show w.a.j<=(w.alloc (.D #[] 5)).a.j by simp);have ON:=ab (Ki l);clear hR hll;go_enter Tryz.func268,Tryz.ntmps268;go_wp2_with (at_builtin;refine jQ _ rfl (.tmp 5) (.tmp 6) _ rfl w.a.j 5 i0 (.b .u8 0) 1 1 dD hi0 hz0 hz1 hzb hz2 (nG _) (.a (some ⟨w.a.j,0,none⟩) 0 0) 0 [] rfl O1.i w.a.j (some a) n c (l.map bv) rfl O2.i ON.i TD.i TJ.i O3.i ?_;intro v1 w1 hown1 hg1 yN);obtain⟨A',c',hv,_,_⟩:=j3 hown1;subst hv;simp only[Nat.zero_add,dJ]at hown1;have hb:=uO ((aG w.a.j w).alloc (av _) (.D #[] 5)) hg1 (av _) O3.i;go_wp2;go_ret;exact⟨A',c',by simp,hown1,hb⟩
 | none=>
   have h0:n=0:=by
    rcases eB n with h0|h0
    ·exact h0
    ·obtain⟨a,ha,_⟩:=hR.2 h0;cases ha
   subst h0;have hl:l=[]:=bF hll;subst hl;have hnil:∀W:ak,(binOp .eql 56 (.a none 0 c) (.a none 0 0)).O ah W=.ok (.e true) W:=fun W=>by
    simp only[binOp];simp[jk,dD]
   have FIN:=ab (show ClY w 0 [] (.a (.a none 0 0)) w from⟨none,0,rfl,fQ _ _ _ _,aG _ _⟩);clear hR hll;go_enter Tryz.func268,Tryz.ntmps268;go_wp2;go_ret;exact FIN.i
theorem gG.QW{w:ak}{B n:Nat}{A:Option aV}{l:List UInt8}(h:gG w B A n l){z b c:Nat}(hz:z<=b)(hb:b<=n)(hc:n<=c):gG w B (if c=z then A else Option.map (fun x=>x.add z) A) (b-z) ((l.G z).E (b-z)):=by
 have h1:=Rd.cut h (k:=z) (cap:=c) (by omega) hc;have h2:=Rd.upto h1 (k:=b-z) (by omega);rw[gP,gP]at h2;unfold gG;rw[BI,List.map_drop];exact h2
theorem gG.from{w:ak}{B n:Nat}{A:Option aV}{l:List UInt8}(h:gG w B A n l){z c:Nat}(hz:z<=n)(hc:n<=c):gG w B (if c=z then A else Option.map (fun x=>x.add z) A) (n-z) (l.G z):=by
 have h1:=Rd.cut h (k:=z) (cap:=c) hz hc;rw[gP]at h1;unfold gG;rw[List.map_drop];exact h1
structure jP(F:List Nat)(w w':ak):Prop where
 os:w'.os=w.os
 tape:w'.tape=w.tape
 output:w'.output=w.output
 j:w.a.j<=w'.a.j
 block:∀k,k<w.a.j->k∉F->w'.a[k]? = w.a[k]?
theorem jP.refl(F:List Nat)(w:ak):jP F w w:=⟨rfl,rfl,rfl,av _,fun _ _ _=>rfl⟩
theorem jP.jF{F:List Nat}{w w':ak}(h:aM w.a.j w w'):jP F w w':=⟨h.os,h.tape,h.output,h.j,fun k hk _=>h.block k hk⟩
theorem jP.Vq{F:List Nat}{w w':ak}{g:Option Nat}(h:w.d w' g)(hg:∀k,g=some k->k∈F\/w.a.j<=k):jP F w w':=
 ⟨h.os,h.tape,h.output,h.j,fun k hk hn=>h.block k hk (fun e=>by rcases hg k e.symm with h|h;exact hn h;omega)⟩
theorem jP.trans{F F':List Nat}{a b c:ak}(h:jP F a b)(k:jP F' b c)(hF:∀g∈F',g∈F\/a.a.j<=g):jP F a c:=
 ⟨k.os.trans h.os,k.tape.trans h.tape,k.output.trans h.output,aP h.j k.j,fun i hi hn=>(k.block i (fE hi h.j) (fun hm=>by rcases hF i hm with h|h;exact hn h;omega)).trans (h.block i hi hn)⟩
theorem jP.qy{F:List Nat}{a b c:ak}(h:jP F a b)(k:jP F b c):jP F a c:=h.trans k (fun g hg=>.b hg)
theorem jP.grown{F:List Nat}{a b c:ak}{g:Option Nat}(h:jP F a b)(k:b.d c g)(hg:∀j,g=some j->j∈F\/a.a.j<=j):jP F a c:=
 ⟨k.os.trans h.os,k.tape.trans h.tape,k.output.trans h.output,aP h.j k.j,fun i hi hn=>(k.block i (fE hi h.j) (fun e=>by rcases hg i e.symm with h|h;exact hn h;omega)).trans (h.block i hi hn)⟩
theorem jP.Y{F:List Nat}{a b c:ak}{B:Nat}(h:jP F a b)(k:aM B b c)(hB:a.a.j<=B):jP F a c:=
 ⟨k.os.trans h.os,k.tape.trans h.tape,k.output.trans h.output,aP h.j k.j,fun i hi hn=>(k.block i (by omega)).trans (h.block i hi hn)⟩
theorem jP.set{F:List Nat}{a b:ak}(h:jP F a b)(p:aV)(u:aB)(hp:p.block∈F\/a.a.j<=p.block):jP F a (b.I p u):=
 ⟨h.os,h.tape,h.output,by simpa[World.setCell]using h.j,fun i hi hn=>(Below.heap_setCell b p u i (fun e=>by subst e;rcases hp with h|h;exact hn h;omega)).trans (h.block i hi hn)⟩
theorem jP.alloc{F:List Nat}{a b:ak}(h:jP F a b)(o:Obj):jP F a (b.alloc o):=
 ⟨h.os,h.tape,h.output,aP h.j (by simp),fun i hi hn=>(Below.heap_alloc b o i (fE hi h.j)).trans (h.block i hi hn)⟩
theorem jP.drewN{F:List Nat}{a b:ak}(h:jP F a b)(n:Nat):jP F a (b.drewN n):=⟨h.os,h.tape,h.output,h.j,h.block⟩
theorem jP.tX{F:List Nat}{B:Nat}{a b:ak}(h:jP F a b)(hF:∀g∈F,B<=g)(hB:B<=a.a.j):aM B a b:=
 ⟨h.os,h.tape,h.output,h.j,fun i hi=>h.block i (by omega) (fun hm=>by have:=hF i hm;omega)⟩
theorem jP.lD{F F':List Nat}{a b:ak}(h:jP F a b)(hF:∀g∈F,g∈F'):jP F' a b:=⟨h.os,h.tape,h.output,h.j,fun i hi hn=>h.block i hi (fun hm=>hn (hF i hm))⟩
theorem jP.box{F:List Nat}{a b:ak}(h:jP F a b){k:Nat}{c:Array aB}(hB:dP a k c)(hk:k∉F):dP b k c:=by
 have hl:=hB.lt;obtain⟨t,ht⟩:=hB;exact⟨t,by rw[h.block k hl hk];exact ht⟩
section
open Go.RowKit Go.ChangeShapes Go.WideShapes Go.ChangeAt Go.Deep
theorem tY:∀a:List UInt8,bU a a=false
 | []=>rfl
 | x::a=>by rw[bU,tY a];simp
theorem zu:∀a b c:List UInt8,bU a b=true->bU b c=true->bU a c=true
 | _,[],_,h,_=>by cases ‹List UInt8› <;> simp[bU]at h
 | _,_::_,[],_,h=>by simp[bU]at h
 | [],_::_,_::_,_,_=>rfl
 | x::a,y::b,z::c,h1,h2=>by
   have ih:=zu a b c;simp only[bU,Bool.or_eq_true,Bool.and_eq_true,decide_eq_true_eq,beq_iff_eq,AA,<-mR]at h1 h2 ⊢;rcases h1 with h1|⟨h1,h3⟩<;>rcases h2 with h2|⟨h2,h4⟩
   ·exact .b (by omega)
   ·exact .b (by omega)
   ·exact .b (by omega)
   ·exact .a ⟨by omega,ih h3 h4⟩
theorem AZ:∀a b:List UInt8,bU a b=false->bU b a=false->a=b
 | [],[],_,_=>rfl
 | [],_::_,h,_=>by simp[bU]at h
 | _::_,[],_,h=>by simp[bU]at h
 | x::a,y::b,h1,h2=>by
   have ih:=AZ a b;simp only[bU,Bool.or_eq_false_iff,Bool.and_eq_false_iff,decide_eq_false_iff_not,beq_eq_false_iff_ne,AA,ne_eq,<-mR]at h1 h2;have e:x.toNat=y.toNat:=by omega
   have e2:=mR.1 e;rw[e2,ih (h1.2.resolve_left (fun h=>h e)) (h2.2.resolve_left (fun h=>h e.symm))]
theorem ams{a b:List UInt8}(h:bU a b=true):bU b a=false:=by
 cases hc:bU b a
 ·rfl
 ·have:=zu _ _ _ h hc;rw[tY]at this;cases this
def afE(ls:List (List UInt8)):Prop:=ls.Pairwise (fun a b=>bU a b=true)
def Vr(s:List UInt8):List (List UInt8)->List (List UInt8)
 | []=>[s]
 | x::r=>if bU s x then s::x::r else if bU x s then x::Vr s r else x::r
def IE(names:List (List UInt8)):List (List UInt8):=names.foldr Vr []
theorem Vs(s y:List UInt8):∀l,y∈Vr s l↔y=s\/y∈l
 | []=>by simp[Vr]
 | x::r=>by
   unfold Vr;split
   ·simp
   ·split
    ·rw[bD,Vs s y r,bD]
     constructor
     ·rintro(h|h|h)
      ·exact .a (.b h)
      ·exact .b h
      ·exact .a (.a h)
     ·rintro(h|h|h)
      ·exact .a (.b h)
      ·exact .b h
      ·exact .a (.a h)
    ·rename_i h1 h2
     have:=AZ s x (by simpa using h1) (by simpa using h2);subst this;simp
theorem adp(s:List UInt8):∀l,afE l->afE (Vr s l)
 | [],_=>List.pairwise_singleton _ _
 | x::r,h=>by
   unfold Vr;obtain⟨h1,h2⟩:=gX.1 h;split
   ·rename_i hs
    refine gX.2 ⟨fun y hy=>?_,h⟩;rcases bD.1 hy with rfl|hy
    ·exact hs
    ·exact zu _ _ _ hs (h1 y hy)
   ·split
    ·rename_i hs hx
     refine gX.2 ⟨fun y hy=>?_,adp s r h2⟩;rcases(Vs s y r).1 hy with rfl|hy
     ·exact hx
     ·exact h1 y hy
    ·exact h
theorem Vt(s:List UInt8):∀names,s∈IE names↔s∈names
 | []=>by simp[IE]
 | x::r=>by
   have ih:=Vt s r;unfold IE at ih ⊢;rw[Ka,Vs,ih,bD]
theorem adq:∀names,afE (IE names)
 | []=>List.Pairwise.nil
 | x::r=>by
   have ih:=adq r;unfold IE at ih ⊢;rw[Ka];exact adp _ _ ih
theorem adr(s:List UInt8):∀l,(Vr s l).a<=l.a+1
 | []=>by simp[Vr]
 | x::r=>by
   have:=adr s r;unfold Vr;split
   ·simp
   ·split
    ·simp;omega
    ·simp
theorem ads:∀names,(IE names).a<=names.a
 | []=>by simp[IE]
 | x::r=>by
   have ih:=ads r;have:=adr x (IE r);unfold IE at ih this ⊢;rw[Ka,bl];omega
theorem Vu:∀P Q:List (List UInt8),afE P->afE Q->(∀s,s∈P↔s∈Q)->P=Q
 | [],[],_,_,_=>rfl
 | [],y::Q,_,_,h=>by have:=(h y).2 (mU ..);cases this
 | x::P,[],_,_,h=>by have:=(h x).1 (mU ..);cases this
 | x::P,y::Q,hP,hQ,h=>by
   obtain⟨p1,p2⟩:=gX.1 hP;obtain⟨q1,q2⟩:=gX.1 hQ;have e:x=y:=by
    rcases bD.1 ((h x).1 (mU ..))with h1|h1
    ·exact h1
    ·rcases bD.1 ((h y).2 (mU ..))with h2|h2
     ·exact h2.symm
     ·have a:=q1 x h1
      have b:=p1 y h2;have:=zu _ _ _ a b;rw[tY]at this;cases this
   subst e;congr 1;refine Vu P Q p2 q2 (fun s=>?_);constructor
   ·intro hs
    rcases bD.1 ((h s).1 (kr _ hs))with rfl|h1
    ·have:=p1 s hs;rw[tY]at this;cases this
    ·exact h1
   ·intro hs
    rcases bD.1 ((h s).2 (kr _ hs))with rfl|h1
    ·have:=q1 s hs;rw[tY]at this;cases this
    ·exact h1
end
def Dg(l:List Hl)(s:List UInt8):Hl:=if AL l s<0 then⟨s,false,0⟩else l.b (AL l s).toNat lY
theorem afF(l:List Hl)(s:List UInt8):(Dg l s).F=s:=by
 unfold Dg;split
 ·rfl
 ·rename_i h
  unfold AL at h ⊢;cases hf:l.findIdx? (fun x=>x.F==s)with
  | none=>rw[hf]at h;simp at h
  | some i=>
    obtain⟨hi,hn,_⟩:=fT.1 hf;simp only[Int.toNat_natCast];rw[au,aC hi];simpa using hn
def FC(l:List Hl)(names:List (List UInt8)):List Hl:=(IE names).map (Dg l)
def asj:aB->Nat
 | .a _ n _=>n
 | _=>0
theorem ajj(l:List Hl)(U:List (List UInt8))(k:Nat)(hk:k<U.a):yg ((U.E k).map (Dg l))++(Dg l (U.b k [])).ay.a=yg ((U.E (k+1)).map (Dg l)):=by
 rw[ac',<-pE [] U k hk,jC];rfl
def Vv:Go.Shelf.Ren:=⟨fun|6=>214|8=>219|9=>274|19=>283|20=>284|21=>319|22=>320|23=>321|24=>322|25=>323|26=>324|27=>325|28=>326|29=>327|36=>355|31=>329|32=>330|37=>356|38=>357|39=>358|41=>370|n=>n,fun|27=>69|29=>9|3=>3|32=>259|26=>69|0=>0|44=>323|46=>92|4=>4|36=>352|35=>351|41=>158|5=>5|9=>9|53=>388|57=>392|63=>410|64=>152|n=>n,fun|n=>n⟩
theorem Vw:Go.Proofs.SlLaysM.n6 ah Vv:={
 mixed:=by kernel_rfl,
 f6:=⟨Tryz.f214.F,by decide,Tryz.func214.trans (congrArg some (by kernel_rfl))⟩,
 f8:=Tryz.func219.trans (congrArg some (by kernel_rfl)),
 f9:=⟨Tryz.f274.F,by decide,Tryz.func274.trans (congrArg some (by kernel_rfl))⟩,
 f19:=Tryz.func283.trans (congrArg some (by kernel_rfl)),
 f20:=Tryz.func284.trans (congrArg some (by kernel_rfl)),
 f21:=⟨Tryz.f319.F,by decide,Tryz.func319.trans (congrArg some (by kernel_rfl))⟩,
 f22:=⟨Tryz.f320.F,by decide,Tryz.func320.trans (congrArg some (by kernel_rfl))⟩,
 f23:=⟨Tryz.f321.F,by decide,Tryz.func321.trans (congrArg some (by kernel_rfl))⟩,
 f24:=⟨Tryz.f322.F,by decide,Tryz.func322.trans (congrArg some (by kernel_rfl))⟩,
 f25:=⟨Tryz.f323.F,by decide,Tryz.func323.trans (congrArg some (by kernel_rfl))⟩,
 f26:=⟨Tryz.f324.F,by decide,Tryz.func324.trans (congrArg some (by kernel_rfl))⟩,
 f27:=⟨Tryz.f325.F,by decide,Tryz.func325.trans (congrArg some (by kernel_rfl))⟩,
 f28:=⟨Tryz.f326.F,by decide,Tryz.func326.trans (congrArg some (by kernel_rfl))⟩,
 f29:=⟨Tryz.f327.F,by decide,Tryz.func327.trans (congrArg some (by kernel_rfl))⟩,
 f31:=Tryz.func329.trans (congrArg some (by kernel_rfl)),
 f32:=Tryz.func330.trans (congrArg some (by kernel_rfl)),
 f36:=⟨Tryz.f355.F,by decide,Tryz.func355.trans (congrArg some (by kernel_rfl))⟩,
 f37:=⟨Tryz.f356.F,by decide,Tryz.func356.trans (congrArg some (by kernel_rfl))⟩,
 f38:=⟨Tryz.f357.F,by decide,Tryz.func357.trans (congrArg some (by kernel_rfl))⟩,
 f39:=⟨Tryz.f358.F,by decide,Tryz.func358.trans (congrArg some (by kernel_rfl))⟩,
 f41:=⟨Tryz.f370.F,by decide,Tryz.func370.trans (congrArg some (by kernel_rfl))⟩,
 t0:=Iy,
 a0:=Tryz.isAgg0,
 z0:=Tryz.sizeOf0,
 v0:=Kc,
 t3:=fI,
 a3:=Tryz.isAgg3,
 z3:=Tryz.sizeOf3,
 v3:=Ke,
 t4:=om,
 a4:=Tryz.isAgg4,
 z4:=Tryz.sizeOf4,
 v4:=Kh,
 t5:=Tryz.underlying5,
 a5:=Tryz.isAgg5,
 z5:=Tryz.sizeOf5,
 v5:=Tryz.zeroValue5,
 t9:=iZ,
 a9:=LW,
 z9:=IZ,
 v9:=Cx,
 t26:=mq,
 a26:=Tryz.isAgg69,
 z26:=Tryz.sizeOf69,
 v26:=Tryz.zeroValue69,
 t27:=mq,
 a27:=Tryz.isAgg69,
 z27:=Tryz.sizeOf69,
 v27:=Tryz.zeroValue69,
 t29:=iZ,
 a29:=LW,
 z29:=IZ,
 v29:=Cx,
 t32:=Tryz.underlying259,
 a32:=Tryz.isAgg259,
 z32:=Tryz.sizeOf259,
 v32:=Tryz.zeroValue259,
 t35:=Tryz.underlying351,
 a35:=Tryz.isAgg351,
 z35:=Tryz.sizeOf351,
 v35:=Tryz.zeroValue351,
 t36:=Tryz.underlying352,
 a36:=Tryz.isAgg352,
 z36:=Tryz.sizeOf352,
 v36:=Tryz.zeroValue352,
 t41:=Tryz.underlying158,
 a41:=Tryz.isAgg158,
 z41:=Tryz.sizeOf158,
 v41:=Tryz.zeroValue158,
 t44:=Tryz.underlying323,
 a44:=Tryz.isAgg323,
 z44:=Tryz.sizeOf323,
 v44:=Tryz.zeroValue323,
 t46:=Tryz.underlying92,
 a46:=Tryz.isAgg92,
 z46:=Tryz.sizeOf92,
 v46:=Tryz.zeroValue92,
 t53:=Tryz.underlying388,
 a53:=Tryz.isAgg388,
 z53:=Tryz.sizeOf388,
 v53:=Tryz.zeroValue388,
 t57:=Tryz.underlying392,
 a57:=Tryz.isAgg392,
 z57:=Tryz.sizeOf392,
 v57:=Tryz.zeroValue392,
 t63:=Tryz.underlying410,
 a63:=Tryz.isAgg410,
 z63:=Tryz.sizeOf410,
 v63:=Tryz.zeroValue410,
 t64:=Tryz.underlying152,
 a64:=Tryz.isAgg152,
 z64:=Tryz.sizeOf152,
 v64:=Tryz.zeroValue152}
def Qa:Go.Shelf.Ren:=⟨fun|44=>144|n=>n,fun|25=>69|26=>9|3=>3|4=>4|0=>0|n=>n,fun|n=>n⟩
theorem NG:Go.Proofs.SlLaysN.n44 ah Qa:={
 mixed:=by kernel_rfl,
 f44:=⟨Tryz.f144.F,by decide,Tryz.func144.trans (congrArg some (by kernel_rfl))⟩,
 t0:=Iy,
 a0:=Tryz.isAgg0,
 z0:=Tryz.sizeOf0,
 v0:=Kc,
 t3:=fI,
 a3:=Tryz.isAgg3,
 z3:=Tryz.sizeOf3,
 v3:=Ke,
 t4:=om,
 a4:=Tryz.isAgg4,
 z4:=Tryz.sizeOf4,
 v4:=Kh,
 t25:=mq,
 a25:=Tryz.isAgg69,
 z25:=Tryz.sizeOf69,
 v25:=Tryz.zeroValue69,
 t26:=iZ,
 a26:=LW,
 z26:=IZ,
 v26:=Cx,
 i26:=by kernel_rfl}
theorem Dh(l:List (List UInt8)):xq l=l.map encStr:=by
 unfold xq
 induction l with
 | nil=>rfl
 | cons x l ih=>rw[List.flatMap_cons,ih];rfl
def IG(l:List (List UInt8)):List (List UInt8):=l.mergeSort fun x y=>decide (x<=y)
theorem ahI(x y:List UInt8):decide (x<=y) = !bU y x:=by
 rw[bytesLess_eq,Bool.eq_iff_iff];simp
theorem NH(l:List (List UInt8)):(IG l).a=l.a:=List.length_mergeSort _
theorem amt(s:List UInt8)(l:List (List UInt8)):s∈IG l↔s∈l:=List.mem_mergeSort
theorem Jw{a b c:List UInt8}(h1:bU b a=false)(h2:bU c b=false):bU c a=false:=by
 cases hc:bU c a
 ·rfl
 ·exfalso
  cases hb:bU a b
  ·have:=AZ _ _ hb h1
   subst this;rw[hc]at h2;cases h2
  ·have:=zu _ _ _ hc hb
   rw[this]at h2;cases h2
theorem ap1(l:List (List UInt8)):(IG l).Pairwise (fun x y=>bU y x=false):=by
 have h:=List.pairwise_mergeSort (le:=fun x y:List UInt8=>decide (x<=y)) (fun a b c h1 h2=>by
  rw[ahI]at h1 h2 ⊢;simp only[Bool.not_eq_true']at h1 h2 ⊢;exact Jw h1 h2) (fun a b=>by
  rw[ahI,ahI];cases h1:bU b a
  ·rfl
  ·rw[ams h1];rfl) l
 refine h.imp ?_;intro a b hab;rw[ahI]at hab;simpa using hab
theorem ahJ{l:List (List UInt8)}{i j:Nat}(hij:i<=j)(hj:j<l.a):bU ((IG l).c[j]!) ((IG l).c[i]!)=false:=by
 have hl:=NH l;rw[getElem!_pos _ j (by simp;omega),getElem!_pos _ i (by simp;omega)];simp only[List.getElem_toArray];rcases aZ i j with h|h
 ·exact List.pairwise_iff_getElem.1 (ap1 l) i j (by omega) (by omega) h
 ·have:i=j:=by omega
  subst this;exact tY _
theorem adt(zs:List (List UInt8))(s:List UInt8):s∈oZ zs↔s∈zs:=by
 unfold oZ Lib.compactUpTo;rw[List.mem_map];constructor
 ·rintro⟨j,hj,rfl⟩
  have hj2:=fq.1 (mY.1 hj).1;rw[getElem!_pos _ j (by simpa using hj2)];simp
 ·intro hs
  obtain⟨j0,hj0,he0⟩:=List.getElem_of_mem hs;have key:∀k,∀j (hj:j<zs.a),j<=k->zs[j]=s->∃i,i<zs.a/\Lib.keeps zs.c i=true/\zs.c[i]! = s:=by
   intro k
   induction k with
   | zero=>
     intro j hj hjk he;obtain rfl:j=0:=by omega
     refine⟨0,hj,by simp[Lib.keeps],?_⟩;rw[getElem!_pos _ 0 (by simpa using hj)];simpa using he
   | succ k ih=>
     intro j hj hjk he;by_cases hk:j=0\/zs.c[j]!≠zs.c[j-1]!
     ·refine⟨j,hj,by simp only[Lib.keeps];exact decide_eq_true hk,?_⟩
      rw[getElem!_pos _ j (by simpa using hj)];simpa using he
     ·have h1:j≠0:=fun h=>hk (.b h)
      have h2:zs.c[j]! = zs.c[j-1]!:=Classical.byContradiction fun h=>hk (.a h)
      rw[getElem!_pos _ j (by simpa using hj),getElem!_pos _ (j-1) (by simp;omega)]at h2;simp only[List.getElem_toArray]at h2;exact ih (j-1) (by omega) (by omega) (by rw[<-h2];exact he)
  obtain⟨i,hi,hk,he⟩:=key j0 j0 hj0 (av _) he0;exact⟨i,mY.2 ⟨fq.2 hi,hk⟩,he⟩
theorem adu(l:List (List UInt8)):afE (oZ (IG l)):=by
 unfold afE oZ Lib.compactUpTo;rw[List.pairwise_map];have hp:((eu (IG l).a).filter (Lib.keeps (IG l).c)).Pairwise (fun a b=>a<b):=List.Pairwise.filter _ List.pairwise_lt_range;refine(List.Pairwise.and_mem.1 hp).imp ?_;rintro a b ⟨ha,hb,hab⟩;obtain⟨hb1,hb2⟩:=mY.1 hb;have hbl:=fq.1 hb1;rw[NH]at hbl;simp only[Lib.keeps,decide_eq_true_eq]at hb2;have hne:=hb2.resolve_left (by omega);have h1:=ahJ (l:=l) (show a<=b-1 by omega) (by omega);have h2:=ahJ (l:=l) (show b-1<=b by omega) hbl;cases hc:bU ((IG l).c[a]!) ((IG l).c[b]!)
 ·exfalso
  have h3:=Jw h1 h2;have e:=AZ _ _ hc h3;have h4:bU ((IG l).c[b-1]!) ((IG l).c[b]!)=false:=by rw[<-e];exact h1
  exact hne (AZ _ _ h2 h4)
 ·rfl
theorem NI(l:List (List UInt8)):oZ (IG l)=IE l:=
 Vu _ _ (adu l) (adq l) (fun s=>by rw[adt,amt,Vt])
theorem ajk(base:Nat)(names:List (List UInt8))(A:Option aV)(n c:Nat)(w:ak)(hn:n<=100000)(hl:names.a=n)(h:w.c base 9 1 (.a A n c) n (xq names)):
 aR ah 214 #[.a A n c] w fun e w'=>e=.a (.K #[])/\w'.c base 9 1 (.a A n c) n (xq (IG names))/\w.d w' (bB A n c).ownBlock:=by
 subst hl;rcases h.2 with⟨hv,h0⟩|⟨g,cap,cur,hv,h2,h3,h4,h5,h6,h7⟩
 ·injection hv with e1 e2 e3
  subst e1 e3;have hnil:names=[]:=bF h0;subst hnil;refine(AnyM.slices_Sort_string_none Vw none 0 w).mono ?_;rintro e w' ⟨rfl,rfl⟩;refine⟨rfl,?_,World.grownBy.refl _ _⟩;rw[show IG []=[]by simp[IG]];exact h
 ·injection hv with e1 e2 e3
  subst e1 e3;have hg:g<w.a.j:=(bY.1 h3).1;rw[gP]at h7;have hH:Go.Sort.Holds encStr w g 0 names.c:=Go.holds_of_block h3 (by rw[h7,Dh]);refine(AnyM.slices_Sort_string Vw g 0 c names w hH hg (by omega)).mono ?_;rintro e w' ⟨rfl,nn,os,rfl⟩;refine⟨rfl,?_,Go.grownBy_sorted _⟩;rw[Dh];exact Go.ownsRow_sorted (ss:=names) (NH names) h2 h3 h4 h5 h6
theorem aaK(base:Nat)(zs:List (List UInt8))(A:Option aV)(n c:Nat)(w:ak)(hn:n<=100000)(hl:zs.a=n)(h:w.c base 9 1 (.a A n c) n (xq zs))(m:Nat)(hm:(oZ zs).a=m):
 aR ah 144 #[.a A n c] w fun e w'=>e=.a (.a A m c)/\w'.c base 9 1 (.a A m c) m (xq (oZ zs))/\w.d w' (bB A n c).ownBlock:=by
 subst hl hm;rcases h.2 with⟨hv,h0⟩|⟨g,cap,cur,hv,h2,h3,h4,h5,h6,h7⟩
 ·injection hv with e1 e2 e3
  subst e1 e3;have hnil:zs=[]:=bF h0;subst hnil;refine(AnyG.slices_Compact_string_empty NG none 0 w).mono ?_;rintro e w' ⟨rfl,rfl⟩;exact⟨rfl,h,World.grownBy.refl _ _⟩
 ·injection hv with e1 e2 e3
  subst e1 e3;rw[gP]at h7;have hH:Go.Sort.Holds encStr w g 0 zs.c:=Go.holds_of_block h3 (by rw[h7,Dh]);refine(AnyG.slices_Compact_string NG g 0 c zs w hH (by omega) h4).mono ?_;rintro e w' ⟨rfl,q,rfl⟩;have hle:(oZ zs).a<=zs.a:=by
   unfold oZ Lib.compactUpTo;rw[bW];exact aP (List.length_filter_le _ _) (by simp)
  have hs:=Go.ownsRow_sorted (n:=q) (os:=#[]) (e:=9) (base:=base) (w:=w) (g:=g) (cap:=c) (cur:=cur) (ss:=zs) (ts:=oZ zs++dY (zs.a-(oZ zs).a) []) (by simp;omega) h2 h3 h4 h5 h6;have hg:=Go.grownBy_sorted (w:=w) (g:=g) (n:=q) (os:=#[]) (oZ zs++dY (zs.a-(oZ zs).a) []).c;rw[Go.Sort.grow_empty]at hs hg;refine⟨rfl,⟨by rw[Dh];simp,.a ?_⟩,hg⟩;rcases hs.2 with⟨hv,_⟩|⟨g',cap',cur',hv,k2,k3,k4,k5,k6,k7⟩
  ·cases hv
  ·injection hv with e1 _ e3
   injection e1 with e1
   injection e1 with e1
   subst e1 e3;refine⟨g,c,cur',rfl,k2,k3,by omega,k5,k6,?_⟩;rw[gP]at k7 ⊢;have:=congrArg (List.take (oZ zs).a) k7;rw[List.take_take,lU hle]at this;rw[this,Dh,jC,List.take_left' (by simp)]
section
open Go.RowKit Go.Shelf
attribute [local go_sem] qQ
theorem afG(F:Ll)(n:Nat)(hf:F.fn 215)(hro:F.round=none)(hn:1<=n)(l Bs n₀:Nat)(A:Option aV)(len cap:Nat)(zs:List (List UInt8))(hlen:len<=100000)(J Jx:List (List UInt8)->ak->Prop)
 (hY:∀pre x W,J pre W->pre.a<len->YieldAt F (n-1) ah l #[.g (bK x)] W fun e W'=>
  (e=.a (.e true)/\J (pre++[x]) W'/\aM n₀ W W')\/(e=.a (.e false)/\Jx (pre++[x]) W'))
 (W:ak) (Qb:W.b ⟨Bs,0,none⟩=some (.a A len cap)) (hR:RdT W n₀ A len zs) (h0:J [] W) :
 MS F n ah 215 #[.func (.yield l) #[] #[],.c (some ⟨Bs,0,none⟩)] W fun e W'=>(∃v,e=.a v) /\
  ((∃ys,ys=zs/\J ys W')\/(∃pre,pre <+: zs/\Jx pre W')):=by
 have hzl:=hR.1;refine DL Tryz.func215 rfl hf ?_ hro;simp only[Tryz.ntmps215,dN,bl,gU,kZ,lg,gL,gM,iX,gZ,dJ,gQ];gi_wp2;gi_loopw [7] (fun i wr=>∃k:Nat,k<=len/\i=.b .a k/\J (zs.E k) wr/\aM n₀ W wr)
  (fun i _=>len-(intOf i).toNat)
 case atStart=>exact⟨0,Nat.zero_le _,rfl,h0,aG _ _⟩
 case round=>
  obtain⟨k,hk,rfl,hJs,hnx⟩:=hrel;by_cases hlt:k<len
  ·have hki:(k:Int)<len:=by omega
   obtain⟨b,o,rfl,hbb,hc⟩:=(hR.Y hnx).text hlt;obtain⟨x,hx⟩:=cB (zs.b k []);rw[<-hx]at hc;have hsn:zs.E k++[x]=zs.E (k+1):=by rw[hx];exact pE [] zs k (by omega)
   have Ew:=ab hsn;clear hx hsn hbb;obtain⟨fn,tmps,assign,body,hy,hRd⟩:=hY _ x wr hJs (by rw[bE];omega);gi_wp2;refine hRd.mono ?_;rintro e W3 (⟨rfl,hJ3,hk3⟩|⟨rfl,hJx3⟩)
   ·gi_wp2
    go_roundw
    case rel=>exact⟨k+1,by omega,by simp,by rw[<-Ew.i];exact hJ3,hnx.trans hk3⟩
    case measure=>simp[intOf];omega
   ·gi_wp2
    refine aO (wI rfl _ _ _) rfl ?_;exact⟨⟨_,rfl⟩,.a ⟨_,by rw[Ew.i];exact List.take_prefix _ _,hJx3⟩⟩
  ·obtain rfl:k=len:=by omega
   have hd:decide ((k:Int)<k)=false:=by simp
   gi_wp2;go_end0;exact⟨⟨_,rfl⟩,.b ⟨_,aK (by omega),hJs⟩⟩
theorem afH(A:Option aV)(len cap:Nat)(w:ak):
 aR ah 146 #[.a A len cap] w fun e w'=>e=.a (.func (.func 215) #[] #[.c (some ⟨w.a.j,0,none⟩)])/\w.alloc (.D #[.a A len cap] 69)=w':=by
 go_enter Tryz.func146,Tryz.ntmps146;go_wp2;go_ret;exact⟨rfl,rfl⟩
theorem aaL(F:Ll)(n:Nat)(hf:F.fn 215)(hro:F.round=none)(hn:1<=n)(Bs n₀:Nat)(A:Option aV)(len cap:Nat)(zs:List (List UInt8))(hlen:len<=100000)(w:ak)(Qb:Bs<w.a.j)(hn₀:n₀<=w.a.j)
 (hc:w.b ⟨Bs,0,none⟩=some (.a A len cap)) (hR:RdT w n₀ A len zs) :
 wZ F n ah 215 #[.c (some ⟨Bs,0,none⟩)] (fun x:List UInt8=>#[Value.string (bK x)]) (aM n₀) (fun ys=>ys=zs) (fun pre=>pre <+: zs) len w:=fun l J Jx W hW _ _ hY h0=>by
 have hc':=(hW.cell (p:=⟨Bs,0,none⟩) Qb).trans hc;exact afG F n hf hro hn l Bs n₀ A len cap zs hlen J Jx hY W hc' (hR.to hW hn₀) h0
theorem aaM(F:Ll)(n:Nat)(h3:F.fn 273)(h5:F.fn 215)(hro:F.round=none)(hn:3<=n)(Bs:Nat)(A:Option aV)(len cap:Nat)(zs:List (List UInt8))(hlen:len<=100000)(w:ak)(Qb:Bs<w.a.j)
 (hc:w.b ⟨Bs,0,none⟩=some (.a A len cap)) (hR:RdT w w.a.j A len zs) :
 MS F n ah 273 #[.a none 0 0,.func (.func 215) #[] #[.c (some ⟨Bs,0,none⟩)]] w fun e W'=>
  ∃A' c',e=.a (.a A' len c')/\W'.c w.a.j 9 1 (.a A' len c') len (xq zs)/\aM w.a.j w W':=by
 have h1:1<=n:=by omega
 have hzl:=hR.1;obtain⟨i0,hi,hz0,hz1,hzb⟩:=ZU;refine rR Tryz.func273 rfl h3 ?_ hro;simp only[Tryz.ntmps273,dN,bl,gU,kZ,lg,gL,gM,iX,gZ,dJ,gQ];gi_wp2;have bO:=DN w 69 (.a none 0 0);have hB0:aM w.a.j w (w.alloc (.D #[.a none 0 0] 69)):=(aG _ w).alloc (av _) _;refine wpIn_rangeFunc_ownG hro h1 (gf:=215) (lb:=#[.c (some ⟨Bs,0,none⟩)]) rfl h5 (enters_of Tryz.func215 (by kernel_rfl) rfl)
  (aaL F (n-1) h5 hro (by omega) Bs w.a.j A len cap zs hlen _ (by simp;omega) (by simp) ((hB0.cell (p:=⟨Bs,0,none⟩) Qb).trans hc) (hR.Y hB0)) belowK_t (wR (by simp)) (aG _ _) (fun _=>rfl)
  (fun pre W=>(∃v,Boxed W w.a.j 69 v/\W.c w.a.j 9 1 v pre.a (xq pre)/\True)/\aM w.a.j w W)
  (fun _ _ _=>False)
  (uI (Own.from (holdsRow_own w.a.j w.a.j 69 9 1 (fun pre=>pre.a) (fun pre=>xq pre) (fun _ _=>True)) _) (zW (av _) (by simp)))
  (fun _ _ _ _ _ hs _ _=>hs)
  ⟨⟨_,bO,fQ _ _ _ _,trivial⟩,hB0⟩
  (fun x=>{tmps:=#[.a none 0 0,.func (.func 215) #[] #[.c (some ⟨Bs,0,none⟩)],.c (some ⟨w.a.j,0,none⟩),undef,.a none 0 0,.g (bK x),.func (.func 215) #[] #[.c (some ⟨Bs,0,none⟩)],.g (bK x),undef,undef,undef,undef,undef],defers:=[]}) ?assign ?body ?done ?stop
 case assign=>
  intro l x W K hK;gi_wp2;exact hK
 case body=>
  rintro l pre x W ⟨⟨v,hv,hrow,_⟩,hB⟩ hlt;have hcv:=hv.cell;have hby:(pre.a+1)*i0.bytes<=140737488355328:=aP (iq (show pre.a+1<=100002 by omega) hzb) (by omega);gi_wp2_with (gi_at_builtin;refine wpListIn_append_own _ rfl _ _ 69 rfl w.a.j 9 i0 (.g ⟨#[]⟩) 1 i0.bytes mq hi hz0 hz1 rfl rfl (by decide) _ _ _ rfl (hrow.alloc _) ⟨W.a.j,0,none⟩ 1 1 [.g (bK x)] rfl rfl (cell_one_new _ _ _) (by simp[dA]) (by unfold maxLen;omega) hby (by have:=hB.j;simp;omega) ?_;intro v' w1 hown' hgrow _;obtain⟨g',cap',rfl⟩:=ownsRow_succ hown';obtain⟨hv1,hv2,hr2,hk2,hb2⟩:=hv.appended (by decide) hrow hB.j (av _) hown' hgrow;have hc1:=hv1.cell;have hf1:=hv1.frozen);exact⟨hk2.from _,hb2,⟨_,hv2,by rw[aQ,<-QF];exact hr2,trivial⟩,hB.trans hb2⟩
 case done=>
  rintro D ys W hD rfl ⟨⟨v,hv,hrow,_⟩,hB⟩ hK;have hcv:=hv.cell;gi_wp2;refine⟨by simp,.b ⟨_,_,rfl,vC hK,?_⟩⟩;rw[hzl]at hrow;obtain⟨A',c',hv',_,_⟩:=j3 hrow;refine⟨_,I4 rfl _ _ _,A',c',by rw[<-hv'];rfl,?_,hB.trans (wR (w:=w) (av _) W D _ _ (by simp at hD;omega) hK rfl rfl)⟩;rw[<-hv'];exact ownsRow_putObj hrow _ hK rfl
 case stop=>
  rintro D c pre W _ _ h _;exact h.elim
def TxN(w:ak)(n:Nat)(m:List (List UInt8))(e:Ending)(w':ak):Prop:=
 ∃A c,e=.a (.a A n c)/\w'.c w.a.j 9 1 (.a A n c) n (xq m)/\aM w.a.j w w'
theorem Xz(Bs:Nat)(A:Option aV)(len cap:Nat)(zs:List (List UInt8))(hlen:len<=100000)(w:ak)(Qb:Bs<w.a.j)
 (hc:w.b ⟨Bs,0,none⟩=some (.a A len cap)) (hR:RdT w w.a.j A len zs) :
 aR ah 273 #[.a none 0 0,.func (.func 215) #[] #[.c (some ⟨Bs,0,none⟩)]] w (TxN w len zs):=
 (nL (n:=6)).1 (aaM nY 6 trivial trivial rfl (by omega) Bs A len cap zs hlen w Qb hc hR)
theorem adv(Bs:Nat)(A:Option aV)(len cap:Nat)(zs:List (List UInt8))(hlen:len<=100000)(w:ak)(Qb:Bs<w.a.j)
 (hc:w.b ⟨Bs,0,none⟩=some (.a A len cap)) (hR:RdT w w.a.j A len zs) :
 aR ah 213 #[.func (.func 215) #[] #[.c (some ⟨Bs,0,none⟩)]] w (TxN w len zs):=by
 have AP:=ab (Xz Bs A len cap zs hlen w Qb hc hR);clear hc hR;go_enter Tryz.func213,Tryz.ntmps213;go_wp2_with fail;refine AP.i.mono ?_;rintro e w1 ⟨A1,c1,rfl,ho,hb⟩;have HO:=ab ho;have HB:=ab hb;clear ho hb;go_wp2;go_ret;exact⟨A1,c1,rfl,HO.i,HB.i⟩
theorem adw(Bs:Nat)(A:Option aV)(len cap:Nat)(zs:List (List UInt8))(hlen:len<=100000)(w:ak)(Qb:Bs<w.a.j)
 (hc:w.b ⟨Bs,0,none⟩=some (.a A len cap)) (hR:RdT w w.a.j A len zs) :
 aR ah 145 #[.func (.func 215) #[] #[.c (some ⟨Bs,0,none⟩)]] w (TxN w len (IG zs)):=by
 have HZ:=ab hR.1;have AP:=ab (adv Bs A len cap zs hlen w Qb hc hR);clear hc hR;go_enter Tryz.func145,Tryz.ntmps145;go_wp2_with fail;refine AP.i.mono ?_;rintro e w1 ⟨A1,c1,rfl,ho,hb⟩;have HO:=ab ho;have HB:=ab hb;have ST:=ab (ajk w.a.j zs A1 len c1 w1 hlen HZ.i ho);clear ho hb;go_wp2_with fail;refine ST.i.mono ?_;rintro e w2 ⟨rfl,ho2,hg⟩;have HO2:=ab ho2;have HB2:=ab (HB.i.grown hg HB.i.j (fun k hk=>(HO.i.lt k hk).1));clear ho2 hg;go_wp2;go_ret;exact⟨A1,c1,rfl,HO2.i,HB2.i⟩
end
section
open Go.RowKit Go.Shelf
attribute [local go_sem] qQ
def vE(n:Nat):List Nat:=(eu n).reverse
theorem YD(n:Nat):(vE n).a=n:=by simp[vE]
theorem Vx(n j:Nat)(hj:j<n):(vE n).E (n-1-j)++[j]=(vE n).E (n-j):=by
 have h:(vE n)[n-1-j]? = some j:=by
  unfold vE;rw[List.getElem?_reverse (by simp;omega),List.length_range,show n-1-(n-1-j)=j by omega,xX hj]
 obtain⟨h1,h2⟩:=List.getElem?_eq_some_iff.1 h;rw[show n-j=n-1-j+1 by omega,List.take_succ_eq_append_getElem h1,h2]
def KpB(n₀ Bs:Nat)(W W':ak):Prop:=aM n₀ W W'/\W'.a[Bs]? = W.a[Bs]?
theorem KpB.refl(n₀ Bs:Nat)(W:ak):KpB n₀ Bs W W:=⟨aG _ _,rfl⟩
theorem KpB.trans{n₀ Bs:Nat}{A B C:ak}(h:KpB n₀ Bs A B)(k:KpB n₀ Bs B C):KpB n₀ Bs A C:=⟨h.1.trans k.1,k.2.trans h.2⟩
theorem KpB.cell{n₀ Bs:Nat}{W W':ak}{v:aB}(h:KpB n₀ Bs W W')(hc:W.b ⟨Bs,0,none⟩=some v):W'.b ⟨Bs,0,none⟩=some v:=by
 rw[<-hc];simp only[World.cell?,h.2]
theorem amw(F:Ll)(n:Nat)(hf:F.fn 212)(hro:F.round=none)(hn:1<=n)(l Bs n₀:Nat)(A:Option aV)(len cap:Nat)(zs:List Hl)(hlen:len<=100000)(J Jx:List Nat->ak->Prop)
 (hY:∀pre x W,J pre W->pre.a<len->YieldAt F (n-1) ah l #[.b .a (x:Nat),.agg (zs.b x lY).ay] W fun e W'=>
  (e=.a (.e true)/\J (pre++[x]) W'/\KpB n₀ Bs W W')\/(e=.a (.e false)/\Jx (pre++[x]) W'))
 (W:ak) (Qb:W.b ⟨Bs,0,none⟩=some (.a A len cap)) (hR:RdH W n₀ A len zs) (h0:J [] W) :
 MS F n ah 212 #[.func (.yield l) #[] #[],.c (some ⟨Bs,0,none⟩)] W fun e W'=>(∃v,e=.a v) /\
  ((∃ys,ys=vE len/\J ys W')\/(∃pre,True/\Jx pre W')):=by
 have hzl:=hR.1;have hbl:=YD len;refine DL Tryz.func212 rfl hf ?_ hro;simp only[Tryz.ntmps212,dN,bl,gU,kZ,lg,gL,gM,iX,gZ,dJ,gQ];have hst:∃i0:Int,(len:Int)-1=i0/\((i0 = -1/\len=0)\/(∃j:Nat,i0=j/\j+1=len)):=by
  refine⟨_,rfl,?_⟩;rcases eB len with h|h
  ·exact .b ⟨by omega,h⟩
  ·exact .a ⟨len-1,by omega,by omega⟩
 obtain⟨i0,hi0,hst⟩:=hst;gi_wp2;gi_loopw [3] (fun i wr=>∃i1:Int,i=.b .a i1/\((i1 = -1/\J (vE len) wr)\/(∃j:Nat,i1=j/\j<len/\J ((vE len).E (len-1-j)) wr))/\KpB n₀ Bs W wr)
  (fun i _=>(intOf i+1).toNat)
 case atStart=>
  refine⟨i0,rfl,?_,KpB.refl _ _ _⟩;rcases hst with⟨h1,h2⟩|⟨j,h1,h2⟩
  ·refine .b ⟨h1,?_⟩
   have:vE len=[]:=bF (by omega);rw[this];exact h0
  ·refine .a ⟨j,h1,by omega,?_⟩
   rw[show len-1-j=0 by omega];exact h0
 case round=>
  obtain⟨i1,rfl,hcase,hnx⟩:=hrel;clear hst hi0;have hBw:wr.b ⟨Bs,0,none⟩=some (.a A len cap):=hnx.cell Qb;rcases hcase with⟨rfl,hJs⟩|⟨j,rfl,hjl,hJs⟩
  ·gi_wp2
   go_end0;exact⟨⟨_,rfl⟩,.b ⟨_,rfl,hJs⟩⟩
  ·have hj0:decide ((0:Int)<=(j:Int))=true:=by simp
   have aC5:(j:Int)<len:=by omega
   obtain⟨b,o,rfl,hbb,hh,hc,_,_⟩:=(hR.Y hnx.1).hl hjl;obtain⟨x,hx⟩:=cB (zs.b j lY);rw[<-hx]at hc;have Ew:=ab (show(vE len).E (len-1-j)++[j]=(vE len).E (len-j)from Vx len j (by omega));obtain⟨fn,tmps,assign,body,hy,hRd⟩:=hY _ j wr hJs (by rw[bE];omega);rw[<-hx]at hy;clear hx hbb;gi_wp2;refine hRd.mono ?_;rintro e W3 (⟨rfl,hJ3,hk3⟩|⟨rfl,hJx3⟩)
   ·gi_wp2
    go_roundw
    case rel=>
     refine⟨_,rfl,?_,hnx.trans hk3⟩;rw[Ew.i]at hJ3;rcases eB j with h|h
     ·refine .b ⟨by omega,?_⟩
      rw[aK (by omega)]at hJ3;exact hJ3
     ·refine .a ⟨j-1,by omega,by omega,?_⟩
      rw[show len-1-(j-1)=len-j by omega];exact hJ3
    case measure=>simp[intOf]<;>omega
   ·gi_wp2
    refine aO (wI rfl _ _ _) rfl ?_;exact⟨⟨_,rfl⟩,.a ⟨_,trivial,hJx3⟩⟩
theorem amx(A:Option aV)(len cap:Nat)(w:ak):
 aR ah 143 #[.a A len cap] w fun e w'=>e=.a (.func (.func 212) #[] #[.c (some ⟨w.a.j,0,none⟩)])/\w.alloc (.D #[.a A len cap] 33)=w':=by
 go_enter Tryz.func143,Tryz.ntmps143;go_wp2;go_ret;exact⟨rfl,rfl⟩
theorem afI(F:Ll)(n:Nat)(hf:F.fn 212)(hro:F.round=none)(hn:1<=n)(Bs n₀:Nat)(A:Option aV)(len cap:Nat)(zs:List Hl)(hlen:len<=100000)(w:ak)(Qb:Bs<w.a.j)(hn₀:n₀<=w.a.j)
 (hc:w.b ⟨Bs,0,none⟩=some (.a A len cap)) (hR:RdH w n₀ A len zs) :
 wZ F n ah 212 #[.c (some ⟨Bs,0,none⟩)] (fun x:Nat=>#[aI .a (x:Nat),.agg (zs.b x lY).ay]) (KpB n₀ Bs) (fun ys=>ys=vE len) (fun _=>True) len w:=fun l J Jx W hW _ _ hY h0=>by
 have hc':=(hW.cell (p:=⟨Bs,0,none⟩) Qb).trans hc;exact amw F n hf hro hn l Bs n₀ A len cap zs hlen J Jx hY W hc' (hR.to hW hn₀) h0
section
variable {H:Type}
def hlD(x:Hl):Ay H:=.agg [.lit (.g x.F),.lit (.e x.down),.lit (.b .a x.O)]
def Jy:aB->Option (Ay H×List uw)
 | .agg c=>match c.a with
   | [.g s,.e b,.b .a r]=>some (hlD ⟨s.data.a,b,r⟩,[])
   | _=>none
 | _=>none
theorem YE(x:Hl):Jy (H:=H) (.agg x.ay)=some (hlD x,[]):=by
 simp[Jy,Hl.ay,bK]
theorem afJ{v:aB}{z:Ay H×List uw}(h:Jy v=some z):∃x:Hl,v=.agg x.ay/\z=(hlD x,[]):=by
 unfold Jy at h;split at h
 ·rename_i c
  split at h
  ·rename_i s b r hc
   injection h with h
   refine⟨⟨s.data.a,b,r⟩,?_,h.symm⟩;have:c = #[.g s,.e b,.b .a r]:=by rw[<-Array.toArray_toList (xs:=c),hc]
   rw[this];simp[Hl.ay,QD]
  ·cases h
 ·cases h
theorem ahK{x y:Hl}(h:hlD (H:=H) x=hlD y):x=y:=by
 cases x;cases y;simp[hlD]at h;obtain⟨rfl,rfl,rfl⟩:=h;rfl
def YF(D:Ay H)(f:List UInt8->Option Hl):Prop:=
 Maps.IsMap D/\∀s,Maps.has D (.g s)=(f s).isSome/\∀zd,D.atKey (.g s) zd=match f s with|some x=>hlD x|none=>zd
def GQ(l:List Hl)(pre:List Nat)(s:List UInt8):Option Hl:=(pre.reverse.map (fun k=>l.b k lY)).find? (fun x=>x.F==s)
theorem adx(l:List Hl)(pre:List Nat)(p:Nat)(s:List UInt8):GQ l (pre++[p]) s=if(l.b p lY).F==s then some (l.b p lY)else GQ l pre s:=by
 unfold GQ;rw[List.reverse_append];simp only[List.reverse_cons,List.reverse_nil,dJ,gQ,kV,List.find?_cons];cases(l.b p lY).F==s<;>rfl
theorem afK(l:List Hl)(s:List UInt8):GQ l (vE l.a) s=l.find? (fun x=>x.F==s):=by
 unfold GQ vE;rw[List.reverse_reverse];congr 1;apply iC;intro i;rw[jM];rcases aZ i l.a with h|h
 ·rw[xX h,aC h]
  simp only[Option.map_some];rw[au,aC h];rfl
 ·rw[aT (by simpa using h),aT h];rfl
theorem ajl(l:List Hl):YF (H:=H) (.map []) (GQ l []):=⟨⟨[],rfl⟩,fun s=>⟨rfl,fun zd=>rfl⟩⟩
theorem ajm{D:Ay H}{l:List Hl}{pre:List Nat}(h:YF D (GQ l pre))(k:Nat)(p:Hl)(hp:p=l.b k lY):YF (D.put (.g p.F) (hlD p)) (GQ l (pre++[k])):=by
 obtain⟨hm,hs⟩:=h;have hk:Go.WideAt.IsKeyLit (.g p.F):=trivial;refine⟨hm.put _ _,fun s=>?_⟩;rw[adx,<-hp];by_cases hn:p.F=s
 ·subst hn
  have:(p.F==p.F)=true:=by simp
  rw[this];exact⟨Maps.has_put_same hm hk _,fun zd=>Maps.atKey_put_same hm hk _ _⟩
 ·have hb:(p.F==s)=false:=by simpa using hn
  rw[hb];have hne:(Lit.string s)≠.g p.F:=fun e=>hn (by injection e with e;exact e.symm)
  obtain⟨h1,h2⟩:=hs s;exact⟨by rw[Maps.has_put_other hne];exact h1,fun zd=>by rw[Maps.atKey_put_other hne];exact h2 zd⟩
end
end
section
open Go.RowKit Go.Shelf
attribute [local go_sem] qQ
theorem ajn(F:Ll)(n:Nat)(hf:F.fn 306)(hro:F.round=none)(hn:1<=n)(l Bs n₀:Nat)(A:Option aV)(len cap:Nat)(zs:List UInt8)(hlen:len<=100000)(J Jx:List Nat->ak->Prop)
 (hY:∀pre x W,J pre W->pre.a<len->YieldAt F (n-1) ah l #[.b .a (x:Nat),bv (zs.b x 0)] W fun e W'=>
  (e=.a (.e true)/\J (pre++[x]) W'/\KpB n₀ Bs W W')\/(e=.a (.e false)/\Jx (pre++[x]) W'))
 (W:ak) (Qb:W.b ⟨Bs,0,none⟩=some (.a A len cap)) (hR:gG W n₀ A len zs) (h0:J [] W) :
 MS F n ah 306 #[.func (.yield l) #[] #[],.c (some ⟨Bs,0,none⟩)] W fun e W'=>(∃v,e=.a v) /\
  ((∃ys,ys=vE len/\J ys W')\/(∃pre,True/\Jx pre W')):=by
 have hzl:=hR.len;have hbl:=YD len;refine DL Tryz.func306 rfl hf ?_ hro;simp only[Tryz.ntmps306,dN,bl,gU,kZ,lg,gL,gM,iX,gZ,dJ,gQ];have hst:∃i0:Int,(len:Int)-1=i0/\((i0 = -1/\len=0)\/(∃j:Nat,i0=j/\j+1=len)):=by
  refine⟨_,rfl,?_⟩;rcases eB len with h|h
  ·exact .b ⟨by omega,h⟩
  ·exact .a ⟨len-1,by omega,by omega⟩
 obtain⟨i0,hi0,hst⟩:=hst;gi_wp2;gi_loopw [3] (fun i wr=>∃i1:Int,i=.b .a i1/\((i1 = -1/\J (vE len) wr)\/(∃j:Nat,i1=j/\j<len/\J ((vE len).E (len-1-j)) wr))/\KpB n₀ Bs W wr)
  (fun i _=>(intOf i+1).toNat)
 case atStart=>
  refine⟨i0,rfl,?_,KpB.refl _ _ _⟩;rcases hst with⟨h1,h2⟩|⟨j,h1,h2⟩
  ·refine .b ⟨h1,?_⟩
   have:vE len=[]:=bF (by omega);rw[this];exact h0
  ·refine .a ⟨j,h1,by omega,?_⟩
   rw[show len-1-j=0 by omega];exact h0
 case round=>
  obtain⟨i1,rfl,hcase,hnx⟩:=hrel;clear hst hi0;have hBw:wr.b ⟨Bs,0,none⟩=some (.a A len cap):=hnx.cell Qb;rcases hcase with⟨rfl,hJs⟩|⟨j,rfl,hjl,hJs⟩
  ·gi_wp2
   go_end0;exact⟨⟨_,rfl⟩,.b ⟨_,rfl,hJs⟩⟩
  ·have hj0:decide ((0:Int)<=(j:Int))=true:=by simp
   have aC5:(j:Int)<len:=by omega
   obtain⟨a,rfl,hab,hc⟩:=(hR.Y hnx.1).dW (k:=j) (by omega);obtain⟨x,hx⟩:=cB (zs.b j 0);rw[<-hx]at hc;have Ew:=ab (show(vE len).E (len-1-j)++[j]=(vE len).E (len-j)from Vx len j (by omega));obtain⟨fn,tmps,assign,body,hy,hRd⟩:=hY _ j wr hJs (by rw[bE];omega);rw[<-hx]at hy;clear hx;gi_wp2;refine hRd.mono ?_;rintro e W3 (⟨rfl,hJ3,hk3⟩|⟨rfl,hJx3⟩)
   ·gi_wp2
    go_roundw
    case rel=>
     refine⟨_,rfl,?_,hnx.trans hk3⟩;rw[Ew.i]at hJ3;rcases eB j with h|h
     ·refine .b ⟨by omega,?_⟩
      rw[aK (by omega)]at hJ3;exact hJ3
     ·refine .a ⟨j-1,by omega,by omega,?_⟩
      rw[show len-1-(j-1)=len-j by omega];exact hJ3
    case measure=>simp[intOf]<;>omega
   ·gi_wp2
    refine aO (wI rfl _ _ _) rfl ?_;exact⟨⟨_,rfl⟩,.a ⟨_,trivial,hJx3⟩⟩
theorem ajo(A:Option aV)(len cap:Nat)(w:ak):
 aR ah 252 #[.a A len cap] w fun e w'=>e=.a (.func (.func 306) #[] #[.c (some ⟨w.a.j,0,none⟩)])/\w.alloc (.D #[.a A len cap] 56)=w':=by
 go_enter Tryz.func252,Tryz.ntmps252;go_wp2;go_ret;exact⟨rfl,rfl⟩
theorem ady(F:Ll)(n:Nat)(hf:F.fn 306)(hro:F.round=none)(hn:1<=n)(Bs n₀:Nat)(A:Option aV)(len cap:Nat)(zs:List UInt8)(hlen:len<=100000)(w:ak)(Qb:Bs<w.a.j)(hn₀:n₀<=w.a.j)
 (hc:w.b ⟨Bs,0,none⟩=some (.a A len cap)) (hR:gG w n₀ A len zs) :
 wZ F n ah 306 #[.c (some ⟨Bs,0,none⟩)] (fun x:Nat=>#[aI .a (x:Nat),bv (zs.b x 0)]) (KpB n₀ Bs) (fun ys=>ys=vE len) (fun _=>True) len w:=fun l J Jx W hW _ _ hY h0=>by
 have hc':=(hW.cell (p:=⟨Bs,0,none⟩) Qb).trans hc;exact ajn F n hf hro hn l Bs n₀ A len cap zs hlen J Jx hY W hc' (hR.to hW hn₀) h0
theorem gG.upM{w:ak}{B n k:Nat}{A:Option aV}{l:List UInt8}(h:gG w B A n l)(hk:k<=n):gG w B A k (l.E k):=by
 have:=Rd.upto h hk
 rwa [gP,<-BI]at this
theorem amy(zs:List UInt8)(m:Nat)(hm:zs.a=m):(vE m).map (fun i=>zs.b i 0)=zs.reverse:=by
 subst hm;unfold vE;rw[List.map_reverse];congr 1;apply iC;intro i;rw[jM];rcases aZ i zs.a with h|h
 ·rw[xX h,aC h];simp[au,h]
 ·rw[aT (by simpa using h),aT h];rfl
theorem Mq(A:Option aV)(n c:Nat)(l:List UInt8)(w:ak)(hnc:n<=c)(hc:c<=9223372036854775807)(hr:gG w w.a.j A n l):
 aR ah 180 #[.a A n c,.e false] w (gY w (.b .c (leN (l.E 8)))):=by
 refine(nL (n:=8)).1 ?_;have hlen:=hr.len;obtain⟨m,hm,hm8,hmn⟩:∃m:Nat,(if(8:Int)<(n:Int)then(8:Int)else(n:Int))=m/\m<=8/\m<=n:=⟨min n 8,by split<;>omega,by omega,by omega⟩
 have hmm:m=min n 8:=by split at hm<;>omega
 have hm2:min (n:Int) 8=m:=by omega
 have HR:=ab (hr.upM hmn);obtain⟨zs,hzs⟩:=cB (l.E m);have HZL:=ab (show zs.a=m by rw[hzs,bE];omega);have HZ8:=ab (show l.E 8=zs by
  rw[hzs,hmm];by_cases h8:n<=8
  ·rw[lU h8,aK (by omega),aK (by omega)]
  ·rw[Nat.min_eq_right (by omega)])
 rw[<-hzs]at HR;rw[HZ8.i];clear hr hmm hzs HZ8 hlen;have hfn:∀f,nY.fn f:=fun _=>trivial
 refine rR Tryz.func180 rfl trivial ?_ rfl;simp only[Tryz.ntmps180,dN,bl,gU,kZ,lg,gL,gM,iX,gZ,dJ,gQ];gi_wp2_with (gi_at_call 252;refine(nL.2 (ajo A m c _)).mono ?_;rintro e w' ⟨rfl,rfl⟩);clear hm hm2;have hB0:aM w.a.j w (w.alloc (.D #[.b .c 0] 92)):=(aG _ w).alloc (av _) _;have bN:=DN w 92 (.b .c 0);have hs1:(w.alloc (.D #[.b .c 0] 92)).a.j=w.a.j+1:=by simp
 generalize w.alloc (.D #[.b .c 0] 92)=W1 at hB0 bN hs1 ⊢;have bS:=DN W1 56 (.a A m c);have bN2:=bN.alloc (.D #[.a A m c] 56);have hB1:=hB0.alloc (Nat.le_of_eq hs1 |> fun _=>(by omega:w.a.j<=W1.a.j)) (.D #[.a A m c] 56);have hs2:(W1.alloc (.D #[.a A m c] 56)).a.j=w.a.j+2:=by simp[hs1]
 rw[hs1]at bS
 try simp only[hs1]
 generalize W1.alloc (.D #[.a A m c] 56)=W2 at hB1 bN2 bS hs2 ⊢;clear hB0 bN hs1;refine wpIn_rangeFunc_ownG rfl (by omega) (gf:=306) (lb:=#[.c (some ⟨w.a.j+1,0,none⟩)]) rfl trivial (enters_of Tryz.func306 (by kernel_rfl) rfl)
  (ady nY 7 trivial rfl (by omega) (w.a.j+1) w.a.j A m c zs (by omega) W2 (by omega) (by omega) bS.cell (HR.i.Y hB1)) KpB.trans (fun W q o o' hq ho hc hw=>⟨wR (w:=w) (av _) W q o o' (by omega) ho hc hw,(grownBy_putObj' W q o').block _ (by have:=(bY.1 ho).1;omega) (fun e=>by injection e with e;omega)⟩) (aG _ _) (fun _=>rfl)
  (fun pre W=>(Boxed W w.a.j 92 (.b .c (o9 (pre.map fun i=>zs.b i 0):Nat))/\w.a.j+2<=W.a.j)/\aM w.a.j w W)
  (fun _ _ _=>False)
  (uI (uI (Own.from (boxed_own _ _ _) _) (fun s X Y row hs hg hr=>aP hs hg.j)) (zW (av _) (by omega)))
  (fun _ _ _ _ _ hs _ _=>hs)
  ⟨⟨bN2,by omega⟩,hB1⟩
  (fun x=>{tmps:=#[.a A m c,.e false,undef,undef,.b .c 0,.c (some ⟨w.a.j,0,none⟩),undef,undef,undef,bv (zs.b x 0),.a A n c,.a A n c,.b .a n,.b .a m,.a A m c,.e false,undef,undef,undef,undef,undef,undef,undef,undef,undef,undef,undef,undef,undef,.a A m c,.func (.func 306) #[] #[.c (some ⟨w.a.j+1,0,none⟩)],.b .a (x:Nat),bv (zs.b x 0),undef,undef,undef,undef,undef,undef],defers:=[]})
  ?assign ?body ?done ?stop
 case assign=>
  intro l x W K hK;gi_wp2;exact hK
 case body=>
  rintro l pre x W ⟨⟨hv,hsz⟩,hB⟩ hlt;have cS:=hv.cell;have fS:=hv.frozen;have HV:=ab hv;have HB:=ab hB;clear hv hB;obtain⟨y,hy⟩:=cB (zs.b x 0);obtain⟨nn,hnn⟩:=cB (o9 (pre.map fun i=>zs.b i 0));have Tm:nn*256<18446744073709551616:=by
   have h1:=Kk (pre.map fun i=>zs.b i 0);have h2:256^(pre.map fun i=>zs.b i 0).a<=256^7:=Nat.pow_le_pow_right (by omega) (by rw[bW];omega);omega
  have Ew:=ab (show o9 ((pre++[x]).map fun i=>zs.b i 0)=nn*256+y.toNat by rw[jC,kV,List.map_nil,Ja,<-hy,<-hnn]);rw[<-hnn]at cS HV;have aiB:=y.toNat_lt;have hor:=aha nn y.toNat Tm aiB;unfold bv;rw[<-hy];clear hy hnn;generalize y.toNat=ch at *;have G:=grownBy_setCell' W w.a.j (.b .c (nn*256+ch:Nat));have HX:=ab (show KeepsFrom W2.a.j W (W.I ⟨w.a.j,0,none⟩ (.b .c (nn*256+ch:Nat)))/\KpB w.a.j (w.a.j+1) W (W.I ⟨w.a.j,0,none⟩ (.b .c (nn*256+ch:Nat)))/\(Boxed (W.I ⟨w.a.j,0,none⟩ (.b .c (nn*256+ch:Nat))) w.a.j 92 (.b .c (nn*256+ch:Nat))/\w.a.j+2<=(W.I ⟨w.a.j,0,none⟩ (.b .c (nn*256+ch:Nat))).a.j)/\aM w.a.j w (W.I ⟨w.a.j,0,none⟩ (.b .c (nn*256+ch:Nat)))from
   ⟨KeepsFrom.of_grownBy G (fun j e=>by cases e;omega),⟨(aG w.a.j W).I (p:=⟨w.a.j,0,none⟩) (av w.a.j) _,G.block _ (by omega) (fun e=>by injection e with e;omega)⟩,⟨HV.i.set _,by have:=G.j;omega⟩,HB.i.I (p:=⟨w.a.j,0,none⟩) (av w.a.j) _⟩)
  clear G;gi_wp2;refine⟨HX.i.1,HX.i.2.1,⟨?_,HX.i.2.2.1.2⟩,HX.i.2.2.2⟩;show Boxed _ _ _ (.b .c (o9 ((pre++[x]).map fun i=>zs.b i 0):Nat));rw[Ew.i];exact HX.i.2.2.1.1
 case done=>
  rintro D0 ys W hD0 rfl ⟨⟨hv,hsz⟩,hB⟩ hK;have cS:=hv.cell;rw[amy zs m HZL.i]at cS;have HV:=ab hv;have HB:=ab hB;clear hv hB;have HL:=ab (show leN zs=o9 zs.reverse from rfl);gi_wp2;refine⟨by simp,.b ⟨_,_,rfl,vC hK,?_⟩⟩;refine⟨_,I4 rfl _ _ _,?_,HB.i.trans (wR (w:=w) (av _) W D0 _ _ (by omega) hK rfl rfl)⟩;rw[HL.i];rfl
 case stop=>
  rintro D c pre W _ _ h _;exact h.elim
end
section
open Go.RowKit Go.Shelf
attribute [local go_sem] qQ
theorem Im{P:fB}{t k e:bL}(hu:P.underlying t=some (.map k e))(n:Int)(w:ak):(Instr.makeMap t (some (.b .a n))).O P w=.ok (.map (some w.a.j)) (w.alloc (.map #[] 0)):=by
 simp[Instr.makeMap,run_underlying hu,asInt,asIntOf,Result.andThen]
theorem Au(B:Nat)(c:Array aB):Own (fun(_:Unit) W=>dP W B c):=fun s X Y row hs hg hrow=>
 hs.grown hg (fun e'=>by obtain⟨o,ho,hc⟩:=hrow B e'.symm;obtain⟨t,hs⟩:=hs;rw[hs]at ho;cases ho;cases hc)
theorem ap3(w:ak):(zeroValue 100).O ah w=.ok (.agg lY.ay) w:=by
 obtain⟨i0,hi0,hz0,hz1,hzb⟩:=Pq;simp[zeroValue,typeInfo,hi0,hz0]
theorem Boxed.amB{W W':ak}{b B:Nat}{t:bL}{v:aB}(h:Boxed W b t v)(hb:aM B W W')(hl:b<B):Boxed W' b t v:=(hb.block b hl).trans h
theorem XB{H:Type}{P:fB}{k:bL}{R:aB->Option (Ay H×List uw)}{b n B:Nat}{D:Ay H}{W W':ak}(h:W.ownsMap P k R b n D)(hb:aM B W W')(hl:b<B):W'.ownsMap P k R b n D:=by
 obtain⟨es,ck,h1,h2⟩:=h;exact⟨es,ck,(hb.block b hl).trans h1,h2⟩
theorem afL{H:Type}{P:fB}{k:bL}{R:aB->Option (Ay H×List uw)}{b n:Nat}{D:Ay H}{W:ak}(h:W.ownsMap P k R b n D):b<W.a.j:=by
 obtain⟨es,ck,h1,h2⟩:=h;exact(bY.1 h1).1
theorem FD{ops:Array Oper}{rest:List Oper}{o:Oper}{a:Act}{Q:Exit->Act->ak->Prop}{w:ak}(hg:o.guard=none)(m x:Operand)(II:o.op=Op.lookup 230 m x true)
 (b n:Nat) (D:Ay Unit) (hm:a.eval m=.map (some b)) (hown:w.ownsMap ah 9 Jy b n D) (f:List UInt8->Option Hl) (hF:YF D f) (s:List UInt8) (hs:s.a<=100000) (hx:a.eval x=.g (bK s))
 (y:Hl) (ok:Bool) (hy:(f s).b lY=y) (hok:(f s).isSome=ok) (hK:wpList ah ops Q rest (a.put o.dst (.K #[.agg y.ay,.e ok])) w):wpList ah ops Q (o::rest) a w:=by
 have hkey:keyOf ah 9 (.g (bK s))=some (.g s):=WideMaps.keyOf_string_mk (P:=ah) iZ (by unfold maxLen;rw[DZ];omega);refine wpList_lookup_own_ok w hg m x 230 II 9 100 (Maps.string_keyed iZ) Tryz.underlying230 Jy (ap3 w) (hlD lY) [] (YE lY) b n D hm hown _ (.g s) hx hkey ?_;intro v ps hv;obtain⟨z,rfl,hz⟩:=afJ hv;obtain⟨h1,h2⟩:=hF.2 s;have hzd:=congrArg Prod.fst hz;dsimp only at hzd;rw[h2]at hzd;have e1:z=y:=by
  rw[<-hy];cases hf:f s with
  | none=>rw[hf]at hzd;exact(ahK hzd).symm
  | some u=>rw[hf]at hzd;exact(ahK hzd).symm
 rw[e1,h1,hok];exact hK
theorem afM(l:List Hl)(s:List UInt8):Dg l s=match l.find? (fun x=>x.F==s)with|some x=>x|none=>⟨s,false,0⟩:=by
 unfold Dg AL;cases hf:l.findIdx? (fun x=>x.F==s)with
 | none=>
   have h1:l.find? (fun x=>x.F==s)=none:=List.find?_eq_none.2 (fun x hx=>by have:=List.findIdx?_eq_none_iff.1 hf x hx;simpa using this);rw[h1];rfl
 | some i=>
   obtain⟨hi,hn,hno⟩:=fT.1 hf;have h1:l.find? (fun x=>x.F==s)=some l[i]:=List.find?_eq_some_iff_getElem.2 ⟨hn,i,hi,rfl,fun j hj=>by simpa using hno j hj⟩;rw[h1];dsimp only;rw[if_neg (by omega),Int.toNat_natCast,au,aC hi];rfl
theorem amC(l:List Hl)(names:List (List UInt8))(A:Option aV)(n c:Nat)(A2:Option aV)(n2 c2:Nat)(w:ak)(hR:RdH w w.a.j A n l)(hN:RdT w w.a.j A2 n2 names)(hn:n<=100000)(hn2:n2<=100000)(hl:∀x∈l,x.F.a<=100000)(hnm:∀s∈names,s.a<=100000):
 aR ah 72 #[.a A n c,.a A2 n2 c2] w (ClP w (FC l names).a (FC l names)):=by
 refine(nL (n:=8)).1 ?_;have HR:=ab hR;have HKL:=ab (fun k=>show(bK (l.b k lY).F).j<=maxLen by
  have:(l.b k lY).F.a<=100000:=by
   rw[au];rcases aZ k l.a with h|h
   ·rw[aC h];exact hl _ (eZ h)
   ·rw[aT h];simp[lY]
  unfold maxLen;rw[DZ];omega)
 have hfn:∀f,nY.fn f:=fun _=>trivial
 have HN:=ab hN;have HNM:=ab hnm;have hmm:=fun n w=>Im (P:=ah) Tryz.underlying230 n w
 refine rR Tryz.func72 rfl trivial ?_ rfl;simp only[Tryz.ntmps72,dN,bl,gU,kZ,lg,gL,gM,iX,gZ,dJ,gQ];clear hR hN hl hnm;gi_wp2_with (gi_at_call 143;refine(nL.2 (amx A n c _)).mono ?_;rintro e w' ⟨rfl,rfl⟩);obtain⟨W1,hW1⟩:=uP (w.alloc (.map #[] 0));have hm0:=World.ownsMap_made w ah 9 (Jy (H:=Unit));rw[hW1]at hm0;have hs1:W1.a.j=w.a.j+1:=by rw[<-hW1];simp
 have bS:=DN W1 230 (.map (some w.a.j));have bN:=DN (W1.alloc (.D #[.map (some w.a.j)] 230)) 33 (.a A n c);rw[pV]at bN;have hB0:aM w.a.j w ((W1.alloc (.D #[.map (some w.a.j)] 230)).alloc (.D #[.a A n c] 33)):=by
  rw[<-hW1];exact(((aG _ w).alloc (av _) _).alloc (by simp) _).alloc (by simp;omega) _
 have hm2:=(hm0.alloc (.D #[.map (some w.a.j)] 230)).alloc (.D #[.a A n c] 33);have bS2:=bS.alloc (.D #[.a A n c] 33);rw[hW1];rw[hs1]at bS bN bS2;clear hW1 hm0 bS;obtain⟨W2,hW2⟩:=uP ((W1.alloc (.D #[.map (some w.a.j)] 230)).alloc (.D #[.a A n c] 33));have hsz:W2.a.j=w.a.j+3:=by rw[<-hW2];simp[hs1]
 try simp only[pV,hs1]
 rw[hW2]at bS2 bN hB0 hm2 ⊢;clear hW2;refine wpIn_rangeFunc_ownH rfl (by omega) (gf:=212) (lb:=#[.c (some ⟨w.a.j+1+1,0,none⟩)]) rfl trivial (enters_of Tryz.func212 (by kernel_rfl) rfl)
  (afI nY 7 trivial rfl (by omega) (w.a.j+1+1) w.a.j A n c l hn W2 (by omega) (by omega) bN.cell (HR.i.Y hB0)) KpB.trans (fun W q o o' hq ho hc hw=>⟨wR (w:=w) (av _) W q o o' (by omega) ho hc hw,(grownBy_putObj' W q o').block _ (by have:=(bY.1 ho).1;omega) (fun e=>by injection e with e;omega)⟩) (aG _ _) (fun _=>rfl)
  (fun pre W=>(Boxed W (w.a.j+1) 230 (.map (some w.a.j))/\∃D,W.ownsMap ah 9 (Jy (H:=Unit)) w.a.j pre.a D/\YF D (GQ l pre)/\w.a.j+3<=W.a.j)/\aM w.a.j w W)
  (fun _ _ _=>False)
  (uI (uI (Own.from (boxed_own _ _ _) _) (fun s X Y row hs hg hr=>by obtain⟨D,h1,h2,h3⟩:=hs;exact⟨D,h1.kept hg (fun e=>by have:=(hr _ e.symm).1;omega),h2,aP h3 hg.j⟩)) (zW (av _) (by omega)))
  (fun _ _ _ _ _ hs _ _=>hs)
  ⟨⟨bS2,_,hm2,ajl l,by omega⟩,hB0⟩
  (fun x a' W=>∃Bx,w.a.j+1<Bx/\dP W Bx (l.b x lY).ay/\a'={tmps:=#[.a A n c,.a A2 n2 c2,undef,undef,.a none 0 0,.c (some ⟨w.a.j+1,0,none⟩),undef,.c (some ⟨Bx,0,none⟩),undef,undef,undef,undef,undef,.a A n c,.b .a n,.map (some w.a.j),.a A n c,.func (.func 212) #[] #[.c (some ⟨w.a.j+1+1,0,none⟩)],.b .a (x:Nat),.agg (l.b x lY).ay,undef,undef,undef,undef,undef,undef,undef,undef,undef,undef,undef,undef,undef,undef,undef,undef,undef,undef,undef,undef,undef,undef,undef,undef,undef,undef,undef,undef,undef],defers:=[]})
  (fun x a' _ X Y row hs hg hr=>by obtain⟨Bx,h1,h2,h3⟩:=hs;exact⟨Bx,h1,Au Bx (l.b x lY).ay () X Y row h2 hg (fun r e=>(hr r e).2),h3⟩)
  ?assign ?body ?done ?stop
 case assign=>
  rintro q pre x W K ⟨⟨bS1,D,hD,hF,hsW⟩,hB1⟩ hK;gi_wp2;refine hK _ _ ((KeepsOthers.alloc _ _).from _) ⟨(aG _ W).alloc hB1.j _,Below.heap_alloc W _ _ (by omega)⟩ ⟨⟨bS1.alloc _,D,hD.alloc _,hF,by simp;omega⟩,hB1.alloc hB1.j _⟩ ⟨W.a.j,bS1.lt,dP.new W _ _,rfl⟩
 case body=>
  rintro q pre x a' W hq ⟨r,hr⟩ ⟨⟨bS1,D,hD,hF,hsW⟩,hB1⟩ ⟨Bx,hBx,bX,rfl⟩ hlt;have cS:=bS1.cell;obtain⟨f1,f2,f3,f4⟩:=bX.R;have HB1:=ab hB1;have HF:=ab hF;have HX:=ab bX;have HS:=ab bS1;clear hB1 hF bX bS1;obtain⟨y,hy⟩:=cB (l.b x lY);have HKY:=HKL.i x;rw[<-hy]at f1 f3 f4 HKY;have hkey:keyOf ah 9 (.g (bK y.F))=some (.g y.F):=WideMaps.keyOf_string_mk (P:=ah) iZ HKY;have HY:=ab hy
  try rw[<-hy]
  clear hy HKY;gi_wp2_with (gi_at_mapUpdate;refine wpListIn_mapUpdate_own _ rfl _ _ _ 230 rfl 9 100 (Maps.string_keyed iZ) Tryz.underlying230 _ w.a.j pre.a D rfl hD (by unfold maxLen;omega) _ _ (.g y.F) rfl rfl hkey _ [] (YE y) ?_;intro w1 hown1 hgrow1);have hsz1:=hgrow1.j;exact⟨KeepsFrom.of_grownBy hgrow1 (fun j e=>by cases e;omega),⟨(aG _ W).grown hgrow1 HB1.i.j (fun k e=>by cases e;exact av _),hgrow1.block _ (by omega) (fun e=>by injection e with e;omega)⟩,
   ⟨HS.i.kept hgrow1 (fun e=>by injection e with e;omega),_,by rw[aQ];exact hown1,ajm HF.i x y HY.i,by omega⟩,HB1.i.grown hgrow1 HB1.i.j (fun k e=>by cases e;exact av _)⟩
 case done=>
  rintro D0 ys W hD0 rfl ⟨⟨bS1,D,hD,hF,hsW⟩,hB1⟩ hK;have cS:=bS1.cell;rename_i K0 KA;refine KA _ _ (wpIn_wide.2 ?_);have HB1:=ab hB1;have hl2:=HR.i.1;rw[<-hl2]at hF;have HF:=ab (show YF D (fun s=>l.find? (fun x=>x.F==s))by have:=funext (afK l);rw[<-this];exact hF);have HD:=ab hD;have HK:=ab hK;have HS:=ab bS1;have HM:=ab (afL hD);have RN:=ab ((HN.i.Y hB1).lD hB1.j:RdT W W.a.j A2 n2 names);clear hB1 hF hD hK bS1 cS hB0 hm2 bN bS2 KA K0;go_wp2_with fail;refine(afH A2 n2 c2 W).mono ?_;rintro e w' ⟨rfl,rfl⟩;obtain⟨w2,hw2⟩:=uP (W.alloc (.D #[.a A2 n2 c2] 69));have aI6:w2.a.j=W.a.j+1:=by rw[<-hw2];simp
  have SO:=ab (adw W.a.j A2 n2 c2 names hn2 w2 (by omega) (by rw[<-hw2];exact nK W _ _ 0) (by rw[<-hw2];exact RN.i.up _));have B2:=ab (show aM W.a.j W w2 by rw[<-hw2];exact(aG _ W).alloc (av _) _);have HW2:=ab hw2;clear hw2;go_wp2_with fail;rw[HW2.i];refine SO.i.mono ?_;rintro e w3 ⟨A3,c3,rfl,ho3,hb3⟩;have hul:=ads names;obtain⟨U,hU⟩:=cB (IE names);obtain⟨ul,adz⟩:=cB U.a;have hnl:=HN.i.1;have CO:=ab (aaK w2.a.j (IG names) A3 n2 c3 w3 hn2 (by rw[NH];exact hnl) ho3 ul (by rw[NI,<-hU];exact adz.symm));have hlt3:=ho3.lt;rw[NI,<-hU]at CO;have aI8:ul<=100000:=by rw[adz,hU];omega
  have HSY:=ab (show FC l names=U.map (Dg l)by rw[hU];rfl);have HUN:=ab (fun k (hk:k<ul)=>show(U.b k []).a<=100000 by
   rw[adz]at hk;rw[au,aC hk,Option.getD_some];refine HNM.i _ ?_;rw[<-Vt,<-hU];exact eZ hk)
  have HL:=ab adz;clear hU adz hul;have B3:=ab (B2.i.trans (hb3.mono (by omega:W.a.j<=w2.a.j)));have H3:=ab hlt3;clear hb3 ho3 hlt3;go_wp2_with fail;refine CO.i.mono ?_;rintro e w4 ⟨rfl,ho4,hg4⟩;have B4:=ab (B3.i.grown hg4 B3.i.j (fun k hk=>by have:=(H3.i k hk).1;omega));have RU:=ab (iT.jh HL.i.symm ho4:RdT w4 w4.a.j A3 ul U);have hs4:=B4.i.j;clear ho4 hg4;obtain⟨i0,hi0,hz0,hz1,hzb⟩:=Pq;have HI0:=ab hi0;have HZ0:=ab hz0;have HZ1:=ab hz1;have HZ2:=ab (show(cO lY.ay).D.j=3 by simp[Value.cells,Hl.J]);have HZB:=ab hzb;clear hi0 hz0 hz1 hzb;go_wp2_with fail;go_loopw [8,29] (fun s8 s29 wr=>∃(k:Nat)(O:Option aV)(cap:Nat),k<=ul/\s8=.a O k cap/\s29=.b .a k/\wr.c w4.a.j 100 3 (.a O k cap) k (yg ((U.E k).map (Dg l)))/\aM w4.a.j w4 wr) (fun _ s29 _=>ul-(intOf s29).toNat)
  case atStart=>exact⟨0,none,0,by omega,rfl,rfl,by simpa[yg]using fQ _ _ _ _,aG _ _⟩
  case round=>
   obtain⟨k,O,cap,hku,rfl,rfl,ho,hb⟩:=hrel;have HO:=ab ho;have HB:=ab hb;have hsz:=hb.j;have hB:=ab (B4.i.trans (hb.mono hs4));have cS:=(Boxed.amB HS.i hB.i (by omega)).cell;have OM:=ab (XB HD.i hB.i HM.i);clear ho hb;by_cases hlt:k<ul
   ·have hi:(k:Int)<ul:=by omega
    obtain⟨bb,o,rfl,hbb,hc⟩:=(RU.i.Y HB.i).text hlt;have HKN:=ab (HUN.i k hlt);have SN:=ab (ajj l U k (by rw[<-HL.i];exact hlt));obtain⟨y,hy⟩:=cB (U.b k []);rw[<-hy]at hc HKN SN;clear hy hbb;have TD:=ab (show k+1<=maxLen by unfold maxLen;omega);have TJ:=ab (show(k+1)*i0.bytes<=140737488355328 from aP (iq (show k+1<=100002 by omega) HZB.i) (by omega));have BS:=ab (fun oa ob=>show w4.a.j<=((wr.alloc oa).alloc ob).a.j by simp;omega);have HGR:=ab (fun oa ob w1 (hg:((wr.alloc oa).alloc ob).d w1 (bB O k cap).ownBlock)=>((HB.i.alloc hsz oa).alloc (by simp;omega) ob).grown hg (BS.i oa ob) (fun k hk=>(HO.i.lt k hk).1));have PF:=afM l y;cases hfd:l.find? (fun x=>x.F==y)with
    | none=>
      rw[hfd]at PF;have PK:=ab PF;have HFS:=ab (show((fun s=>l.find? (fun x=>x.F==s)) y).b lY=lY by dsimp only;rw[hfd];rfl);have HFB:=ab (show((fun s=>l.find? (fun x=>x.F==s)) y).isSome=false by dsimp only;rw[hfd];rfl);clear PF;have OA:=ab (wJ (wJ HO.i (.D (Hl.mk y false 0).ay 100)) (.D (Hl.mk y false 0).ay 100));have W1:=ab (show Rd ((wr.alloc (.D (Hl.mk y false 0).ay 100)).alloc (.D (Hl.mk y false 0).ay 100)) (wr.a.j+1+1) 3 (some ⟨wr.a.j+1,0,none⟩) 1 (Hl.mk y false 0).ay.a by simpa using ZO (wr.alloc (.D (Hl.mk y false 0).ay 100)) (Hl.mk y false 0).ay 3 (Hl.J _) 100);clear hfd;go_wp2_with (first|(at_lookup;refine FD rfl _ _ rfl w.a.j _ D rfl (OM.i) _ HF.i y HKN.i rfl lY false HFS.i HFB.i ?_)|(at_builtin;refine jQ _ rfl (.tmp 43) (.tmp 45) _ rfl w4.a.j 100 i0 (.agg lY.ay) 3 i0.bytes tq HI0.i HZ0.i HZ1.i rfl HZ2.i (nG _) (.a O k cap) k (yg ((U.E k).map (Dg l))) rfl OA.i (wr.a.j+1+1) (some ⟨wr.a.j+1,0,none⟩) 1 1 (Hl.mk y false 0).ay.a rfl W1.i (by simp[Hl.ay,dA]) TD.i TJ.i (BS.i _ _) ?_;intro v1 w1 hown1 hg1 yN;have O1:=ab hown1;have G1:=ab (HGR.i _ _ _ hg1);clear hown1 hg1 yN));obtain⟨O',cap',rfl,_,_⟩:=j3 O1.i;go_roundw
      case rel=>exact⟨k+1,O',cap',by omega,rfl,by go_num,by have h1:=O1.i;have h2:=SN.i;rw[PK.i]at h2;rw[h2]at h1;exact h1,G1.i⟩
      case measure=>simp[intOf]<;>omega
    | some x=>
      rw[hfd]at PF;have PK:=ab PF;have HFS:=ab (show((fun s=>l.find? (fun x=>x.F==s)) y).b lY=x by dsimp only;rw[hfd];rfl);have HFB:=ab (show((fun s=>l.find? (fun x=>x.F==s)) y).isSome=true by dsimp only;rw[hfd];rfl);clear PF;have OA:=ab (wJ (wJ HO.i (.D (x).ay 100)) (.D (x).ay 100));have W1:=ab (show Rd ((wr.alloc (.D (x).ay 100)).alloc (.D (x).ay 100)) (wr.a.j+1+1) 3 (some ⟨wr.a.j+1,0,none⟩) 1 (x).ay.a by simpa using ZO (wr.alloc (.D (x).ay 100)) (x).ay 3 (Hl.J _) 100);clear hfd;go_wp2_with (first|(at_lookup;refine FD rfl _ _ rfl w.a.j _ D rfl (OM.i) _ HF.i y HKN.i rfl x true HFS.i HFB.i ?_)|(at_builtin;refine jQ _ rfl (.tmp 43) (.tmp 45) _ rfl w4.a.j 100 i0 (.agg lY.ay) 3 i0.bytes tq HI0.i HZ0.i HZ1.i rfl HZ2.i (nG _) (.a O k cap) k (yg ((U.E k).map (Dg l))) rfl OA.i (wr.a.j+1+1) (some ⟨wr.a.j+1,0,none⟩) 1 1 (x).ay.a rfl W1.i (by simp[Hl.ay,dA]) TD.i TJ.i (BS.i _ _) ?_;intro v1 w1 hown1 hg1 yN;have O1:=ab hown1;have G1:=ab (HGR.i _ _ _ hg1);clear hown1 hg1 yN));obtain⟨O',cap',rfl,_,_⟩:=j3 O1.i;go_roundw
      case rel=>exact⟨k+1,O',cap',by omega,rfl,by go_num,by have h1:=O1.i;have h2:=SN.i;rw[PK.i]at h2;rw[h2]at h1;exact h1,G1.i⟩
      case measure=>simp[intOf]<;>omega
   ·obtain rfl:k=ul:=by omega
    have hd:decide ((k:Int)<k)=false:=by simp
    have HDK:=ab (show wr.a[D0]? = some (.deferred (some []))by
     rw[hB.i.block D0 (bY.1 HK.i).1];exact HK.i)
    have hle:w.a.j<=W.a.j:=by omega
    have HBW:=ab (HB1.i.trans (hB.i.mono hle));have h1:=HO.i;rw[aK (by rw[<-HL.i];exact av _),<-HSY.i]at h1;have h2:(FC l names).a=k:=by rw[HSY.i,bW,<-HL.i]
    have HO1:=ab (iU h1 (aP hle hs4));have H2:=ab h2;clear h1 h2;go_wp2_with fail;refine⟨by simp,.b ⟨_,_,rfl,vC HDK.i,?_⟩⟩;rw[H2.i];exact⟨_,I4 rfl _ _ _,O,cap,rfl,ownsRow_putObj HO1.i _ HDK.i rfl,HBW.i.trans (wR (w:=w) (av _) wr D0 _ _ (by omega) HDK.i rfl rfl)⟩
 case stop=>
  rintro D0 c0 pre W _ _ h _;exact h.elim
end
end Go.Proofs.YtkjojjopamaoiaaGreat
