/- Parts. -/
import Derived.Test.YtkjojjopamaoiaaGreatXx1
import Derived.Shelf.SortM.Plain
import Derived.Shelf.SortM.SortNone
import Derived.Shelf.SlicesG.CompactS
import Derived.Sort.OwnSorted
import Derived.RangeFuncNested
import Derived.Maps.OwnIn
set_option linter.unusedSimpArgs false
set_option linter.unusedVariables false
set_option linter.unusedSectionVars false
set_option maxRecDepth 100000
set_option maxHeartbeats 8000000
open Array renaming getElem?_eq_some_iff->bW
open Go renaming Value->aC,World->au,Addr->aU,TypeId->bM,Calls->aR,SeqStopsK->wm,DataW->zY,MemPlace->tC,Program->eF
open Go.Lib renaming compact->oI,hid->ah
open Go.Op renaming bytesLess->bT
open Go.Oper renaming semAt_some->qC
open Go.Proofs.Tryz renaming prog->aj,underlying0->IE,zeroValue0->Km,underlying3->gQ,zeroValue3->Kn,underlying4->nO,zeroValue4->Ko,underlying9->iL,isAgg9->Mt,sizeOf9->I6,zeroValue9->Ca,underlying69->lK
open Go.Value renaming int->aJ,agg->bY,slice->bE
open List renaming map_take->Bf,mem_cons->bD,pairwise_cons->gL,foldr_cons->Kl,mem_cons_self->lZ,mem_cons_of_mem->jX,findIdx?_eq_some_iff_getElem->gV,getD_eq_getElem?_getD->av,getElem?_eq_getElem->aD,map_append->jh,mem_range->eH,mem_filter->mh,range->dW,eq_nil_of_length_eq_zero->bF,replicate->dU,getElem?_range->xq,ext_getElem?->iI,getElem?_map->jD,getElem?_eq_none->aT
open Nat renaming mul_one->gF,le_refl->ay,le_trans->aP,lt_of_lt_of_le->eU,lt_or_ge->bf
open UInt8 renaming lt_iff_toNat_lt->Ad,toNat_inj->lY
namespace Go.Proofs.YtkjojjopamaoiaaGreat
open Go.RowKit
section
open Go.RowKit Go.ChangeShapes Go.WideShapes Go.ChangeAt Go.Deep
structure Sp where
 fE:Int
 err:Int
deriving DecidableEq
def Sp.aA(x:Sp):Array aC:=#[aJ .i64 x.fE,aJ .i64 x.err]
theorem Sp.ak(x:Sp):x.aA.size=2:=by simp[Sp.aA]
@[go_sem]theorem Sp.eu(x:Sp):eu x.aA=2:=Sp.ak x
@[go_sem]theorem Sp.qH(x:Sp):x.aA[0]? = some (.int .i64 x.fE):=rfl
@[go_sem]theorem Sp.Il(x:Sp):x.aA[1]? = some (.int .i64 x.err):=rfl
def aG4:Sp:=⟨0,0⟩
@[go_sem]theorem aA0:bY #[aJ IntKind.i64 0,aJ IntKind.i64 0]=bY aG4.aA:=rfl
section
variable {W W':au} {p g N:Nat} {s:RS}
theorem gy.awn{w W W':au}{B n:Nat}{A:Option aU}{l:List UInt8}{k:Option Nat}(h:gy W B A n l)(hg:W.grownBy W' k)(pY:∀a,A=some a->some a.block≠k):gy W' B A n l:=by
 refine⟨h.1,fun hn=>?_⟩;obtain⟨a,hA,hb,hc⟩:=h.2 hn;refine⟨a,hA,hb,fun j u hu=>hg.cell (hc j u hu) ?_⟩;have:=pY a hA
 rwa [BJ]
end
end
theorem gy.iX{w:au}{base n c:Nat}{e:bM}{A:Option aU}{l:List UInt8}(h:w.ownsRow base e 1 (.slice A n c) n (l.map bv)):gy w w.heap.size A n l:=Rd.iX h
def ClY(w:au)(n:Nat)(l:List UInt8)(e:Ending)(w':au):Prop:=
 ∃A c,e=.returned (.slice A n c)/\w'.ownsRow w.heap.size 5 1 (.slice A n c) n (l.map bv)/\Below w.heap.size w w'
theorem akM(l:List UInt8)(A:Option aU)(n c:Nat)(w:au)(hR:gy w w.heap.size A n l)(hn:n<=1073741824):
 aR aj 268 #[.slice A n c] w (ClY w n l):=by
 have EI:=hR.len;cases A with
 | some a=>
   have GH:∀W:au,(binOp .eql 56 (.slice (some a) n c) (.slice none 0 0)).run aj W=.ok (.bool false) W:=fun W=>by
    simp only[binOp];simp[run_equal_slice_nil,Tryz.underlying56]
   obtain⟨i0,oz,mZ,nu,Ar⟩:=info_parts Mw;have wX:(aJ .u8 0).cells.size=1:=rfl;have O1:=ah (show(w.alloc (.cells #[] 5)).ownsRow w.heap.size 5 1 (.slice (some ⟨w.heap.size,0,none⟩) 0 0) 0 []from World.ownsRow_lit w #[] 0 (ay _) (by unfold maxLen;omega) rfl);have O2:=ah (hR.alloc (ay _) (.cells #[] 5));have UM:=ah (show 0+n<=maxLen by unfold maxLen;omega);have UN:=ah (show(0+n)*1<=140737488355328 by omega);have O3:=ah (show w.heap.size<=(w.alloc (.cells #[] 5)).heap.size by simp);have ON:=ah (Kr l);clear hR EI;go_enter Tryz.func268,Tryz.ntmps268;go_wp2_with (at_builtin;refine jI _ rfl (.tmp 5) (.tmp 6) _ rfl w.heap.size 5 i0 (.int .u8 0) 1 1 Tryz.underlying56 oz mZ nu Ar wX (Nat.succ_pos _) (.slice (some ⟨w.heap.size,0,none⟩) 0 0) 0 [] rfl O1.out w.heap.size (some a) n c (l.map bv) rfl O2.out ON.out UM.out UN.out O3.out ?_;intro v1 w1 kJ AA yj);obtain⟨A',c',hv,_,_⟩:=jT kJ;subst hv;simp only[Nat.zero_add,List.nil_append]at kJ;have hb:=um ((Below.refl w.heap.size w).alloc (ay _) (.cells #[] 5)) AA (ay _) O3.out;go_wp2;go_ret;exact⟨A',c',by simp,kJ,hb⟩
 | none=>
   have h0:n=0:=by
    rcases Nat.eq_zero_or_pos n with h0|h0
    ·exact h0
    ·obtain⟨a,ha,_⟩:=hR.2 h0;cases ha
   subst h0;have hl:l=[]:=bF EI;subst hl;have GH:∀W:au,(binOp .eql 56 (.slice none 0 c) (.slice none 0 0)).run aj W=.ok (.bool true) W:=fun W=>by
    simp only[binOp];simp[run_equal_slice_nil,Tryz.underlying56]
   have FIN:=ah (show ClY w 0 [] (.returned (.slice none 0 0)) w from⟨none,0,rfl,World.ownsRow_nil _ _ _ _,Below.refl _ _⟩);clear hR EI;go_enter Tryz.func268,Tryz.ntmps268;go_wp2;go_ret;exact FIN.out
theorem gy.Ti{w:au}{B n:Nat}{A:Option aU}{l:List UInt8}(h:gy w B A n l){z b c:Nat}(hz:z<=b)(hb:b<=n)(hc:n<=c):gy w B (if c=z then A else Option.map (fun x=>x.add z) A) (b-z) ((l.drop z).take (b-z)):=by
 have h1:=Rd.cut h (k:=z) (cap:=c) (by omega) hc;have h2:=Rd.upto h1 (k:=b-z) (by omega);rw[gF,gF]at h2;unfold gy;rw[Bf,List.map_drop];exact h2
theorem gy.from{w:au}{B n:Nat}{A:Option aU}{l:List UInt8}(h:gy w B A n l){z c:Nat}(hz:z<=n)(hc:n<=c):gy w B (if c=z then A else Option.map (fun x=>x.add z) A) (n-z) (l.drop z):=by
 have h1:=Rd.cut h (k:=z) (cap:=c) hz hc;rw[gF]at h1;unfold gy;rw[List.map_drop];exact h1
structure jE(F:List Nat)(w w':au):Prop where
 os:w'.os=w.os
 tape:w'.tape=w.tape
 output:w'.output=w.output
 size:w.heap.size<=w'.heap.size
 block:∀k,k<w.heap.size->k∉F->w'.heap[k]? = w.heap[k]?
theorem jE.refl(F:List Nat)(w:au):jE F w w:=⟨rfl,rfl,rfl,ay _,fun _ _ _=>rfl⟩
theorem jE.jq{F:List Nat}{w w':au}(h:Below w.heap.size w w'):jE F w w':=⟨h.os,h.tape,h.output,h.size,fun k hk _=>h.block k hk⟩
theorem jE.WE{F:List Nat}{w w':au}{g:Option Nat}(h:w.grownBy w' g)(hg:∀k,g=some k->k∈F\/w.heap.size<=k):jE F w w':=
 ⟨h.os,h.tape,h.output,h.size,fun k hk hn=>h.block k hk (fun e=>by rcases hg k e.symm with h|h;exact hn h;omega)⟩
theorem jE.trans{F F':List Nat}{a b c:au}(h:jE F a b)(k:jE F' b c)(hF:∀g∈F',g∈F\/a.heap.size<=g):jE F a c:=
 ⟨k.os.trans h.os,k.tape.trans h.tape,k.output.trans h.output,aP h.size k.size,fun i hi hn=>(k.block i (eU hi h.size) (fun hm=>by rcases hF i hm with h|h;exact hn h;omega)).trans (h.block i hi hn)⟩
theorem jE.qh{F:List Nat}{a b c:au}(h:jE F a b)(k:jE F b c):jE F a c:=h.trans k (fun g hg=>.inl hg)
theorem jE.grown{F:List Nat}{a b c:au}{g:Option Nat}(h:jE F a b)(k:b.grownBy c g)(hg:∀j,g=some j->j∈F\/a.heap.size<=j):jE F a c:=
 ⟨k.os.trans h.os,k.tape.trans h.tape,k.output.trans h.output,aP h.size k.size,fun i hi hn=>(k.block i (eU hi h.size) (fun e=>by rcases hg i e.symm with h|h;exact hn h;omega)).trans (h.block i hi hn)⟩
theorem jE.below{F:List Nat}{a b c:au}{B:Nat}(h:jE F a b)(k:Below B b c)(hB:a.heap.size<=B):jE F a c:=
 ⟨k.os.trans h.os,k.tape.trans h.tape,k.output.trans h.output,aP h.size k.size,fun i hi hn=>(k.block i (by omega)).trans (h.block i hi hn)⟩
theorem jE.set{F:List Nat}{a b:au}(h:jE F a b)(p:aU)(u:aC)(hp:p.block∈F\/a.heap.size<=p.block):jE F a (b.setCell p u):=
 ⟨h.os,h.tape,h.output,by simpa[World.setCell]using h.size,fun i hi hn=>(Below.heap_setCell b p u i (fun e=>by subst e;rcases hp with h|h;exact hn h;omega)).trans (h.block i hi hn)⟩
theorem jE.alloc{F:List Nat}{a b:au}(h:jE F a b)(o:Obj):jE F a (b.alloc o):=
 ⟨h.os,h.tape,h.output,aP h.size (by simp),fun i hi hn=>(Below.heap_alloc b o i (eU hi h.size)).trans (h.block i hi hn)⟩
theorem jE.drewN{F:List Nat}{a b:au}(h:jE F a b)(n:Nat):jE F a (b.drewN n):=⟨h.os,h.tape,h.output,h.size,h.block⟩
theorem jE.rT{F:List Nat}{B:Nat}{a b:au}(h:jE F a b)(hF:∀g∈F,B<=g)(hB:B<=a.heap.size):Below B a b:=
 ⟨h.os,h.tape,h.output,h.size,fun i hi=>h.block i (by omega) (fun hm=>by have:=hF i hm;omega)⟩
theorem jE.lF{F F':List Nat}{a b:au}(h:jE F a b)(hF:∀g∈F,g∈F'):jE F' a b:=⟨h.os,h.tape,h.output,h.size,fun i hi hn=>h.block i hi (fun hm=>hn (hF i hm))⟩
theorem jE.box{F:List Nat}{a b:au}(h:jE F a b){k:Nat}{c:Array aC}(hB:dL a k c)(hk:k∉F):dL b k c:=by
 have hl:=hB.lt;obtain⟨t,ht⟩:=hB;exact⟨t,by rw[h.block k hl hk];exact ht⟩
section
open Go.RowKit Go.ChangeShapes Go.WideShapes Go.ChangeAt Go.Deep
theorem sP:∀a:List UInt8,bT a a=false
 | []=>rfl
 | x::a=>by rw[bT,sP a];simp
theorem yK:∀a b c:List UInt8,bT a b=true->bT b c=true->bT a c=true
 | _,[],_,h,_=>by cases ‹List UInt8› <;> simp[bT]at h
 | _,_::_,[],_,h=>by simp[bT]at h
 | [],_::_,_::_,_,_=>rfl
 | x::a,y::b,z::c,h1,h2=>by
   have ih:=yK a b c;simp only[bT,Bool.or_eq_true,Bool.and_eq_true,decide_eq_true_eq,beq_iff_eq,Ad,<-lY]at h1 h2 ⊢;rcases h1 with h1|⟨h1,h3⟩<;>rcases h2 with h2|⟨h2,h4⟩
   ·exact .inl (by omega)
   ·exact .inl (by omega)
   ·exact .inl (by omega)
   ·exact .inr ⟨by omega,ih h3 h4⟩
theorem Ai:∀a b:List UInt8,bT a b=false->bT b a=false->a=b
 | [],[],_,_=>rfl
 | [],_::_,h,_=>by simp[bT]at h
 | _::_,[],_,h=>by simp[bT]at h
 | x::a,y::b,h1,h2=>by
   have ih:=Ai a b;simp only[bT,Bool.or_eq_false_iff,Bool.and_eq_false_iff,decide_eq_false_iff_not,beq_eq_false_iff_ne,Ad,ne_eq,<-lY]at h1 h2;have e:x.toNat=y.toNat:=by omega
   have e2:=lY.1 e;rw[e2,ih (h1.2.resolve_left (fun h=>h e)) (h2.2.resolve_left (fun h=>h e.symm))]
theorem an7{a b:List UInt8}(h:bT a b=true):bT b a=false:=by
 cases hc:bT b a
 ·rfl
 ·have:=yK _ _ _ h hc;rw[sP]at this;cases this
def ag1(ls:List (List UInt8)):Prop:=ls.Pairwise (fun a b=>bT a b=true)
def WG(s:List UInt8):List (List UInt8)->List (List UInt8)
 | []=>[s]
 | x::r=>if bT s x then s::x::r else if bT x s then x::WG s r else x::r
def IL(names:List (List UInt8)):List (List UInt8):=names.foldr WG []
theorem WH(s y:List UInt8):∀l,y∈WG s l↔y=s\/y∈l
 | []=>by simp[WG]
 | x::r=>by
   unfold WG;split
   ·simp
   ·split
    ·rw[bD,WH s y r,bD]
     constructor
     ·rintro(h|h|h)
      ·exact .inr (.inl h)
      ·exact .inl h
      ·exact .inr (.inr h)
     ·rintro(h|h|h)
      ·exact .inr (.inl h)
      ·exact .inl h
      ·exact .inr (.inr h)
    ·rename_i h1 h2
     have:=Ai s x (by simpa using h1) (by simpa using h2);subst this;simp
theorem aeu(s:List UInt8):∀l,ag1 l->ag1 (WG s l)
 | [],_=>List.pairwise_singleton _ _
 | x::r,h=>by
   unfold WG;obtain⟨h1,h2⟩:=gL.1 h;split
   ·rename_i hs
    refine gL.2 ⟨fun y hy=>?_,h⟩;rcases bD.1 hy with rfl|hy
    ·exact hs
    ·exact yK _ _ _ hs (h1 y hy)
   ·split
    ·rename_i hs hx
     refine gL.2 ⟨fun y hy=>?_,aeu s r h2⟩;rcases(WH s y r).1 hy with rfl|hy
     ·exact hx
     ·exact h1 y hy
    ·exact h
theorem WI(s:List UInt8):∀names,s∈IL names↔s∈names
 | []=>by simp[IL]
 | x::r=>by
   have ih:=WI s r;unfold IL at ih ⊢;rw[Kl,WH,ih,bD]
theorem aev:∀names,ag1 (IL names)
 | []=>List.Pairwise.nil
 | x::r=>by
   have ih:=aev r;unfold IL at ih ⊢;rw[Kl];exact aeu _ _ ih
theorem aew(s:List UInt8):∀l,(WG s l).length<=l.length+1
 | []=>by simp[WG]
 | x::r=>by
   have:=aew s r;unfold WG;split
   ·simp
   ·split
    ·simp;omega
    ·simp
theorem aex:∀names,(IL names).length<=names.length
 | []=>by simp[IL]
 | x::r=>by
   have ih:=aex r;have:=aew x (IL r);unfold IL at ih this ⊢;rw[Kl,List.length_cons];omega
theorem WJ:∀P Q:List (List UInt8),ag1 P->ag1 Q->(∀s,s∈P↔s∈Q)->P=Q
 | [],[],_,_,_=>rfl
 | [],y::Q,_,_,h=>by have:=(h y).2 (lZ ..);cases this
 | x::P,[],_,_,h=>by have:=(h x).1 (lZ ..);cases this
 | x::P,y::Q,hP,hQ,h=>by
   obtain⟨p1,p2⟩:=gL.1 hP;obtain⟨q1,q2⟩:=gL.1 hQ;have e:x=y:=by
    rcases bD.1 ((h x).1 (lZ ..))with h1|h1
    ·exact h1
    ·rcases bD.1 ((h y).2 (lZ ..))with h2|h2
     ·exact h2.symm
     ·have a:=q1 x h1
      have b:=p1 y h2;have:=yK _ _ _ a b;rw[sP]at this;cases this
   subst e;congr 1;refine WJ P Q p2 q2 (fun s=>?_);constructor
   ·intro hs
    rcases bD.1 ((h s).1 (jX _ hs))with rfl|h1
    ·have:=p1 s hs;rw[sP]at this;cases this
    ·exact h1
   ·intro hs
    rcases bD.1 ((h s).2 (jX _ hs))with rfl|h1
    ·have:=q1 s hs;rw[sP]at this;cases this
    ·exact h1
end
def Cm(l:List Hl)(s:List UInt8):Hl:=if Ae l s<0 then⟨s,false,0⟩else l.getD (Ae l s).toNat lG
theorem ag2(l:List Hl)(s:List UInt8):(Cm l s).name=s:=by
 unfold Cm;split
 ·rfl
 ·rename_i h
  unfold Ae at h ⊢;cases hf:l.findIdx? (fun x=>x.name==s)with
  | none=>rw[hf]at h;simp at h
  | some i=>
    obtain⟨hi,hn,_⟩:=gV.1 hf;simp only[Int.toNat_natCast];rw[av,aD hi];simpa using hn
def Fq(l:List Hl)(names:List (List UInt8)):List Hl:=(IL names).map (Cm l)
def auC:aC->Nat
 | .slice _ n _=>n
 | _=>0
theorem akN(l:List Hl)(U:List (List UInt8))(k:Nat)(hk:k<U.length):xG ((U.take k).map (Cm l))++(Cm l (U.getD k [])).aA.toList=xG ((U.take (k+1)).map (Cm l)):=by
 rw[aeg,<-oK [] U k hk,jh];rfl
def WK:Go.Shelf.Ren:=⟨fun|6=>214|8=>219|9=>274|19=>283|20=>284|21=>319|22=>320|23=>321|24=>322|25=>323|26=>324|27=>325|28=>326|29=>327|36=>355|31=>329|32=>330|37=>356|38=>357|39=>358|41=>370|n=>n,fun|27=>69|29=>9|3=>3|32=>259|26=>69|0=>0|44=>323|46=>92|4=>4|36=>352|35=>351|41=>158|5=>5|9=>9|53=>388|57=>392|63=>410|64=>152|n=>n,fun|n=>n⟩
theorem WL:Go.Proofs.SlLaysM.n6 aj WK:={
 mixed:=by kernel_rfl,
 f6:=⟨Tryz.f214.name,by decide,Tryz.func214.trans (congrArg some (by kernel_rfl))⟩,
 f8:=Tryz.func219.trans (congrArg some (by kernel_rfl)),
 f9:=⟨Tryz.f274.name,by decide,Tryz.func274.trans (congrArg some (by kernel_rfl))⟩,
 f19:=Tryz.func283.trans (congrArg some (by kernel_rfl)),
 f20:=Tryz.func284.trans (congrArg some (by kernel_rfl)),
 f21:=⟨Tryz.f319.name,by decide,Tryz.func319.trans (congrArg some (by kernel_rfl))⟩,
 f22:=⟨Tryz.f320.name,by decide,Tryz.func320.trans (congrArg some (by kernel_rfl))⟩,
 f23:=⟨Tryz.f321.name,by decide,Tryz.func321.trans (congrArg some (by kernel_rfl))⟩,
 f24:=⟨Tryz.f322.name,by decide,Tryz.func322.trans (congrArg some (by kernel_rfl))⟩,
 f25:=⟨Tryz.f323.name,by decide,Tryz.func323.trans (congrArg some (by kernel_rfl))⟩,
 f26:=⟨Tryz.f324.name,by decide,Tryz.func324.trans (congrArg some (by kernel_rfl))⟩,
 f27:=⟨Tryz.f325.name,by decide,Tryz.func325.trans (congrArg some (by kernel_rfl))⟩,
 f28:=⟨Tryz.f326.name,by decide,Tryz.func326.trans (congrArg some (by kernel_rfl))⟩,
 f29:=⟨Tryz.f327.name,by decide,Tryz.func327.trans (congrArg some (by kernel_rfl))⟩,
 f31:=Tryz.func329.trans (congrArg some (by kernel_rfl)),
 f32:=Tryz.func330.trans (congrArg some (by kernel_rfl)),
 f36:=⟨Tryz.f355.name,by decide,Tryz.func355.trans (congrArg some (by kernel_rfl))⟩,
 f37:=⟨Tryz.f356.name,by decide,Tryz.func356.trans (congrArg some (by kernel_rfl))⟩,
 f38:=⟨Tryz.f357.name,by decide,Tryz.func357.trans (congrArg some (by kernel_rfl))⟩,
 f39:=⟨Tryz.f358.name,by decide,Tryz.func358.trans (congrArg some (by kernel_rfl))⟩,
 f41:=⟨Tryz.f370.name,by decide,Tryz.func370.trans (congrArg some (by kernel_rfl))⟩,
 t0:=IE,
 a0:=Tryz.isAgg0,
 z0:=Tryz.sizeOf0,
 v0:=Km,
 t3:=gQ,
 a3:=Tryz.isAgg3,
 z3:=Tryz.sizeOf3,
 v3:=Kn,
 t4:=nO,
 a4:=Tryz.isAgg4,
 z4:=Tryz.sizeOf4,
 v4:=Ko,
 t5:=Tryz.underlying5,
 a5:=Tryz.isAgg5,
 z5:=Tryz.sizeOf5,
 v5:=Tryz.zeroValue5,
 t9:=iL,
 a9:=Mt,
 z9:=I6,
 v9:=Ca,
 t26:=lK,
 a26:=Tryz.isAgg69,
 z26:=Tryz.sizeOf69,
 v26:=Tryz.zeroValue69,
 t27:=lK,
 a27:=Tryz.isAgg69,
 z27:=Tryz.sizeOf69,
 v27:=Tryz.zeroValue69,
 t29:=iL,
 a29:=Mt,
 z29:=I6,
 v29:=Ca,
 t32:=Tryz.underlying259,
 a32:=Tryz.isAgg259,
 z32:=Tryz.sizeOf259,
 v32:=Tryz.zeroValue259,
 t35:=Tryz.underlying351,
 a35:=Tryz.isAgg351,
 z35:=Tryz.sizeOf351,
 v35:=Tryz.zeroValue351,
 t36:=Tryz.underlying352,
 a36:=Tryz.isAgg352,
 z36:=Tryz.sizeOf352,
 v36:=Tryz.zeroValue352,
 t41:=Tryz.underlying158,
 a41:=Tryz.isAgg158,
 z41:=Tryz.sizeOf158,
 v41:=Tryz.zeroValue158,
 t44:=Tryz.underlying323,
 a44:=Tryz.isAgg323,
 z44:=Tryz.sizeOf323,
 v44:=Tryz.zeroValue323,
 t46:=Tryz.underlying92,
 a46:=Tryz.isAgg92,
 z46:=Tryz.sizeOf92,
 v46:=Tryz.zeroValue92,
 t53:=Tryz.underlying388,
 a53:=Tryz.isAgg388,
 z53:=Tryz.sizeOf388,
 v53:=Tryz.zeroValue388,
 t57:=Tryz.underlying392,
 a57:=Tryz.isAgg392,
 z57:=Tryz.sizeOf392,
 v57:=Tryz.zeroValue392,
 t63:=Tryz.underlying410,
 a63:=Tryz.isAgg410,
 z63:=Tryz.sizeOf410,
 v63:=Tryz.zeroValue410,
 t64:=Tryz.underlying152,
 a64:=Tryz.isAgg152,
 z64:=Tryz.sizeOf152,
 v64:=Tryz.zeroValue152}
def Rn:Go.Shelf.Ren:=⟨fun|44=>144|n=>n,fun|25=>69|26=>9|3=>3|4=>4|0=>0|n=>n,fun|n=>n⟩
theorem OI:Go.Proofs.SlLaysN.n44 aj Rn:={
 mixed:=by kernel_rfl,
 f44:=⟨Tryz.f144.name,by decide,Tryz.func144.trans (congrArg some (by kernel_rfl))⟩,
 t0:=IE,
 a0:=Tryz.isAgg0,
 z0:=Tryz.sizeOf0,
 v0:=Km,
 t3:=gQ,
 a3:=Tryz.isAgg3,
 z3:=Tryz.sizeOf3,
 v3:=Kn,
 t4:=nO,
 a4:=Tryz.isAgg4,
 z4:=Tryz.sizeOf4,
 v4:=Ko,
 t25:=lK,
 a25:=Tryz.isAgg69,
 z25:=Tryz.sizeOf69,
 v25:=Tryz.zeroValue69,
 t26:=iL,
 a26:=Mt,
 z26:=I6,
 v26:=Ca,
 i26:=by kernel_rfl}
theorem Co(l:List (List UInt8)):wC l=l.map encStr:=by
 unfold wC
 induction l with
 | nil=>rfl
 | cons x l ih=>rw[List.flatMap_cons,ih];rfl
def IQ(l:List (List UInt8)):List (List UInt8):=l.mergeSort fun x y=>decide (x<=y)
theorem ai9(x y:List UInt8):decide (x<=y) = !bT y x:=by
 rw[bytesLess_eq,Bool.eq_iff_iff];simp
theorem OL(l:List (List UInt8)):(IQ l).length=l.length:=List.length_mergeSort _
theorem an8(s:List UInt8)(l:List (List UInt8)):s∈IQ l↔s∈l:=List.mem_mergeSort
theorem JE{a b c:List UInt8}(h1:bT b a=false)(h2:bT c b=false):bT c a=false:=by
 cases hc:bT c a
 ·rfl
 ·exfalso
  cases hb:bT a b
  ·have:=Ai _ _ hb h1
   subst this;rw[hc]at h2;cases h2
  ·have:=yK _ _ _ hc hb
   rw[this]at h2;cases h2
theorem ar2(l:List (List UInt8)):(IQ l).Pairwise (fun x y=>bT y x=false):=by
 have h:=List.pairwise_mergeSort (le:=fun x y:List UInt8=>decide (x<=y)) (fun a b c h1 h2=>by
  rw[ai9]at h1 h2 ⊢;simp only[Bool.not_eq_true']at h1 h2 ⊢;exact JE h1 h2) (fun a b=>by
  rw[ai9,ai9];cases h1:bT b a
  ·rfl
  ·rw[an7 h1];rfl) l
 refine h.imp ?_;intro a b EH;rw[ai9]at EH;simpa using EH
theorem ai'{l:List (List UInt8)}{i j:Nat}(SE:i<=j)(hj:j<l.length):bT ((IQ l).toArray[j]!) ((IQ l).toArray[i]!)=false:=by
 have hl:=OL l;rw[getElem!_pos _ j (by simp;omega),getElem!_pos _ i (by simp;omega)];simp only[List.getElem_toArray];rcases bf i j with h|h
 ·exact List.pairwise_iff_getElem.1 (ar2 l) i j (by omega) (by omega) h
 ·have:i=j:=by omega
  subst this;exact sP _
theorem aey(zs:List (List UInt8))(s:List UInt8):s∈oI zs↔s∈zs:=by
 unfold oI Lib.compactUpTo;rw[List.mem_map];constructor
 ·rintro⟨j,hj,rfl⟩
  have hj2:=eH.1 (mh.1 hj).1;rw[getElem!_pos _ j (by simpa using hj2)];simp
 ·intro hs
  obtain⟨j0,hj0,he0⟩:=List.getElem_of_mem hs;have key:∀k,∀j (hj:j<zs.length),j<=k->zs[j]=s->∃i,i<zs.length/\Lib.keeps zs.toArray i=true/\zs.toArray[i]! = s:=by
   intro k
   induction k with
   | zero=>
     intro j hj hjk he;obtain rfl:j=0:=by omega
     refine⟨0,hj,by simp[Lib.keeps],?_⟩;rw[getElem!_pos _ 0 (by simpa using hj)];simpa using he
   | succ k ih=>
     intro j hj hjk he;by_cases hk:j=0\/zs.toArray[j]!≠zs.toArray[j-1]!
     ·refine⟨j,hj,by simp only[Lib.keeps];exact decide_eq_true hk,?_⟩
      rw[getElem!_pos _ j (by simpa using hj)];simpa using he
     ·have h1:j≠0:=fun h=>hk (.inl h)
      have h2:zs.toArray[j]! = zs.toArray[j-1]!:=Classical.byContradiction fun h=>hk (.inr h)
      rw[getElem!_pos _ j (by simpa using hj),getElem!_pos _ (j-1) (by simp;omega)]at h2;simp only[List.getElem_toArray]at h2;exact ih (j-1) (by omega) (by omega) (by rw[<-h2];exact he)
  obtain⟨i,hi,hk,he⟩:=key j0 j0 hj0 (ay _) he0;exact⟨i,mh.2 ⟨eH.2 hi,hk⟩,he⟩
theorem aez(l:List (List UInt8)):ag1 (oI (IQ l)):=by
 unfold ag1 oI Lib.compactUpTo;rw[List.pairwise_map];have hp:((dW (IQ l).length).filter (Lib.keeps (IQ l).toArray)).Pairwise (fun a b=>a<b):=List.Pairwise.filter _ List.pairwise_lt_range;refine(List.Pairwise.and_mem.1 hp).imp ?_;rintro a b ⟨ha,hb,EH⟩;obtain⟨gI,kF⟩:=mh.1 hb;have Jp:=eH.1 gI;rw[OL]at Jp;simp only[Lib.keeps,decide_eq_true_eq]at kF;have pY:=kF.resolve_left (by omega);have h1:=ai' (l:=l) (show a<=b-1 by omega) (by omega);have h2:=ai' (l:=l) (show b-1<=b by omega) Jp;cases hc:bT ((IQ l).toArray[a]!) ((IQ l).toArray[b]!)
 ·exfalso
  have h3:=JE h1 h2;have e:=Ai _ _ hc h3;have h4:bT ((IQ l).toArray[b-1]!) ((IQ l).toArray[b]!)=false:=by rw[<-e];exact h1
  exact pY (Ai _ _ h2 h4)
 ·rfl
theorem OO(l:List (List UInt8)):oI (IQ l)=IL l:=
 WJ _ _ (aez l) (aev l) (fun s=>by rw[aey,an8,WI])
theorem akO(base:Nat)(names:List (List UInt8))(A:Option aU)(n c:Nat)(w:au)(hn:n<=100000)(hl:names.length=n)(h:w.ownsRow base 9 1 (.slice A n c) n (wC names)):
 aR aj 214 #[.slice A n c] w fun e w'=>e=.returned (.tuple #[])/\w'.ownsRow base 9 1 (.slice A n c) n (wC (IQ names))/\w.grownBy w' (bE A n c).ownBlock:=by
 subst hl;rcases h.2 with⟨hv,h0⟩|⟨g,cap,cur,hv,h2,h3,h4,h5,h6,h7⟩
 ·injection hv with e1 e2 e3
  subst e1 e3;have GH:names=[]:=bF h0;subst GH;refine(AnyM.slices_Sort_string_none WL none 0 w).mono ?_;rintro e w' ⟨rfl,rfl⟩;refine⟨rfl,?_,World.grownBy.refl _ _⟩;rw[show IQ []=[]by simp[IQ]];exact h
 ·injection hv with e1 e2 e3
  subst e1 e3;have hg:g<w.heap.size:=(bW.1 h3).1;rw[gF]at h7;have hH:Go.Sort.Holds encStr w g 0 names.toArray:=Go.holds_of_block h3 (by rw[h7,Co]);refine(AnyM.slices_Sort_string WL g 0 c names w hH hg (by omega)).mono ?_;rintro e w' ⟨rfl,nn,os,rfl⟩;refine⟨rfl,?_,Go.grownBy_sorted _⟩;rw[Co];exact Go.ownsRow_sorted (ss:=names) (OL names) h2 h3 h4 h5 h6
theorem ab3(base:Nat)(zs:List (List UInt8))(A:Option aU)(n c:Nat)(w:au)(hn:n<=100000)(hl:zs.length=n)(h:w.ownsRow base 9 1 (.slice A n c) n (wC zs))(m:Nat)(hm:(oI zs).length=m):
 aR aj 144 #[.slice A n c] w fun e w'=>e=.returned (.slice A m c)/\w'.ownsRow base 9 1 (.slice A m c) m (wC (oI zs))/\w.grownBy w' (bE A n c).ownBlock:=by
 subst hl hm;rcases h.2 with⟨hv,h0⟩|⟨g,cap,cur,hv,h2,h3,h4,h5,h6,h7⟩
 ·injection hv with e1 e2 e3
  subst e1 e3;have GH:zs=[]:=bF h0;subst GH;refine(AnyG.slices_Compact_string_empty OI none 0 w).mono ?_;rintro e w' ⟨rfl,rfl⟩;exact⟨rfl,h,World.grownBy.refl _ _⟩
 ·injection hv with e1 e2 e3
  subst e1 e3;rw[gF]at h7;have hH:Go.Sort.Holds encStr w g 0 zs.toArray:=Go.holds_of_block h3 (by rw[h7,Co]);refine(AnyG.slices_Compact_string OI g 0 c zs w hH (by omega) h4).mono ?_;rintro e w' ⟨rfl,q,rfl⟩;have hle:(oI zs).length<=zs.length:=by
   unfold oI Lib.compactUpTo;rw[List.length_map];exact aP (List.length_filter_le _ _) (by simp)
  have hs:=Go.ownsRow_sorted (n:=q) (os:=#[]) (e:=9) (base:=base) (w:=w) (g:=g) (cap:=c) (cur:=cur) (ss:=zs) (ts:=oI zs++dU (zs.length-(oI zs).length) []) (by simp;omega) h2 h3 h4 h5 h6;have hg:=Go.grownBy_sorted (w:=w) (g:=g) (n:=q) (os:=#[]) (oI zs++dU (zs.length-(oI zs).length) []).toArray;rw[Go.Sort.grow_empty]at hs hg;refine⟨rfl,⟨by rw[Co];simp,.inr ?_⟩,hg⟩;rcases hs.2 with⟨hv,_⟩|⟨g',Ls,aG6,hv,k2,k3,k4,k5,k6,k7⟩
  ·cases hv
  ·injection hv with e1 _ e3
   injection e1 with e1
   injection e1 with e1
   subst e1 e3;refine⟨g,c,aG6,rfl,k2,k3,by omega,k5,k6,?_⟩;rw[gF]at k7 ⊢;have:=congrArg (List.take (oI zs).length) k7;rw[List.take_take,Nat.min_eq_left hle]at this;rw[this,Co,jh,List.take_left' (by simp)]
section
open Go.RowKit Go.Shelf
attribute [local go_sem] qC
theorem ag3(F:Fence)(n:Nat)(hf:F.fn 215)(Lx:F.round=none)(hn:1<=n)(l Bs n₀:Nat)(A:Option aU)(len cap:Nat)(zs:List (List UInt8))(hlen:len<=100000)(J Jx:List (List UInt8)->au->Prop)
 (hY:∀pre x W,J pre W->pre.length<len->YieldAt F (n-1) aj l #[.string (bV x)] W fun e W'=>
  (e=.returned (.bool true)/\J (pre++[x]) W'/\Below n₀ W W')\/(e=.returned (.bool false)/\Jx (pre++[x]) W'))
 (W:au) (Ro:W.cell? ⟨Bs,0,none⟩=some (.slice A len cap)) (hR:RdT W n₀ A len zs) (h0:J [] W) :
 CallsIn F n aj 215 #[.func (.yield l) #[] #[],.pointer (some ⟨Bs,0,none⟩)] W fun e W'=>(∃v,e=.returned v) /\
  ((∃ys,ys=zs/\J ys W')\/(∃pre,pre <+: zs/\Jx pre W')):=by
 have hzl:=hR.1;refine callsIn_of_wp Tryz.func215 rfl hf ?_ Lx;simp only[Tryz.ntmps215,List.size_toArray,List.length_cons,List.length_nil,Nat.reduceAdd,Nat.reduceSub,Array.replicate_succ,Array.replicate_zero,List.push_toArray,List.append_toArray,List.nil_append,List.cons_append];gi_wp2;gi_loopw [7] (fun i wr=>∃k:Nat,k<=len/\i=.int .i64 k/\J (zs.take k) wr/\Below n₀ W wr)
  (fun i _=>len-(intOf i).toNat)
 case atStart=>exact⟨0,Nat.zero_le _,rfl,h0,Below.refl _ _⟩
 case round=>
  obtain⟨k,hk,rfl,hJs,MP⟩:=hrel;by_cases fP:k<len
  ·have KO:(k:Int)<len:=by omega
   obtain⟨b,o,rfl,Cb,hc⟩:=(hR.below MP).text fP;obtain⟨x,hx⟩:∃x,x=zs.getD k []:=⟨_,rfl⟩
   rw[<-hx]at hc;have hsn:zs.take k++[x]=zs.take (k+1):=by rw[hx];exact oK [] zs k (by omega)
   have Ej:=ah hsn;clear hx hsn Cb;obtain⟨fn,tmps,assign,body,hy,hRd⟩:=hY _ x wr hJs (by rw[List.length_take];omega);gi_wp2;refine hRd.mono ?_;rintro e W3 (⟨rfl,hJ3,hk3⟩|⟨rfl,WM⟩)
   ·gi_wp2
    go_roundw
    case rel=>exact⟨k+1,by omega,by simp,by rw[<-Ej.out];exact hJ3,MP.trans hk3⟩
    case measure=>simp[intOf];omega
   ·gi_wp2
    refine bodyPost_ret (results_none rfl _ _ _) rfl ?_;exact⟨⟨_,rfl⟩,.inr ⟨_,by rw[Ej.out];exact List.take_prefix _ _,WM⟩⟩
  ·obtain rfl:k=len:=by omega
   have hd:decide ((k:Int)<k)=false:=by simp
   gi_wp2;go_end0;exact⟨⟨_,rfl⟩,.inl ⟨_,List.take_of_length_le (by omega),hJs⟩⟩
theorem ag4(A:Option aU)(len cap:Nat)(w:au):
 aR aj 146 #[.slice A len cap] w fun e w'=>e=.returned (.func (.func 215) #[] #[.pointer (some ⟨w.heap.size,0,none⟩)])/\w.alloc (.cells #[.slice A len cap] 69)=w':=by
 go_enter Tryz.func146,Tryz.ntmps146;go_wp2;go_ret;exact⟨rfl,rfl⟩
theorem ab5(F:Fence)(n:Nat)(hf:F.fn 215)(Lx:F.round=none)(hn:1<=n)(Bs n₀:Nat)(A:Option aU)(len cap:Nat)(zs:List (List UInt8))(hlen:len<=100000)(w:au)(Ro:Bs<w.heap.size)(Cq:n₀<=w.heap.size)
 (hc:w.cell? ⟨Bs,0,none⟩=some (.slice A len cap)) (hR:RdT w n₀ A len zs) :
 wm F n aj 215 #[.pointer (some ⟨Bs,0,none⟩)] (fun x:List UInt8=>#[Value.string (bV x)]) (Below n₀) (fun ys=>ys=zs) (fun pre=>pre <+: zs) len w:=fun l J Jx W hW _ _ hY h0=>by
 have hc':=(hW.cell (p:=⟨Bs,0,none⟩) Ro).trans hc;exact ag3 F n hf Lx hn l Bs n₀ A len cap zs hlen J Jx hY W hc' (hR.to hW Cq) h0
theorem ab6(F:Fence)(n:Nat)(h3:F.fn 273)(h5:F.fn 215)(Lx:F.round=none)(hn:3<=n)(Bs:Nat)(A:Option aU)(len cap:Nat)(zs:List (List UInt8))(hlen:len<=100000)(w:au)(Ro:Bs<w.heap.size)
 (hc:w.cell? ⟨Bs,0,none⟩=some (.slice A len cap)) (hR:RdT w w.heap.size A len zs) :
 CallsIn F n aj 273 #[.slice none 0 0,.func (.func 215) #[] #[.pointer (some ⟨Bs,0,none⟩)]] w fun e W'=>
  ∃A' c',e=.returned (.slice A' len c')/\W'.ownsRow w.heap.size 9 1 (.slice A' len c') len (wC zs)/\Below w.heap.size w W':=by
 have h1:1<=n:=by omega
 have hzl:=hR.1;obtain⟨i0,hi,mZ,nu,Ar⟩:=abo;refine callsIn_of_wp_marks Tryz.func273 rfl h3 ?_ Lx;simp only[Tryz.ntmps273,List.size_toArray,List.length_cons,List.length_nil,Nat.reduceAdd,Nat.reduceSub,Array.replicate_succ,Array.replicate_zero,List.push_toArray,List.append_toArray,List.nil_append,List.cons_append];gi_wp2;have bO:=Boxed.new w 69 (.slice none 0 0);have Ur:Below w.heap.size w (w.alloc (.cells #[.slice none 0 0] 69)):=(Below.refl _ w).alloc (ay _) _;refine wpIn_rangeFunc_ownG Lx h1 (gf:=215) (lb:=#[.pointer (some ⟨Bs,0,none⟩)]) rfl h5 (enters_of Tryz.func215 (by kernel_rfl) rfl)
  (ab5 F (n-1) h5 Lx (by omega) Bs w.heap.size A len cap zs hlen _ (by simp;omega) (by simp) ((Ur.cell (p:=⟨Bs,0,none⟩) Ro).trans hc) (hR.below Ur)) belowK_t (belowK_b (by simp)) (Below.refl _ _) (fun _=>rfl)
  (fun pre W=>(∃v,Boxed W w.heap.size 69 v/\W.ownsRow w.heap.size 9 1 v pre.length (wC pre)/\True)/\Below w.heap.size w W)
  (fun _ _ _=>False)
  (OwnFrom.and (Own.from (holdsRow_own w.heap.size w.heap.size 69 9 1 (fun pre=>pre.length) (fun pre=>wC pre) (fun _ _=>True)) _) (ownFrom_below (ay _) (by simp)))
  (fun _ _ _ _ _ hs _ _=>hs)
  ⟨⟨_,bO,World.ownsRow_nil _ _ _ _,trivial⟩,Ur⟩
  (fun x=>{tmps:=#[.slice none 0 0,.func (.func 215) #[] #[.pointer (some ⟨Bs,0,none⟩)],.pointer (some ⟨w.heap.size,0,none⟩),undef,.slice none 0 0,.string (bV x),.func (.func 215) #[] #[.pointer (some ⟨Bs,0,none⟩)],.string (bV x),undef,undef,undef,undef,undef],defers:=[]}) ?assign ?body ?done ?stop
 case assign=>
  intro l x W K hK;gi_wp2;exact hK
 case body=>
  rintro l pre x W ⟨⟨v,hv,nH,_⟩,hB⟩ fP;have hcv:=hv.cell;have hby:(pre.length+1)*i0.bytes<=140737488355328:=aP (Nat.mul_le_mul (show pre.length+1<=100002 by omega) Ar) (by omega);gi_wp2_with (gi_at_builtin;refine wpListIn_append_own _ rfl _ _ 69 rfl w.heap.size 9 i0 (.string ⟨#[]⟩) 1 i0.bytes lK hi mZ nu rfl rfl (by decide) _ _ _ rfl (nH.alloc _) ⟨W.heap.size,0,none⟩ 1 1 [.string (bV x)] rfl rfl (cell_one_new _ _ _) (by simp[Value.oneCell']) (by unfold maxLen;omega) hby (by have:=hB.size;simp;omega) ?_;intro v' w1 Ip WO _;obtain⟨g',Ls,rfl⟩:=ownsRow_succ Ip;obtain⟨hv1,hv2,Mx,YU,kF⟩:=hv.appended (by decide) nH hB.size (ay _) Ip WO;have Fg:=hv1.cell;have Wt:=hv1.frozen);exact⟨YU.from _,kF,⟨_,hv2,by rw[List.length_append,<-Sw];exact Mx,trivial⟩,hB.trans kF⟩
 case done=>
  rintro D ys W hD rfl ⟨⟨v,hv,nH,_⟩,hB⟩ hK;have hcv:=hv.cell;gi_wp2;refine⟨by simp,.inl ⟨_,_,rfl,run_takeDeferred hK,?_⟩⟩;rw[hzl]at nH;obtain⟨A',c',hv',_,_⟩:=jT nH;refine⟨_,results_tmp rfl _ _ _,A',c',by rw[<-hv'];rfl,?_,hB.trans (belowK_b (w:=w) (ay _) W D _ _ (by simp at hD;omega) hK rfl rfl)⟩;rw[<-hv'];exact ownsRow_putObj nH _ hK rfl
 case stop=>
  rintro D c pre W _ _ h _;exact h.elim
def TxN(w:au)(n:Nat)(m:List (List UInt8))(e:Ending)(w':au):Prop:=
 ∃A c,e=.returned (.slice A n c)/\w'.ownsRow w.heap.size 9 1 (.slice A n c) n (wC m)/\Below w.heap.size w w'
theorem Y8(Bs:Nat)(A:Option aU)(len cap:Nat)(zs:List (List UInt8))(hlen:len<=100000)(w:au)(Ro:Bs<w.heap.size)
 (hc:w.cell? ⟨Bs,0,none⟩=some (.slice A len cap)) (hR:RdT w w.heap.size A len zs) :
 aR aj 273 #[.slice none 0 0,.func (.func 215) #[] #[.pointer (some ⟨Bs,0,none⟩)]] w (TxN w len zs):=
 (callsIn_wide (n:=6)).1 (ab6 Fence.wide 6 trivial trivial rfl (by omega) Bs A len cap zs hlen w Ro hc hR)
theorem aeB(Bs:Nat)(A:Option aU)(len cap:Nat)(zs:List (List UInt8))(hlen:len<=100000)(w:au)(Ro:Bs<w.heap.size)
 (hc:w.cell? ⟨Bs,0,none⟩=some (.slice A len cap)) (hR:RdT w w.heap.size A len zs) :
 aR aj 213 #[.func (.func 215) #[] #[.pointer (some ⟨Bs,0,none⟩)]] w (TxN w len zs):=by
 have AP:=ah (Y8 Bs A len cap zs hlen w Ro hc hR);clear hc hR;go_enter Tryz.func213,Tryz.ntmps213;go_wp2_with fail;refine AP.out.mono ?_;rintro e w1 ⟨A1,c1,rfl,ho,hb⟩;have HO:=ah ho;have HB:=ah hb;clear ho hb;go_wp2;go_ret;exact⟨A1,c1,rfl,HO.out,HB.out⟩
theorem aeC(Bs:Nat)(A:Option aU)(len cap:Nat)(zs:List (List UInt8))(hlen:len<=100000)(w:au)(Ro:Bs<w.heap.size)
 (hc:w.cell? ⟨Bs,0,none⟩=some (.slice A len cap)) (hR:RdT w w.heap.size A len zs) :
 aR aj 145 #[.func (.func 215) #[] #[.pointer (some ⟨Bs,0,none⟩)]] w (TxN w len (IQ zs)):=by
 have HZ:=ah hR.1;have AP:=ah (aeB Bs A len cap zs hlen w Ro hc hR);clear hc hR;go_enter Tryz.func145,Tryz.ntmps145;go_wp2_with fail;refine AP.out.mono ?_;rintro e w1 ⟨A1,c1,rfl,ho,hb⟩;have HO:=ah ho;have HB:=ah hb;have ST:=ah (akO w.heap.size zs A1 len c1 w1 hlen HZ.out ho);clear ho hb;go_wp2_with fail;refine ST.out.mono ?_;rintro e w2 ⟨rfl,NG,hg⟩;have HO2:=ah NG;have ze:=ah (HB.out.grown hg HB.out.size (fun k hk=>(HO.out.lt k hk).1));clear NG hg;go_wp2;go_ret;exact⟨A1,c1,rfl,HO2.out,ze.out⟩
end
section
open Go.RowKit Go.Shelf
attribute [local go_sem] qC
def uQ(n:Nat):List Nat:=(dW n).reverse
theorem aan(n:Nat):(uQ n).length=n:=by simp[uQ]
theorem WQ(n j:Nat)(hj:j<n):(uQ n).take (n-1-j)++[j]=(uQ n).take (n-j):=by
 have h:(uQ n)[n-1-j]? = some j:=by
  unfold uQ;rw[List.getElem?_reverse (by simp;omega),List.length_range,show n-1-(n-1-j)=j by omega,xq hj]
 obtain⟨h1,h2⟩:=List.getElem?_eq_some_iff.1 h;rw[show n-j=n-1-j+1 by omega,List.take_succ_eq_append_getElem h1,h2]
def KpB(n₀ Bs:Nat)(W W':au):Prop:=Below n₀ W W'/\W'.heap[Bs]? = W.heap[Bs]?
theorem KpB.refl(n₀ Bs:Nat)(W:au):KpB n₀ Bs W W:=⟨Below.refl _ _,rfl⟩
theorem KpB.trans{n₀ Bs:Nat}{A B C:au}(h:KpB n₀ Bs A B)(k:KpB n₀ Bs B C):KpB n₀ Bs A C:=⟨h.1.trans k.1,k.2.trans h.2⟩
theorem KpB.cell{n₀ Bs:Nat}{W W':au}{v:aC}(h:KpB n₀ Bs W W')(hc:W.cell? ⟨Bs,0,none⟩=some v):W'.cell? ⟨Bs,0,none⟩=some v:=by
 rw[<-hc];simp only[World.cell?,h.2]
theorem aoa(F:Fence)(n:Nat)(hf:F.fn 212)(Lx:F.round=none)(hn:1<=n)(l Bs n₀:Nat)(A:Option aU)(len cap:Nat)(zs:List Hl)(hlen:len<=100000)(J Jx:List Nat->au->Prop)
 (hY:∀pre x W,J pre W->pre.length<len->YieldAt F (n-1) aj l #[.int .i64 (x:Nat),.agg (zs.getD x lG).aA] W fun e W'=>
  (e=.returned (.bool true)/\J (pre++[x]) W'/\KpB n₀ Bs W W')\/(e=.returned (.bool false)/\Jx (pre++[x]) W'))
 (W:au) (Ro:W.cell? ⟨Bs,0,none⟩=some (.slice A len cap)) (hR:RdH W n₀ A len zs) (h0:J [] W) :
 CallsIn F n aj 212 #[.func (.yield l) #[] #[],.pointer (some ⟨Bs,0,none⟩)] W fun e W'=>(∃v,e=.returned v) /\
  ((∃ys,ys=uQ len/\J ys W')\/(∃pre,True/\Jx pre W')):=by
 have hzl:=hR.1;have Jp:=aan len;refine callsIn_of_wp Tryz.func212 rfl hf ?_ Lx;simp only[Tryz.ntmps212,List.size_toArray,List.length_cons,List.length_nil,Nat.reduceAdd,Nat.reduceSub,Array.replicate_succ,Array.replicate_zero,List.push_toArray,List.append_toArray,List.nil_append,List.cons_append];have yZ:∃i0:Int,(len:Int)-1=i0/\((i0 = -1/\len=0)\/(∃j:Nat,i0=j/\j+1=len)):=by
  refine⟨_,rfl,?_⟩;rcases Nat.eq_zero_or_pos len with h|h
  ·exact .inl ⟨by omega,h⟩
  ·exact .inr ⟨len-1,by omega,by omega⟩
 obtain⟨i0,oz,yZ⟩:=yZ;gi_wp2;gi_loopw [3] (fun i wr=>∃i1:Int,i=.int .i64 i1/\((i1 = -1/\J (uQ len) wr)\/(∃j:Nat,i1=j/\j<len/\J ((uQ len).take (len-1-j)) wr))/\KpB n₀ Bs W wr)
  (fun i _=>(intOf i+1).toNat)
 case atStart=>
  refine⟨i0,rfl,?_,KpB.refl _ _ _⟩;rcases yZ with⟨h1,h2⟩|⟨j,h1,h2⟩
  ·refine .inl ⟨h1,?_⟩
   have:uQ len=[]:=bF (by omega);rw[this];exact h0
  ·refine .inr ⟨j,h1,by omega,?_⟩
   rw[show len-1-j=0 by omega];exact h0
 case round=>
  obtain⟨i1,rfl,aob,MP⟩:=hrel;clear yZ oz;have hBw:wr.cell? ⟨Bs,0,none⟩=some (.slice A len cap):=MP.cell Ro;rcases aob with⟨rfl,hJs⟩|⟨j,rfl,hjl,hJs⟩
  ·gi_wp2
   go_end0;exact⟨⟨_,rfl⟩,.inl ⟨_,rfl,hJs⟩⟩
  ·have hj0:decide ((0:Int)<=(j:Int))=true:=by simp
   have aG8:(j:Int)<len:=by omega
   obtain⟨b,o,rfl,Cb,hh,hc,_,_⟩:=(hR.below MP.1).hl hjl;obtain⟨x,hx⟩:∃x,x=zs.getD j lG:=⟨_,rfl⟩
   rw[<-hx]at hc;have Ej:=ah (show(uQ len).take (len-1-j)++[j]=(uQ len).take (len-j)from WQ len j (by omega));obtain⟨fn,tmps,assign,body,hy,hRd⟩:=hY _ j wr hJs (by rw[List.length_take];omega);rw[<-hx]at hy;clear hx Cb;gi_wp2;refine hRd.mono ?_;rintro e W3 (⟨rfl,hJ3,hk3⟩|⟨rfl,WM⟩)
   ·gi_wp2
    go_roundw
    case rel=>
     refine⟨_,rfl,?_,MP.trans hk3⟩;rw[Ej.out]at hJ3;rcases Nat.eq_zero_or_pos j with h|h
     ·refine .inl ⟨by omega,?_⟩
      rw[List.take_of_length_le (by omega)]at hJ3;exact hJ3
     ·refine .inr ⟨j-1,by omega,by omega,?_⟩
      rw[show len-1-(j-1)=len-j by omega];exact hJ3
    case measure=>simp[intOf]<;>omega
   ·gi_wp2
    refine bodyPost_ret (results_none rfl _ _ _) rfl ?_;exact⟨⟨_,rfl⟩,.inr ⟨_,trivial,WM⟩⟩
theorem aoc(A:Option aU)(len cap:Nat)(w:au):
 aR aj 143 #[.slice A len cap] w fun e w'=>e=.returned (.func (.func 212) #[] #[.pointer (some ⟨w.heap.size,0,none⟩)])/\w.alloc (.cells #[.slice A len cap] 33)=w':=by
 go_enter Tryz.func143,Tryz.ntmps143;go_wp2;go_ret;exact⟨rfl,rfl⟩
theorem ag5(F:Fence)(n:Nat)(hf:F.fn 212)(Lx:F.round=none)(hn:1<=n)(Bs n₀:Nat)(A:Option aU)(len cap:Nat)(zs:List Hl)(hlen:len<=100000)(w:au)(Ro:Bs<w.heap.size)(Cq:n₀<=w.heap.size)
 (hc:w.cell? ⟨Bs,0,none⟩=some (.slice A len cap)) (hR:RdH w n₀ A len zs) :
 wm F n aj 212 #[.pointer (some ⟨Bs,0,none⟩)] (fun x:Nat=>#[aJ .i64 (x:Nat),.agg (zs.getD x lG).aA]) (KpB n₀ Bs) (fun ys=>ys=uQ len) (fun _=>True) len w:=fun l J Jx W hW _ _ hY h0=>by
 have hc':=(hW.cell (p:=⟨Bs,0,none⟩) Ro).trans hc;exact aoa F n hf Lx hn l Bs n₀ A len cap zs hlen J Jx hY W hc' (hR.to hW Cq) h0
section
variable {H:Type}
def hlD(x:Hl):zY H:=.agg [.lit (.string x.name),.lit (.bool x.down),.lit (.int .i64 x.run)]
def JF:aC->Option (zY H×List tC)
 | .agg c=>match c.toList with
   | [.string s,.bool b,.int .i64 r]=>some (hlD ⟨s.data.toList,b,r⟩,[])
   | _=>none
 | _=>none
theorem aap(x:Hl):JF (H:=H) (.agg x.aA)=some (hlD x,[]):=by
 simp[JF,Hl.aA,bV]
theorem ag6{v:aC}{z:zY H×List tC}(h:JF v=some z):∃x:Hl,v=.agg x.aA/\z=(hlD x,[]):=by
 unfold JF at h;split at h
 ·rename_i c
  split at h
  ·rename_i s b r hc
   injection h with h
   refine⟨⟨s.data.toList,b,r⟩,?_,h.symm⟩;have:c = #[.string s,.bool b,.int .i64 r]:=by rw[<-Array.toArray_toList (xs:=c),hc]
   rw[this];simp[Hl.aA,Sr]
  ·cases h
 ·cases h
theorem aja{x y:Hl}(h:hlD (H:=H) x=hlD y):x=y:=by
 cases x;cases y;simp[hlD]at h;obtain⟨rfl,rfl,rfl⟩:=h;rfl
def aaq(D:zY H)(f:List UInt8->Option Hl):Prop:=
 Maps.IsMap D/\∀s,Maps.has D (.string s)=(f s).isSome/\∀zd,D.atKey (.string s) zd=match f s with|some x=>hlD x|none=>zd
def GX(l:List Hl)(pre:List Nat)(s:List UInt8):Option Hl:=(pre.reverse.map (fun k=>l.getD k lG)).find? (fun x=>x.name==s)
theorem aeD(l:List Hl)(pre:List Nat)(p:Nat)(s:List UInt8):GX l (pre++[p]) s=if(l.getD p lG).name==s then some (l.getD p lG)else GX l pre s:=by
 unfold GX;rw[List.reverse_append];simp only[List.reverse_cons,List.reverse_nil,List.nil_append,List.cons_append,List.map_cons,List.find?_cons];cases(l.getD p lG).name==s<;>rfl
theorem ag7(l:List Hl)(s:List UInt8):GX l (uQ l.length) s=l.find? (fun x=>x.name==s):=by
 unfold GX uQ;rw[List.reverse_reverse];congr 1;apply iI;intro i;rw[jD];rcases bf i l.length with h|h
 ·rw[xq h,aD h]
  simp only[Option.map_some];rw[av,aD h];rfl
 ·rw[aT (by simpa using h),aT h];rfl
theorem akP(l:List Hl):aaq (H:=H) (.map []) (GX l []):=⟨⟨[],rfl⟩,fun s=>⟨rfl,fun zd=>rfl⟩⟩
theorem akQ{D:zY H}{l:List Hl}{pre:List Nat}(h:aaq D (GX l pre))(k:Nat)(p:Hl)(hp:p=l.getD k lG):aaq (D.put (.string p.name) (hlD p)) (GX l (pre++[k])):=by
 obtain⟨hm,hs⟩:=h;have hk:Go.WideAt.IsKeyLit (.string p.name):=trivial;refine⟨hm.put _ _,fun s=>?_⟩;rw[aeD,<-hp];by_cases hn:p.name=s
 ·subst hn
  have:(p.name==p.name)=true:=by simp
  rw[this];exact⟨Maps.has_put_same hm hk _,fun zd=>Maps.atKey_put_same hm hk _ _⟩
 ·have hb:(p.name==s)=false:=by simpa using hn
  rw[hb];have pY:(Lit.string s)≠.string p.name:=fun e=>hn (by injection e with e;exact e.symm)
  obtain⟨h1,h2⟩:=hs s;exact⟨by rw[Maps.has_put_other pY];exact h1,fun zd=>by rw[Maps.atKey_put_other pY];exact h2 zd⟩
end
end
section
open Go.RowKit Go.Shelf
attribute [local go_sem] qC
theorem akR(F:Fence)(n:Nat)(hf:F.fn 306)(Lx:F.round=none)(hn:1<=n)(l Bs n₀:Nat)(A:Option aU)(len cap:Nat)(zs:List UInt8)(hlen:len<=100000)(J Jx:List Nat->au->Prop)
 (hY:∀pre x W,J pre W->pre.length<len->YieldAt F (n-1) aj l #[.int .i64 (x:Nat),bv (zs.getD x 0)] W fun e W'=>
  (e=.returned (.bool true)/\J (pre++[x]) W'/\KpB n₀ Bs W W')\/(e=.returned (.bool false)/\Jx (pre++[x]) W'))
 (W:au) (Ro:W.cell? ⟨Bs,0,none⟩=some (.slice A len cap)) (hR:gy W n₀ A len zs) (h0:J [] W) :
 CallsIn F n aj 306 #[.func (.yield l) #[] #[],.pointer (some ⟨Bs,0,none⟩)] W fun e W'=>(∃v,e=.returned v) /\
  ((∃ys,ys=uQ len/\J ys W')\/(∃pre,True/\Jx pre W')):=by
 have hzl:=hR.len;have Jp:=aan len;refine callsIn_of_wp Tryz.func306 rfl hf ?_ Lx;simp only[Tryz.ntmps306,List.size_toArray,List.length_cons,List.length_nil,Nat.reduceAdd,Nat.reduceSub,Array.replicate_succ,Array.replicate_zero,List.push_toArray,List.append_toArray,List.nil_append,List.cons_append];have yZ:∃i0:Int,(len:Int)-1=i0/\((i0 = -1/\len=0)\/(∃j:Nat,i0=j/\j+1=len)):=by
  refine⟨_,rfl,?_⟩;rcases Nat.eq_zero_or_pos len with h|h
  ·exact .inl ⟨by omega,h⟩
  ·exact .inr ⟨len-1,by omega,by omega⟩
 obtain⟨i0,oz,yZ⟩:=yZ;gi_wp2;gi_loopw [3] (fun i wr=>∃i1:Int,i=.int .i64 i1/\((i1 = -1/\J (uQ len) wr)\/(∃j:Nat,i1=j/\j<len/\J ((uQ len).take (len-1-j)) wr))/\KpB n₀ Bs W wr)
  (fun i _=>(intOf i+1).toNat)
 case atStart=>
  refine⟨i0,rfl,?_,KpB.refl _ _ _⟩;rcases yZ with⟨h1,h2⟩|⟨j,h1,h2⟩
  ·refine .inl ⟨h1,?_⟩
   have:uQ len=[]:=bF (by omega);rw[this];exact h0
  ·refine .inr ⟨j,h1,by omega,?_⟩
   rw[show len-1-j=0 by omega];exact h0
 case round=>
  obtain⟨i1,rfl,aob,MP⟩:=hrel;clear yZ oz;have hBw:wr.cell? ⟨Bs,0,none⟩=some (.slice A len cap):=MP.cell Ro;rcases aob with⟨rfl,hJs⟩|⟨j,rfl,hjl,hJs⟩
  ·gi_wp2
   go_end0;exact⟨⟨_,rfl⟩,.inl ⟨_,rfl,hJs⟩⟩
  ·have hj0:decide ((0:Int)<=(j:Int))=true:=by simp
   have aG8:(j:Int)<len:=by omega
   obtain⟨a,rfl,EH,hc⟩:=(hR.below MP.1).fE (k:=j) (by omega);obtain⟨x,hx⟩:∃x,x=zs.getD j 0:=⟨_,rfl⟩
   rw[<-hx]at hc;have Ej:=ah (show(uQ len).take (len-1-j)++[j]=(uQ len).take (len-j)from WQ len j (by omega));obtain⟨fn,tmps,assign,body,hy,hRd⟩:=hY _ j wr hJs (by rw[List.length_take];omega);rw[<-hx]at hy;clear hx;gi_wp2;refine hRd.mono ?_;rintro e W3 (⟨rfl,hJ3,hk3⟩|⟨rfl,WM⟩)
   ·gi_wp2
    go_roundw
    case rel=>
     refine⟨_,rfl,?_,MP.trans hk3⟩;rw[Ej.out]at hJ3;rcases Nat.eq_zero_or_pos j with h|h
     ·refine .inl ⟨by omega,?_⟩
      rw[List.take_of_length_le (by omega)]at hJ3;exact hJ3
     ·refine .inr ⟨j-1,by omega,by omega,?_⟩
      rw[show len-1-(j-1)=len-j by omega];exact hJ3
    case measure=>simp[intOf]<;>omega
   ·gi_wp2
    refine bodyPost_ret (results_none rfl _ _ _) rfl ?_;exact⟨⟨_,rfl⟩,.inr ⟨_,trivial,WM⟩⟩
theorem akS(A:Option aU)(len cap:Nat)(w:au):
 aR aj 252 #[.slice A len cap] w fun e w'=>e=.returned (.func (.func 306) #[] #[.pointer (some ⟨w.heap.size,0,none⟩)])/\w.alloc (.cells #[.slice A len cap] 56)=w':=by
 go_enter Tryz.func252,Tryz.ntmps252;go_wp2;go_ret;exact⟨rfl,rfl⟩
theorem aeE(F:Fence)(n:Nat)(hf:F.fn 306)(Lx:F.round=none)(hn:1<=n)(Bs n₀:Nat)(A:Option aU)(len cap:Nat)(zs:List UInt8)(hlen:len<=100000)(w:au)(Ro:Bs<w.heap.size)(Cq:n₀<=w.heap.size)
 (hc:w.cell? ⟨Bs,0,none⟩=some (.slice A len cap)) (hR:gy w n₀ A len zs) :
 wm F n aj 306 #[.pointer (some ⟨Bs,0,none⟩)] (fun x:Nat=>#[aJ .i64 (x:Nat),bv (zs.getD x 0)]) (KpB n₀ Bs) (fun ys=>ys=uQ len) (fun _=>True) len w:=fun l J Jx W hW _ _ hY h0=>by
 have hc':=(hW.cell (p:=⟨Bs,0,none⟩) Ro).trans hc;exact akR F n hf Lx hn l Bs n₀ A len cap zs hlen J Jx hY W hc' (hR.to hW Cq) h0
theorem gy.upM{w:au}{B n k:Nat}{A:Option aU}{l:List UInt8}(h:gy w B A n l)(hk:k<=n):gy w B A k (l.take k):=by
 have:=Rd.upto h hk
 rwa [gF,<-Bf]at this
theorem aod(zs:List UInt8)(m:Nat)(hm:zs.length=m):(uQ m).map (fun i=>zs.getD i 0)=zs.reverse:=by
 subst hm;unfold uQ;rw[List.map_reverse];congr 1;apply iI;intro i;rw[jD];rcases bf i zs.length with h|h
 ·rw[xq h,aD h];simp[av,h]
 ·rw[aT (by simpa using h),aT h];rfl
theorem MQ(A:Option aU)(n c:Nat)(l:List UInt8)(w:au)(tX:n<=c)(hc:c<=9223372036854775807)(hr:gy w w.heap.size A n l):
 aR aj 180 #[.slice A n c,.bool false] w (gP w (.int .u64 (leN (l.take 8)))):=by
 refine(callsIn_wide (n:=8)).1 ?_;have hlen:=hr.len;obtain⟨m,hm,hm8,hmn⟩:∃m:Nat,(if(8:Int)<(n:Int)then(8:Int)else(n:Int))=m/\m<=8/\m<=n:=⟨min n 8,by split<;>omega,by omega,by omega⟩
 have hmm:m=min n 8:=by split at hm<;>omega
 have Dg:min (n:Int) 8=m:=by omega
 have HR:=ah (hr.upM hmn);obtain⟨zs,Qs⟩:∃zs,zs=l.take m:=⟨_,rfl⟩
 have HZL:=ah (show zs.length=m by rw[Qs,List.length_take];omega);have HZ8:=ah (show l.take 8=zs by
  rw[Qs,hmm];by_cases h8:n<=8
  ·rw[Nat.min_eq_left h8,List.take_of_length_le (by omega),List.take_of_length_le (by omega)]
  ·rw[Nat.min_eq_right (by omega)])
 rw[<-Qs]at HR;rw[HZ8.out];clear hr hmm Qs HZ8 hlen;have hfn:∀f,Fence.wide.fn f:=fun _=>trivial
 refine callsIn_of_wp_marks Tryz.func180 rfl trivial ?_ rfl;simp only[Tryz.ntmps180,List.size_toArray,List.length_cons,List.length_nil,Nat.reduceAdd,Nat.reduceSub,Array.replicate_succ,Array.replicate_zero,List.push_toArray,List.append_toArray,List.nil_append,List.cons_append];gi_wp2_with (gi_at_call 252;refine(callsIn_wide.2 (akS A m c _)).mono ?_;rintro e w' ⟨rfl,rfl⟩);clear hm Dg;have Ur:Below w.heap.size w (w.alloc (.cells #[.int .u64 0] 92)):=(Below.refl _ w).alloc (ay _) _;have bN:=Boxed.new w 92 (.int .u64 0);have Nw:(w.alloc (.cells #[.int .u64 0] 92)).heap.size=w.heap.size+1:=by simp
 generalize w.alloc (.cells #[.int .u64 0] 92)=W1 at Ur bN Nw ⊢;have bS:=Boxed.new W1 56 (.slice A m c);have bN2:=bN.alloc (.cells #[.slice A m c] 56);have NZ:=Ur.alloc (Nat.le_of_eq Nw |> fun _=>(by omega:w.heap.size<=W1.heap.size)) (.cells #[.slice A m c] 56);have UR:(W1.alloc (.cells #[.slice A m c] 56)).heap.size=w.heap.size+2:=by simp[Nw]
 rw[Nw]at bS
 try simp only[Nw]
 generalize W1.alloc (.cells #[.slice A m c] 56)=W2 at NZ bN2 bS UR ⊢;clear Ur bN Nw;refine wpIn_rangeFunc_ownG rfl (by omega) (gf:=306) (lb:=#[.pointer (some ⟨w.heap.size+1,0,none⟩)]) rfl trivial (enters_of Tryz.func306 (by kernel_rfl) rfl)
  (aeE Fence.wide 7 trivial rfl (by omega) (w.heap.size+1) w.heap.size A m c zs (by omega) W2 (by omega) (by omega) bS.cell (HR.out.below NZ)) KpB.trans (fun W q o o' hq ho hc hw=>⟨belowK_b (w:=w) (ay _) W q o o' (by omega) ho hc hw,(grownBy_putObj' W q o').block _ (by have:=(bW.1 ho).1;omega) (fun e=>by injection e with e;omega)⟩) (Below.refl _ _) (fun _=>rfl)
  (fun pre W=>(Boxed W w.heap.size 92 (.int .u64 (oJ (pre.map fun i=>zs.getD i 0):Nat))/\w.heap.size+2<=W.heap.size)/\Below w.heap.size w W)
  (fun _ _ _=>False)
  (OwnFrom.and (OwnFrom.and (Own.from (boxed_own _ _ _) _) (fun s X Y row hs hg hr=>aP hs hg.size)) (ownFrom_below (ay _) (by omega)))
  (fun _ _ _ _ _ hs _ _=>hs)
  ⟨⟨bN2,by omega⟩,NZ⟩
  (fun x=>{tmps:=#[.slice A m c,.bool false,undef,undef,.int .u64 0,.pointer (some ⟨w.heap.size,0,none⟩),undef,undef,undef,bv (zs.getD x 0),.slice A n c,.slice A n c,.int .i64 n,.int .i64 m,.slice A m c,.bool false,undef,undef,undef,undef,undef,undef,undef,undef,undef,undef,undef,undef,undef,.slice A m c,.func (.func 306) #[] #[.pointer (some ⟨w.heap.size+1,0,none⟩)],.int .i64 (x:Nat),bv (zs.getD x 0),undef,undef,undef,undef,undef,undef],defers:=[]})
  ?assign ?body ?done ?stop
 case assign=>
  intro l x W K hK;gi_wp2;exact hK
 case body=>
  rintro l pre x W ⟨⟨hv,jB⟩,hB⟩ fP;have cS:=hv.cell;have fS:=hv.frozen;have HV:=ah hv;have HB:=ah hB;clear hv hB;obtain⟨y,hy⟩:∃y,y=zs.getD x 0:=⟨_,rfl⟩
  obtain⟨nn,Ue⟩:∃nn,nn=oJ (pre.map fun i=>zs.getD i 0):=⟨_,rfl⟩
  have Zr:nn*256<18446744073709551616:=by
   have h1:=Ku (pre.map fun i=>zs.getD i 0);have h2:256^(pre.map fun i=>zs.getD i 0).length<=256^7:=Nat.pow_le_pow_right (by omega) (by rw[List.length_map];omega);omega
  have Ej:=ah (show oJ ((pre++[x]).map fun i=>zs.getD i 0)=nn*256+y.toNat by rw[jh,List.map_cons,List.map_nil,Jf,<-hy,<-Ue]);rw[<-Ue]at cS HV;have aj0:=y.toNat_lt;have hor:=aix nn y.toNat Zr aj0;unfold bv;rw[<-hy];clear hy Ue;generalize y.toNat=ch at *;have G:=grownBy_setCell' W w.heap.size (.int .u64 (nn*256+ch:Nat));have HX:=ah (show KeepsFrom W2.heap.size W (W.setCell ⟨w.heap.size,0,none⟩ (.int .u64 (nn*256+ch:Nat)))/\KpB w.heap.size (w.heap.size+1) W (W.setCell ⟨w.heap.size,0,none⟩ (.int .u64 (nn*256+ch:Nat)))/\(Boxed (W.setCell ⟨w.heap.size,0,none⟩ (.int .u64 (nn*256+ch:Nat))) w.heap.size 92 (.int .u64 (nn*256+ch:Nat))/\w.heap.size+2<=(W.setCell ⟨w.heap.size,0,none⟩ (.int .u64 (nn*256+ch:Nat))).heap.size)/\Below w.heap.size w (W.setCell ⟨w.heap.size,0,none⟩ (.int .u64 (nn*256+ch:Nat)))from
   ⟨KeepsFrom.of_grownBy G (fun j e=>by cases e;omega),⟨(Below.refl w.heap.size W).setCell (p:=⟨w.heap.size,0,none⟩) (ay w.heap.size) _,G.block _ (by omega) (fun e=>by injection e with e;omega)⟩,⟨HV.out.set _,by have:=G.size;omega⟩,HB.out.setCell (p:=⟨w.heap.size,0,none⟩) (ay w.heap.size) _⟩)
  clear G;gi_wp2;refine⟨HX.out.1,HX.out.2.1,⟨?_,HX.out.2.2.1.2⟩,HX.out.2.2.2⟩;show Boxed _ _ _ (.int .u64 (oJ ((pre++[x]).map fun i=>zs.getD i 0):Nat));rw[Ej.out];exact HX.out.2.2.1.1
 case done=>
  rintro D0 ys W hD0 rfl ⟨⟨hv,jB⟩,hB⟩ hK;have cS:=hv.cell;rw[aod zs m HZL.out]at cS;have HV:=ah hv;have HB:=ah hB;clear hv hB;have HL:=ah (show leN zs=oJ zs.reverse from rfl);gi_wp2;refine⟨by simp,.inl ⟨_,_,rfl,run_takeDeferred hK,?_⟩⟩;refine⟨_,results_tmp rfl _ _ _,?_,HB.out.trans (belowK_b (w:=w) (ay _) W D0 _ _ (by omega) hK rfl rfl)⟩;rw[HL.out];rfl
 case stop=>
  rintro D c pre W _ _ h _;exact h.elim
end
section
open Go.RowKit Go.Shelf
attribute [local go_sem] qC
theorem Ir{P:eF}{t k e:bM}(hu:P.underlying t=some (.map k e))(n:Int)(w:au):(Instr.makeMap t (some (.int .i64 n))).run P w=.ok (.map (some w.heap.size)) (w.alloc (.map #[] 0)):=by
 simp[Instr.makeMap,run_underlying hu,asInt,asIntOf,Result.andThen]
theorem zU(B:Nat)(c:Array aC):Own (fun(_:Unit) W=>dL W B c):=fun s X Y row hs hg nH=>
 hs.grown hg (fun e'=>by obtain⟨o,ho,hc⟩:=nH B e'.symm;obtain⟨t,hs⟩:=hs;rw[hs]at ho;cases ho;cases hc)
theorem ar4(w:au):(zeroValue 100).run aj w=.ok (.agg lG.aA) w:=by
 obtain⟨i0,oz,mZ,nu,Ar⟩:=Qy;simp[zeroValue,typeInfo,oz,mZ]
theorem Boxed.aof{W W':au}{b B:Nat}{t:bM}{v:aC}(h:Boxed W b t v)(hb:Below B W W')(hl:b<B):Boxed W' b t v:=(hb.block b hl).trans h
theorem Y9{H:Type}{P:eF}{k:bM}{R:aC->Option (zY H×List tC)}{b n B:Nat}{D:zY H}{W W':au}(h:W.ownsMap P k R b n D)(hb:Below B W W')(hl:b<B):W'.ownsMap P k R b n D:=by
 obtain⟨es,ck,h1,h2⟩:=h;exact⟨es,ck,(hb.block b hl).trans h1,h2⟩
theorem ag8{H:Type}{P:eF}{k:bM}{R:aC->Option (zY H×List tC)}{b n:Nat}{D:zY H}{W:au}(h:W.ownsMap P k R b n D):b<W.heap.size:=by
 obtain⟨es,ck,h1,h2⟩:=h;exact(bW.1 h1).1
theorem Fu{ops:Array Oper}{rest:List Oper}{o:Oper}{a:Act}{Q:Exit->Act->au->Prop}{w:au}(hg:o.guard=none)(m x:Operand)(IU:o.op=Op.lookup 230 m x true)
 (b n:Nat) (D:zY Unit) (hm:a.eval m=.map (some b)) (Az:w.ownsMap aj 9 JF b n D) (f:List UInt8->Option Hl) (hF:aaq D f) (s:List UInt8) (hs:s.length<=100000) (hx:a.eval x=.string (bV s))
 (y:Hl) (ok:Bool) (hy:(f s).getD lG=y) (Di:(f s).isSome=ok) (hK:wpList aj ops Q rest (a.put o.dst (.tuple #[.agg y.aA,.bool ok])) w):wpList aj ops Q (o::rest) a w:=by
 have awo:keyOf aj 9 (.string (bV s))=some (.string s):=WideMaps.keyOf_string_mk (P:=aj) iL (by unfold maxLen;rw[DF];omega);refine wpList_lookup_own_ok w hg m x 230 IU 9 100 (Maps.string_keyed iL) Tryz.underlying230 JF (ar4 w) (hlD lG) [] (aap lG) b n D hm Az _ (.string s) hx awo ?_;intro v ps hv;obtain⟨z,rfl,hz⟩:=ag6 hv;obtain⟨h1,h2⟩:=hF.2 s;have hzd:=congrArg Prod.fst hz;dsimp only at hzd;rw[h2]at hzd;have e1:z=y:=by
  rw[<-hy];cases hf:f s with
  | none=>rw[hf]at hzd;exact(aja hzd).symm
  | some u=>rw[hf]at hzd;exact(aja hzd).symm
 rw[e1,h1,Di];exact hK
theorem ag9(l:List Hl)(s:List UInt8):Cm l s=match l.find? (fun x=>x.name==s)with|some x=>x|none=>⟨s,false,0⟩:=by
 unfold Cm Ae;cases hf:l.findIdx? (fun x=>x.name==s)with
 | none=>
   have h1:l.find? (fun x=>x.name==s)=none:=List.find?_eq_none.2 (fun x hx=>by have:=List.findIdx?_eq_none_iff.1 hf x hx;simpa using this);rw[h1];rfl
 | some i=>
   obtain⟨hi,hn,uU⟩:=gV.1 hf;have h1:l.find? (fun x=>x.name==s)=some l[i]:=List.find?_eq_some_iff_getElem.2 ⟨hn,i,hi,rfl,fun j hj=>by simpa using uU j hj⟩;rw[h1];dsimp only;rw[if_neg (by omega),Int.toNat_natCast,av,aD hi];rfl
theorem aog(l:List Hl)(names:List (List UInt8))(A:Option aU)(n c:Nat)(A2:Option aU)(n2 c2:Nat)(w:au)(hR:RdH w w.heap.size A n l)(hN:RdT w w.heap.size A2 n2 names)(hn:n<=100000)(LA:n2<=100000)(hl:∀x∈l,x.name.length<=100000)(YQ:∀s∈names,s.length<=100000):
 aR aj 72 #[.slice A n c,.slice A2 n2 c2] w (ClP w (Fq l names).length (Fq l names)):=by
 refine(callsIn_wide (n:=8)).1 ?_;have HR:=ah hR;have HKL:=ah (fun k=>show(bV (l.getD k lG).name).size<=maxLen by
  have:(l.getD k lG).name.length<=100000:=by
   rw[av];rcases bf k l.length with h|h
   ·rw[aD h];exact hl _ (List.getElem_mem h)
   ·rw[aT h];simp[lG]
  unfold maxLen;rw[DF];omega)
 have hfn:∀f,Fence.wide.fn f:=fun _=>trivial
 have HN:=ah hN;have HNM:=ah YQ;have hmm:=fun n w=>Ir (P:=aj) Tryz.underlying230 n w
 refine callsIn_of_wp_marks Tryz.func72 rfl trivial ?_ rfl;simp only[Tryz.ntmps72,List.size_toArray,List.length_cons,List.length_nil,Nat.reduceAdd,Nat.reduceSub,Array.replicate_succ,Array.replicate_zero,List.push_toArray,List.append_toArray,List.nil_append,List.cons_append];clear hR hN hl YQ;gi_wp2_with (gi_at_call 143;refine(callsIn_wide.2 (aoc A n c _)).mono ?_;rintro e w' ⟨rfl,rfl⟩);obtain⟨W1,hW1⟩:∃W1,w.alloc (.map #[] 0)=W1:=⟨_,rfl⟩
 have hm0:=World.ownsMap_made w aj 9 (JF (H:=Unit));rw[hW1]at hm0;have Nw:W1.heap.size=w.heap.size+1:=by rw[<-hW1];simp
 have bS:=Boxed.new W1 230 (.map (some w.heap.size));have bN:=Boxed.new (W1.alloc (.cells #[.map (some w.heap.size)] 230)) 33 (.slice A n c);rw[World.size_alloc]at bN;have Ur:Below w.heap.size w ((W1.alloc (.cells #[.map (some w.heap.size)] 230)).alloc (.cells #[.slice A n c] 33)):=by
  rw[<-hW1];exact(((Below.refl _ w).alloc (ay _) _).alloc (by simp) _).alloc (by simp;omega) _
 have Dg:=(hm0.alloc (.cells #[.map (some w.heap.size)] 230)).alloc (.cells #[.slice A n c] 33);have bS2:=bS.alloc (.cells #[.slice A n c] 33);rw[hW1];rw[Nw]at bS bN bS2;clear hW1 hm0 bS;obtain⟨W2,hW2⟩:∃W2,(W1.alloc (.cells #[.map (some w.heap.size)] 230)).alloc (.cells #[.slice A n c] 33)=W2:=⟨_,rfl⟩
 have jB:W2.heap.size=w.heap.size+3:=by rw[<-hW2];simp[Nw]
 try simp only[World.size_alloc,Nw]
 rw[hW2]at bS2 bN Ur Dg ⊢;clear hW2;refine wpIn_rangeFunc_ownH rfl (by omega) (gf:=212) (lb:=#[.pointer (some ⟨w.heap.size+1+1,0,none⟩)]) rfl trivial (enters_of Tryz.func212 (by kernel_rfl) rfl)
  (ag5 Fence.wide 7 trivial rfl (by omega) (w.heap.size+1+1) w.heap.size A n c l hn W2 (by omega) (by omega) bN.cell (HR.out.below Ur)) KpB.trans (fun W q o o' hq ho hc hw=>⟨belowK_b (w:=w) (ay _) W q o o' (by omega) ho hc hw,(grownBy_putObj' W q o').block _ (by have:=(bW.1 ho).1;omega) (fun e=>by injection e with e;omega)⟩) (Below.refl _ _) (fun _=>rfl)
  (fun pre W=>(Boxed W (w.heap.size+1) 230 (.map (some w.heap.size))/\∃D,W.ownsMap aj 9 (JF (H:=Unit)) w.heap.size pre.length D/\aaq D (GX l pre)/\w.heap.size+3<=W.heap.size)/\Below w.heap.size w W)
  (fun _ _ _=>False)
  (OwnFrom.and (OwnFrom.and (Own.from (boxed_own _ _ _) _) (fun s X Y row hs hg hr=>by obtain⟨D,h1,h2,h3⟩:=hs;exact⟨D,h1.kept hg (fun e=>by have:=(hr _ e.symm).1;omega),h2,aP h3 hg.size⟩)) (ownFrom_below (ay _) (by omega)))
  (fun _ _ _ _ _ hs _ _=>hs)
  ⟨⟨bS2,_,Dg,akP l,by omega⟩,Ur⟩
  (fun x a' W=>∃Bx,w.heap.size+1<Bx/\dL W Bx (l.getD x lG).aA/\a'={tmps:=#[.slice A n c,.slice A2 n2 c2,undef,undef,.slice none 0 0,.pointer (some ⟨w.heap.size+1,0,none⟩),undef,.pointer (some ⟨Bx,0,none⟩),undef,undef,undef,undef,undef,.slice A n c,.int .i64 n,.map (some w.heap.size),.slice A n c,.func (.func 212) #[] #[.pointer (some ⟨w.heap.size+1+1,0,none⟩)],.int .i64 (x:Nat),.agg (l.getD x lG).aA,undef,undef,undef,undef,undef,undef,undef,undef,undef,undef,undef,undef,undef,undef,undef,undef,undef,undef,undef,undef,undef,undef,undef,undef,undef,undef,undef,undef,undef],defers:=[]})
  (fun x a' _ X Y row hs hg hr=>by obtain⟨Bx,h1,h2,h3⟩:=hs;exact⟨Bx,h1,zU Bx (l.getD x lG).aA () X Y row h2 hg (fun r e=>(hr r e).2),h3⟩)
  ?assign ?body ?done ?stop
 case assign=>
  rintro q pre x W K ⟨⟨bS1,D,hD,hF,hsW⟩,NZ⟩ hK;gi_wp2;refine hK _ _ ((KeepsOthers.alloc _ _).from _) ⟨(Below.refl _ W).alloc NZ.size _,Below.heap_alloc W _ _ (by omega)⟩ ⟨⟨bS1.alloc _,D,hD.alloc _,hF,by simp;omega⟩,NZ.alloc NZ.size _⟩ ⟨W.heap.size,bS1.lt,dL.new W _ _,rfl⟩
 case body=>
  rintro q pre x a' W hq ⟨r,hr⟩ ⟨⟨bS1,D,hD,hF,hsW⟩,NZ⟩ ⟨Bx,hBx,bX,rfl⟩ fP;have cS:=bS1.cell;obtain⟨f1,f2,f3,f4⟩:=bX.aI;have qd:=ah NZ;have HF:=ah hF;have HX:=ah bX;have HS:=ah bS1;clear NZ hF bX bS1;obtain⟨y,hy⟩:∃y,y=l.getD x lG:=⟨_,rfl⟩
  have HKY:=HKL.out x;rw[<-hy]at f1 f3 f4 HKY;have awo:keyOf aj 9 (.string (bV y.name))=some (.string y.name):=WideMaps.keyOf_string_mk (P:=aj) iL HKY;have HY:=ah hy
  try rw[<-hy]
  clear hy HKY;gi_wp2_with (gi_at_mapUpdate;refine wpListIn_mapUpdate_own _ rfl _ _ _ 230 rfl 9 100 (Maps.string_keyed iL) Tryz.underlying230 _ w.heap.size pre.length D rfl hD (by unfold maxLen;omega) _ _ (.string y.name) rfl rfl awo _ [] (aap y) ?_;intro w1 kJ Rp);have akT:=Rp.size;exact⟨KeepsFrom.of_grownBy Rp (fun j e=>by cases e;omega),⟨(Below.refl _ W).grown Rp qd.out.size (fun k e=>by cases e;exact ay _),Rp.block _ (by omega) (fun e=>by injection e with e;omega)⟩,
   ⟨HS.out.kept Rp (fun e=>by injection e with e;omega),_,by rw[List.length_append];exact kJ,akQ HF.out x y HY.out,by omega⟩,qd.out.grown Rp qd.out.size (fun k e=>by cases e;exact ay _)⟩
 case done=>
  rintro D0 ys W hD0 rfl ⟨⟨bS1,D,hD,hF,hsW⟩,NZ⟩ hK;have cS:=bS1.cell;rename_i K0 KA;refine KA _ _ (wpIn_wide.2 ?_);have qd:=ah NZ;have hl2:=HR.out.1;rw[<-hl2]at hF;have HF:=ah (show aaq D (fun s=>l.find? (fun x=>x.name==s))by have:=funext (ag7 l);rw[<-this];exact hF);have HD:=ah hD;have HK:=ah hK;have HS:=ah bS1;have HM:=ah (ag8 hD);have RN:=ah ((HN.out.below NZ).lF NZ.size:RdT W W.heap.size A2 n2 names);clear NZ hF hD hK bS1 cS Ur Dg bN bS2 KA K0;go_wp2_with fail;refine(ag4 A2 n2 c2 W).mono ?_;rintro e w' ⟨rfl,rfl⟩;obtain⟨w2,Gf⟩:∃w2,W.alloc (.cells #[.slice A2 n2 c2] 69)=w2:=⟨_,rfl⟩
  have aOY:w2.heap.size=W.heap.size+1:=by rw[<-Gf];simp
  have SO:=ah (aeC W.heap.size A2 n2 c2 names LA w2 (by omega) (by rw[<-Gf];exact mU W _ _ 0) (by rw[<-Gf];exact RN.out.up _));have B2:=ah (show Below W.heap.size W w2 by rw[<-Gf];exact(Below.refl _ W).alloc (ay _) _);have HW2:=ah Gf;clear Gf;go_wp2_with fail;rw[HW2.out];refine SO.out.mono ?_;rintro e w3 ⟨A3,c3,rfl,Bj,uH⟩;have hul:=aex names;obtain⟨U,hU⟩:∃U,U=IL names:=⟨_,rfl⟩
  obtain⟨ul,aeF⟩:∃ul,ul=U.length:=⟨_,rfl⟩
  have zC:=HN.out.1;have CO:=ah (ab3 w2.heap.size (IQ names) A3 n2 c3 w3 LA (by rw[OL];exact zC) Bj ul (by rw[OO,<-hU];exact aeF.symm));have ag':=Bj.lt;rw[OO,<-hU]at CO;have aO0:ul<=100000:=by rw[aeF,hU];omega
  have HSY:=ah (show Fq l names=U.map (Cm l)by rw[hU];rfl);have HUN:=ah (fun k (hk:k<ul)=>show(U.getD k []).length<=100000 by
   rw[aeF]at hk;rw[av,aD hk,Option.getD_some];refine HNM.out _ ?_;rw[<-WI,<-hU];exact List.getElem_mem hk)
  have HL:=ah aeF;clear hU aeF hul;have B3:=ah (B2.out.trans (uH.mono (by omega:W.heap.size<=w2.heap.size)));have H3:=ah ag';clear uH Bj ag';go_wp2_with fail;refine CO.out.mono ?_;rintro e w4 ⟨rfl,ho4,hg4⟩;have B4:=ah (B3.out.grown hg4 B3.out.size (fun k hk=>by have:=(H3.out k hk).1;omega));have RU:=ah (iO.iX HL.out.symm ho4:RdT w4 w4.heap.size A3 ul U);have hs4:=B4.out.size;clear ho4 hg4;obtain⟨i0,oz,mZ,nu,Ar⟩:=Qy;have HI0:=ah oz;have Nz:=ah mZ;have HZ1:=ah nu;have UO:=ah (show(bY lG.aA).cells.size=3 by simp[Value.cells,Hl.ak]);have HZB:=ah Ar;clear oz mZ nu Ar;go_wp2_with fail;go_loopw [8,29] (fun s8 s29 wr=>∃(k:Nat)(O:Option aU)(cap:Nat),k<=ul/\s8=.slice O k cap/\s29=.int .i64 k/\wr.ownsRow w4.heap.size 100 3 (.slice O k cap) k (xG ((U.take k).map (Cm l)))/\Below w4.heap.size w4 wr) (fun _ s29 _=>ul-(intOf s29).toNat)
  case atStart=>exact⟨0,none,0,by omega,rfl,rfl,by simpa[xG]using World.ownsRow_nil _ _ _ _,Below.refl _ _⟩
  case round=>
   obtain⟨k,O,cap,hku,rfl,rfl,ho,hb⟩:=hrel;have HO:=ah ho;have HB:=ah hb;have jB:=hb.size;have hB:=ah (B4.out.trans (hb.mono hs4));have cS:=(Boxed.aof HS.out hB.out (by omega)).cell;have OM:=ah (Y9 HD.out hB.out HM.out);clear ho hb;by_cases fP:k<ul
   ·have hi:(k:Int)<ul:=by omega
    obtain⟨bb,o,rfl,Cb,hc⟩:=(RU.out.below HB.out).text fP;have HKN:=ah (HUN.out k fP);have SN:=ah (akN l U k (by rw[<-HL.out];exact fP));obtain⟨y,hy⟩:∃y,y=U.getD k []:=⟨_,rfl⟩
    rw[<-hy]at hc HKN SN;clear hy Cb;have UM:=ah (show k+1<=maxLen by unfold maxLen;omega);have UN:=ah (show(k+1)*i0.bytes<=140737488355328 from aP (Nat.mul_le_mul (show k+1<=100002 by omega) HZB.out) (by omega));have BS:=ah (fun oa ob=>show w4.heap.size<=((wr.alloc oa).alloc ob).heap.size by simp;omega);have HGR:=ah (fun oa ob w1 (hg:((wr.alloc oa).alloc ob).grownBy w1 (bE O k cap).ownBlock)=>((HB.out.alloc jB oa).alloc (by simp;omega) ob).grown hg (BS.out oa ob) (fun k hk=>(HO.out.lt k hk).1));have PF:=ag9 l y;cases hfd:l.find? (fun x=>x.name==y)with
    | none=>
      rw[hfd]at PF;have PK:=ah PF;have HFS:=ah (show((fun s=>l.find? (fun x=>x.name==s)) y).getD lG=lG by dsimp only;rw[hfd];rfl);have HFB:=ah (show((fun s=>l.find? (fun x=>x.name==s)) y).isSome=false by dsimp only;rw[hfd];rfl);clear PF;have OA:=ah (vM (vM HO.out (.cells (Hl.mk y false 0).aA 100)) (.cells (Hl.mk y false 0).aA 100));have W1:=ah (show Rd ((wr.alloc (.cells (Hl.mk y false 0).aA 100)).alloc (.cells (Hl.mk y false 0).aA 100)) (wr.heap.size+1+1) 3 (some ⟨wr.heap.size+1,0,none⟩) 1 (Hl.mk y false 0).aA.toList by simpa using abn (wr.alloc (.cells (Hl.mk y false 0).aA 100)) (Hl.mk y false 0).aA 3 (Hl.ak _) 100);clear hfd;go_wp2_with (first|(at_lookup;refine Fu rfl _ _ rfl w.heap.size _ D rfl (OM.out) _ HF.out y HKN.out rfl lG false HFS.out HFB.out ?_)|(at_builtin;refine jI _ rfl (.tmp 43) (.tmp 45) _ rfl w4.heap.size 100 i0 (.agg lG.aA) 3 i0.bytes Tryz.underlying33 HI0.out Nz.out HZ1.out rfl UO.out (Nat.succ_pos _) (.slice O k cap) k (xG ((U.take k).map (Cm l))) rfl OA.out (wr.heap.size+1+1) (some ⟨wr.heap.size+1,0,none⟩) 1 1 (Hl.mk y false 0).aA.toList rfl W1.out (by simp[Hl.aA,Value.oneCell']) UM.out UN.out (BS.out _ _) ?_;intro v1 w1 kJ AA yj;have O1:=ah kJ;have G1:=ah (HGR.out _ _ _ AA);clear kJ AA yj));obtain⟨O',Ls,rfl,_,_⟩:=jT O1.out;go_roundw
      case rel=>exact⟨k+1,O',Ls,by omega,rfl,by go_num,by have h1:=O1.out;have h2:=SN.out;rw[PK.out]at h2;rw[h2]at h1;exact h1,G1.out⟩
      case measure=>simp[intOf]<;>omega
    | some x=>
      rw[hfd]at PF;have PK:=ah PF;have HFS:=ah (show((fun s=>l.find? (fun x=>x.name==s)) y).getD lG=x by dsimp only;rw[hfd];rfl);have HFB:=ah (show((fun s=>l.find? (fun x=>x.name==s)) y).isSome=true by dsimp only;rw[hfd];rfl);clear PF;have OA:=ah (vM (vM HO.out (.cells (x).aA 100)) (.cells (x).aA 100));have W1:=ah (show Rd ((wr.alloc (.cells (x).aA 100)).alloc (.cells (x).aA 100)) (wr.heap.size+1+1) 3 (some ⟨wr.heap.size+1,0,none⟩) 1 (x).aA.toList by simpa using abn (wr.alloc (.cells (x).aA 100)) (x).aA 3 (Hl.ak _) 100);clear hfd;go_wp2_with (first|(at_lookup;refine Fu rfl _ _ rfl w.heap.size _ D rfl (OM.out) _ HF.out y HKN.out rfl x true HFS.out HFB.out ?_)|(at_builtin;refine jI _ rfl (.tmp 43) (.tmp 45) _ rfl w4.heap.size 100 i0 (.agg lG.aA) 3 i0.bytes Tryz.underlying33 HI0.out Nz.out HZ1.out rfl UO.out (Nat.succ_pos _) (.slice O k cap) k (xG ((U.take k).map (Cm l))) rfl OA.out (wr.heap.size+1+1) (some ⟨wr.heap.size+1,0,none⟩) 1 1 (x).aA.toList rfl W1.out (by simp[Hl.aA,Value.oneCell']) UM.out UN.out (BS.out _ _) ?_;intro v1 w1 kJ AA yj;have O1:=ah kJ;have G1:=ah (HGR.out _ _ _ AA);clear kJ AA yj));obtain⟨O',Ls,rfl,_,_⟩:=jT O1.out;go_roundw
      case rel=>exact⟨k+1,O',Ls,by omega,rfl,by go_num,by have h1:=O1.out;have h2:=SN.out;rw[PK.out]at h2;rw[h2]at h1;exact h1,G1.out⟩
      case measure=>simp[intOf]<;>omega
   ·obtain rfl:k=ul:=by omega
    have hd:decide ((k:Int)<k)=false:=by simp
    have HDK:=ah (show wr.heap[D0]? = some (.deferred (some []))by
     rw[hB.out.block D0 (bW.1 HK.out).1];exact HK.out)
    have hle:w.heap.size<=W.heap.size:=by omega
    have HBW:=ah (qd.out.trans (hB.out.mono hle));have h1:=HO.out;rw[List.take_of_length_le (by rw[<-HL.out];exact ay _),<-HSY.out]at h1;have h2:(Fq l names).length=k:=by rw[HSY.out,List.length_map,<-HL.out]
    have HO1:=ah (iG h1 (aP hle hs4));have H2:=ah h2;clear h1 h2;go_wp2_with fail;refine⟨by simp,.inl ⟨_,_,rfl,run_takeDeferred HDK.out,?_⟩⟩;rw[H2.out];exact⟨_,results_tmp rfl _ _ _,O,cap,rfl,ownsRow_putObj HO1.out _ HDK.out rfl,HBW.out.trans (belowK_b (w:=w) (ay _) wr D0 _ _ (by omega) HDK.out rfl rfl)⟩
 case stop=>
  rintro D0 c0 pre W _ _ h _;exact h.elim
end
end Go.Proofs.YtkjojjopamaoiaaGreat
