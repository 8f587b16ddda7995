/- Parts. -/
import Derived.WalkSpells
import Derived.WalkLawsBesides
import Derived.Deep.OwnRows
import Derived.Lib.Hide
import Derived.Deep.AppendLies
import Derived.Test.YtkjojjopamaoiaaGreatRows
import Derived.ProofKit
import Derived.OpenShut
import Derived.Lib.ConvBytes
import Derived.Deep.WholeRow
import Derived.Deep.Fields
import Derived.Lib.Bytealg
import Derived.BigQuiet
import Derived.Deep.CutRange
import Derived.Laws.CopyOwn
import Derived.Lib.AppendZerosOnto
import Derived.Lib.Overlaps
import Derived.Deep.RegionHeld3
import Derived.StillTail
import Derived.Sort.Grow
set_option linter.unusedSimpArgs false
set_option linter.unusedVariables false
set_option linter.unusedSectionVars false
set_option maxRecDepth 100000
set_option maxHeartbeats 8000000
open Array renaming getElem?_eq_getElem->fq,ext_getElem?->dV,getElem?_eq_none->aV,length_toList->aZ,getElem?_toList->dD,getElem?_extract->dx,size_extract->jF,getElem?_modify->zZ,getElem?_eq_some_iff->bW,foldl_toList->Dx,range->lW,mapM->iB,all_eq_true_iff_forall_mem->fZ,ext'->oZ
open BitVec renaming ofInt->fU,ofInt_natCast->lU,toNat_ofNat->nG,ofNat->IC
open Bool renaming eq_iff_iff->cO,and_eq_true->bl,not_true->uV,or_eq_true->nE
open Go renaming Addr->aU,World->au,Value->aC,TypeId->bM,Program->eF,TypeInfo->nM,run_underlying->dJ,Oper->iV,Act->re,Exit->Aq,Operand->pQ,wpList_plain->tu,DataW->zY,MemPlace->tC,cell_of_row->tF,heap_alloc_new->Ic,setRow_heap->rQ,Field->nV,Sem->xO,Ending->kX,run_storeAt_new->zH,run_storeAt_mid->EF,run_equalIn_struct->zS,results_cell_tmp->LP,run_callFunc_extern->yU,Calls->aR,mem_ready->kE,getD_replicate_false->mJ,run_equal_slice_nil->iW,Frame->zA,Machine->FU
open Go.Addr renaming add->rF,add_mid->iC
open Go.Builtin renaming append_->AQ,firstCells->ug,copy_->qI,zeroCells->nU
open Go.DataW renaming trod->lX
open Go.FloatKind renaming f64->kY
open Go.Instr renaming loadAt->bZ,buildSlice->bJ,fill->fB,build->fJ,storeAt->eD,sureAddr->zy
open Go.IntKind renaming min->Ke,max->Kh,signed->lT,bits->nS,i64->bU,u64->jr,wrap_u64->jS,wrap->vR,u16->D8
open Go.Lib renaming hid->ah,compareBytes->iA
open Go.Op renaming eqItems->Lh,equalIn->jl,eqFields->wM,bytesLess->bT
open Go.Oper renaming wp->nD
open Go.Program renaming cellsOf->AV,fieldsOf->jR
open Go.Proofs.Tryz renaming prog->aj,underlying4->nO,underlying9->iL,underlying3->gQ,underlying100->rH,underlying33->sj,underlying62->og,underlying27->eZ,underlying56->dw,underlying5->lD,underlying22->oh
open Go.Region renaming wanted->fC,ready->fV,binds->qJ,lexTailB->xQ
open Go.Result renaming andThen_ok->gK,andThen->iD
open Go.RowKit renaming Below->aN
open Go.RowKit.Below renaming heap_setCell->rD,refl->aH
open Go.Sem renaming run_bind->jK,run_pure->ou,run->Kk
open Go.Value renaming int->aJ,agg->bY,string->jc,bool->bQ,float->AX
open Go.World renaming cell?_alloc_lt->vQ,cell?_setCell_other->wK,setCell->gZ,cell?->EJ,frozen?->sF,setCells->Dy
open Ieee renaming double->vX
open Int renaming natCast_emod->IY
open List renaming getElem?_eq_getElem->aD,getElem?_drop->jf,length_take->bK,getElem?_eq_none->aT,mem_map->iQ,getElem?_map->jD,getD_eq_getElem?_getD->av,eq_nil_of_length_eq_zero->bF,map_map->I4,map_cons->kL,range->dW,foldl_cons->jV,length_cons->bC,take_succ_eq_append_getElem->dP,mem_append_left->Bo,append_nil->uT,getElem?_toArray->dZ,map_congr_left->Db,mem_range->eH,zipIdx_cons->Iz,length_set->aW,take_append_drop->iF,ext_getElem?->iI,flatMap_cons->iJ,getElem?_append_left->mP,getElem?_append_right->rG,length_append->aS,ofFn->IB,drop_eq_getElem_cons->kT,getElem_mem->eO,getElem?_append->kR,nil_append->dG,all_eq_true->gH,take_of_length_le->aL,findIdx?_eq_some_iff_getElem->gV,append_assoc->dB,take_append_of_le_length->gB,drop_of_length_le->iR,mem_cons->bD,replicate->dU,getElem?_range->xq,set_cons_succ->bH,getElem?_set->fG,pairwise_cons->gL
open Nat renaming add_assoc->ny,mul_le_mul_right->cZ,lt_or_ge->bf,eq_zero_or_pos->dX,le_trans->aP,lt_of_lt_of_le->eU,le_refl->ay,zero_add->bB,shiftLeft_eq->mF,lt_succ_self->mG,mul_one->gF,succ_mul->Ki,mul_comm->DC,div_lt_iff_lt_mul->Av,mod_lt->fD,add_zero->nI,two_pow_pos->nJ,pow_add->qm,ne_of_gt->uM,le_of_lt_succ->Gi,min_eq_left->oH,pow_le_pow_right->nQ,zero_mul->Kj,mod_eq_of_lt->fM,add_comm->uN,min->qA,mul_le_mul->gU,le_succ->Nr,le_of_eq->aY
open Ne renaming symm->jm
open Option renaming map_some->ni,getD_some->jy
open Option.some renaming injEq->uj
open UInt8 renaming ofNat->aK,toNat_ofNat'->Dz,toNat_inj->lY,lt_iff_toNat_lt->Ad,lt_irrefl->kD,lt_trans->tH
open Vector renaming ofFn->ED,replicate->bG
namespace Go.Proofs.YtkjojjopamaoiaaGreat
open Go.RowKit
abbrev gP(w:World)(v:Value):Ending->World->Prop:=fun e w'=>e=.returned v/\Below w.heap.size w w'
abbrev aB:Value:=.int .u8 0
abbrev bg:Value:=.int .i64 0

theorem aq7(a b:Nat):((a:Int)==(b:Int))=(a==b):=by rw[cO];simp;omega
theorem BJ(a:aU)(n:Nat):(a.add n).block=a.block:=by unfold rF;split<;>rfl
theorem adw(a:aU)(i j:Nat):(a.add i).add j=a.add (i+j):=by
 unfold rF;by_cases hi:i=0<;>by_cases hj:j=0<;>simp[hi,hj,ny]
theorem Qr(a:aU):a.add 0=a:=by unfold rF;simp
def Rd(w:au)(B size:Nat)(A:Option aU)(n:Nat)(xs:List aC):Prop:=
 xs.length=n*size/\(0<n->∃a,A=some a/\a.block<B/\∀j u,xs[j]? = some u->w.cell? (a.add j)=some u)
section
variable {w w':au} {B B' size n:Nat} {A:Option aU} {xs:List aC}
theorem Rd.nil:Rd w B size A 0 []:=⟨by simp,fun h=>absurd h (by omega)⟩
theorem Rd.pick{k:Nat}(h:Rd w B 1 A n xs)(hk:k<n):∃a u,A=some a/\a.block<B/\xs[k]? = some u/\w.cell? (a.add k)=some u:=by
 obtain⟨a,e,hb,hc⟩:=h.2 (by omega);have hl:k<xs.length:=by have:=h.1;omega
 exact⟨a,xs[k],e,hb,aD hl,hc k _ (aD hl)⟩
theorem Rd.keep(h:Rd w B size A n xs)(hk:∀p:aU,p.block<B->w'.cell? p=w.cell? p):Rd w' B size A n xs:=
 ⟨h.1,fun hn=>by
  obtain⟨a,e,hb,hc⟩:=h.2 hn;exact⟨a,e,hb,fun j u hu=>(hk _ (by rw[BJ];exact hb)).trans (hc j u hu)⟩⟩
theorem Rd.lF(h:Rd w B size A n xs)(hB:B<=B'):Rd w B' size A n xs:=
 ⟨h.1,fun hn=>by
  obtain⟨a,e,hb,hc⟩:=h.2 hn;exact⟨a,e,by omega,hc⟩⟩
theorem Rd.below(h:Rd w B size A n xs)(hb:aN B w w'):Rd w' B size A n xs:=h.keep fun _ hp=>hb.cell hp
theorem Rd.to{C:Nat}(h:Rd w B size A n xs)(hb:aN C w w')(hC:B<=C):Rd w' B size A n xs:=h.keep fun _ hp=>hb.cell (by omega)
theorem Rd.alloc(h:Rd w B size A n xs)(hB:B<=w.heap.size)(o:Obj):Rd (w.alloc o) B size A n xs:=h.keep fun p hp=>vQ w o p (by omega)
theorem Rd.setCell(h:Rd w B size A n xs){p:aU}(hB:B<=p.block)(u:aC):Rd (w.setCell p u) B size A n xs:=
 h.keep fun q hq=>wK w p q u (fun e=>by subst e;omega)
theorem Rd.cut(h:Rd w B size A n xs){k cap:Nat}(hk:k<=n)(hc:n<=cap):
 Rd w B size (if cap=k then A else A.map (·.add (k*size))) (n-k) (xs.drop (k*size)):=by
 refine⟨by rw[List.length_drop,h.1,Nat.sub_mul],fun hn=>?_⟩;obtain⟨a,rfl,hb,hcell⟩:=h.2 (by omega);rw[if_neg (by omega)];refine⟨a.add (k*size),rfl,by rw[BJ];exact hb,fun j u hu=>?_⟩;rw[adw];exact hcell _ u (by rw[<-hu,jf])
theorem Rd.upto(h:Rd w B size A n xs){k:Nat}(hk:k<=n):Rd w B size A k (xs.take (k*size)):=by
 refine⟨by rw[bK,h.1];have:=cZ size hk;omega,fun hn=>?_⟩;obtain⟨a,rfl,hb,hcell⟩:=h.2 (by omega);refine⟨a,rfl,hb,fun j u hu=>?_⟩;rcases bf j (k*size)with h1|h1
 ·rw[List.getElem?_take_of_lt h1]at hu
  exact hcell j u hu
 ·rw[aT (by rw[bK];omega)]at hu;cases hu
theorem Rd.iX{base:Nat}{e:bM}{c:Nat}(h:w.ownsRow base e size (.slice A n c) n xs):Rd w w.heap.size size A n xs:=by
 refine⟨h.1,fun hn=>?_⟩;rcases h.2 with⟨_,h0⟩|⟨g,cap,cur,hv,_,_,_,_,_,_⟩
 ·omega
 ·injection hv with hA _ _
  have hl:=(h.lt g (by rw[hA];rfl)).2;exact⟨⟨g,0,none⟩,hA,hl,h.cells (by rw[hA];rfl)⟩
end
def bv(b:UInt8):aC:=.int .u8 (b.toNat:Nat)
theorem Kr(l:List UInt8):∀u∈l.map bv,u.oneCell'=true:=by
 intro u hu;obtain⟨b,_,rfl⟩:=iQ.1 hu;rfl
def gy(w:au)(B:Nat)(A:Option aU)(n:Nat)(l:List UInt8):Prop:=Rd w B 1 A n (l.map bv)
section
variable {w w':au} {B B' n:Nat} {A:Option aU} {l:List UInt8}
theorem gy.len(h:gy w B A n l):l.length=n:=by have:=h.1;simpa using this
theorem gy.fE(h:gy w B A n l){k:Nat}(hk:k<n):∃a,A=some a/\a.block<B/\w.cell? (a.add k)=some (bv (l.getD k 0)):=by
 obtain⟨a,u,e,hb,hu,hc⟩:=Rd.pick h hk;refine⟨a,e,hb,?_⟩;rw[hc];have hl:=h.len;rw[jD,aD (by omega)]at hu;simp only[ni,uj]at hu;rw[<-hu,av,aD (by omega)];rfl
theorem gy.below(h:gy w B A n l)(hb:aN B w w'):gy w' B A n l:=Rd.below h hb
theorem gy.to{C:Nat}(h:gy w B A n l)(hb:aN C w w')(hC:B<=C):gy w' B A n l:=Rd.to h hb hC
theorem gy.lF(h:gy w B A n l)(hB:B<=B'):gy w B' A n l:=Rd.lF h hB
theorem gy.alloc(h:gy w B A n l)(hB:B<=w.heap.size)(o:Obj):gy (w.alloc o) B A n l:=Rd.alloc h hB o
theorem gy.setCell(h:gy w B A n l){p:aU}(hB:B<=p.block)(u:aC):gy (w.setCell p u) B A n l:=Rd.setCell h hB u
end
def bV(l:List UInt8):ByteArray:=⟨l.toArray⟩
theorem Sr(s:ByteArray):bV s.data.toList=s:=by cases s;rfl
theorem Jb{P:eF}{w:au}{B:Nat}{A:Option aU}{n:Nat}{l:List UInt8}(h:gy w B A n l)(src e dst:bM)
 (hs:P.underlying src=some (.slice e)) (he:P.underlying e=some (.int .u8)) (hd:P.underlying dst=some .string) (c:Nat) :
 (convert src dst (.slice A n c)).run P w=.ok (.string (bV l)) w:=by
 have hlen:=h.len;cases A with
 | none=>
   have h0:n=0:=by
    rcases dX n with h0|h0
    ·exact h0
    ·obtain⟨a,ha,_⟩:=h.2 h0;cases ha
   have hl:l=[]:=bF (by omega);subst hl;rw[run_convert_bytes_nil w src e hs he n c dst hd];rfl
 | some a=>
   have Yz:(loadCells a n).run P w=.ok ((l.map fun b=>(b.toNat:Int)).map (aJ .u8)).toArray w:=by
    have hm:(l.map fun b=>(b.toNat:Int)).map (aJ .u8)=l.map bv:=by rw[I4];rfl
    rw[hm];have:=run_loadCells_list (P:=P) w a (l.map bv) (fun j v hj=>by
     have hn:0<n:=by
      rcases dX n with h0|h0
      ·have hl:l=[]:=bF (by omega)
       subst hl;simp at hj
      ·exact h0
     obtain⟨a',ha,_,hc⟩:=h.2 hn;injection ha with ha
     subst ha;exact hc j v hj)
    simpa[hlen]using this
   rw[run_convert_bytes_string w src dst e _ n c hs he hd,run_bytesToString w _ n c _ Yz,foldl_push_bytes];simp[bV,ByteArray.empty,ByteArray.emptyWithCapacity,I4,Function.comp_def];rfl
theorem Br{a w:au}{row:Option Nat}(h:a.grownBy w row):a.grownBy w.drew row:=⟨h.os,h.tape,h.output,h.size,h.block⟩
theorem yA{a w:au}{g:Nat}(h:a.grownBy w (some g)){p:aU}(hp:p.block=g\/a.heap.size<=p.block)(u:aC):a.grownBy (w.setCell p u) (some g):=
 ⟨h.os,h.tape,h.output,by simpa[gZ]using h.size,fun i hi pY=>(rD w p u i (by
  rintro rfl;rcases hp with hp|hp
  ·exact pY (by rw[hp])
  ·omega)).trans (h.block i hi pY)⟩
theorem NM{a b c:au}{row:Option Nat}(h:a.grownBy b row)(k:b.grownBy c row):a.grownBy c row:=
 ⟨k.os.trans h.os,k.tape.trans h.tape,k.output.trans h.output,aP h.size k.size,fun i hi pY=>(k.block i (eU hi h.size) pY).trans (h.block i hi pY)⟩
theorem um{B:Nat}{a b c:au}{g:Nat}(h:aN B a b)(k:b.grownBy c (some g))(hg:B<=g)(hB:B<=b.heap.size):aN B a c:=
 h.grown k hB (fun x hx=>by injection hx with hx;omega)
theorem fI{B:Nat}{a w:au}(h:aN B a w)(n:Nat):aN B a (w.drewN n):=⟨h.os,h.tape,h.output,h.size,h.block⟩
theorem ji{w a b:au}(h1:aN w.heap.size w a)(h2:aN a.heap.size a b):aN w.heap.size w b:=h1.trans (h2.mono h1.size)
theorem dig(n:Nat)(h:n<256):(aK n).toNat=n:=by simp[UInt8.toNat_ofNat];omega
theorem jT{w:au}{base:Nat}{e:bM}{size:Nat}{v:aC}{n:Nat}{xs:List aC}(h:w.ownsRow base e size v n xs):∃A cap,v=.slice A n cap/\n<=cap/\cap<=maxLen:=by
 rcases h.2 with⟨rfl,rfl⟩|⟨g,cap,cur,rfl,_,_,h1,h2,_,_⟩
 ·exact⟨_,_,rfl,ay _,by unfold maxLen;omega⟩
 ·exact⟨_,_,rfl,h1,h2⟩
section
variable {P:eF} (w:au)
theorem adx(base:Nat)(t ty e:bM)(i:nM)(size:Nat)(ht:P.underlying t=some (.slice e))(hi:P.info? e=some i)
 (v:aC) (n:Nat) (xs:List aC) (Az:w.ownsRow base e size v n xs) (c:Nat):(AQ #[t,t] ty #[v,.slice none 0 c]).run P w=.ok v w:=by
 rcases Az.2 with⟨rfl,rfl⟩|⟨g,cap,cur,rfl,_,_,tX,_⟩
 ·simp[AQ,dJ ht,sizeOf,typeInfo,hi,Builtin.lenOf,ug]
 ·simp[AQ,dJ ht,sizeOf,typeInfo,hi,Builtin.lenOf,ug,tX,storeCells]
theorem agd(base:Nat)(t ty e:bM)(i:nM)(z:aC)(size bytes:Nat)(ht:P.underlying t=some (.slice e))(hi:P.info? e=some i)(hz:i.zero=some z)
 (Jc:i.size=size) (hby:i.bytes=bytes) (Qs:z.cells.size=size) (jB:0<size)
 (v:aC) (n:Nat) (xs:List aC) (Az:w.ownsRow base e size v n xs)
 (B:Nat) (A:Option aU) (m c:Nat) (news:List aC) (hr:Rd w B size A m news) (h1:∀u∈news,u.oneCell'=true)
 (h63:n+m<=maxLen) (Vr:(n+m)*bytes<=140737488355328) (Jd:base<=w.heap.size) :
 ∃v' w',(AQ #[t,t] ty #[v,.slice A m c]).run P w=.ok v' w'/\w'.ownsRow base e size v' (n+m) (xs++news)/\w.grownBy w' v.ownBlock /\
  (v'.ownBlock=v.ownBlock\/v'.ownBlock=some w.heap.size):=by
 rcases A with _|ad
 ·have hm:m=0:=by
   rcases dX m with h0|h0
   ·exact h0
   ·obtain⟨ad,h,_⟩:=hr.2 h0
    cases h
  subst hm;have hn:news=[]:=bF (by simpa using hr.1);subst hn;exact⟨v,w,adx w base t ty e i size ht hi v n xs Az c,by simpa using Az,World.grownBy.refl w _,.inl rfl⟩
 ·have Vs:∀j u,news[j]? = some u->w.cell? (ad.add j)=some u:=by
   intro j u hu;rcases dX m with h0|h0
   ·subst h0
    have hn:news=[]:=bF (by simpa using hr.1);subst hn;simp at hu
   ·obtain⟨ad',h,_,hc⟩:=hr.2 h0
    injection h with h
    subst h;exact hc j u hu
  obtain⟨v',w',qc,h2,h3,_,h5⟩:=run_append_own_at (P:=P) w base t ty e i z size bytes ht hi hz Jc hby Qs jB v n xs Az ad m c news hr.1 Vs h1 h63 Vr Jd;exact⟨v',w',qc,h2,h3,h5⟩
theorem Kt{o:iV}{a:re}{K:re->au->Prop}{Q:Aq->re->au->Prop}(s x:pQ)(t:bM)
 (ho:o.op=.call {callee:=.builtin .append,args:=#[s,x],argTypes:=#[t,t]})
 (base:Nat) (e:bM) (i:nM) (z:aC) (size bytes:Nat) (ht:P.underlying t=some (.slice e)) (hi:P.info? e=some i) (hz:i.zero=some z)
 (Jc:i.size=size) (hby:i.bytes=bytes) (Qs:z.cells.size=size) (jB:0<size)
 (v:aC) (n:Nat) (xs:List aC) (hs:a.eval s=v) (Az:w.ownsRow base e size v n xs)
 (B:Nat) (A:Option aU) (m c:Nat) (news:List aC) (hx:a.eval x=.slice A m c) (hr:Rd w B size A m news) (h1:∀u∈news,u.oneCell'=true)
 (h63:n+m<=maxLen) (Vr:(n+m)*bytes<=140737488355328) (Jd:base<=w.heap.size)
 (h:∀v' w',w'.ownsRow base e size v' (n+m) (xs++news)->w.grownBy w' v.ownBlock->(v'.ownBlock=v.ownBlock\/v'.ownBlock=some w.heap.size)->K (a.put o.dst v') w'):o.wp P a w K Q:=by
 obtain⟨v',w',qc,h2,h3,h4⟩:=agd (P:=P) w base t o.type e i z size bytes ht hi hz Jc hby Qs jB v n xs Az B A m c news hr h1 h63 Vr Jd;unfold nD execOp;simp only[ho,resolve,invoke,builtin,jK,ou,gK,List.map_toArray,kL,List.map_nil,hs,hx,qc];exact h v' w' h2 h3 h4
theorem jI{ops:Array iV}{rest:List iV}{o:iV}{a:re}{Q:Aq->re->au->Prop}(Gl:o.guard=none)(s x:pQ)(t:bM)
 (ho:o.op=.call {callee:=.builtin .append,args:=#[s,x],argTypes:=#[t,t]})
 (base:Nat) (e:bM) (i:nM) (z:aC) (size bytes:Nat) (ht:P.underlying t=some (.slice e)) (hi:P.info? e=some i) (hz:i.zero=some z)
 (Jc:i.size=size) (hby:i.bytes=bytes) (Qs:z.cells.size=size) (jB:0<size)
 (v:aC) (n:Nat) (xs:List aC) (hs:a.eval s=v) (Az:w.ownsRow base e size v n xs)
 (B:Nat) (A:Option aU) (m c:Nat) (news:List aC) (hx:a.eval x=.slice A m c) (hr:Rd w B size A m news) (h1:∀u∈news,u.oneCell'=true)
 (h63:n+m<=maxLen) (Vr:(n+m)*bytes<=140737488355328) (Jd:base<=w.heap.size)
 (h:∀v' w',w'.ownsRow base e size v' (n+m) (xs++news)->w.grownBy w' v.ownBlock->(v'.ownBlock=v.ownBlock\/v'.ownBlock=some w.heap.size)->wpList P ops Q rest (a.put o.dst v') w'):wpList P ops Q (o::rest) a w:=
 tu Gl fun _ hK=>Kt w s x t ho base e i z size bytes ht hi hz Jc hby Qs jB v n xs hs Az B A m c news hx hr h1 h63 Vr Jd fun v' w' h2 h3 h4=>hK _ _ (h v' w' h2 h3 h4)
end
theorem Mw:(aj.info? 5).map (fun i=>(i.zero,i.size,i.bytes))=some (some (.int .u8 0),1,1):=by kernel_rfl
def Je(n i:Nat):UInt8:=aK (n/2^(8*i))
def wu(n k:Nat):List UInt8:=(dW k).map (Je n)
def iM(n k:Nat)(big:Bool):List UInt8:=if big then(wu n k).reverse else wu n k
theorem amO(f:Nat->Int)(k m n i:Nat)(hm:m+k+1=n)(hkm:k<m)(hi:i<n)(x y:Int)(hx:x=f k)(hy:y=f m):
 (if i=m then aJ .u8 x else if i=k then aJ .u8 y else aJ .u8 (if i<k\/n-k<=i then f (n-1-i)else f i)) =
  aJ .u8 (if i<k+1\/n-(k+1)<=i then f (n-1-i)else f i):=by
 subst hx hy;by_cases h1:i=m
 ·subst h1
  rw[if_pos rfl,if_pos (by omega)];congr 2;omega
 ·rw[if_neg h1]
  by_cases h2:i=k
  ·subst h2
   rw[if_pos rfl,if_pos (by omega)];congr 2;omega
  ·rw[if_neg h2]
   by_cases h3:i<k\/n-k<=i
   ·rw[if_pos h3,if_pos (by omega)]
   ·rw[if_neg h3,if_neg (by omega)]
theorem ady(g n c:Nat)(f:Nat->Int)(w:au)(hb:w.rowIs g 5 n (fun j=>.int .u8 (f j)))(hn:n<=4611686018427387904):
 aR aj 255 #[.slice (some ⟨g,0,none⟩) n c] w fun e w'=>e=.returned (.tuple #[]) /\
  w'.rowIs g 5 n (fun j=>.int .u8 (f (n-1-j)))/\w.grownBy w' (some g):=by
 go_enter Tryz.func255,Tryz.ntmps255;go_wp2;go_loopw [2,3] (fun s2 s3 wr=>∃k:Nat,2*k<=n+1/\s2=.int .i64 k/\s3=.int .i64 ((n:Int)-1-k)/\wr.rowIs g 5 n (fun j=>.int .u8 (if j<k\/n-k<=j then f (n-1-j)else f j))/\w.grownBy wr (some g)) (fun _ s3 _=>(intOf s3+1).toNat)
 case atStart=>exact⟨0,by omega,rfl,by simp,hb.congr (fun i hi=>by rw[if_neg (by omega)]),World.grownBy.refl _ _⟩
 case round=>
  obtain⟨k,hk,rfl,rfl,nH,hg⟩:=hrel;by_cases fP:(k:Int)<(n:Int)-1-k
  ·obtain⟨m,hm⟩:∃m:Nat,(n:Int)-1-k=m:=⟨n-1-k,by omega⟩
   have YG:k<m:=by omega
   have Dg:m+k+1=n:=by omega
   rw[hm]at fP ⊢;clear hm;have HM:=ah Dg;have c1:=nH.cell (i:=k) (by omega);have c2:=nH.cell (i:=m) (by omega);have f1:=nH.frozen k;have f2:=nH.frozen m;rw[if_neg (by omega)]at c1 c2;have gI:(k:Int)<n:=by omega
   have kF:(m:Int)<n:=by omega
   clear Dg;obtain⟨x,hx⟩:∃x,x=f k:=⟨_,rfl⟩
   obtain⟨y,hy⟩:∃y,y=f m:=⟨_,rfl⟩
   rw[<-hx]at c1;rw[<-hy]at c2;have HX:=ah hx;have HY:=ah hy;clear hx hy;have HR:=ah nH;clear nH;go_wp2;go_region
   all_goals go_wp2
   all_goals go_roundw
   case rel=>
    have Dg:=HM.out;refine⟨k+1,by omega,by go_num,by simp<;>omega,?_,?_⟩
    ·refine(((HR.out.drew.set k _).set m _)).congr (fun i hi=>?_)
     exact amO f k m n i Dg YG hi x y HX.out HY.out
    ·exact yA (yA (Br hg) (.inl rfl) _) (.inl rfl) _
   case measure=>simp[intOf]<;>omega
  ·go_wp2
   go_end0;refine⟨rfl,nH.congr (fun i hi=>?_),hg⟩;by_cases h1:i<k\/n-k<=i
   ·rw[if_pos h1]
   ·rw[if_neg h1]
    have:n-1-i=i:=by omega
    rw[this]
theorem amP(n i:Nat):((Je n i).toNat:Int)=(n:Int)/2^(8*i)%256:=by
 unfold Je;simp[UInt8.toNat_ofNat]
theorem aq8(n k:Nat)(hk:k<=8)(hn:n<18446744073709551616)(big:Bool)(w:au):
 aR aj 184 #[.int .u64 n,.int .i64 k,.bool big] w fun e w'=>e=.returned (.slice (some ⟨w.heap.size,0,none⟩) k k) /\
  w'.rowIs w.heap.size 5 k (fun j=>bv ((iM n k big).getD j 0))/\aN w.heap.size w w':=by
 have hmk:=run_make_row' (P:=aj) 56 5 (.int .u8 0) 1 dw Mw rfl .i64 .i64 k (by omega) (by omega);go_enter Tryz.func184,Tryz.ntmps184;go_wp2;go_loopw [15] (fun s15 wr=>∃i:Nat,i<=k/\s15=.int .i64 i/\wr.rowIs w.heap.size 5 k (fun j=>if j<i then bv (Je n j)else .int .u8 0)/\aN w.heap.size w wr) (fun s15 _=>k-(intOf s15).toNat)
 case atStart=>
  refine⟨0,by omega,rfl,?_,(aH _ _).alloc (ay _) _⟩;exact(World.rowIs_made w (.int .u8 0) k _).congr (fun i hi=>by simp)
 case round=>
  obtain⟨i,hi,rfl,nH,hb⟩:=hrel;by_cases fP:i<k
  ·have c1:=nH.cell fP
   have f1:=nH.frozen i;rw[if_neg (by omega)]at c1;have hlb:=amP n i;have HL:=ah hlb;have HR:=ah nH;have HB:=ah hb;clear hlb nH hb hmk;go_wp2;go_roundw
   case rel=>
    refine⟨i+1,by omega,by go_num,?_,?_⟩
    ·refine(HR.out.set i _).congr (fun j hj=>?_)
     by_cases e:j=i
     ·subst e
      rw[if_pos rfl,if_pos (by omega)];unfold bv;rw[HL.out]
     ·rw[if_neg e]
      by_cases e2:j<i
      ·rw[if_pos e2,if_pos (by omega)]
      ·rw[if_neg e2,if_neg (by omega)]
    ·exact HB.out.setCell (ay _) _
   case measure=>simp[intOf]<;>omega
  ·obtain rfl:i=k:=by omega
   have HB:=ah hb;clear hb hmk;cases big
   ·have HR:=ah nH
    clear nH;go_wp2;go_ret;refine⟨rfl,HR.out.congr (fun j hj=>?_),HB.out⟩;rw[if_pos hj];simp[iM,wu,av,hj]
   ·have at':wr.rowIs w.heap.size 5 i (fun j=>.int .u8 ((Je n j).toNat:Nat)):=nH.congr (fun j hj=>by rw[if_pos hj];rfl)
    have aGg:=fun c=>ady w.heap.size i c (fun j=>((Je n j).toNat:Nat)) wr at' (by omega)
    clear nH at';go_wp2_with (go_at_call 255;refine(aGg _).mono ?_;rintro e w' ⟨rfl,hr',hg'⟩);go_ret;refine⟨rfl,hr'.congr (fun j hj=>?_),um HB.out hg' (ay _) HB.out.size⟩;simp[iM,wu,av,List.getElem?_reverse,hj,bv]
def oJ(l:List UInt8):Nat:=l.foldl (fun a c=>a*256+c.toNat) 0
theorem Jf(l:List UInt8)(c:UInt8):oJ (l++[c])=oJ l*256+c.toNat:=by simp[oJ]
theorem Ku(l:List UInt8):oJ l<256^l.length:=by
 have key:∀(l:List UInt8)(a k:Nat),a<256^k->l.foldl (fun a c=>a*256+c.toNat) a<256^(k+l.length):=by
  intro l
  induction l with
  | nil=>intro a k h;simpa using h
  | cons c l ih=>
    intro a k h;have:=ih (a*256+c.toNat) (k+1) (by rw[Nat.pow_succ];have:=c.toNat_lt;omega);simp only[jV,bC];rw[show k+(l.length+1)=k+1+l.length by omega];exact this
 have:=key l 0 0 (by simp);rw[bB]at this;exact this
theorem Vt(l:List UInt8)(k:Nat)(h:k<l.length):l.take (k+1)=l.take k++[l.getD k 0]:=by
 rw[dP h,av,aD h];rfl
theorem aix(a c:Nat)(ha:a*256<18446744073709551616)(hc:c<256):bits .or .u64 ((a:Int)*256) (c:Int)=((a*256+c:Nat):Int):=by
 rw[show(a:Int)*256=((a*256:Nat):Int)by omega,bits_or_u64_nat _ _ ha (by omega)];rw[show a*256=a <<< 8 by rw[mF],Nat.shiftLeft_add_eq_or_of_lt (by omega)]
theorem NQ(A:Option aU)(n c:Nat)(l:List UInt8)(w:au)(tX:n<=c)(hc:c<=9223372036854775807)(hr:gy w w.heap.size A n l):
 aR aj 180 #[.slice A n c,.bool true] w (gP w (.int .u64 (oJ (l.take 8)))):=by
 have hlen:=hr.len;have Mx:=hr.alloc (ay _) (.cells #[.int .u64 0] 92);obtain⟨m,hm,hm8,hmn⟩:∃m:Nat,(if(8:Int)<(n:Int)then(8:Int)else(n:Int))=m/\m<=8/\m<=n:=⟨min n 8,by split<;>omega,by omega,by omega⟩
 have hmm:m=min n 8:=by split at hm<;>omega
 have HMM:=ah hmm;have zC:n<=l.length:=by omega
 have vL:=ah hlen;clear hlen hmm;go_enter Tryz.func180,Tryz.ntmps180;go_wp2;have HM:=ah hm;clear hm;go_loopw [18] (fun s18 wr=>∃i:Nat,i<=m/\s18=.int .i64 i/\wr.rowIs w.heap.size 92 1 (fun _=>.int .u64 (oJ (l.take i)))/\gy wr w.heap.size A n l/\aN w.heap.size w wr) (fun s18 _=>m-(intOf s18).toNat)
 case atStart=>exact⟨0,by omega,rfl,(World.rowIs_alloc w #[.int .u64 0] _ _ (fun i hi=>by simp at hi;subst hi;rfl)),Mx,(aH _ _).alloc (ay _) _⟩
 case round=>
  obtain⟨i,hi,rfl,nH,Uc,hb⟩:=hrel;by_cases fP:i<m
  ·obtain⟨a,rfl,EH,hcell⟩:=Uc.fE (k:=i) (by omega)
   have c1:=nH.cell (i:=0) (by omega);have f1:=nH.frozen 0;have hbn:=Ku (l.take i);have hsn:=Jf (l.take i) (l.getD i 0);rw[<-Vt l i (by omega)]at hsn;have Zr:oJ (l.take i)*256<18446744073709551616:=by
    have h1:(l.take i).length<=7:=by rw[bK];omega
    have h2:256^(l.take i).length<=256^7:=nQ (by omega) h1;omega
   have hor:=aix (oJ (l.take i)) (l.getD i 0).toNat Zr (l.getD i 0).toNat_lt;have Ej:=ah hsn;have HR:=ah nH;have HD:=ah Uc;have HB:=ah hb;have aj0:=(l.getD i 0).toNat_lt;unfold bv at hcell;generalize(l.getD i 0).toNat=ch at hcell hor aj0 Ej;generalize oJ (l.take i)=nn at c1 Zr hor Ej HR;clear nH Uc hb hsn hbn hr Mx;go_wp2;go_roundw
   case rel=>
    refine⟨i+1,by omega,by go_num,?_,?_,?_⟩
    ·refine(HR.out.set 0 _).congr (fun j hj=>?_)
     rw[if_pos (by omega),Ej.out];go_num
    ·exact HD.out.setCell (ay _) _
    ·exact HB.out.setCell (ay _) _
   case measure=>simp[intOf]<;>omega
  ·obtain rfl:i=m:=by omega
   have c1:=nH.cell (i:=0) (by omega);have HB:=ah hb;clear nH Uc hb hr Mx;go_wp2;go_ret;refine⟨?_,HB.out⟩;have hmm:=HMM.out;have hlen:=vL.out;have e:l.take 8=l.take i:=by
    rw[hmm];by_cases h8:n<=8
    ·rw[oH h8,aL (by omega),aL (by omega)]
    ·rw[Nat.min_eq_right (by omega)]
   rw[e];rfl
section
open Go.ChangeShapes Go.WideShapes Go.ChangeAt Go.RowKit
theorem vU:ownKnob aj.godebug=none:=by kernel_rfl
theorem aiy:laidOutB aj=true:=by kernel_rfl
section
variable {H:Type} {enc:bM×aC->H} {P:eF}
theorem LU(hl:laidOutB P=true){W W':au}(hb:aN W.heap.size W W'):∀{ts:List bM} {vs:List aC} {ds:List (zY H)} {ps:List tC},
 (ts.all fun t=>P.readableRec t&&decide (t<P.types.size))=true->(∀x∈ps,x.block<W.heap.size) ->
 DataW.TrodAll enc P W 0 (fun _=>true) true ts vs ds ps->DataW.TrodAll enc P W' 0 (fun b=>decide (b<W.heap.size)) true ts vs ds ps
 | [],vs,ds,ps,_,_,h=>by
   obtain⟨rfl,rfl,rfl⟩:=trodAll_nil h;exact trodAll_mk0
 | t::ts,vs,ds,ps,hr,fP,h=>by
   obtain⟨v,vs',d,ds',p,q,rfl,rfl,rfl,h1,h2⟩:=trodAll_cons h;simp only[List.all_cons,bl,decide_eq_true_eq]at hr;exact trodAll_cons_mk (Below.trod hl hr.1.1 hr.1.2 h1 hb (fun x hx=>fP x (Bo _ hx)))
    (LU hl hb hr.2 (fun x hx=>fP x (List.mem_append_right _ hx)) h2)
theorem amQ{f:Func}{s:ChangeSpec}(hl:laidOutB P=true){W W':au}{args:Array aC}{ds gs:List (zY H)}{before:List tC}
 (aua:s.vars=[]) (hr:(f.params.toList.all fun t=>P.readableRec t&&decide (t<P.types.size))=true) (T:bM) (hT:P.underlying T=some .bool) (aGi:f.resultTypes = #[T])
 (hW:DataW.Whole enc P f.params.toList s.vars false W args.toList ds gs before)
 (hs:s.fn H ds={results:=[.lit (.bool true)],args:=ds})
 (hb:aN W.heap.size W W'):s.post enc P f false true false false W args (.bool true) W':=by
 have fP:∀p∈before,p.block<W.heap.size:=fun p hp=>hW.lt p hp
 have hW':=hW;obtain⟨p,q,hA,hV,rfl,hfz,hnd⟩:=hW;rw[aua]at hV;obtain⟨rfl,rfl⟩:=trodVars_none hV;refine⟨ds,[],p++[],[],p,[],hW',?_,?_,?_,?_,fun h=>by cases h⟩
 ·rw[uT,hs,aGi]
  exact trodAll_mk1 (shut_bool hT true)
 ·rw[uT,hs]
  exact LU hl hb hr (fun x hx=>fP x (Bo _ hx)) hA
 ·rw[uT,hs,aua]
  rfl
 ·exact hb.frame _
end
end
@[go_sem,simp]theorem LV(l:List UInt8):(bV l).toList=l:=ByteArray.toList_mk l
@[go_sem,simp]theorem DF(l:List UInt8):(bV l).size=l.length:=by simp[bV,ByteArray.size]
def sI(w:au)(e:bM)(s:List UInt8):au:=Lib.bytesWorld w e (bV s)
theorem Ih(w:au)(e:bM)(s:List UInt8):aN w.heap.size w (sI w e s):=
 ⟨rfl,rfl,rfl,by unfold sI;rw[Lib.bytesWorld_size];omega,fun k hk=>Lib.bytesWorld_at_old w e _ k hk⟩
theorem Ii(w:au)(e:bM)(s:List UInt8):gy (sI w e s) (w.heap.size+1) (some ⟨w.heap.size,0,none⟩) s.length s:=by
 refine⟨by simp,fun _=>⟨_,rfl,mG _,fun j u hu=>?_⟩⟩;have hj:j<s.length:=by
  rcases bf j s.length with h1|h1
  ·exact h1
  ·rw[aT (by simpa using h1)]at hu;cases hu
 have e1:(⟨w.heap.size,0,none⟩:aU).add j=⟨w.heap.size,j,none⟩:=by unfold rF;split<;>simp_all
 rw[e1];unfold sI;rw[Lib.bytesWorld_cell w e _ j (by rw[DF];exact hj)];rw[jD,aD hj]at hu;simp only[ni,uj]at hu;rw[<-hu];simp[bV,bv,av,hj]
theorem Jg{P:eF}(src dst e:bM)(hs:P.underlying src=some .string)(hd:P.underlying dst=some (.slice e))(he:P.underlying e=some (.int .u8))(s:List UInt8)(w:au):
 (convert src dst (.string (bV s))).run P w=.ok (.slice (some ⟨w.heap.size,0,none⟩) s.length (grownCap w s.length 0 e)) (sI w e s):=by
 have:=Lib.run_convert_string_bytes (P:=P) w src dst e (bV s) hs hd he;rw[DF]at this;exact this
section
open Go.RowKit Go.ChangeShapes Go.WideShapes Go.ChangeAt Go.Deep
def fv(n:Nat):aC:=.float .f64 n
@[go_sem]theorem aK8(n:Nat):fv n=.float .f64 n:=rfl
section
variable {P:eF}
theorem mU(w:au)(c:Array aC)(t:bM)(j:Nat):(w.alloc (.cells c t)).cell? ⟨w.heap.size,j,none⟩=c[j]?:=
 tF _ _ j c t (0,0) (heap_alloc_last w _)
end
def xS(W:au)(b o n:Nat):Prop:=∀j,j<n->∃v,W.cell? ⟨b,o+j,none⟩=some v
def dY(W:au)(b o n:Nat):Array aC:=((dW n).map fun j=>(W.cell? ⟨b,o+j,none⟩).getD undef).toArray
theorem Gm(W:au)(b o n:Nat):(dY W b o n).size=n:=by simp[dY]
theorem Jh(W:au)(b o n j:Nat)(hj:j<n):(dY W b o n)[j]? = some ((W.cell? ⟨b,o+j,none⟩).getD undef):=by
 simp[dY,dZ,hj]
theorem xB{W:au}{b o n:Nat}{c:Array aC}(hn:c.size=n)(h:∀j,j<n->W.cell? ⟨b,o+j,none⟩=c[j]?):xS W b o n/\dY W b o n=c:=by
 subst hn;constructor
 ·intro j hj
  exact⟨c[j],by rw[h j hj];exact fq hj⟩
 ·apply dV
  intro j;rcases bf j c.size with hj|hj
  ·rw[Jh _ _ _ _ _ hj,h j hj,fq hj];rfl
  ·rw[aV (by rw[Gm];exact hj),aV hj]
theorem Gn{W W':au}{b o n:Nat}(h:∀j,j<n->W'.cell? ⟨b,o+j,none⟩=W.cell? ⟨b,o+j,none⟩):dY W' b o n=dY W b o n:=by
 unfold dY;congr 1;refine Db (fun j hj=>?_);rw[h j (eH.1 hj)]
@[go_sem]theorem aAk(W:au)(b o n:Nat):xS W.drew b o n=xS W b o n:=by rw[eq_iff_iff];exact Iff.rfl
@[go_sem]theorem aq'(W:au)(b o n:Nat):dY W.drew b o n=dY W b o n:=rfl
@[go_sem]theorem ay8(W:au)(k b o n:Nat):xS (W.drewN k) b o n=xS W b o n:=by rw[eq_iff_iff];exact Iff.rfl
@[go_sem]theorem aqA(W:au)(k b o n:Nat):dY (W.drewN k) b o n=dY W b o n:=rfl
@[go_sem]theorem aqB(W:au)(ob:Obj)(b o n:Nat)(hb:b<W.heap.size):dY (W.alloc ob) b o n=dY W b o n:=
 Gn fun j _=>vQ W ob _ hb
@[go_sem]theorem aqC(W:au)(ob:Obj)(b o n:Nat)(hb:b<W.heap.size):xS (W.alloc ob) b o n=xS W b o n:=by
 have h:∀j,(W.alloc ob).cell? ⟨b,o+j,none⟩=W.cell? ⟨b,o+j,none⟩:=fun j=>vQ W ob _ hb
 unfold xS;simp only[h]
theorem abl(w:au)(c:Array aC)(t:bM)(o n:Nat)(d:Array aC)(hd:d.size=n)(h:∀j,j<n->c[o+j]? = d[j]?):
 xS (w.alloc (.cells c t)) w.heap.size o n/\dY (w.alloc (.cells c t)) w.heap.size o n=d:=
 xB hd fun j hj=>by rw[mU];exact h j hj
theorem ko{P:eF}(W:au)(b o n:Nat)(ty:bM)(d:TypeDesc)(hu:P.underlying ty=some d)(hd:d.isRow=true)(hi:(P.info? ty).map (·.size)=some n)(h:xS W b o n):
 (bZ ty (.pointer (some ⟨b,o,none⟩))).run P W=.ok (.agg (dY W b o n)) W:=by
 have hc:W.rangeAt b o (dY W b o n).toList:=fun j v hv=>by
  have hj:j<n:=by
   rcases bf j n with h1|h1
   ·exact h1
   ·rw[aT (by rw[aZ,Gm];exact h1)]at hv;cases hv
  rw[dD,Jh _ _ _ _ _ hj]at hv;obtain⟨u,hu⟩:=h j hj;rw[hu]at hv ⊢;exact hv
 have:=run_loadAt_mid (P:=P) W b o ty (dY W b o n).toList d hc hu hd (by rw[hi,aZ,Gm]);simpa using this
theorem Sv{w W:au}{b o n B:Nat}(h:w.there b o n)(hb:aN B w W)(fP:b<B):W.there b o n:=fun j hj=>by
 obtain⟨h1,h2⟩:=h j hj;exact⟨by rw[hb.cell fP];exact h1,by rw[hb.frozen fP];exact h2⟩
theorem aj1{w W:au}{c:Array aC}{t:bM}(hb:aN (w.alloc (.cells c t)).heap.size (w.alloc (.cells c t)) W):∀k,W.cell? ⟨w.heap.size,k,none⟩=c[k]?:=fun k=>by
 rw[hb.cell (p:=⟨w.heap.size,k,none⟩) (by simp)];exact mU w c t k
theorem nX(c:Array aC)(o n j:Nat)(hj:j<n)(h:o+n<=c.size):(c.extract o (o+n))[j]? = c[o+j]?:=by
 rw[dx];simp;omega
def eu(c:Array aC):Nat:=c.size
@[go_sem]theorem aEg(W:au)(c:Array aC)(t:bM)(b o n:Nat)(hb:b=W.heap.size)(h:o+n<=eu c):xS (W.alloc (.cells c t)) b o n=True:=by
 subst hb;unfold eu at h;simp only[eq_iff_iff,iff_true];exact(abl W c t o n (c.extract o (o+n)) (by rw[jF];omega) (fun j hj=>(nX c o n j hj h).symm)).1
@[go_sem]theorem aub(W:au)(c:Array aC)(t:bM)(b o n:Nat)(hb:b=W.heap.size)(h:o+n<=eu c):dY (W.alloc (.cells c t)) b o n=c.extract o (o+n):=by
 subst hb;unfold eu at h;exact(abl W c t o n (c.extract o (o+n)) (by rw[jF];omega) (fun j hj=>(nX c o n j hj h).symm)).2
theorem Vu{W w1:au}(hb:aN W.heap.size W w1):
 (∀b o,b<W.heap.size->w1.cell? ⟨b,o,none⟩=W.cell? ⟨b,o,none⟩)/\(∀b o,b<W.heap.size->w1.frozen? ⟨b,o,none⟩=W.frozen? ⟨b,o,none⟩) /\
 (∀b o n,b<W.heap.size->xS w1 b o n=xS W b o n)/\(∀b o n,b<W.heap.size->dY w1 b o n=dY W b o n)/\W.heap.size<=w1.heap.size:=by
 refine⟨fun b o h=>hb.cell (p:=⟨b,o,none⟩) h,fun b o h=>hb.frozen (p:=⟨b,o,none⟩) h,fun b o n h=>?_,fun b o n h=>Gn fun j _=>hb.cell (p:=⟨b,o+j,none⟩) h,hb.size⟩;unfold xS;have:∀j,w1.cell? ⟨b,o+j,none⟩=W.cell? ⟨b,o+j,none⟩:=fun j=>hb.cell (p:=⟨b,o+j,none⟩) h
 simp only[this]
@[go_sem]theorem aEh(W:au)(p:aU)(v:aC)(b o n:Nat):xS (W.setCell p v) b o n=xS W b o n:=by
 rw[eq_iff_iff];unfold xS;refine forall_congr' fun j=>forall_congr' fun hj=>?_
 by_cases hp:p=⟨b,o+j,none⟩
 ·subst hp
  cases h:W.cell? ⟨b,o+j,none⟩with
  | none=>
    have:(W.setCell ⟨b,o+j,none⟩ v).cell? ⟨b,o+j,none⟩=none:=by
     cases h2:(W.setCell ⟨b,o+j,none⟩ v).cell? ⟨b,o+j,none⟩with
     | none=>rfl
     | some u=>
       exfalso;cases hb:W.heap[b]? with
       | none=>simp[EJ,gZ,zZ,hb]at h2
       | some ob=>
         cases ob<;>simp_all[EJ,gZ,zZ]
    simp[this]
  | some u=>simp[World.cell?_setCell_same _ _ _ h]
 ·rw[wK _ _ _ _ hp]
@[go_sem]theorem auc(W:au)(p:aU)(v:aC)(b o n:Nat)(hp:p.block≠b):dY (W.setCell p v) b o n=dY W b o n:=
 Gn fun j _=>wK _ _ _ _ (fun e=>hp (by rw[e]))
def dL(W:au)(b:Nat)(c:Array aC):Prop:=∃t,W.heap[b]? = some (.cells c t (0,0))
theorem dL.lt{W:au}{b:Nat}{c:Array aC}(h:dL W b c):b<W.heap.size:=by
 obtain⟨t,h⟩:=h;exact(bW.1 h).1
theorem dL.new(W:au)(c:Array aC)(t:bM):dL (W.alloc (.cells c t)) W.heap.size c:=⟨t,Ic W _⟩
theorem dL.Vv(W:au)(ob:Obj)(c:Array aC)(t:bM):dL ((W.alloc ob).alloc (.cells c t)) (W.heap.size+1) c:=by
 have:=dL.new (W.alloc ob) c t
 rwa [show(W.alloc ob).heap.size=W.heap.size+1 by simp]at this
theorem dL.aj2(W:au)(ob Ij:Obj)(c:Array aC)(t:bM):dL (((W.alloc ob).alloc Ij).alloc (.cells c t)) (W.heap.size+2) c:=by
 have:=dL.Vv (W.alloc ob) Ij c t
 rwa [show(W.alloc ob).heap.size+1=W.heap.size+2 by simp]at this
theorem dL.alloc{W:au}{b:Nat}{c:Array aC}(h:dL W b c)(ob:Obj):dL (W.alloc ob) b c:=by
 have hl:=h.lt;obtain⟨t,h⟩:=h;exact⟨t,by rw[Below.heap_alloc W ob b hl];exact h⟩
theorem dL.drew{W:au}{b:Nat}{c:Array aC}(h:dL W b c):dL W.drew b c:=h
theorem dL.drewN{W:au}{b:Nat}{c:Array aC}(h:dL W b c)(n:Nat):dL (W.drewN n) b c:=h
theorem dL.below{W W':au}{b B:Nat}{c:Array aC}(h:dL W b c)(hb:aN B W W')(hl:b<B):dL W' b c:=by
 obtain⟨t,h⟩:=h;exact⟨t,by rw[hb.block b hl];exact h⟩
theorem dL.grown{W W':au}{b:Nat}{c:Array aC}{row:Option Nat}(h:dL W b c)(hg:W.grownBy W' row)(hl:some b≠row):dL W' b c:=by
 have hl2:=h.lt;obtain⟨t,h⟩:=h;exact⟨t,by rw[hg.block b hl2 hl];exact h⟩
theorem dL.dM{W:au}{b:Nat}{c:Array aC}(h:dL W b c)(p:aU)(v:aC)(hp:p.block≠b):dL (W.setCell p v) b c:=by
 obtain⟨t,h⟩:=h;exact⟨t,by rw[rD W p v b (fun e=>hp e.symm)];exact h⟩
theorem dL.eG{W:au}{b:Nat}{c:Array aC}(h:dL W b c)(j:Nat)(v:aC):dL (W.setCell ⟨b,j,none⟩ v) b (c.setIfInBounds j v):=by
 obtain⟨t,h⟩:=h;exact⟨t,by rw[setCell_eq_setRow W b j c t (0,0) v h];exact rQ W b c _ t (0,0) h⟩
theorem dL.aI{W:au}{b:Nat}{c:Array aC}(h:dL W b c):
 (∀j,W.cell? ⟨b,j,none⟩=c[j]?)/\(∀j,W.frozen? ⟨b,j,none⟩=false)/\(∀o n,o+n<=eu c->xS W b o n=True)/\(∀o n,o+n<=eu c->dY W b o n=c.extract o (o+n)):=by
 obtain⟨t,h⟩:=h;have hc:∀j,W.cell? ⟨b,j,none⟩=c[j]?:=fun j=>tF W b j c t (0,0) h
 refine⟨hc,fun j=>by simp[sF,h],fun o n hn=>?_,fun o n hn=>?_⟩
 ·unfold eu at hn
  simp only[eq_iff_iff,iff_true];exact(xB (c:=c.extract o (o+n)) (by rw[jF];omega) (fun j hj=>by rw[hc,nX c o n j hj hn])).1
 ·unfold eu at hn
  exact(xB (c:=c.extract o (o+n)) (by rw[jF];omega) (fun j hj=>by rw[hc,nX c o n j hj hn])).2
theorem dL.there{W:au}{b:Nat}{c:Array aC}(h:dL W b c)(o n:Nat)(hn:o+n<=c.size):W.there b o n:=by
 obtain⟨t,h⟩:=h;intro j hj;have hj':o+j<c.size:=by omega
 refine⟨by rw[tF W b (o+j) c t (0,0) h,fq hj'];rfl,by simp[sF,h]⟩
theorem LW(l:List aC):∀(k off:Nat)(cells:Array aC)(j:Nat),
 ((l.zipIdx k).foldl (fun cs (x:aC×Nat)=>cs.setIfInBounds (off+x.2) x.1) cells)[j]? = if off+k<=j/\j<off+k+l.length/\j<cells.size then l[j-(off+k)]? else cells[j]?:=by
 induction l with
 | nil=>intro k off cells j;simp;omega
 | cons v l ih=>
   intro k off cells j;rw[Iz,jV,ih (k+1) off];simp only[Array.size_setIfInBounds,bC,Array.getElem?_setIfInBounds];by_cases h1:off+k<=j/\j<off+k+(l.length+1)/\j<cells.size
   ·by_cases h2:off+k=j
    ·subst h2
     have:¬off+(k+1)<=off+k:=by omega
     simp[this,h1.2.2]
    ·have h3:off+(k+1)<=j/\j<off+(k+1)+l.length/\j<cells.size:=by omega
     rw[if_pos h3,if_pos h1,show j-(off+k)=(j-(off+(k+1)))+1 by omega,List.getElem?_cons_succ]
   ·have h3:¬(off+(k+1)<=j/\j<off+(k+1)+l.length/\j<cells.size):=by omega
    rw[if_neg h3,if_neg h1];by_cases h2:off+k=j
    ·subst h2
     have:¬off+k<cells.size:=by simp at h1;omega
     simp[this]
    ·simp[h2]
theorem Vw(v cells:Array aC)(h:v.size=cells.size):Array.foldl (fun cs (x:aC×Nat)=>cs.setIfInBounds (0+x.2) x.1) cells v.zipIdx=v:=by
 apply dV;intro j;have h1:=LW v.toList 0 0 cells j;rw[<-Dx,Array.toList_zipIdx,h1];by_cases hj:j<cells.size
 ·simp[h,hj]
 ·simp[hj];omega
theorem rX{P:eF}(w:au)(t e:bM)(i:nM)(z:aC)(size:Nat)(ht:P.underlying t=some (.slice e))(hi:P.info? e=some i)(hz:i.zero=some z)(Jc:i.size=size)(Qs:z.cells.size=size)(h0:0<size)(h24:size<=16777216)(c:Array aC)(hc:c.size=size):
 (bJ t 1 #[(0,.agg c)]).run P w=.ok (.slice (some ⟨w.heap.size,0,none⟩) 1 1) (w.alloc (.cells c e)):=by
 have hx:(bY c).cells=c:=rfl;have hfw:=Vw c ((lW (1*size)).map (z.cells[· % z.cells.size]!)) (by simp[hc]);have pY:¬size=0:=by omega
 have aGk:¬16777216<size:=by omega
 simp only[bB,Nat.one_mul,Array.size_zipIdx,hc]at hfw;simp[bJ,dJ ht,sizeOf,typeInfo,zeroValue,hi,hz,Jc,pY,aGk,fB,hx,hc,newRow,hfw]
theorem dL.go{W w1:au}{b:Nat}{c:Array aC}(h:dL W b c)(hb:aN W.heap.size W w1):dL w1 b c:=h.below hb h.lt
theorem amR{w W w1:au}(h:aN w.heap.size w W)(hb:aN W.heap.size W w1):aN w.heap.size w w1:=ji h hb
theorem aAl{w W w1:au}{ob:Obj}(h:aN w.heap.size w W)(hb:aN (W.alloc ob).heap.size (W.alloc ob) w1):aN w.heap.size w w1:=ji (h.alloc h.size ob) hb
def sJ(cells:Array aC)(off:Nat)(v:Array aC):Array aC:=v.zipIdx.foldl (fun cs (x:aC×Nat)=>cs.setIfInBounds (off+x.2) x.1) cells
theorem EL(cells v:Array aC)(off j:Nat):(sJ cells off v)[j]? = if off<=j/\j<off+v.size/\j<cells.size then v[j-off]? else cells[j]?:=by
 have h:=LW v.toList 0 off cells j;unfold sJ;rw[<-Dx,Array.toList_zipIdx,h];simp
theorem EM(place:Nat->Option (Nat×Nat))(cells:Array aC)(i off size:Nat)(v:aC)(rest:List (Nat×aC))(hp:place i=some (off,size))(hs:v.cells.size=size)(hf:off+size<=cells.size):
 fB place cells ((i,v)::rest)=fB place (sJ cells off v.cells) rest:=by
 have h1:(decide (v.cells.size≠size)||decide (off+v.cells.size>cells.size))=false:=by
  rw[hs];simp;omega
 rw[fB,hp];simp only[h1,sJ];rfl
theorem Zt(cells v:Array aC)(off:Nat):(sJ cells off v).size=cells.size:=by
 unfold sJ;generalize v.zipIdx=l;rw[<-Dx];generalize l.toList=l
 induction l generalizing cells with
 | nil=>rfl
 | cons x l ih=>rw[jV,ih];simp
theorem amS(cells:Array aC)(off:Nat)(v:aC):sJ cells off #[v]=cells.setIfInBounds off v:=by
 simp[sJ]
theorem Qt(c:Array aC):(bY c).cells=c:=rfl
theorem Qu{P:eF}(w:au)(t:bM)(fs:Array nV)(i:nM)(z:Array aC)(ps:Array (Nat×aC))(cells:Array aC)(places:Array (Nat×Nat))(ht:P.underlying t=some (.struct fs))(hi:P.info? t=some i)(hz:i.zero=some (.agg z))
 (hp:(iB (fun f=>Prod.mk f.offset <$> sizeOf f.type) fs:xO (Array (Nat×Nat))).run P w=.ok places w) (hf:fB (places[·]?) z ps.toList=some cells):(fJ t ps).run P w=.ok (.agg cells) w:=by
 simp only[fJ,zeroValue,typeInfo,jK,gK,dJ ht];simp[hi,hz,hp,Qt,hf]
theorem jv{w w':au}{base size n:Nat}{e:bM}{v:aC}{xs:List aC}(h:w.ownsRow base e size v n xs)(hb:aN w.heap.size w w'):w'.ownsRow base e size v n xs:=
 ⟨h.1,h.2.imp id fun⟨g,cap,cur,h1,h2,h3,h4⟩=>⟨g,cap,cur,h1,h2,(hb.block g (bW.1 h3).1).trans h3,h4⟩⟩
theorem jM{w:au}{base size n:Nat}{e:bM}{v:aC}{xs:List aC}(h:w.ownsRow base e size v n xs){p:aU}(hp:p.block<base)(u:aC):(w.setCell p u).ownsRow base e size v n xs:=
 ⟨h.1,h.2.imp id fun⟨g,cap,cur,h1,h2,h3,h4⟩=>⟨g,cap,cur,h1,h2,(rD w p u g (by omega)).trans h3,h4⟩⟩
theorem vM{w:au}{base size n:Nat}{e:bM}{v:aC}{xs:List aC}(h:w.ownsRow base e size v n xs)(ob:Obj):(w.alloc ob).ownsRow base e size v n xs:=h.alloc ob
theorem iG{w:au}{base base' size n:Nat}{e:bM}{v:aC}{xs:List aC}(h:w.ownsRow base e size v n xs)(hb:base'<=base):w.ownsRow base' e size v n xs:=
 ⟨h.1,h.2.imp id fun⟨g,cap,cur,h1,h2,h3,h4⟩=>⟨g,cap,cur,h1,aP hb h2,h3,h4⟩⟩
theorem UE{w:au}{base size n g c:Nat}{e:bM}{xs:List aC}(h:w.ownsRow base e size (.slice (some ⟨g,0,none⟩) n c) n xs)(j:Nat)(hj:j<n*size)(u:aC):
 (w.setCell ⟨g,j,none⟩ u).ownsRow base e size (.slice (some ⟨g,0,none⟩) n c) n (xs.set j u):=by
 refine⟨by rw[aW];exact h.1,?_⟩;rcases h.2 with⟨hv,h0⟩|⟨g',cap,cur,hv,h2,h3,h4,h5,h6,h7⟩
 ·cases hv
 ·injection hv with e1 e2 e3
  injection e1 with e1
  injection e1 with e1
  subst e1 e3;refine .inr ⟨g,c,cur.setIfInBounds j u,rfl,h2,?_,h4,h5,by rw[Array.size_setIfInBounds];exact h6,?_⟩
  ·rw[setCell_eq_setRow w g j cur e (0,0) u h3];exact rQ w g cur _ e (0,0) h3
  ·rw[Array.toList_setIfInBounds,List.take_set,h7]
theorem LX(b:Nat)(t:bM)(fr:Nat×Nat):∀(vs:List aC)(o:Nat)(c:Array aC)(W:au),W.heap[b]? = some (.cells c t fr) ->
 (W.setCells b o vs).heap[b]? = some (.cells ((vs.zipIdx o).foldl (fun cs (x:aC×Nat)=>cs.setIfInBounds x.2 x.1) c) t fr)
 | [],_,_,_,h=>h
 | v::r,o,c,W,h=>by
   rw[Dy,Iz,jV];exact LX b t fr r (o+1) _ _ (by rw[setCell_eq_setRow W b o c t fr v h];exact rQ W b c _ t fr h)
section
variable {H:Type} {enc:bM×aC->H} {P:eF} {w:au} {base:Nat} {spare:Nat->Bool} {held:Bool} {fuel:Nat} {t:bM} {cs:List aC} {x:zY H×List tC}
theorem Vx(ht:P.underlying t=some .string)(h:lX enc P w base spare held fuel t cs=some x):∃l:List UInt8,cs=[.string (bV l)]/\l.length<=9223372036854775807:=by
 obtain⟨s,rfl,_,hs⟩:=DataW.trod_string ht h;refine⟨s.data.toList,by rw[Sr],?_⟩;have h2:s.size<=9223372036854775807:=by unfold maxLen at hs;omega
 show s.data.toList.length<=_;rw[aZ];exact h2
theorem sK(ht:P.underlying t=some (.int .i64))(h:lX enc P w base spare held fuel t cs=some x):∃z:Int,cs=[.int .i64 z]/\-9223372036854775808<=z/\z<=9223372036854775807:=by
 obtain⟨z,rfl,_,hz⟩:=DataW.trod_int ht h;have : -9223372036854775808<=z/\z<=9223372036854775807:=by simpa[Lit.wf,Ke,Kh,lT,nS]using hz
 exact⟨z,rfl,this⟩
theorem aiz(ht:P.underlying t=some (.int .u8))(h:lX enc P w base spare held fuel t cs=some x):∃b:UInt8,cs=[bv b]:=by
 obtain⟨z,rfl,_,hz⟩:=DataW.trod_int ht h;have h2:0<=z/\z<=255:=by simpa[Lit.wf,Ke,Kh,lT,nS]using hz
 refine⟨aK z.toNat,?_⟩;unfold bv;congr 2;rw[Dz];omega
theorem adz(ht:P.underlying t=some (.float .f64))(h:lX enc P w base spare held fuel t cs=some x):∃n:Nat,cs=[fv n]/\n<18446744073709551616:=by
 cases fuel with
 | zero=>simp[lX]at h
 | succ m=>
   unfold lX at h;rw[ht]at h;split at h<;>simp_all;rename_i heq;subst heq;obtain⟨⟨_,hw⟩,_⟩:=h;exact⟨_,rfl,by simpa[Lit.wf]using hw⟩
theorem Li{fs:Array nV}{n:Nat}{xs:List (zY H×List tC)}(hl:xs.length=fs.size)(hf:∀(i:Nat)(f:nV),fs[i]? = some f->lX enc P w base spare held n f.type ((cs.drop f.offset).take (P.cellsOf f.type))=xs[i]?)
 (j:Nat) (f:nV) (hj:fs[j]? = some f):∃y,lX enc P w base spare held n f.type ((cs.drop f.offset).take (P.cellsOf f.type))=some y:=by
 have fP:j<xs.length:=by have:=(bW.1 hj).1;omega
 exact⟨xs[j],(hf j f hj).trans (aD fP)⟩
theorem tK{α:Type}(l:List α)(o n:Nat):l.drop o=(l.drop o).take n++l.drop (o+n):=by
 rw[<-List.drop_drop];exact(iF n _).symm
theorem NR{k:Nat}{e:bM}(ht:P.underlying t=some (.array k e))(he:P.underlying e=some (.int .u8))(hc:P.cellsOf e=1)(hk:P.cellsOf t=k)(h:lX enc P w base spare held fuel t cs=some x):∃v:Vector UInt8 k,cs=v.toList.map bv:=by
 obtain⟨xs,m,_,_,hl,Dh,hf⟩:=DataW.trod_array ht h;rw[hk]at hl;have hg:∀i,i<k->∃b:UInt8,cs[i]? = some (bv b):=fun i hi=>by
  have h1:=hf i hi;rw[hc,gF,aD (by omega)]at h1;obtain⟨b,hb⟩:=aiz he h1;refine⟨b,?_⟩;rw[take1_drop cs i undef (by omega)]at hb;simp only[List.cons.injEq,and_true]at hb;rw[aD (by omega),<-hb,av,aD (by omega)];rfl
 obtain⟨f,hf⟩:∃f:Nat->UInt8,∀i,i<k->cs[i]? = some (bv (f i)):=by
  refine⟨fun i=>if hi:i<k then(hg i hi).choose else 0,fun i hi=>?_⟩;simp only[hi,dif_pos];exact(hg i hi).choose_spec
 refine⟨ED fun i:Fin k=>f i,?_⟩;apply iI;intro i;rcases bf i k with hi|hi
 ·rw[hf i hi]
  simp[hi]
 ·rw[aT (by omega),aT (by simpa using hi)]
end
theorem uY{α:Type}(f:α->Array aC)(size:Nat)(hs:∀x,(f x).size=size)(l:List α)(k j:Nat)(hk:k<l.length)(hj:j<size):(l.flatMap fun x=>(f x).toList)[k*size+j]? = (f (l[k]'hk))[j]?:=by
 induction l generalizing k with
 | nil=>simp at hk
 | cons x l ih=>
   rw[iJ];rcases k with _|k
   ·rw[mP (by rw[aZ,hs];omega),dD]
    simp
   ·rw[rG (by rw[aZ,hs,Ki];omega),aZ,hs,show(k+1)*size+j-size=k*size+j by rw[Ki];omega]
    rw[bC]at hk;simpa using ih k (by omega)
theorem tL{α:Type}(f:α->Array aC)(size:Nat)(hs:∀x,(f x).size=size)(l:List α):(l.flatMap fun x=>(f x).toList).length=l.length*size:=by
 induction l with
 | nil=>simp
 | cons x l ih=>rw[iJ,aS,ih,aZ,hs,bC,Ki];omega
section
variable {H:Type} {enc:bM×aC->H} {P:eF} {w:au} {base:Nat} {held:Bool} {fuel:Nat} {t:bM} {cs:List aC} {x:zY H×List tC}
theorem Qv{α:Type}(f:α->Array aC)(Lj:α->Prop)(size:Nat)(hfs:∀x,(f x).size=size){e:bM}(ht:P.underlying t=some (.slice e))(hc:P.cellsOf e=size)(EO:0<size)
 (Uc:∀(n:Nat)(cs:List aC)(y:zY H×List tC),lX enc P w base (fun _=>true) held n e cs=some y->∃a,cs=(f a).toList/\Lj a)
 (h:lX enc P w base (fun _=>true) held fuel t cs=some x) :
 ∃(A:Option aU)(n c:Nat)(l:List α),cs=[.slice A n c]/\n<=c/\c<=9223372036854775807/\l.length=n/\Rd w w.heap.size size A n (l.flatMap fun x=>(f x).toList)/\(∀a,A=some a->0<n->a=⟨a.block,a.off,none⟩)/\∀a∈l,Lj a:=by
 rcases open_slice ht h with⟨rfl,_⟩|⟨a,len,cap,m,n,D,Pl,rfl,_,hl,hm,hmm,_,hi⟩
 ·exact⟨none,0,0,[],rfl,ay _,by omega,rfl,Rd.nil,(fun a h=>by cases h),by simp⟩
 ·rw[if_pos rfl]at hmm
  have hg:∀i,i<len->∃b:α,Lj b/\∀j,j<size->w.cell? (a.add (i*size+j))=(f b)[j]?:=fun i fP=>by
   obtain⟨cs',h1,h2⟩:=hi i (by omega);obtain⟨_,hlen,hcell⟩:=World.cells?_some h1;obtain⟨b,hb,Gl⟩:=Uc _ _ _ h2;rw[hc]at hcell;refine⟨b,Gl,fun j hj=>?_⟩;have:=hcell j hj;rw[adw,hb,dD]at this;exact this
  obtain⟨F,hF⟩:∃F:Fin len->α,∀i:Fin len,Lj (F i)/\∀j,j<size->w.cell? (a.add (i*size+j))=(f (F i))[j]?:=
   ⟨fun i=>(hg i i.2).choose,fun i=>(hg i i.2).choose_spec⟩
  have EI:(IB F).length=len:=List.length_ofFn;have uh:∀k (hk:k<len) j,j<size->((IB F).flatMap fun x=>(f x).toList)[k*size+j]? = w.cell? (a.add (k*size+j)):=fun k hk j hj=>by
   rw[uY f size hfs _ k j (by omega) hj,List.getElem_ofFn];exact((hF ⟨k,hk⟩).2 j hj).symm
  refine⟨some a,len,cap,IB F,rfl,hl,by unfold maxLen at hm;omega,EI,⟨by rw[tL f size hfs,EI],fun h0=>⟨a,rfl,?_,fun j u hu=>?_⟩⟩,fun a' ha h0=>?_,fun b hb=>?_⟩
  ·have h1:=uh 0 h0 0 EO
   have h2:=uY f size hfs (IB F) 0 0 (by omega) EO;have h3:w.cell? (a.add (0*size+0))=some ((f ((IB F)[0]'(by omega)))[0]'(by rw[hfs];exact EO)):=by rw[<-h1,h2];exact fq _
   have:=World.block_lt_of_cell? _ _ h3
   rwa [BJ]at this
  ·have hj:j<len*size:=by
    rcases bf j (len*size)with h1|h1
    ·exact h1
    ·rw[aT (by rw[tL f size hfs,EI];exact h1)]at hu;cases hu
   have e1:j=j/size*size+j%size:=by rw[DC];exact(Nat.div_add_mod j size).symm
   have:=uh (j/size) ((Av EO).2 hj) (j%size) (fD _ EO);rw[<-e1]at this;rw[<-this];exact hu
  ·injection ha with ha
   subst ha;have h1:=uh 0 h0 0 EO;have h2:=uY f size hfs (IB F) 0 0 (by omega) EO;have h3:w.cell? (a.add (0*size+0))=some ((f ((IB F)[0]'(by omega)))[0]'(by rw[hfs];exact EO)):=by rw[<-h1,h2];exact fq _
   rw[show 0*size+0=0 by omega,Qr]at h3;have hs:=World.cell?_spot h3;obtain⟨b,o,s⟩:=a;simp at hs;rw[hs]
  ·obtain⟨i,rfl⟩:=List.mem_ofFn.1 hb
   exact(hF i).1
end
section
variable {P:eF}
theorem LZ(d:Nat){e:bM}(he:P.underlying e=some (.int .u8))(l m:List UInt8)(w:au)(hlm:l.length=m.length):∀(j k:Nat),j+k=l.length ->
 (Lh (d+1) e 1 (l.map bv).toArray (m.map bv).toArray (List.range' k j)).run P w=.ok (l.drop k==m.drop k) w
 | 0,k,h=>by
   have h1:l.drop k=[]:=List.drop_eq_nil_of_le (by omega);have h2:m.drop k=[]:=List.drop_eq_nil_of_le (by omega);simp[Lh,h1,h2]
 | j+1,k,h=>by
   have hk:k<l.length:=by omega
   have hk':k<m.length:=by omega
   have hp:P.plainKey e=true:=by simp[Program.plainKey,he]
   have p1:(part e (l.map bv).toArray (k*1)).run P w=.ok (bv l[k]) w:=run_part_plain w hp (by simp[hk]);have p2:(part e (m.map bv).toArray (k*1)).run P w=.ok (bv m[k]) w:=run_part_plain w hp (by simp[hk']);have p3:(jl (d+1) e (bv l[k]) (bv m[k])).run P w=.ok (l[k]==m[k]) w:=by
    simp only[bv,jl,jK,dJ he,gK,if_true,ou];congr 1;rw[cO];simp only[beq_iff_eq];constructor
    ·intro h;exact lY.1 (by omega)
    ·intro h;rw[h]
   rw[List.range'_succ];simp only[Lh,jK,p1,p2,p3,gK];have ih:=LZ d he l m w hlm j (k+1) (by omega);have e3:(l.drop k==m.drop k)=((l[k]==m[k])&&(l.drop (k+1)==m.drop (k+1))):=by
    rw[kT hk,kT hk'];rfl
   rw[e3];cases(l[k]==m[k])
   ·simp
   ·simpa using ih
theorem Ik(d:Nat){t e:bM}{n:Nat}(hu:P.underlying t=some (.array n e))(jB:(P.info? e).map (·.size)=some 1)(he:P.underlying e=some (.int .u8))(l m:List UInt8)(hl:l.length=n)(hm:m.length=n)(w:au):
 (jl (d+2) t (.agg (l.map bv).toArray) (.agg (m.map bv).toArray)).run P w=.ok (l==m) w:=by
 obtain⟨i,hi,hs⟩:∃i,P.info? e=some i/\i.size=1:=by
  cases h:P.info? e with
  | none=>simp[h]at jB
  | some i=>exact⟨i,rfl,by simpa[h]using jB⟩
 rw[run_equalIn_array w (d+1) _ _ hu hi];have hc:P.cellsOf e=1:=by simp[AV,hi,hs]
 rw[hc,List.range_eq_range',LZ d he l m w (by omega) n 0 (by omega)];simp
end
theorem aiA{n:Nat}(a b:Vector UInt8 n):(a.toList==b.toList)=decide (a=b):=by
 rw[cO];simp only[beq_iff_eq,decide_eq_true_eq];constructor
 ·intro h;exact Vector.toList_inj.1 h
 ·intro h;rw[h]
theorem pJ{P:eF}{e:bM}(he:(match P.underlying e with|some (.struct _)|some (.array _ _)|none=>false|_=>true)=true){xs:Array aC}{off:Nat}{v:aC}(hx:xs[off]? = some v)(w:au):(part e xs off).run P w=.ok v w:=by
 cases hu:P.underlying e with
 | none=>simp[hu]at he
 | some d=>cases d<;>simp[hu]at he<;>simp[part,isAgg,dJ hu,hx]
theorem EP{P:eF}{e:bM}{n:Nat}(he:(match P.underlying e with|some (.struct _)|some (.array _ _)=>true|_=>false)=true)(hs:(P.info? e).map (·.size)=some n)(xs:Array aC)(off:Nat)(w:au):(part e xs off).run P w=.ok (.agg (xs.extract off (off+n))) w:=by
 obtain⟨i,hi,Qw⟩:∃i,P.info? e=some i/\i.size=n:=by
  cases h:P.info? e with
  | none=>simp[h]at hs
  | some i=>exact⟨i,rfl,by simpa[h]using hs⟩
 have hc:P.cellsOf e=n:=by simp[AV,hi,Qw]
 cases hu:P.underlying e with
 | none=>simp[hu]at he
 | some d=>cases d<;>simp[hu]at he<;>simp[part,isAgg,dJ hu,run_sizeOf w hi,hc]
theorem abm(a b:Bool)(d:Nat)(W:au):(jl (d+1) 4 (.bool a) (.bool b)).run aj W=.ok (a==b) W:=by
 simp only[jl,jK,dJ nO,gK,ou]
theorem Qx(a b:List UInt8)(d:Nat)(W:au):(jl (d+1) 9 (.string (bV a)) (.string (bV b))).run aj W=.ok (a==b) W:=by
 rw[run_equalIn_string W d _ _ _ iL,LV,LV]
theorem Gp(a b:Int)(d:Nat)(W:au):(jl (d+1) 3 (.int .i64 a) (.int .i64 b)).run aj W=.ok (a==b) W:=by
 simp only[jl,jK,dJ gQ,gK,if_true,ou]
theorem iN{P:eF}(d:Nat)(xs ys:Array aC)(f:nV)(fs:List nV)(h:f.name ≠ "_")(W:au)(a b:aC)(r r':Bool)
 (p:(part f.type xs f.offset).run P W=.ok a W) (q:(part f.type ys f.offset).run P W=.ok b W) (e:(jl d f.type a b).run P W=.ok r W)
 (rest:(wM d xs ys fs).run P W=.ok r' W):(wM d xs ys (f::fs)).run P W=.ok (r&&r') W:=by
 simp only[wM,h,ne_eq,not_false_eq_true,if_true,jK,p,q,e,gK];cases r
 ·simp
 ·simpa using rest
def iO{α:Type}(f:α->Array aC)(s:Nat)(w:au)(B:Nat)(A:Option aU)(n:Nat)(l:List α):Prop:=
 l.length=n/\Rd w B s A n (l.flatMap fun x=>(f x).toList)/\∀a,A=some a->0<n->a=⟨a.block,a.off,none⟩
section
variable {α:Type} {f:α->Array aC} {s:Nat} {w w':au} {B B' n:Nat} {A:Option aU} {l:List α}
theorem iO.nil(w:au)(B:Nat):iO f s w B none 0 []:=⟨rfl,Rd.nil,fun a h _=>by cases h⟩
theorem iO.len(h:iO f s w B A n l):l.length=n:=h.1
theorem iO.below(h:iO f s w B A n l)(hb:aN B w w'):iO f s w' B A n l:=⟨h.1,Rd.below h.2.1 hb,h.2.2⟩
theorem iO.to{C:Nat}(h:iO f s w B A n l)(hb:aN C w w')(hC:B<=C):iO f s w' B A n l:=⟨h.1,Rd.to h.2.1 hb hC,h.2.2⟩
theorem iO.lF(h:iO f s w B A n l)(hB:B<=B'):iO f s w B' A n l:=⟨h.1,Rd.lF h.2.1 hB,h.2.2⟩
theorem iO.alloc(h:iO f s w B A n l)(hB:B<=w.heap.size)(o:Obj):iO f s (w.alloc o) B A n l:=⟨h.1,Rd.alloc h.2.1 hB o,h.2.2⟩
theorem iO.up(h:iO f s w w.heap.size A n l)(ob:Obj):iO f s (w.alloc ob) (w.alloc ob).heap.size A n l:=(h.alloc (ay _) ob).lF (by simp)
theorem iO.aud(h:iO f s w w.heap.size A n l):iO f s w.drew w.drew.heap.size A n l:=h
theorem iO.go{W w1:au}(h:iO f s W W.heap.size A n l)(hb:aN W.heap.size W w1):iO f s w1 w1.heap.size A n l:=(h.below hb).lF hb.size
theorem iO.aGl(h:iO f s w B A n l){p:aU}(u:aC)(hp:∀a,A=some a->p.block≠a.block):iO f s (w.setCell p u) B A n l:=by
 obtain⟨h1,h2,h3⟩:=h;refine⟨h1,⟨h2.1,fun hn=>?_⟩,h3⟩;obtain⟨a,e,hb,hc⟩:=h2.2 hn;refine⟨a,e,hb,fun j u' hu=>?_⟩;rw[wK _ _ _ _ (fun e2=>by have:=hp a e;rw[e2,BJ]at this;omega)];exact hc j u' hu
theorem iO.cell(hs:∀x,(f x).size=s)(d:α){k:Nat}(h:iO f s w B A n l)(hk:k<n):∃b o,A=some ⟨b,o,none⟩/\b<B/\∀j,j<s->w.cell? ⟨b,o+k*s+j,none⟩=(f (l.getD k d))[j]?:=by
 obtain⟨h1,h2,h3⟩:=h;obtain⟨a,hA,hb,hc⟩:=h2.2 (by omega);have ha:=h3 a hA (by omega);refine⟨a.block,a.off,by rw[hA,<-ha],hb,fun j hj=>?_⟩;have hk':k<l.length:=by omega
 have hg:=uY f s hs l k j hk' hj;have hx:l.getD k d=l[k]:=by rw[av,aD hk'];rfl
 have Nw:(f (l[k]'hk'))[j]? = some ((f (l[k]'hk'))[j]'(by rw[hs];exact hj)):=fq _;rw[Nw]at hg;rw[hx,Nw];have:=hc _ _ hg;rw[ha,iC]at this;rw[<-this,ny]
theorem iO.fE(hs:∀x,(f x).size=s)(d:α){k:Nat}(h:iO f s w B A n l)(hk:k<n):∃b o,A=some ⟨b,o,none⟩/\b<B/\xS w b (o+k*s) s/\dY w b (o+k*s) s=f (l.getD k d):=by
 obtain⟨b,o,hA,hb,hc⟩:=h.cell hs d hk;exact⟨b,o,hA,hb,xB (hs _) hc⟩
theorem iO.one(x:α)(hs:∀x,(f x).size=s)(w:au)(t:bM):iO f s (w.alloc (.cells (f x) t)) (w.alloc (.cells (f x) t)).heap.size (some ⟨w.heap.size,0,none⟩) 1 [x]:=
 ⟨rfl,⟨by simp[hs],fun _=>⟨_,rfl,by simp,by
  intro j v hv;rw[iC,bB];have:=mU w (f x) t j;rw[this];simpa using hv⟩⟩,fun a h _=>by injection h with h;rw[<-h]⟩
end
theorem amT{α:Type}(f:α->Array aC)(s:Nat)(hs:∀x,(f x).size=s)(l:List α):(l.flatMap fun x=>(f x).toList).length=l.length*s:=tL f s hs l
theorem aj4{α:Type}(f:α->Array aC)(l:List α)(x:α):(l.flatMap fun x=>(f x).toList)++(f x).toList=(l++[x]).flatMap fun x=>(f x).toList:=by simp
theorem adB{α:Type}(f:α->Array aC)(l m:List α):(l.flatMap fun x=>(f x).toList)++(m.flatMap fun x=>(f x).toList)=(l++m).flatMap fun x=>(f x).toList:=by simp
theorem ER{α:Type}(f:α->Array aC)(h1:∀x,(f x).all (·.oneCell')=true)(l:List α):∀u∈(l.flatMap fun x=>(f x).toList),u.oneCell'=true:=by
 intro u hu;obtain⟨x,_,hx⟩:=List.mem_flatMap.1 hu;exact fZ.1 (h1 x) u (by simpa using hx)
theorem oK{α:Type}(d:α)(l:List α)(i:Nat)(hi:i<l.length):l.take i++[l.getD i d]=l.take (i+1):=by
 rw[dP hi,av,aD hi];rfl
theorem ET{α:Type}(d:α)(l:List α)(i:Nat)(hi:i<l.length):l.getD i d∈l:=by
 rw[av,aD hi];simp
theorem iO.iX{α:Type}{f:α->Array aC}{s:Nat}{w:au}{base n:Nat}{e:bM}{l:List α}{A:Option aU}{c:Nat}(hn:l.length=n)(h:w.ownsRow base e s (.slice A n c) n (l.flatMap fun x=>(f x).toList)):iO f s w w.heap.size A n l:=
 ⟨hn,Rd.iX h,fun a ha _=>by
  rcases h.2 with⟨hv,h0⟩|⟨g,cap,cur,hv,_⟩
  ·injection hv with e1 _ _
   rw[e1]at ha;cases ha
  ·injection hv with e1 _ _
   rw[e1]at ha;injection ha with ha
   rw[<-ha]⟩
theorem abn(w:au)(c:Array aC)(s:Nat)(hc:c.size=s)(t:bM):Rd (w.alloc (.cells c t)) (w.heap.size+1) s (some ⟨w.heap.size,0,none⟩) 1 c.toList:=
 ⟨by rw[aZ,hc,Nat.one_mul],fun _=>⟨_,rfl,mG _,fun j v hv=>by
  rw[iC,bB,mU w c t j];simpa using hv⟩⟩
theorem Vy{w:au}{base size n:Nat}{e:bM}{v:aC}{xs:List aC}(h:w.ownsRow base e size v n xs){p:aU}(hp:v.ownBlock≠some p.block)(u:aC):(w.setCell p u).ownsRow base e size v n xs:=by
 refine⟨h.1,?_⟩;rcases h.2 with hn|⟨g,cap,cur,rfl,h2,h3,h4⟩
 ·exact .inl hn
 ·exact .inr ⟨g,cap,cur,rfl,h2,(rD w p u g (fun e=>hp (by rw[<-e];rfl))).trans h3,h4⟩
theorem Vz{w:au}{g:Nat}(vs:List aC):∀(o:Nat)(W:au),w.grownBy W (some g)->w.grownBy (W.setCells g o vs) (some g):=by
 induction vs with
 | nil=>exact fun _ _ h=>h
 | cons v vs ih=>
   intro o W h;rw[Dy];refine ih (o+1) _ ⟨h.os,h.tape,h.output,by simpa[gZ]using h.size,fun k hk pY=>?_⟩;rw[rD W _ v k (fun e=>pY (by rw[e]))];exact h.block k hk pY
theorem yB{w:au}{B g:Nat}(hg:B<=g)(vs:List aC):∀(o:Nat)(W:au),aN B w W->aN B w (W.setCells g o vs):=by
 induction vs with
 | nil=>exact fun _ _ h=>h
 | cons v vs ih=>intro o W h;rw[Dy];exact ih (o+1) _ (h.setCell hg v)
theorem nb{x:Option Nat}{a b c:Nat}(h:x=some a\/x=some b)(h1:c≠a)(h2:c≠b):x≠some c:=by
 rcases h with rfl|rfl<;>(intro e;injection e with e;omega)
theorem VD(b:Nat)(t:bM)(vs:List aC)(o:Nat)(c:Array aC)(W:au)(h:W.heap[b]? = some (.cells c t (0,0))):(W.setCells b o vs).heap[b]? = some (.cells (sJ c o vs.toArray) t (0,0)):=by
 have:=LX b t (0,0) vs o c W h;rw[this];unfold sJ;congr 2;rw[<-Dx,Array.toList_zipIdx];have:∀(vs:List aC)(k:Nat)(c:Array aC),(List.foldl (fun cs (x:aC×Nat)=>cs.setIfInBounds x.2 x.1) c (vs.zipIdx (o+k)))=List.foldl (fun cs (x:aC×Nat)=>cs.setIfInBounds (o+x.2) x.1) c (vs.zipIdx k):=by
  intro vs
  induction vs with
  | nil=>intros;rfl
  | cons v vs ih=>intro k c;rw[Iz,Iz,jV,jV,ny,ih]
 have h2:=this vs 0 c;simpa using h2
theorem dL.amU{W:au}{b:Nat}{c:Array aC}(h:dL W b c)(d:Array aC)(hc:d.size=c.size):dL (W.setCells b 0 d.toList) b d:=by
 obtain⟨t,h⟩:=h;refine⟨t,?_⟩;have h1:=VD b t d.toList 0 c W h;rw[h1];congr 2;exact Vw d c hc
end
section
open Go.RowKit Go.ChangeShapes Go.WideShapes Go.ChangeAt Go.Deep
def txA(s:List UInt8):Array aC:=#[.string (bV s)]
theorem amV(s:List UInt8):(txA s).size=1:=rfl
abbrev RdT:=iO txA 1
theorem iO.text{W:au}{B n:Nat}{A:Option aU}{l:List (List UInt8)}{k:Nat}(h:RdT W B A n l)(hk:k<n):∃b o,A=some ⟨b,o,none⟩/\b<B/\W.cell? ⟨b,o+k,none⟩=some (.string (bV (l.getD k []))):=by
 obtain⟨b,o,hA,hb,hc⟩:=iO.cell amV [] h hk;refine⟨b,o,hA,hb,?_⟩;have:=hc 0 (by omega);rw[gF,nI]at this;exact this
def wC(l:List (List UInt8)):List aC:=l.flatMap fun x=>(txA x).toList
theorem Sw(l:List (List UInt8))(s:List UInt8):wC l++[.string (bV s)]=wC (l++[s]):=by simp[wC,txA]
theorem abo:∃i:nM,aj.info? 9=some i/\i.zero=some (.string ⟨#[]⟩)/\i.size=1/\i.bytes<=400:=by
 cases h:aj.info? 9 with
 | none=>exact absurd h (by have:(aj.info? 9).isSome=true:=by kernel_rfl
                            intro e;rw[e]at this;cases this)
 | some i=>
   have h1:(aj.info? 9).map (·.size)=some 1:=by kernel_rfl
   have h2:(aj.info? 9).map (fun i=>decide (i.bytes<=400))=some true:=by kernel_rfl
   have h3:(aj.info? 9).map (·.zero)=some (some (.string ⟨#[]⟩)):=by kernel_rfl
   rw[h]at h1 h2 h3;simp at h1 h2 h3;exact⟨i,rfl,h3,h1,h2⟩
def TxP(w:au)(m:List (List UInt8))(e:kX)(w':au):Prop:=
 ∃A n c,e=.returned (.slice A n c)/\m.length=n/\w'.ownsRow w.heap.size 9 1 (.slice A n c) n (wC m)/\aN w.heap.size w w'
end
section
open Go.RowKit Go.ChangeShapes Go.WideShapes Go.ChangeAt Go.Deep
structure Hl where
 name:List UInt8
 down:Bool
 run:Int
deriving DecidableEq
def Hl.aA(x:Hl):Array aC:=#[jc (bV x.name),bQ x.down,aJ .i64 x.run]
theorem Hl.ak(x:Hl):x.aA.size=3:=by simp[Hl.aA]
@[go_sem]theorem Hl.eu(x:Hl):eu x.aA=3:=Hl.ak x
@[go_sem]theorem Hl.qH(x:Hl):x.aA[0]? = some (.string (bV x.name)):=rfl
@[go_sem]theorem Hl.Il(x:Hl):x.aA[1]? = some (.bool x.down):=rfl
@[go_sem]theorem Hl.Zu(x:Hl):x.aA[2]? = some (.int .i64 x.run):=rfl
theorem Hl.cB(x:Hl):x.aA.all (·.oneCell')=true:=by simp[Hl.aA,Value.oneCell']
@[go_sem]theorem Hl.kg(x:Hl):x.aA.extract 0 3=x.aA:=by
 have:=Hl.ak x;rw[<-this];simp
def lG:Hl:=⟨[],false,0⟩
@[go_sem]theorem aAm:bY #[jc {data:=#[]},bQ false,aJ bU 0]=bY lG.aA:=rfl
@[go_sem]theorem avO:Obj.cells #[jc {data:=#[]},bQ false,aJ bU 0] 100=Obj.cells lG.aA 100:=rfl
def amW(v:aC):xO aC:=bZ 100 v
def abp(v x:aC):xO Unit:=eD 100 v x
@[go_sem ↓]theorem ay9(v:aC):bZ 100 v=amW v:=rfl
@[go_sem ↓]theorem avP(v x:aC):eD 100 v x=abp v x:=rfl
@[go_sem]theorem aEi(W:au)(b o:Nat)(h:xS W b o 3):(amW (.pointer (some ⟨b,o,none⟩))).run aj W=.ok (.agg (dY W b o 3)) W:=
 ko W b o 3 _ _ rH rfl (by kernel_rfl) h
@[go_sem]theorem ara(W:au)(c:Array aC)(x:Hl)(b:Nat)(hb:b=W.heap.size)(hc:eu c=3):
 (abp (.pointer (some ⟨b,0,none⟩)) (.agg x.aA)).run aj (W.alloc (.cells c 100))=.ok () (W.alloc (.cells x.aA 100)):=by
 subst hb;exact zH W _ c x.aA (by rw[Hl.ak];kernel_rfl) (by rw[Hl.ak];exact hc) (Hl.cB x)
def VE(W:au)(b o:Nat)(x:Hl):au:=W.setCells b o x.aA.toList
@[go_sem]theorem aAn(W:au)(b o:Nat)(x:Hl)(h:W.there b o 3):(abp (.pointer (some ⟨b,o,none⟩)) (.agg x.aA)).run aj W=.ok () (VE W b o x):=
 EF W b o _ x.aA (by rw[Hl.ak];exact h) (by rw[Hl.ak];kernel_rfl) (Hl.cB x)
theorem dL.aAo{W:au}{b:Nat}{c:Array aC}(h:dL W b c)(hc:c.size=3)(x:Hl):dL (VE W b 0 x) b x.aA:=h.amU x.aA (by rw[Hl.ak,hc])
theorem Sy{w W:au}{B:Nat}(h:aN B w W)(b o:Nat)(x:Hl)(hb:B<=b):aN B w (VE W b o x):=yB hb _ o W h
def aj5(x y:Hl):Bool:=(x.name==y.name)&&((x.down==y.down)&&((x.run==y.run)&&true))
theorem aiC(x y:Hl):aj5 x y=decide (x=y):=by
 rw[cO];cases x;cases y;simp[aj5]
theorem aj6:aj.underlying 100=some (.struct (aj.fieldsOf 100)):=by
 simp only[jR,rH]
theorem arb:∃f1 f2 f3:nV,(aj.fieldsOf 100).toList=[f1,f2,f3]/\(f1.name ≠ "_" /\ f2.name ≠ "_" /\ f3.name ≠ "_")/\(f1.type=9/\f1.offset=0)/\(f2.type=4/\f2.offset=1)/\(f3.type=3/\f3.offset=2):=by
 refine⟨_,_,_,by simp only[jR,rH];rfl,⟨?_,?_,?_⟩,⟨rfl,rfl⟩,⟨rfl,rfl⟩,⟨rfl,rfl⟩⟩<;>decide
theorem aj7(x y:Hl)(d:Nat)(W:au):(jl (d+2) 100 (.agg x.aA) (.agg y.aA)).run aj W=.ok (aj5 x y) W:=by
 rw[zS W (d+1) _ _ _ aj6 Tryz.stoodInHeld100];obtain⟨f1,f2,f3,hl,⟨n1,n2,n3⟩,⟨t1,o1⟩,⟨t2,o2⟩,⟨t3,o3⟩⟩:=arb;rw[hl];have p1:∀z:Hl,(part f1.type z.aA f1.offset).run aj W=.ok (.string (bV z.name)) W:=fun z=>by
  rw[t1,o1];exact pJ (by simp only[iL]) (Hl.qH z) W
 have p2:∀z:Hl,(part f2.type z.aA f2.offset).run aj W=.ok (.bool z.down) W:=fun z=>by
  rw[t2,o2];exact pJ (by simp only[nO]) (Hl.Il z) W
 have p3:∀z:Hl,(part f3.type z.aA f3.offset).run aj W=.ok (.int .i64 z.run) W:=fun z=>by
  rw[t3,o3];exact pJ (by simp only[gQ]) (Hl.Zu z) W
 exact(iN _ _ _ _ _ n1 W _ _ _ _ (p1 x) (p1 y) (by rw[t1];exact Qx _ _ _ W) (iN _ _ _ _ _ n2 W _ _ _ _ (p2 x) (p2 y) (by rw[t2];exact abm _ _ _ W) (iN _ _ _ _ _ n3 W _ _ _ _ (p3 x) (p3 y) (by rw[t3];exact Gp _ _ _ W) (by simp[wM]))))
@[go_sem ↓]theorem aLa(x y:Hl)(W:au):(jl 10000 100 (.agg x.aA) (.agg y.aA)).run aj W=.ok (aj5 x y) W:=aj7 x y 9998 W
theorem Qy:∃i:nM,aj.info? 100=some i/\i.zero=some (.agg lG.aA)/\i.size=3/\i.bytes<=400:=by
 cases h:aj.info? 100 with
 | none=>exact absurd h (by have:(aj.info? 100).isSome=true:=by kernel_rfl
                            intro e;rw[e]at this;cases this)
 | some i=>
   have h1:(aj.info? 100).map (·.size)=some 3:=by kernel_rfl
   have h2:(aj.info? 100).map (fun i=>decide (i.bytes<=400))=some true:=by kernel_rfl
   have h3:(aj.info? 100).map (·.zero)=some (some (.agg lG.aA)):=by kernel_rfl
   rw[h]at h1 h2 h3;simp at h1 h2 h3;exact⟨i,rfl,h3,h1,h2⟩
def aAp(ps:Array (Nat×aC)):xO aC:=fJ 100 ps
@[go_sem ↓]theorem aEj(ps:Array (Nat×aC)):fJ 100 ps=aAp ps:=rfl
theorem aj8(w:au)(fs:Array nV)(h:aj.underlying 100=some (.struct fs)):(iB (fun f=>Prod.mk f.offset <$> sizeOf f.type) fs:xO (Array (Nat×Nat))).run aj w=.ok #[(0,1),(1,1),(2,1)] w:=by
 have e:=rH;rw[h]at e;cases e;show _=_
 kernel_rfl
@[go_sem]theorem avQ(w:au)(u0:List UInt8):(aAp #[(0,.string (bV u0))]).run aj w=.ok (.agg (Hl.mk u0 false 0).aA) w:=by
 obtain⟨i0,oz,mZ,_,_⟩:=Qy;exact Qu w _ _ i0 lG.aA _ _ _ rH oz mZ (aj8 w _ rH) rfl
def aiD(n:Nat)(ps:Array (Nat×aC)):xO aC:=bJ 33 n ps
@[go_sem ↓]theorem aAq(n:Nat)(ps:Array (Nat×aC)):bJ 33 n ps=aiD n ps:=rfl
@[go_sem]theorem ay'(w:au)(x:Hl):(aiD 1 #[(0,.agg x.aA)]).run aj w=.ok (.slice (some ⟨w.heap.size,0,none⟩) 1 1) (w.alloc (.cells x.aA 100)):=by
 obtain⟨i0,oz,mZ,nu,Ar⟩:=Qy;exact rX w _ _ i0 (.agg lG.aA) 3 sj oz mZ nu (Hl.ak lG) (by omega) (by omega) x.aA (Hl.ak x)
@[go_sem]theorem avR(w:au):(aiD 0 #[]).run aj w=.ok (.slice (some ⟨w.heap.size,0,none⟩) 0 0) (w.alloc (.cells #[] 100)):=by
 obtain⟨i0,oz,mZ,nu,Ar⟩:=Qy;have pY:¬i0.size=0:=by omega
 simp[aiD,bJ,dJ sj,sizeOf,typeInfo,zeroValue,oz,mZ,nu,fB,newRow,pY];rw[show(lW 0)=(#[]:Array Nat)by simp[lW],Array.map_empty]
theorem El{fn:Func}{p u:Tmp}(h:fn.results = #[.cell p 100,.tmp u])(tmps:Array aC)(W:au)(b o:Nat)(hp:tmps.getD p undef=.pointer (some ⟨b,o,none⟩))(hh:xS W b o 3):
 (results fn tmps).run aj W=.ok (.tuple #[.agg (dY W b o 3),tmps.getD u undef]) W:=by
 have hl:=ko W b o 3 _ _ rH rfl (by kernel_rfl) hh;simp only[bZ,zy,jK,ou,gK]at hl;rw[LP h,hp];simp[asAddr,iD,hl]
end
def abq(c:UInt8):Bool:=(decide (97<=c.toNat)&&decide (c.toNat<=122))||(decide (48<=c.toNat)&&decide (c.toNat<=57))||decide (c.toNat=45)||decide (c.toNat=46)
def wD(s:List UInt8):Bool:=s.all abq&&decide (1<=s.length)&&decide (s.length<=24)
theorem YH(l:List UInt8)(p:UInt8->Bool)(i:Nat)(hi:i<l.length):(l.take (i+1)).all p=((l.take i).all p&&p (l.getD i 0)):=by
 rw[dP hi,List.all_append,av,aD hi];simp
theorem abr(l:List UInt8)(p:UInt8->Bool)(i:Nat)(hi:i<l.length)(h:p (l.getD i 0)=false):l.all p=false:=by
 rw[List.all_eq_false];refine⟨l.getD i 0,?_,by rw[h];simp⟩;rw[av,aD hi];exact eO hi
theorem VF(s:List UInt8)(w:au)(hs:s.length<=9223372036854775807):
 aR aj 116 #[.string (bV s)] w (gP w (.bool (wD s))):=by
 have hcv:=Jg (P:=aj) 9 56 5 iL dw lD s;have hb:=Ih w 5 s;have hr:=Ii w 5 s;have HB:=ah hb;have HR:=ah hr;clear hb hr;go_enter Tryz.func116,Tryz.ntmps116;go_wp2;clear hcv;generalize sI w 5 s=W at HB HR ⊢;generalize grownCap w s.length 0 5=cp;go_loop [8] (fun s8=>∃i:Nat,i<=s.length/\s8=.int .i64 i/\(s.take i).all abq=true) (fun s8=>s.length-(intOf s8).toNat)
 case atStart=>exact⟨0,by omega,rfl,rfl⟩
 case round=>
  obtain⟨i,hi,rfl,mV⟩:=hrel;have HA:=ah mV;clear mV;by_cases fP:i<s.length
  ·have wW:(i:Int)<s.length:=by omega
   obtain⟨a,ha,EH,hcell⟩:=HR.out.fE fP;injection ha with ha
   subst ha;have e1:(⟨w.heap.size,0,none⟩:aU).add i=⟨w.heap.size,i,none⟩:=by unfold rF;split<;>simp_all
   rw[e1]at hcell;clear e1;have hsn:=YH s abq i fP;have uU:=abr s abq i fP;have HS:=ah hsn;have HN:=ah uU;clear hsn uU;unfold bv at hcell;have hc:abq (s.getD i 0)=abq (s.getD i 0):=rfl;have aj0:=(s.getD i 0).toNat_lt;obtain⟨c,VG⟩:∃c,c=s.getD i 0:=⟨_,rfl⟩
   rw[<-VG]at hcell HS HN aj0;clear VG hc;have Di:abq c=((decide (97<=c.toNat)&&decide (c.toNat<=122))||(decide (48<=c.toNat)&&decide (c.toNat<=57))||decide (c.toNat=45)||decide (c.toNat=46)):=rfl;have Kv:=ah Di;clear Di;generalize c.toNat=n at hcell aj0 Kv;rcases(show n<45\/n=45\/n=46\/n=47\/(48<=n/\n<=57)\/(57<n/\n<97)\/(97<=n/\n<=122)\/122<n by omega)with h|rfl|rfl|rfl|⟨h,h'⟩|⟨h,h'⟩|⟨h,h'⟩|h
   all_goals
    try(have h45:((n:Int) != 45)=true:=by rw[bne_iff_ne];omega)
    try(have h46:((n:Int) != 46)=true:=by rw[bne_iff_ne];omega)
   all_goals
    first
     | (have hk:abq c=true:=by rw[Kv.out];simp<;>omega
        have HK:=ah hk;clear hk;go_wp2;go_round
        case rel=>exact⟨i+1,by omega,by go_num,by rw[HS.out,HA.out,HK.out];rfl⟩
        case measure=>simp[intOf]<;>omega
        done)
     | (have hk:abq c=false:=by rw[Kv.out];simp<;>omega
        have HK:=ah hk;clear hk;go_wp2;go_ret;exact⟨by simp[wD,HN.out HK.out],HB.out⟩)
  ·obtain rfl:i=s.length:=by omega
   have mV:=HA.out;rw[aL (ay _)]at mV;have HL:=ah mV;clear mV;have Di:wD s=(decide (1<=s.length)&&decide (s.length<=24)):=by simp[wD,HL.out]
   have HK:=ah Di;clear Di;by_cases h1:1<=s.length
   ·by_cases h2:s.length<=24
    all_goals
     go_wp2;go_ret;exact⟨by rw[HK.out];simp[h1,h2]<;>omega,HB.out⟩
   ·have h1':¬(1:Int)<=s.length:=by omega
    go_wp2;go_ret;exact⟨by rw[HK.out];simp[h1],HB.out⟩
structure fu where
 j6:Bool
 b:Vector UInt8 16
deriving DecidableEq
structure Bk where
 name:List UInt8
 jk:fu
 nL:Int
 Gq:Vector UInt8 6
 w:Nat
 drain:Bool
deriving DecidableEq
def fu.aA(a:fu):Array aC:=(bQ a.j6::a.b.toList.map bv).toArray
def Bk.aA(x:Bk):Array aC:=(jc (bV x.name)::bQ x.jk.j6::(x.jk.b.toList.map bv++aJ .i64 x.nL::(x.Gq.toList.map bv++[fv x.w,bQ x.drain]))).toArray
theorem fu.ak(a:fu):a.aA.size=17:=by simp[fu.aA]
theorem Bk.ak(x:Bk):x.aA.size=27:=by simp[Bk.aA]
@[go_sem]theorem fu.qH(a:fu):a.aA[0]? = some (.bool a.j6):=rfl
theorem fu.EU(a:fu)(i:Nat)(hi:i<16):a.aA[i+1]? = some (bv (a.b.toList.getD i 0)):=by
 simp[fu.aA,dZ,hi,av]
@[go_sem]theorem Bk.qH(x:Bk):x.aA[0]? = some (.string (bV x.name)):=rfl
@[go_sem]theorem Bk.Il(x:Bk):x.aA[1]? = some (.bool x.jk.j6):=rfl
theorem Bk.EU(x:Bk)(i:Nat)(hi:i<16):x.aA[i+2]? = some (bv (x.jk.b.toList.getD i 0)):=by
 simp[Bk.aA,dZ,kR,hi,av]
@[go_sem]theorem Bk.amX(x:Bk):x.aA[18]? = some (.int .i64 x.nL):=by simp[Bk.aA,dZ,kR]
theorem Bk.aAr(x:Bk)(i:Nat)(hi:i<6):x.aA[i+19]? = some (bv (x.Gq.toList.getD i 0)):=by
 simp[Bk.aA,dZ,kR,hi,av]
@[go_sem]theorem Bk.agh(x:Bk):x.aA[25]? = some (fv x.w):=by simp[Bk.aA,dZ,kR]
@[go_sem]theorem Bk.agi(x:Bk):x.aA[26]? = some (.bool x.drain):=by simp[Bk.aA,dZ,kR]
theorem fu.cB(a:fu):a.aA.all (·.oneCell')=true:=by
 rw[fZ];intro v hv;simp[fu.aA]at hv;rcases hv with rfl|⟨b,_,rfl⟩<;>rfl
theorem Bk.cB(x:Bk):x.aA.all (·.oneCell')=true:=by
 rw[fZ];intro v hv;simp[Bk.aA]at hv;rcases hv with rfl|rfl|⟨b,_,rfl⟩|rfl|⟨b,_,rfl⟩|rfl|rfl<;>rfl
theorem Bk.adC(x:Bk)(j:Nat)(hj:j<17):x.aA[j+1]? = x.jk.aA[j]?:=by
 rcases j with _|j
 ·rfl
 ·rw[show j+1+1=j+2 from rfl,Bk.EU x j (by omega),fu.EU x.jk j (by omega)]
@[go_sem]theorem VH(w:au)(x:Bk)(t:bM):xS (w.alloc (.cells x.aA t)) w.heap.size 0 27=True:=by
 simp only[eq_iff_iff,iff_true];exact(abl w x.aA t 0 27 x.aA (Bk.ak x) (fun j _=>by rw[bB])).1
@[go_sem]theorem Ji(w:au)(x:Bk)(t:bM):dY (w.alloc (.cells x.aA t)) w.heap.size 0 27=x.aA:=
 (abl w x.aA t 0 27 x.aA (Bk.ak x) (fun j _=>by rw[bB])).2
def rR(v:aC):xO aC:=bZ 27 v
def VI(v:aC):xO aC:=bZ 62 v
def Kw(v x:aC):xO Unit:=eD 62 v x
@[go_sem ↓]theorem avS(v:aC):bZ 27 v=rR v:=rfl
@[go_sem ↓]theorem aza(v:aC):bZ 62 v=VI v:=rfl
@[go_sem ↓]theorem avT(v x:aC):eD 62 v x=Kw v x:=rfl
@[go_sem]theorem arc(W:au)(b o:Nat)(h:xS W b o 27):(VI (.pointer (some ⟨b,o,none⟩))).run aj W=.ok (.agg (dY W b o 27)) W:=
 ko W b o 27 _ _ og rfl (by kernel_rfl) h
@[go_sem]theorem NT(W:au)(b o:Nat)(h:xS W b o 17):(rR (.pointer (some ⟨b,o,none⟩))).run aj W=.ok (.agg (dY W b o 17)) W:=
 ko W b o 17 _ _ eZ rfl (by kernel_rfl) h
@[go_sem]theorem NU(w:au)(c:Array aC)(x:Bk)(hc:c.size=27):
 (Kw (.pointer (some ⟨w.heap.size,0,none⟩)) (.agg x.aA)).run aj (w.alloc (.cells c 62))=.ok () (w.alloc (.cells x.aA 62)):=
 zH w _ c x.aA (by rw[Bk.ak];kernel_rfl) (by rw[Bk.ak];exact hc) (Bk.cB x)
def jo:Bk:=⟨[],⟨false,bG 16 0⟩,0,bG 6 0,0,false⟩
@[go_sem]theorem aAs:bY #[jc {data:=#[]},bQ false,aB,aB,aB,aB,aB,aB,aB,aB,aB,aB,aB,aB,aB,aB,aB,aB,bg,aB,aB,aB,aB,aB,aB,AX kY 0,bQ false]=bY jo.aA:=rfl
@[go_sem]theorem avU:Obj.cells #[jc {data:=#[]},bQ false,aB,aB,aB,aB,aB,aB,aB,aB,aB,aB,aB,aB,aB,aB,aB,aB,bg,aB,aB,aB,aB,aB,aB,AX kY 0,bQ false] 62=Obj.cells jo.aA 62:=rfl
theorem amY{fn:Func}{p u:Tmp}(h:fn.results = #[.cell p 62,.tmp u])(tmps:Array aC)(W:au)(b o:Nat)(hp:tmps.getD p undef=.pointer (some ⟨b,o,none⟩))(hh:xS W b o 27):
 (results fn tmps).run aj W=.ok (.tuple #[.agg (dY W b o 27),tmps.getD u undef]) W:=by
 have hl:=ko W b o 27 _ _ og rfl (by kernel_rfl) hh;simp only[bZ,zy,jK,ou,gK]at hl;rw[LP h,hp];simp[asAddr,iD,hl]
def VJ(W:au)(b o:Nat)(x:Bk):au:=W.setCells b o x.aA.toList
@[go_sem]theorem aAt(W:au)(b o:Nat)(x:Bk)(h:W.there b o 27):(Kw (.pointer (some ⟨b,o,none⟩)) (.agg x.aA)).run aj W=.ok () (VJ W b o x):=
 EF W b o _ x.aA (by rw[Bk.ak];exact h) (by rw[Bk.ak];kernel_rfl) (Bk.cB x)
theorem agj(W:au)(b o:Nat)(x:Bk)(h:W.there b o 27):∀j,j<27->(VJ W b o x).cell? ⟨b,o+j,none⟩=x.aA[j]?:=fun j hj=>by
 have hs:=Bk.ak x;have:=World.cell?_setCells_in b x.aA.toList o W (fun i hi=>(h i (by simpa[hs]using hi)).1) j (by simpa[hs]using hj);rw[VJ,this,Array.getElem_toList,fq (by rw[hs];exact hj)]
theorem NV(W:au)(b o:Nat)(x:Bk)(h:W.there b o 27):xS (VJ W b o x) b o 27/\dY (VJ W b o x) b o 27=x.aA:=
 xB (Bk.ak x) (agj W b o x h)
theorem Sz{w W:au}{B:Nat}(h:aN B w W)(b o:Nat)(x:Bk)(hb:B<=b):aN B w (VJ W b o x):=by
 unfold VJ;generalize x.aA.toList=l
 induction l generalizing W o with
 | nil=>exact h
 | cons v l ih=>rw[Dy];exact ih (h.setCell hb v) (o+1)
@[go_sem]theorem YI(w:au)(x y:Bk):
 (Kw (.pointer (some ⟨w.heap.size,0,none⟩)) (.agg x.aA)).run aj (w.alloc (.cells y.aA 62))=.ok () (w.alloc (.cells x.aA 62)):=
 NU w y.aA x (Bk.ak y)
theorem Zv(w:au)(c:Array aC)(t:bM)(hc:c.size=27):(w.alloc (.cells c t)).there w.heap.size 0 27:=fun j hj=>by
 have hj':j<c.size:=by omega
 refine⟨by rw[bB,mU,fq hj'];rfl,?_⟩;simp
namespace Fl
open Ieee
theorem Jj:double.binade=4503599627370496:=by decide
theorem abt:double.signWeight=9223372036854775808:=by decide
theorem adD:double.infRung=9218868437227405312:=by decide
theorem NW:double.leastPlace = -1074:=by decide
theorem avV:double.fractionBits=52:=rfl
def mag(r:Nat):Nat:=if r<4503599627370496 then r else 4503599627370496+r%4503599627370496
def pl(r:Nat):Nat:=r/4503599627370496-1
def V(r:Nat):Nat:=mag r*2^pl r
theorem avW(r:Nat):mag r<9007199254740992:=by unfold mag;split<;>omega
theorem Jk{x:Nat}(h:x<9218868437227405312):double.read x=.number false (mag x) ((pl x:Int)-1074):=by
 unfold Format.read;simp only[abt,Jj,adD,NW];have h1:x/9223372036854775808=0:=by omega
 have h2:x%9223372036854775808=x:=by omega
 rw[h1,h2];simp only[mag,pl];by_cases h3:x<4503599627370496
 ·have:x/4503599627370496=0:=by omega
  simp[this,h3]
 ·rw[if_neg h3,if_pos h,if_neg h3]
  congr 1
theorem amZ{x:Nat}(h:x<9218868437227405312):double.read (9223372036854775808+x)=.number true (mag x) ((pl x:Int)-1074):=by
 unfold Format.read;simp only[abt,Jj,adD,NW];have h1:(9223372036854775808+x)/9223372036854775808=1:=by omega
 have h2:(9223372036854775808+x)%9223372036854775808=x:=by omega
 rw[h1,h2];simp only[mag,pl];by_cases h3:x<4503599627370496
 ·have:x/4503599627370496=0:=by omega
  simp[this,h3]
 ·rw[if_neg h3,if_pos h,if_neg h3]
  congr 1
theorem am0:double.read 9218868437227405312=.infinity false:=by decide +kernel
theorem aj9:double.read 18442240474082181120=.infinity true:=by decide +kernel
theorem am1{x:Nat}(h:9218868437227405312<x)(h':x<9223372036854775808):double.read x=.nan false (x-9218868437227405312):=by
 unfold Format.read;simp only[abt,Jj,adD,NW];have h1:x/9223372036854775808=0:=by omega
 have h2:x%9223372036854775808=x:=by omega
 rw[h1,h2,if_neg (by omega),if_neg (by omega),if_neg (by omega)];rfl
theorem aj'{x:Nat}(h:18442240474082181120<x)(h':x<18446744073709551616):double.read x=.nan true (x-18442240474082181120):=by
 unfold Format.read;simp only[abt,Jj,adD,NW];have h1:x/9223372036854775808=1:=by omega
 have h2:x%9223372036854775808=x-9223372036854775808:=by omega
 rw[h1,h2,if_neg (by omega),if_neg (by omega),if_neg (by omega)];simp;omega
theorem am2(r:Nat):V (r+1)=V r+2^pl r:=by
 unfold V mag pl;by_cases h:r+1<4503599627370496
 ·have h1:r/4503599627370496=0:=by omega
  have h2:(r+1)/4503599627370496=0:=by omega
  rw[if_pos h,if_pos (by omega),h1,h2];simp
 ·rw[if_neg h]
  by_cases h3:(r+1)%4503599627370496=0
  ·
   have h4:r%4503599627370496=4503599627370495:=by omega
   have h5:(r+1)/4503599627370496=r/4503599627370496+1:=by omega
   rw[h3,h5];by_cases h6:r<4503599627370496
   ·have h7:r/4503599627370496=0:=by omega
    rw[if_pos h6,h7];simp;omega
   ·have h7:r/4503599627370496=(r/4503599627370496-1)+1:=by omega
    rw[if_neg h6,h4];have e:r/4503599627370496+1-1=(r/4503599627370496-1)+1:=by omega
    rw[e,Nat.pow_succ];generalize 2^(r/4503599627370496-1)=z;omega
  ·have h5:(r+1)/4503599627370496=r/4503599627370496:=by omega
   have h6:(r+1)%4503599627370496=r%4503599627370496+1:=by omega
   rw[h5,h6,if_neg (by omega)];generalize 2^(r/4503599627370496-1)=z;rw[show 4503599627370496+(r%4503599627370496+1)=(4503599627370496+r%4503599627370496)+1 from rfl,Ki]
theorem abu{r s:Nat}(h:r<=s):V r<=V s:=by
 induction h with
 | refl=>exact ay _
 | step _ ih=>rw[am2];exact aP ih (Nat.le_add_right _ _)
theorem aGm{r s:Nat}(h:r<s):V r<V s:=by
 have h1:=am2 r;have h2:=abu (show r+1<=s from h);have h3:0<2^pl r:=nJ _;omega
theorem VK{r s:Nat}:V r<=V s↔r<=s:=⟨fun h=>by
 by_cases hc:r<=s
 ·exact hc
 ·have:=aGm (show s<r by omega);omega,abu⟩
theorem agk:V 0=0:=by decide
theorem adE(a b:Int)(z:Nat)(hz:0<z):compare (a*z) (b*z)=compare a b:=by
 simp only[compare,compareOfLessAndEq];have a1:(a*(z:Int)<b*z)↔a<b:=Int.mul_lt_mul_right (by omega);have a2:(a*(z:Int)=b*z)↔a=b:=Int.mul_eq_mul_right_iff (by omega);simp only[a1,a2]
theorem VL(s:Bool)(m k d:Nat):signed s m (k+d)=signed s m k*(2^d:Nat):=by
 unfold signed;simp only[mF,qm];cases s
 ·simp[Int.mul_assoc]
 ·simp[Int.mul_assoc,Int.neg_mul]
theorem akb(s t:Bool)(m n i j:Nat):Datum.order (.number s m ((i:Int)-1074)) (.number t n ((j:Int)-1074))=some (compare (signed s m i) (signed t n j)):=by
 simp only[Datum.order];congr 1;obtain⟨b,hb⟩:∃b:Nat,b=min i j:=⟨_,rfl⟩
 have e0:min ((i:Int)-1074) ((j:Int)-1074)=(b:Int)-1074:=by omega
 rw[e0];have e1:signed s m i=signed s m ((i:Int)-1074-((b:Int)-1074)).toNat*(2^b:Nat):=by
  rw[<-VL];congr 1;omega
 have e2:signed t n j=signed t n ((j:Int)-1074-((b:Int)-1074)).toNat*(2^b:Nat):=by
  rw[<-VL];congr 1;omega
 rw[e1,e2];exact(adE _ _ _ (nJ _)).symm
def fin(x:Nat):Prop:=x<9218868437227405312\/(9223372036854775808<=x/\x<18442240474082181120)
def SV(x:Nat):Int:=if x<9223372036854775808 then(V x:Int)else -(V (x-9223372036854775808):Int)
theorem NY{x:Nat}(h:fin x):∃(s:Bool)(m i:Nat),double.read x=.number s m ((i:Int)-1074)/\signed s m i=SV x:=by
 rcases h with h|⟨h,h'⟩
 ·exact⟨_,_,_,Jk h,by unfold SV;rw[if_pos (by omega)];simp[signed,V,mF]⟩
 ·have:=amZ (x:=x-9223372036854775808) (by omega)
  rw[show 9223372036854775808+(x-9223372036854775808)=x by omega]at this;exact⟨_,_,_,this,by unfold SV;rw[if_neg (by omega)];simp[signed,V,mF]⟩
theorem aiE{x y:Nat}(hx:fin x)(hy:fin y):double.order x y=some (compare (SV x) (SV y)):=by
 obtain⟨s,m,i,h1,h2⟩:=NY hx;obtain⟨t,n,j,h3,h4⟩:=NY hy;unfold Format.order;rw[h1,h3,akb,h2,h4]
theorem ard{x:Nat}(hx:x<18446744073709551616)(h:¬fin x):x=9218868437227405312\/x=18442240474082181120\/(∃s f,double.read x=.nan s f):=by
 unfold fin at h;by_cases h1:x=9218868437227405312
 ·exact .inl h1
 by_cases h2:x=18442240474082181120
 ·exact .inr (.inl h2)
 by_cases h3:x<9223372036854775808
 ·exact .inr (.inr ⟨_,_,am1 (by omega) h3⟩)
 ·exact .inr (.inr ⟨_,_,aj' (by omega) hx⟩)
theorem Zx{x y:Nat}{s f}(h:double.read x=.nan s f):double.order x y=none:=by
 unfold Format.order;rw[h];rfl
theorem Zy{y:Nat}(hy:fin y):double.order 9218868437227405312 y=some .gt:=by
 obtain⟨t,n,j,h3,h4⟩:=NY hy;unfold Format.order;rw[h3,am0];rfl
theorem VO{y:Nat}(hy:fin y):double.order 18442240474082181120 y=some .lt:=by
 obtain⟨t,n,j,h3,h4⟩:=NY hy;unfold Format.order;rw[h3,aj9];rfl
theorem adG(k t:Nat)(hk:0<k):(k*2^t).log2=k.log2+t:=by
 have h0:k*2^t≠0:=uM (Nat.mul_pos hk (nJ _));have h1:2^k.log2<=k:=Nat.log2_self_le (by omega);have h2:k<2^(k.log2+1):=Nat.lt_log2_self;refine Nat.le_antisymm ?_ ?_
 ·refine Gi ((Nat.log2_lt h0).2 ?_)
  rw[show Nat.succ (k.log2+t)=(k.log2+1)+t by omega,qm];exact(Nat.mul_lt_mul_right (nJ _)).2 h2
 ·refine(Nat.le_log2 h0).2 ?_
  rw[qm];exact cZ _ h1
theorem am3(way:Toward)(neg:Bool)(n:Nat):way.cut neg n 0=n:=by
 unfold Toward.cut;cases way<;>simp[Nat.mod_one]
theorem akc(neg:Bool)(k t:Nat)(hk:0<k):Toward.even.cut neg (k*2^t) t=k:=by
 unfold Toward.cut;have h0:min t ((k*2^t).log2+2)=t:=by rw[adG _ _ hk];omega
 have h1:(1 <<< t)=2^t:=by rw[mF,Nat.one_mul]
 have hp:0<2^t:=nJ _;simp only[h0,h1,Nat.mul_div_cancel _ hp,Nat.mul_mod_left];simp
theorem adH(n t:Nat):Toward.down.cut false n t=n/2^t:=by
 unfold Toward.cut;simp only[Bool.false_and,Bool.toNat_false,nI];have h1:∀d,(1 <<< d)=2^d:=fun d=>by rw[mF,Nat.one_mul]
 rw[h1];by_cases h:t<=n.log2+2
 ·rw[oH h]
 ·rw[Nat.min_eq_right (by omega)]
  have h2:n<2^(n.log2+1):=Nat.lt_log2_self;have h3:2^(n.log2+1)<=2^(n.log2+2):=nQ (by omega) (by omega);have h4:2^(n.log2+2)<=2^t:=nQ (by omega) (by omega);rw[Nat.div_eq_of_lt (by omega),Nat.div_eq_of_lt (by omega)]
theorem akd(neg:Bool)(n t:Nat):Toward.zero.cut neg n t=n/2^t:=by
 have:=adH n t;unfold Toward.cut at this ⊢;simpa using this
theorem Ma(neg:Bool)(k t s:Nat)(p:Int)(hp:p+t=(s:Int)-1074)(Ny:0<k)(hk:k<9007199254740992)(hs:s+k.log2<=2097):
 ∃r,r<9218868437227405312/\double.nearest neg (k*2^t) p=double.word neg r/\V r=k*2^s:=by
 have aAu:k.log2<=52:=Gi ((Nat.log2_lt (by omega)).2 (by simpa using hk));have h1:2^k.log2<=k:=Nat.log2_self_le (by omega);have h2:k<2^(k.log2+1):=Nat.lt_log2_self;have pY:k*2^t≠0:=uM (Nat.mul_pos Ny (nJ _));obtain⟨l,hl⟩:∃l:Nat,l=s+k.log2-52:=⟨_,rfl⟩
 have aAv:max (p+((k*2^t).log2:Int)-52) (-1074)=(l:Int)-1074:=by rw[adG _ _ Ny];omega
 have aAw:Toward.even.cut neg ((k*2^t) <<< (p-((l:Int)-1074)).toNat) (((l:Int)-1074)-p).toNat=k*2^(s-l):=by
  rw[mF];by_cases hc:(l:Int)-1074<=p
  ·rw[show(((l:Int)-1074)-p).toNat=0 by omega,am3,Nat.mul_assoc,<-qm]
   congr 2;omega
  ·rw[show(p-((l:Int)-1074)).toNat=0 by omega,Nat.pow_zero,gF]
   obtain⟨d,hd⟩:∃d:Nat,d=(((l:Int)-1074)-p).toNat:=⟨_,rfl⟩
   rw[<-hd,show k*2^t=(k*2^(s-l))*2^d by rw[Nat.mul_assoc,<-qm];congr 2;omega];exact akc _ _ _ (Nat.mul_pos Ny (nJ _))
 have qc:double.nearest neg (k*2^t) p=double.word neg (min (l*4503599627370496+k*2^(s-l)) 9218868437227405312):=by
  unfold Format.nearest;simp only[if_neg pY,avV,NW,Jj,adD];rw[show((52:Nat):Int)=52 from rfl,aAv,aAw];congr 4;omega
 by_cases Zz:l=0
 ·subst Zz
  have hb:k*2^s<9007199254740992:=by
   have h5:k*2^s<2^(k.log2+1)*2^s:=(Nat.mul_lt_mul_right (nJ _)).2 h2;rw[<-qm]at h5;have h6:2^(k.log2+1+s)<=2^53:=nQ (by omega) (by omega);omega
  refine⟨k*2^s,by omega,?_,?_⟩
  ·rw[qc,Kj,bB,Nat.sub_zero,oH (by omega)]
  ·generalize k*2^s=z at hb
   unfold V mag pl;split
   ·rename_i h7;rw[show z/4503599627370496=0 by omega];simp
   ·rename_i h7;rw[show z/4503599627370496=1 by omega];simp;omega
 ·have gI:4503599627370496<=k*2^(s-l):=by
   have h5:2^k.log2*2^(s-l)<=k*2^(s-l):=cZ _ h1;rw[<-qm,show k.log2+(s-l)=52 by omega]at h5;exact h5
  have kF:k*2^(s-l)<9007199254740992:=by
   have h5:k*2^(s-l)<2^(k.log2+1)*2^(s-l):=(Nat.mul_lt_mul_right (nJ _)).2 h2;rw[<-qm,show k.log2+1+(s-l)=53 by omega]at h5;exact h5
  have hv:k*2^s=k*2^(s-l)*2^l:=by rw[Nat.mul_assoc,<-qm];congr 2;omega
  rw[hv];generalize k*2^(s-l)=z at gI kF qc;refine⟨l*4503599627370496+z,by omega,?_,?_⟩
  ·rw[qc,oH (by omega)]
  ·unfold V mag pl
   rw[if_neg (by omega),show(l*4503599627370496+z)/4503599627370496=l+1 by omega,show(l*4503599627370496+z)%4503599627370496=z-4503599627370496 by omega];rw[show 4503599627370496+(z-4503599627370496)=z by omega];rfl
def top:Nat:=1074
theorem agl:top=1074:=rfl
def U:Nat:=2^top
theorem am4{p:Nat}(h:p<=top):U=2^(top-p)*2^p:=by
 have h1:2^(top-p+p)=2^(top-p)*2^p:=qm 2 (top-p) p;rw[Nat.sub_add_cancel h]at h1;exact h1
theorem arh{p:Nat}(h:p<=1074):U=2^(1074-p)*2^p:=by
 have h1:=am4 (p:=p) (by rw[agl];exact h);rw[h1,show top-p=1074-p from congrArg (fun z=>z-p) agl]
theorem aGn:∃s:Nat,s=1074/\U=2^s:=⟨top,agl,rfl⟩
theorem am5:0<U:=nJ _
theorem ake:double.read 4652218415073722368=.number false 4503599627370496 (-42):=by decide +kernel
theorem am6:V 4652007308841189376=1000*U:=by decide +kernel
theorem Gs(r:Nat):double.word false r=r:=rfl
theorem abv(x t s:Nat)(p:Int)(hp:p+t=(s:Int)-1074)(hs:s<=2045):
 ∃r,r<9218868437227405312/\double.write (.number false (mag x*2^t) p)=r/\V r=mag x*2^s:=by
 unfold Format.write;by_cases h0:mag x=0
 ·rw[h0,Kj]
  exact⟨0,by decide,by simp[Format.nearest,Gs],by simp[agk]⟩
 ·have hm:=avW x
  have aAu:(mag x).log2<=52:=Gi ((Nat.log2_lt h0).2 (by simpa using hm));obtain⟨r,a,b,c⟩:=Ma false (mag x) t s p hp (by omega) hm (by omega);exact⟨r,a,b.trans (Gs r),c⟩
theorem am7{x:Nat}(h:x<=4652007308841189376):∃r,r<9218868437227405312/\double.mul x 4652218415073722368=some r/\V r=V x*1024:=by
 unfold Format.mul;rw[Jk (x:=x) (by omega),ake];obtain⟨r,a,b,c⟩:=abv x 52 (pl x+10) ((pl x:Int)-1074 + -42) (by omega) (by unfold pl;omega);refine⟨r,a,?_,?_⟩
 ·simp only[Datum.product,Option.map]
  rw[show(4503599627370496:Nat)=2^52 from rfl];exact congrArg some b
 ·rw[c,V,qm,Nat.mul_assoc]
theorem adI:double.mul 9223372036854775808 4652218415073722368=some 9223372036854775808:=by decide +kernel
theorem VQ{r c:Nat}(h:V r<=V c):pl r<=pl c:=by
 have:=VK.1 h;unfold pl;have:=Nat.div_le_div_right (c:=4503599627370496) this;omega
theorem aue{r:Nat}(h:pl r<=1074):mag r/2^(1074-pl r)=V r/U:=by
 unfold V;rw[arh h,Nat.mul_div_mul_right _ _ (nJ _)]
theorem YJ{r:Nat}(hr:r<9218868437227405312)(h:pl r<=1074):(double.read r).integral .down=.number false (V r/U) 0:=by
 rw[Jk hr];simp only[Datum.integral];rw[show((pl r:Int)-1074).toNat=0 by omega,show(-((pl r:Int)-1074)).toNat=1074-pl r by omega,Nat.shiftLeft_zero,adH,aue h]
theorem YK{r:Nat}(hr:r<9218868437227405312)(h:pl r<=1074):(double.read r).integral .zero=.number false (V r/U) 0:=by
 rw[Jk hr];simp only[Datum.integral];rw[show((pl r:Int)-1074).toNat=0 by omega,show(-((pl r:Int)-1074)).toNat=1074-pl r by omega,Nat.shiftLeft_zero,akd,aue h]
theorem adJ(q:Nat)(hq:q<9007199254740992):∃r,r<9218868437227405312/\double.write (.number false q 0)=r/\V r=q*U:=by
 unfold Format.write;by_cases h0:q=0
 ·subst h0
  exact⟨0,by decide,by simp[Format.nearest,Gs],by simp[agk]⟩
 ·have aAu:q.log2<=52:=Gi ((Nat.log2_lt h0).2 (by simpa using hq))
  obtain⟨u,hu,hU⟩:=aGn;obtain⟨r,a,b,c⟩:=Ma false q 0 u 0 (by omega) (by omega) hq (by omega);rw[Nat.pow_zero,gF]at b;rw[<-hU]at c;exact⟨r,a,b.trans (Gs r),c⟩
theorem am8:V 4697254411347427328=1048576*U:=by decide +kernel
theorem am9{r q:Nat}(hv:V r=q*U)(hq:q<=1048576):pl r<=1074:=by
 have h1:V r<=V 4697254411347427328:=by rw[hv,am8];exact cZ _ hq
 have h2:=VQ h1;have h3:pl 4697254411347427328=1042:=by decide +kernel
 omega
def uZ(x:Nat):Nat:=V x*1024/U
theorem adK{x y:Nat}(h:x<=y):uZ x<=uZ y:=Nat.div_le_div_right (cZ _ (abu h))
theorem adL:uZ 4652007308841189376=1024000:=by
 unfold uZ;rw[am6,Nat.mul_right_comm,Nat.mul_div_cancel _ am5]
theorem akf{x:Nat}(h:x<=4652007308841189376):uZ x<=1024000:=adL ▸ adK h
end Fl
theorem Qz(x:Nat)(w:au):(callFunc 198 #[.float .f64 x]).run aj w=.ok (.value (.int .u64 x)) w:=by
 rw[yU Tryz.func198 (by kernel_rfl) (by kernel_rfl) (by kernel_rfl) (e:=Extern.MathFloatBits.float64bits) (by kernel_rfl)];rfl
def ord(x y:Nat):Option Ordering:=kY.format.order x y
def am'(x:Nat):Bool:=ord x x != some .eq
theorem akg(x:Nat)(w:au):aR aj 261 #[.float .f64 x] w fun e w'=>e=.returned (.bool (am' x))/\w=w':=by
 go_enter Tryz.func261,Tryz.ntmps261;go_wp2;go_ret;exact⟨rfl,rfl⟩
def VR(x:Nat):Nat:=if am' x then 9221120237041090560 else x
theorem ana(x:Nat)(w:au):aR aj 192 #[.float .f64 x] w fun e w'=>e=.returned (.int .u64 (VR x))/\w=w':=by
 have h1:=Qz x;cases hn:am' x
 all_goals
  go_enter Tryz.func192,Tryz.ntmps192;go_wp2_with (first|(go_at_call 261;refine(akg _ _).mono ?_;rintro e w' ⟨rfl,rfl⟩));go_ret;exact⟨by simp[VR,hn],rfl⟩
def EX(x y:Nat):Bool:=VR x==VR y
theorem adM(x y:Nat)(w:au):aR aj 112 #[.float .f64 x,.float .f64 y] w fun e w'=>e=.returned (.bool (EX x y))/\w=w':=by
 go_enter Tryz.func112,Tryz.ntmps112;go_wp2_with (first|(go_at_call 192;refine(ana _ _).mono ?_;rintro e w' ⟨rfl,rfl⟩));go_ret;exact⟨by simp[EX,aq7],rfl⟩
def QA(x:Nat):Bool:=(ord x 0==some .gt||ord x 0==some .eq)&&(ord x 4652007308841189376==some .lt||ord x 4652007308841189376==some .eq)
theorem Ky(x:Nat)(w:au):aR aj 170 #[.float .f64 x] w fun e w'=>e=.returned (.bool (QA x))/\w=w':=by
 cases h0:(kY.format.order x 0==some .gt||kY.format.order x 0==some .eq)
 all_goals
  go_enter Tryz.func170,Tryz.ntmps170;go_wp2;go_ret;exact⟨by simp[QA,ord,h0],rfl⟩
def kG(x:Nat):Nat:=if ord x 0==some .eq then 0 else x
theorem zK(x:Nat)(w:au):aR aj 113 #[.float .f64 x] w fun e w'=>e=.returned (.float .f64 (kG x))/\w=w':=by
 cases h0:(kY.format.order x 0==some .eq)
 all_goals
  go_enter Tryz.func113,Tryz.ntmps113;go_wp2;go_ret;exact⟨by simp[kG,ord,h0],rfl⟩
def YM(x:Nat):Bool:=decide (x<=4652007308841189376)||x==9223372036854775808
theorem Kz{x:Nat}(hx:x<18446744073709551616):QA x=YM x:=by
 have f0:Fl.fin 0:=by unfold Fl.fin;omega
 have f1:Fl.fin 4652007308841189376:=by unfold Fl.fin;omega
 have s0:Fl.SV 0=0:=by decide +kernel
 have s1:Fl.SV 4652007308841189376=(Fl.V 4652007308841189376:Int):=by unfold Fl.SV;rw[if_pos (by omega)]
 have aGo:∀a b,ord a b=vX.order a b:=fun _ _=>rfl
 unfold QA YM;rw[cO];simp only[aGo];by_cases hf:Fl.fin x
 ·rw[Fl.aiE hf f0,Fl.aiE hf f1,s0,s1]
  have e1:∀a b:Int,(some (compare a b)==some Ordering.gt||some (compare a b)==some Ordering.eq)=decide (b<=a):=by
   intro a b;rw[cO];simp[Int.compare_eq_gt,Int.compare_eq_eq];omega
  have e2:∀a b:Int,(some (compare a b)==some Ordering.lt||some (compare a b)==some Ordering.eq)=decide (a<=b):=by
   intro a b;rw[cO];simp[Int.compare_eq_lt,Int.compare_eq_eq];omega
  rw[e1,e2];unfold Fl.SV;split
  ·rename_i h1
   have:=@Fl.VK x 4652007308841189376;simp;omega
  ·rename_i h1
   have:=@Fl.VK (x-9223372036854775808) 0;have hz:=Fl.agk;simp;omega
 ·have uU:¬x<=4652007308841189376:=fun h=>hf (by unfold Fl.fin;omega)
  have aOv:¬x=9223372036854775808:=fun h=>hf (by unfold Fl.fin;omega)
  rcases Fl.ard hx hf with rfl|rfl|⟨s,f,h⟩
  ·rw[Fl.Zy f0,Fl.Zy f1];decide
  ·rw[Fl.VO f0,Fl.VO f1];decide
  ·rw[Fl.Zx h,Fl.Zx h]
   simp;omega
def wQ(x:Nat):Nat:=if YM x then Fl.uZ (x%9223372036854775808)else 0
theorem auf(x:Nat):wQ x<=1024000:=by
 unfold wQ;split
 ·rename_i h
  simp[YM]at h;refine Fl.akf ?_;omega
 ·omega
theorem VT(x:Nat)(d:Ieee.Datum)(h:vX.read x=d)(hn:d.isNaN=false)(w:au):
 (callFunc 244 #[.float .f64 x]).run aj w=.ok (.value (.float .f64 (vX.write (d.integral .down)))) w:=by
 rw[yU Tryz.func244 (by kernel_rfl) (by kernel_rfl) (by kernel_rfl) (e:=Extern.MathFloor.toIntegral (Tryz.f244.name) .down) (by kernel_rfl)];have e:kY.decode x=d:=h;have qc:Kk aj (Extern.MathFloor.toIntegral (Tryz.f244.name) .down #[.float .f64 x]) w=.ok (.float .f64 (vX.write (d.integral .down))) w:=by
  change Kk aj ((match kY.decode x with
   | .nan s t=>
     if kY.format.quiet t=t then pure (AX .f64 x)else do
     let kept<-choose _
     pure (AX .f64 (if kept==1 then x else kY.encode (.nan s (kY.format.quiet t))))
   | d=>pure (AX .f64 (kY.encode (d.integral .down)))):xO aC) w=_
  rw[e];cases d with
  | nan s f=>simp[Ieee.Datum.isNaN]at hn
  | infinity s=>rfl
  | number s m i=>rfl
 rw[qc];rfl
theorem akh(x:Nat)(h:YM x=true)(w:au):aR aj 86 #[.float .f64 x] w fun e w'=>e=.returned (.tuple #[.int .i64 (wQ x),.bool true])/\w=w':=by
 have hx:x<18446744073709551616:=by simp[YM]at h;omega
 have hr:QA x=true:=by rw[Kz hx,h]
 obtain⟨r,r2,e1,e2,e3,e4⟩:∃r r2,vX.mul x 4652218415073722368=some r/\(vX.read r).isNaN=false/\vX.write ((vX.read r).integral .down)=r2/\floatToIntVal .f64 r2 .i64=some (wQ x:Int):=by
  by_cases hm:x=9223372036854775808
  ·subst hm
   exact⟨_,_,Fl.adI,by decide +kernel,rfl,by decide +kernel⟩
  ·have hle:x<=4652007308841189376:=by simp[YM]at h;omega
   have hq:wQ x=Fl.uZ x:=by unfold wQ;rw[if_pos h,fM (by omega)]
   obtain⟨r,a,b,c⟩:=Fl.am7 hle;have aOw:=auf x;have hV:Fl.V r<1048576*Fl.U:=by
    have h1:=Fl.abu hle;rw[Fl.am6]at h1;have:=Fl.am5;rw[c];generalize Fl.V x=y at h1;generalize Fl.U=u at h1 this;omega
   have hpl:Fl.pl r<=1074:=by
    have h1:Fl.V r<=Fl.V 4697254411347427328:=by rw[Fl.am8];exact Nat.le_of_lt hV
    have h2:=Fl.VQ h1;have h3:Fl.pl 4697254411347427328=1042:=by decide +kernel
    omega
   have hi:=Fl.YJ a hpl;have hqq:Fl.V r/Fl.U=wQ x:=by rw[hq,c];rfl
   rw[hqq]at hi;obtain⟨r2,a2,b2,c2⟩:=Fl.adJ (wQ x) (by omega);have hz:=Fl.YK a2 (Fl.am9 c2 (by omega));rw[c2,Nat.mul_div_cancel _ Fl.am5]at hz;refine⟨r,r2,b,?_,?_,?_⟩
   ·rw[Fl.Jk a];rfl
   ·rw[hi];exact b2
   ·unfold floatToIntVal
    have:(kY.decode r2).toInt .zero=some (wQ x:Int):=by
     show(vX.read r2).toInt .zero=_;unfold Ieee.Datum.toInt;rw[hz];simp[Ieee.signed]
    rw[this];simp[Ke,Kh,lT,nS];omega
 have h1:=fun w=>run_float_arith (P:=aj) w .mul 60 .f64 x 4652218415073722368 r e1
 have h2:=VT r _ rfl e2;rw[e3]at h2;have h3:=fun w=>run_convert_float_int (P:=aj) w 60 3 .f64 .i64 r2 _ (by kernel_rfl) gQ e4
 clear e1 e2 e3 e4;go_enter Tryz.func86,Tryz.ntmps86;go_wp2_with (first|(go_at_call 170;refine(Ky _ _).mono ?_;rintro e w' ⟨rfl,rfl⟩)|(go_at_call 171;go_in));go_ret2;exact⟨rfl,rfl⟩
theorem aki(x:Nat)(hx:x<18446744073709551616)(h:YM x=false)(w:au):aR aj 86 #[.float .f64 x] w fun e w'=>e=.returned (.tuple #[.int .i64 (wQ x),.bool false])/\w=w':=by
 have hr:QA x=false:=by rw[Kz hx,h]
 have hq:wQ x=0:=by unfold wQ;rw[h];rfl
 go_enter Tryz.func86,Tryz.ntmps86;go_wp2_with (first|(go_at_call 170;refine(Ky _ _).mono ?_;rintro e w' ⟨rfl,rfl⟩));go_ret2;exact⟨by simp[hq],rfl⟩
theorem agm(x:Nat)(hx:x<18446744073709551616)(w:au):aR aj 86 #[.float .f64 x] w fun e w'=>e=.returned (.tuple #[.int .i64 (wQ x),.bool (YM x)])/\w=w':=by
 cases h:YM x
 ·exact aki x hx h w
 ·exact akh x h w
theorem adN{x:Nat}(hx:x<18446744073709551616):VR x<18446744073709551616:=by unfold VR;split<;>omega
def agn(x:Nat):List UInt8:=iM (VR x) 8 true
theorem Gt{w:au}{A:Option aU}{n:Nat}{l:List UInt8}(h:gy w w.heap.size A n l)(c:Nat):
 (∀W,aN w.heap.size w W->(convert 56 9 (.slice A n c)).run aj W=.ok (.string (bV l)) W) /\
  (convert 56 9 (.slice A n c)).run aj w=.ok (.string (bV l)) w:=
 ⟨fun W hW=>Jb (P:=aj) (h.below hW) _ _ _ dw lD iL c,
  Jb (P:=aj) h _ _ _ dw lD iL c⟩
theorem adO{n m:Nat}(k:Nat)(h:∀i,i<k->Je n i=Je m i):n%2^(8*k)=m%2^(8*k):=by
 induction k with
 | zero=>simp[Nat.mod_one]
 | succ k ih=>
   have h1:=ih (fun i hi=>h i (by omega));have h2:=congrArg UInt8.toNat (h k (by omega));simp only[Je,Dz]at h2;have e:2^(8*(k+1))=2^(8*k)*256:=by rw[show 8*(k+1)=8*k+8 by omega,qm]
   rw[e,Nat.mod_mul,Nat.mod_mul,h1,h2]
theorem agp{n m:Nat}(hn:n<18446744073709551616)(hm:m<18446744073709551616)(h:iM n 8 true=iM m 8 true):n=m:=by
 have h1:wu n 8=wu m 8:=by
  have:=congrArg List.reverse h;simpa[iM]using this
 have h2:∀i,i<8->Je n i=Je m i:=fun i hi=>by
  have:=congrArg (fun l:List UInt8=>l[i]?) h1;simpa[wu,hi]using this
 have h3:=adO 8 h2;rw[fM (by omega),fM (by omega)]at h3;exact h3
theorem Ud(l:List UInt8):wu (oJ l) l.length=l.reverse:=by
 have key:∀(k:Nat)(l:List UInt8),l.length=k->wu (oJ l) k=l.reverse:=by
  intro k
  induction k with
  | zero=>intro l hl;rw[bF hl];rfl
  | succ k ih=>
    intro l hl;obtain⟨r,c,rfl⟩:∃r c,l=r++[c]:=⟨l.dropLast,l.getLast (by intro h;simp[h]at hl),(List.dropLast_concat_getLast _).symm⟩
    have hr:r.length=k:=by simpa using hl
    have:=ih r hr;rw[Jf];unfold wu at this ⊢;rw[List.range_succ_eq_map,kL,I4,List.reverse_append];simp only[List.reverse_cons,List.reverse_nil,dG,List.singleton_append,List.cons.injEq];constructor
    ·unfold Je
     apply lY.1;have:=c.toNat_lt;simp[Dz]
    ·rw[<-this]
     refine Db (fun i hi=>?_);simp only[Function.comp,Je];have e:(oJ r*256+c.toNat)/2^(8*(i+1))=oJ r/2^(8*i):=by
      rw[show 8*(i+1)=8+8*i by omega,qm,<-Nat.div_div_eq_div_mul];congr 1;have:=c.toNat_lt;omega
     rw[show Nat.succ i=i+1 from rfl,e]
 exact key _ l rfl
def fu.mK(a:fu):Bool:=(a.b.toList.drop 4).all (fun c=>c==0)
theorem fu.aAx(a:fu):a.b.toList.length=16:=a.b.size_toArray
def Bk.Dq(x:Bk):Bool:=(x.jk.j6||x.jk.mK)&&wD x.name&&decide (1<=x.nL)&&decide (x.nL<=65535)&&YM x.w
def fu.fE(a:fu)(i:Nat):UInt8:=a.b.toList.getD i 0
theorem fu.KC(a:fu):a.mK=true↔∀i,4<=i->i<16->a.fE i=0:=by
 unfold fu.mK fu.fE;rw[gH];have hl:=a.aAx;constructor
 ·intro h i h4 h16
  have:a.b.toList.getD i 0∈a.b.toList.drop 4:=by
   rw[av,aD (by omega)];exact List.mem_drop_iff_getElem.2 ⟨i-4,by omega,by simp[show 4+(i-4)=i by omega]⟩
  simpa using h _ this
 ·intro h x hx
  obtain⟨j,hj,rfl⟩:=List.mem_drop_iff_getElem.1 hx;have:=h (4+j) (by omega) (by omega);rw[av,aD (by omega)]at this;simpa using this
theorem fu.VU{a:fu}{i:Nat}(h4:4<=i)(h16:i<16)(h:a.fE i≠0):a.mK=false:=by
 cases hs:a.mK
 ·rfl
 ·exact absurd (a.KC.1 hs i h4 h16) h
theorem akj(a:fu)(w:au):aR aj 133 #[.agg a.aA] w (gP w (.bool (a.mK && !a.j6))):=by
 go_enter Tryz.func133,Tryz.ntmps133;go_wp2;have hb:aN w.heap.size w (w.alloc (.cells a.aA 27)):=(aH _ _).alloc (ay _) _;have HB:=ah hb;clear hb;go_loop [3] (fun s3=>∃i:Nat,i<=16/\4<=i/\s3=.int .i64 i/\∀j,4<=j->j<i->a.fE j=0) (fun s3=>16-(intOf s3).toNat)
 case atStart=>exact⟨4,by omega,by omega,rfl,fun j h1 h2=>by omega⟩
 case round=>
  obtain⟨i,hi,hi4,rfl,mV⟩:=hrel;have HA:=ah mV;clear mV;by_cases fP:i<16
  ·have wW:(i:Int)<16:=by omega
   have hcell:(w.alloc (.cells a.aA 27)).cell? ⟨w.heap.size,1+i,none⟩=some (.int .u8 ((a.fE i).toNat:Nat)):=by
    rw[mU,uN];exact fu.EU a i fP
   have hz:((a.fE i).toNat:Int)=0↔a.fE i=0:=by
    constructor
    ·intro h;apply lY.1;have:(0:UInt8).toNat=0:=rfl;omega
    ·intro h;rw[h];rfl
   have HZ:=ah hz;clear hz;obtain⟨n,hn⟩:∃n:Nat,n=(a.fE i).toNat:=⟨_,rfl⟩
   rw[<-hn]at hcell HZ;clear hn;by_cases h0:n=0
   ·have h1:((n:Int) != 0)=false:=by rw[h0];rfl
    have mZ:a.fE i=0:=HZ.out.1 (by omega);have Nz:=ah mZ;clear mZ h0;go_wp2;go_round
    case rel=>exact⟨i+1,by omega,by omega,by go_num,fun j h1 h2=>by
     by_cases YA:j=i
     ·rw[YA];exact Nz.out
     ·exact HA.out j h1 (by omega)⟩
    case measure=>simp[intOf]<;>omega
   ·have h1:((n:Int) != 0)=true:=by rw[bne_iff_ne];omega
    have uU:a.mK=false:=fu.VU hi4 fP (fun h=>h0 (by have:=HZ.out.2 h;omega));have Gu:=ah uU;clear uU h0;go_wp2;go_ret;exact⟨by rw[Gu.out];rfl,HB.out⟩
  ·obtain rfl:i=16:=by omega
   have hs:a.mK=true:=a.KC.2 HA.out;have HS:=ah hs;clear hs;go_wp2;go_ret;exact⟨by rw[HS.out];rfl,HB.out⟩
theorem SA(c:Nat)(w:au):aR aj 191 #[.int .u8 c] w fun e w'=>e=.returned (.bool ((c:Int) != 0))/\w=w':=by
 go_enter Tryz.func191,Tryz.ntmps191;go_wp2;go_ret;exact⟨rfl,rfl⟩
theorem YN(args:Array aC)(w:au):(callFunc 191 args).run aj w=.ok (.enter 191 args) w:=by kernel_rfl
theorem adP(a:fu)(b o c:Nat)(w:au)(hc:∀j,j<12->w.cell? ⟨b,o+j,none⟩=some (.int .u8 ((a.fE (4+j)).toNat:Nat))):
 aR aj 260 #[.slice (some ⟨b,o,none⟩) 12 c,.func (.func 191) #[] #[]] w fun e w'=>∃r:Int,e=.returned (.int .i64 r)/\(decide (0<=r) = !a.mK)/\w=w':=by
 have hen:=YN;have HC:=ah hc;clear hc;go_enter Tryz.func260,Tryz.ntmps260;go_wp2;go_loop [8] (fun s8=>∃i:Nat,i<=12/\s8=.int .i64 i/\∀j,4<=j->j<4+i->a.fE j=0) (fun s8=>12-(intOf s8).toNat)
 case atStart=>exact⟨0,by omega,rfl,fun j h1 h2=>by omega⟩
 case round=>
  obtain⟨i,hi,rfl,mV⟩:=hrel;have HA:=ah mV;clear mV;by_cases fP:i<12
  ·have wW:(i:Int)<12:=by omega
   have hcell:=HC.out i fP;have hz:((a.fE (4+i)).toNat:Int)=0↔a.fE (4+i)=0:=by
    constructor
    ·intro h;apply lY.1;have:(0:UInt8).toNat=0:=rfl;omega
    ·intro h;rw[h];rfl
   have HZ:=ah hz;clear hz;obtain⟨n,hn⟩:∃n:Nat,n=(a.fE (4+i)).toNat:=⟨_,rfl⟩
   rw[<-hn]at hcell HZ;clear hn;by_cases h0:n=0
   ·have h1:((n:Int) != 0)=false:=by rw[h0];rfl
    have mZ:a.fE (4+i)=0:=HZ.out.1 (by omega);have Nz:=ah mZ;clear mZ h0;go_wp2_with (go_at_call 191;refine(SA n _).mono ?_;rintro e w' ⟨rfl,rfl⟩);go_round
    case rel=>exact⟨i+1,by omega,by go_num,fun j h1 h2=>by
     by_cases YA:j=4+i
     ·rw[YA];exact Nz.out
     ·exact HA.out j h1 (by omega)⟩
    case measure=>simp[intOf]<;>omega
   ·have h1:((n:Int) != 0)=true:=by rw[bne_iff_ne];omega
    have uU:a.mK=false:=fu.VU (i:=4+i) (by omega) (by omega) (fun h=>h0 (by have:=HZ.out.2 h;omega));have Gu:=ah uU;clear uU h0;go_wp2_with (go_at_call 191;refine(SA n _).mono ?_;rintro e w' ⟨rfl,rfl⟩);go_ret;exact⟨_,rfl,by rw[Gu.out];simp,rfl⟩
  ·obtain rfl:i=12:=by omega
   have hs:a.mK=true:=a.KC.2 HA.out;have HS:=ah hs;clear hs;go_wp2;go_ret;exact⟨_,rfl,by rw[HS.out];simp,rfl⟩
theorem SC(a:fu)(b o c:Nat)(w:au)(hc:∀j,j<12->w.cell? ⟨b,o+j,none⟩=some (.int .u8 ((a.fE (4+j)).toNat:Nat))):
 aR aj 189 #[.slice (some ⟨b,o,none⟩) 12 c,.func (.func 191) #[] #[]] w fun e w'=>e=.returned (.bool (!a.mK))/\w=w':=by
 have HC:=ah hc;clear hc;go_enter Tryz.func189,Tryz.ntmps189;go_wp2_with (go_at_call 260;refine(adP a b o c _ HC.out).mono ?_;rintro e w' ⟨r,rfl,hr,rfl⟩);go_ret;exact⟨by simp,rfl⟩
theorem agq(w:au)(x:Bk)(t:bM):∀j,j<12->(w.alloc (.cells x.aA t)).cell? ⟨w.heap.size,6+j,none⟩=some (.int .u8 ((x.jk.fE (4+j)).toNat:Nat)):=fun j hj=>by
 rw[mU,show 6+j=(4+j)+2 by omega];exact Bk.EU x (4+j) (by omega)
theorem adQ(x:Bk)(w:au)(hn:x.name.length<=9223372036854775807)(hw:x.w<18446744073709551616):
 aR aj 111 #[.agg x.aA] w (gP w (.bool x.Dq)):=by
 have ht:=agq w x 62;have HT:=ah ht;clear ht;have hr:=Kz hw;have HR:=ah hr;clear hr;have hf:x.Dq=((x.jk.j6||x.jk.mK)&&wD x.name&&decide (1<=x.nL)&&decide (x.nL<=65535)&&YM x.w):=rfl;have HF:=ah hf;clear hf;have KD:aN w.heap.size w (w.alloc (.cells x.aA 62)):=(aH _ _).alloc (ay _) _;have vV:=ah KD;clear KD;cases hs:(x.jk.j6||x.jk.mK)
 ·have h6:x.jk.j6=false:=by cases h:x.jk.j6<;>simp_all
  have hsh:x.jk.mK=false:=by cases h:x.jk.mK<;>simp_all
  have HS:=ah hs;clear hs;go_enter Tryz.func111,Tryz.ntmps111;go_wp2_with fail;refine(SC x.jk _ 6 _ _ HT.out).mono ?_;rintro e w' ⟨rfl,rfl⟩;rw[hsh];go_wp2_with fail;go_ret;exact⟨by rw[HF.out,HS.out];rfl,vV.out⟩
 ·have HS:=ah hs
  have hk:wD x.name=true\/wD x.name=false:=by cases wD x.name<;>simp
  clear hs;have main:∀(K:Bool),wD x.name=K->x.jk.j6=true\/(x.jk.j6=false/\x.jk.mK=true) ->
   aR aj 111 #[.agg x.aA] w fun e w'=>e=.returned (.bool x.Dq)/\aN w.heap.size w w':=by
   intro K hK h6;have HK:=ah hK;clear hK hk;rcases h6 with h6|⟨h6,hsh⟩
   all_goals
    go_enter Tryz.func111,Tryz.ntmps111;go_wp2_with fail
    try(refine(SC x.jk _ 6 _ _ HT.out).mono ?_;rintro e w' ⟨rfl,rfl⟩;rw[hsh];go_wp2_with fail)
    refine(VF _ _ hn).mono ?_;rintro e w1 ⟨rfl,gI⟩;rw[HK.out];have uh:=aj1 gI;have NZ:aN w.heap.size w w1:=vV.out.trans (gI.mono (by simp));have qd:=ah NZ;clear gI NZ;cases K
    ·go_wp2_with fail
     go_ret;exact⟨by rw[HF.out,HS.out,HK.out];rfl,qd.out⟩
    ·by_cases p1:1<=x.nL
     ·by_cases p2:x.nL<=65535
      ·go_wp2_with fail
       refine(Ky _ _).mono ?_;rintro e w' ⟨rfl,rfl⟩;rw[HR.out];go_wp2_with fail;go_ret;exact⟨by rw[HF.out,HS.out,HK.out];simp[p1,p2]<;>intros<;>omega,qd.out⟩
      ·go_wp2_with fail
       go_ret;exact⟨by rw[HF.out,HS.out,HK.out];simp[p1,p2]<;>intros<;>omega,qd.out⟩
     ·go_wp2_with fail
      go_ret;exact⟨by rw[HF.out,HS.out,HK.out];simp[p1]<;>intros<;>omega,qd.out⟩
  refine main _ rfl ?_;have:=HS.out;cases h:x.jk.j6
  ·right;rw[h]at this;exact⟨rfl,by simpa using this⟩
  ·left;rfl
def dH(l:List Bk):List aC:=l.flatMap (·.aA.toList)
theorem jC(l:List Bk):(dH l).length=l.length*27:=by
 induction l with
 | nil=>rfl
 | cons x l ih=>
   have hx:=Bk.ak x;rw[dH,iJ,aS,aZ,hx,bC];rw[dH]at ih;rw[ih];omega
theorem Jl(l:List Bk)(k j:Nat)(hk:k<l.length)(hj:j<27):(dH l)[k*27+j]? = (l.getD k jo).aA[j]?:=by
 induction l generalizing k with
 | nil=>simp at hk
 | cons x l ih=>
   have hx:=Bk.ak x;rw[dH,iJ];rcases k with _|k
   ·rw[mP (by rw[aZ,hx];omega),dD]
    simp
   ·rw[rG (by rw[aZ,hx];omega),aZ,hx,show(k+1)*27+j-27=k*27+j by omega]
    rw[bC]at hk;rw[List.getD_cons_succ];exact ih k (by omega)
def Gv(w:au)(B:Nat)(A:Option aU)(n:Nat)(l:List Bk):Prop:=
 l.length=n/\Rd w B 27 A n (dH l)/\∀a,A=some a->0<n->a=⟨a.block,a.off,none⟩
section
variable {w w':au} {B B' n:Nat} {A:Option aU} {l:List Bk}
theorem Gv.below(h:Gv w B A n l)(hb:aN B w w'):Gv w' B A n l:=⟨h.1,Rd.below h.2.1 hb,h.2.2⟩
theorem Gv.lF(h:Gv w B A n l)(hB:B<=B'):Gv w B' A n l:=⟨h.1,Rd.lF h.2.1 hB,h.2.2⟩
theorem Gv.alloc(h:Gv w B A n l)(hB:B<=w.heap.size)(o:Obj):Gv (w.alloc o) B A n l:=⟨h.1,Rd.alloc h.2.1 hB o,h.2.2⟩
theorem Gv.cell{k:Nat}(h:Gv w B A n l)(hk:k<n):∃b o,A=some ⟨b,o,none⟩/\b<B/\∀j,j<27->w.cell? ⟨b,o+k*27+j,none⟩=(l.getD k jo).aA[j]?:=by
 obtain⟨h1,h2,h3⟩:=h;obtain⟨a,hA,hb,hc⟩:=h2.2 (by omega);have:=h3 a hA (by omega);refine⟨a.block,a.off,by rw[hA,<-this],hb,fun j hj=>?_⟩;have hg:=Jl l k j (by omega) hj;have hs:((l.getD k jo).aA)[j]? = some ((l.getD k jo).aA[j]'(by rw[Bk.ak];exact hj)):=fq _;rw[hs]at hg ⊢;have:=hc _ _ hg;rw[h3 a hA (by omega),iC]at this;rw[<-this,ny]
theorem Gv.fE{k:Nat}(h:Gv w B A n l)(hk:k<n):∃b o,A=some ⟨b,o,none⟩/\b<B/\xS w b (o+k*27) 27/\dY w b (o+k*27) 27=(l.getD k jo).aA:=by
 obtain⟨b,o,hA,hb,hc⟩:=h.cell hk;exact⟨b,o,hA,hb,xB (Bk.ak _) hc⟩
end
def mE(a b:List UInt8):Int:=iA a b
theorem agr(a b:List UInt8):mE a b = -1\/mE a b=0\/mE a b=1:=by
 unfold mE
 induction a generalizing b with
 | nil=>cases b<;>simp[iA]
 | cons x a ih=>
   cases b with
   | nil=>simp[iA]
   | cons y b=>
     unfold iA;split
     ·simp
     ·split
      ·simp
      ·exact ih b
theorem QB(x y:UInt8):x<y\/x=y\/y<x:=by
 rcases Nat.lt_trichotomy x.toNat y.toNat with h|h|h
 ·exact Or.inl (Ad.2 h)
 ·exact Or.inr (Or.inl (lY.1 h))
 ·exact Or.inr (Or.inr (Ad.2 h))
theorem KE{a b:List UInt8}:mE a b=0↔a=b:=by
 unfold mE
 induction a generalizing b with
 | nil=>cases b<;>simp[iA]
 | cons x a ih=>
   cases b with
   | nil=>simp[iA]
   | cons y b=>
     unfold iA;rcases QB x y with h|rfl|h
     ·have:x≠y:=fun e=>by subst e;exact kD x h
      simp[h,this]
     ·have:=kD x
      simp[this,ih]
     ·have h1:¬x<y:=fun h2=>kD x (tH h2 h)
      have:x≠y:=fun e=>by subst e;exact kD x h
      simp[h,h1,this]
theorem akk(a b:List UInt8):mE b a = - mE a b:=by
 unfold mE
 induction a generalizing b with
 | nil=>cases b<;>simp[iA]
 | cons x a ih=>
   cases b with
   | nil=>simp[iA]
   | cons y b=>
     unfold iA;rcases QB x y with h|rfl|h
     ·have h1:¬y<x:=fun h2=>kD x (tH h h2)
      simp[h,h1]
     ·have:=kD x
      simp[this,ih]
     ·have h1:¬x<y:=fun h2=>kD x (tH h2 h)
      simp[h,h1]
theorem Gw{a b c:List UInt8}(h1:mE a b<0)(h2:mE b c<0):mE a c<0:=by
 unfold mE at *
 induction a generalizing b c with
 | nil=>
   cases c with
   | nil=>cases b<;>simp[iA]at h1 h2
   | cons z c=>simp[iA]
 | cons x a ih=>
   cases b with
   | nil=>simp[iA]at h1
   | cons y b=>
     cases c with
     | nil=>simp[iA]at h2
     | cons z c=>
       unfold iA at h1 h2 ⊢;rcases QB x y with h|rfl|h
       ·rcases QB y z with k|rfl|k
        ·have:=tH h k
         simp[this]
        ·simp[h]
        ·have k1:¬y<z:=fun k2=>kD z (tH k k2)
         simp[k,k1]at h2
       ·have hx:=kD x
        rcases QB x z with k|rfl|k
        ·simp[k]
        ·simp[hx]at h1 h2 ⊢
         exact ih h1 h2
        ·have k1:¬x<z:=fun k2=>kD z (tH k k2)
         simp[k,k1]at h2
       ·have h3:¬x<y:=fun k2=>kD y (tH h k2)
        simp[h,h3]at h1
theorem yC(a b:List UInt8):bT a b=decide (mE a b<0):=by
 unfold mE
 induction a generalizing b with
 | nil=>cases b<;>simp[iA,bT]
 | cons x a ih=>
   cases b with
   | nil=>simp[iA,bT]
   | cons y b=>
     unfold iA bT;rcases QB x y with h|rfl|h
     ·simp[h]
     ·have:=kD x
      simp[this,ih]
     ·have h1:¬x<y:=fun h2=>kD x (tH h2 h)
      have:x≠y:=fun e=>by subst e;exact kD x h
      simp[h,h1,this]
def Gy(l:List Bk):Prop:=l.Pairwise fun x y=>mE x.name y.name<0
def nm(l:List Bk)(i:Nat):List UInt8:=(l.getD i jo).name
theorem Gy.lt{l:List Bk}(h:Gy l){i j:Nat}(SE:i<j)(hj:j<l.length):mE (nm l i) (nm l j)<0:=by
 have:=List.pairwise_iff_getElem.1 h i j (by omega) hj SE;unfold nm;rw[av,av,aD hj,aD (by omega:i<l.length)];exact this
theorem Gy.down{l:List Bk}(h:Gy l){i j:Nat}(s:List UInt8)(SE:i<=j)(hj:j<l.length)(hs:mE (nm l j) s<0):mE (nm l i) s<0:=by
 rcases bf i j with h1|h1
 ·exact Gw (h.lt h1 hj) hs
 ·obtain rfl:i=j:=by omega
  exact hs
theorem Gy.up{l:List Bk}(h:Gy l){i j:Nat}(s:List UInt8)(SE:i<=j)(hj:j<l.length)(hs:¬mE (nm l i) s<0):¬mE (nm l j) s<0:=fun h1=>hs (h.down s SE hj h1)
def kH(l:List Bk)(s:List UInt8):Nat:=(l.takeWhile fun x=>decide (mE x.name s<0)).length
theorem aiF{l:List Bk}{s:List UInt8}{k:Nat}(hk:k<=l.length)(h1:∀i,i<k->mE (nm l i) s<0)(h2:k<l.length->¬mE (nm l k) s<0):kH l s=k:=by
 unfold kH
 induction l generalizing k with
 | nil=>simp at hk⊢;omega
 | cons x l ih=>
   rcases k with _|k
   ·have:¬mE x.name s<0:=h2 (by simp)
    simp[this]
   ·have h0:mE x.name s<0:=h1 0 (by omega)
    rw[List.takeWhile_cons];simp only[h0,decide_true,if_true,bC];rw[ih (k:=k) (by simpa using hk) (fun i hi=>h1 (i+1) (by omega)) (fun hi=>h2 (by simpa using hi))]
theorem VW(a b:List UInt8)(w:au):(callFunc 302 #[.string (bV a),.string (bV b)]).run aj w=.ok (.value (.int .i64 (mE a b))) w:=by
 rw[yU Tryz.func302 (by kernel_rfl) (by kernel_rfl) (by kernel_rfl) (e:=Extern.BytealgCompare.compare) (by kernel_rfl),Lib.run_compareString];rfl
theorem N7(a b:List UInt8)(w:au):aR aj 240 #[.string (bV a),.string (bV b)] w fun e w'=>e=.returned (.int .i64 (mE a b))/\w=w':=by
 have h:=VW a b;go_enter Tryz.func240,Tryz.ntmps240;go_wp2;go_ret;exact⟨rfl,rfl⟩
theorem SG(a b:List UInt8)(w:au):aR aj 166 #[.string (bV a),.string (bV b)] w fun e w'=>e=.returned (.int .i64 (mE a b))/\w=w':=by
 go_enter Tryz.func166,Tryz.ntmps166;go_wp2_with (go_at_call 240;refine(N7 _ _ _).mono ?_;rintro e w' ⟨rfl,rfl⟩);go_ret;exact⟨rfl,rfl⟩
theorem UF(x:Bk)(s:List UInt8)(w:au):aR aj 179 #[.agg x.aA,.string (bV s)] w (gP w (.int .i64 (mE x.name s))):=by
 have KD:aN w.heap.size w (w.alloc (.cells x.aA 62)):=(aH _ _).alloc (ay _) _;have vV:=ah KD;clear KD;go_enter Tryz.func179,Tryz.ntmps179;go_wp2_with (go_at_call 166;refine(SG _ _ _).mono ?_;rintro e w' ⟨rfl,rfl⟩);go_ret;exact⟨rfl,vV.out⟩
def sZ(l:List Bk)(s:List UInt8):Bool:=decide (kH l s<l.length)&&decide (mE (nm l (kH l s)) s=0)
def qp(l:List Bk)(s:List UInt8):Bk:=if sZ l s then l.getD (kH l s) jo else jo
theorem arj{l:List Bk}{s:List UInt8}(h:sZ l s=false):qp l s=jo:=by simp[qp,h]
theorem EZ{l:List Bk}{s:List UInt8}(h:sZ l s=true):qp l s=l.getD (kH l s) jo:=by simp[qp,h]
theorem akl(args:Array aC)(w:au):(callFunc 179 args).run aj w=.ok (.enter 179 args) w:=by kernel_rfl
theorem ags(l:List Bk)(hs:Gy l)(s:List UInt8)(A:Option aU)(c:Nat)(w:au)(hR:Gv w w.heap.size A l.length l)(hn:l.length<4611686018427387904):
 aR aj 178 #[.slice A l.length c,.string (bV s),.func (.func 179) #[] #[]] w
  (gP w (.tuple #[.int .i64 (kH l s),.bool (sZ l s)])):=by
 have hen:=akl;have HR:=ah hR;clear hR;have HS:=ah hs;clear hs;obtain⟨n,zC⟩:∃n,n=l.length:=⟨_,rfl⟩
 rw[<-zC]at HR hn ⊢;have HN:=ah zC;clear zC;go_enter Tryz.func178,Tryz.ntmps178;go_wp2;go_loopw [9,10] (fun s9 s10 wr=>∃i j:Nat,i<=j/\j<=n/\s9=.int .i64 i/\s10=.int .i64 j/\(∀k,k<i->mE (nm l k) s<0)/\(∀k,j<=k->k<n->¬mE (nm l k) s<0)/\aN w.heap.size w wr) (fun s9 s10 _=>(intOf s10-intOf s9).toNat)
 case atStart=>exact⟨0,n,by omega,ay _,rfl,rfl,fun k hk=>by omega,fun k h1 h2=>by omega,aH _ _⟩
 case round=>
  obtain⟨i,j,SE,hjn,rfl,rfl,hlo,hhi,hb⟩:=hrel;have HLO:=ah hlo;have HHI:=ah hhi;have HB:=ah hb;clear hlo hhi hb;by_cases fP:i<j
  ·have wW:(i:Int)<j:=by omega
   have hmn:(i+j)/2<n:=by omega
   have hR1:=HR.out.below HB.out;obtain⟨b,o,rfl,Cb,hh,hc⟩:=hR1.fE hmn;have IJ:=ah Cb;clear hR1 Cb;have hdn:∀k,k<=(i+j)/2->mE (nm l ((i+j)/2)) s<0->mE (nm l k) s<0:=fun k hk h=>HS.out.down s hk (by have:=HN.out;omega) h
   have hup:∀k,(i+j)/2<=k->k<n->¬mE (nm l ((i+j)/2)) s<0->¬mE (nm l k) s<0:=fun k hk YB h=>HS.out.up s hk (by have:=HN.out;omega) h
   have HDN:=ah hdn;have HUP:=ah hup;clear hdn hup;unfold nm at HDN HUP;obtain⟨x,hx⟩:∃x,x=l.getD ((i+j)/2) jo:=⟨_,rfl⟩
   rw[<-hx]at hc HDN HUP;clear hx;by_cases ht:mE x.name s<0
   ·have hd:decide (mE x.name s<0)=true:=by simpa using ht
    go_wp2_with (go_at_call 179;refine(UF x s _).mono ?_;rintro e w1 ⟨rfl,gI⟩;clear hh hc;have qd:=ah gI;clear gI);go_roundw
    case rel=>exact⟨(i+j)/2+1,j,by omega,by omega,by go_num,by go_num,fun k hk=>HDN.out k (by omega) ht,fun k h1 h2=>by have:=HHI.out k h1 h2;omega,ji HB.out qd.out⟩
    case measure=>simp[intOf]<;>omega
   ·have hd:decide (mE x.name s<0)=false:=by simpa using ht
    go_wp2_with (go_at_call 179;refine(UF x s _).mono ?_;rintro e w1 ⟨rfl,gI⟩;clear hh hc;have qd:=ah gI;clear gI);go_roundw
    case rel=>exact⟨i,(i+j)/2,by omega,by omega,by go_num,by go_num,HLO.out,fun k h1 h2=>by have:=HUP.out k h1 h2 ht;unfold nm;omega,ji HB.out qd.out⟩
    case measure=>simp[intOf]<;>omega
  ·obtain rfl:i=j:=by omega
   have hlo:kH l s=i:=aiF (by have:=HN.out;omega) HLO.out (fun h=>by have:=HHI.out i (ay _) (by have:=HN.out;omega);omega);have anb:=ah hlo;clear hlo;by_cases Cc:i<n
   ·have wW:(i:Int)<n:=by omega
    have hR1:=HR.out.below HB.out;obtain⟨b,o,rfl,Cb,hh,hc⟩:=hR1.fE Cc;clear hR1 Cb;have hf:sZ l s=decide (mE (l.getD i jo).name s=0):=by
     have h1:=anb.out;have h2:=HN.out;unfold sZ nm;rw[h1];simp[show i<l.length by omega]
    have HF:=ah hf;clear hf;obtain⟨x,hx⟩:∃x,x=l.getD i jo:=⟨_,rfl⟩
    rw[<-hx]at hc HF;clear hx;by_cases ht:mE x.name s=0
    ·have hd:(mE x.name s==0)=true:=by simpa using ht
     go_wp2_with (go_at_call 179;refine(UF x s _).mono ?_;rintro e w1 ⟨rfl,gI⟩;clear hh hc;have qd:=ah gI;clear gI);go_ret2;exact⟨by rw[anb.out,HF.out];simp[ht],ji HB.out qd.out⟩
    ·have hd:(mE x.name s==0)=false:=by simpa using ht
     go_wp2_with (go_at_call 179;refine(UF x s _).mono ?_;rintro e w1 ⟨rfl,gI⟩;clear hh hc;have qd:=ah gI;clear gI);go_ret2;exact⟨by rw[anb.out,HF.out];simp[ht],ji HB.out qd.out⟩
   ·have hf:sZ l s=false:=by
     have h1:=anb.out;have h2:=HN.out;unfold sZ;rw[h1];simp[show¬i<l.length by omega]
    have HF:=ah hf;clear hf;have hd:decide ((i:Int)<n)=false:=by simpa using Cc
    go_wp2;go_ret2;exact⟨by rw[anb.out,HF.out];rfl,HB.out⟩
theorem MB(l:List Bk)(hs:Gy l)(s:List UInt8)(v:Int)(A:Option aU)(c:Nat)(w:au)(hR:Gv w w.heap.size A l.length l)(hn:l.length<4611686018427387904):
 aR aj 96 #[.agg #[.int .i64 v,.slice A l.length c],.string (bV s)] w (gP w (.tuple #[.int .i64 (kH l s),.bool (sZ l s)])):=by
 have KD:∀ob,aN w.heap.size w (w.alloc ob):=fun ob=>(aH _ _).alloc (ay _) _
 have vV:=ah KD;clear KD;have IK:=ah (fun ob=>(hR.alloc (ay _) ob).lF (B':=(w.alloc ob).heap.size) (by simp));clear hR;go_enter Tryz.func96,Tryz.ntmps96;go_wp2_with (go_at_call 178;refine(ags l hs s A c _ (IK.out _) hn).mono ?_;rintro e w1 ⟨rfl,gI⟩;have qd:=ah gI;clear gI);go_ret2;exact⟨rfl,ji (vV.out _) qd.out⟩
theorem Ce(l:List Bk)(hs:Gy l)(s:List UInt8)(v:Int)(A:Option aU)(c:Nat)(w:au)(hR:Gv w w.heap.size A l.length l)(hn:l.length<4611686018427387904):
 aR aj 33 #[.agg #[.int .i64 v,.slice A l.length c],.string (bV s)] w (gP w (.tuple #[.agg (qp l s).aA,.bool (sZ l s)])):=by
 have KD:∀ob uy,aN w.heap.size w ((w.alloc ob).alloc uy):=fun ob uy=>((aH _ _).alloc (ay _) _).alloc (by simp) _
 have vV:=ah KD;clear KD;have IK:=ah (fun ob uy=>((hR.alloc (ay _) ob).alloc (by simp) uy).lF (B':=((w.alloc ob).alloc uy).heap.size) (by simp;omega));have HRB:=ah hR;clear hR;obtain⟨K,hK⟩:∃K,sZ l s=K:=⟨_,rfl⟩
 have HK:=ah hK;clear hK;cases K
 ·go_enter Tryz.func33,Tryz.ntmps33
  go_wp2_with fail;refine(MB l hs s v A c _ (IK.out _ _) hn).mono ?_;rintro e w1 ⟨rfl,gI⟩;rw[HK.out];have hth:=Sv (Zv (w.alloc (.cells #[.int .i64 v,.slice A l.length c] 32)) jo.aA 62 (Bk.ak _)) gI (by simp);rw[show∀ob,(w.alloc ob).heap.size=w.heap.size+1 from fun ob=>by simp]at hth;have hB:=vV.out (.cells #[.int .i64 v,.slice A l.length c] 32) (.cells jo.aA 62);have qd:=ah (hB.trans (gI.mono (by simp;omega)));have HT:=ah hth;clear gI hB;go_wp2_with fail
  (try simp only[Exit.inBlock,Exit.then])
  refine bodyPost_ret (amY rfl _ _ _ _ rfl (NV _ _ _ _ HT.out).1) rfl ⟨?_,Sz qd.out _ _ _ (by omega)⟩;rw[(NV _ _ _ _ HT.out).2,arj HK.out]
  try rw[HK.out]
  rfl
 ·have fP:kH l s<l.length:=by
   have:=HK.out;unfold sZ at this;simp at this;exact this.1
  have wW:((kH l s:Nat):Int)<(l.length:Nat):=by omega
  go_enter Tryz.func33,Tryz.ntmps33;go_wp2_with fail;refine(MB l hs s v A c _ (IK.out _ _) hn).mono ?_;rintro e w1 ⟨rfl,gI⟩;rw[HK.out];have uh:w1.cell? ⟨w.heap.size,1,none⟩=some (.slice A l.length c):=by
   rw[gI.cell (by simp;omega)];go_simp
  have hth:=Sv (Zv (w.alloc (.cells #[.int .i64 v,.slice A l.length c] 32)) jo.aA 62 (Bk.ak _)) gI (by simp);rw[show∀ob,(w.alloc ob).heap.size=w.heap.size+1 from fun ob=>by simp]at hth;have hB:=vV.out (.cells #[.int .i64 v,.slice A l.length c] 32) (.cells jo.aA 62);have NZ:=hB.trans (gI.mono (by simp;omega));have qd:=ah NZ;have hR1:=HRB.out.below NZ;have HT:=ah hth;clear gI hB NZ;obtain⟨b,o,rfl,Cb,hh,hc⟩:=hR1.fE fP;clear Cb hR1;obtain⟨x,hx⟩:∃x,x=l.getD (kH l s) jo:=⟨_,rfl⟩
  rw[<-hx]at hc;have HX:=ah hx;clear hx;go_wp2_with fail
  (try simp only[Exit.inBlock,Exit.then])
  refine bodyPost_ret (amY rfl _ _ _ _ rfl (NV _ _ _ _ HT.out).1) rfl ⟨?_,Sz qd.out _ _ _ (by omega)⟩;rw[(NV _ _ _ _ HT.out).2,EZ HK.out,<-HX.out]
  try rw[HK.out]
  rfl
theorem pK{P:eF}{T:Type}(f:T->au){id:Nat}{Q:Aq->re->au->Prop}{a:re}{w:au}{l:List iV}(hm:P.follows .mixedOrders=true)(hB:Region.lexB .any l.toArray=true)
 (n0:T) (h0:f n0=w.drew)
 (h:wpQuiet P l.toArray (fun w'=>∃n,w'=f n) (fun a'=>∀w',(∃n,w'=f n)->Q .normal a' w') l a):(Code.region id l.toArray true).wp P Q a w:=
 wp_region_quiet (C:=fun w'=>∃n,w'=f n) hm hB ⟨n0,h0.symm⟩ (by simpa using h)
theorem Jm(S:au->Prop)(w:au)(h:S w.drew):∃(T:Type)(f:T->au)(n0:T),f n0=w.drew/\(∀n,S (f n))/\(∀W,S W->∃n,W=f n):=
 ⟨{W // S W},Subtype.val,⟨w.drew,h⟩,rfl,fun n=>n.2,fun W hW=>⟨⟨W,hW⟩,rfl⟩⟩
theorem akm(x:Nat):EX x x=true:=by simp[EX]
def YO(x:Nat):Bool:=EX x (kG x)
def Bk.ru(x:Bk):Prop:=x.name.length<=9223372036854775807/\x.w<18446744073709551616
def Ll(l:List Bk)(i:Nat):Bool:=(l.getD i jo).Dq&&YO (l.getD i jo).w&&(decide (i=0)||decide (mE (nm l (i-1)) (nm l i)<0))
def yD(v:Int)(l:List Bk):Bool:=decide (0<=v)&&decide (v<=1099511627776)&&decide (l.length<=1024)&&(dW l.length).all (Ll l)
theorem Jo(p:Nat->Bool)(i:Nat):(dW (i+1)).all p=((dW i).all p&&p i):=by
 rw[List.range_succ,List.all_append];simp
theorem iZ(p:Nat->Bool)(i n:Nat)(h:i<n)(hp:p i=false):(dW n).all p=false:=by
 rw[List.all_eq_false];exact⟨i,eH.2 h,by rw[hp];simp⟩
def SR(n4:Nat)(x:Bk)(hp:Nat)(sl:aC)(b o:Nat)(pn:List UInt8)(W:au):Prop:=
 n4<W.heap.size/\hp<W.heap.size/\b<W.heap.size/\xS W n4 0 27/\dY W n4 0 27=x.aA/\W.cell? ⟨n4,0,none⟩=some (.string (bV x.name))/\W.cell? ⟨n4,25,none⟩=some (fv x.w)/\W.cell? ⟨hp,1,none⟩=some sl/\W.cell? ⟨b,o,none⟩=some (.string (bV pn))
theorem SR.below{n4 hp b o:Nat}{x:Bk}{sl:aC}{pn:List UInt8}{W W1:au}(h:SR n4 x hp sl b o pn W)(hb:aN W.heap.size W W1):SR n4 x hp sl b o pn W1:=by
 obtain⟨h1,h2,h3,h4,h5,h6,h7,h8,h9⟩:=h;have hz:=hb.size;refine⟨by omega,by omega,by omega,fun j hj=>?_,?_,by rw[hb.cell h1];exact h6,by rw[hb.cell h1];exact h7,by rw[hb.cell h2];exact h8,by rw[hb.cell h3];exact h9⟩
 ·obtain⟨v,hv⟩:=h4 j hj
  exact⟨v,by rw[hb.cell h1];exact hv⟩
 ·rw[<-h5];exact Gn fun j _=>hb.cell h1
theorem SR.load{n4 hp b o:Nat}{x:Bk}{sl:aC}{pn:List UInt8}{W:au}(h:SR n4 x hp sl b o pn W):(VI (.pointer (some ⟨n4,0,none⟩))).run aj W=.ok (.agg x.aA) W:=by
 rw[arc W n4 0 h.2.2.2.1,h.2.2.2.2.1]
theorem YP(l:List Bk)(hf:∀x∈l,x.ru)(v:Int)(A:Option aU)(c:Nat)(w:au)(hR:Gv w w.heap.size A l.length l)(hn:l.length<4611686018427387904):
 aR aj 45 #[.agg #[.int .i64 v,.slice A l.length c]] w (gP w (.bool (yD v l))):=by
 have KD:∀ob,aN w.heap.size w (w.alloc ob):=fun ob=>(aH _ _).alloc (ay _) _
 have vV:=ah KD;clear KD;have HR:=ah hR;have HF:=ah hf;clear hR hf;have hp:yD v l=(decide (0<=v)&&decide (v<=1099511627776)&&decide (l.length<=1024)&&(dW l.length).all (Ll l)):=rfl;have HP:=ah hp;clear hp;by_cases h1:0<=v;rotate_left
 ·have h1':v<0:=by omega
  go_enter Tryz.func45,Tryz.ntmps45;go_wp2;go_ret;exact⟨by rw[HP.out];simp<;>intros<;>omega,vV.out _⟩
 by_cases h2:v<=1099511627776;rotate_left
 ·go_enter Tryz.func45,Tryz.ntmps45
  go_wp2;go_ret;exact⟨by rw[HP.out];simp<;>intros<;>omega,vV.out _⟩
 by_cases h3:l.length<=1024;rotate_left
 ·go_enter Tryz.func45,Tryz.ntmps45
  go_wp2;go_ret;exact⟨by rw[HP.out];simp<;>intros<;>omega,vV.out _⟩
 obtain⟨n,zC⟩:∃n,n=l.length:=⟨_,rfl⟩
 rw[<-zC]at HR hn h3 ⊢;have HN:=ah zC;clear zC;go_enter Tryz.func45,Tryz.ntmps45;go_wp2;go_loopw [22] (fun s22 wr=>∃i:Nat,i<=n/\s22=.int .i64 i/\(dW i).all (Ll l)=true/\aN (w.heap.size+1) (w.alloc (.cells #[.int .i64 v,.slice A n c] 32)) wr) (fun s22 _=>n-(intOf s22).toNat)
 case atStart=>exact⟨0,by omega,rfl,rfl,by simpa using aH _ _⟩
 case round=>
  obtain⟨i,wW,rfl,mV,hb⟩:=hrel;have HA:=ah mV;have hB:=(vV.out (.cells #[.int .i64 v,.slice A n c] 32)).trans (hb.mono (by simp));have uh:wr.cell? ⟨w.heap.size,1,none⟩=some (.slice A n c):=by
   rw[hb.cell (by simp)];go_simp
  have HB:=ah hb;have HBW:=ah hB;have jB:=hb.size;clear mV hb hB;by_cases fP:i<n
  ·have hi:(i:Int)<n:=by omega
   have hR1:=HR.out.below HBW.out;obtain⟨b,o,rfl,Cb,hh,hc⟩:=hR1.fE fP;have Em:b<wr.heap.size:=by simp at jB;omega
   have anc:l.getD i jo∈l:=by
    have:=HN.out;rw[av,aD (by omega)];simp
   obtain⟨Qk,Ql⟩:=HF.out _ anc;have Di:Ll l i=((l.getD i jo).Dq&&YO (l.getD i jo).w&&(decide (i=0)||decide (mE (nm l (i-1)) (nm l i)<0))):=rfl;have YQ:nm l i=(l.getD i jo).name:=rfl;rw[YQ]at Di;obtain⟨x,hx⟩:∃x,x=l.getD i jo:=⟨_,rfl⟩
   rw[<-hx]at hc Qk Ql Di;have Kv:=ah Di;clear hx Di YQ anc;obtain⟨K1,Od⟩:∃K,x.Dq=K:=⟨_,rfl⟩
   obtain⟨K2,Gd⟩:∃K,EX x.w (kG x.w)=K:=⟨_,rfl⟩
   have hn4:wr.heap.size<(wr.alloc (.cells x.aA 62)).heap.size:=by simp
   have hS:∀b' o' pn,b'<wr.heap.size->wr.cell? ⟨b',o',none⟩=some (.string (bV pn))->SR wr.heap.size x w.heap.size (.slice (some ⟨b,o,none⟩) n c) b' o' pn (wr.alloc (.cells x.aA 62)):=by
    intro b' o' pn h1 h2;refine⟨by simp,by simp at jB⊢;omega,by simp;omega,?_,?_,?_,?_,?_,?_⟩
    ·rw[VH];trivial
    ·exact Ji _ _ _
    ·rw[mU];exact Bk.qH x
    ·rw[mU];exact Bk.agh x
    ·rw[vQ _ _ _ (by simp at jB⊢;omega)];exact uh
    ·rw[vQ _ _ _ (by simpa using h1)];exact h2
   have YC:∃pn,(0<i->wr.cell? ⟨b,o+(i-1)*27,none⟩=some (.string (bV pn))/\nm l (i-1)=pn):=by
    refine⟨nm l (i-1),fun h0=>⟨?_,rfl⟩⟩;obtain⟨b',o',hbo,_,VG⟩:=hR1.cell (k:=i-1) (by omega);injection hbo with hbo
    injection hbo with e1 e2
    subst e1 e2;have:=VG 0 (by omega);rw[Bk.qH]at this;simpa[nm]using this
   have hn0:wr.cell? ⟨b,o+i*27,none⟩=some (.string (bV x.name)):=by
    have:=hh 0 (by omega);obtain⟨u,hu⟩:=this;have hg:=Jh wr b (o+i*27) 27 0 (by omega);rw[hc,Bk.qH]at hg;rw[hu]at hg;simp at hg hu;rw[hu,<-hg]
   have YR:∀b' o' pn,b'<wr.heap.size->wr.cell? ⟨b',o',none⟩=some (.string (bV pn))->∃(T:Type)(f:T->au)(n0:T),f n0=(wr.alloc (.cells x.aA 62)).drew/\(∀m W1,aN (f m).heap.size (f m) W1->∃m',W1=f m')/\(∀m,aN (w.heap.size+1) (w.alloc (.cells #[.int .i64 v,.slice (some ⟨b,o,none⟩) n c] 32)) (f m)) /\
    (∀m,(VI (.pointer (some ⟨wr.heap.size,0,none⟩))).run aj (f m)=.ok (.agg x.aA) (f m))/\(∀m,(f m).cell? ⟨wr.heap.size,0,none⟩=some (.string (bV x.name)))/\(∀m,(f m).cell? ⟨wr.heap.size,25,none⟩=some (.float .f64 x.w)) /\
     (∀m,(f m).cell? ⟨w.heap.size,1,none⟩=some (.slice (some ⟨b,o,none⟩) n c))/\(∀m,(f m).cell? ⟨b',o',none⟩=some (.string (bV pn))):=by
    intro b' o' pn h1 h2;obtain⟨T,f,n0,e0,eS,eT⟩:=Jm (fun W=>SR wr.heap.size x w.heap.size (.slice (some ⟨b,o,none⟩) n c) b' o' pn W/\aN (w.heap.size+1) (w.alloc (.cells #[.int .i64 v,.slice (some ⟨b,o,none⟩) n c] 32)) W)
     (wr.alloc (.cells x.aA 62)) ⟨hS _ _ _ h1 h2,(HB.out.alloc (by simp at jB;omega) _).drew⟩
    refine⟨T,f,n0,e0,?_,fun m=>(eS m).2,fun m=>(eS m).1.load,fun m=>(eS m).1.2.2.2.2.2.1,fun m=>(eS m).1.2.2.2.2.2.2.1,fun m=>(eS m).1.2.2.2.2.2.2.2.1,fun m=>(eS m).1.2.2.2.2.2.2.2.2⟩;intro m W1 hb;have:=(eS m).2.size;exact eT _ ⟨(eS m).1.below hb,(eS m).2.trans (hb.mono (by simpa using this))⟩
   have zT:∀K,x.Dq=K->∀W,aR aj 111 #[.agg x.aA] W fun e w'=>e=.returned (.bool K)/\aN W.heap.size W w':=fun K h W=>by
    have:=adQ x W Qk Ql;rw[h]at this;exact this
   have sM:∀K,EX x.w (kG x.w)=K->∀W,aR aj 112 #[.float .f64 x.w,.float .f64 (kG x.w)] W fun e w'=>e=.returned (.bool K)/\W=w':=fun K h W=>by
    have:=adM x.w (kG x.w) W;rw[h]at this;exact this
   cases K1
   ·have uU:Ll l i=false:=by rw[Kv.out,Od];rfl
    have adR:=iZ (Ll l) i n fP uU;have hPF:yD v l=false:=by rw[HP.out,<-HN.out,adR];simp
    have HPF:=ah hPF;have HRI:=ah (zT _ Od);have ZB:=ah (sM _ Gd);clear Od Gd YC uU adR hPF zT sM;obtain⟨T,f,n0,e0,es,ew,r1,r2,r3,r4,r5⟩:=YR _ _ _ Em hn0;have pY:Nonempty T:=⟨n0⟩
    have E0:=ah e0;have ES:=ah es;have EW:=ah ew;clear hS YR e0 es ew;go_upto_region 6 with fail
    refine pK f (by kernel_rfl) (by kernel_rfl) n0 E0.out ?_
    repeat(go_big_quiet_step ((first
     | (go_at_call 111;refine(HRI.out _).mono ?_;rintro e w1 ⟨rfl,gI⟩;exact⟨rfl,ES.out _ _ gI⟩)
     | (go_at_call 113;refine(zK _ _).mono ?_;rintro e w1 ⟨rfl,rfl⟩;exact⟨rfl,_,rfl⟩)
     | (go_at_call 112;refine(ZB.out _).mono ?_;rintro e w1 ⟨rfl,rfl⟩;exact⟨rfl,_,rfl⟩))))
    refine wpQuiet_nil ?_;rintro _ ⟨m,rfl⟩;go_wp2;go_ret;exact⟨by rw[HPF.out];rfl,(vV.out _).trans ((EW.out _).mono (by simp))⟩
   ·cases K2
    ·have uU:Ll l i=false:=by rw[Kv.out];unfold YO;rw[Gd];simp
     have adR:=iZ (Ll l) i n fP uU;have hPF:yD v l=false:=by rw[HP.out,<-HN.out,adR];simp
     have HPF:=ah hPF;have HRI:=ah (zT _ Od);have ZB:=ah (sM _ Gd);clear Od Gd YC uU adR hPF zT sM;obtain⟨T,f,n0,e0,es,ew,r1,r2,r3,r4,r5⟩:=YR _ _ _ Em hn0;have pY:Nonempty T:=⟨n0⟩
     have E0:=ah e0;have ES:=ah es;have EW:=ah ew;clear hS YR e0 es ew;go_upto_region 6 with fail
     refine pK f (by kernel_rfl) (by kernel_rfl) n0 E0.out ?_
     repeat(go_big_quiet_step ((first
      | (go_at_call 111;refine(HRI.out _).mono ?_;rintro e w1 ⟨rfl,gI⟩;exact⟨rfl,ES.out _ _ gI⟩)
      | (go_at_call 113;refine(zK _ _).mono ?_;rintro e w1 ⟨rfl,rfl⟩;exact⟨rfl,_,rfl⟩)
      | (go_at_call 112;refine(ZB.out _).mono ?_;rintro e w1 ⟨rfl,rfl⟩;exact⟨rfl,_,rfl⟩))))
     refine wpQuiet_nil ?_;rintro _ ⟨m,rfl⟩;go_wp2;go_ret;exact⟨by rw[HPF.out];rfl,(vV.out _).trans ((EW.out _).mono (by simp))⟩
    ·rcases i with _|i
     ·simp only[Kj,nI]at hh hc hn0
      have adS:(dW (0+1)).all (Ll l)=(dW 0).all (Ll l):=by
       rw[Jo,Kv.out];unfold YO;rw[Od,Gd];simp
      have HY:=ah adS;have HRI:=ah (zT _ Od);have ZB:=ah (sM _ Gd);clear Od Gd YC adS zT sM;obtain⟨T,f,n0,e0,es,ew,r1,r2,r3,r4,r5⟩:=YR _ _ _ Em hn0;have pY:Nonempty T:=⟨n0⟩
      have E0:=ah e0;have ES:=ah es;have EW:=ah ew;clear hS YR e0 es ew;go_upto_region 6 with fail
      refine pK f (by kernel_rfl) (by kernel_rfl) n0 E0.out ?_
      repeat(go_big_quiet_step ((first
       | (go_at_call 111;refine(HRI.out _).mono ?_;rintro e w1 ⟨rfl,gI⟩;exact⟨rfl,ES.out _ _ gI⟩)
       | (go_at_call 113;refine(zK _ _).mono ?_;rintro e w1 ⟨rfl,rfl⟩;exact⟨rfl,_,rfl⟩)
       | (go_at_call 112;refine(ZB.out _).mono ?_;rintro e w1 ⟨rfl,rfl⟩;exact⟨rfl,_,rfl⟩))))
      refine wpQuiet_nil ?_;rintro _ ⟨m,rfl⟩;go_wp2;go_roundw
      case rel=>exact⟨0+1,by omega,by go_num,by rw[HY.out];exact HA.out,EW.out _⟩
      case measure=>simp[intOf]<;>omega
     ·obtain⟨pn,YC⟩:=YC
      obtain⟨hp1,hp2⟩:=YC (by omega);clear YC;simp only[Nat.add_sub_cancel]at hp1 hp2;have ark:Ll l (i+1)=(x.Dq&&YO x.w&&(decide (i+1=0)||decide (mE pn x.name<0))):=by rw[Kv.out,Nat.add_sub_cancel,hp2]
      have Jp:=yC pn x.name;by_cases ht:mE pn x.name<0
      ·have hbt:bT pn x.name=true:=by rw[Jp];simpa using ht
       have adS:(dW (i+1+1)).all (Ll l)=(dW (i+1)).all (Ll l):=by
        rw[Jo,ark];unfold YO;rw[Od,Gd];simp[ht]
       have HY:=ah adS;have HRI:=ah (zT _ Od);have ZB:=ah (sM _ Gd);clear Od Gd adS zT sM ark Jp hp2 ht;obtain⟨T,f,n0,e0,es,ew,r1,r2,r3,r4,r5⟩:=YR _ _ _ Em hp1;have pY:Nonempty T:=⟨n0⟩
       have E0:=ah e0;have ES:=ah es;have EW:=ah ew;clear hS YR e0 es ew;go_upto_region 6 with fail
       refine pK f (by kernel_rfl) (by kernel_rfl) n0 E0.out ?_
       repeat(go_big_quiet_step ((first
        | (go_at_call 111;refine(HRI.out _).mono ?_;rintro e w1 ⟨rfl,gI⟩;exact⟨rfl,ES.out _ _ gI⟩)
        | (go_at_call 113;refine(zK _ _).mono ?_;rintro e w1 ⟨rfl,rfl⟩;exact⟨rfl,_,rfl⟩)
        | (go_at_call 112;refine(ZB.out _).mono ?_;rintro e w1 ⟨rfl,rfl⟩;exact⟨rfl,_,rfl⟩))))
       refine wpQuiet_nil ?_;rintro _ ⟨m,rfl⟩;go_wp2;go_roundw
       case rel=>exact⟨i+1+1,by omega,by go_num,by rw[HY.out];exact HA.out,EW.out _⟩
       case measure=>simp[intOf]<;>omega
      ·have hbt:bT pn x.name=false:=by rw[Jp];simpa using ht
       have uU:Ll l (i+1)=false:=by rw[ark];simp[ht]
       have adR:=iZ (Ll l) (i+1) n fP uU;have hPF:yD v l=false:=by rw[HP.out,<-HN.out,adR];simp
       have HPF:=ah hPF;have HRI:=ah (zT _ Od);have ZB:=ah (sM _ Gd);clear Od Gd uU adR hPF zT sM ark Jp hp2 ht;obtain⟨T,f,n0,e0,es,ew,r1,r2,r3,r4,r5⟩:=YR _ _ _ Em hp1;have pY:Nonempty T:=⟨n0⟩
       have E0:=ah e0;have ES:=ah es;have EW:=ah ew;clear hS YR e0 es ew;go_upto_region 6 with fail
       refine pK f (by kernel_rfl) (by kernel_rfl) n0 E0.out ?_
       repeat(go_big_quiet_step ((first
        | (go_at_call 111;refine(HRI.out _).mono ?_;rintro e w1 ⟨rfl,gI⟩;exact⟨rfl,ES.out _ _ gI⟩)
        | (go_at_call 113;refine(zK _ _).mono ?_;rintro e w1 ⟨rfl,rfl⟩;exact⟨rfl,_,rfl⟩)
        | (go_at_call 112;refine(ZB.out _).mono ?_;rintro e w1 ⟨rfl,rfl⟩;exact⟨rfl,_,rfl⟩))))
       refine wpQuiet_nil ?_;rintro _ ⟨m,rfl⟩;go_wp2;go_ret;exact⟨by rw[HPF.out];rfl,(vV.out _).trans ((EW.out _).mono (by simp))⟩
  ·obtain rfl:i=n:=by omega
   have hPT:yD v l=true:=by rw[HP.out,<-HN.out,HA.out];simp[h1,h2,h3]<;>omega
   have HPT:=ah hPT;clear hPT;have hd:decide ((i:Int)<i)=false:=by simp
   go_wp2;go_ret;exact⟨by rw[HPT.out];rfl,HBW.out⟩
structure Tu where
 src:fu
 dst:fu
 aQ:Int
 kU:Int
 j4:Int
deriving DecidableEq
structure Fw where
 key:Tu
 name:List UInt8
 xU:Int
 seen:Int
 no:Int
deriving DecidableEq
structure qK where
 mq:Int
 sW:List Bk
 nP:List Hl
 sN:List Fw
 gN:Int
 no:Int
 mg:Vector Int 11
deriving DecidableEq
def ng:fu:=⟨false,bG 16 0⟩
def agu:Tu:=⟨ng,ng,0,0,0⟩
def kQ:Fw:=⟨agu,[],0,0,0⟩
def xV:qK:=⟨0,[],[],[],0,0,bG 11 0⟩
abbrev RS:=Option (List UInt8)
def Im(k:Nat):RS->List UInt8×RS
 | some l=>if k<=l.length then(l.take k,some (l.drop k))else([],none)
 | none=>([],none)
def adT(k:Nat)(s:RS):Nat×RS:=(oJ (Im k s).1,(Im k s).2)
def qv(n:Nat)(l:List UInt8):Vector UInt8 n:=ED fun i=>l.getD i 0
def tuO(s:RS):(Tu×Bool)×RS:=
 let a1:=adT 1 s
 let a2:=Im 16 a1.2
 let a3:=Im 16 a2.2
 let a4:=adT 1 a3.2
 let a5:=adT 2 a4.2
 let a6:=adT 2 a5.2
 ((⟨⟨a1.1==6,qv 16 a2.1⟩,⟨a1.1==6,qv 16 a3.1⟩,a4.1,a5.1,a6.1⟩,(a1.1==6)||(a1.1==4)),a6.2)
def NA(t:Tu):List UInt8:=[if t.src.j6 then 6 else 4]++(t.src.b.toList++(t.dst.b.toList++([aK t.aQ.toNat]++(iM t.kU.toNat 2 true++iM t.j4.toNat 2 true))))
def ZC(n m:Int):Bool:=decide (0<=n)&&decide (n<=m)
def qN(a:fu):Bool:=a.j6||(a.b.toList.drop 4).all (· == 0)
def Gz(t:Tu):Bool:=decide (t.src.j6=t.dst.j6)&&qN t.src&&qN t.dst&&ZC t.aQ 255&&ZC t.kU 65535&&ZC t.j4 65535
def Eo(x:Fw):Bool:=Gz x.key&&wD x.name&&decide (1<=x.xU)&&decide (x.xU<=5)&&ZC x.seen 1099511627776&&ZC x.no 1152921504606846976
theorem agv(a b:Vector UInt8 6)(d:Nat)(W:au):(jl (d+2) 25 (.agg (a.toList.map bv).toArray) (.agg (b.toList.map bv).toArray)).run aj W=.ok (decide (a=b)) W:=by
 rw[Ik d Tryz.underlying25 (by kernel_rfl) lD _ _ (by simp) (by simp),aiA]
theorem akn(a b:Vector UInt8 16)(d:Nat)(W:au):(jl (d+2) 22 (.agg (a.toList.map bv).toArray) (.agg (b.toList.map bv).toArray)).run aj W=.ok (decide (a=b)) W:=by
 rw[Ik d oh (by kernel_rfl) lD _ _ (by simp) (by simp),aiA]
theorem fu.ako(a:fu):a.aA.extract 1 (1+16)=(a.b.toList.map bv).toArray:=by
 apply oZ;simp[fu.aA];exact aL (by simp)
theorem agw:aj.underlying 27=some (.struct (aj.fieldsOf 27)):=by
 simp only[jR,eZ]
theorem ZH(c:fu)(W:au):(part 4 c.aA 0).run aj W=.ok (.bool c.j6) W:=
 pJ (P:=aj) (e:=4) (by simp only[nO]) (fu.qH c) W
theorem aiH(c:fu)(W:au):(part 22 c.aA 1).run aj W=.ok (.agg (c.b.toList.map bv).toArray) W:=by
 rw[EP (P:=aj) (e:=22) (n:=16) (by simp only[oh]) (by kernel_rfl) c.aA 1 W,fu.ako]
theorem ang:∃f1 f2:nV,(aj.fieldsOf 27).toList=[f1,f2]/\f1.name ≠ "_" /\ f2.name ≠ "_" /\ f1.type=4/\f1.offset=0/\f2.type=22/\f2.offset=1:=by
 refine⟨_,_,by simp only[jR,eZ];rfl,?_,?_,rfl,rfl,rfl,rfl⟩<;>decide
theorem abz{P:eF}(d:Nat)(xs ys:Array aC)(f1 f2:nV)(h1:f1.name ≠ "_")(h2:f2.name ≠ "_")(W:au)(a1 b1 a2 b2:aC)(r1 r2:Bool)
 (p1:(part f1.type xs f1.offset).run P W=.ok a1 W) (q1:(part f1.type ys f1.offset).run P W=.ok b1 W) (e1:(jl d f1.type a1 b1).run P W=.ok r1 W)
 (p2:(part f2.type xs f2.offset).run P W=.ok a2 W) (q2:(part f2.type ys f2.offset).run P W=.ok b2 W) (e2:(jl d f2.type a2 b2).run P W=.ok r2 W) :
 (wM d xs ys [f1,f2]).run P W=.ok (r1&&r2) W:=by
 simp only[wM,h1,h2,ne_eq,not_false_eq_true,if_true,jK,p1,q1,e1,gK];cases r1
 ·simp
 ·simp only[uV,Bool.false_eq_true,if_false,jK,p2,q2,e2,gK]
  cases r2<;>simp
theorem GD(a b:fu)(d:Nat)(W:au):(jl (d+3) 27 (.agg a.aA) (.agg b.aA)).run aj W=.ok (decide (a=b)) W:=by
 rw[zS W (d+2) _ _ _ agw Tryz.stoodInHeld27];obtain⟨f1,f2,hl,n1,n2,t1,o1,t2,o2⟩:=ang;rw[hl,abz (d+2) a.aA b.aA f1 f2 n1 n2 W _ _ _ _ _ _ (by rw[t1,o1];exact ZH a W) (by rw[t1,o1];exact ZH b W) (by rw[t1];exact abm _ _ _ W)
  (by rw[t2,o2];exact aiH a W) (by rw[t2,o2];exact aiH b W) (by rw[t2];exact akn _ _ d W)]
 obtain⟨s1,v1⟩:=a;obtain⟨s2,v2⟩:=b;congr 1;rw[cO];simp
@[go_sem ↓]theorem aGw(a b:fu)(W:au):(jl 10000 27 (.agg a.aA) (.agg b.aA)).run aj W=.ok (decide (a=b)) W:=GD a b 9997 W
theorem Bk.arl(x:Bk):x.aA.extract 1 (1+17)=x.jk.aA:=by
 apply dV;intro j;have hs:=Bk.ak x;have ha:=fu.ak x.jk;rw[dx];by_cases hj:j<17
 ·rw[if_pos (by rw[hs];omega),uN]
  exact Bk.adC x j hj
 ·rw[if_neg (by rw[hs];omega),aV (by rw[ha];omega)]
theorem Bk.aiI(x:Bk):x.aA.extract 19 (19+6)=(x.Gq.toList.map bv).toArray:=by
 apply dV;intro j;have hs:=Bk.ak x;have hm:x.Gq.toList.length=6:=by simp
 rw[dx];by_cases hj:j<6
 ·rw[if_pos (by rw[hs];omega),uN,Bk.aAr x j hj]
  simp[hj,dZ]
 ·rw[if_neg (by rw[hs];omega),aV (by simp;omega)]
theorem anh(a b:Nat)(d:Nat)(W:au):(jl (d+1) 60 (fv a) (fv b)).run aj W=.ok (Op.floatEq .f64 a b) W:=by
 simp only[fv,jl,jK,dJ Tryz.underlying60,gK,if_true,ou]
theorem akp:aj.underlying 62=some (.struct (aj.fieldsOf 62)):=by
 simp only[jR,og]
theorem arn:∃f1 f2 f3 f4 f5 f6:nV,(aj.fieldsOf 62).toList=[f1,f2,f3,f4,f5,f6]/\(f1.name ≠ "_" /\ f2.name ≠ "_" /\ f3.name ≠ "_" /\ f4.name ≠ "_" /\ f5.name ≠ "_" /\ f6.name ≠ "_") /\
 (f1.type=9/\f1.offset=0)/\(f2.type=27/\f2.offset=1)/\(f3.type=3/\f3.offset=18)/\(f4.type=25/\f4.offset=19)/\(f5.type=60/\f5.offset=25)/\(f6.type=4/\f6.offset=26):=by
 refine⟨_,_,_,_,_,_,by simp only[jR,og];rfl,⟨?_,?_,?_,?_,?_,?_⟩,⟨rfl,rfl⟩,⟨rfl,rfl⟩,⟨rfl,rfl⟩,⟨rfl,rfl⟩,⟨rfl,rfl⟩,⟨rfl,rfl⟩⟩<;>decide
def ani(x y:Bk):Bool:=(x.name==y.name)&&(decide (x.jk=y.jk)&&((x.nL==y.nL)&&(decide (x.Gq=y.Gq)&&(Op.floatEq .f64 x.w y.w&&((x.drain==y.drain)&&true)))))
theorem akq(x y:Bk)(d:Nat)(W:au):(jl (d+4) 62 (.agg x.aA) (.agg y.aA)).run aj W=.ok (ani x y) W:=by
 rw[zS W (d+3) _ _ _ akp Tryz.stoodInHeld62];obtain⟨f1,f2,f3,f4,f5,f6,hl,⟨n1,n2,n3,n4,n5,n6⟩,⟨t1,o1⟩,⟨t2,o2⟩,⟨t3,o3⟩,⟨t4,o4⟩,⟨t5,o5⟩,⟨t6,o6⟩⟩:=arn;rw[hl];have p1:∀z:Bk,(part f1.type z.aA f1.offset).run aj W=.ok (.string (bV z.name)) W:=fun z=>by
  rw[t1,o1];exact pJ (by simp only[iL]) (Bk.qH z) W
 have p2:∀z:Bk,(part f2.type z.aA f2.offset).run aj W=.ok (.agg z.jk.aA) W:=fun z=>by
  rw[t2,o2,EP (n:=17) (by simp only[eZ]) (by kernel_rfl) z.aA 1 W,Bk.arl]
 have p3:∀z:Bk,(part f3.type z.aA f3.offset).run aj W=.ok (.int .i64 z.nL) W:=fun z=>by
  rw[t3,o3];exact pJ (by simp only[gQ]) (Bk.amX z) W
 have p4:∀z:Bk,(part f4.type z.aA f4.offset).run aj W=.ok (.agg (z.Gq.toList.map bv).toArray) W:=fun z=>by
  rw[t4,o4,EP (n:=6) (by simp only[Tryz.underlying25]) (by kernel_rfl) z.aA 19 W,Bk.aiI]
 have p5:∀z:Bk,(part f5.type z.aA f5.offset).run aj W=.ok (fv z.w) W:=fun z=>by
  rw[t5,o5];exact pJ (by simp only[Tryz.underlying60]) (Bk.agh z) W
 have p6:∀z:Bk,(part f6.type z.aA f6.offset).run aj W=.ok (.bool z.drain) W:=fun z=>by
  rw[t6,o6];exact pJ (by simp only[nO]) (Bk.agi z) W
 exact iN _ _ _ _ _ n1 W _ _ _ _ (p1 x) (p1 y) (by rw[t1];exact Qx _ _ _ W)
  (iN _ _ _ _ _ n2 W _ _ _ _ (p2 x) (p2 y) (by rw[t2];exact GD _ _ d W)
  (iN _ _ _ _ _ n3 W _ _ _ _ (p3 x) (p3 y) (by rw[t3];exact Gp _ _ _ W)
  (iN _ _ _ _ _ n4 W _ _ _ _ (p4 x) (p4 y) (by rw[t4];exact agv _ _ _ W)
  (iN _ _ _ _ _ n5 W _ _ _ _ (p5 x) (p5 y) (by rw[t5];exact anh _ _ _ W)
  (iN _ _ _ _ _ n6 W _ _ _ _ (p6 x) (p6 y) (by rw[t6];exact abm _ _ _ W) (by simp[wM]))))))
@[go_sem ↓]theorem aLh(x y:Bk)(W:au):(jl 10000 62 (.agg x.aA) (.agg y.aA)).run aj W=.ok (ani x y) W:=akq x y 9996 W
def DI(v:aC):xO aC:=bZ 25 v
@[go_sem ↓]theorem avX(v:aC):bZ 25 v=DI v:=rfl
@[go_sem]theorem aEk(w:au)(ob:Obj)(x:Bk)(t:bM):xS ((w.alloc ob).alloc (.cells x.aA t)) (w.heap.size+1) 0 27=True:=by
 have:=VH (w.alloc ob) x t
 rwa [show(w.alloc ob).heap.size=w.heap.size+1 by simp]at this
@[go_sem]theorem auj(w:au)(ob:Obj)(x:Bk)(t:bM):dY ((w.alloc ob).alloc (.cells x.aA t)) (w.heap.size+1) 0 27=x.aA:=by
 have:=Ji (w.alloc ob) x t
 rwa [show(w.alloc ob).heap.size=w.heap.size+1 by simp]at this
def UG(x y:Bk):Bool:=(x.name==y.name)&&decide (x.jk=y.jk)&&(x.nL==y.nL)&&decide (x.Gq=y.Gq)&&(x.drain==y.drain)&&decide (agn x.w=agn y.w)
def Bk.Qm(x:Bk)(v:Nat):Bk:={x with w:=v}
def Bk.toD(x:Bk)(d:Bool):Bk:={x with drain:=d}
@[go_sem]theorem Bk.aAB(x:Bk)(v:Nat):x.aA.setIfInBounds 25 (.float .f64 v)=(x.Qm v).aA:=by
 apply oZ;simp[Bk.aA,Bk.Qm,List.set_append,fv]
@[go_sem]theorem Bk.auk(x:Bk)(d:Bool):x.aA.setIfInBounds 26 (.bool d)=(x.toD d).aA:=by
 apply oZ;simp[Bk.aA,Bk.toD,List.set_append]
@[go_sem]theorem aul{P:eF}{w:au}{a:aU}{m:Mode}(k:FloatKind)(n:Nat):(store a (.float k n) m).run P w=stored P w a (.float k n) m:=run_store P w a _ m rfl
def SH(x y:Bk):Bool:=EX x.w y.w&&ani (x.Qm 0) (y.Qm 0)
theorem akr(x y:Bk)(w:au):
 aR aj 124 #[.agg x.aA,.agg y.aA] w (gP w (.bool (SH x y))):=by
 have KD:∀ob uy,aN w.heap.size w ((w.alloc ob).alloc uy):=fun ob uy=>((aH _ _).alloc (ay _) _).alloc (by simp) _
 have vV:=ah KD;clear KD;have hs:SH x y=(EX x.w y.w&&ani (x.Qm 0) (y.Qm 0)):=rfl;have HS:=ah hs;clear hs;have sM:∀K,EX x.w y.w=K->∀W,aR aj 112 #[.float .f64 x.w,.float .f64 y.w] W fun e w'=>e=.returned (.bool K)/\W=w':=fun K h W=>by
  have:=adM x.w y.w W;rw[h]at this;exact this
 cases k:EX x.w y.w
 ·have HK:=ah k
  have ZB:=ah (sM _ k);clear k sM;go_enter Tryz.func124,Tryz.ntmps124;go_wp2_with (go_at_call 112;refine(ZB.out _).mono ?_;rintro e w' ⟨rfl,rfl⟩);go_ret;exact⟨by rw[HS.out,HK.out];rfl,vV.out _ _⟩
 ·have HK:=ah k
  have ZB:=ah (sM _ k);clear k sM;go_enter Tryz.func124,Tryz.ntmps124;go_wp2_with (go_at_call 112;refine(ZB.out _).mono ?_;rintro e w' ⟨rfl,rfl⟩);go_ret;exact⟨by rw[HS.out,HK.out];rfl,vV.out _ _⟩
theorem DJ(l:List Bk):∀u∈dH l,u.oneCell'=true:=by
 intro u hu;obtain⟨x,_,hx⟩:=List.mem_flatMap.1 hu;exact fZ.1 (Bk.cB x) u (by simpa using hx)
theorem QC:∃i:nM,aj.info? 62=some i/\i.zero=some (.agg jo.aA)/\i.size=27/\i.bytes<=200:=by
 cases h:aj.info? 62 with
 | none=>exact absurd h (by have:(aj.info? 62).isSome=true:=by kernel_rfl
                            intro e;rw[e]at this;cases this)
 | some i=>
   have h1:(aj.info? 62).map (·.size)=some 27:=by kernel_rfl
   have h2:(aj.info? 62).map (fun i=>decide (i.bytes<=200))=some true:=by kernel_rfl
   have h3:(aj.info? 62).map (·.zero)=some (some (.agg jo.aA)):=by kernel_rfl
   rw[h]at h1 h2 h3;simp at h1 h2 h3;exact⟨i,rfl,h3,h1,h2⟩
def vg(n:Int):Int:=if n<1 then 1 else if 100<n then 100 else n
theorem ZI(n:Int):1<=vg n/\vg n<=100:=by unfold vg;split<;>(try split)<;>omega
theorem ZJ(n:Int)(w:au):aR aj 216 #[.int .i64 n] w fun e w'=>e=.returned (.int .i64 (vg n))/\w=w':=by
 rcases(show n<1\/(1<=n/\n<=100)\/100<n by omega)with h|⟨h1,h2⟩|h
 ·have hb:=ah (show vg n=1 by simp[vg,h])
  go_enter Tryz.func216,Tryz.ntmps216;go_wp2;go_ret;exact⟨by rw[hb.out];rfl,rfl⟩
 ·have hb:=ah (show vg n=n by unfold vg;rw[if_neg (by omega),if_neg (by omega)])
  go_enter Tryz.func216,Tryz.ntmps216;go_wp2;go_ret;exact⟨by rw[hb.out];rfl,rfl⟩
 ·have hb:=ah (show vg n=100 by unfold vg;rw[if_neg (by omega),if_pos h])
  go_enter Tryz.func216,Tryz.ntmps216;go_wp2;go_ret;exact⟨by rw[hb.out];rfl,rfl⟩
def vk(h:Hl)(well:Bool)(rise fall:Int):Hl×Bool:=
 if well != h.down then({h with run:=0},false)
 else if vg (if h.down then rise else fall)-1<=max h.run 0 then(⟨h.name,!h.down,0⟩,true)
 else({h with run:=max h.run 0+1},false)
def aum(w:au)(r:Hl×Bool)(e:kX)(w':au):Prop:=e=.returned (.tuple #[.agg r.1.aA,.bool r.2])/\aN w.heap.size w w'
theorem wO{w W:au}{x:Hl}{r:Bool}{h:Hl}{well:Bool}{rise fall:Int}(hs:vk h well rise fall=(x,r))(hb:aN w.heap.size w W):
 aum w (vk h well rise fall) (.returned (.tuple #[.agg x.aA,.bool r])) W:=by rw[hs];exact⟨rfl,hb⟩
theorem UH{h:Hl}{well:Bool}{rise fall k m:Int}(hw:well=h.down)(hk:vg (if h.down then rise else fall)=k)(hm:max h.run 0=m)(hle:k-1<=m):vk h well rise fall=(⟨h.name,!h.down,0⟩,true):=by
 unfold vk;rw[if_neg (by simp[hw]),hk,hm,if_pos hle]
theorem UJ{h:Hl}{well:Bool}{rise fall k m:Int}(hw:well=h.down)(hk:vg (if h.down then rise else fall)=k)(hm:max h.run 0=m)(fP:m<k-1):vk h well rise fall=(⟨h.name,h.down,m+1⟩,false):=by
 unfold vk;rw[if_neg (by simp[hw]),hk,hm,if_neg (by omega)]
theorem MC{w W1:au}{nm:List UInt8}{dn:Bool}{rn:Int}(b1:dL W1 w.heap.size (Hl.mk nm dn rn).aA)(b2:dL W1 (w.heap.size+1) lG.aA)(hb:aN w.heap.size w W1)(v:Int):
 dL (W1.setCell ⟨w.heap.size,2,none⟩ (.int .i64 v)) w.heap.size (Hl.mk nm dn v).aA/\dL (W1.setCell ⟨w.heap.size,2,none⟩ (.int .i64 v)) (w.heap.size+1) lG.aA/\Hid (aN w.heap.size w (VE (W1.setCell ⟨w.heap.size,2,none⟩ (.int .i64 v)) (w.heap.size+1) 0 (Hl.mk nm dn v)))/\Hid (dL (VE (W1.setCell ⟨w.heap.size,2,none⟩ (.int .i64 v)) (w.heap.size+1) 0 (Hl.mk nm dn v)) (w.heap.size+1) (Hl.mk nm dn v).aA):=by
 have c2:dL (W1.setCell ⟨w.heap.size,2,none⟩ (.int .i64 v)) (w.heap.size+1) lG.aA:=b2.dM ⟨w.heap.size,2,none⟩ (.int .i64 v) (by simp);exact⟨b1.eG 2 (.int .i64 v),c2,Sy (hb.setCell (p:=⟨w.heap.size,2,none⟩) (ay _) (.int .i64 v)) (w.heap.size+1) 0 (Hl.mk nm dn v) (by omega),c2.aAo (Hl.ak _) (Hl.mk nm dn v)⟩
theorem UK{w W1:au}{nm:List UInt8}{dn:Bool}{rn:Int}(b1:dL W1 w.heap.size (Hl.mk nm dn rn).aA)(b2:dL W1 (w.heap.size+1) lG.aA)(hb:aN w.heap.size w W1)(d:Bool):
 dL ((W1.setCell ⟨w.heap.size,1,none⟩ (.bool d)).setCell ⟨w.heap.size,2,none⟩ (.int .i64 0)) w.heap.size (Hl.mk nm d 0).aA/\dL ((W1.setCell ⟨w.heap.size,1,none⟩ (.bool d)).setCell ⟨w.heap.size,2,none⟩ (.int .i64 0)) (w.heap.size+1) lG.aA/\Hid (aN w.heap.size w (VE ((W1.setCell ⟨w.heap.size,1,none⟩ (.bool d)).setCell ⟨w.heap.size,2,none⟩ (.int .i64 0)) (w.heap.size+1) 0 (Hl.mk nm d 0)))/\Hid (dL (VE ((W1.setCell ⟨w.heap.size,1,none⟩ (.bool d)).setCell ⟨w.heap.size,2,none⟩ (.int .i64 0)) (w.heap.size+1) 0 (Hl.mk nm d 0)) (w.heap.size+1) (Hl.mk nm d 0).aA):=
 MC (b1.eG 1 (.bool d)) (b2.dM ⟨w.heap.size,1,none⟩ (.bool d) (by simp)) (hb.setCell (p:=⟨w.heap.size,1,none⟩) (ay _) (.bool d)) 0
theorem anj(h:Hl)(well:Bool)(rise fall:Int)(w:au)(hh : -9223372036854775808<=h.run/\h.run<=9223372036854775807):
 aR aj 149 #[.agg h.aA,.bool well,.int .i64 rise,.int .i64 fall] w (aum w (vk h well rise fall)):=by
 obtain⟨nm,dn,rn⟩:=h;obtain⟨hh1,hh2⟩:=hh;have B1:=ah (fun(ob:Obj)=>(dL.new w (Hl.mk nm dn rn).aA 100).alloc ob);have B2:=ah (fun(ob:Obj)=>dL.Vv w ob lG.aA 100);have HB:=ah (fun(ob uy:Obj)=>((aH w.heap.size w).alloc (ay _) ob).alloc (by simp) uy);go_enter Tryz.func149,Tryz.ntmps149;go_wp2_with fail;refine(ZJ _ _).mono ?_;rintro e wz ⟨rfl,rfl⟩;have B1:=ah (B1.out (.cells lG.aA 100));have B2:=ah (B2.out (.cells (Hl.mk nm dn rn).aA 100));have HB:=ah (HB.out (.cells (Hl.mk nm dn rn).aA 100) (.cells lG.aA 100));obtain⟨W1,hW1⟩:∃W1,W1=(w.alloc (.cells (Hl.mk nm dn rn).aA 100)).alloc (.cells lG.aA 100):=⟨_,rfl⟩
 rw[<-hW1]at B1 B2 HB ⊢;clear hW1;obtain⟨x1,x2,x3,x4⟩:=B1.out.aI;have l1:=B1.out.lt;have l2:=B2.out.lt;cases dn
 ·have kb:=ZI fall
  obtain⟨k,hk⟩:∃k,vg fall=k:=⟨_,rfl⟩
  rw[hk]at kb ⊢;have HK:=ah hk;clear hk;obtain⟨kb1,kb2⟩:=kb;cases well
  ·rcases Int.lt_or_le rn 0 with hrn|hrn
   ·have HM:=ah (show max rn 0=0 by omega)
    rcases Int.lt_or_le (0:Int) (k-1)with fP|hle
    ·have pY:decide (k-1<=0)=false:=by simp;omega
     obtain⟨c1,c2,SI,CF⟩:=MC B1.out B2.out HB.out (1);obtain⟨y1,y2,y3,y4⟩:=c1.aI;have th:=c2.there 0 3 (by rw[Hl.ak];omega);clear c1 c2;have hs:=ah (UJ (h:=⟨nm,false,rn⟩) (well:=false) (rise:=rise) (fall:=fall) rfl HK.out HM.out fP);go_wp2_with fail;refine bodyPost_ret (El rfl _ _ _ _ rfl (by rw[CF.out.aI.2.2.1 0 3 (ay _)];trivial)) rfl ?_;rw[CF.out.aI.2.2.2 0 3 (ay _),Hl.kg];exact wO hs.out SI.out
    ·have hye:decide (k-1<=0)=true:=by simp;omega
     obtain⟨c1,c2,SI,CF⟩:=UK B1.out B2.out HB.out true;obtain⟨y1,y2,y3,y4⟩:=c1.aI;have th:=c2.there 0 3 (by rw[Hl.ak];omega);obtain⟨z1,z2,z3,z4⟩:=(B1.out.eG 1 (.bool true)).aI;clear c1 c2;have hs:=ah (UH (h:=⟨nm,false,rn⟩) (well:=false) (rise:=rise) (fall:=fall) rfl HK.out HM.out hle);go_wp2_with fail;refine bodyPost_ret (El rfl _ _ _ _ rfl (by rw[CF.out.aI.2.2.1 0 3 (ay _)];trivial)) rfl ?_;rw[CF.out.aI.2.2.2 0 3 (ay _),Hl.kg];exact wO hs.out SI.out
   ·have HM:=ah (show max rn 0=rn by omega)
    rcases Int.lt_or_le rn (k-1)with fP|hle
    ·have pY:decide (k-1<=rn)=false:=by simp;omega
     obtain⟨c1,c2,SI,CF⟩:=MC B1.out B2.out HB.out (rn+1);obtain⟨y1,y2,y3,y4⟩:=c1.aI;have th:=c2.there 0 3 (by rw[Hl.ak];omega);clear c1 c2;have hs:=ah (UJ (h:=⟨nm,false,rn⟩) (well:=false) (rise:=rise) (fall:=fall) rfl HK.out HM.out fP);go_wp2_with fail;refine bodyPost_ret (El rfl _ _ _ _ rfl (by rw[CF.out.aI.2.2.1 0 3 (ay _)];trivial)) rfl ?_;rw[CF.out.aI.2.2.2 0 3 (ay _),Hl.kg];exact wO hs.out SI.out
    ·have hye:decide (k-1<=rn)=true:=by simp;omega
     obtain⟨c1,c2,SI,CF⟩:=UK B1.out B2.out HB.out true;obtain⟨y1,y2,y3,y4⟩:=c1.aI;have th:=c2.there 0 3 (by rw[Hl.ak];omega);obtain⟨z1,z2,z3,z4⟩:=(B1.out.eG 1 (.bool true)).aI;clear c1 c2;have hs:=ah (UH (h:=⟨nm,false,rn⟩) (well:=false) (rise:=rise) (fall:=fall) rfl HK.out HM.out hle);go_wp2_with fail;refine bodyPost_ret (El rfl _ _ _ _ rfl (by rw[CF.out.aI.2.2.1 0 3 (ay _)];trivial)) rfl ?_;rw[CF.out.aI.2.2.2 0 3 (ay _),Hl.kg];exact wO hs.out SI.out
  ·have hbn:((true:Bool) != false)=true:=rfl
   rcases Int.lt_or_le rn 0 with hrn|hrn
   all_goals
    skip;obtain⟨c1,c2,SI,CF⟩:=MC B1.out B2.out HB.out 0;obtain⟨y1,y2,y3,y4⟩:=c1.aI;have th:=c2.there 0 3 (by rw[Hl.ak];omega);clear c1 c2;have hs:=ah (show vk ⟨nm,false,rn⟩ true rise fall=(⟨nm,false,0⟩,false)from rfl);go_wp2_with fail;refine bodyPost_ret (El rfl _ _ _ _ rfl (by rw[CF.out.aI.2.2.1 0 3 (ay _)];trivial)) rfl ?_;rw[CF.out.aI.2.2.2 0 3 (ay _),Hl.kg];exact wO hs.out SI.out
 ·have kb:=ZI rise
  obtain⟨k,hk⟩:∃k,vg rise=k:=⟨_,rfl⟩
  go_wp2_with fail;refine(ZJ _ _).mono ?_;rintro e wz ⟨rfl,rfl⟩;rw[hk]at kb ⊢;have HK:=ah hk;clear hk;obtain⟨kb1,kb2⟩:=kb;cases well
  ·have hbn:((false:Bool) != true)=true:=rfl
   rcases Int.lt_or_le rn 0 with hrn|hrn
   all_goals
    skip;obtain⟨c1,c2,SI,CF⟩:=MC B1.out B2.out HB.out 0;obtain⟨y1,y2,y3,y4⟩:=c1.aI;have th:=c2.there 0 3 (by rw[Hl.ak];omega);clear c1 c2;have hs:=ah (show vk ⟨nm,true,rn⟩ false rise fall=(⟨nm,true,0⟩,false)from rfl);go_wp2_with fail;refine bodyPost_ret (El rfl _ _ _ _ rfl (by rw[CF.out.aI.2.2.1 0 3 (ay _)];trivial)) rfl ?_;rw[CF.out.aI.2.2.2 0 3 (ay _),Hl.kg];exact wO hs.out SI.out
  ·rcases Int.lt_or_le rn 0 with hrn|hrn
   ·have HM:=ah (show max rn 0=0 by omega)
    rcases Int.lt_or_le (0:Int) (k-1)with fP|hle
    ·have pY:decide (k-1<=0)=false:=by simp;omega
     obtain⟨c1,c2,SI,CF⟩:=MC B1.out B2.out HB.out (1);obtain⟨y1,y2,y3,y4⟩:=c1.aI;have th:=c2.there 0 3 (by rw[Hl.ak];omega);clear c1 c2;have hs:=ah (UJ (h:=⟨nm,true,rn⟩) (well:=true) (rise:=rise) (fall:=fall) rfl HK.out HM.out fP);go_wp2_with fail;refine bodyPost_ret (El rfl _ _ _ _ rfl (by rw[CF.out.aI.2.2.1 0 3 (ay _)];trivial)) rfl ?_;rw[CF.out.aI.2.2.2 0 3 (ay _),Hl.kg];exact wO hs.out SI.out
    ·have hye:decide (k-1<=0)=true:=by simp;omega
     obtain⟨c1,c2,SI,CF⟩:=UK B1.out B2.out HB.out false;obtain⟨y1,y2,y3,y4⟩:=c1.aI;have th:=c2.there 0 3 (by rw[Hl.ak];omega);obtain⟨z1,z2,z3,z4⟩:=(B1.out.eG 1 (.bool false)).aI;clear c1 c2;have hs:=ah (UH (h:=⟨nm,true,rn⟩) (well:=true) (rise:=rise) (fall:=fall) rfl HK.out HM.out hle);go_wp2_with fail;refine bodyPost_ret (El rfl _ _ _ _ rfl (by rw[CF.out.aI.2.2.1 0 3 (ay _)];trivial)) rfl ?_;rw[CF.out.aI.2.2.2 0 3 (ay _),Hl.kg];exact wO hs.out SI.out
   ·have HM:=ah (show max rn 0=rn by omega)
    rcases Int.lt_or_le rn (k-1)with fP|hle
    ·have pY:decide (k-1<=rn)=false:=by simp;omega
     obtain⟨c1,c2,SI,CF⟩:=MC B1.out B2.out HB.out (rn+1);obtain⟨y1,y2,y3,y4⟩:=c1.aI;have th:=c2.there 0 3 (by rw[Hl.ak];omega);clear c1 c2;have hs:=ah (UJ (h:=⟨nm,true,rn⟩) (well:=true) (rise:=rise) (fall:=fall) rfl HK.out HM.out fP);go_wp2_with fail;refine bodyPost_ret (El rfl _ _ _ _ rfl (by rw[CF.out.aI.2.2.1 0 3 (ay _)];trivial)) rfl ?_;rw[CF.out.aI.2.2.2 0 3 (ay _),Hl.kg];exact wO hs.out SI.out
    ·have hye:decide (k-1<=rn)=true:=by simp;omega
     obtain⟨c1,c2,SI,CF⟩:=UK B1.out B2.out HB.out false;obtain⟨y1,y2,y3,y4⟩:=c1.aI;have th:=c2.there 0 3 (by rw[Hl.ak];omega);obtain⟨z1,z2,z3,z4⟩:=(B1.out.eG 1 (.bool false)).aI;clear c1 c2;have hs:=ah (UH (h:=⟨nm,true,rn⟩) (well:=true) (rise:=rise) (fall:=fall) rfl HK.out HM.out hle);go_wp2_with fail;refine bodyPost_ret (El rfl _ _ _ _ rfl (by rw[CF.out.aI.2.2.1 0 3 (ay _)];trivial)) rfl ?_;rw[CF.out.aI.2.2.2 0 3 (ay _),Hl.kg];exact wO hs.out SI.out
abbrev RdH:=iO Hl.aA 3
theorem iO.hl{W:au}{B n:Nat}{A:Option aU}{l:List Hl}{k:Nat}(h:RdH W B A n l)(hk:k<n):∃b o,A=some ⟨b,o,none⟩/\b<B/\xS W b (o+k*3) 3/\dY W b (o+k*3) 3=(l.getD k lG).aA /\
 W.cell? ⟨b,o+k*3,none⟩=some (.string (bV (l.getD k lG).name))/\W.cell? ⟨b,o+k*3+1,none⟩=some (.bool (l.getD k lG).down):=by
 obtain⟨b,o,hA,hb,hc⟩:=iO.cell Hl.ak lG h hk;obtain⟨h1,h2⟩:=xB (Hl.ak _) hc;exact⟨b,o,hA,hb,h1,h2,by have:=hc 0 (by omega);rw[nI]at this;exact this,hc 1 (by omega)⟩
def Ae(l:List Hl)(s:List UInt8):Int:=match l.findIdx? (fun x=>x.name==s)with|some i=>(i:Nat)|none=>-1
theorem aro{l:List Hl}{s:List UInt8}{i:Nat}(hi:i<l.length)(h:(l.getD i lG).name=s)(uU:∀k,k<i->(l.getD k lG).name≠s):Ae l s=i:=by
 have:l.findIdx? (fun x=>x.name==s)=some i:=by
  rw[gV];refine⟨hi,?_,fun j hj=>?_⟩
  ·rw[av,aD hi]at h
   simpa using h
  ·have:=uU j hj
   rw[av,aD (by omega)]at this;simpa using this
 unfold Ae;rw[this]
theorem arp{l:List Hl}{s:List UInt8}(uU:∀k,k<l.length->(l.getD k lG).name≠s):Ae l s = -1:=by
 have:l.findIdx? (fun x=>x.name==s)=none:=by
  rw[List.findIdx?_eq_none_iff];intro x hx;obtain⟨k,hk,rfl⟩:=List.getElem_of_mem hx;have:=uU k hk;rw[av,aD hk]at this;simpa using this
 unfold Ae;rw[this]
theorem arq(l:List Hl)(s:List UInt8):Ae l s<l.length:=by
 unfold Ae;split
 ·rename_i i h
  have:=(gV.1 h).1;omega
 ·omega
theorem agx(l:List Hl)(s:List UInt8):Ae l s = -1\/∃i:Nat,Ae l s=i/\i<l.length:=by
 have:=arq l s;unfold Ae at this ⊢;split
 ·rename_i i h;rw[h]at this;exact .inr ⟨i,rfl,by simpa using this⟩
 ·exact .inl rfl
section
variable {P:eF}
theorem Mc(w:au)(dT sT ty elem:bM)(size g o Cg Jq:Nat)(a:aU)(qg xC:Nat)(cur:Array aC)(t:bM)(cs:List aC)(m:Nat)
 (hu:P.underlying dT=some (.slice elem)) (hs:(P.info? elem).map (·.size)=some size)
 (hg:w.heap[g]? = some (.cells cur t (0,0))) (hm:m=qA qg Cg) (hn:cs.length=m*size)
 (QD:∀j v,cs[j]? = some v->w.cell? (a.add j)=some v) (VX:o+cs.length<=cur.size) (h1:∀v∈cs,v.oneCell'=true) :
 (qI #[dT,sT] ty #[.slice (some ⟨g,o,none⟩) Cg Jq,.slice (some a) qg xC]).run P w =
  .ok (goInt m) (w.setRow g (splice cur.toList o cs).toArray):=by
 have hl:=run_loadCells_list (P:=P) w a cs QD;have yZ:=run_storeCells_at P g o t cs 0 cur w hg (by simpa using VX) h1;cases hq:P.info? elem with
 | none=>simp[hq]at hs
 | some i=>
   have hi:i.size=size:=by simpa[hq]using hs
   subst hm;simp[qI,dJ hu,Builtin.lenOf,ug,sizeOf,typeInfo,hq,hi,<-hn,hl,yZ,splice]
theorem Fa{w:au}{ops:Array iV}{rest:List iV}{o:iV}{a:re}{Q:Aq->re->au->Prop}(Gl:o.guard=none)(d s:pQ)(dT sT:bM)
 (ho:o.op=.call {callee:=.builtin .copy,args:=#[d,s],argTypes:=#[dT,sT]}) (elem:bM) (size:Nat) (hu:P.underlying dT=some (.slice elem)) (jB:(P.info? elem).map (·.size)=some size)
 (g off Cg Jq:Nat) (ad:aU) (qg xC:Nat) (hd:a.eval d=.slice (some ⟨g,off,none⟩) Cg Jq) (hs:a.eval s=.slice (some ad) qg xC)
 (cur:Array aC) (t:bM) (hg:w.heap[g]? = some (.cells cur t (0,0))) (cs:List aC) (m:Nat) (hm:m=qA qg Cg) (hn:cs.length=m*size)
 (QD:∀j v,cs[j]? = some v->w.cell? (ad.add j)=some v) (VX:off+cs.length<=cur.size) (h1:∀v∈cs,v.oneCell'=true)
 (h:∀w',w'=w.setRow g (splice cur.toList off cs).toArray->wpList P ops Q rest (a.put o.dst (goInt m)) w'):wpList P ops Q (o::rest) a w:=by
 refine tu Gl fun K hK=>?_
 have qc:=Mc (P:=P) w dT sT o.type elem size g off Cg Jq ad qg xC cur t cs m hu jB hg hm hn QD VX h1;unfold nD;simp[execOp,ho,resolve,invoke,builtin,hd,hs,qc,iD];exact hK _ _ (h _ rfl)
theorem Jr{ops:Array iV}{o:iV}{a:re}{w:au}{K:re->au->Prop}{Q:Aq->re->au->Prop}{E:Prop}(Gl:o.guard=none)(d s:pQ)(dT sT:bM)
 (ho:o.op=.call {callee:=.builtin .copy,args:=#[d,s],argTypes:=#[dT,sT]}) (elem:bM) (size:Nat) (hu:P.underlying dT=some (.slice elem)) (jB:(P.info? elem).map (·.size)=some size)
 (g off Cg Jq:Nat) (ad:aU) (qg xC:Nat) (hd:a.eval d=.slice (some ⟨g,off,none⟩) Cg Jq) (hs:a.eval s=.slice (some ad) qg xC)
 (cur:Array aC) (t:bM) (hg:w.heap[g]? = some (.cells cur t (0,0))) (cs:List aC) (m:Nat) (hm:m=qA qg Cg) (hn:cs.length=m*size)
 (QD:∀j v,cs[j]? = some v->w.cell? (ad.add j)=some v) (VX:off+cs.length<=cur.size) (h1:∀v∈cs,v.oneCell'=true)
 (h:∀w',w'=w.setRow g (splice cur.toList off cs).toArray->K (a.put o.dst (goInt m)) w') :
 if fC o (yielded ops a.tmps)=true then nD P o a w K Q else E:=by
 have hw:fC o (yielded ops a.tmps)=true:=by simp[fC,Gl]
 rw[if_pos hw];have qc:=Mc (P:=P) w dT sT o.type elem size g off Cg Jq ad qg xC cur t cs m hu jB hg hm hn QD VX h1;unfold nD;simp[execOp,ho,resolve,invoke,builtin,hd,hs,qc,iD];exact h _ rfl
theorem QE{w:au}{ops:Array iV}{rest:List iV}{o:iV}{a:re}{Q:Aq->re->au->Prop}(Gl:o.guard=none)(s x:pQ)(t tn:bM)
 (ho:o.op=.call {callee:=.builtin .append,args:=#[s,x],argTypes:=#[t,tn]}) (e:bM) (i:nM) (z:aC) (size:Nat) (kq kn:IntKind) (ht:P.underlying t=some (.slice e)) (htn:P.underlying tn=some (.int kn)) (hi:P.info? e=some i) (hz:i.zero=some z)
 (Jc:i.size=size) (Qs:z.cells.size=size)
 (ad:aU) (qg xC:Nat) (hs:a.eval s=.slice (some ad) qg xC) (k:Nat) (hx:a.eval x=.int kq k)
 (agy:List aC) (hlo:agy.length=qg*size) (hold:∀j u,agy[j]? = some u->w.cell? (ad.add j)=some u)
 (h0:0<k) (jB:0<size) (hg:xC<qg+k) (h63:qg+k<=maxLen) (hb:(qg+k)*i.bytes<=140737488355328)
 (h:∀c' cur w',qg+k<=c'->c'<=maxLen->cur.size=c'*size->cur.toList.take (qg*size)=agy->w'.heap[w.heap.size]? = some (.cells cur e (0,0))->aN w.heap.size w w' ->
  wpList P ops Q rest (a.put o.dst (.slice (some ⟨w.heap.size,0,none⟩) (qg+k) c')) w'):wpList P ops Q (o::rest) a w:=by
 subst Jc;refine tu Gl fun K hK=>?_
 have hl:(ug i.size qg (.slice (some ad) qg xC)).run P w.drew=.ok agy.toArray w.drew:=by
  have:=run_loadCells_list (P:=P) w.drew ad agy (fun j v hj=>by simpa using hold j v hj);rw[hlo]at this;simpa[ug]using this
 have aGy:((qg+k:Nat):Int)<=9223372036854775807:=by unfold maxLen at h63;omega
 have h48:k*i.bytes<=281474976710656:=aP (cZ _ (by omega:k<=qg+k)) (by omega);have qc:=Lib.run_append_grow_zeros (P:=P) w t tn o.type e i z kq kn ht htn hi hz (some ad) qg xC agy hl k h0 jB hg aGy h48 (growslice_fits hg hb);have UL:=grownCap_ge w (qg+k) xC e;have:=h (grownCap w (qg+k) xC e) _ _ UL (grownCap_le_maxLen w (qg+k) xC e h63)
  (by simp only[Array.size_append,List.size_toArray,size_zeroCells,Qs,hlo,<-Nat.add_mul];congr 1;omega)
  (by simp only[Array.toList_append,dB];rw[<-hlo];exact List.take_left)
  (Ic w.drew (.cells (agy.toArray++nU z.cells k++nU z.cells (grownCap w (qg+k) xC e-(qg+k))) e))
  (((aH w.heap.size w).drew).alloc (ay _) _)
 unfold nD;simp[execOp,ho,resolve,invoke,builtin,hs,hx,qc,iD];exact hK _ _ (by simpa using this)
theorem Md{ops:Array iV}{o:iV}{a:re}{w:au}{K:re->au->Prop}{Q:Aq->re->au->Prop}{E:Prop}(Gl:o.guard=none)(s x:pQ)(t:bM)
 (ho:o.op=.call {callee:=.builtin .append,args:=#[s,x],argTypes:=#[t,t]}) (e:bM) (i:nM) (size:Nat) (ht:P.underlying t=some (.slice e)) (hi:P.info? e=some i) (Jc:i.size=size)
 (g qg xC:Nat) (ad:aU) (m c:Nat) (hs:a.eval s=.slice (some ⟨g,0,none⟩) qg xC) (hx:a.eval x=.slice (some ad) m c)
 (cur:Array aC) (hg:w.heap[g]? = some (.cells cur e (0,0))) (news:List aC) (hl:news.length=m*size) (aAD:∀j u,news[j]? = some u->w.cell? (ad.add j)=some u) (h1:∀u∈news,u.oneCell'=true)
 (aAE:qg+m<=xC) (VX:qg*size+news.length<=cur.size)
 (h:∀w',w'=w.setRow g (splice cur.toList (qg*size) news).toArray->K (a.put o.dst (.slice (some ⟨g,0,none⟩) (qg+m) xC)) w') :
 if fC o (yielded ops a.tmps)=true then nD P o a w K Q else E:=by
 subst Jc;have hw:fC o (yielded ops a.tmps)=true:=by simp[fC,Gl]
 rw[if_pos hw];have qc:=run_append_room (P:=P) w t o.type e i ht hi g qg xC cur hg ad m c news hl aAD h1 aAE VX;unfold nD;simp[execOp,ho,resolve,invoke,builtin,hs,hx,qc,iD];exact h _ (by simp[splice])
theorem Fb{w:au}{ops:Array iV}{rest:List iV}{o:iV}{a:re}{Q:Aq->re->au->Prop}(Gl:o.guard=none)(s:pQ)(t:bM)
 (ho:o.op=.call {callee:=.builtin .clear,args:=#[s],argTypes:=#[t]}) (e:bM) (i:nM) (z:aC) (size:Nat) (ht:P.underlying t=some (.slice e)) (hi:P.info? e=some i) (hz:i.zero=some z) (Qs:z.cells.size=size) (h1:z.cells.all (·.oneCell')=true)
 (g off n c:Nat) (hs:a.eval s=.slice (some ⟨g,off,none⟩) n c) (h0:0<n) (cur:Array aC) (tt:bM) (hg:w.heap[g]? = some (.cells cur tt (0,0))) (VX:off+n*size<=cur.size)
 (h:∀w' zs,zs.length=n*size->w'=w.setRow g (splice cur.toList off zs).toArray->wpList P ops Q rest (a.put o.dst (.tuple #[])) w'):wpList P ops Q (o::rest) a w:=by
 refine tu Gl fun K hK=>?_
 have hzl:(nU z.cells n).toList.length=n*size:=by rw[aZ,size_zeroCells,Qs]
 have yZ:=run_storeCells_at P g off tt (nU z.cells n).toList 0 cur w hg (by rw[hzl];omega) (fun v hv=>by
  have hv':v∈nU z.cells n:=by simpa using hv
  unfold nU at hv';obtain⟨j,hj,rfl⟩:=Array.mem_map.1 hv';have hj':j<n*z.cells.size:=by simpa using hj
  have EO:0<z.cells.size:=by
   rcases dX z.cells.size with h2|h2
   ·rw[h2]at hj';omega
   ·exact h2
  have hm:j%z.cells.size<z.cells.size:=fD _ EO;rw[getElem!_pos z.cells _ hm];exact fZ.1 h1 _ (Array.getElem_mem hm))
 have qc:(Builtin.clear_ #[t] o.type #[.slice (some ⟨g,off,none⟩) n c]).run P w=.ok (.tuple #[]) (w.setRow g (splice cur.toList off (nU z.cells n).toList).toArray):=by
  obtain⟨n',rfl⟩:∃n',n=n'+1:=⟨n-1,by omega⟩
  simp[Builtin.clear_,dJ ht,zeroValue,typeInfo,hi,hz,yZ,splice]
 unfold nD;simp[execOp,ho,resolve,invoke,builtin,hs,qc,iD];exact hK _ _ (h _ _ hzl rfl)
end
theorem akt{α:Type}(cur xs ys:List α)(k s:Nat)(hx:cur.take xs.length=xs)(hk:k<=xs.length)(hy:ys.length=s)(VX:xs.length+s<=cur.length):
 (splice (splice cur (k+s) (xs.drop k)) k ys).take (xs.length+s)=xs.take k++ys++xs.drop k:=by
 have hc:cur=xs++cur.drop xs.length:=by
  conv=>lhs;rw[<-iF xs.length cur]
  rw[hx]
 generalize cur.drop xs.length=r at hc;subst hc;have hr:s<=r.length:=by simp at VX;omega
 unfold splice;have e1:((xs++r).take (k+s)++(xs.drop k++(xs++r).drop (k+s+(xs.drop k).length))).take k=xs.take k:=by
  rw[gB (by simp;omega),List.take_take,oH (by omega),gB hk]
 have e2:((xs++r).take (k+s)++(xs.drop k++(xs++r).drop (k+s+(xs.drop k).length))).drop (k+ys.length)=xs.drop k++(xs++r).drop (k+s+(xs.drop k).length):=by
  rw[hy];have:(List.take (k+s) (xs++r)).length=k+s:=by simp;omega
  rw[List.drop_append_of_le_length (by omega),iR (by omega),dG]
 rw[e1,e2,<-dB,<-dB,gB (by simp;omega)];exact aL (by simp;omega)
theorem ars{α:Type}(cur xs ys:List α)(k s:Nat)(hx:cur.take k=xs.take k)(hk:k<=xs.length)(hy:ys.length=s)(VX:xs.length+s<=cur.length):
 (splice (splice cur k ys) (k+s) (xs.drop k)).take (xs.length+s)=xs.take k++ys++xs.drop k:=by
 unfold splice;rw[hx];have e1:(xs.take k++(ys++cur.drop (k+ys.length))).take (k+s)=xs.take k++ys:=by
  rw[<-dB,gB (by simp;omega)];exact aL (by simp;omega)
 rw[e1,<-dB,gB (by simp;omega)];exact aL (by simp;omega)
theorem ZL{α:Type}(cur xs:List α)(k s:Nat)(hx:cur.take xs.length=xs)(hk:k+s<=xs.length):
 (splice cur k (xs.drop (k+s))).take (xs.length-s)=xs.take k++xs.drop (k+s):=by
 have hc:cur=xs++cur.drop xs.length:=by
  conv=>lhs;rw[<-iF xs.length cur]
  rw[hx]
 generalize cur.drop xs.length=r at hc;subst hc;unfold splice;have e1:(xs++r).take k=xs.take k:=gB (by omega);rw[e1,<-dB,gB (by simp;omega)];exact aL (by simp;omega)
@[go_sem]theorem ano(w:au)(ob:Obj)(x y:Bk):
 (Kw (.pointer (some ⟨w.heap.size+1,0,none⟩)) (.agg x.aA)).run aj ((w.alloc ob).alloc (.cells y.aA 62))=.ok () ((w.alloc ob).alloc (.cells x.aA 62)):=by
 have:=YI (w.alloc ob) x y
 rwa [show(w.alloc ob).heap.size=w.heap.size+1 by simp]at this
def Js(l m:List Bk)(i:Nat):Bool:=SH (l.getD i jo) (m.getD i jo)
def Jt(l m:List Bk):Bool:=decide (l.length=m.length)&&(dW l.length).all (Js l m)
theorem adU(args:Array aC)(w:au):(callFunc 124 args).run aj w=.ok (.enter 124 args) w:=by kernel_rfl
theorem YS(p:Nat->Bool)(i:Nat):(dW (i+1)).all p=((dW i).all p&&p i):=by
 rw[List.range_succ,List.all_append];simp
theorem adV(p:Nat->Bool)(i n:Nat)(h:i<n)(hp:p i=false):(dW n).all p=false:=by
 rw[List.all_eq_false];exact⟨i,eH.2 h,by rw[hp];simp⟩
theorem YT(l m:List Bk)(A B:Option aU)(c d:Nat)(w:au)(hR:Gv w w.heap.size A l.length l)(hT:Gv w w.heap.size B m.length m)(hn:l.length<4611686018427387904)(hm:m.length<4611686018427387904):
 aR aj 123 #[.slice A l.length c,.slice B m.length d,.func (.func 124) #[] #[]] w
  (gP w (.bool (Jt l m))):=by
 have hen:=adU;have HR:=ah hR;have HT:=ah hT;clear hR hT;have he:Jt l m=(decide (l.length=m.length)&&(dW l.length).all (Js l m)):=rfl;have HE:=ah he;clear he;by_cases hlm:l.length=m.length;rotate_left
 ·have aOD:((l.length:Int) != (m.length:Int))=true:=by rw[bne_iff_ne];omega
  have hf:Jt l m=false:=by rw[HE.out];simp[hlm]
  have HF:=ah hf;clear hf hlm;go_enter Tryz.func123,Tryz.ntmps123;go_wp2;go_ret;exact⟨by rw[HF.out];rfl,aH _ _⟩
 have HLM:=ah hlm;rw[<-hlm]at HT hm ⊢;clear hlm;obtain⟨n,zC⟩:∃n,n=l.length:=⟨_,rfl⟩
 rw[<-zC]at HR HT hn ⊢;have HN:=ah zC;clear zC hm;have hbn:((n:Int) != (n:Int))=false:=by simp
 go_enter Tryz.func123,Tryz.ntmps123;go_wp2;go_loopw [17] (fun s17 wr=>∃i:Nat,i<=n/\s17=.int .i64 i/\(dW i).all (Js l m)=true/\aN w.heap.size w wr) (fun s17 _=>n-(intOf s17).toNat)
 case atStart=>exact⟨0,by omega,rfl,rfl,aH _ _⟩
 case round=>
  obtain⟨i,wW,rfl,mV,hb⟩:=hrel;have HA:=ah mV;have HB:=ah hb;have jB:=hb.size;clear mV hb;by_cases fP:i<n
  ·have hi:(i:Int)<n:=by omega
   obtain⟨b,o,rfl,Cb,hh,hc⟩:=(HR.out.below HB.out).fE fP;obtain⟨b2,o2,rfl,adW,hh2,VY⟩:=(HT.out.below HB.out).fE fP;have Em:b<wr.heap.size:=by omega
   have Lm:b2<wr.heap.size:=by omega
   have hp:Js l m i=SH (l.getD i jo) (m.getD i jo):=rfl;obtain⟨x,hx⟩:∃x,x=l.getD i jo:=⟨_,rfl⟩
   obtain⟨y,hy⟩:∃y,y=m.getD i jo:=⟨_,rfl⟩
   rw[<-hx]at hc hp;rw[<-hy]at VY hp;have HP:=ah hp;clear hx hy hp Cb adW;have sM:∀K,SH x y=K->∀W,aR aj 124 #[.agg x.aA,.agg y.aA] W fun e w'=>e=.returned (.bool K)/\aN W.heap.size W w':=fun K h W=>by
    have:=akr x y W;rw[h]at this;exact this
   have kF:∀ob uy,aN wr.heap.size wr ((wr.alloc ob).alloc uy):=fun ob uy=>((aH _ _).alloc (ay _) _).alloc (by simp) _
   have ze:=ah kF;clear kF;cases k:SH x y
   ·have hf:Jt l m=false:=by
     rw[HE.out,<-HN.out,adV (Js l m) i n fP (by rw[HP.out,k])];simp
    have HF:=ah hf;have ZB:=ah (sM _ k);clear k sM hf;go_wp2_with (go_at_call 124;refine(ZB.out _).mono ?_;rintro e w1 ⟨rfl,gI⟩;clear hh hc hh2 VY;have qd:=ah gI;clear gI);go_ret;exact⟨by rw[HF.out];rfl,ji HB.out ((ze.out _ _).trans (qd.out.mono (by simp;omega)))⟩
   ·have hy':(dW (i+1)).all (Js l m)=true:=by rw[YS,HA.out,HP.out,k];rfl
    have HY:=ah hy';have ZB:=ah (sM _ k);clear k sM hy';go_wp2_with (go_at_call 124;refine(ZB.out _).mono ?_;rintro e w1 ⟨rfl,gI⟩;clear hh hc hh2 VY;have qd:=ah gI;clear gI);go_roundw
    case rel=>exact⟨i+1,by omega,by go_num,HY.out,ji HB.out ((ze.out _ _).trans (qd.out.mono (by simp;omega)))⟩
    case measure=>simp[intOf]<;>omega
  ·obtain rfl:i=n:=by omega
   have ht:Jt l m=true:=by rw[HE.out,<-HN.out,HA.out];have:=HLM.out;have:=HN.out;simp;omega
   have HTR:=ah ht;clear ht;have hd:decide ((i:Int)<i)=false:=by simp
   go_wp2;go_ret;exact⟨by rw[HTR.out];rfl,HB.out⟩
def abA(v:Int)(l:List Bk)(v':Int)(m:List Bk):Bool:=(v==v')&&Jt l m
theorem abB(l m:List Bk)(v v':Int)(A B:Option aU)(c d:Nat)(w:au)(hR:Gv w w.heap.size A l.length l)(hT:Gv w w.heap.size B m.length m)(hn:l.length<4611686018427387904)(hm:m.length<4611686018427387904):
 aR aj 53 #[.agg #[.int .i64 v,.slice A l.length c],.agg #[.int .i64 v',.slice B m.length d]] w
  (gP w (.bool (abA v l v' m))):=by
 have KD:∀ob uy,aN w.heap.size w ((w.alloc ob).alloc uy):=fun ob uy=>((aH _ _).alloc (ay _) _).alloc (by simp) _
 have vV:=ah KD;clear KD;have HR:=ah (fun ob uy=>((hR.alloc (ay _) ob).alloc (by simp) uy).lF (B':=((w.alloc ob).alloc uy).heap.size) (by simp;omega));have HT:=ah (fun ob uy=>((hT.alloc (ay _) ob).alloc (by simp) uy).lF (B':=((w.alloc ob).alloc uy).heap.size) (by simp;omega));clear hR hT;have he:abA v l v' m=((v==v')&&Jt l m):=rfl;have HE:=ah he;clear he;cases k:v==v'
 ·have HK:=ah k
  go_enter Tryz.func53,Tryz.ntmps53;go_wp2;go_ret;exact⟨by rw[HE.out,HK.out];rfl,vV.out _ _⟩
 ·have HK:=ah k
  go_enter Tryz.func53,Tryz.ntmps53;go_wp2_with (go_at_call 123;refine(YT l m A B c d _ (HR.out _ _) (HT.out _ _) hn hm).mono ?_;rintro e w1 ⟨rfl,gI⟩;have qd:=ah gI;clear gI);go_ret;exact⟨by rw[HE.out,HK.out];rfl,(vV.out _ _).trans (qd.out.mono (by simp;omega))⟩
theorem adX(l:List Bk)(a:aU)(c:Nat)(w:au)(hR:Gv w w.heap.size (some a) l.length l)(hn:l.length<=100000000000):
 aR aj 61 #[.slice (some a) l.length c] w fun e w'=>∃A' c',e=.returned (.slice A' l.length c')/\w'.ownsRow w.heap.size 62 27 (.slice A' l.length c') l.length (dH l)/\aN w.heap.size w w':=by
 have GH:∀W:au,(binOp .eql 30 (.slice (some a) l.length c) (.slice none 0 0)).run aj W=.ok (.bool false) W:=fun W=>by
  simp only[binOp];simp[iW,Tryz.underlying30]
 obtain⟨i0,oz,mZ,nu,Ar⟩:=QC;have wX:(bY jo.aA).cells.size=27:=by simp[Value.cells,Bk.ak]
 have o1:(w.alloc (.cells #[] 62)).ownsRow w.heap.size 62 27 (.slice (some ⟨w.heap.size,0,none⟩) 0 0) 0 []:=
  World.ownsRow_lit w #[] 0 (ay _) (by unfold maxLen;omega) rfl
 have O1:=ah o1;have O2:=ah (hR.alloc (ay _) (.cells #[] 62)).2.1;have UM:=ah (show 0+l.length<=maxLen by unfold maxLen;omega);have UN:=ah (show(0+l.length)*i0.bytes<=140737488355328 from aP (gU (show 0+l.length<=100000000000 by omega) Ar) (by omega));have O3:=ah (show w.heap.size<=(w.alloc (.cells #[] 62)).heap.size by simp);clear o1 hR;go_enter Tryz.func61,Tryz.ntmps61;go_wp2_with (at_builtin;refine jI _ rfl (.tmp 5) (.tmp 6) _ rfl w.heap.size 62 i0 (.agg jo.aA) 27 i0.bytes Tryz.underlying30 oz mZ nu rfl wX (Nat.succ_pos _) (.slice (some ⟨w.heap.size,0,none⟩) 0 0) 0 [] rfl O1.out w.heap.size (some a) l.length c (dH l) rfl O2.out (DJ l) UM.out UN.out O3.out ?_;intro v1 w1 kJ AA yj);obtain⟨A',c',hv,_,_⟩:=jT kJ;subst hv;simp only[bB,dG]at kJ;have hb:=um ((aH w.heap.size w).alloc (ay _) (.cells #[] 62)) AA (ay _) O3.out;go_wp2;go_ret;exact⟨A',c',by simp,kJ,hb⟩
theorem aru{l:List Bk}(hs:Gy l){s:List UInt8}{i:Nat}(hi:i<l.length)(h:nm l i=s):kH l s=i/\sZ l s=true:=by
 have h0:mE (nm l i) s=0:=KE.2 h;have hl:kH l s=i:=aiF (by omega) (fun k hk=>by rw[<-h];exact hs.lt hk hi) (fun _=>by omega);refine⟨hl,?_⟩;unfold sZ;rw[hl];simp[hi,h0]
def abC(l m:List Bk)(i:Nat):Bool:=UG (l.getD i jo) (m.getD i jo)
def VZ(v:Int)(l:List Bk)(v':Int)(m:List Bk):Bool:=(v==v')&&decide (l.length=m.length)&&(dW l.length).all (abC l m)
theorem aku{x y:Nat}(hx:x<18446744073709551616)(hy:y<18446744073709551616):EX x y=decide (agn x=agn y):=by
 rw[cO];simp only[EX,beq_iff_eq,decide_eq_true_eq];constructor
 ·intro h;simp only[agn,h]
 ·intro h;exact agp (adN hx) (adN hy) h
theorem agz:Op.floatEq .f64 0 0=true:=by decide +kernel
theorem anp{x y:Bk}(hx:x.w<18446744073709551616)(hy:y.w<18446744073709551616):SH x y=UG x y:=by
 unfold SH UG ani Bk.Qm;rw[agz,aku hx hy];cases(decide (agn x.w=agn y.w))<;>cases(x.name==y.name)<;>cases(decide (x.jk=y.jk))<;>cases(x.nL==y.nL)<;>cases(decide (x.Gq=y.Gq))<;>cases(x.drain==y.drain)<;>rfl
theorem akv{l m:List Bk}(v v':Int)(hf:∀x∈l,x.ru)(hg:∀x∈m,x.ru):abA v l v' m=VZ v l v' m:=by
 unfold abA VZ Jt;rw[Bool.and_assoc];congr 1;by_cases hlm:l.length=m.length
 ·congr 1
  rw[cO,gH,gH];have key:∀i,i∈dW l.length->Js l m i=abC l m i:=fun i hi=>by
   have hi:=eH.1 hi;unfold Js abC;have h1:l.getD i jo∈l:=by rw[av,aD hi];simp
   have h2:m.getD i jo∈m:=by rw[av,aD (by omega)];simp
   exact anp (hf _ h1).2 (hg _ h2).2
  constructor
  ·intro h i hi;rw[<-key i hi];exact h i hi
  ·intro h i hi;rw[key i hi];exact h i hi
 ·simp[hlm]
theorem agA(v:Int)(l:List Bk):VZ v l v l=true:=by
 unfold VZ abC UG;simp
def V5(f w:Nat):Bool:=decide (f/w%2=1)
theorem anq(f w:Nat)(hf:f<64)(hw:w∈[1,2,4,16]):(bits .and .i64 (f:Int) (w:Int) != 0)=V5 f w:=
 (by decide +kernel:∀f:Fin 64,∀w∈([1,2,4,16]:List Nat),(bits .and .i64 ((f.val:Nat):Int) (w:Int) != 0)=V5 f.val w) ⟨f,hf⟩ w hw
def abD(f:Nat):Bool:=V5 f 2 && !V5 f 16
def abE(p:Int)(f:Nat):Int:=if p=17 then 5 else if p=6 then(if V5 f 4 then 4 else if V5 f 1 then 3 else if abD f then 1 else 2)else 0
def aiJ(s:Int)(f:Nat):Int:=if s=5 then 5 else if s<1\/5<s then 0 else if V5 f 4 then 4 else if s=4 then(if abD f then 1 else 4)else if V5 f 1 then 3 else if s=1/\(V5 f 16 && !V5 f 2)=true then 2 else s
def Ju(n:Int):Int:=if n<0 then 0 else if 1099511627776<n then 1099511627776 else n
section
variable (f w:Nat) (p s n:Int) (W:au)
theorem abF(hf:f<64)(hw:w∈[1,2,4,16]):aR aj 208 #[.int .i64 f,.int .i64 w] W fun e W'=>e=.returned (.bool (V5 f w))/\W=W':=by
 have h:=anq f w hf hw;go_enter Tryz.func208,Tryz.ntmps208;go_wp2;go_ret;exact⟨by rw[<-h];rfl,rfl⟩
theorem ZO(hf:f<64):aR aj 209 #[.int .i64 f] W fun e W'=>e=.returned (.bool (abD f))/\W=W':=by
 go_enter Tryz.func209,Tryz.ntmps209;go_wp2_with (go_at_call 208;refine(abF f _ _ hf (by simp)).mono ?_;rintro e w' ⟨rfl,rfl⟩)
 all_goals(go_ret;refine⟨?_,rfl⟩;simp_all[abD])
theorem akw(hf:f<64):aR aj 138 #[.int .i64 p,.int .i64 f] W fun e W'=>e=.returned (.int .i64 (abE p f))/\W=W':=by
 go_enter Tryz.func138,Tryz.ntmps138;go_wp2_with (first|(go_at_call 208;refine(abF f _ _ hf (by simp)).mono ?_;rintro e w' ⟨rfl,rfl⟩)|(go_at_call 209;refine(ZO f _ hf).mono ?_;rintro e w' ⟨rfl,rfl⟩))
 all_goals(go_ret;refine⟨?_,rfl⟩;simp_all[abE])
theorem anr(hf:f<64):aR aj 139 #[.int .i64 s,.int .i64 f] W fun e W'=>e=.returned (.int .i64 (aiJ s f))/\W=W':=by
 go_enter Tryz.func139,Tryz.ntmps139;go_wp2_with (first|(go_at_call 208;refine(abF f _ _ hf (by simp)).mono ?_;rintro e w' ⟨rfl,rfl⟩)|(go_at_call 209;refine(ZO f _ hf).mono ?_;rintro e w' ⟨rfl,rfl⟩))
 all_goals(go_ret;refine⟨?_,rfl⟩;simp_all[aiJ]<;>omega)
theorem adY:aR aj 217 #[.int .i64 n] W fun e W'=>e=.returned (.int .i64 (Ju n))/\W=W':=by
 go_enter Tryz.func217,Tryz.ntmps217;go_wp2
 all_goals(go_ret;refine⟨?_,rfl⟩;simp_all[Ju]<;>(repeat' split)<;>omega)
end
def lI(n:Nat):Bool:=decide (2<=n)&&(dW n).all fun d=>decide (d<2)||decide (n<d*d)||decide (n%d≠0)
theorem KI{n:Nat}(h:lI n=true){d:Nat}(h2:2<=d)(hd:d*d<=n):n%d≠0:=by
 unfold lI at h;simp only[bl,gH,eH,nE,decide_eq_true_eq]at h;have fP:d<n:=by have:=cZ d h2;omega
 rcases h.2 d fP with(h|h)|h<;>omega
theorem xD{n:Nat}(h:lI n=true):2<=n:=by
 unfold lI at h;simp at h;exact h.1
theorem agB{n g:Nat}(h:lI n=true)(hg:g∣n)(h2:2<=g):g=n:=by
 obtain⟨q,rfl⟩:=hg;rcases bf q 2 with hq|hq
 ·rcases q with _|_|q
  ·have:=xD h;omega
  ·omega
  ·omega
 ·exfalso
  rcases Nat.le_total g q with hle|hle
  ·exact KI h h2 (Nat.mul_le_mul_left g hle) (Nat.mul_mod_right g q)
  ·exact KI h hq (cZ q hle) (Nat.mul_mod_left g q)
theorem V6{n s:Nat}(h:lI n=true)(h1:1<=s)(h2:s<n):Nat.Coprime n s:=by
 have hg:=Nat.gcd_dvd_left n s;have hs:=Nat.gcd_dvd_right n s;have EO:0<Nat.gcd n s:=Nat.gcd_pos_of_pos_right n h1;rcases bf (Nat.gcd n s) 2 with hc|hc
 ·show Nat.gcd n s=1;omega
 ·have:=agB h hg hc
  have:=Nat.le_of_dvd h1 hs;omega
def rO(o s n i:Nat):Nat:=(o+i*s)%n
theorem agC{o s n i j:Nat}(h:lI n=true)(h1:1<=s)(h2:s<n)(hi:i<j)(hj:j<n)(e:rO o s n i=rO o s n j):False:=by
 unfold rO at e;have hd:n∣(j-i)*s:=by
  have:n∣(o+j*s)-(o+i*s):=Nat.dvd_of_mod_eq_zero (Nat.sub_mod_eq_zero_of_mod_eq e.symm)
  rwa [Nat.add_sub_add_left,<-Nat.mul_sub_right_distrib]at this
 have:=(V6 h h1 h2).dvd_of_dvd_mul_right hd;have:=Nat.le_of_dvd (by omega) this;omega
theorem adZ:∀(l m:List Nat),l.Nodup->(∀x∈l,x∈m)->l.length<=m.length
 | [],m,_,_=>Nat.zero_le _
 | x::l,m,hn,hs=>by
   have hx:=hs x (by simp);rw[List.nodup_cons]at hn;have:=adZ l (m.erase x) hn.2 (fun y hy=>(List.mem_erase_of_ne (fun e=>hn.1 (by rw[<-e];exact hy))).2 (hs y (by simp[hy])));rw[List.length_erase_of_mem hx]at this;have:=List.length_pos_of_mem hx;simp;omega
theorem V7{o s n:Nat}(h:lI n=true)(h1:1<=s)(h2:s<n){j:Nat}(hj:j<n):∃i,i<n/\rO o s n i=j:=by
 have hn:0<n:=by omega
 by_cases hc:j∈(dW n).map (rO o s n)
 ·obtain⟨i,hi,e⟩:=iQ.1 hc
  exact⟨i,eH.1 hi,e⟩
 ·exfalso
  have hnd:((dW n).map (rO o s n)).Nodup:=by
   rw[List.Nodup,List.pairwise_map];refine List.Pairwise.imp_of_mem ?_ (List.pairwise_lt_range (n:=n));intro a b ha hb EH e;exact agC h h1 h2 EH (eH.1 hb) e
  have:=adZ (j::(dW n).map (rO o s n)) (dW n) (List.nodup_cons.2 ⟨hc,hnd⟩) (by
   intro x hx;rcases bD.1 hx with rfl|hx
   ·exact eH.2 hj
   ·obtain⟨i,_,rfl⟩:=iQ.1 hx
    exact eH.2 (fD _ hn))
  simp at this;omega
theorem QF{o s n i:Nat}(h:0<n):rO o s n i<n:=fD _ h
structure Mg where
 cr:List Nat
 sl:List Int
 left:Nat
def rY(sl:List Int)(j:Nat):Bool:=decide (sl.getD j 0 = -1)
def ff(sl:List Int)(ch:Nat->Nat)(n:Nat):Nat:=((dW n).find? fun k=>rY sl (ch k)).getD 0
def sO(g n:Nat)(q:List Nat)(ch:Nat->Nat->Nat)(m:Mg)(i:Nat):Mg:=
 if m.cr.getD i 0+q.getD i 0<g then{m with cr:=m.cr.set i (m.cr.getD i 0+q.getD i 0)}
 else⟨m.cr.set i (m.cr.getD i 0+q.getD i 0-g),m.sl.set (ch i (ff m.sl (ch i) n)) i,m.left-1⟩
def jN(g n:Nat)(q:List Nat)(ch:Nat->Nat->Nat):Nat->Mg
 | 0=>⟨q.map fun _=>0,dU n (-1),n⟩
 | j+1=>sO g n q ch (jN g n q ch j) (j%q.length)
def Jv(sl:List Int):Nat:=sl.countP fun x=>decide (x = -1)
theorem aun{sl:List Int}{ch:Nat->Nat}{n:Nat}(h:∃k,k<n/\rY sl (ch k)=true):ff sl ch n<n/\rY sl (ch (ff sl ch n))=true/\∀k,k<ff sl ch n->rY sl (ch k)=false:=by
 unfold ff;cases hf:(dW n).find? fun k=>rY sl (ch k)with
 | none=>
   obtain⟨k,hk,YU⟩:=h;rw[List.find?_eq_none]at hf;exact absurd YU (hf k (eH.2 hk))
 | some k=>
   obtain⟨h1,u1,bs,h2,h3⟩:=List.find?_eq_some_iff_append.1 hf;have hk:u1.length=k/\k<n:=by
    have e1:(dW n)[u1.length]? = some k:=by rw[h2];simp
    rw[xq]at e1
    ·have hl:u1.length<n:=by have:=congrArg List.length h2;simp at this;omega
     simp at e1;omega
    ·have:=congrArg List.length h2;simp at this;omega
   refine⟨hk.2,h1,fun j hj=>?_⟩;simp only[jy]at hj;have e1:(dW n)[j]? = some j:=by rw[xq (by omega)]
   rw[h2,mP (by omega)]at e1;have:=h3 j (List.mem_of_getElem? e1);simpa using this
theorem QG:∀(sl:List Int)(j:Nat)(v:Int),rY sl j=true->j<sl.length->v≠-1->Jv (sl.set j v)+1=Jv sl
 | [],j,v,_,h,_=>by simp at h
 | a::sl,0,v,h,_,hv=>by
   have:a = -1:=by simpa[rY]using h
   subst this;simp[Jv,hv]
 | a::sl,j+1,v,h,hj,hv=>by
   have:=QG sl j v (by simpa[rY]using h) (by simpa using hj) hv;simp only[Jv,bH,List.countP_cons]at this ⊢;omega
theorem ZU:∀(sl:List Int),0<Jv sl->∃j,j<sl.length/\rY sl j=true
 | [],h=>by simp[Jv]at h
 | a::sl,h=>by
   by_cases ha:a = -1
   ·exact⟨0,by simp,by simp[rY,ha]⟩
   ·obtain⟨j,h1,h2⟩:=ZU sl (by simpa[Jv,List.countP_cons,ha]using h)
    exact⟨j+1,by simpa using h1,by simpa[rY]using h2⟩
structure agD(n:Nat)(q:List Nat)(m:Mg):Prop where
 crl:m.cr.length=q.length
 sll:m.sl.length=n
 fr:Jv m.sl=m.left
 rng:∀j,j<n->m.sl.getD j 0 = -1\/∃i,i<q.length/\m.sl.getD j 0=(i:Int)
def ad0(n k:Nat)(ch:Nat->Nat->Nat):Prop:=∀i,i<k->(∀t,ch i t<n)/\∀j,j<n->∃t,t<n/\ch i t=j
theorem agD.free{n:Nat}{q:List Nat}{ch:Nat->Nat->Nat}{m:Mg}(h:agD n q m)(hf:ad0 n q.length ch)(hl:m.left≠0){i:Nat}(hi:i<q.length):∃k,k<n/\rY m.sl (ch i k)=true:=by
 obtain⟨j,hj,hj2⟩:=ZU m.sl (by rw[h.fr];omega);obtain⟨t,ht,e⟩:=(hf i hi).2 j (by rw[<-h.sll];exact hj);exact⟨t,ht,by rw[e];exact hj2⟩
theorem agD.V8{g n:Nat}{q:List Nat}{ch:Nat->Nat->Nat}{m:Mg}(h:agD n q m)(hf:ad0 n q.length ch)(hl:m.left≠0){i:Nat}(hi:i<q.length):agD n q (sO g n q ch m i):=by
 unfold sO;split
 ·exact⟨by simpa using h.crl,h.sll,h.fr,h.rng⟩
 ·obtain⟨h1,h2,h3⟩:=aun (h.free hf hl hi)
  have fP:=(hf i hi).1 (ff m.sl (ch i) n);have EI:=h.sll;refine⟨by simpa using h.crl,by simpa using h.sll,?_,fun j hj=>?_⟩
  ·have:=QG m.sl _ (i:Int) h2 (by omega) (by omega)
   have:=h.fr;show Jv (m.sl.set _ _)=m.left-1;omega
  ·simp only[av,fG]
   split
   ·rename_i e
    rw[if_pos (by omega)];exact .inr ⟨i,hi,rfl⟩
   ·have:=h.rng j hj
    simpa[av]using this
theorem ad1{g n:Nat}{q:List Nat}{ch:Nat->Nat->Nat}(m:Mg)(i:Nat):(sO g n q ch m i).left<=m.left:=by
 unfold sO;split
 ·exact ay _
 ·exact Nat.sub_le _ _
theorem abG{g n:Nat}{q:List Nat}{ch:Nat->Nat->Nat}(j:Nat):∀d,(jN g n q ch (j+d)).left<=(jN g n q ch j).left
 | 0=>ay _
 | d+1=>aP (ad1 _ _) (abG j d)
theorem abH{g n:Nat}{q:List Nat}{ch:Nat->Nat->Nat}{i0:Nat}(hi:i0<q.length)(hg:q.getD i0 0=g)(m:Nat):(jN g n q ch ((m+1)*q.length)).left<=(jN g n q ch (m*q.length)).left-1:=by
 have h1:(jN g n q ch (m*q.length+i0+1)).left<=(jN g n q ch (m*q.length+i0)).left-1:=by
  have e:(m*q.length+i0)%q.length=i0:=by rw[DC,Nat.mul_add_mod,fM hi]
  show(sO g n q ch _ ((m*q.length+i0)%q.length)).left<=_;rw[e];unfold sO;rw[if_neg (by omega)];exact ay _
 have h2:=abG (g:=g) (n:=n) (q:=q) (ch:=ch) (m*q.length) i0;have h3:=abG (g:=g) (n:=n) (q:=q) (ch:=ch) (m*q.length+i0+1) (q.length-i0-1);rw[show m*q.length+i0+1+(q.length-i0-1)=(m+1)*q.length by rw[Nat.add_mul];omega]at h3;omega
theorem arv{g n:Nat}{q:List Nat}{ch:Nat->Nat->Nat}{i0:Nat}(hi:i0<q.length)(hg:q.getD i0 0=g):∃K,(jN g n q ch K).left=0/\∀j,j<K->(jN g n q ch j).left≠0:=by
 have h:∀m,(jN g n q ch (m*q.length)).left<=n-m:=by
  intro m
  induction m with
  | zero=>simp[jN]
  | succ m ih=>have:=abH (n:=n) (ch:=ch) hi hg m;omega
 have hk:(jN g n q ch (n*q.length)).left=0:=by have:=h n;omega
 have:∀k,(∃j,j<=k/\(jN g n q ch j).left=0)->∃K,(jN g n q ch K).left=0/\∀j,j<K->(jN g n q ch j).left≠0:=by
  intro k
  induction k with
  | zero=>rintro⟨j,hj,h0⟩;obtain rfl:j=0:=by omega
          exact⟨0,h0,fun j h=>by omega⟩
  | succ k ih=>
    rintro⟨j,hj,h0⟩;by_cases hc:∃j,j<=k/\(jN g n q ch j).left=0
    ·exact ih hc
    ·exact⟨j,h0,fun t ht e=>hc ⟨t,by omega,e⟩⟩
 exact this _ ⟨_,ay _,hk⟩
theorem ant{g n:Nat}{q:List Nat}{ch:Nat->Nat->Nat}(hq:0<q.length)(hf:ad0 n q.length ch):∀j,(∀t,t<j->(jN g n q ch t).left≠0)->agD n q (jN g n q ch j)
 | 0,_=>⟨by simp[jN],by simp[jN],by simp[jN,Jv,List.countP_replicate],fun j hj=>.inl (by simp[jN,av,hj])⟩
 | j+1,h=>(ant hq hf j fun t ht=>h t (by omega)).V8 hf (h j (by omega)) (fD _ hq)
theorem ad2(n:Int):0<=Ju n/\Ju n<=1099511627776:=by unfold Ju;(repeat' split)<;>omega
theorem anu{P:eF}{f:FuncId}{args:Array aC}{w:au}{n:Nat}{v:aC}(h:aR P f args (w.drewN n) fun e w'=>e=.returned v/\w.drewN n=w'):aR P f args (w.drewN n) fun e w''=>e=.returned v/\∃m,w''=w.drewN m:=
 h.mono fun _ _ ⟨he,hm⟩=>⟨he,n,hm.symm⟩
def Lp(v:Vector Int 6):Array aC:=(v.toList.map fun n=>.int .i64 n).toArray
def Ep(s seen now:Int)(v:Vector Int 6):Bool:=decide (s<1\/5<s\/v.toList.getD s.toNat 0<Ju now-Ju seen)
theorem abI(v:Vector Int 6)(k:Nat)(hk:k<6):(Lp v)[k]? = some (.int .i64 (v.toList.getD k 0)):=by
 simp[Lp,av,hk]
theorem aGC(a b:Nat)(ha:a<9223372036854775808):wrap64 ((a:Int)/(b:Int))=((a/b:Nat):Int):=by
 have:=Nat.div_le_self a b;rw[<-Int.natCast_ediv];generalize a/b=q at *;unfold wrap64;omega
section
variable (s seen now:Int) (v:Vector Int 6) (W:au)
theorem akx:aR aj 150 #[.int .i64 s,.int .i64 seen,.int .i64 now,.agg (Lp v)] W (gP W (.bool (Ep s seen now v))):=by
 have HB:=ah ((aH W.heap.size W).alloc (ay _) (.cells (Lp v) 24));have t1:=ah (ad2 now);have t2:=ah (ad2 seen);have C1:=fun W=>adY now W
 have C2:=fun W=>adY seen W
 by_cases hs:s<1\/5<s
 ·have H:=ah (show Ep s seen now v=true by simp[Ep];omega)
  go_enter Tryz.func150,Tryz.ntmps150;go_wp2
  all_goals first|(go_ret;exact⟨by rw[H.out];rfl,HB.out⟩)|(exfalso;simp_all)
 ·obtain⟨k,rfl⟩:∃k:Nat,s=k:=⟨s.toNat,by omega⟩
  have h1:¬(k:Int)<1:=by omega
  have h2:¬(5:Int)<k:=by omega
  have hg:=abI v k (by omega);have hk:(k:Int)<6:=by omega
  have H:=ah (show Ep k seen now v=decide (v.toList.getD k 0<Ju now-Ju seen)from decide_eq_decide.2 ⟨fun h=>(h.resolve_left h1).resolve_left h2,fun h=>.inr (.inr h)⟩);generalize Ju now=p at *;generalize Ju seen=q at *;generalize v.toList.getD k 0=z at *;have hpq:wrap64 (p-q)=p-q:=by have:=t1.out;have:=t2.out;unfold wrap64;omega
  clear hs;go_enter Tryz.func150,Tryz.ntmps150;go_wp2_with fail;go_quiet (first|(go_at_call 217;with_reducible refine anu (C1 _))|(go_at_call 217;with_reducible refine anu (C2 _)));go_wp2;go_ret;exact⟨by rw[H.out];rfl,fI HB.out _⟩
theorem V9{n:Nat}(h:2<=n)(mV:∀e,2<=e->e*e<=n->n%e≠0):lI n=true:=by
 unfold lI;simp only[bl,gH,eH,nE,decide_eq_true_eq];refine⟨h,fun d _=>?_⟩;by_cases h1:d<2
 ·exact .inl (.inl h1)
 ·by_cases h2:n<d*d
  ·exact .inl (.inr h2)
  ·exact .inr (mV d (by omega) (by omega))
theorem ZV(n:Nat)(hn:n<=65537):aR aj 81 #[.int .i64 n] W fun e W'=>e=.returned (.bool (lI n))/\W=W':=by
 go_enter Tryz.func81,Tryz.ntmps81;by_cases h2:n<2
 ·have h2':(n:Int)<2:=by omega
  have hp:=ah (show lI n=false by simp[lI];omega);go_wp2;go_ret;exact⟨by rw[hp.out];rfl,rfl⟩
 have h2':¬(n:Int)<2:=by omega
 go_wp2;go_loop [3] (fun s3=>∃d:Nat,2<=d/\d<=n+1/\s3=.int .i64 d/\∀e,2<=e->e<d->n%e≠0) (fun s3=>n+1-(intOf s3).toNat)
 case atStart=>exact⟨2,by omega,by omega,rfl,fun e h1 h2=>by omega⟩
 case round=>
  obtain⟨d,hd,hdn,rfl,mV⟩:=hrel;have HA:=ah mV;clear mV;have hd0:¬(d:Int)=0:=by omega
  have hq:=aGC n d (by omega);by_cases hle:d*d<=n
  ·have arw:(d:Int)<=((n/d:Nat):Int):=by have:=(Nat.le_div_iff_mul_le (show 0<d by omega)).2 hle;omega
   by_cases hm:n%d=0
   ·have Dg:((n:Int)%(d:Int)==0)=true:=by rw[<-IY,hm];rfl
    have H:=ah (show lI n=false by cases hp:lI n with
     | false=>rfl
     | true=>exact absurd hm (KI hp hd hle))
    clear hle hm;go_wp2;go_ret;exact⟨by rw[H.out];rfl,rfl⟩
   ·have Dg:((n:Int)%(d:Int)==0)=false:=by rw[<-IY,beq_eq_false_iff_ne];omega
    have HL:=ah (show d<n+1 by have:=Nat.le_mul_self d;omega);have HM:=ah hm;clear hle hm;go_wp2;go_round
    case rel=>exact⟨d+1,by omega,by have:=HL.out;omega,by go_num,fun e h1 h2=>by
     rcases bf e d with h|h
     ·exact HA.out e h1 h
     ·rw[show e=d by omega];exact HM.out⟩
    case measure=>have:=HL.out;simp[intOf]<;>omega
  ·have arw:¬(d:Int)<=((n/d:Nat):Int):=by have:=mt (Nat.le_div_iff_mul_le (show 0<d by omega)).1 hle;omega
   have H:=ah (show lI n=true from V9 (by omega) fun e h1 h2=>HA.out e h1 (by
    rcases bf e d with h|h
    ·exact h
    ·have:=gU h h;omega))
   clear hle;go_wp2;go_ret;exact⟨by rw[H.out];rfl,rfl⟩
theorem abJ(n:Nat)(hn:n<=65537):aR aj 69 #[.int .i64 n] W fun e W'=>e=.returned (.bool (lI n))/\W=W':=by
 go_enter Tryz.func69,Tryz.ntmps69;by_cases h2:n<2
 ·have h2':(n:Int)<2:=by omega
  have hp:=ah (show lI n=false by simp[lI];omega);go_wp2;go_ret;exact⟨by rw[hp.out];rfl,rfl⟩
 have h2':¬(n:Int)<2:=by omega
 go_wp2;go_loop [3] (fun s3=>∃d:Nat,2<=d/\d<=n+1/\s3=.int .i64 d/\∀e,2<=e->e<d->n%e≠0) (fun s3=>n+1-(intOf s3).toNat)
 case atStart=>exact⟨2,by omega,by omega,rfl,fun e h1 h2=>by omega⟩
 case round=>
  obtain⟨d,hd,hdn,rfl,mV⟩:=hrel;have HA:=ah mV;clear mV;have hd0:¬(d:Int)=0:=by omega
  have hq:wrap64 ((d:Int)*(d:Int))=((d*d:Nat):Int):=by
   have h1:d*d<=4295229444:=aP (gU (show d<=65538 by omega) (show d<=65538 by omega)) (by decide);rw[<-Int.natCast_mul];generalize d*d=q at h1 ⊢;unfold wrap64;omega
  by_cases hle:d*d<=n
  ·have arw:((d*d:Nat):Int)<=(n:Int):=by omega
   by_cases hm:n%d=0
   ·have Dg:((n:Int)%(d:Int)==0)=true:=by rw[<-IY,hm];rfl
    have H:=ah (show lI n=false by cases hp:lI n with
     | false=>rfl
     | true=>exact absurd hm (KI hp hd hle))
    clear hle hm;go_wp2;go_ret;exact⟨by rw[H.out];rfl,rfl⟩
   ·have Dg:((n:Int)%(d:Int)==0)=false:=by rw[<-IY,beq_eq_false_iff_ne];omega
    have HL:=ah (show d<n+1 by have:=Nat.le_mul_self d;omega);have HM:=ah hm;clear hle hm;go_wp2;go_round
    case rel=>exact⟨d+1,by omega,by have:=HL.out;omega,by go_num,fun e h1 h2=>by
     rcases bf e d with h|h
     ·exact HA.out e h1 h
     ·rw[show e=d by omega];exact HM.out⟩
    case measure=>have:=HL.out;simp[intOf]<;>omega
  ·have arw:¬((d*d:Nat):Int)<=(n:Int):=by omega
   have H:=ah (show lI n=true from V9 (by omega) fun e h1 h2=>HA.out e h1 (by
    rcases bf e d with h|h
    ·exact h
    ·have:=gU h h;omega))
   clear hle;go_wp2;go_ret;exact⟨by rw[H.out];rfl,rfl⟩
end
section
variable {α κ:Type} [DecidableEq κ] (kf:α->κ) (hm:κ->Nat)
def zf(N z c:Nat):Nat:=(z+c)%N
theorem Ch{N z c:Nat}(h:0<N):zf N z c<N:=fD _ h
theorem wY{N a:Nat}(h:a<2*N):a%N=if a<N then a else a-N:=by
 split
 ·exact fM ‹_›
 ·rw[Nat.mod_eq_sub_mod (by omega),fM (by omega)]
theorem ME{N z c:Nat}(hz:z<N)(hc:c<N):zf N z c=if z+c<N then z+c else z+c-N:=wY (by omega)
def zh(N z i:Nat):Nat:=if z<=i then i-z else i+N-z
theorem Ci{N z i:Nat}(hz:z<N)(hi:i<N):zh N z i<N:=by unfold zh;split<;>omega
theorem wZ{N z i:Nat}(hz:z<N)(hi:i<N):zf N z (zh N z i)=i:=by
 rw[ME hz (Ci hz hi)];unfold zh;split<;>split<;>omega
theorem Oe{N z c:Nat}(hz:z<N)(hc:c<N):zh N z (zf N z c)=c:=by
 rw[ME hz hc];unfold zh;split<;>split<;>omega
theorem KJ{N z c d:Nat}(hz:z<N)(hc:c<N)(hd:d<N)(h:zf N z c=zf N z d):c=d:=by
 rw[<-Oe hz hc,<-Oe hz hd,h]
def fE(s:List (Option α))(i:Nat):Option α:=s.getD i none
theorem GI(s:List (Option α))(i j:Nat)(v:Option α)(hi:i<s.length):fE (s.set i v) j=if i=j then v else fE s j:=by
 unfold fE;rw[av,av,fG];by_cases h:i=j
 ·subst h;simp[hi]
 ·simp[h]
def Lin(s:List (Option α))(z:Nat):Prop:=∀c x,c<s.length->fE s (zf s.length z c)=some x ->
 zh s.length z (hm (kf x))<=c/\∀q,zh s.length z (hm (kf x))<=q->q<c->fE s (zf s.length z q)≠none
structure Tab(s:List (Option α)):Prop where
 hom:∀k,hm k<s.length
 lin:∃z,z<s.length/\fE s z=none/\Lin kf hm s z
 uni:∀i j x y,i<s.length->j<s.length->fE s i=some x->fE s j=some y->kf x=kf y->i=j
def stops(s:List (Option α))(k:κ)(i:Nat):Bool:=match fE s i with|none=>true|some x=>decide (kf x=k)
variable {kf hm} {s:List (Option α)}
theorem Lin.avZ(h0:∀k,hm k<s.length){z z':Nat}(hz:z<s.length)(hf:fE s z=none)(h:Lin kf hm s z)(hz':z'<s.length)(hf':fE s z'=none):Lin kf hm s z':=by
 intro c x hc hx;have hi:=Ch (N:=s.length) (z:=z') (c:=c) (by omega);generalize hI:zf s.length z' c=i at hx hi;have VY:c=zh s.length z' i:=by rw[<-hI,Oe hz' hc]
 subst VY;have hh:=h0 (kf x);obtain⟨h1,h2⟩:=h (zh s.length z i) x (Ci hz hi) (by rw[wZ hz hi];exact hx);have pY:i≠z':=by rintro rfl;rw[hf']at hx;cases hx
 have uU:¬(zh s.length z (hm (kf x))<=zh s.length z z'/\zh s.length z z'<zh s.length z i):=fun⟨a,b⟩=>
  h2 _ a b (by rw[wZ hz hz'];exact hf')
 have aGD:i≠z:=by rintro rfl;rw[hf]at hx;cases hx
 generalize hm (kf x)=y at *;have e1:zh s.length z' y<=zh s.length z' i:=by
  revert uU h1
  unfold zh
  repeat' split
  all_goals omega
 refine⟨e1,fun q hq1 hq2=>?_⟩;have hqN:q<s.length:=Nat.lt_trans hq2 (Ci hz' hi);have hj:=Ch (N:=s.length) (z:=z') (c:=q) (by omega);generalize hJ:zf s.length z' q=j at hj;have hq3:q=zh s.length z' j:=by rw[<-hJ,Oe hz' hqN]
 subst hq3
 have:=h2 (zh s.length z j) (by revert uU h1 hq1 hq2;unfold zh;repeat' split
                                all_goals omega) (by revert uU h1 hq1 hq2;unfold zh;repeat' split
                                                     all_goals omega)
 rwa [wZ hz hj]at this
def Found(hm:κ->Nat)(kf:α->κ)(s:List (Option α))(k:κ)(d:Nat):Prop:=d<s.length/\stops (kf:=kf) s k ((hm k+d)%s.length)=true/\∀t,t<d->stops (kf:=kf) s k ((hm k+t)%s.length)=false
theorem Og{N z y q:Nat}(hz:z<N)(hy:y<N)(h1:zh N z y<=q)(hq:q<N):zf N z q=(y+(q-zh N z y))%N:=by
 rw[ME hz hq,wY (by unfold zh at *;split at h1<;>omega)];unfold zh at *
 repeat' split
 all_goals(try split at h1)
 all_goals omega
theorem Tab.abK(h:Tab kf hm s){k:κ}{j:Nat}{x:α}(hj:j<s.length)(hx:fE s j=some x)(hk:kf x=k):∃d,Found hm kf s k d/\(hm k+d)%s.length=j:=by
 obtain⟨z,hz,hf,hl⟩:=h.lin;obtain⟨h1,h2⟩:=hl (zh s.length z j) x (Ci hz hj) (by rw[wZ hz hj];exact hx);rw[hk]at h1 h2;have hy:=h.hom k;have hcj:=Ci hz hj;have ej:(hm k+(zh s.length z j-zh s.length z (hm k)))%s.length=j:=by rw[<-Og hz hy h1 hcj,wZ hz hj]
 refine⟨zh s.length z j-zh s.length z (hm k),⟨by omega,?_,fun t ht=>?_⟩,ej⟩
 ·rw[ej];simp[stops,hx,hk]
 ·have hq:zh s.length z (hm k)+t<zh s.length z j:=by omega
  have:=h2 (zh s.length z (hm k)+t) (by omega) hq;have e:=Og hz hy (q:=zh s.length z (hm k)+t) (by omega) (by omega);rw[show zh s.length z (hm k)+t-zh s.length z (hm k)=t by omega]at e;rw[e]at this;cases hw:fE s ((hm k+t)%s.length)with
  | none=>exact absurd hw this
  | some y=>
    simp only[stops,hw,decide_eq_false_iff_not];intro hky;have fP:(hm k+t)%s.length<s.length:=fD _ (by omega);have:=h.uni _ _ _ _ fP hj hw hx (by rw[hky,hk]);rw[<-e,<-wZ hz hj]at this;have:=KJ hz (by omega) hcj this;omega
theorem Tab.aiK(h:Tab kf hm s){k:κ}(uU:∀j x,j<s.length->fE s j=some x->kf x≠k):∃d,Found hm kf s k d/\fE s ((hm k+d)%s.length)=none:=by
 obtain⟨z,hz,hf,hl⟩:=h.lin;have hy:=h.hom k;have hN:0<s.length:=by omega
 have st:∀i,i<s.length->(stops (kf:=kf) s k i=true↔fE s i=none):=by
  intro i hi;unfold stops;cases hw:fE s i with
  | none=>simp
  | some x=>simpa using uU i x hi hw
 have ex:∃d,d<s.length/\stops (kf:=kf) s k ((hm k+d)%s.length)=true:=by
  have hd:(hm k+(if hm k<=z then z-hm k else z+s.length-hm k))%s.length=z:=by
   rw[wY (by split<;>omega)];repeat' split
   all_goals omega
  refine⟨if hm k<=z then z-hm k else z+s.length-hm k,by split<;>omega,?_⟩;rw[hd,st z hz];exact hf
 have least:∀n,(∃d,d<n/\d<s.length/\stops (kf:=kf) s k ((hm k+d)%s.length)=true)->∃d,d<s.length/\stops (kf:=kf) s k ((hm k+d)%s.length)=true/\∀t,t<d->stops (kf:=kf) s k ((hm k+t)%s.length)=false:=by
  intro n
  induction n with
  | zero=>rintro⟨d,hd,_⟩;omega
  | succ n ih=>
    rintro⟨d,hd,hd2,hd3⟩;by_cases hc:∃d,d<n/\d<s.length/\stops (kf:=kf) s k ((hm k+d)%s.length)=true
    ·exact ih hc
    ·refine⟨d,hd2,hd3,fun t ht=>?_⟩
     cases hs:stops (kf:=kf) s k ((hm k+t)%s.length)with
     | false=>rfl
     | true=>exact absurd ⟨t,by omega,by omega,hs⟩ hc
 obtain⟨d,hd⟩:=ex;obtain⟨e,e1,e2,e3⟩:=least s.length ⟨d,hd.1,hd.1,hd.2⟩;exact⟨e,⟨e1,e2,e3⟩,(st _ (fD _ hN)).1 e2⟩
theorem Found.IL{k:κ}{d e:Nat}(h:Found hm kf s k d)(g:Found hm kf s k e):d=e:=by
 rcases Nat.lt_trichotomy d e with h1|h1|h1
 ·have:=g.2.2 d h1;rw[h.2.1]at this;cases this
 ·exact h1
 ·have:=h.2.2 e h1;rw[g.2.1]at this;cases this
theorem Tab.found(h:Tab kf hm s)(k:κ):∃d,Found hm kf s k d:=by
 by_cases hc:∃j x,j<s.length/\fE s j=some x/\kf x=k
 ·obtain⟨j,x,h1,h2,h3⟩:=hc
  obtain⟨d,hd,_⟩:=h.abK h1 h2 h3;exact⟨d,hd⟩
 ·obtain⟨d,hd,_⟩:=h.aiK (k:=k) (fun j x h1 h2 h3=>hc ⟨j,x,h1,h2,h3⟩)
  exact⟨d,hd⟩
theorem Tab.put(h:Tab kf hm s){x:α}{d:Nat}(hd:Found hm kf s (kf x) d){z':Nat}(hz':z'<s.length)(Oh:fE s z'=none)(pY:z'≠(hm (kf x)+d)%s.length):
 Tab kf hm (s.set ((hm (kf x)+d)%s.length) (some x)):=by
 obtain⟨z,hz,hf,hl⟩:=h.lin;have hl:=hl.avZ h.hom hz hf hz' Oh;have hy:=h.hom (kf x);have hN:0<s.length:=by omega
 have hj:(hm (kf x)+d)%s.length<s.length:=fD _ hN;have aLl:=hd.2.1;have aGE:=hd.2.2;have YV:=hd.1;generalize hJ:(hm (kf x)+d)%s.length=j at *;refine⟨by simpa using h.hom,⟨z',by simpa using hz',by rw[GI _ _ _ _ hj,if_neg (jm pY)];exact Oh,?_⟩,?_⟩
 ·intro c y hc hyc
  simp only[aW]at hc hyc ⊢;have aup:∀q,fE s (zf s.length z' q)≠none->fE (s.set j (some x)) (zf s.length z' q)≠none:=by
   intro q hq;rw[GI _ _ _ _ hj];split
   ·simp
   ·exact hq
  rw[GI _ _ _ _ hj]at hyc;split at hyc
  ·rename_i hjc
   injection hyc with hyc;subst hyc
   have hcj:c=zh s.length z' j:=by rw[hjc,Oe hz' hc]
   have auq:∀t,t<d->fE s ((hm (kf x)+t)%s.length)≠none:=by
    intro t ht hn;have:=aGE t ht;simp[stops,hn]at this
   have hzd:∀t,t<=d->(hm (kf x)+t)%s.length≠z':=by
    intro t ht e;rcases bf t d with h1|h1
    ·exact auq t h1 (by rw[e];exact Oh)
    ·have:t=d:=by omega
     subst this;rw[hJ]at e;exact pY e.symm
   have hle:zh s.length z' (hm (kf x))+d<s.length:=by
    rcases bf (zh s.length z' (hm (kf x))+d) s.length with h1|h1
    ·exact h1
    ·exfalso
     have fP:=Ci hz' hy;refine hzd (s.length-zh s.length z' (hm (kf x))) (by omega) ?_;rw[wY (by omega)];unfold zh at *
     repeat' split
     all_goals(repeat' split at *)
     all_goals omega
   have e1:zf s.length z' (zh s.length z' (hm (kf x))+d)=j:=by
    rw[Og hz' hy (by omega) hle,<-hJ];congr 2;omega
   have e2:c=zh s.length z' (hm (kf x))+d:=KJ hz' hc hle (by rw[e1,<-hjc]);refine⟨by omega,fun q h1 h2=>aup q ?_⟩;rw[Og hz' hy h1 (by omega)];exact auq _ (by omega)
  ·obtain⟨a,b⟩:=hl c y hc hyc
   exact⟨a,fun q h1 h2=>aup q (b q h1 h2)⟩
 ·intro i k y w hi hk hyi hwk he
  simp only[aW]at hi hk;rw[GI _ _ _ _ hj]at hyi hwk;have key:∀k w,k<s.length->fE s k=some w->kf w=kf x->k=j:=by
   intro k w hk hw he;obtain⟨e,he1,he2⟩:=h.abK hk hw he;have:=he1.IL hd;subst this;rw[<-he2,hJ]
  split at hyi<;>split at hwk
  ·omega
  ·injection hyi with hyi;subst hyi
   have:=key k w hk hwk he.symm;omega
  ·injection hwk with hwk;subst hwk
   have:=key i y hi hyi he;omega
  ·exact h.uni i k y w hi hk hyi hwk he
def iw(s:List (Option α)):List α:=s.filterMap id
theorem zL(s:List (Option α)):∀(i:Nat)(x:α),i<s.length->(iw (s.set i (some x))).Perm (x::iw (s.set i none)):=by
 induction s with
 | nil=>intro i x h;simp at h
 | cons a s ih=>
   intro i x h;cases i with
   | zero=>simp[iw]
   | succ i=>
     have:=ih i x (by simpa using h);cases a with
     | none=>simpa[iw]using this
     | some a=>
       simp only[iw,bH,List.filterMap_cons,id]at this ⊢;exact(this.cons a).trans (List.Perm.swap x a _)
theorem ad3(s:List (Option α))(i:Nat)(hi:i<s.length):s.set i (fE s i)=s:=by
 apply iI;intro j;rw[fG];split
 ·rename_i h;subst h;simp[hi,fE]
 ·rfl
theorem QH(s:List (Option α))(i:Nat)(x:α)(hi:i<s.length)(hx:fE s i=some x):(iw s).Perm (x::iw (s.set i none)):=by
 have:=zL s i x hi
 rwa [<-hx,ad3 s i hi]at this
theorem MF(s:List (Option α))(i:Nat)(x:α)(hi:i<s.length)(hx:fE s i=none):(iw (s.set i (some x))).Perm (x::iw s):=by
 have:=zL s i x hi
 rwa [<-hx,ad3 s i hi]at this
theorem QI{s:List (Option α)}{x:α}:x∈iw s↔∃i,i<s.length/\fE s i=some x:=by
 simp only[iw,List.mem_filterMap,id];constructor
 ·rintro⟨a,h1,rfl⟩
  obtain⟨i,hi,he⟩:=List.mem_iff_getElem.1 h1;exact⟨i,hi,by simp[fE,av,hi,he]⟩
 ·rintro⟨i,hi,he⟩
  refine⟨some x,?_,rfl⟩;rw[<-he];simp only[fE,av,aD hi,jy];exact eO hi
theorem anv(s:List (Option α)):(iw s).length<=s.length:=List.length_filterMap_le _ _
theorem MG(s:List (Option α)):(iw s).length<s.length↔∃i,i<s.length/\fE s i=none:=by
 induction s with
 | nil=>simp[iw]
 | cons a s ih=>
   cases a with
   | none=>exact⟨fun _=>⟨0,by simp,by simp[fE]⟩,fun _=>by have:=anv s;simp[iw]at this⊢;omega⟩
   | some a=>
     have:(iw (some a::s)).length=(iw s).length+1:=by simp[iw]
     rw[this,bC];constructor
     ·intro h
      obtain⟨i,h1,h2⟩:=ih.1 (by omega);exact⟨i+1,by omega,by simpa[fE]using h2⟩
     ·rintro⟨i,h1,h2⟩
      cases i with
      | zero=>simp[fE]at h2
      | succ i=>
        have:=ih.2 ⟨i,by omega,by simpa[fE]using h2⟩;omega
structure YW(kf:α->κ)(hm:κ->Nat)(z:Nat)(s:List (Option α))(a c:Nat)(L:List α):Prop where
 hom:∀k,hm k<s.length
 hz:z<s.length
 free:fE s z=none
 a0:0<a
 ac:a<c
 cN:c<=s.length
 lin:∀e x,e<s.length->e≠a->fE s (zf s.length z e)=some x->zh s.length z (hm (kf x))<=e/\∀q,zh s.length z (hm (kf x))<=q->q<e->(q≠a->fE s (zf s.length z q)≠none)/\(q=a->c<=e)
 ad4:∀q,a<q->q<c->fE s (zf s.length z q)≠none
 uni:∀d e x y,d<s.length->e<s.length->d≠a->e≠a->fE s (zf s.length z d)=some x->fE s (zf s.length z e)=some y->kf x=kf y->d=e
 QJ:(iw (s.set (zf s.length z a) none)).Perm L
theorem Tab.aGG(h:Tab kf hm s){j:Nat}{x:α}(hj:j<s.length)(hx:fE s j=some x):∃z a,YW kf hm z s a (a+1) (iw (s.set j none))/\zf s.length z a=j:=by
 obtain⟨z,hz,hf,hl⟩:=h.lin;have pY:j≠z:=by rintro rfl;rw[hf]at hx;cases hx
 have fP:=Ci hz hj;have ej:=wZ hz hj;refine⟨z,zh s.length z j,⟨h.hom,hz,hf,?_,by omega,by omega,?_,fun q h1 h2=>absurd h1 (by omega),?_,?_⟩,ej⟩
 ·unfold zh;split<;>omega
 ·intro e y he hea hy
  obtain⟨h1,h2⟩:=hl e y he hy;exact⟨h1,fun q h3 h4=>⟨fun _=>h2 q h3 h4,fun h5=>by omega⟩⟩
 ·intro d e y w hd he hda hea hy hw hk
  exact KJ hz hd he (h.uni _ _ y w (Ch (by omega)) (Ch (by omega)) hy hw hk)
 ·rw[ej]
theorem Wd{s:List (Option α)}{z a e:Nat}(hz:z<s.length)(ha:a<s.length)(he:e<s.length)(v:Option α):fE (s.set (zf s.length z a) v) (zf s.length z e)=if a=e then v else fE s (zf s.length z e):=by
 rw[GI _ _ _ _ (Ch (by omega))];by_cases h:a=e
 ·subst h;simp
 ·rw[if_neg h,if_neg (fun e2=>h (KJ hz ha he e2))]
theorem YW.aGH{z a c:Nat}{L:List α}{x:α}(h:YW kf hm z s a c L)(hc:c<s.length)(hx:fE s (zf s.length z c)=some x)(fP:a<zh s.length z (hm (kf x))):YW kf hm z s a (c+1) L:=by
 refine⟨h.hom,h.hz,h.free,h.a0,by have:=h.ac;omega,by omega,?_,?_,h.uni,h.QJ⟩
 ·intro e y he hea hy
  obtain⟨h1,h2⟩:=h.lin e y he hea hy;refine⟨h1,fun q h3 h4=>⟨(h2 q h3 h4).1,fun h5=>?_⟩⟩;have:=(h2 q h3 h4).2 h5;rcases bf c e with h6|h6
  ·omega
  ·have:e=c:=by omega
   subst this;rw[hx]at hy;injection hy with hy;subst hy
   omega
 ·intro q h1 h2
  rcases bf q c with h3|h3
  ·exact h.ad4 q h1 h3
  ·have:q=c:=by omega
   subst this;rw[hx];simp
theorem YW.move{z a c:Nat}{L:List α}{x:α}(h:YW kf hm z s a c L)(hc:c<s.length)(hx:fE s (zf s.length z c)=some x)(hle:zh s.length z (hm (kf x))<=a):YW kf hm z (s.set (zf s.length z a) (some x)) c (c+1) L:=by
 have ha:a<s.length:=by have:=h.ac;omega
 have hac:=h.ac;have hz:=h.hz;have ca:∀e,e<s.length->∀v:Option α,fE (s.set (zf s.length z a) v) (zf s.length z e)=if a=e then v else fE s (zf s.length z e):=fun e he v=>Wd hz ha he v
 have z0:zf s.length z 0=z:=by rw[ME hz (by omega)];split<;>omega
 refine⟨by simpa using h.hom,by simpa using hz,?_,by omega,by omega,by simp;omega,?_,?_,?_,?_⟩
 ·have:=ca 0 (by omega) (some x)
  rw[z0,if_neg (by have:=h.a0;omega)]at this;rw[this];exact h.free
 ·intro e y he hec hy
  simp only[aW]at he hy ⊢;rw[ca e he]at hy;split at hy
  ·rename_i hae
   injection hy with hy;subst hy;subst hae
   refine⟨hle,fun q h3 h4=>⟨fun h5=>?_,fun h5=>by omega⟩⟩;rw[ca q (by omega),if_neg (by omega)];exact((h.lin c x hc (by omega) hx).2 q h3 (by omega)).1 (by omega)
  ·rename_i hae
   obtain⟨h1,h2⟩:=h.lin e y he (jm hae) hy;refine⟨h1,fun q h3 h4=>⟨fun h5=>?_,fun h5=>by omega⟩⟩;rw[ca q (by omega)];split
   ·simp
   ·exact(h2 q h3 h4).1 (by omega)
 ·intro q h1 h2;omega
 ·intro d e y w hd he hda hea hy hw hk
  simp only[aW]at hd he hy hw;rw[ca d hd]at hy;rw[ca e he]at hw;split at hy<;>split at hw
  ·omega
  ·injection hy with hy;subst hy
   have:=h.uni c e x w hc he (by omega) (by omega) hx hw hk;omega
  ·injection hw with hw;subst hw
   have:=h.uni d c y x hd hc (by omega) (by omega) hy hx hk;omega
  ·exact h.uni d e y w hd he (by omega) (by omega) hy hw hk
 ·have h1:=h.QJ
  have hci:=Ch (N:=s.length) (z:=z) (c:=c) (by omega);have hai:=Ch (N:=s.length) (z:=z) (c:=a) (by omega);have pY:zf s.length z a≠zf s.length z c:=fun e=>by have:=KJ hz ha hc e;omega
  simp only[aW];rw[List.set_comm _ _ pY];refine List.Perm.trans (zL _ _ x (by simpa using hai)) ?_;rw[List.set_comm _ _ (jm pY)];refine List.Perm.trans (List.Perm.symm (QH (s.set (zf s.length z a) none) _ x (by simpa using hci) ?_)) h1;rw[ca c hc,if_neg (by omega)];exact hx
theorem YW.done{z a c:Nat}{L:List α}(h:YW kf hm z s a c L)(hc:fE s (zf s.length z c)=none):Tab kf hm (s.set (zf s.length z a) none)/\(iw (s.set (zf s.length z a) none)).Perm L:=by
 have hcN:=h.cN;have hac:=h.ac;have ha:a<s.length:=by omega
 have hz:=h.hz;have ca:∀e,e<s.length->∀v:Option α,fE (s.set (zf s.length z a) v) (zf s.length z e)=if a=e then v else fE s (zf s.length z e):=fun e he v=>Wd hz ha he v
 have z0:zf s.length z 0=z:=by rw[ME hz (by omega)];split<;>omega
 refine⟨⟨by simpa using h.hom,⟨z,by simpa using hz,?_,?_⟩,?_⟩,h.QJ⟩
 ·have:=ca 0 (by omega) none
  rw[z0]at this;rw[this];split
  ·rfl
  ·exact h.free
 ·intro e y he hy
  simp only[aW]at he hy ⊢;rw[ca e he]at hy;split at hy
  ·cases hy
  ·rename_i hae
   obtain⟨h1,h2⟩:=h.lin e y he (jm hae) hy;refine⟨h1,fun q h3 h4=>?_⟩;rw[ca q (by omega)];have hqa:a≠q:=by
    intro hq;have h5:=(h2 q h3 h4).2 hq.symm;rcases bf c e with h6|h6
    ·exact(h2 c (by omega) h6).1 (by omega) hc
    ·have:e=c:=by omega
     subst this;rw[hc]at hy;cases hy
   rw[if_neg hqa];exact(h2 q h3 h4).1 (jm hqa)
 ·intro i k y w hi hk hy hw he
  simp only[aW]at hi hk;rw[<-wZ hz hi,ca _ (Ci hz hi)]at hy;rw[<-wZ hz hk,ca _ (Ci hz hk)]at hw;split at hy
  ·cases hy
  ·split at hw
   ·cases hw
   ·have:=h.uni _ _ y w (Ci hz hi) (Ci hz hk) (by omega) (by omega) hy hw he
    rw[<-wZ hz hi,<-wZ hz hk,this]
theorem ad5{N z c d:Nat}(hz:z<N)(hd:d<=c)(hc:c<N):(zf N z c+N-zf N z d)%N=c-d:=by
 have h1:=Ch (N:=N) (z:=z) (c:=c) (by omega);have h2:=Ch (N:=N) (z:=z) (c:=d) (by omega);rw[wY (by omega)];rw[ME hz hc,ME hz (by omega)]
 repeat' split
 all_goals omega
theorem aky{N z c y:Nat}(hz:z<N)(hy:y<N)(hd:zh N z y<=c)(hc:c<N):(zf N z c+N-y)%N=c-zh N z y:=by
 have:=ad5 hz hd hc
 rwa [wZ hz hy]at this
theorem ad6{N z c:Nat}(hz:z<N)(hc:c<N):(zf N z c+1)%N=zf N z (c+1):=by unfold zf;rw[Nat.mod_add_mod,ny]
theorem Tab.new{N:Nat}(hN:0<N)(h:∀k,hm k<N):Tab kf hm (dU N (none:Option α)):=by
 have e:∀i,fE (dU N (none:Option α)) i=none:=by
  intro i;unfold fE;rw[av,List.getElem?_replicate];split<;>rfl
 refine⟨by simpa using h,⟨0,by simpa using hN,e 0,fun c x _ hx=>?_⟩,fun i j x y _ _ hx=>?_⟩<;>(rw[e]at hx;cases hx)
theorem Wh(N:Nat):iw (dU N (none:Option α))=[]:=by induction N<;>simp_all[iw,List.replicate_succ]
end
section
variable {α:Type} (lt:α->α->Bool)
def Asc(l:List α):Prop:=l.Pairwise fun x y=>lt x y=true
structure Jw:Prop where
 irr:∀x,lt x x=false
 tr:∀x y z,lt x y=true->lt y z=true->lt x z=true
variable {lt}
theorem Jw.asy(h:Jw lt){x y:α}(h1:lt x y=true):lt y x=false:=by
 cases h2:lt y x with
 | false=>rfl
 | true=>have:=h.tr _ _ _ h1 h2;rw[h.irr]at this;cases this
theorem Asc.eq(h:Jw lt):∀{l m:List α},Asc lt l->Asc lt m->l.Perm m->l=m
 | [],m,_,_,p=>(List.Perm.nil_eq p)
 | x::l,[],_,_,p=>by simp at p
 | x::l,y::m,hl,hm,p=>by
   obtain⟨a1,a2⟩:=gL.1 hl;obtain⟨b1,b2⟩:=gL.1 hm;have hx:x∈y::m:=p.subset (by simp);have hy:y∈x::l:=p.symm.subset (by simp);have e:x=y:=by
    rcases bD.1 hx with hx|hx
    ·exact hx
    ·rcases bD.1 hy with hy|hy
     ·exact hy.symm
     ·have:=h.asy (a1 y hy);rw[b1 x hx]at this;cases this
   subst e;rw[Asc.eq h a2 b2 (List.Perm.cons_inv p)]
def ins(lt:α->α->Bool)(f:α):List α->List α
 | []=>[f]
 | x::l=>if lt f x then f::x::l else x::ins lt f l
theorem Cj(f:α):∀l:List α,(ins lt f l).Perm (f::l)
 | []=>.refl _
 | x::l=>by
   unfold ins;split
   ·exact .refl _
   ·exact((Cj f l).cons x).trans (.swap f x l)
theorem aiL(h:Jw lt){f:α}:∀{l:List α},Asc lt l->(∀x∈l,lt f x=true\/lt x f=true)->Asc lt (ins lt f l)
 | [],_,_=>by simp[ins,Asc]
 | x::l,hl,ht=>by
   obtain⟨a1,a2⟩:=gL.1 hl;unfold ins;split
   ·rename_i hfx
    exact gL.2 ⟨fun y hy=>by
     rcases bD.1 hy with rfl|hy
     ·exact hfx
     ·exact h.tr _ _ _ hfx (a1 y hy),hl⟩
   ·rename_i hfx
    have hxf:lt x f=true:=(ht x (by simp)).resolve_left hfx;refine gL.2 ⟨fun y hy=>?_,aiL h a2 fun y hy=>ht y (by simp[hy])⟩;rcases bD.1 ((Cj f l).subset hy)with rfl|hy
    ·exact hxf
    ·exact a1 y hy
theorem ad7{f:α}:∀{l:List α},(∀x∈l,lt f x=false)->ins lt f l=l++[f]
 | [],_=>rfl
 | x::l,h=>by
   unfold ins;rw[if_neg (by rw[h x (by simp)];exact Bool.false_ne_true),ad7 fun y hy=>h y (by simp[hy])];rfl
theorem Asc.sub{l m:List α}(h:Asc lt l)(hs:m.Sublist l):Asc lt m:=List.Pairwise.sublist hs h
theorem Asc.ary{x:α}{l:List α}(h:Asc lt (x::l)){y:α}(hy:y∈l):lt x y=true:=(gL.1 h).1 y hy
def least(lt:α->α->Bool)(b:Option α)(x:α):Option α:=match b with|none=>some x|some y=>if lt x y then some x else some y
theorem ad8(h:Jw lt){m:α}:∀(l:List α)(b:Option α),(m∈l\/b=some m)->(∀x∈l,x=m\/lt m x=true)->(∀y,b=some y->y=m\/lt m y=true)->l.foldl (least lt) b=some m
 | [],b,h1,_,_=>by simpa using h1
 | x::l,b,h1,h2,h3=>by
   rw[jV];refine ad8 h l _ ?_ (fun y hy=>h2 y (by simp[hy])) ?_
   ·rcases h1 with h1|rfl
    ·rcases bD.1 h1 with rfl|h1
     ·right
      cases b with
      | none=>rfl
      | some y=>
        unfold least;rcases h3 y rfl with rfl|h4
        ·simp
        ·simp[h4]
     ·exact .inl h1
    ·right
     unfold least;rcases h2 x (by simp)with rfl|h4
     ·simp
     ·simp[h.asy h4]
   ·intro y hy
    cases b with
    | none=>injection hy with hy;subst hy;exact h2 x (by simp)
    | some z=>
      simp only[least]at hy;split at hy<;>(injection hy with hy;subst hy)
      ·exact h2 x (by simp)
      ·exact h3 z rfl
end
def MH(x k:Nat):Nat:=x*2^k%18446744073709551616 ||| x/2^(64-k)
theorem aAJ(a b:Nat)(ha:a<18446744073709551616)(hb:b<18446744073709551616):a ||| b<18446744073709551616:=Nat.or_lt_two_pow (n:=64) ha hb
theorem yE(a b:Nat)(ha:a<18446744073709551616)(hb:b<18446744073709551616):a ^^^ b<18446744073709551616:=Nat.xor_lt_two_pow (n:=64) ha hb
theorem arz(x k:Nat)(hx:x<18446744073709551616):MH x k<18446744073709551616:=aAJ _ _ (fD _ (by decide)) (Nat.lt_of_le_of_lt (Nat.div_le_self _ _) hx)
theorem ad9(n:Nat):jr.wrap (n:Int)=((n%18446744073709551616:Nat):Int):=by
 rw[jS];omega
theorem akz(x k:Nat)(hx:x<18446744073709551616):bits .or .u64 (jr.wrap ((x:Int)*2^k)) ((x:Int)/2^(64-k))=((MH x k:Nat):Int):=by
 have h1:(x:Int)*2^k=((x*2^k:Nat):Int):=by simp
 have h2:(x:Int)/2^(64-k)=((x/2^(64-k):Nat):Int):=by simp
 rw[h1,h2,ad9,bits_or_u64_nat _ _ (fD _ (by decide)) (Nat.lt_of_le_of_lt (Nat.div_le_self _ _) hx)];rfl
theorem Fe(x k:Nat)(hx:x<18446744073709551616)(hk:k∈[13,16,17,21,32])(W:au):aR aj 254 #[.int .u64 x,.int .i64 k] W fun e W'=>e=.returned (.int .u64 (MH x k:Nat))/\W=W':=by
 have h:=akz x k hx;have H1:bits .and .u64 (k:Int) 63=(k:Int):=(by decide +kernel:∀k∈([13,16,17,21,32]:List Nat),bits .and .u64 (k:Int) 63=(k:Int)) k hk;have H2:jr.wrap (64-(k:Int))=((64-k:Nat):Int):=(by decide +kernel:∀k∈([13,16,17,21,32]:List Nat),jr.wrap (64-(k:Int))=((64-k:Nat):Int)) k hk;have hk1:(k:Int)<64:=by simp at hk;omega
 have YU:0<k:=by simp at hk;omega
 go_enter Tryz.func254,Tryz.ntmps254;go_wp2;go_ret;exact⟨by rw[<-h];rfl,rfl⟩
structure S4 where
 a:Nat
 b:Nat
 c:Nat
 d:Nat
def S4.aA(s:S4):Array aC:=#[.int .u64 s.a,.int .u64 s.b,.int .u64 s.c,.int .u64 s.d]
@[go_sem]theorem S4.qH(s:S4):s.aA[0]? = some (.int .u64 s.a):=rfl
@[go_sem]theorem S4.Il(s:S4):s.aA[1]? = some (.int .u64 s.b):=rfl
@[go_sem]theorem S4.Zu(s:S4):s.aA[2]? = some (.int .u64 s.c):=rfl
@[go_sem]theorem S4.aiM(s:S4):s.aA[3]? = some (.int .u64 s.d):=rfl
def S4.ok(s:S4):Prop:=s.a<18446744073709551616/\s.b<18446744073709551616/\s.c<18446744073709551616/\s.d<18446744073709551616
def addN(a b:Nat):Nat:=(a+b)%18446744073709551616
def Lr(s:S4):S4:=
 let a:=addN s.a s.b
 let b:=MH s.b 13 ^^^ a
 let a:=MH a 32
 let c:=addN s.c s.d
 let d:=MH s.d 16 ^^^ c
 let a:=addN a d
 let d:=MH d 21 ^^^ a
 let c:=addN c b
 let b:=MH b 17 ^^^ c
 ⟨a,b,MH c 32,d⟩
theorem arA(a b:Nat):addN a b<18446744073709551616:=fD _ (by decide)
theorem GJ(a b:Nat):jr.wrap ((a:Int)+(b:Int))=((addN a b:Nat):Int):=by rw[<-Int.natCast_add,ad9];rfl
theorem pV(a b:Nat)(ha:a<18446744073709551616)(hb:b<18446744073709551616):bits .xor .u64 (a:Int) (b:Int)=((a ^^^ b:Nat):Int):=bits_xor_u64_nat _ _ ha hb
theorem ZW(s:S4)(h:s.ok):∃a1 b1 a2 c1 d1 a3 d2 c2 b2 c3 r13 r16 r21 r17:Nat,Lr s=⟨a3,b2,c3,d2⟩ /\
 jr.wrap ((s.a:Int)+(s.b:Int))=(a1:Int)/\a1<18446744073709551616/\MH s.b 13=r13/\bits .xor .u64 (r13:Int) (a1:Int)=(b1:Int)/\b1<18446744073709551616/\MH a1 32=a2/\a2<18446744073709551616 /\
 jr.wrap ((s.c:Int)+(s.d:Int))=(c1:Int)/\c1<18446744073709551616/\MH s.d 16=r16/\bits .xor .u64 (r16:Int) (c1:Int)=(d1:Int)/\d1<18446744073709551616 /\
 jr.wrap ((a2:Int)+(d1:Int))=(a3:Int)/\a3<18446744073709551616/\MH d1 21=r21/\bits .xor .u64 (r21:Int) (a3:Int)=(d2:Int)/\d2<18446744073709551616 /\
 jr.wrap ((c1:Int)+(b1:Int))=(c2:Int)/\c2<18446744073709551616/\MH b1 17=r17/\bits .xor .u64 (r17:Int) (c2:Int)=(b2:Int)/\b2<18446744073709551616/\MH c2 32=c3/\c3<18446744073709551616:=by
 obtain⟨h1,h2,h3,h4⟩:=h;have R:=arz;have A:=arA;have X:=yE;refine⟨_,_,_,_,_,_,_,_,_,_,_,_,_,_,rfl,GJ _ _,A _ _,rfl,pV _ _ (R _ _ h2) (A _ _),X _ _ (R _ _ h2) (A _ _),rfl,R _ _ (A _ _),GJ _ _,A _ _,rfl,pV _ _ (R _ _ h4) (A _ _),X _ _ (R _ _ h4) (A _ _),GJ _ _,A _ _,rfl,
  pV _ _ (R _ _ (X _ _ (R _ _ h4) (A _ _))) (A _ _),X _ _ (R _ _ (X _ _ (R _ _ h4) (A _ _))) (A _ _),GJ _ _,A _ _,rfl,pV _ _ (R _ _ (X _ _ (R _ _ h2) (A _ _))) (A _ _),X _ _ (R _ _ (X _ _ (R _ _ h2) (A _ _))) (A _ _),rfl,R _ _ (A _ _)⟩
theorem dL.num{W:au}{p:Nat}{s:S4}(h:dL W p s.aA):W.cell? ⟨p,0,none⟩=some (.int .u64 s.a)/\W.cell? ⟨p,1,none⟩=some (.int .u64 s.b)/\W.cell? ⟨p,2,none⟩=some (.int .u64 s.c)/\W.cell? ⟨p,3,none⟩=some (.int .u64 s.d)/\(∀j,W.frozen? ⟨p,j,none⟩=false):=by
 obtain⟨h1,h2,_⟩:=h.aI;exact⟨h1 0,h1 1,h1 2,h1 3,h2⟩
def Af{α:Type}(f:α->α):Nat->α->α
 | 0,s=>s
 | n+1,s=>Af f n (f s)
theorem aiN{α:Type}(f:α->α)(n:Nat)(s:α):Af f (n+1) s=Af f n (f s):=rfl
theorem aiO{α:Type}(f:α->α)(s:α):Af f 0 s=s:=rfl
theorem aiP(s:S4)(h:s.ok):(Lr s).ok:=by
 obtain⟨a1,b1,a2,c1,d1,a3,d2,c2,b2,c3,r13,r16,r21,r17,h0,e1,l1,e2,e3,l3,e4,l4,e5,l5,e6,e7,l7,e8,l8,e9,e10,l10,e11,l11,e12,e13,l13,e14,l14⟩:=ZW s h;rw[h0];exact⟨l8,l13,l14,l10⟩
theorem aiQ(w:au)(row:Option Nat):w.grownBy w row:=⟨rfl,rfl,rfl,ay _,fun _ _ _=>rfl⟩
theorem dL.p0{W:au}{p a b c d:Nat}(h:dL W p (S4.mk a b c d).aA)(x:Nat):dL (W.setCell ⟨p,0,none⟩ (.int .u64 x)) p (S4.mk x b c d).aA:=h.eG 0 _
theorem dL.p1{W:au}{p a b c d:Nat}(h:dL W p (S4.mk a b c d).aA)(x:Nat):dL (W.setCell ⟨p,1,none⟩ (.int .u64 x)) p (S4.mk a x c d).aA:=h.eG 1 _
theorem dL.p2{W:au}{p a b c d:Nat}(h:dL W p (S4.mk a b c d).aA)(x:Nat):dL (W.setCell ⟨p,2,none⟩ (.int .u64 x)) p (S4.mk a b x d).aA:=h.eG 2 _
theorem dL.p3{W:au}{p a b c d:Nat}(h:dL W p (S4.mk a b c d).aA)(x:Nat):dL (W.setCell ⟨p,3,none⟩ (.int .u64 x)) p (S4.mk a b c x).aA:=h.eG 3 _
theorem agF(n:Nat)(hn:n<=4)(p:Nat)(s:S4)(hs:s.ok)(W:au)(hb:dL W p s.aA):aR aj 183 #[.pointer (some ⟨p,0,none⟩),.int .i64 n] W fun e W'=>e=.returned (.tuple #[])/\dL W' p (Af Lr n s).aA/\W.grownBy W' (some p):=by
 have HB:=ah hb;clear hb;go_enter Tryz.func183,Tryz.ntmps183;go_wp2;go_loopw [5] (fun s5 wr=>∃(k:Nat)(x:S4),k<=n/\s5=.int .i64 k/\x.ok/\dL wr p x.aA/\W.grownBy wr (some p)/\Af Lr n s=Af Lr (n-k) x) (fun s5 _=>n-(intOf s5).toNat)
 case atStart=>exact⟨0,s,by omega,rfl,hs,HB.out,aiQ _ _,by rw[Nat.sub_zero]⟩
 case round=>
  obtain⟨k,x,hk,rfl,hx,hbx,hg,zi⟩:=hrel;have HI:=ah zi;have HG:=ah hg;have HX:=ah hbx;clear hg zi hbx;by_cases fP:k<n
  ·obtain⟨a1,b1,a2,c1,d1,a3,d2,c2,b2,c3,r13,r16,r21,r17,h0,e1,l1,e2,e3,l3,e4,l4,e5,l5,e6,e7,l7,e8,l8,e9,e10,l10,e11,l11,e12,e13,l13,e14,l14⟩:=ZW x hx
   have HE:=ah (show Af Lr n s=Af Lr (n-(k+1)) (Lr x)by rw[HI.out,show n-k=n-(k+1)+1 by omega,aiN]);rw[h0]at HE;have OK:=ah (show(S4.mk a3 b2 c3 d2).ok by rw[<-h0];exact aiP x hx);obtain⟨a,b,c,d⟩:=x;obtain⟨y1,y2,y3,y4,y5⟩:=HX.out.num;obtain⟨k1,k2,k3,k4⟩:=hx;simp only at e1 e2 e3 e4 e5 e6 e7 e8 e9 e10 e11 e12 e13 e14 y1 y2 y3 y4 k1 k2 k3 k4;have Cc:(k:Int)<n:=by omega
   clear h0 HI;go_wp2_with fail;go_region;have X0:=ah ((HX.out.p0 a1).drew);have G0:=ah (Br (yA HG.out (p:=⟨p,0,none⟩) (.inl rfl) (.int .u64 (a1:Nat))));generalize(wr.setCell ⟨p,0,none⟩ (.int .u64 (a1:Nat))).drew=w0 at X0 G0 ⊢;clear y1 y2 y3 y4 y5 HX HG;obtain⟨y1,y2,y3,y4,y5⟩:=X0.out.num;simp only at y1 y2 y3 y4;have C:=ah (fun W=>e2 ▸ Fe b 13 k2 (by simp) W);go_wp2_with fail;go_cut []from 18 to 30 (fun wx=>dL wx p (S4.mk a1 b1 c d).aA/\W.grownBy wx (some p))
   case first=>
    go_region_law (first|(go_simp;(go_at_call 254;refine(C.out _).mono ?_;rintro e w' ⟨rfl,rfl⟩)))
    all_goals
     go_wp2_with fail;go_meet
     case rel=>exact⟨(X0.out.p1 b1).drew,Br (yA G0.out (p:=⟨p,1,none⟩) (.inl rfl) (.int .u64 (b1:Nat)))⟩
   obtain⟨X1,G1⟩:=hcut;have X1:=ah X1;have G1:=ah G1;generalize wc=w1 at X1 G1 ⊢;clear y1 y2 y3 y4 y5 X0 G0;obtain⟨y1,y2,y3,y4,y5⟩:=X1.out.num;simp only at y1 y2 y3 y4;have C:=ah (fun W=>e4 ▸ Fe a1 32 l1 (by simp) W);go_wp2_with (go_at_call 254;refine(C.out _).mono ?_;rintro e w' ⟨rfl,rfl⟩);have X2:=ah ((X1.out.p0 a2));have G2:=ah ((yA G1.out (p:=⟨p,0,none⟩) (.inl rfl) (.int .u64 (a2:Nat))));generalize(w1.setCell ⟨p,0,none⟩ (.int .u64 (a2:Nat)))=w2 at X2 G2 ⊢;clear y1 y2 y3 y4 y5 X1 G1;obtain⟨y1,y2,y3,y4,y5⟩:=X2.out.num;simp only at y1 y2 y3 y4;go_wp2_with fail;go_region;have X3:=ah ((X2.out.p2 c1).drew);have G3:=ah (Br (yA G2.out (p:=⟨p,2,none⟩) (.inl rfl) (.int .u64 (c1:Nat))));generalize(w2.setCell ⟨p,2,none⟩ (.int .u64 (c1:Nat))).drew=w3 at X3 G3 ⊢;clear y1 y2 y3 y4 y5 X2 G2;obtain⟨y1,y2,y3,y4,y5⟩:=X3.out.num;simp only at y1 y2 y3 y4;have C:=ah (fun W=>e6 ▸ Fe d 16 k4 (by simp) W);go_wp2_with fail;go_cut []from 50 to 62 (fun wx=>dL wx p (S4.mk a2 b1 c1 d1).aA/\W.grownBy wx (some p))
   case first=>
    go_region_law (first|(go_simp;(go_at_call 254;refine(C.out _).mono ?_;rintro e w' ⟨rfl,rfl⟩)))
    all_goals
     go_wp2_with fail;go_meet
     case rel=>exact⟨(X3.out.p3 d1).drew,Br (yA G3.out (p:=⟨p,3,none⟩) (.inl rfl) (.int .u64 (d1:Nat)))⟩
   obtain⟨X4,G4⟩:=hcut;have X4:=ah X4;have G4:=ah G4;generalize wc=w4 at X4 G4 ⊢;clear y1 y2 y3 y4 y5 X3 G3;obtain⟨y1,y2,y3,y4,y5⟩:=X4.out.num;simp only at y1 y2 y3 y4;go_wp2_with fail;go_region;have X5:=ah ((X4.out.p0 a3).drew);have G5:=ah (Br (yA G4.out (p:=⟨p,0,none⟩) (.inl rfl) (.int .u64 (a3:Nat))));generalize(w4.setCell ⟨p,0,none⟩ (.int .u64 (a3:Nat))).drew=w5 at X5 G5 ⊢;clear y1 y2 y3 y4 y5 X4 G4;obtain⟨y1,y2,y3,y4,y5⟩:=X5.out.num;simp only at y1 y2 y3 y4;have C:=ah (fun W=>e9 ▸ Fe d1 21 l7 (by simp) W);go_wp2_with fail;go_cut []from 74 to 86 (fun wx=>dL wx p (S4.mk a3 b1 c1 d2).aA/\W.grownBy wx (some p))
   case first=>
    go_region_law (first|(go_simp;(go_at_call 254;refine(C.out _).mono ?_;rintro e w' ⟨rfl,rfl⟩)))
    all_goals
     go_wp2_with fail;go_meet
     case rel=>exact⟨(X5.out.p3 d2).drew,Br (yA G5.out (p:=⟨p,3,none⟩) (.inl rfl) (.int .u64 (d2:Nat)))⟩
   obtain⟨X6,G6⟩:=hcut;have X6:=ah X6;have G6:=ah G6;generalize wc=w6 at X6 G6 ⊢;clear y1 y2 y3 y4 y5 X5 G5;obtain⟨y1,y2,y3,y4,y5⟩:=X6.out.num;simp only at y1 y2 y3 y4;go_wp2_with fail;go_region;have X7:=ah ((X6.out.p2 c2).drew);have G7:=ah (Br (yA G6.out (p:=⟨p,2,none⟩) (.inl rfl) (.int .u64 (c2:Nat))));generalize(w6.setCell ⟨p,2,none⟩ (.int .u64 (c2:Nat))).drew=w7 at X7 G7 ⊢;clear y1 y2 y3 y4 y5 X6 G6;obtain⟨y1,y2,y3,y4,y5⟩:=X7.out.num;simp only at y1 y2 y3 y4;have C:=ah (fun W=>e12 ▸ Fe b1 17 l3 (by simp) W);go_wp2_with fail;go_cut []from 98 to 110 (fun wx=>dL wx p (S4.mk a3 b2 c2 d2).aA/\W.grownBy wx (some p))
   case first=>
    go_region_law (first|(go_simp;(go_at_call 254;refine(C.out _).mono ?_;rintro e w' ⟨rfl,rfl⟩)))
    all_goals
     go_wp2_with fail;go_meet
     case rel=>exact⟨(X7.out.p1 b2).drew,Br (yA G7.out (p:=⟨p,1,none⟩) (.inl rfl) (.int .u64 (b2:Nat)))⟩
   obtain⟨X8,G8⟩:=hcut;have X8:=ah X8;have G8:=ah G8;generalize wc=w8 at X8 G8 ⊢;clear y1 y2 y3 y4 y5 X7 G7;obtain⟨y1,y2,y3,y4,y5⟩:=X8.out.num;simp only at y1 y2 y3 y4;have C:=ah (fun W=>e14 ▸ Fe c2 32 l11 (by simp) W);go_wp2_with (go_at_call 254;refine(C.out _).mono ?_;rintro e w' ⟨rfl,rfl⟩);have X9:=ah ((X8.out.p2 c3));have G9:=ah ((yA G8.out (p:=⟨p,2,none⟩) (.inl rfl) (.int .u64 (c3:Nat))));generalize(w8.setCell ⟨p,2,none⟩ (.int .u64 (c3:Nat)))=w9 at X9 G9 ⊢;clear y1 y2 y3 y4 y5 X8 G8;go_wp2;go_roundw
   case rel=>exact⟨k+1,_,by omega,by go_num,OK.out,X9.out,G9.out,HE.out⟩
   case measure=>simp[intOf]<;>omega
  ·have Cc:¬(k:Int)<n:=by omega
   obtain rfl:k=n:=by omega
   have HI:=ah (show Af Lr k s=x by rw[HI.out,Nat.sub_self,aiO]);go_wp2;go_end0;exact⟨rfl,by rw[HI.out];exact HX.out,HG.out⟩
def leN(l:List UInt8):Nat:=oJ l.reverse
theorem agG(l:List UInt8):leN l<256^l.length:=by have:=Ku l.reverse;rwa [List.length_reverse]at this
theorem KL(l:List UInt8)(h:l.length<=8):leN l<18446744073709551616:=eU (agG l) (nQ (by decide) h:256^l.length<=256^8)
def QK:Nat->List UInt8->Nat->List Nat
 | 0,l,e=>[leN l+e*72057594037927936]
 | k+1,l,e=>leN (l.take 8)::QK k (l.drop 8) e
def av7(s:S4)(n:Nat):S4:=⟨s.a ^^^ n,s.b,s.c,s.d⟩
def anw(s:S4)(n:Nat):S4:=⟨s.a,s.b,s.c,s.d ^^^ n⟩
def anx(s:S4)(n:Nat):S4:=⟨s.a,s.b,s.c ^^^ n,s.d⟩
def av8(s:S4):Nat:=s.a ^^^ s.b ^^^ s.c ^^^ s.d
def Wi(s:S4)(n:Nat):S4:=av7 (Af Lr 2 (anw s n)) n
def arB(k:Vector UInt8 16):S4:=⟨leN (k.toList.take 8) ^^^ 8317987319222330741,leN (k.toList.drop 8) ^^^ 7237128888997146477,leN (k.toList.take 8) ^^^ 7816392313619706465,leN (k.toList.drop 8) ^^^ 8387220255154660723⟩
def anz(s:S4):Nat:=av8 (Af Lr 4 (anx s 255))
def yF(k:Vector UInt8 16)(l:List UInt8):Nat:=anz ((QK (l.length/8) l (l.length%256)).foldl Wi (arB k))
theorem Oi(n:Nat):∀s:S4,s.ok->(Af Lr n s).ok:=by
 induction n with
 | zero=>intro s h;rw[aiO];exact h
 | succ n ih=>intro s h;rw[aiN];exact ih _ (aiP s h)
theorem arC{s:S4}(h:s.ok){n:Nat}(hn:n<18446744073709551616):(av7 s n).ok:=⟨yE _ _ h.1 hn,h.2.1,h.2.2.1,h.2.2.2⟩
theorem aiR{s:S4}(h:s.ok){n:Nat}(hn:n<18446744073709551616):(anw s n).ok:=⟨h.1,h.2.1,h.2.2.1,yE _ _ h.2.2.2 hn⟩
theorem abM{s:S4}(h:s.ok){n:Nat}(hn:n<18446744073709551616):(anx s n).ok:=⟨h.1,h.2.1,yE _ _ h.2.2.1 hn,h.2.2.2⟩
theorem arD{s:S4}(h:s.ok):av8 s<18446744073709551616:=yE _ _ (yE _ _ (yE _ _ h.1 h.2.1) h.2.2.1) h.2.2.2
theorem abN{s:S4}(h:s.ok){n:Nat}(hn:n<18446744073709551616):(Wi s n).ok:=arC (Oi 2 _ (aiR h hn)) hn
theorem aiS(k:Vector UInt8 16):(arB k).ok:=by
 have h1:=KL (k.toList.take 8) (by simp);have h2:=KL (k.toList.drop 8) (by simp);exact⟨yE _ _ h1 (by decide),yE _ _ h2 (by decide),yE _ _ h1 (by decide),yE _ _ h2 (by decide)⟩
theorem aac:∀(k:Nat)(l:List UInt8)(e:Nat),l.length/8=k->e<256->∀n∈QK k l e,n<18446744073709551616
 | 0,l,e,h,he,n,hn=>by
   have h1:=agG l;have h2:256^l.length<=256^7:=nQ (by decide) (by omega);simp only[QK,List.mem_singleton]at hn;omega
 | k+1,l,e,h,he,n,hn=>by
   rcases bD.1 hn with rfl|hn
   ·exact KL _ (by simp;omega)
   ·exact aac k (l.drop 8) e (by simp;omega) he n hn
def abO(w:au)(B:Nat)(A:Option aU)(n:Nat)(ls:List (List UInt8)):Prop:=Rd w B 1 A n (ls.map fun s=>.string (bV s))
theorem abO.len{w:au}{B n:Nat}{A:Option aU}{ls:List (List UInt8)}(h:abO w B A n ls):ls.length=n:=by have:=h.1;simpa using this
theorem abO.fE{w:au}{B n:Nat}{A:Option aU}{ls:List (List UInt8)}(h:abO w B A n ls){k:Nat}(hk:k<n):∃a,A=some a/\a.block<B/\w.cell? (a.add k)=some (.string (bV (ls.getD k []))):=by
 obtain⟨a,u,e,hb,hu,hc⟩:=Rd.pick h hk;refine⟨a,e,hb,?_⟩;rw[hc];have hl:=h.len;rw[jD,aD (by omega)]at hu;simp only[ni,uj]at hu;rw[<-hu,av,aD (by omega)];rfl
def xW(ls:List (List UInt8))(s:List UInt8):Bool:=(dW ls.length).any fun i=>ls.getD i []==s
theorem anA{ls:List (List UInt8)}{s:List UInt8}{i:Nat}(hi:i<ls.length)(h:ls.getD i []=s):xW ls s=true:=by
 unfold xW;rw[List.any_eq_true];exact⟨i,eH.2 hi,by rw[h];simp⟩
theorem anB{ls:List (List UInt8)}{s:List UInt8}(h:∀i,i<ls.length->ls.getD i []≠s):xW ls s=false:=by
 unfold xW;rw[List.any_eq_false];intro i hi;simpa using h i (eH.1 hi)
theorem agH(ls:List (List UInt8))(s:List UInt8)(A:Option aU)(c:Nat)(w:au)(hR:abO w w.heap.size A ls.length ls)(hn:ls.length<4611686018427387904):
 aR aj 172 #[.slice A ls.length c,.string (bV s)] w fun e w'=>∃r:Int,e=.returned (.int .i64 r)/\decide (0<=r)=xW ls s/\w=w':=by
 have HR:=ah hR;clear hR;obtain⟨n,zC⟩:∃n,n=ls.length:=⟨_,rfl⟩
 rw[<-zC]at HR hn ⊢;have HN:=ah zC;clear zC;go_enter Tryz.func172,Tryz.ntmps172;go_wp2;go_loop [8] (fun s8=>∃i:Nat,i<=n/\s8=.int .i64 i/\∀k,k<i->ls.getD k []≠s) (fun s8=>n-(intOf s8).toNat)
 case atStart=>exact⟨0,by omega,rfl,fun k hk=>by omega⟩
 case round=>
  obtain⟨i,wW,rfl,uU⟩:=hrel;have Gu:=ah uU;clear uU;by_cases fP:i<n
  ·have hi:(i:Int)<n:=by omega
   obtain⟨a,rfl,Cb,hc⟩:=HR.out.fE fP;clear Cb;obtain⟨pn,hp⟩:∃pn,pn=ls.getD i []:=⟨_,rfl⟩
   rw[<-hp]at hc;have HP:=ah hp;clear hp;by_cases hq:pn=s
   ·have hbq:(s==pn)=true:=by rw[hq];simp
    have EO:xW ls s=true:=anA (i:=i) (by have:=HN.out;omega) (by rw[<-HP.out,hq]);have Wj:=ah EO;clear EO hq;go_wp2;go_ret;exact⟨_,rfl,by rw[Wj.out];simp,rfl⟩
   ·have hbq:(s==pn)=false:=by simpa using(fun h:s=pn=>hq h.symm)
    have HQ:=ah hq;clear hq;go_wp2;go_round
    case rel=>exact⟨i+1,by omega,by go_num,fun k hk=>by
     by_cases KO:k=i
     ·rw[KO,<-HP.out];exact HQ.out
     ·exact Gu.out k (by omega)⟩
    case measure=>simp[intOf]<;>omega
  ·obtain rfl:i=n:=by omega
   have EO:xW ls s=false:=anB (fun k hk=>Gu.out k (by have:=HN.out;omega));have Wj:=ah EO;clear EO;have hd:decide ((i:Int)<i)=false:=by simp
   go_wp2;go_ret;exact⟨_,rfl,by rw[Wj.out];simp,rfl⟩
theorem Oj(ls:List (List UInt8))(s:List UInt8)(A:Option aU)(c:Nat)(w:au)(hR:abO w w.heap.size A ls.length ls)(hn:ls.length<4611686018427387904):
 aR aj 87 #[.slice A ls.length c,.string (bV s)] w fun e w'=>e=.returned (.bool (xW ls s))/\w=w':=by
 have HR:=ah hR;clear hR;go_enter Tryz.func87,Tryz.ntmps87;go_wp2_with (go_at_call 172;refine(agH ls s A c _ HR.out hn).mono ?_;rintro e w' ⟨r,rfl,hr,rfl⟩;have HD:=ah hr;clear hr);go_ret;exact⟨by rw[<-HD.out];rfl,rfl⟩
def vN(a b:Nat):Nat:=if a+b>65535 then a+b-65535 else a+b
theorem GK{a b:Nat}(h:a<=65535)(g:b<=65535):vN a b<=65535:=by unfold vN;split<;>omega
def words:List UInt8->List Nat
 | []=>[]
 | [a]=>[256*a.toNat]
 | a::b::l=>(256*a.toNat+b.toNat)::words l
def Ol(n:Nat)(l:List UInt8):Nat:=(words l).foldl vN n
def xE(l:List UInt8):Nat:=65535-Ol 0 l
def inS(s:Nat×Bool)(c:UInt8):Nat×Bool:=(vN s.1 (if s.2 then c.toNat else 256*c.toNat),!s.2)
theorem anC(n a b:Nat)(hn:n<=65535)(ha:a<256)(hb:b<256):vN (vN n (256*a)) b=vN n (256*a+b):=by
 unfold vN;repeat' split
 all_goals omega
theorem aad:∀(l:List UInt8)(n:Nat),n<=65535->l.foldl inS (n,false)=(Ol n l,decide (l.length%2=1))
 | [],n,_=>rfl
 | [a],n,h=>by simp[inS,Ol,words]
 | a::b::l,n,h=>by
   have ha:=a.toNat_lt;have hb:=b.toNat_lt;have:=aad l (vN n (256*a.toNat+b.toNat)) (GK h (by omega));simp only[jV,inS,if_neg Bool.false_ne_true,Bool.not_false,if_pos,uV,if_true,bC,anC n _ _ h ha hb,this,Prod.mk.injEq];refine⟨by simp[Ol,words],by congr 1;rw[eq_iff_iff];omega⟩
theorem abP:∀(l:List UInt8)(n:Nat),n<=65535->Ol n l<=65535
 | [],n,h=>h
 | [a],n,h=>by have:=a.toNat_lt;exact GK h (by omega)
 | a::b::l,n,h=>by
   have ha:=a.toNat_lt;have hb:=b.toNat_lt;exact abP l (vN n (256*a.toNat+b.toNat)) (GK h (by omega))
theorem av9(l:List UInt8):∀s:Nat×Bool,s.1<=65535->(l.foldl inS s).1<=65535:=by
 induction l with
 | nil=>exact fun s h=>h
 | cons c l ih=>
   intro s h;have:=c.toNat_lt;exact ih _ (GK h (by split<;>omega))
def GL(c m n:Nat):Nat:=65535-vN (vN (65535-c) (65535-m)) n
def oC:Nat->List UInt8->List UInt8->Nat
 | c,a::b::l,x::y::m=>oC (GL c (256*a.toNat+b.toNat) (256*x.toNat+y.toNat)) l m
 | c,_,_=>c
theorem Wm(c m n:Nat):GL c m n<=65535:=by unfold GL;omega
theorem aAK(x:Nat)(hx:x<4294967296):bits .and .u32 (x:Int) 65535=((x%65536:Nat):Int):=by
 have h1:(fU 32 (x:Int)).toNat=x:=by
  rw[lU,nG];exact fM (by omega)
 show IntKind.u32.wrap ((fU 32 (x:Int) &&& fU 32 65535).toNat:Int)=_;rw[BitVec.toNat_and,h1,show(fU 32 65535).toNat=2^16-1 by decide,Nat.and_two_pow_sub_one_eq_mod];simp[vR,nS,lT];omega
theorem aiU(x:Nat)(hx:x<=65535):bits .xor .u16 D8.max (x:Int)=((65535-x:Nat):Int):=by
 have h1:fU 16 (x:Int)=IC 16 x:=lU _ _;show D8.wrap ((fU 16 65535 ^^^ fU 16 (x:Int)).toNat:Int)=_;rw[h1,show fU 16 65535=BitVec.allOnes 16 by decide,BitVec.allOnes_xor,BitVec.toNat_not,nG,fM (by omega)];simp[vR,nS,lT];omega
theorem aAL(a c:Nat)(ha:a<256)(hc:c<256):bits .or .u16 (256*(a:Int)) (c:Int)=((256*a+c:Nat):Int):=by
 have h1:fU 16 (256*(a:Int))=IC 16 (256*a):=by rw[show(256*(a:Int))=((256*a:Nat):Int)by omega];exact lU _ _
 have h2:fU 16 (c:Int)=IC 16 c:=lU _ _;show D8.wrap ((fU 16 (256*(a:Int)) ||| fU 16 (c:Int)).toNat:Int)=_;rw[h1,h2,BitVec.toNat_or,nG,nG,fM (by omega),fM (by omega),show 256*a=a <<< 8 by rw[mF];omega,<-Nat.shiftLeft_add_eq_or_of_lt (by omega)];rw[mF];simp[vR,nS,lT];omega
section
variable (a b c m n:Nat) (W:au)
theorem Om(ha:a<=65535)(hb:b<=65535):aR aj 369 #[.int .u32 a,.int .u32 b] W fun e W'=>e=.returned (.int .u32 (vN a b:Nat))/\W=W':=by
 have h:=aAK (a+b) (by omega);rw[Int.natCast_add]at h;have H:=ah (show((a:Int)+(b:Int))%65536+((a:Int)+(b:Int))/65536=(vN a b:Nat)by unfold vN;split<;>omega);go_enter Tryz.func369,Tryz.ntmps369;go_wp2;go_ret;exact⟨by rw[<-H.out];rfl,rfl⟩
theorem aea(ha:a<=65535)(hb:b<=65535):aR aj 258 #[.int .i64 a,.int .i64 b] W fun e W'=>e=.returned (.int .i64 (vN a b:Nat))/\W=W':=by
 go_enter Tryz.func258,Tryz.ntmps258;go_wp2
 all_goals(go_ret;refine⟨?_,rfl⟩;simp_all[vN]<;>(repeat' split)<;>omega)
theorem agI(hc:c<=65535)(hm:m<=65535)(hn:n<=65535):aR aj 352 #[.int .u16 c,.int .u16 m,.int .u16 n] W fun e W'=>e=.returned (.int .u16 (GL c m n:Nat))/\W=W':=by
 have h1:=aiU c hc;have h2:=aiU m hm;have l1:=GK (show 65535-c<=65535 by omega) (show 65535-m<=65535 by omega);have l2:=GK l1 hn;have h3:=aiU _ l2;have C1:=ah (fun W=>Om (65535-c) (65535-m) W (by omega) (by omega));have C2:=ah (fun W=>Om (vN (65535-c) (65535-m)) n W l1 hn);have H:=ah (show GL c m n=65535-vN (vN (65535-c) (65535-m)) n from rfl);generalize vN (vN (65535-c) (65535-m)) n=z at *;generalize vN (65535-c) (65535-m)=y at *;have hz:D8.wrap (z:Int)=z:=by simp[vR,nS,lT];omega
 have q1:((65535-c:Nat):Int)%4294967296=((65535-c:Nat):Int):=by omega
 have q2:((65535-m:Nat):Int)%4294967296=((65535-m:Nat):Int):=by omega
 have q3:(n:Int)%4294967296=n:=by omega
 generalize 65535-c=cc at *;generalize 65535-m=mm at *;go_enter Tryz.func352,Tryz.ntmps352;go_wp2_with (first|(go_at_call 369;with_reducible refine(C1.out _).mono ?_;rintro e w' ⟨rfl,rfl⟩)|(go_at_call 369;with_reducible refine(C2.out _).mono ?_;rintro e w' ⟨rfl,rfl⟩))
 all_goals(go_ret;exact⟨by rw[H.out];rfl,rfl⟩)
end
section
variable (W:au) (A:Option aU) (n c B:Nat) (l:List UInt8)
theorem aeb(i:Nat)(hi:i<9223372036854775807)(hr:gy W B A n l):aR aj 353 #[.slice A n c,.int .i64 i] W fun e W'=>e=.returned (.int .u16 ((l.getD i 0).toNat:Nat))/\W=W':=by
 by_cases wW:i<n
 ·obtain⟨a,rfl,EH,hcell⟩:=hr.fE wW
  have h1:(i:Int)<n:=by omega
  have h2:=(l.getD i 0).toNat_lt;have h3:((l.getD i 0).toNat:Int)%65536=(l.getD i 0).toNat:=by omega
  unfold bv at hcell;generalize(l.getD i 0).toNat=x at *;clear hr;go_enter Tryz.func353,Tryz.ntmps353;go_wp2;go_ret;exact⟨rfl,rfl⟩
 ·have h1:¬(i:Int)<n:=by omega
  have h2:l.getD i 0=0:=by rw[av,aT (by have:=hr.len;omega)];rfl
  rw[h2];clear hr h2;go_enter Tryz.func353,Tryz.ntmps353;go_wp2;go_ret;exact⟨rfl,rfl⟩
end
theorem Wn(l:List UInt8)(k:Nat)(h:k+1<l.length):l.drop k=l.getD k 0::l.getD (k+1) 0::l.drop (k+2):=by
 rw[kT (show k<l.length by omega),kT h,av,av,aD (show k<l.length by omega),aD h];rfl
theorem abQ(c:Nat)(m:List UInt8):oC c [] m=c:=by cases m<;>rfl
theorem Jy(W:au)(A D:Option aU)(n ca cd B E c:Nat)(l m:List UInt8)(hc:c<=65535)(hn:n%2=0)(Ue:n<=1000000)(hr:gy W B A n l)(ht:gy W E D n m):
 aR aj 311 #[.int .u16 c,.slice A n ca,.slice D n cd] W fun e W'=>e=.returned (.int .u16 (oC c l m:Nat))/\W=W':=by
 have CA:=ah (fun i hi=>aeb W A n ca B l i hi hr);have CD:=ah (fun i hi=>aeb W D n cd E m i hi ht);have hl:=ah hr.len;have hm:=ah ht.len;clear hr ht;go_enter Tryz.func311,Tryz.ntmps311;go_wp2;go_loop [0,7] (fun s0 s7=>∃(k x:Nat),k<=n/\k%2=0/\x<=65535/\s0=.int .u16 x/\s7=.int .i64 k/\oC c l m=oC x (l.drop k) (m.drop k)) (fun _ s7=>n-(intOf s7).toNat)
 case atStart=>exact⟨0,c,by omega,rfl,hc,rfl,rfl,rfl⟩
 case round=>
  obtain⟨k,x,hk,YU,hx,rfl,rfl,heq⟩:=hrel;have HE:=ah heq;clear heq;by_cases fP:k<n
  ·have Cc:(k:Int)<n:=by omega
   have A0:=ah (CA.out k (by omega));have A1:=ah (CA.out (k+1) (by omega));have D0:=ah (CD.out k (by omega));have D1:=ah (CD.out (k+1) (by omega));rw[show((k+1:Nat):Int)=(k:Int)+1 from rfl]at A1 D1;have HE:=ah (by rw[HE.out,Wn l k (by rw[hl.out];omega),Wn m k (by rw[hm.out];omega),oC]:oC c l m=oC (GL x (256*(l.getD k 0).toNat+(l.getD (k+1) 0).toNat) (256*(m.getD k 0).toNat+(m.getD (k+1) 0).toNat)) (l.drop (k+2)) (m.drop (k+2)));have b1:=(l.getD k 0).toNat_lt;have b2:=(l.getD (k+1) 0).toNat_lt;have b3:=(m.getD k 0).toNat_lt;have b4:=(m.getD (k+1) 0).toNat_lt;generalize(l.getD k 0).toNat=y1 at *;generalize(l.getD (k+1) 0).toNat=y2 at *;generalize(m.getD k 0).toNat=y3 at *;generalize(m.getD (k+1) 0).toNat=y4 at *;have o1:=aAL y1 y2 b1 b2;have o2:=aAL y3 y4 b3 b4;rw[Int.mul_comm]at o1 o2;have CH:=ah (agI x (256*y1+y2) (256*y3+y4) W hx (by omega) (by omega));have LE:=ah (Wm x (256*y1+y2) (256*y3+y4));generalize GL x (256*y1+y2) (256*y3+y4)=z at *;generalize 256*y1+y2=w1 at *;generalize 256*y3+y4=w2 at *;clear CA CD;go_wp2_with (first|(go_at_call 353;with_reducible refine A0.out.mono ?_;rintro e w' ⟨rfl,rfl⟩)|(go_at_call 353;with_reducible refine A1.out.mono ?_;rintro e w' ⟨rfl,rfl⟩)|(go_at_call 353;with_reducible refine D0.out.mono ?_;rintro e w' ⟨rfl,rfl⟩)|(go_at_call 353;with_reducible refine D1.out.mono ?_;rintro e w' ⟨rfl,rfl⟩)|(go_at_call 352;with_reducible refine CH.out.mono ?_;rintro e w' ⟨rfl,rfl⟩));go_round
   case rel=>exact⟨k+2,z,by omega,by omega,LE.out,rfl,by go_num,HE.out⟩
   case measure=>simp[intOf]<;>omega
  ·have Cc:¬(k:Int)<n:=by omega
   have HE:=ah (by rw[HE.out,iR (by rw[hl.out];omega),abQ]:oC c l m=x);clear CA CD;go_wp2;go_ret;exact⟨by rw[HE.out];rfl,rfl⟩
theorem aec(x:Bool)(w:au):(Op.unary .not (.bool x)).run aj w=.ok (.bool (!x)) w:=rfl
theorem akB(W:au)(b:Nat)(A:Option aU)(n c B:Nat)(l:List UInt8)(Ue:n<=1000000000)(hp:W.cell? ⟨b,0,none⟩=some (.slice A n c))(hr:gy W B A n l):
 aR aj 350 #[.slice (some ⟨b,0,none⟩) 1 1] W fun e W'=>e=.returned (.int .u32 (Ol 0 l:Nat))/\W=W':=by
 have HR:=ah hr;have HN:=aec;clear hr;go_enter Tryz.func350,Tryz.ntmps350;go_wp2;go_loop [3,4,12] (fun s3 s4 s12=>(s3=.int .u32 0/\s4=.bool false/\s12=.int .i64 0)\/(∃o,s3=.int .u32 (Ol 0 l:Nat)/\s4=.bool o/\s12=.int .i64 1)) (fun _ _ s12=>1-(intOf s12).toNat)
 case atStart=>exact .inl ⟨rfl,rfl,rfl⟩
 case round=>
  rcases hrel with⟨rfl,rfl,rfl⟩|⟨o,rfl,rfl,rfl⟩
  ·go_wp2
   go_loop [3,4,18] (fun s3 s4 s18=>∃k:Nat,k<=n/\s18=.int .i64 k/\s3=.int .u32 ((l.take k).foldl inS (0,false)).1/\s4=.bool ((l.take k).foldl inS (0,false)).2) (fun _ _ s18=>n-(intOf s18).toNat)
   case atStart=>exact⟨0,by omega,rfl,rfl,rfl⟩
   case round=>
    obtain⟨k,hk,rfl,rfl,rfl⟩:=hrel;have hlen:=ah HR.out.len;by_cases fP:k<n
    ·have Cc:(k:Int)<n:=by omega
     obtain⟨a,rfl,EH,hcell⟩:=HR.out.fE fP;have HS:=ah (show(l.take (k+1)).foldl inS (0,false)=inS ((l.take k).foldl inS (0,false)) (l.getD k 0)by
      rw[dP (by rw[hlen.out];exact fP),List.foldl_append,av,aD (by rw[hlen.out];exact fP)];rfl)
     have hle:=av9 (l.take k) (0,false) (by decide);have hx:=(l.getD k 0).toNat_lt;generalize(l.take k).foldl inS (0,false)=st at *;obtain⟨s,o⟩:=st;have HS:=ah (show(l.take (k+1)).foldl inS (0,false)=(vN s (if o then(l.getD k 0).toNat else 256*(l.getD k 0).toNat),!o)from HS.out);unfold bv at hcell;simp only at hle ⊢;generalize(l.getD k 0).toNat=x at *;have C1:=ah (fun W=>Om s x W hle (by omega));have C2:=ah (fun W=>show aR aj 369 #[.int .u32 s,.int .u32 ((x:Int)*256)] W fun e W'=>e=.returned (.int .u32 (vN s (256*x):Nat))/\W=W' by rw[show(x:Int)*256=((256*x:Nat):Int)by omega];exact Om s (256*x) W hle (by omega));have e1:(x:Int)%4294967296=x:=by omega
     cases o
     ·have HS:=ah (show(l.take (k+1)).foldl inS (0,false)=(vN s (256*x),true)from HS.out)
      go_wp2_with (first|(go_at_call 369;with_reducible refine(C2.out _).mono ?_;rintro e w' ⟨rfl,rfl⟩));go_round
      case rel=>exact⟨k+1,by omega,by go_num,by rw[HS.out],by rw[HS.out]⟩
      case measure=>simp[intOf]<;>omega
     ·have HS:=ah (show(l.take (k+1)).foldl inS (0,false)=(vN s x,false)from HS.out)
      go_wp2_with (first|(go_at_call 369;with_reducible refine(C1.out _).mono ?_;rintro e w' ⟨rfl,rfl⟩));go_round
      case rel=>exact⟨k+1,by omega,by go_num,by rw[HS.out];rfl,by rw[HS.out];rfl⟩
      case measure=>simp[intOf]<;>omega
    ·have Cc:¬(k:Int)<n:=by omega
     have HS:=ah (show((l.take k).foldl inS (0,false)).1=Ol 0 l by rw[aL (by rw[hlen.out];omega),aad _ _ (by decide)]);go_wp2;go_round
     case rel=>exact .inr ⟨_,by rw[HS.out],rfl,rfl⟩
     case measure=>simp[intOf]
  ·go_wp2
   go_ret;exact⟨rfl,rfl⟩
section
variable (W:au) (b:Nat) (A:Option aU) (n c B:Nat) (l:List UInt8) (Ue:n<=1000000000) (hp:W.cell? ⟨b,0,none⟩=some (.slice A n c)) (hr:gy W B A n l)
include Ue hp hr
theorem aiV:aR aj 305 #[.slice (some ⟨b,0,none⟩) 1 1] W fun e W'=>e=.returned (.int .u16 (xE l:Nat))/\W=W':=by
 have C:=ah (akB W b A n c B l Ue hp hr);have hle:=abP l 0 (by omega);have HS:=ah (show xE l=65535-Ol 0 l from rfl);have hx:=aiU (Ol 0 l) hle;generalize Ol 0 l=x at *;have hz:D8.wrap (x:Int)=x:=by simp[vR,nS,lT];omega
 clear hr;go_enter Tryz.func305,Tryz.ntmps305;go_wp2_with (go_at_call 350;with_reducible refine C.out.mono ?_;rintro e w' ⟨rfl,rfl⟩);go_ret;exact⟨by rw[HS.out];rfl,rfl⟩
theorem aed:aR aj 247 #[.slice (some ⟨b,0,none⟩) 1 1] W fun e W'=>e=.returned (.bool (decide (xE l=0)))/\W=W':=by
 have C:=ah (aiV W b A n c B l Ue hp hr);generalize xE l=x at *;clear hr;go_enter Tryz.func247,Tryz.ntmps247;go_wp2_with (go_at_call 305;with_reducible refine C.out.mono ?_;rintro e w' ⟨rfl,rfl⟩);go_ret;refine⟨?_,rfl⟩;show Ending.returned (.bool ((x:Int)==0))=_;congr 2;rw[cO];simp
end
section
variable {P:eF} {ops:Array iV} {md:Region.Mode} {C:au->Prop}
def wqL(P:eF)(md:Region.Mode)(ops:Array iV)(C:au->Prop)(n:Nat)(L:Array Bool->re->Prop):Nat->Array Bool->re->Prop
 | 0,listed,a=>L listed a
 | f+1,listed,a=>fV md ops listed≠[]/\∀i∈fV md ops listed,i<n/\qOp P ops C i (wqL P md ops C n L f (listed.setIfInBounds i true)) a
theorem aiW{n g:Nat}{L:Array Bool->re->Prop}{Q':Aq->re->au->Prop}(hL:∀listed a w,C w->L listed a->wpAny P md ops Q' g listed a w):
 ∀(f:Nat)(listed:Array Bool)(a:re)(w:au),C w->wqL P md ops C n L f listed a->wpAny P md ops Q' (f+g) listed a w
 | 0,listed,a,w,hw,h=>by rw[bB];exact hL _ _ _ hw h
 | f+1,listed,a,w,hw,h=>by
   rw[show f+1+g=(f+g)+1 by omega];exact⟨fun h0=>absurd h0 h.1,fun i hi=>wpOp_of_qOp hw (fun a' w' hw' h'=>aiW hL f _ a' w' hw' h') (h.2 i hi).2⟩
theorem anD{n i:Nat}{oi:iV}{v:aC}{L:Array Bool->re->Prop}(hi:ops[i]? = some oi)(yG:∀(j:Nat)(o:iV) cs b,ops[j]? = some o->o.op≠.select cs b)
 (hs:Region.sinkB md ops n=true) (hc:Region.chainB md ops n=true) (hn:n<ops.size) (wW:i<n) (aAM:∀listed a,L listed a->∀j∈fV md ops listed,n<=j) :
 ∀(f:Nat)(listed:Array Bool)(a:re),HeadInv md ops n listed ->
  (∀j oj,ops[j]? = some oj->j≠i->listed.getD j true=false->(∀e∈oj.after,qJ md e=true->e.on≠i)->oi.apart ops oj=true) ->
  i∈fV md ops listed->YieldsIn P ops C oi v a ->
  wqL P md ops C n L f (listed.setIfInBounds i true) (a.put oi.dst v)->wqL P md ops C n L (f+1) listed a:=by
 intro f
 induction f with
 | zero=>
   intro listed a inv _ hr hy H;have MI:=(kE.1 hr).1;refine⟨fun h=>(by rw[h]at hr;cases hr),fun j hj=>?_⟩;have hjn:j<n:=(bf j n).resolve_right fun h=>tail_waits hs hc hn inv _ i rfl wW MI j h hj
   refine⟨hjn,?_⟩;by_cases YA:j=i
   ·subst YA;exact hy.qOp hi H
   ·have:=aAM _ _ H j (ready_mono hj YA)
    omega
 | succ f ih=>
   intro listed a inv Oh hr hy H;have MI:=(kE.1 hr).1;refine⟨fun h=>(by rw[h]at hr;cases hr),fun j hj=>?_⟩;have hjn:j<n:=(bf j n).resolve_right fun h=>tail_waits hs hc hn inv _ i rfl wW MI j h hj
   refine⟨hjn,?_⟩;by_cases YA:j=i
   ·subst YA;exact hy.qOp hi H
   ·have h1:=(H.2 j (ready_mono hj YA)).2
    obtain⟨aAN,oj,hoj,mV⟩:=kE.1 hj;have aGN:∀e∈oj.after,qJ md e=true->e.on≠i:=fun e he hb heq=>by
     have h1:=mV e he hb;rw[heq,getD_both MI]at h1;cases h1
    have h2:=qOp_put hoj (Oh j oj hoj YA aAN aGN) (fun cs b=>yG i oi cs b hi) (fun cs b=>yG j oj cs b hoj) hy h1;have av':∀k ok,ops[k]? = some ok->k≠i->(listed.setIfInBounds j true).getD k true=false->(∀e∈ok.after,qJ md e=true->e.on≠i)->oi.apart ops ok=true:=fun k ok hk KO MI uU=>by
     refine Oh k ok hk KO ?_ uU;by_cases hjk:j=k
     ·subst hjk;exact aAN
     ·rw[getD_set_ne true hjk]at MI;exact MI
    refine qOp_mono (fun a' h3=>ih (listed.setIfInBounds j true) a' (inv.set hj hjn) av' (ready_mono hr (jm YA)) h3.1 ?_) h2;rw[Array.setIfInBounds_comm _ _ YA];exact h3.2
theorem abR{n g:Nat}{Lq:re->Prop}(yG:Region.noSelect ops=true)(hs:Region.sinkB md ops n=true)(hc:Region.chainB md ops n=true)(hn:n<ops.size):
 ∀(l:List iV)(k:Nat)(listed:Array Bool)(a:re),(∀j,j<l.length->l[j]? = ops[k+j]?)->k+l.length=n->HeadInv md ops n listed->Region.lexHead md ops g l.length k listed=true->wpQuiet P ops C Lq l a ->
 wqL P md ops C n (fun KQ a'=>Region.seqB md ops g n KQ=true/\Lq a') l.length listed a
 | [],k,listed,a,_,hk,_,hB,h=>by
   have:k=n:=by simpa using hk
   subst this;exact⟨by simpa[Region.lexHead]using hB,h⟩
 | o::l,k,listed,a,hl,hk,inv,hB,h=>by
   have h0:ops[k]? = some o:=by simpa using(hl 0 (by simp)).symm
   simp only[bC,Region.lexHead,bl]at hB;obtain⟨⟨hr,hf⟩,hB'⟩:=hB;have YB:k<n:=by simp only[bC]at hk;omega
   have hr':k∈fV md ops listed:=by simpa using hr
   have yZ:qOp P ops C k (wpQuiet P ops C Lq l) a:=by unfold qOp;simp only[h0];exact h
   obtain⟨v,hy,hK⟩:=yieldsIn_of_qOp h0 yZ;exact anD h0 (Region.noSelect_spec yG) hs hc hn YB (fun KQ a' hL=>seqB_ready hL.1) l.length listed a inv (Region.free_spec h0 hf) hr' hy
    (abR yG hs hc hn l (k+1) _ _ (fun j hj=>by have:=hl (j+1) (by simp;omega);simpa[ny,uN 1 j]using this) (by simp only[bC]at hk;omega) (inv.set hr' YB) hB' hK)
theorem Wo{T:Type}(f:T->au)(n:Nat){id:Nat}{Q:Aq->re->au->Prop}{a:re}{w:au}{l:List iV}(hm:P.follows .mixedOrders=true)(hB:xQ .any l.toArray n=true)(n0:T)(h0:f n0=w.drew)
 (h:wpQuiet P l.toArray (fun w'=>∃m,w'=f m) (fun a'=>∀w',(∃m,w'=f m)->wpList P l.toArray Q (l.drop n) a' w') (l.take n) a):(Code.region id l.toArray true).wp P Q a w:=by
 simp only[xQ,bl,decide_eq_true_eq]at hB;obtain⟨⟨⟨⟨yG,hn⟩,hs⟩,hc⟩,agJ⟩:=hB;have hn':n<l.length:=by simpa using hn
 have NC:(l.take n).length=n:=by simp;omega
 have YV:(l.drop n).length=l.toArray.size-n:=by simp
 have anE:HeadInv .any l.toArray n (Array.replicate l.toArray.size false):=
  ⟨by simp,fun j oj _ hl=>(by rw[mJ]at hl;cases hl),fun t _ ht=>getD_in (by simpa using ht) (mJ _ _)⟩
 have H:=abR (md:=.any) (C:=fun w'=>∃m,w'=f m) (g:=l.toArray.size-n) yG hs hc hn (l.take n) 0 _ a (fun j hj=>by
  have hj':j<n:=by rw[NC]at hj;exact hj
  simp[hj']) (by simpa using NC) anE (by rw[NC];exact agJ) h
 refine wp_region_any hm ?_;have:=aiW (Q':=Q) (g:=l.toArray.size-n) (fun listed a' w' hw hL=>by
  have:=wpAny_of_seq (md:=.any) (Q':=Q) (l.drop n) n listed a' w' (fun j=>by simp[jf]) (by rw[YV];exact hL.1) (hL.2 w' hw)
  rwa [YV]at this) _ _ _ {w with drawn:=w.drawn+1} ⟨n0,h0.symm⟩ H
 rw[NC,show n+(l.toArray.size-n)=l.toArray.size by omega]at this;exact this
end
section
open Go.RowKit Go.ChangeShapes Go.WideShapes Go.ChangeAt Go.Deep
def nY(l:List Hl):List (List UInt8):=(l.filter (·.down)).map (·.name)
theorem aae(l:List Hl)(i:Nat)(hi:i<l.length){x:Hl}(hx:x=l.getD i lG)(h:x.down=true):nY (l.take (i+1))=nY (l.take i)++[x.name]:=by
 rw[<-oK lG l i hi,<-hx];simp[nY,h]
theorem aee(l:List Hl)(i:Nat)(hi:i<l.length){x:Hl}(hx:x=l.getD i lG)(h:x.down=false):nY (l.take (i+1))=nY (l.take i):=by
 rw[<-oK lG l i hi,<-hx];simp[nY,h]
theorem anF(l:List Hl)(A:Option aU)(n c:Nat)(w:au)(hR:RdH w w.heap.size A n l)(hn:n<=100000):
 aR aj 130 #[.slice A n c] w (TxP w (nY l)):=by
 have HR:=ah hR;have HN:=ah hR.1;obtain⟨i0,oz,mZ,nu,Ar⟩:=abo;have HI0:=ah oz;have Nz:=ah mZ;have HZ1:=ah nu;have UO:=ah (show(jc ⟨#[]⟩).cells.size=1 from rfl);clear hR oz mZ nu;go_enter Tryz.func130,Tryz.ntmps130;go_wp2;go_loopw [3,8] (fun s3 s8 wr=>∃(i:Nat)(O:Option aU)(cap k:Nat),i<=n/\s3=.slice O k cap/\s8=.int .i64 i/\k<=i/\(nY (l.take i)).length=k/\wr.ownsRow w.heap.size 9 1 (.slice O k cap) k (wC (nY (l.take i)))/\aN w.heap.size w wr) (fun _ s8 _=>n-(intOf s8).toNat)
 case atStart=>exact⟨0,none,0,0,by omega,rfl,rfl,by omega,by simp[nY],World.ownsRow_nil _ _ _ _,aH _ _⟩
 case round=>
  obtain⟨i,O,cap,k,wW,rfl,rfl,KO,hlen,ho,hb⟩:=hrel;have HB:=ah hb;have HO:=ah ho;have vL:=ah hlen;have jB:=hb.size;clear hb ho hlen;by_cases fP:i<n
  ·have hi:(i:Int)<n:=by omega
   obtain⟨b,o,rfl,Cb,hh,hc,YQ,hdw⟩:=(HR.out.below HB.out).hl fP;obtain⟨x,hx⟩:∃x,x=l.getD i lG:=⟨_,rfl⟩
   rw[<-hx]at hc YQ hdw;have HX:=ah hx;have Em:b<wr.heap.size:=by omega
   clear hx Cb;have HNL:=ah (show i<l.length by rw[HN.out];exact fP);cases hd:x.down
   ·have HD:=ah hd
    rw[hd]at hdw;go_wp2;go_roundw
    case rel=>exact⟨i+1,O,cap,k,by omega,rfl,by go_num,by omega,by rw[aee l i HNL.out HX.out HD.out];exact vL.out,by rw[aee l i HNL.out HX.out HD.out];exact HO.out.alloc _,HB.out.alloc jB _⟩
    case measure=>simp[intOf]<;>omega
   ·have HD:=ah hd
    rw[hd]at hdw;have UM:=ah (show k+1<=maxLen by unfold maxLen;omega);have UN:=ah (show(k+1)*i0.bytes<=140737488355328 from aP (gU (show k+1<=100002 by omega) Ar) (by omega));have HKI:=ah KO;have Uf:=ah (fun(ob:Obj) (s:List UInt8)=>show Rd ((wr.alloc ob).alloc (.cells #[.string (bV s)] 9)) (wr.heap.size+2) 1 (some ⟨wr.heap.size+1,0,none⟩) 1 [.string (bV s)]by
     have h:=abn (wr.alloc ob) (txA s) 1 rfl 9
     rwa [show(wr.alloc ob).heap.size=wr.heap.size+1 by simp]at h)
    have HBS:=ah (fun ob uy=>show w.heap.size<=((wr.alloc ob).alloc uy).heap.size by simp;omega);have HGR:=ah (fun ob uy w1 (hg:((wr.alloc ob).alloc uy).grownBy w1 (Value.slice O k cap).ownBlock)=>((HB.out.alloc jB ob).alloc (by simp;omega) uy).grown hg (by simp;omega) (fun k hk=>(HO.out.lt k hk).1));clear KO;go_wp2_with (at_builtin;refine jI _ rfl (.tmp 14) (.tmp 17) _ rfl w.heap.size 9 i0 (.string ⟨#[]⟩) 1 i0.bytes Tryz.underlying69 HI0.out Nz.out HZ1.out rfl UO.out (Nat.succ_pos _) (.slice O k cap) k (wC (nY (l.take i))) rfl ((HO.out.alloc _).alloc _) (wr.heap.size+2) (some ⟨wr.heap.size+1,0,none⟩) 1 1 [.string (bV x.name)] rfl (Uf.out _ x.name) (by simp[Value.oneCell']) UM.out UN.out (HBS.out _ _) ?_;intro v1 w1 kJ AA yj;have O1:=ah kJ;have G1:=ah (HGR.out _ _ _ AA);clear kJ AA yj);obtain⟨O',Ls,rfl,_,_⟩:=jT O1.out;go_roundw
    case rel=>exact⟨i+1,O',Ls,k+1,by omega,rfl,by go_num,by have:=HKI.out;omega,by rw[aae l i HNL.out HX.out HD.out,aS,vL.out];rfl,by rw[aae l i HNL.out HX.out HD.out,<-Sw];exact O1.out,G1.out⟩
    case measure=>simp[intOf]<;>omega
  ·obtain rfl:i=n:=by omega
   have hd:decide ((i:Int)<i)=false:=by simp
   have HL:=ah (show l.take i=l from aL (by rw[HN.out];omega));go_wp2;go_ret;exact⟨O,k,cap,rfl,by rw[<-HL.out];exact vL.out,by have:=HO.out;rw[HL.out]at this;exact this,HB.out⟩
end
section
open Go.RowKit Go.ChangeShapes Go.WideShapes Go.ChangeAt Go.Deep
def auu(h:Hl):Prop:=-9223372036854775808<=h.run/\h.run<=9223372036854775807
end
def agL(xs:List aC):Nat->List aC->List aC
 | _,[]=>xs
 | o,v::vs=>agL (xs.set o v) (o+1) vs
theorem anH(vs:List aC):∀(xs:List aC)(o j:Nat),(agL xs o vs)[j]? = if o<=j/\j<o+vs.length/\j<xs.length then vs[j-o]? else xs[j]?:=by
 induction vs with
 | nil=>intro xs o j;rw[agL,if_neg (by simp;omega)]
 | cons v vs ih=>
   intro xs o j;rw[agL,ih,aW,bC];by_cases h1:o+1<=j/\j<o+1+vs.length/\j<xs.length
   ·rw[if_pos h1,if_pos (by omega),show j-o=(j-(o+1))+1 by omega,List.getElem?_cons_succ]
   ·rw[if_neg h1]
    by_cases h2:o=j
    ·subst h2
     by_cases h3:o<xs.length
     ·rw[if_pos ⟨ay _,by omega,h3⟩,List.getElem?_set_self h3];simp
     ·rw[if_neg (by omega),fG];simp[h3]
    ·rw[List.getElem?_set_ne h2,if_neg (by omega)]
theorem YX{base size n g c:Nat}{e:bM}(vs:List aC):∀(xs:List aC)(W:au)(o:Nat),W.ownsRow base e size (.slice (some ⟨g,0,none⟩) n c) n xs->o+vs.length<=n*size ->
 (W.setCells g o vs).ownsRow base e size (.slice (some ⟨g,0,none⟩) n c) n (agL xs o vs):=by
 induction vs with
 | nil=>intro xs W o h _;exact h
 | cons v vs ih=>
   intro xs W o h ho;rw[bC]at ho;rw[Dy,agL];exact ih _ _ _ (UE h o (by omega) v) (by omega)
theorem anI{α:Type}(f:α->Array aC)(s:Nat)(hs:∀x,(f x).size=s)(hp:0<s)(l:List α)(i:Nat)(hi:i<l.length)(x:α):
 agL (l.flatMap fun x=>(f x).toList) (i*s) (f x).toList=(l.set i x).flatMap fun x=>(f x).toList:=by
 apply iI;intro j;rw[anH,aZ,hs,tL f s hs];have hl2:=tL f s hs (l.set i x);rw[aW]at hl2;rcases bf j (l.length*s)with hj|hj
 ·have e1:j=j/s*s+j%s:=by rw[DC];exact(Nat.div_add_mod j s).symm
  have h2:j/s<l.length:=(Av hp).2 hj;have h3:j%s<s:=fD _ hp;have g1:=uY f s hs l (j/s) (j%s) h2 h3;have g2:=uY f s hs (l.set i x) (j/s) (j%s) (by rw[aW];exact h2) h3;rw[<-e1]at g1 g2;rw[g2];by_cases SE:i=j/s
  ·subst SE
   rw[if_pos ⟨Nat.div_mul_le_self j s,by omega,hj⟩,List.getElem_set_self,dD];congr 1;omega
  ·rw[List.getElem_set_ne SE,if_neg,g1]
   rintro⟨h4,h5,_⟩;apply SE;have h6:i*s<=j:=h4;have h7:j<(i+1)*s:=by rw[Ki];exact h5
   exact(Nat.le_antisymm ((Nat.le_div_iff_mul_le hp).2 h6) (Nat.lt_succ_iff.1 ((Av hp).2 h7)))
 ·rw[if_neg (by omega),aT (by rw[tL f s hs];exact hj),aT (by omega)]
def xG(l:List Hl):List aC:=l.flatMap fun x=>x.aA.toList
theorem agM(l:List Hl):∀u∈xG l,u.oneCell'=true:=ER Hl.aA Hl.cB l
theorem aeg(l:List Hl)(x:Hl):xG l++x.aA.toList=xG (l++[x]):=aj4 Hl.aA l x
def ClP(w:au)(n:Nat)(l:List Hl)(e:kX)(w':au):Prop:=
 ∃A c,e=.returned (.slice A n c)/\w'.ownsRow w.heap.size 100 3 (.slice A n c) n (xG l)/\aN w.heap.size w w'
theorem ML(l:List Hl)(A:Option aU)(n c:Nat)(w:au)(hR:RdH w w.heap.size A n l)(hn:n<=100000):
 aR aj 59 #[.slice A n c] w (ClP w n l):=by
 have EI:=hR.1;cases A with
 | some a=>
   have GH:∀W:au,(binOp .eql 33 (.slice (some a) n c) (.slice none 0 0)).run aj W=.ok (.bool false) W:=fun W=>by
    simp only[binOp];simp[iW,sj]
   obtain⟨i0,oz,mZ,nu,Ar⟩:=Qy;have wX:(bY lG.aA).cells.size=3:=by simp[Value.cells,Hl.ak]
   have O1:=ah (show(w.alloc (.cells #[] 100)).ownsRow w.heap.size 100 3 (.slice (some ⟨w.heap.size,0,none⟩) 0 0) 0 []from World.ownsRow_lit w #[] 0 (ay _) (by unfold maxLen;omega) rfl);have O2:=ah (hR.alloc (ay _) (.cells #[] 100)).2.1;have UM:=ah (show 0+n<=maxLen by unfold maxLen;omega);have UN:=ah (show(0+n)*i0.bytes<=140737488355328 from aP (gU (show 0+n<=100000 by omega) Ar) (by omega));have O3:=ah (show w.heap.size<=(w.alloc (.cells #[] 100)).heap.size by simp);have ON:=ah (agM l);clear hR EI;go_enter Tryz.func59,Tryz.ntmps59;go_wp2_with (at_builtin;refine jI _ rfl (.tmp 5) (.tmp 6) _ rfl w.heap.size 100 i0 (.agg lG.aA) 3 i0.bytes sj oz mZ nu rfl wX (Nat.succ_pos _) (.slice (some ⟨w.heap.size,0,none⟩) 0 0) 0 [] rfl O1.out w.heap.size (some a) n c (xG l) rfl O2.out ON.out UM.out UN.out O3.out ?_;intro v1 w1 kJ AA yj);obtain⟨A',c',hv,_,_⟩:=jT kJ;subst hv;simp only[bB,dG]at kJ;have hb:=um ((aH w.heap.size w).alloc (ay _) (.cells #[] 100)) AA (ay _) O3.out;go_wp2;go_ret;exact⟨A',c',by simp,kJ,hb⟩
 | none=>
   have h0:n=0:=by
    rcases dX n with h0|h0
    ·exact h0
    ·obtain⟨a,ha,_⟩:=hR.2.1.2 h0;cases ha
   subst h0;have hl:l=[]:=bF EI;subst hl;have GH:∀W:au,(binOp .eql 33 (.slice none 0 c) (.slice none 0 0)).run aj W=.ok (.bool true) W:=fun W=>by
    simp only[binOp];simp[iW,sj]
   have FIN:=ah (show ClP w 0 [] (.returned (.slice none 0 0)) w from⟨none,0,rfl,World.ownsRow_nil _ _ _ _,aH _ _⟩);clear hR EI;go_enter Tryz.func59,Tryz.ntmps59;go_wp2;go_ret;exact FIN.out
theorem Wp(args:Array aC)(w:au):(callFunc 148 args).run aj w=.ok (.enter 148 args) w:=by kernel_rfl
theorem anJ(x:Hl)(s:List UInt8)(bn:Nat)(w:au)(hb:bn<w.heap.size)(hc:w.cell? ⟨bn,0,none⟩=some (.string (bV s))):
 aR aj 148 #[.agg x.aA,.pointer (some ⟨bn,0,none⟩)] w (gP w (.bool (x.name==s))):=by
 have HB:=ah (fun ob=>(aH w.heap.size w).alloc (ay _) ob);go_enter Tryz.func148,Tryz.ntmps148;go_wp2;go_ret;exact⟨by simp,HB.out _⟩
theorem akC(l:List Hl)(s:List UInt8)(bn:Nat)(A:Option aU)(n c:Nat)(w:au)(hR:RdH w w.heap.size A n l)(hn:n<=100000)(hb:bn<w.heap.size)(hc:w.cell? ⟨bn,0,none⟩=some (.string (bV s))):
 aR aj 147 #[.slice A n c,.func (.func 148) #[] #[.pointer (some ⟨bn,0,none⟩)]] w (gP w (.int .i64 (Ae l s))):=by
 have hen:=Wp;have HR:=ah hR;have HN:=ah hR.1;have PR:=ah (fun x W (h:aN w.heap.size w W)=>anJ x s bn W (eU hb h.size) (by rw[h.cell (p:=⟨bn,0,none⟩) hb];exact hc));clear hR hc;go_enter Tryz.func147,Tryz.ntmps147;go_wp2;go_loopw [8] (fun s8 wr=>∃i:Nat,i<=n/\s8=.int .i64 i/\(∀k,k<i->(l.getD k lG).name≠s)/\aN w.heap.size w wr) (fun s8 _=>n-(intOf s8).toNat)
 case atStart=>exact⟨0,by omega,rfl,fun k hk=>by omega,aH _ _⟩
 case round=>
  obtain⟨i,wW,rfl,uU,hb⟩:=hrel;have Gu:=ah uU;have HB:=ah hb;clear uU hb;by_cases fP:i<n
  ·have hi:(i:Int)<n:=by omega
   obtain⟨b,o,rfl,Cb,hh,uh,_,_⟩:=(HR.out.below HB.out).hl fP;obtain⟨x,hx⟩:∃x,x=l.getD i lG:=⟨_,rfl⟩
   rw[<-hx]at uh;have HX:=ah hx;clear hx Cb;by_cases hq:x.name=s
   ·have hbq:(x.name==s)=true:=by rw[hq];simp
    have Wj:=ah (aro (by rw[HN.out];exact fP) (by rw[<-HX.out];exact hq) Gu.out);clear hq;go_wp2_with (go_at_call 148;refine(PR.out x _ HB.out).mono ?_;rintro e w1 ⟨rfl,gI⟩;clear hh uh;have qd:=ah gI;clear gI);go_ret;exact⟨by rw[Wj.out];rfl,ji HB.out qd.out⟩
   ·have hbq:(x.name==s)=false:=by simpa using hq
    have HQ:=ah hq;clear hq;go_wp2_with (go_at_call 148;refine(PR.out x _ HB.out).mono ?_;rintro e w1 ⟨rfl,gI⟩;clear hh uh;have qd:=ah gI;clear gI);go_roundw
    case rel=>exact⟨i+1,by omega,by go_num,fun k hk=>by
     by_cases KO:k=i
     ·rw[KO,<-HX.out];exact HQ.out
     ·exact Gu.out k (by omega),ji HB.out qd.out⟩
    case measure=>simp[intOf]<;>omega
  ·obtain rfl:i=n:=by omega
   have Wj:=ah (arp (l:=l) (s:=s) (fun k hk=>Gu.out k (by have:=HN.out;omega)));have hd:decide ((i:Int)<i)=false:=by simp
   go_wp2;go_ret;exact⟨by rw[Wj.out];rfl,HB.out⟩
def Lu(l:List Hl)(s:List UInt8)(well:Bool)(rise fall:Int):List Hl×Bool×Int:=
 if Ae l s<0 then(l,false,5)else(l.set (Ae l s).toNat (vk (l.getD (Ae l s).toNat lG) well rise fall).1,(vk (l.getD (Ae l s).toNat lG) well rise fall).2,0)
theorem arF{l:List Hl}{s:List UInt8}(h:Ae l s = -1)(well:Bool)(rise fall:Int):Lu l s well rise fall=(l,false,5):=by unfold Lu;rw[if_pos (by omega)]
theorem anK{l:List Hl}{s:List UInt8}{k:Nat}(h:Ae l s=k){well:Bool}{rise fall:Int}{x:Hl}(hx:x=l.getD k lG){q:Hl×Bool}(hq:vk x well rise fall=q):Lu l s well rise fall=(l.set k q.1,q.2,0):=by
 unfold Lu;rw[if_neg (by omega),h,Int.toNat_natCast,<-hx,hq]
def aAP(w:au)(n:Nat)(r:List Hl×Bool×Int)(e:kX)(w':au):Prop:=
 ∃A c,e=.returned (.tuple #[.slice A n c,.bool r.2.1,.int .i64 r.2.2])/\w'.ownsRow w.heap.size 100 3 (.slice A n c) n (xG r.1)/\aN w.heap.size w w'
theorem arG(l:List Hl)(s:List UInt8)(well:Bool)(rise fall:Int)(A:Option aU)(n c:Nat)(w:au)(hR:RdH w w.heap.size A n l)(hg:∀x∈l,auu x)(hn:n<=100000):
 aR aj 74 #[.slice A n c,.string (bV s),.bool well,.int .i64 rise,.int .i64 fall] w (aAP w n (Lu l s well rise fall)):=by
 have hen:=Wp;have HN:=ah hR.1;have HG:=ah hg;have IK:=ah (fun ob=>hR.up ob);have BN:=ah (dL.new w #[.string (bV s)] 9);have HB:=ah ((aH w.heap.size w).alloc (ay _) (.cells #[.string (bV s)] 9));clear hR hg;go_enter Tryz.func74,Tryz.ntmps74;go_wp2_with fail;refine(ML l A n c _ (IK.out _) hn).mono ?_;rintro e w1 ⟨A1,c1,rfl,Az,gI⟩;have aeh:=ah Az;have BN:=ah (BN.out.go gI);have HB:=ah (amR HB.out gI);clear Az gI;obtain⟨x1,x2,x3,x4⟩:=BN.out.aI;have l1:=BN.out.lt;go_wp2_with fail;refine(akC l s w.heap.size A1 n c1 _ (iO.iX HN.out aeh.out) hn l1 (by rw[x1];rfl)).mono ?_;rintro e w2 ⟨rfl,kF⟩;have aeh:=ah (iG (jv aeh.out kF) (base':=w.heap.size) (by simp));have HB:=ah (amR HB.out kF);clear kF x1 x2 x3 x4 l1;rcases agx l s with hp|⟨k,hp,hk⟩
 ·have HS:=ah (arF hp well rise fall)
  rw[hp];clear hp;go_wp2_with fail;go_ret3;exact⟨A1,c1,by rw[HS.out];rfl,by rw[HS.out];exact aeh.out,HB.out⟩
 ·have YB:k<n:=by rw[<-HN.out];exact hk
  have KO:(k:Int)<n:=by omega
  have HKL:=ah hk;obtain⟨x,hx⟩:∃x,x=l.getD k lG:=⟨_,rfl⟩
  obtain⟨⟨qx,qt⟩,hq⟩:∃q,vk x well rise fall=q:=⟨_,rfl⟩
  have HS:=ah (anK hp hx hq);have ST:=ah (fun W=>hq ▸ anj x well rise fall W (HG.out x (by rw[hx];exact ET lG l k hk)));obtain⟨b,o,hA,Cb,hh,hc,_,_⟩:=(iO.iX HN.out aeh.out).hl YB;rw[<-hx]at hc;obtain⟨g,rfl⟩:∃g,A1=some ⟨g,0,none⟩:=by
   rcases aeh.out.2 with⟨hv,_⟩|⟨g,cap,cur,hv,_⟩
   ·injection hv with e1 _ _;rw[e1]at hA;cases hA
   ·injection hv with e1 _ _;exact⟨g,e1⟩
  injection hA with hA
  injection hA with e1 e2
  subst e1 e2;rw[hp];have hnk:decide ((k:Int)<0)=false:=by simp
  rw[bB]at hh hc;clear hx hq hp hk;go_wp2_with fail;refine(ST.out _).mono ?_;rintro e w3 ⟨rfl,uH⟩;have OW:=ah (jv aeh.out uH);have hth:w3.there g (k*3) 3:=by
   rcases OW.out.2 with⟨hv,_⟩|⟨g',cap,cur,hv,_,h3,h4,_,h6,_⟩
   ·cases hv
   ·injection hv with e1 _ e3
    injection e1 with e1
    injection e1 with e1
    subst e1;refine dL.there (c:=cur) ⟨_,h3⟩ (k*3) 3 ?_;rw[h6];have:(k+1)*3<=cap*3:=cZ 3 (by omega);omega
  have SI:=ah (Sy (amR HB.out uH) g (k*3) qx (aeh.out.lt g rfl).1);have OF:=ah (YX qx.aA.toList _ _ (k*3) OW.out (by rw[aZ,Hl.ak];have:(k+1)*3<=n*3:=cZ 3 YB;omega));clear hh hc uH Cb;go_wp2_with fail;go_ret3;refine⟨some ⟨g,0,none⟩,c1,by rw[HS.out];rfl,?_,SI.out⟩;rw[HS.out];have:=OF.out;unfold xG at this;rw[anI Hl.aA 3 Hl.ak (by omega) l k HKL.out qx]at this;exact this
theorem DK:∀(l m:List UInt8)(c:Nat),c<=65535->oC c l m<=65535
 | [],m,c,h=>by cases m<;>exact h
 | [a],m,c,h=>by cases m<;>exact h
 | a::b::l,[],c,h=>h
 | a::b::l,[x],c,h=>h
 | a::b::l,x::y::m,c,h=>DK l m _ (Wm _ _ _)
def GM(n:Nat):GStep->Prop
 | .go _ w _=>n<=w.drawn
 | .comm _ _ _ _ w _=>n<=w.drawn
 | .spawn _ _ w _=>n<=w.drawn
 | .count _ w _=>n<=w.drawn
 | .timer _ _ w _=>n<=w.drawn
 | .alone _ _ w _=>n<=w.drawn
 | .newcoro _ _ _ w _=>n<=w.drawn
 | .coroswitch _ _ _ w _=>n<=w.drawn
 | .collect _ w _=>n<=w.drawn
 | .watch _ w _=>n<=w.drawn
 | .ended _ _ _=>True
def SM(n:Nat):Stepped->Prop
 | .next m=>n<=m.world.drawn
 | .ended _ _=>True
def awa{α:Type}:Result α->au
 | .ok _ w=>w
 | .halt _ w=>w
theorem GM.after{n:Nat}{es:Array Event}{s:GStep}(h:GM n s):GM n (s.after es):=by cases s<;>exact h
theorem abS(w:au)(a:aU)(n:Nat):(w.freeze a n).drawn=w.drawn:=by unfold World.freeze;split<;>rfl
theorem akD{α:Type}(a:Ask α):∀w:au,w.drawn<=(w.ask a).2.drawn:=by
 induction a with
 | done a=>intro w;exact ay _
 | ask what range k ih=>
   intro w;unfold World.ask;simp only;split
   ·exact ih _ w
   ·have:=ih ((Question.extern what range).cut (w.tape w.drawn (Question.extern what range))) {w with drawn:=w.drawn+1}
    exact aP (Nr _) this
theorem akE(w:au)(c:Sys):w.drawn<=(w.sys c).2.drawn:=by
 have h:=akD (Kernel.perform c w.os) w;unfold World.sys;split
 ·exact ay _
 ·rename_i e;rw[e]at h;exact h
theorem Ug{p:eF}{w w':au}{fE:aU}{u:bM}{k:aU}{v:aC}{atomic:Bool}{t:List aU}(h:w.viewStore p fE u k v atomic=.ok (w',t)):w'.drawn=w.drawn:=by
 unfold World.viewStore at h;simp only[bind,Except.bind,pure,Except.pure,throw,throwThe,MonadExceptOf.throw]at h
 repeat' split at h
 all_goals first
  | cases h;done
  | (injection h with h;injection h with h1 h2;rw[<-h1])
theorem Wq{p:eF}{w w':au}{a:aU}{v:aC}{atomic:Bool}{t:List aU}(h:w.farStore p a v atomic=.ok (w',t)):w'.drawn=w.drawn:=by
 unfold World.farStore at h;split at h
 ·split at h
  ·rename_i r hr
   injection h with h
   subst h;exact Ug hr
  ·cases h
 ·cases h
theorem KR{α:Type}(p:eF)(s:xO α):∀w:au,w.drawn<=(awa (s.run p w)).drawn:=by
 induction s with
 | pure a=>intro w;exact ay _
 | load m a k ih=>
   intro w;unfold Kk;split
   ·exact ih _ w
   ·split
    ·exact ih _ w
    ·exact ay _
 | store m a v k ih=>
   intro w;cases v<;>simp only[Kk]<;>first
    | exact ay _
    | (split
       ·split
        ·exact ay _
        ·exact ih (w.setCell a _)
       ·split
        ·rename_i e
         rw[<-Wq e];exact ih _
        ·exact ay _)
 | new o k ih=>intro w;exact ih _ {w with heap:=w.heap.push o}
 | shape r k ih=>intro w;exact ih _ w
 | freeze a n k ih=>intro w;have:=ih (w.freeze a n);rw[abS]at this;exact this
 | frozen a k ih=>intro w;exact ih _ w
 | getObj r k ih=>
   intro w;unfold Kk;split
   ·exact ay _
   ·exact ih _ w
   ·exact ay _
 | setObj r o k ih=>
   intro w;unfold Kk;split
   ·exact ay _
   ·exact ih {w with heap:=w.heap.setIfInBounds r o}
   ·exact ay _
 | choose q k ih=>
   intro w;unfold Kk;split
   ·exact ih _ w
   ·exact aP (Nr _) (ih _ {w with drawn:=w.drawn+1})
 | sys c k ih=>intro w;exact aP (akE w c) (ih _ _)
 | program k ih=>intro w;exact ih _ w
 | mark m k ih=>intro w;exact ih w
 | halt h=>intro w;exact ay _
theorem rZ{α:Type}(p:eF)(s:xO α):∀(w:au)(es:Array Event),w.drawn<=(awa (s.runT p w es).1).drawn:=fun w es=>by rw[Sem.runT_fst];exact KR p s w
theorem wE{α:Type}{p:eF}{s:xO α}{w w':au}{v:α}(h:s.run p w=.ok v w'):w.drawn<=w'.drawn:=by have:=KR p s w;rw[h]at this;exact this
theorem anL{α:Type}{p:eF}{s:xO α}{w w':au}{v:Halt}(h:s.run p w=.halt v w'):w.drawn<=w'.drawn:=by have:=KR p s w;rw[h]at this;exact this
theorem Wr{n:Nat}{c:Prop}[Decidable c]{a b:GStep}(ha:GM n a)(hb:GM n b):GM n (if c then a else b):=by split<;>assumption
theorem arH{α:Type}{p:eF}{s:xO α}{w w':au}{v:α}{es es':Array Event}(h:s.runT p w es=(.ok v w',es')):w.drawn<=w'.drawn:=by have:=rZ p s w es;rw[h]at this;exact this
theorem akF{α:Type}{p:eF}{s:xO α}{w w':au}{v:Halt}{es es':Array Event}(h:s.runT p w es=(.halt v w',es')):w.drawn<=w'.drawn:=by have:=rZ p s w es;rw[h]at this;exact this
theorem agN(n:Nat)(w:au)(fd:Nat)(text:ByteArray)(o:Outcome):GM n (endWith w fd text o):=by
 unfold endWith;simp only
 repeat' split
 all_goals trivial
theorem anM(fr:zA)(ahead:List ByteArray)(m:String)(whole:Bool)(w:au):GM w.drawn (dieOf fr ahead m whole w):=ay _
theorem Ag(fr:zA)(m:String)(w:au):GM w.drawn (endThrow fr m w):=ay _
theorem Jz(p:eF)(fr:zA)(v:aC)(w:au):GM w.drawn (endPrinting p fr v w):=by
 unfold endPrinting;simp only;split
 ·exact Ag _ _ _
 ·trivial
theorem GM.le{n m:Nat}{s:GStep}(h:GM m s)(hn:n<=m):GM n s:=by
 cases s<;>first|exact aP hn h|trivial
theorem SK(p:eF)(fr:zA)(callers:List zA)(dying:Option Dying)(m:String)(w:au):GM w.drawn (endFatal p fr callers dying m w):=by
 unfold endFatal;simp only;split
 ·rename_i h;exact(anM _ _ _ _ _).le (wE h)
 ·trivial
 ·trivial
theorem agO(p:eF)(fr:zA)(d:Dying)(f:Fatal)(w:au):GM w.drawn (writeOn p fr d f w):=by
 unfold writeOn;simp only;split
 ·trivial
 ·split
  ·rename_i h;exact arH h
  ·rename_i h;exact akF h
  ·trivial
  ·trivial
theorem JA(p:eF)(main:Bool)(fr:zA)(callers:List zA)(dying:Option Dying)(v:aC)(w:au):GM w.drawn (doReturn p main fr callers dying v w):=by
 unfold doReturn
 repeat' split
 all_goals first|exact ay _|trivial
theorem Uh(p:eF)(fr:zA)(callers:List zA)(dying:Option Dying)(d:Deferred)(w:au):GM w.drawn (callDeferred p fr callers dying d w):=by
 unfold callDeferred;refine Wr trivial ?_
 ·have h:=rZ p (invoke d.target d.args) w #[]
  generalize(invoke d.target d.args).runT p w #[]=x at h ⊢;obtain⟨r,es⟩:=x;simp only at h ⊢;refine GM.after ?_
  repeat' split
  all_goals first|exact h|trivial|exact(SK _ _ _ _ _ _).le h|exact(Ag _ _ _).le h
theorem akG(p:eF)(main:Bool)(fr:zA)(callers:List zA)(dying:Option Dying)(w:au):GM w.drawn (unwind p main fr callers dying w):=by
 unfold unwind;split
 ·rename_i block _ ds hd
  have h:=rZ p (Instr.takeDeferred block) w #[];generalize(Instr.takeDeferred block).runT p w #[]=x at h ⊢;obtain⟨r,es⟩:=x;simp only at h ⊢;refine GM.after ?_;split
  ·exact h
  ·trivial
 ·exact Uh _ _ _ _ _ _
 ·split
  ·trivial
  ·split
   ·trivial
   ·split
    ·exact ay _
    ·split
     ·split
      ·exact ay _
      ·split
       ·rename_i h;exact wE h
       ·trivial
       ·trivial
     ·split
      ·exact Jz _ _ _ _
      ·trivial
  ·split
   ·exact JA _ _ _ _ _ _ _
   ·rename_i fn hfn
    have h:=rZ p (results fn fr.tmps) w #[];generalize(results fn fr.tmps).runT p w #[]=x at h ⊢;obtain⟨r,es⟩:=x;simp only at h ⊢;refine GM.after ?_;split
    ·exact(JA _ _ _ _ _ _ _).le h
    ·trivial
    ·trivial
theorem anN(p:eF)(fr:zA)(callers:List zA)(dying:Option Dying)(g:Nat)(w:au):GM w.drawn (early p fr callers dying g w):=by
 unfold early;simp only
 repeat' split
 all_goals first|exact ay _|trivial|(have h:=wE (p:=p) (w:=w) (by assumption);exact h)
theorem awb(p:eF)(fr:zA)(d:Dying)(w:au):GM w.drawn (die p fr d w):=by
 unfold die;split
 ·exact agO _ _ _ _ _
 ·split
  ·exact Wr (ay _) (agN _ _ _ _ _)
  ·simp only
   split
   ·exact ay _
   ·split
    ·rename_i h;exact wE h
    ·trivial
   ·rename_i t recv name hp
    have h:=rZ p (invoke (.fn (.method name) #[]) #[.iface t recv]) w #[];generalize(invoke (.fn (.method name) #[]) #[.iface t recv]).runT p w #[]=x at h ⊢;obtain⟨r,es⟩:=x;simp only at h ⊢;refine GM.after ?_
    repeat' split
    all_goals first|exact h|trivial|exact(Jz _ _ _ _).le h
   ·trivial
theorem JB(p:eF)(listen:Bool)(fr:zA)(callers:List zA)(dying:Option Dying)(s:xO Next)(w:au):GM w.drawn (stepG.apply p listen fr callers dying s w):=by
 unfold stepG.apply;have h:w.drawn<=(awa (if listen=true then s.runT p w #[]else(s.run p w,#[])).1).drawn:=by
  split
  ·exact rZ p s w #[]
  ·exact KR p s w
 generalize(if listen=true then s.runT p w #[]else(s.run p w,#[]))=x at h ⊢;obtain⟨r,es⟩:=x;simp only at h ⊢;refine GM.after ?_
 repeat' split
 all_goals first|exact h|trivial|exact(SK _ _ _ _ _ _).le h|exact(Ag _ _ _).le h|exact(anN _ _ _ _ _ _).le h
theorem arI(p:eF)(listen:Bool)(fr:zA)(callers:List zA)(dying:Option Dying)(w:au):GM w.drawn (stepG.oper p listen fr callers dying w):=by
 unfold stepG.oper
 repeat' split
 all_goals first|trivial|exact JB _ _ _ _ _ _ _
theorem anO(p:eF)(main listen:Bool)(fr:zA)(callers:List zA)(dying:Option Dying)(w:au)(l:Nat)(jump:Option Code):GM w.drawn (match (Instr.endRound l jump).runT p w #[]with
 | (r,es)=>GStep.after (seen p fr.fn es) (match r with
  | .ok v w=>doReturn p main fr callers dying v w
  | .halt _ w=>.ended (.stuck "range over a function: no such loop" (fr.pos p)) w)):=by
 have h:=rZ p (Instr.endRound l jump) w #[];generalize(Instr.endRound l jump).runT p w #[]=x at h ⊢;obtain⟨r,es⟩:=x;simp only at h ⊢;refine GM.after ?_;split
 ·exact(JA _ _ _ _ _ _ _).le h
 ·trivial
theorem arJ(p:eF)(main listen:Bool)(fr:zA)(callers:List zA)(dying:Option Dying)(w:au):GM w.drawn (stepG.exec p main listen fr callers dying w):=by
 unfold stepG.exec;extract_lets go t0o lost leave;have hl:∀jump:Option Code,GM w.drawn (leave jump):=by
  intro jump;unfold leave;split
  ·exact Wr (ay _) trivial
  ·exact anO p main listen fr callers dying w _ jump
 split
 ·exact hl none
 ·exact hl (some .ret)
 ·exact ay _
 ·exact ay _
 ·exact ay _
 ·exact ay _
 ·exact ay _
 ·split
  ·exact ay _
  ·trivial
 ·exact ay _
 ·exact ay _
 ·exact ay _
 ·exact ay _
 ·rename_i id k hk
  cases exitTo id k with
  | none=>exact hl (some (.exit id))
  | some y=>exact ay _
 ·rename_i l k hk
  cases gotoIn l k with
  | none=>exact hl (some (.goto l))
  | some y=>exact ay _
 ·rename_i f params assign body k hk
  have h:=rZ p (Instr.enterLoop fr.fn fr.tmps params assign body fr.roundOf) w #[];generalize(Instr.enterLoop fr.fn fr.tmps params assign body fr.roundOf).runT p w #[]=x at h ⊢;obtain⟨r,es⟩:=x;simp only at h ⊢;refine GM.after ?_;split
  ·exact(JB _ _ _ _ _ _ _).le h
  ·trivial
 ·trivial
 ·exact JB _ _ _ _ _ _ _
 ·rename_i l k hk
  have h:=rZ p (Instr.endLoop l) w #[];generalize(Instr.endLoop l).runT p w #[]=x at h ⊢;obtain⟨r,es⟩:=x;simp only at h ⊢;refine GM.after ?_;split
  ·exact h
  ·exact h
  ·trivial
 ·trivial
 ·exact JB _ _ _ _ _ _ _
 ·rename_i row args _ hk
  cases Extern.next row with
  | none=>trivial
  | some e=>exact JB _ _ _ _ _ _ _
 ·refine Wr (ay _) ?_
  split
  ·rename_i h;exact wE h
  ·trivial
 ·exact ay _
 ·exact Wr (arI _ _ _ _ _ _) (ay _)
theorem arK(p:eF)(main:Bool)(g:Goroutine)(w:au)(listen:Bool):GM w.drawn (stepG p main g w listen):=by
 unfold stepG;simp only;split
 ·exact awb _ _ _ _
 ·exact arJ _ _ _ _ _ _ _
 ·exact akG _ _ _ _ _ _
theorem agP{n:Nat}{c:Prop}[Decidable c]{a b:Stepped×Array MemOp}(ha:SM n a.1)(hb:SM n b.1):SM n (if c then a else b).1:=by split<;>assumption
theorem aiY{n:Nat}{c:Prop}[Decidable c]{a b:Stepped}(ha:SM n a)(hb:SM n b):SM n (if c then a else b):=by split<;>assumption
theorem YZ{rest:Rest}{cs:Array CommCase}{w w':au}(h:waitingAt rest cs w=some w'):w'.drawn=w.drawn:=by
 unfold waitingAt at h;split at h
 ·split at h
  ·injection h with h;rw[<-h]
  ·cases h
 ·injection h with h;rw[h]
theorem arL(p:eF)(rest:Rest)(gs:Array Goroutine)(i:Nat)(g:Goroutine)(abT:Array CommCase)(blocking:Bool)(shape:CommShape)(w:au):SM w.drawn (communicate p rest gs i g abT blocking shape w).1:=by
 unfold communicate;extract_lets put aEu me auv ready pick;have hp:∀g gs (w':au) ops,w.drawn<=w'.drawn->SM w.drawn (put g gs w' ops).1:=fun _ _ _ _ h=>h
 refine agP trivial (agP (agP ?_ ?_) ?_)
 ·split
  ·rename_i h;exact aY (YZ h).symm
  ·trivial
 ·exact hp _ _ _ _ (ay _)
 ·split
  ·trivial
  ·rename_i k c way w1 hr
   have h1:=wE hr;extract_lets r;split
   ·split
    ·rename_i hh
     exact hp _ _ _ _ (aP h1 (anL hh))
    ·trivial
   ·exact hp _ _ _ _ h1
   ·exact hp _ _ _ _ h1
   ·extract_lets v aOP
    split
    ·exact hp _ _ _ _ h1
    ·split
     ·rename_i hb
      have h2:=wE hb;exact aP h1 h2
     ·trivial
   ·exact hp _ _ _ _ h1
   ·exact hp _ _ _ _ h1
   ·trivial
theorem aiZ(p:eF)(gs:Array Goroutine)(rest:Rest)(w:au):SM w.drawn (look p gs rest w):=by
 unfold look;split
 ·split
  extract_lets;refine aiY trivial ?_;split
  ·trivial
  ·extract_lets
   split
   ·rename_i h
    have h2:=wE h;exact h2
   ·trivial
   ·trivial
 ·trivial
theorem aaf(m:FU)(k:Nat)(t:Timer)(a b:Nat):(retime m k t a b).2.world.drawn=m.world.drawn:=by
 unfold retime;simp only;split
 ·unfold drain;split<;>rfl
 ·rfl
theorem anP{m m':FU}{op:TimerOp}{v:aC}(h:timerOp m op=.ok (v,m')):m'.world.drawn=m.world.drawn:=by
 unfold timerOp at h;split at h
 ·split at h
  ·injection h with h;injection h with h1 h2;rw[<-h2];rfl
  ·split at h
   ·split at h
    ·cases h
    ·injection h with h;injection h with h1 h2;rw[<-h2]
   ·cases h
 ·unfold timerOp.named at h
  split at h
  ·injection h with h
   have:=congrArg (fun x=>x.2.world.drawn) h;simp only at this;rw[<-this,aaf]
  ·cases h
 ·split at h
  ·rename_i m1 hm
   have e:m1.world.drawn=m.world.drawn:=by
    unfold timerOp.opened at hm;split at hm
    ·split at hm
     ·injection hm with hm;rw[<-hm]
     ·cases hm
    ·injection hm with hm;rw[<-hm]
   unfold timerOp.named at h;split at h
   ·injection h with h
    have:=congrArg (fun x=>x.2.world.drawn) h;simp only at this;rw[<-this,aaf,e]
   ·cases h
  ·cases h
 ·extract_lets at h
  injection h with h;injection h with h1 h2;rw[<-h2];rfl
theorem anQ(p:eF)(m:FU)(k:Nat):SM m.world.drawn (serve p m k):=by
 unfold serve;split
 ·trivial
 ·exact ay _
 ·extract_lets
  split
  ·trivial
  ·exact ay _
theorem arM(p:eF)(m:FU)(i:Nat)(listen:Bool):SM m.world.drawn (runT p m i listen).1:=by
 unfold runT;extract_lets rest world;split;rename_i g gs hsw;extract_lets aOQ fn pos s ops done;have h:GM m.world.drawn s:=arK p (i==0) g world listen;have hd:∀r,(done r).1=r:=fun _=>rfl
 generalize s=s at h;cases s with
 | ended o w es=>trivial
 | comm g abT b sh w es=>
   have h2:=arL p rest gs i g abT b sh w;simp only;generalize communicate p rest gs i g abT b sh w=x at h2 ⊢;obtain⟨r,lF⟩:=x;simp only at h2 ⊢;cases r with
   | next m2=>exact aP h h2
   | ended=>trivial
 | go g w es=>exact h
 | spawn g c w es=>exact h
 | count g w es=>
   simp only;rw[hd];refine aiY trivial ?_;exact h
 | alone g on w es=>exact h
 | collect g w es=>
   simp only;rw[hd];have h2:=aiZ p (gs.setIfInBounds i g) rest w;generalize look p (gs.setIfInBounds i g) rest w=r at h2 ⊢;cases r with
   | next m2=>exact aP h h2
   | ended=>trivial
 | watch g w es=>exact h
 | newcoro g c d w es=>exact h
 | coroswitch g c exit w es=>
   simp only;rw[hd];split
   ·exact h
   ·have h2:=Ag g.frame "coroswitch on exited coro" w
    split
    ·rename_i e;rw[e]at h2;exact aP h h2
    ·trivial
   ·trivial
 | timer g op w es=>
   simp only;rw[hd];split
   ·rename_i ht;have h2:=anP ht;show _<=_;exact aP h (aY h2.symm)
   ·rename_i msg ht
    have h2:=Ag g.frame msg w;split
    ·rename_i e;rw[e]at h2;exact aP h h2
    ·trivial
   ·trivial
   ·trivial
theorem SM.le{n m:Nat}{s:Stepped}(h:SM m s)(hn:n<=m):SM n s:=by cases s with|next m2=>exact aP hn h|ended=>trivial
def MM(n:Nat):Move->Prop
 | .goroutine m _=>n<=m.world.drawn
 | .machine s _=>SM n s
theorem Ws(p:eF)(m:FU):MM m.world.drawn (askOn p m):=by
 unfold askOn;extract_lets mono rs ds pick;have hp:∀m2:FU,m.world.drawn<=m2.world.drawn->MM m.world.drawn (pick m2):=by
  intro m2 h;unfold pick;split
  ·trivial
  ·rename_i hk
   have h1:=wE hk;split
   ·exact aP h h1
   ·split
    ·trivial
    ·rename_i hn
     have h2:=wE hn;exact aP h (aP h1 h2)
 split
 ·trivial
 ·rename_i k world hk
  have h1:=wE hk;extract_lets m1;have hm:m.world.drawn<=m1.world.drawn:=h1
  clear_value pick m1
  clear hk
  clear_value ds rs
  split
  ·exact SM.le (anQ p m1 _) hm
  ·cases rs with
   | nil=>
     simp only;split
     ·exact hm
     ·split
      ·exact hm
      ·split<;>trivial
   | cons r rs=>
     simp only;split
     ·exact hp _ hm
     ·split
      ·trivial
      ·rename_i hw;have h2:=wE hw;exact hp _ (by first|exact aP hm h2|exact aP h1 h2)
      ·rename_i hw;have h2:=wE hw;first|exact aP hm h2|exact aP h1 h2
      ·rename_i hw;have h2:=wE hw;exact hp _ (by first|exact aP hm h2|exact aP h1 h2)
theorem MM.le{n m:Nat}{s:Move}(h:MM m s)(hn:n<=m):MM n s:=by
 cases s with
 | goroutine m2 i=>exact aP hn h
 | machine s ops=>exact SM.le h hn
theorem anR(p:eF)(m:FU):MM m.world.drawn (ask p m):=by
 unfold ask;split
 ·split
  ·trivial
  ·rename_i hk
   have h1:=wE hk;have h2:=aiZ p m.gs m.rest (by assumption);split
   ·rename_i e
    rw[e]at h2;exact(Ws p _).le (aP h1 h2)
   ·exact SM.le h2 h1
  ·rename_i hk
   have h1:=wE hk;exact(Ws p _).le h1
 ·exact Ws p m
theorem arN(p:eF)(m:FU):MM m.world.drawn (move p m):=by
 unfold move;split
 ·split
  ·exact ay _
  ·trivial
 ·split
  ·split
   ·exact ay _
   ·exact anR p _
  ·exact anR p m
theorem arO(p:eF)(m:FU):SM m.world.drawn (step p m):=by
 unfold step stepT;have h:=arN p m;split
 ·rename_i m2 i e
  rw[e]at h;exact(arM p m2 i true).le h
 ·rename_i s ops e
  rw[e]at h;exact h
theorem ai0(p:eF):∀(n:Nat)(m:FU),SM m.world.drawn (runN p n m)
 | 0,m=>ay _
 | n+1,m=>by
   unfold runN;have h:=arO p m;split
   ·rename_i m2 e
    rw[e]at h;exact(ai0 p n m2).le h
   ·exact h
theorem SX{P:eF}{m m':FU}(h:Steps P m m'):m.world.drawn<=m'.world.drawn:=by
 obtain⟨n,hn⟩:=h;have:=ai0 P n m;rw[hn]at this;exact this
theorem Calls.drawn{P:eF}{f:FuncId}{args:Array aC}{w:au}{R:kX->au->Prop}(h:aR P f args w R):aR P f args w (fun e w'=>R e w'/\(e≠.outgrown->w.drawn<=w'.drawn)):=by
 intro cs;obtain⟨e,w',fr,h1,h2,h3,h4⟩:=h cs;refine⟨e,w',fr,⟨h1,fun he=>?_⟩,h2,h3,h4⟩;cases e with
 | returned v=>exact SX h2
 | panicked c=>exact SX h2
 | outgrown=>exact absurd rfl he
open Go.RowKit in
theorem arP {w w':au} (hb:aN w.heap.size w w') (hd:w.drawn<=w'.drawn):∃q os,w'=Sort.grow (w.drewN q) os:=by
 refine⟨w'.drawn-w.drawn,w'.heap.extract w.heap.size w'.heap.size,?_⟩;have hh:w'.heap=w.heap++w'.heap.extract w.heap.size w'.heap.size:=by
  apply dV;intro i;rw[Array.getElem?_append];split
  ·rename_i h;exact hb.block i h
  ·rename_i h
   rw[dx];have:=hb.size;by_cases hi:i<w'.heap.size
   ·rw[if_pos (by omega),show w.heap.size+(i-w.heap.size)=i by omega]
   ·rw[if_neg (by omega),aV (by omega)]
 obtain⟨h,t,d,o,u⟩:=w';have h1:=hb.os;have h2:=hb.tape;have h3:=hb.output;simp only at h1 h2 h3 hh hd;subst h1 h2 h3;unfold Sort.grow World.drewN;simp only;congr 1;omega
open Go.RowKit in
theorem Calls.aAQ {P:eF} {f:FuncId} {args:Array aC} {w:au} {v:aC} (h:aR P f args w fun e w'=>e=.returned v/\aN w.heap.size w w'):aR P f args w fun e w'=>e=.returned v/\∃q os,w'=Sort.grow (w.drewN q) os:=by
 refine(Calls.drawn h).mono ?_;rintro e w' ⟨⟨rfl,hb⟩,hd⟩;exact⟨rfl,arP hb (hd (fun h=>by cases h))⟩
end Go.Proofs.YtkjojjopamaoiaaGreat
