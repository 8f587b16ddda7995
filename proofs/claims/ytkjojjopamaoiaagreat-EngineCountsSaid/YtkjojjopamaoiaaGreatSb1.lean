/- Parts. -/
import Derived.WalkSpells
import Derived.WalkLawsBesides
import Derived.Deep.OwnRows
import Derived.Lib.Hide
import Derived.Deep.AppendLies
import Derived.Test.YtkjojjopamaoiaaGreatRows
import Derived.ProofKit
import Derived.OpenShut
import Derived.Lib.ConvBytes
import Derived.Deep.WholeRow
import Derived.Deep.Fields
import Derived.Lib.Bytealg
import Derived.BigQuiet
import Derived.Deep.CutRange
import Derived.Laws.CopyOwn
import Derived.Lib.AppendZerosOnto
import Derived.Lib.Overlaps
import Derived.Deep.RegionHeld3
import Derived.StillTail
set_option linter.unusedSimpArgs false
set_option linter.unusedVariables false
set_option linter.unusedSectionVars false
set_option maxRecDepth 100000
set_option maxHeartbeats 8000000
open Array renaming getElem?_eq_getElem->fD,ext_getElem?->dZ,getElem?_eq_none->aU,length_toList->aZ,getElem?_toList->dD,getElem?_extract->dx,size_extract->jG,getElem?_modify->zy,getElem?_eq_some_iff->bW,foldl_toList->Ct,range->lW,mapM->iy,all_eq_true_iff_forall_mem->gu,ext'->oQ,size->Array.j,toList->Array.a,getD->Array.c,setIfInBounds->Array.b
open BitVec renaming ofInt->fZ,ofInt_natCast->lU,toNat_ofNat->ny,ofNat->GK,toNat->BitVec.e
open Bool renaming eq_iff_iff->bV,and_eq_true->bl,not_true->uG,or_eq_true->nu,toNat->Bool.e
open ByteArray renaming size->ByteArray.j,toList->ByteArray.a
open Go renaming Addr->aT,World->ak,Value->aB,TypeId->bF,Program->eG,TypeInfo->nI,run_underlying->dJ,Oper->iZ,Act->qR,Exit->zO,Operand->pG,wpList_plain->sO,Calls->aP,DataW->zw,MemPlace->sP,cell_of_row->sQ,heap_alloc_new->Gl,setRow_heap->rD,Field->nS,Sem->wX,Ending->lq,run_storeAt_new->yO,run_storeAt_mid->DU,run_equalIn_struct->zh,results_cell_tmp->Kk,run_callFunc_extern->yu,bodyPost_ret->aN,wpQuiet_nil->gK,run_equal_slice_nil->jc,mem_ready->kH,getD_replicate_false->mI,underlying->Go.k
open Go.Addr renaming add->qy,add_mid->iC
open Go.BoundsCode renaming toNat->Go.BoundsCode.e
open Go.Builtin renaming append_->zV,firstCells->tL,copy_->qA,zeroCells->nQ
open Go.Calls renaming mono->Go.Calls.g
open Go.DataW renaming trod->lX,slice->Go.DataW.a,agg->Go.DataW.d
open Go.Ending renaming returned->Go.Ending.a
open Go.Field renaming name->Go.Field.E,offset->Go.Field.Y,type->Go.Field.p
open Go.FloatKind renaming f64->jX
open Go.Func renaming name->Go.Func.E
open Go.Instr renaming loadAt->bZ,buildSlice->bJ,fill->fE,build->fM,storeAt->eD,sureAddr->yH,slice->Go.Instr.a
open Go.IntKind renaming min->Jm,max->Jo,signed->lT,bits->nP,i64->bR,u64->jy,wrap_u64->jU,wrap->vI,u16->Dm,i64->Go.IntKind.a,u8->Go.IntKind.b,u64->Go.IntKind.c
open Go.Lib renaming hid->ab,compareBytes->iw
open Go.Lit renaming int->Go.Lit.b,bool->Go.Lit.e,string->Go.Lit.g
open Go.Obj renaming cells->Go.Obj.D
open Go.Op renaming eqItems->J4,equalIn->jf,eqFields->vY,bytesLess->bQ,slice->Go.Op.a
open Go.Oper renaming wp->ni,dst->Go.Oper.X,type->Go.Oper.p
open Go.Program renaming cellsOf->zX,fieldsOf->jT,underlying->Go.Program.k,cellsOf->Go.Program.a
open Go.Proofs.Tryz renaming prog->ah,underlying56->cu,underlying4->nJ,underlying9->iO,underlying3->gQ,underlying100->qZ,underlying33->rU,underlying5->lC,underlying62->nY,underlying27->fB,underlying25->EH,underlying22->qh,func125->Ca,ntmps125->zY,underlying30->jl
open Go.Region renaming wanted->fF,ready->gq,binds->qB,lexTailB->wZ
open Go.Result renaming andThen_ok->gM,andThen->iD,ok->Go.Result.Z
open Go.RowKit renaming Below->aL
open Go.RowKit.Below renaming heap_setCell->qW,refl->aG,size->Go.RowKit.Below.j,mono->Go.RowKit.Below.g,setCell->Go.RowKit.Below.F
open Go.RowKit.Hid renaming out->Go.RowKit.Hid.i
open Go.Sem renaming run_bind->jK,run_pure->oh,run->Jr,run->Go.Sem.I
open Go.Tables renaming info?->Go.Tables.l
open Go.TypeDesc renaming slice->Go.TypeDesc.a,int->Go.TypeDesc.b,pointer->Go.TypeDesc.c,bool->Go.TypeDesc.e,tuple->Go.TypeDesc.J,string->Go.TypeDesc.g,struct->Go.TypeDesc.d
open Go.TypeInfo renaming size->Go.TypeInfo.j
open Go.Value renaming int->aI,agg->bY,string->iB,bool->bM,oneCell'->cZ,float->vH,cells->cK,cells->Go.Value.D,slice->Go.Value.a,int->Go.Value.b,pointer->Go.Value.c,agg->Go.Value.d,bool->Go.Value.e,tuple->Go.Value.J,ownBlock->Go.Value.f,oneCell'->Go.Value.h,string->Go.Value.g
open Go.World renaming cell?_alloc_lt->vG,cell?_setCell_other->vW,setCell->gX,cell?->DV,frozen?->rY,setCells->Cu,ownsRow_nil->fu,ownsRow_lit->nU,heap->Go.World.a,cell?->Go.World.b,setCell->Go.World.F,ownsRow->Go.World.c,there->Go.World.M,grownBy->Go.World.d
open Go.World.grownBy renaming size->Go.World.grownBy.j
open Go.World.ownsRow renaming cells->Go.World.ownsRow.D
open Ieee renaming double->tV
open Int renaming lt_or_le->wu,natCast_emod->Hg,toNat->Int.e
open List renaming getElem?_eq_getElem->aC,getElem?_drop->jo,length_take->bK,getElem?_eq_none->aS,mem_map->iV,getElem?_map->jk,getD_eq_getElem?_getD->au,eq_nil_of_length_eq_zero->bE,map_map->Hq,map_cons->kL,range->dP,foldl_cons->jW,length_cons->bC,take_succ_eq_append_getElem->dR,take_of_length_le->aK,mem_append_left->Ai,append_nil->uF,getElem?_toArray->dV,map_congr_left->BR,mem_range->eO,zipIdx_cons->GI,length_set->aV,take_append_drop->iF,ext_getElem?->iL,flatMap_cons->iM,getElem?_append_left->mM,getElem?_append_right->qY,length_append->aR,ofFn->GJ,drop_eq_getElem_cons->kU,getElem_mem->eU,getElem?_append->kR,nil_append->dF,all_eq_true->gJ,findIdx?_eq_some_iff_getElem->gV,append_assoc->dB,take_append_of_le_length->gF,drop_of_length_le->iW,mem_cons->bg,replicate->dX,getElem?_range->wH,length->KT,set_cons_succ->bH,getElem?_set->fJ,pairwise_cons->gN,length->List.a,toArray->List.b,getD->List.c,take->List.d,drop->List.f,flatMap->List.h,below->List.O
open Nat renaming add_assoc->mZ,mul_le_mul_right->dw,lt_or_ge->aY,eq_zero_or_pos->eu,le_trans->aO,lt_of_lt_of_le->eY,le_refl->av,zero_add->bB,shiftLeft_eq->mE,pow_le_pow_right->nK,min_eq_left->oC,min_eq_right->zW,lt_succ_self->mF,mul_one->gH,succ_mul->Jp,mul_comm->Cw,div_lt_iff_lt_mul->zP,mod_lt->fH,add_zero->nD,add_comm->lM,two_pow_pos->nE,pow_add->oD,ne_of_gt->uq,le_of_lt_succ->EU,zero_mul->Jq,mod_eq_of_lt->fP,div_le_self->J5,min->ql,mul_le_mul->gU,succ_pos->mH,below->Nat.O
open Ne renaming symm->jr
open Option renaming map_some->lV,getD_some->jB,getD->Option.c
open Option.some renaming injEq->qV
open Or renaming inl->Or.a,inr->Or.b
open UInt8 renaming ofNat->aJ,toNat_ofNat'->Cv,toNat_inj->lY,lt_iff_toNat_lt->zA,lt_irrefl->kG,lt_trans->sS,toNat->UInt8.e,toNat_lt->UInt8.a
open Vector renaming ofFn->DT,replicate->bG,toList->Vector.a
namespace Go.Proofs.YtkjojjopamaoiaaGreat
open Go.RowKit
abbrev gD(w:World)(v:Value):Ending->World->Prop:=fun e w'=>e=.returned v/\Below w.heap.size w w'
abbrev aA:Value:=.int .u8 0
abbrev bf:Value:=.int .i64 0
theorem tN{α:Type _}(x:α):∃y,x=y:=⟨_,rfl⟩
theorem cB{α:Type _}(x:α):∃y,y=x:=⟨_,rfl⟩

theorem aov(a b:Nat):((a:Int)==(b:Int))=(a==b):=by rw[bV];simp;omega
theorem AB(a:aT)(n:Nat):(a.add n).block=a.block:=by unfold qy;split<;>rfl
theorem abP(a:aT)(i j:Nat):(a.add i).add j=a.add (i+j):=by
 unfold qy;by_cases hi:i=0<;>by_cases hj:j=0<;>simp[hi,hj,mZ]
theorem Ox(a:aT):a.add 0=a:=by unfold qy;simp
def Rd(w:ak)(B size:Nat)(A:Option aT)(n:Nat)(xs:List aB):Prop:=
 xs.a=n*size/\(0<n->∃a,A=some a/\a.block<B/\∀j u,xs[j]? = some u->w.b (a.add j)=some u)
section
variable {w w':ak} {B B' size n:Nat} {A:Option aT} {xs:List aB}
theorem Rd.nil:Rd w B size A 0 []:=⟨by simp,fun h=>absurd h (by omega)⟩
theorem Rd.pick{k:Nat}(h:Rd w B 1 A n xs)(hk:k<n):∃a u,A=some a/\a.block<B/\xs[k]? = some u/\w.b (a.add k)=some u:=by
 obtain⟨a,e,hb,hc⟩:=h.2 (by omega);have hl:k<xs.a:=by have:=h.1;omega
 exact⟨a,xs[k],e,hb,aC hl,hc k _ (aC hl)⟩
theorem Rd.keep(h:Rd w B size A n xs)(hk:∀p:aT,p.block<B->w'.b p=w.b p):Rd w' B size A n xs:=
 ⟨h.1,fun hn=>by
  obtain⟨a,e,hb,hc⟩:=h.2 hn;exact⟨a,e,hb,fun j u hu=>(hk _ (by rw[AB];exact hb)).trans (hc j u hu)⟩⟩
theorem Rd.lF(h:Rd w B size A n xs)(hB:B<=B'):Rd w B' size A n xs:=
 ⟨h.1,fun hn=>by
  obtain⟨a,e,hb,hc⟩:=h.2 hn;exact⟨a,e,by omega,hc⟩⟩
theorem Rd.O(h:Rd w B size A n xs)(hb:aL B w w'):Rd w' B size A n xs:=h.keep fun _ hp=>hb.cell hp
theorem Rd.to{C:Nat}(h:Rd w B size A n xs)(hb:aL C w w')(hC:B<=C):Rd w' B size A n xs:=h.keep fun _ hp=>hb.cell (by omega)
theorem Rd.alloc(h:Rd w B size A n xs)(hB:B<=w.a.j)(o:Obj):Rd (w.alloc o) B size A n xs:=h.keep fun p hp=>vG w o p (by omega)
theorem Rd.F(h:Rd w B size A n xs){p:aT}(hB:B<=p.block)(u:aB):Rd (w.F p u) B size A n xs:=
 h.keep fun q hq=>vW w p q u (fun e=>by subst e;omega)
theorem Rd.cut(h:Rd w B size A n xs){k cap:Nat}(hk:k<=n)(hc:n<=cap):
 Rd w B size (if cap=k then A else A.map (·.add (k*size))) (n-k) (xs.f (k*size)):=by
 refine⟨by rw[List.length_drop,h.1,Nat.sub_mul],fun hn=>?_⟩;obtain⟨a,rfl,hb,hcell⟩:=h.2 (by omega);rw[if_neg (by omega)];refine⟨a.add (k*size),rfl,by rw[AB];exact hb,fun j u hu=>?_⟩;rw[abP];exact hcell _ u (by rw[<-hu,jo])
theorem Rd.upto(h:Rd w B size A n xs){k:Nat}(hk:k<=n):Rd w B size A k (xs.d (k*size)):=by
 refine⟨by rw[bK,h.1];have:=dw size hk;omega,fun hn=>?_⟩;obtain⟨a,rfl,hb,hcell⟩:=h.2 (by omega);refine⟨a,rfl,hb,fun j u hu=>?_⟩;rcases aY j (k*size)with h1|h1
 ·rw[List.getElem?_take_of_lt h1]at hu
  exact hcell j u hu
 ·rw[aS (by rw[bK];omega)]at hu;cases hu
theorem Rd.iQ{base:Nat}{e:bF}{c:Nat}(h:w.c base e size (.a A n c) n xs):Rd w w.a.j size A n xs:=by
 refine⟨h.1,fun hn=>?_⟩;rcases h.2 with⟨_,h0⟩|⟨g,cap,cur,hv,_,_,_,_,_,_⟩
 ·omega
 ·injection hv with hA _ _
  have hl:=(h.lt g (by rw[hA];rfl)).2;exact⟨⟨g,0,none⟩,hA,hl,h.D (by rw[hA];rfl)⟩
end
def bv(b:UInt8):aB:=.b .b (b.e:Nat)
theorem EZ(l:List UInt8):∀u∈l.map bv,u.h=true:=by
 intro u hu;obtain⟨b,_,rfl⟩:=iV.1 hu;rfl
def fU(w:ak)(B:Nat)(A:Option aT)(n:Nat)(l:List UInt8):Prop:=Rd w B 1 A n (l.map bv)
section
variable {w w':ak} {B B' n:Nat} {A:Option aT} {l:List UInt8}
theorem fU.len(h:fU w B A n l):l.a=n:=by have:=h.1;simpa using this
theorem fU.fI(h:fU w B A n l){k:Nat}(hk:k<n):∃a,A=some a/\a.block<B/\w.b (a.add k)=some (bv (l.c k 0)):=by
 obtain⟨a,u,e,hb,hu,hc⟩:=Rd.pick h hk;refine⟨a,e,hb,?_⟩;rw[hc];have hl:=h.len;rw[jk,aC (by omega)]at hu;simp only[lV,qV]at hu;rw[<-hu,au,aC (by omega)];rfl
theorem fU.O(h:fU w B A n l)(hb:aL B w w'):fU w' B A n l:=Rd.O h hb
theorem fU.to{C:Nat}(h:fU w B A n l)(hb:aL C w w')(hC:B<=C):fU w' B A n l:=Rd.to h hb hC
theorem fU.lF(h:fU w B A n l)(hB:B<=B'):fU w B' A n l:=Rd.lF h hB
theorem fU.alloc(h:fU w B A n l)(hB:B<=w.a.j)(o:Obj):fU (w.alloc o) B A n l:=Rd.alloc h hB o
theorem fU.F(h:fU w B A n l){p:aT}(hB:B<=p.block)(u:aB):fU (w.F p u) B A n l:=Rd.F h hB u
theorem fU.akB{b c:Nat}{t:bF}{N:Nat}{f:Nat->aB}(h:w.rowIs b t N f)(hn:l.a<=N)(hb:b<B)(hf:∀j,j<l.a->f j=bv (l.c j 0)):fU w B (some ⟨b,0,none⟩) l.a l:=by
 refine⟨by simp,fun h0=>⟨⟨b,0,none⟩,rfl,hb,fun j u hu=>?_⟩⟩;have hj:j<l.a:=by
  rcases aY j l.a with h1|h1
  ·exact h1
  ·rw[aS (by simpa using h1)]at hu;cases hu
 have e:(⟨b,0,none⟩:aT).add j=⟨b,j,none⟩:=by unfold qy;split<;>simp_all
 rw[e,h.cell (by omega),hf j hj];rw[jk,aC hj]at hu;simp only[lV,qV]at hu;rw[<-hu,au,aC hj];rfl
end
def bT(l:List UInt8):ByteArray:=⟨l.b⟩
theorem QE(s:ByteArray):bT s.data.a=s:=by cases s;rfl
theorem H9{P:eG}{w:ak}{B:Nat}{A:Option aT}{n:Nat}{l:List UInt8}(h:fU w B A n l)(src e dst:bF)
 (hs:P.k src=some (.a e)) (he:P.k e=some (.b .b)) (hd:P.k dst=some .g) (c:Nat) :
 (convert src dst (.a A n c)).I P w = .Z (.g (bT l)) w:=by
 have hlen:=h.len;cases A with
 | none=>
   have h0:n=0:=by
    rcases eu n with h0|h0
    ·exact h0
    ·obtain⟨a,ha,_⟩:=h.2 h0;cases ha
   have hl:l=[]:=bE (by omega);subst hl;rw[run_convert_bytes_nil w src e hs he n c dst hd];rfl
 | some a=>
   have hld:(loadCells a n).I P w = .Z ((l.map fun b=>(b.e:Int)).map (aI .b)).b w:=by
    have hm:(l.map fun b=>(b.e:Int)).map (aI .b)=l.map bv:=by rw[Hq];rfl
    rw[hm];have:=run_loadCells_list (P:=P) w a (l.map bv) (fun j v hj=>by
     have hn:0<n:=by
      rcases eu n with h0|h0
      ·have hl:l=[]:=bE (by omega)
       subst hl;simp at hj
      ·exact h0
     obtain⟨a',ha,_,hc⟩:=h.2 hn;injection ha with ha
     subst ha;exact hc j v hj)
    simpa[hlen]using this
   rw[run_convert_bytes_string w src dst e _ n c hs he hd,run_bytesToString w _ n c _ hld,foldl_push_bytes];simp[bT,ByteArray.empty,ByteArray.emptyWithCapacity,Hq,Function.comp_def];rfl
theorem Aj{a w:ak}{row:Option Nat}(h:a.d w row):a.d w.drew row:=⟨h.os,h.tape,h.output,h.j,h.block⟩
theorem xK{a w:ak}{g:Nat}(h:a.d w (some g)){p:aT}(hp:p.block=g\/a.a.j<=p.block)(u:aB):a.d (w.F p u) (some g):=
 ⟨h.os,h.tape,h.output,by simpa[gX]using h.j,fun i hi hne=>(qW w p u i (by
  rintro rfl;rcases hp with hp|hp
  ·exact hne (by rw[hp])
  ·omega)).trans (h.block i hi hne)⟩
theorem Mc{a b c:ak}{row:Option Nat}(h:a.d b row)(k:b.d c row):a.d c row:=
 ⟨k.os.trans h.os,k.tape.trans h.tape,k.output.trans h.output,aO h.j k.j,fun i hi hne=>(k.block i (eY hi h.j) hne).trans (h.block i hi hne)⟩
theorem sj{B:Nat}{a b c:ak}{g:Nat}(h:aL B a b)(k:b.d c (some g))(hg:B<=g)(hB:B<=b.a.j):aL B a c:=
 h.grown k hB (fun x hx=>by injection hx with hx;omega)
theorem eH{B:Nat}{a w:ak}(h:aL B a w)(n:Nat):aL B a (w.drewN n):=⟨h.os,h.tape,h.output,h.j,h.block⟩
theorem iX{w a b:ak}(h1:aL w.a.j w a)(h2:aL a.a.j a b):aL w.a.j w b:=h1.trans (h2.g h1.j)
theorem aow{w a b:ak}(h1:aL w.drew.a.j w.drew a)(h2:aL a.a.j a b):aL w.a.j w b:=
 have h:aL w.a.j w a:=⟨h1.os,h1.tape,h1.output,h1.j,h1.block⟩
 h.trans (h2.g h1.j)
theorem aox(l r:List UInt8):(l==r)=decide (l=r):=by rw[bV];simp
theorem dig(n:Nat)(h:n<256):(aJ n).e=n:=by simp[UInt8.toNat_ofNat];omega
theorem jE{w:ak}{base:Nat}{e:bF}{size:Nat}{v:aB}{n:Nat}{xs:List aB}(h:w.c base e size v n xs):∃A cap,v=.a A n cap/\n<=cap/\cap<=maxLen:=by
 rcases h.2 with⟨rfl,rfl⟩|⟨g,cap,cur,rfl,_,_,h1,h2,_,_⟩
 ·exact⟨_,_,rfl,av _,by unfold maxLen;omega⟩
 ·exact⟨_,_,rfl,h1,h2⟩
section
variable {P:eG} (w:ak)
theorem abQ(base:Nat)(t ty e:bF)(i:nI)(size:Nat)(ht:P.k t=some (.a e))(hi:P.l e=some i)
 (v:aB) (n:Nat) (xs:List aB) (hown:w.c base e size v n xs) (c:Nat):(zV #[t,t] ty #[v,.a none 0 c]).I P w = .Z v w:=by
 rcases hown.2 with⟨rfl,rfl⟩|⟨g,cap,cur,rfl,_,_,hnc,_⟩
 ·simp[zV,dJ ht,sizeOf,typeInfo,hi,Builtin.lenOf,tL]
 ·simp[zV,dJ ht,sizeOf,typeInfo,hi,Builtin.lenOf,tL,hnc,storeCells]
theorem aez(base:Nat)(t ty e:bF)(i:nI)(z:aB)(size bytes:Nat)(ht:P.k t=some (.a e))(hi:P.l e=some i)(hz:i.zero=some z)
 (hsize:i.j=size) (hby:i.bytes=bytes) (hzs:z.D.j=size) (hsz:0<size)
 (v:aB) (n:Nat) (xs:List aB) (hown:w.c base e size v n xs)
 (B:Nat) (A:Option aT) (m c:Nat) (news:List aB) (hr:Rd w B size A m news) (h1:∀u∈news,u.h=true)
 (h63:n+m<=maxLen) (hbytes:(n+m)*bytes<=140737488355328) (hbase:base<=w.a.j) :
 ∃v' w',(zV #[t,t] ty #[v,.a A m c]).I P w = .Z v' w'/\w'.c base e size v' (n+m) (xs++news)/\w.d w' v.f /\
  (v'.f=v.f\/v'.f=some w.a.j):=by
 rcases A with _|ad
 ·have hm:m=0:=by
   rcases eu m with h0|h0
   ·exact h0
   ·obtain⟨ad,h,_⟩:=hr.2 h0
    cases h
  subst hm;have hn:news=[]:=bE (by simpa using hr.1);subst hn;exact⟨v,w,abQ w base t ty e i size ht hi v n xs hown c,by simpa using hown,World.grownBy.refl w _,.a rfl⟩
 ·have hcells:∀j u,news[j]? = some u->w.b (ad.add j)=some u:=by
   intro j u hu;rcases eu m with h0|h0
   ·subst h0
    have hn:news=[]:=bE (by simpa using hr.1);subst hn;simp at hu
   ·obtain⟨ad',h,_,hc⟩:=hr.2 h0
    injection h with h
    subst h;exact hc j u hu
  obtain⟨v',w',hrun,h2,h3,_,h5⟩:=run_append_own_at (P:=P) w base t ty e i z size bytes ht hi hz hsize hby hzs hsz v n xs hown ad m c news hr.1 hcells h1 h63 hbytes hbase;exact⟨v',w',hrun,h2,h3,h5⟩
theorem Jy{o:iZ}{a:qR}{K:qR->ak->Prop}{Q:zO->qR->ak->Prop}(s x:pG)(t:bF)
 (ho:o.op=.call {callee:=.builtin .append,args:=#[s,x],argTypes:=#[t,t]})
 (base:Nat) (e:bF) (i:nI) (z:aB) (size bytes:Nat) (ht:P.k t=some (.a e)) (hi:P.l e=some i) (hz:i.zero=some z)
 (hsize:i.j=size) (hby:i.bytes=bytes) (hzs:z.D.j=size) (hsz:0<size)
 (v:aB) (n:Nat) (xs:List aB) (hs:a.eval s=v) (hown:w.c base e size v n xs)
 (B:Nat) (A:Option aT) (m c:Nat) (news:List aB) (hx:a.eval x=.a A m c) (hr:Rd w B size A m news) (h1:∀u∈news,u.h=true)
 (h63:n+m<=maxLen) (hbytes:(n+m)*bytes<=140737488355328) (hbase:base<=w.a.j)
 (h:∀v' w',w'.c base e size v' (n+m) (xs++news)->w.d w' v.f->(v'.f=v.f\/v'.f=some w.a.j)->K (a.put o.X v') w'):o.wp P a w K Q:=by
 obtain⟨v',w',hrun,h2,h3,h4⟩:=aez (P:=P) w base t o.p e i z size bytes ht hi hz hsize hby hzs hsz v n xs hown B A m c news hr h1 h63 hbytes hbase;unfold ni execOp;simp only[ho,resolve,invoke,builtin,jK,oh,gM,List.map_toArray,kL,List.map_nil,hs,hx,hrun];exact h v' w' h2 h3 h4
theorem jv{ops:Array iZ}{rest:List iZ}{o:iZ}{a:qR}{Q:zO->qR->ak->Prop}(hgd:o.guard=none)(s x:pG)(t:bF)
 (ho:o.op=.call {callee:=.builtin .append,args:=#[s,x],argTypes:=#[t,t]})
 (base:Nat) (e:bF) (i:nI) (z:aB) (size bytes:Nat) (ht:P.k t=some (.a e)) (hi:P.l e=some i) (hz:i.zero=some z)
 (hsize:i.j=size) (hby:i.bytes=bytes) (hzs:z.D.j=size) (hsz:0<size)
 (v:aB) (n:Nat) (xs:List aB) (hs:a.eval s=v) (hown:w.c base e size v n xs)
 (B:Nat) (A:Option aT) (m c:Nat) (news:List aB) (hx:a.eval x=.a A m c) (hr:Rd w B size A m news) (h1:∀u∈news,u.h=true)
 (h63:n+m<=maxLen) (hbytes:(n+m)*bytes<=140737488355328) (hbase:base<=w.a.j)
 (h:∀v' w',w'.c base e size v' (n+m) (xs++news)->w.d w' v.f->(v'.f=v.f\/v'.f=some w.a.j)->wpList P ops Q rest (a.put o.X v') w'):wpList P ops Q (o::rest) a w:=
 sO hgd fun _ hK=>Jy w s x t ho base e i z size bytes ht hi hz hsize hby hzs hsz v n xs hs hown B A m c news hx hr h1 h63 hbytes hbase fun v' w' h2 h3 h4=>hK _ _ (h v' w' h2 h3 h4)
end
theorem Ia:(ah.l 5).map (fun i=>(i.zero,i.j,i.bytes))=some (some (.b .b 0),1,1):=by kernel_rfl
def Fa(n i:Nat):UInt8:=aJ (n/2^(8*i))
def rO(n k:Nat):List UInt8:=(dP k).map (Fa n)
def iG(n k:Nat)(big:Bool):List UInt8:=if big then(rO n k).reverse else rO n k
theorem akC(f:Nat->Int)(k m n i:Nat)(hm:m+k+1=n)(hkm:k<m)(hi:i<n)(x y:Int)(hx:x=f k)(hy:y=f m):
 (if i=m then aI .b x else if i=k then aI .b y else aI .b (if i<k\/n-k<=i then f (n-1-i)else f i)) =
  aI .b (if i<k+1\/n-(k+1)<=i then f (n-1-i)else f i):=by
 subst hx hy;by_cases h1:i=m
 ·subst h1
  rw[if_pos rfl,if_pos (by omega)];congr 2;omega
 ·rw[if_neg h1]
  by_cases h2:i=k
  ·subst h2
   rw[if_pos rfl,if_pos (by omega)];congr 2;omega
  ·rw[if_neg h2]
   by_cases h3:i<k\/n-k<=i
   ·rw[if_pos h3,if_pos (by omega)]
   ·rw[if_neg h3,if_neg (by omega)]
theorem abR(g n c:Nat)(f:Nat->Int)(w:ak)(hb:w.rowIs g 5 n (fun j=>.b .b (f j)))(hn:n<=4611686018427387904):
 aP ah 255 #[.a (some ⟨g,0,none⟩) n c] w fun e w'=>e=.a (.J #[]) /\
  w'.rowIs g 5 n (fun j=>.b .b (f (n-1-j)))/\w.d w' (some g):=by
 go_enter Tryz.func255,Tryz.ntmps255;go_wp2;go_loopw [2,3] (fun s2 s3 wr=>∃k:Nat,2*k<=n+1/\s2=.b .a k/\s3=.b .a ((n:Int)-1-k)/\wr.rowIs g 5 n (fun j=>.b .b (if j<k\/n-k<=j then f (n-1-j)else f j))/\w.d wr (some g)) (fun _ s3 _=>(intOf s3+1).e)
 case atStart=>exact⟨0,by omega,rfl,by simp,hb.congr (fun i hi=>by rw[if_neg (by omega)]),World.grownBy.refl _ _⟩
 case round=>
  obtain⟨k,hk,rfl,rfl,hrow,hg⟩:=hrel;by_cases hlt:(k:Int)<(n:Int)-1-k
  ·obtain⟨m,hm⟩:∃m:Nat,(n:Int)-1-k=m:=⟨n-1-k,by omega⟩
   have hm1:k<m:=by omega
   have hm2:m+k+1=n:=by omega
   rw[hm]at hlt ⊢;clear hm;have HM:=ab hm2;have c1:=hrow.cell (i:=k) (by omega);have c2:=hrow.cell (i:=m) (by omega);have f1:=hrow.frozen k;have f2:=hrow.frozen m;rw[if_neg (by omega)]at c1 c2;have hb1:(k:Int)<n:=by omega
   have hb2:(m:Int)<n:=by omega
   clear hm2;obtain⟨x,hx⟩:=cB (f k);obtain⟨y,hy⟩:=cB (f m);rw[<-hx]at c1;rw[<-hy]at c2;have HX:=ab hx;have HY:=ab hy;clear hx hy;have HR:=ab hrow;clear hrow;go_wp2;go_region
   all_goals go_wp2
   all_goals go_roundw
   case rel=>
    have hm2:=HM.i;refine⟨k+1,by omega,by go_num,by simp<;>omega,?_,?_⟩
    ·refine(((HR.i.drew.set k _).set m _)).congr (fun i hi=>?_)
     exact akC f k m n i hm2 hm1 hi x y HX.i HY.i
    ·exact xK (xK (Aj hg) (.a rfl) _) (.a rfl) _
   case measure=>simp[intOf]<;>omega
  ·go_wp2
   go_end0;refine⟨rfl,hrow.congr (fun i hi=>?_),hg⟩;by_cases h1:i<k\/n-k<=i
   ·rw[if_pos h1]
   ·rw[if_neg h1]
    have:n-1-i=i:=by omega
    rw[this]
theorem abS(n i:Nat):((Fa n i).e:Int)=(n:Int)/2^(8*i)%256:=by
 unfold Fa;simp[UInt8.toNat_ofNat]
theorem aoy(n k:Nat)(hk:k<=8)(hn:n<18446744073709551616)(big:Bool)(w:ak):
 aP ah 184 #[.b .c n,.b .a k,.e big] w fun e w'=>e=.a (.a (some ⟨w.a.j,0,none⟩) k k) /\
  w'.rowIs w.a.j 5 k (fun j=>bv ((iG n k big).c j 0))/\aL w.a.j w w':=by
 have hmk:=run_make_row' (P:=ah) 56 5 (.b .b 0) 1 cu Ia rfl .a .a k (by omega) (by omega);go_enter Tryz.func184,Tryz.ntmps184;go_wp2;go_loopw [15] (fun s15 wr=>∃i:Nat,i<=k/\s15=.b .a i/\wr.rowIs w.a.j 5 k (fun j=>if j<i then bv (Fa n j)else .b .b 0)/\aL w.a.j w wr) (fun s15 _=>k-(intOf s15).e)
 case atStart=>
  refine⟨0,by omega,rfl,?_,(aG _ _).alloc (av _) _⟩;exact(World.rowIs_made w (.b .b 0) k _).congr (fun i hi=>by simp)
 case round=>
  obtain⟨i,hi,rfl,hrow,hb⟩:=hrel;by_cases hlt:i<k
  ·have c1:=hrow.cell hlt
   have f1:=hrow.frozen i;rw[if_neg (by omega)]at c1;have hlb:=abS n i;have HL:=ab hlb;have HR:=ab hrow;have HB:=ab hb;clear hlb hrow hb hmk;go_wp2;go_roundw
   case rel=>
    refine⟨i+1,by omega,by go_num,?_,?_⟩
    ·refine(HR.i.set i _).congr (fun j hj=>?_)
     by_cases e:j=i
     ·subst e
      rw[if_pos rfl,if_pos (by omega)];unfold bv;rw[HL.i]
     ·rw[if_neg e]
      by_cases e2:j<i
      ·rw[if_pos e2,if_pos (by omega)]
      ·rw[if_neg e2,if_neg (by omega)]
    ·exact HB.i.F (av _) _
   case measure=>simp[intOf]<;>omega
  ·obtain rfl:i=k:=by omega
   have HB:=ab hb;clear hb hmk;cases big
   ·have HR:=ab hrow
    clear hrow;go_wp2;go_ret;refine⟨rfl,HR.i.congr (fun j hj=>?_),HB.i⟩;rw[if_pos hj];simp[iG,rO,au,hj]
   ·have hrow2:wr.rowIs w.a.j 5 i (fun j=>.b .b ((Fa n j).e:Nat)):=hrow.congr (fun j hj=>by rw[if_pos hj];rfl)
    have hrev:=fun c=>abR w.a.j i c (fun j=>((Fa n j).e:Nat)) wr hrow2 (by omega)
    clear hrow hrow2;go_wp2_with (go_at_call 255;refine(hrev _).g ?_;rintro e w' ⟨rfl,hr',hg'⟩);go_ret;refine⟨rfl,hr'.congr (fun j hj=>?_),sj HB.i hg' (av _) HB.i.j⟩;simp[iG,rO,au,List.getElem?_reverse,hj,bv]
def oG(l:List UInt8):Nat:=l.foldl (fun a c=>a*256+c.e) 0
theorem Ib(l:List UInt8)(c:UInt8):oG (l++[c])=oG l*256+c.e:=by simp[oG]
theorem Jz(l:List UInt8):oG l<256^l.a:=by
 have key:∀(l:List UInt8)(a k:Nat),a<256^k->l.foldl (fun a c=>a*256+c.e) a<256^(k+l.a):=by
  intro l
  induction l with
  | nil=>intro a k h;simpa using h
  | cons c l ih=>
    intro a k h;have:=ih (a*256+c.e) (k+1) (by rw[Nat.pow_succ];have:=c.a;omega);simp only[jW,bC];rw[show k+(l.a+1)=k+1+l.a by omega];exact this
 have:=key l 0 0 (by simp);rw[bB]at this;exact this
theorem Ub(l:List UInt8)(k:Nat)(h:k<l.a):l.d (k+1)=l.d k++[l.c k 0]:=by
 rw[dR h,au,aC h];rfl
theorem agH(a c:Nat)(ha:a*256<18446744073709551616)(hc:c<256):bits .or .c ((a:Int)*256) (c:Int)=((a*256+c:Nat):Int):=by
 rw[show(a:Int)*256=((a*256:Nat):Int)by omega,bits_or_u64_nat _ _ ha (by omega)];rw[show a*256=a <<< 8 by rw[mE],Nat.shiftLeft_add_eq_or_of_lt (by omega)]
theorem Md(A:Option aT)(n c:Nat)(l:List UInt8)(w:ak)(hnc:n<=c)(hc:c<=9223372036854775807)(hr:fU w w.a.j A n l):
 aP ah 180 #[.a A n c,.e true] w (gD w (.b .c (oG (l.d 8)))):=by
 have hlen:=hr.len;have hr2:=hr.alloc (av _) (.D #[.b .c 0] 92);obtain⟨m,hm,hm8,hmn⟩:∃m:Nat,(if(8:Int)<(n:Int)then(8:Int)else(n:Int))=m/\m<=8/\m<=n:=⟨min n 8,by split<;>omega,by omega,by omega⟩
 have hmm:m=min n 8:=by split at hm<;>omega
 have HMM:=ab hmm;have hnl:n<=l.a:=by omega
 have HLEN:=ab hlen;clear hlen hmm;go_enter Tryz.func180,Tryz.ntmps180;go_wp2;have HM:=ab hm;clear hm;go_loopw [18] (fun s18 wr=>∃i:Nat,i<=m/\s18=.b .a i/\wr.rowIs w.a.j 92 1 (fun _=>.b .c (oG (l.d i)))/\fU wr w.a.j A n l/\aL w.a.j w wr) (fun s18 _=>m-(intOf s18).e)
 case atStart=>exact⟨0,by omega,rfl,(World.rowIs_alloc w #[.b .c 0] _ _ (fun i hi=>by simp at hi;subst hi;rfl)),hr2,(aG _ _).alloc (av _) _⟩
 case round=>
  obtain⟨i,hi,rfl,hrow,hrd,hb⟩:=hrel;by_cases hlt:i<m
  ·obtain⟨a,rfl,hab,hcell⟩:=hrd.fI (k:=i) (by omega)
   have c1:=hrow.cell (i:=0) (by omega);have f1:=hrow.frozen 0;have hbn:=Jz (l.d i);have hsn:=Ib (l.d i) (l.c i 0);rw[<-Ub l i (by omega)]at hsn;have XJ:oG (l.d i)*256<18446744073709551616:=by
    have h1:(l.d i).a<=7:=by rw[bK];omega
    have h2:256^(l.d i).a<=256^7:=nK (by omega) h1;omega
   have hor:=agH (oG (l.d i)) (l.c i 0).e XJ (l.c i 0).a;have Dx:=ab hsn;have HR:=ab hrow;have HD:=ab hrd;have HB:=ab hb;have ahY:=(l.c i 0).a;unfold bv at hcell;generalize(l.c i 0).e=ch at hcell hor ahY Dx;generalize oG (l.d i)=nn at c1 XJ hor Dx HR;clear hrow hrd hb hsn hbn hr hr2;go_wp2;go_roundw
   case rel=>
    refine⟨i+1,by omega,by go_num,?_,?_,?_⟩
    ·refine(HR.i.set 0 _).congr (fun j hj=>?_)
     rw[if_pos (by omega),Dx.i];go_num
    ·exact HD.i.F (av _) _
    ·exact HB.i.F (av _) _
   case measure=>simp[intOf]<;>omega
  ·obtain rfl:i=m:=by omega
   have c1:=hrow.cell (i:=0) (by omega);have HB:=ab hb;clear hrow hrd hb hr hr2;go_wp2;go_ret;refine⟨?_,HB.i⟩;have hmm:=HMM.i;have hlen:=HLEN.i;have e:l.d 8=l.d i:=by
    rw[hmm];by_cases h8:n<=8
    ·rw[oC h8,aK (by omega),aK (by omega)]
    ·rw[zW (by omega)]
   rw[e];rfl
section
open Go.ChangeShapes Go.WideShapes Go.ChangeAt Go.RowKit
theorem vB:ownKnob ah.godebug=none:=by kernel_rfl
theorem agI:laidOutB ah=true:=by kernel_rfl
section
variable {H:Type} {enc:bF×aB->H} {P:eG}
theorem Km(hl:laidOutB P=true){W W':ak}(hb:aL W.a.j W W'):∀{ts:List bF} {vs:List aB} {ds:List (zw H)} {ps:List sP},
 (ts.all fun t=>P.readableRec t&&decide (t<P.types.j))=true->(∀x∈ps,x.block<W.a.j) ->
 DataW.TrodAll enc P W 0 (fun _=>true) true ts vs ds ps->DataW.TrodAll enc P W' 0 (fun b=>decide (b<W.a.j)) true ts vs ds ps
 | [],vs,ds,ps,_,_,h=>by
   obtain⟨rfl,rfl,rfl⟩:=trodAll_nil h;exact trodAll_mk0
 | t::ts,vs,ds,ps,hr,hlt,h=>by
   obtain⟨v,vs',d,ds',p,q,rfl,rfl,rfl,h1,h2⟩:=trodAll_cons h;simp only[List.all_cons,bl,decide_eq_true_eq]at hr;exact trodAll_cons_mk (Below.trod hl hr.1.1 hr.1.2 h1 hb (fun x hx=>hlt x (Ai _ hx)))
    (Km hl hb hr.2 (fun x hx=>hlt x (List.mem_append_right _ hx)) h2)
theorem akD{f:Func}{s:ChangeSpec}(hl:laidOutB P=true){W W':ak}{args:Array aB}{ds gs:List (zw H)}{before:List sP}
 (hvars:s.vars=[]) (hr:(f.params.a.all fun t=>P.readableRec t&&decide (t<P.types.j))=true) (T:bF) (hT:P.k T=some .e) (hres:f.resultTypes = #[T])
 (hW:DataW.Whole enc P f.params.a s.vars false W args.a ds gs before)
 (hs:s.fn H ds={results:=[.lit (.e true)],args:=ds})
 (hb:aL W.a.j W W'):s.post enc P f false true false false W args (.e true) W':=by
 have hlt:∀p∈before,p.block<W.a.j:=fun p hp=>hW.lt p hp
 have hW':=hW;obtain⟨p,q,hA,hV,rfl,hfz,hnd⟩:=hW;rw[hvars]at hV;obtain⟨rfl,rfl⟩:=trodVars_none hV;refine⟨ds,[],p++[],[],p,[],hW',?_,?_,?_,?_,fun h=>by cases h⟩
 ·rw[uF,hs,hres]
  exact trodAll_mk1 (shut_bool hT true)
 ·rw[uF,hs]
  exact Km hl hb hr (fun x hx=>hlt x (Ai _ hx)) hA
 ·rw[uF,hs,hvars]
  rfl
 ·exact hb.frame _
end
end
@[go_sem,simp]theorem Kn(l:List UInt8):(bT l).a=l:=ByteArray.toList_mk l
@[go_sem,simp]theorem Cx(l:List UInt8):(bT l).j=l.a:=by simp[bT,ByteArray.size]
def su(w:ak)(e:bF)(s:List UInt8):ak:=Lib.bytesWorld w e (bT s)
theorem Gp(w:ak)(e:bF)(s:List UInt8):aL w.a.j w (su w e s):=
 ⟨rfl,rfl,rfl,by unfold su;rw[Lib.bytesWorld_size];omega,fun k hk=>Lib.bytesWorld_at_old w e _ k hk⟩
theorem Gq(w:ak)(e:bF)(s:List UInt8):fU (su w e s) (w.a.j+1) (some ⟨w.a.j,0,none⟩) s.a s:=by
 refine⟨by simp,fun _=>⟨_,rfl,mF _,fun j u hu=>?_⟩⟩;have hj:j<s.a:=by
  rcases aY j s.a with h1|h1
  ·exact h1
  ·rw[aS (by simpa using h1)]at hu;cases hu
 have e1:(⟨w.a.j,0,none⟩:aT).add j=⟨w.a.j,j,none⟩:=by unfold qy;split<;>simp_all
 rw[e1];unfold su;rw[Lib.bytesWorld_cell w e _ j (by rw[Cx];exact hj)];rw[jk,aC hj]at hu;simp only[lV,qV]at hu;rw[<-hu];simp[bT,bv,au,hj]
theorem Ic{P:eG}(src dst e:bF)(hs:P.k src=some .g)(hd:P.k dst=some (.a e))(he:P.k e=some (.b .b))(s:List UInt8)(w:ak):
 (convert src dst (.g (bT s))).I P w = .Z (.a (some ⟨w.a.j,0,none⟩) s.a (grownCap w s.a 0 e)) (su w e s):=by
 have:=Lib.run_convert_string_bytes (P:=P) w src dst e (bT s) hs hd he;rw[Cx]at this;exact this
section
open Go.RowKit Go.ChangeShapes Go.WideShapes Go.ChangeAt Go.Deep
def fv(n:Nat):aB:=.float .f64 n
@[go_sem]theorem aFJ(n:Nat):fv n=.float .f64 n:=rfl
section
variable {P:eG}
theorem mQ(w:ak)(c:Array aB)(t:bF)(j:Nat):(w.alloc (.D c t)).b ⟨w.a.j,j,none⟩=c[j]?:=
 sQ _ _ j c t (0,0) (heap_alloc_last w _)
end
def vw(W:ak)(b o n:Nat):Prop:=∀j,j<n->∃v,W.b ⟨b,o+j,none⟩=some v
def dM(W:ak)(b o n:Nat):Array aB:=((dP n).map fun j=>(W.b ⟨b,o+j,none⟩).c undef).b
theorem Fb(W:ak)(b o n:Nat):(dM W b o n).j=n:=by simp[dM]
theorem Ie(W:ak)(b o n j:Nat)(hj:j<n):(dM W b o n)[j]? = some ((W.b ⟨b,o+j,none⟩).c undef):=by
 simp[dM,dV,hj]
theorem wL{W:ak}{b o n:Nat}{c:Array aB}(hn:c.j=n)(h:∀j,j<n->W.b ⟨b,o+j,none⟩=c[j]?):vw W b o n/\dM W b o n=c:=by
 subst hn;constructor
 ·intro j hj
  exact⟨c[j],by rw[h j hj];exact fD hj⟩
 ·apply dZ
  intro j;rcases aY j c.j with hj|hj
  ·rw[Ie _ _ _ _ _ hj,h j hj,fD hj];rfl
  ·rw[aU (by rw[Fb];exact hj),aU hj]
theorem AX{W W':ak}{b o n:Nat}(h:∀j,j<n->W'.b ⟨b,o+j,none⟩=W.b ⟨b,o+j,none⟩):dM W' b o n=dM W b o n:=by
 unfold dM;congr 1;refine BR (fun j hj=>?_);rw[h j (eO.1 hj)]
@[go_sem]theorem awN(W:ak)(b o n:Nat):vw W.drew b o n=vw W b o n:=by rw[eq_iff_iff];exact Iff.rfl
@[go_sem]theorem aoz(W:ak)(b o n:Nat):dM W.drew b o n=dM W b o n:=rfl
@[go_sem]theorem avN(W:ak)(k b o n:Nat):vw (W.drewN k) b o n=vw W b o n:=by rw[eq_iff_iff];exact Iff.rfl
@[go_sem]theorem aob(W:ak)(k b o n:Nat):dM (W.drewN k) b o n=dM W b o n:=rfl
@[go_sem]theorem aoc(W:ak)(ob:Obj)(b o n:Nat)(hb:b<W.a.j):dM (W.alloc ob) b o n=dM W b o n:=
 AX fun j _=>vG W ob _ hb
@[go_sem]theorem aod(W:ak)(ob:Obj)(b o n:Nat)(hb:b<W.a.j):vw (W.alloc ob) b o n=vw W b o n:=by
 have h:∀j,(W.alloc ob).b ⟨b,o+j,none⟩=W.b ⟨b,o+j,none⟩:=fun j=>vG W ob _ hb
 unfold vw;simp only[h]
theorem Ig(w:ak)(c:Array aB)(t:bF)(o n:Nat)(d:Array aB)(hd:d.j=n)(h:∀j,j<n->c[o+j]? = d[j]?):
 vw (w.alloc (.D c t)) w.a.j o n/\dM (w.alloc (.D c t)) w.a.j o n=d:=
 wL hd fun j hj=>by rw[mQ];exact h j hj
theorem jV{P:eG}(W:ak)(b o n:Nat)(ty:bF)(d:TypeDesc)(hu:P.k ty=some d)(hd:d.isRow=true)(hi:(P.l ty).map (·.j)=some n)(h:vw W b o n):
 (bZ ty (.c (some ⟨b,o,none⟩))).I P W = .Z (.d (dM W b o n)) W:=by
 have hc:W.rangeAt b o (dM W b o n).a:=fun j v hv=>by
  have hj:j<n:=by
   rcases aY j n with h1|h1
   ·exact h1
   ·rw[aS (by rw[aZ,Fb];exact h1)]at hv;cases hv
  rw[dD,Ie _ _ _ _ _ hj]at hv;obtain⟨u,hu⟩:=h j hj;rw[hu]at hv ⊢;exact hv
 have:=run_loadAt_mid (P:=P) W b o ty (dM W b o n).a d hc hu hd (by rw[hi,aZ,Fb]);simpa using this
theorem QF{w W:ak}{b o n B:Nat}(h:w.M b o n)(hb:aL B w W)(hlt:b<B):W.M b o n:=fun j hj=>by
 obtain⟨h1,h2⟩:=h j hj;exact⟨by rw[hb.cell hlt];exact h1,by rw[hb.frozen hlt];exact h2⟩
theorem ahZ{w W:ak}{c:Array aB}{t:bF}(hb:aL (w.alloc (.D c t)).a.j (w.alloc (.D c t)) W):∀k,W.b ⟨w.a.j,k,none⟩=c[k]?:=fun k=>by
 rw[hb.cell (p:=⟨w.a.j,k,none⟩) (by simp)];exact mQ w c t k
theorem nW(c:Array aB)(o n j:Nat)(hj:j<n)(h:o+n<=c.j):(c.extract o (o+n))[j]? = c[o+j]?:=by
 rw[dx];simp;omega
def dY(c:Array aB):Nat:=c.j
@[go_sem]theorem aAi(W:ak)(c:Array aB)(t:bF)(b o n:Nat)(hb:b=W.a.j)(h:o+n<=dY c):vw (W.alloc (.D c t)) b o n=True:=by
 subst hb;unfold dY at h;simp only[eq_iff_iff,iff_true];exact(Ig W c t o n (c.extract o (o+n)) (by rw[jG];omega) (fun j hj=>(nW c o n j hj h).symm)).1
@[go_sem]theorem arb(W:ak)(c:Array aB)(t:bF)(b o n:Nat)(hb:b=W.a.j)(h:o+n<=dY c):dM (W.alloc (.D c t)) b o n=c.extract o (o+n):=by
 subst hb;unfold dY at h;exact(Ig W c t o n (c.extract o (o+n)) (by rw[jG];omega) (fun j hj=>(nW c o n j hj h).symm)).2
theorem Uc{W w1:ak}(hb:aL W.a.j W w1):
 (∀b o,b<W.a.j->w1.b ⟨b,o,none⟩=W.b ⟨b,o,none⟩)/\(∀b o,b<W.a.j->w1.frozen? ⟨b,o,none⟩=W.frozen? ⟨b,o,none⟩) /\
 (∀b o n,b<W.a.j->vw w1 b o n=vw W b o n)/\(∀b o n,b<W.a.j->dM w1 b o n=dM W b o n)/\W.a.j<=w1.a.j:=by
 refine⟨fun b o h=>hb.cell (p:=⟨b,o,none⟩) h,fun b o h=>hb.frozen (p:=⟨b,o,none⟩) h,fun b o n h=>?_,fun b o n h=>AX fun j _=>hb.cell (p:=⟨b,o+j,none⟩) h,hb.j⟩;unfold vw;have:∀j,w1.b ⟨b,o+j,none⟩=W.b ⟨b,o+j,none⟩:=fun j=>hb.cell (p:=⟨b,o+j,none⟩) h
 simp only[this]
@[go_sem]theorem aAj(W:ak)(p:aT)(v:aB)(b o n:Nat):vw (W.F p v) b o n=vw W b o n:=by
 rw[eq_iff_iff];unfold vw;refine forall_congr' fun j=>forall_congr' fun hj=>?_
 by_cases hp:p=⟨b,o+j,none⟩
 ·subst hp
  cases h:W.b ⟨b,o+j,none⟩with
  | none=>
    have:(W.F ⟨b,o+j,none⟩ v).b ⟨b,o+j,none⟩=none:=by
     cases h2:(W.F ⟨b,o+j,none⟩ v).b ⟨b,o+j,none⟩with
     | none=>rfl
     | some u=>
       exfalso;cases hb:W.a[b]? with
       | none=>simp[DV,gX,zy,hb]at h2
       | some ob=>
         cases ob<;>simp_all[DV,gX,zy]
    simp[this]
  | some u=>simp[World.cell?_setCell_same _ _ _ h]
 ·rw[vW _ _ _ _ hp]
@[go_sem]theorem ard(W:ak)(p:aT)(v:aB)(b o n:Nat)(hp:p.block≠b):dM (W.F p v) b o n=dM W b o n:=
 AX fun j _=>vW _ _ _ _ (fun e=>hp (by rw[e]))
def dK(W:ak)(b:Nat)(c:Array aB):Prop:=∃t,W.a[b]? = some (.D c t (0,0))
theorem dK.lt{W:ak}{b:Nat}{c:Array aB}(h:dK W b c):b<W.a.j:=by
 obtain⟨t,h⟩:=h;exact(bW.1 h).1
theorem dK.new(W:ak)(c:Array aB)(t:bF):dK (W.alloc (.D c t)) W.a.j c:=⟨t,Gl W _⟩
theorem dK.Rv(W:ak)(ob:Obj)(c:Array aB)(t:bF):dK ((W.alloc ob).alloc (.D c t)) (W.a.j+1) c:=by
 have:=dK.new (W.alloc ob) c t
 rwa [show(W.alloc ob).a.j=W.a.j+1 by simp]at this
theorem dK.ah0(W:ak)(ob Gs:Obj)(c:Array aB)(t:bF):dK (((W.alloc ob).alloc Gs).alloc (.D c t)) (W.a.j+2) c:=by
 have:=dK.Rv (W.alloc ob) Gs c t
 rwa [show(W.alloc ob).a.j+1=W.a.j+2 by simp]at this
theorem dK.alloc{W:ak}{b:Nat}{c:Array aB}(h:dK W b c)(ob:Obj):dK (W.alloc ob) b c:=by
 have hl:=h.lt;obtain⟨t,h⟩:=h;exact⟨t,by rw[Below.heap_alloc W ob b hl];exact h⟩
theorem dK.drew{W:ak}{b:Nat}{c:Array aB}(h:dK W b c):dK W.drew b c:=h
theorem dK.drewN{W:ak}{b:Nat}{c:Array aB}(h:dK W b c)(n:Nat):dK (W.drewN n) b c:=h
theorem dK.O{W W':ak}{b B:Nat}{c:Array aB}(h:dK W b c)(hb:aL B W W')(hl:b<B):dK W' b c:=by
 obtain⟨t,h⟩:=h;exact⟨t,by rw[hb.block b hl];exact h⟩
theorem dK.grown{W W':ak}{b:Nat}{c:Array aB}{row:Option Nat}(h:dK W b c)(hg:W.d W' row)(hl:some b≠row):dK W' b c:=by
 have hl2:=h.lt;obtain⟨t,h⟩:=h;exact⟨t,by rw[hg.block b hl2 hl];exact h⟩
theorem dK.dN{W:ak}{b:Nat}{c:Array aB}(h:dK W b c)(p:aT)(v:aB)(hp:p.block≠b):dK (W.F p v) b c:=by
 obtain⟨t,h⟩:=h;exact⟨t,by rw[qW W p v b (fun e=>hp e.symm)];exact h⟩
theorem dK.eF{W:ak}{b:Nat}{c:Array aB}(h:dK W b c)(j:Nat)(v:aB):dK (W.F ⟨b,j,none⟩ v) b (c.b j v):=by
 obtain⟨t,h⟩:=h;exact⟨t,by rw[setCell_eq_setRow W b j c t (0,0) v h];exact rD W b c _ t (0,0) h⟩
theorem dK.K{W:ak}{b:Nat}{c:Array aB}(h:dK W b c):
 (∀j,W.b ⟨b,j,none⟩=c[j]?)/\(∀j,W.frozen? ⟨b,j,none⟩=false)/\(∀o n,o+n<=dY c->vw W b o n=True)/\(∀o n,o+n<=dY c->dM W b o n=c.extract o (o+n)):=by
 obtain⟨t,h⟩:=h;have hc:∀j,W.b ⟨b,j,none⟩=c[j]?:=fun j=>sQ W b j c t (0,0) h
 refine⟨hc,fun j=>by simp[rY,h],fun o n hn=>?_,fun o n hn=>?_⟩
 ·unfold dY at hn
  simp only[eq_iff_iff,iff_true];exact(wL (c:=c.extract o (o+n)) (by rw[jG];omega) (fun j hj=>by rw[hc,nW c o n j hj hn])).1
 ·unfold dY at hn
  exact(wL (c:=c.extract o (o+n)) (by rw[jG];omega) (fun j hj=>by rw[hc,nW c o n j hj hn])).2
theorem dK.M{W:ak}{b:Nat}{c:Array aB}(h:dK W b c)(o n:Nat)(hn:o+n<=c.j):W.M b o n:=by
 obtain⟨t,h⟩:=h;intro j hj;have hj':o+j<c.j:=by omega
 refine⟨by rw[sQ W b (o+j) c t (0,0) h,fD hj'];rfl,by simp[rY,h]⟩
theorem Ko(l:List aB):∀(k off:Nat)(cells:Array aB)(j:Nat),
 ((l.zipIdx k).foldl (fun cs (x:aB×Nat)=>cs.b (off+x.2) x.1) cells)[j]? = if off+k<=j/\j<off+k+l.a/\j<cells.j then l[j-(off+k)]? else cells[j]?:=by
 induction l with
 | nil=>intro k off cells j;simp;omega
 | cons v l ih=>
   intro k off cells j;rw[GI,jW,ih (k+1) off];simp only[Array.size_setIfInBounds,bC,Array.getElem?_setIfInBounds];by_cases h1:off+k<=j/\j<off+k+(l.a+1)/\j<cells.j
   ·by_cases h2:off+k=j
    ·subst h2
     have:¬off+(k+1)<=off+k:=by omega
     simp[this,h1.2.2]
    ·have h3:off+(k+1)<=j/\j<off+(k+1)+l.a/\j<cells.j:=by omega
     rw[if_pos h3,if_pos h1,show j-(off+k)=(j-(off+(k+1)))+1 by omega,List.getElem?_cons_succ]
   ·have h3:¬(off+(k+1)<=j/\j<off+(k+1)+l.a/\j<cells.j):=by omega
    rw[if_neg h3,if_neg h1];by_cases h2:off+k=j
    ·subst h2
     have:¬off+k<cells.j:=by simp at h1;omega
     simp[this]
    ·simp[h2]
theorem Ud(v cells:Array aB)(h:v.j=cells.j):Array.foldl (fun cs (x:aB×Nat)=>cs.b (0+x.2) x.1) cells v.zipIdx=v:=by
 apply dZ;intro j;have h1:=Ko v.a 0 0 cells j;rw[<-Ct,Array.toList_zipIdx,h1];by_cases hj:j<cells.j
 ·simp[h,hj]
 ·simp[hj];omega
theorem rP{P:eG}(w:ak)(t e:bF)(i:nI)(z:aB)(size:Nat)(ht:P.k t=some (.a e))(hi:P.l e=some i)(hz:i.zero=some z)(hsize:i.j=size)(hzs:z.D.j=size)(h0:0<size)(h24:size<=16777216)(c:Array aB)(hc:c.j=size):
 (bJ t 1 #[(0,.d c)]).I P w = .Z (.a (some ⟨w.a.j,0,none⟩) 1 1) (w.alloc (.D c e)):=by
 have hx:(bY c).D=c:=rfl;have hfw:=Ud c ((lW (1*size)).map (z.D[· % z.D.j]!)) (by simp[hc]);have hne:¬size=0:=by omega
 have aBR:¬16777216<size:=by omega
 simp only[bB,Nat.one_mul,Array.size_zipIdx,hc]at hfw;simp[bJ,dJ ht,sizeOf,typeInfo,zeroValue,hi,hz,hsize,hne,aBR,fE,hx,hc,newRow,hfw]
theorem dK.go{W w1:ak}{b:Nat}{c:Array aB}(h:dK W b c)(hb:aL W.a.j W w1):dK w1 b c:=h.O hb h.lt
theorem akE{w W w1:ak}(h:aL w.a.j w W)(hb:aL W.a.j W w1):aL w.a.j w w1:=iX h hb
theorem awO{w W w1:ak}{ob:Obj}(h:aL w.a.j w W)(hb:aL (W.alloc ob).a.j (W.alloc ob) w1):aL w.a.j w w1:=iX (h.alloc h.j ob) hb
def sw(cells:Array aB)(off:Nat)(v:Array aB):Array aB:=v.zipIdx.foldl (fun cs (x:aB×Nat)=>cs.b (off+x.2) x.1) cells
theorem DX(cells v:Array aB)(off j:Nat):(sw cells off v)[j]? = if off<=j/\j<off+v.j/\j<cells.j then v[j-off]? else cells[j]?:=by
 have h:=Ko v.a 0 off cells j;unfold sw;rw[<-Ct,Array.toList_zipIdx,h];simp
theorem DY(place:Nat->Option (Nat×Nat))(cells:Array aB)(i off size:Nat)(v:aB)(rest:List (Nat×aB))(hp:place i=some (off,size))(hs:v.D.j=size)(hf:off+size<=cells.j):
 fE place cells ((i,v)::rest)=fE place (sw cells off v.D) rest:=by
 have h1:(decide (v.D.j≠size)||decide (off+v.D.j>cells.j))=false:=by
  rw[hs];simp;omega
 rw[fE,hp];simp only[h1,sw];rfl
theorem XK(cells v:Array aB)(off:Nat):(sw cells off v).j=cells.j:=by
 unfold sw;generalize v.zipIdx=l;rw[<-Ct];generalize l.a=l
 induction l generalizing cells with
 | nil=>rfl
 | cons x l ih=>rw[jW,ih];simp
theorem akF(cells:Array aB)(off:Nat)(v:aB):sw cells off #[v]=cells.b off v:=by
 simp[sw]
theorem Oy(c:Array aB):(bY c).D=c:=rfl
theorem OB{P:eG}(w:ak)(t:bF)(fs:Array nS)(i:nI)(z:Array aB)(ps:Array (Nat×aB))(cells:Array aB)(places:Array (Nat×Nat))(ht:P.k t=some (.d fs))(hi:P.l t=some i)(hz:i.zero=some (.d z))
 (hp:(iy (fun f=>Prod.mk f.Y <$> sizeOf f.p) fs:wX (Array (Nat×Nat))).I P w = .Z places w) (hf:fE (places[·]?) z ps.a=some cells):(fM t ps).I P w = .Z (.d cells) w:=by
 simp only[fM,zeroValue,typeInfo,jK,gM,dJ ht];simp[hi,hz,hp,Oy,hf]
theorem jA{w w':ak}{base size n:Nat}{e:bF}{v:aB}{xs:List aB}(h:w.c base e size v n xs)(hb:aL w.a.j w w'):w'.c base e size v n xs:=
 ⟨h.1,h.2.imp id fun⟨g,cap,cur,h1,h2,h3,h4⟩=>⟨g,cap,cur,h1,h2,(hb.block g (bW.1 h3).1).trans h3,h4⟩⟩
theorem jM{w:ak}{base size n:Nat}{e:bF}{v:aB}{xs:List aB}(h:w.c base e size v n xs){p:aT}(hp:p.block<base)(u:aB):(w.F p u).c base e size v n xs:=
 ⟨h.1,h.2.imp id fun⟨g,cap,cur,h1,h2,h3,h4⟩=>⟨g,cap,cur,h1,h2,(qW w p u g (by omega)).trans h3,h4⟩⟩
theorem vC{w:ak}{base size n:Nat}{e:bF}{v:aB}{xs:List aB}(h:w.c base e size v n xs)(ob:Obj):(w.alloc ob).c base e size v n xs:=h.alloc ob
theorem iI{w:ak}{base base' size n:Nat}{e:bF}{v:aB}{xs:List aB}(h:w.c base e size v n xs)(hb:base'<=base):w.c base' e size v n xs:=
 ⟨h.1,h.2.imp id fun⟨g,cap,cur,h1,h2,h3,h4⟩=>⟨g,cap,cur,h1,aO hb h2,h3,h4⟩⟩
theorem SA{w:ak}{base size n g c:Nat}{e:bF}{xs:List aB}(h:w.c base e size (.a (some ⟨g,0,none⟩) n c) n xs)(j:Nat)(hj:j<n*size)(u:aB):
 (w.F ⟨g,j,none⟩ u).c base e size (.a (some ⟨g,0,none⟩) n c) n (xs.set j u):=by
 refine⟨by rw[aV];exact h.1,?_⟩;rcases h.2 with⟨hv,h0⟩|⟨g',cap,cur,hv,h2,h3,h4,h5,h6,h7⟩
 ·cases hv
 ·injection hv with e1 e2 e3
  injection e1 with e1
  injection e1 with e1
  subst e1 e3;refine .b ⟨g,c,cur.b j u,rfl,h2,?_,h4,h5,by rw[Array.size_setIfInBounds];exact h6,?_⟩
  ·rw[setCell_eq_setRow w g j cur e (0,0) u h3];exact rD w g cur _ e (0,0) h3
  ·rw[Array.toList_setIfInBounds,List.take_set,h7]
theorem Kq(b:Nat)(t:bF)(fr:Nat×Nat):∀(vs:List aB)(o:Nat)(c:Array aB)(W:ak),W.a[b]? = some (.D c t fr) ->
 (W.setCells b o vs).a[b]? = some (.D ((vs.zipIdx o).foldl (fun cs (x:aB×Nat)=>cs.b x.2 x.1) c) t fr)
 | [],_,_,_,h=>h
 | v::r,o,c,W,h=>by
   rw[Cu,GI,jW];exact Kq b t fr r (o+1) _ _ (by rw[setCell_eq_setRow W b o c t fr v h];exact rD W b c _ t fr h)
section
variable {H:Type} {enc:bF×aB->H} {P:eG} {w:ak} {base:Nat} {spare:Nat->Bool} {held:Bool} {fuel:Nat} {t:bF} {cs:List aB} {x:zw H×List sP}
theorem Ue(ht:P.k t=some .g)(h:lX enc P w base spare held fuel t cs=some x):∃l:List UInt8,cs=[.g (bT l)]/\l.a<=9223372036854775807:=by
 obtain⟨s,rfl,_,hs⟩:=DataW.trod_string ht h;refine⟨s.data.a,by rw[QE],?_⟩;have h2:s.j<=9223372036854775807:=by unfold maxLen at hs;omega
 show s.data.a.a<=_;rw[aZ];exact h2
theorem sD(ht:P.k t=some (.b .a))(h:lX enc P w base spare held fuel t cs=some x):∃z:Int,cs=[.b .a z]/\-9223372036854775808<=z/\z<=9223372036854775807:=by
 obtain⟨z,rfl,_,hz⟩:=DataW.trod_int ht h;have : -9223372036854775808<=z/\z<=9223372036854775807:=by simpa[Lit.wf,Jm,Jo,lT,nP]using hz
 exact⟨z,rfl,this⟩
theorem agJ(ht:P.k t=some (.b .b))(h:lX enc P w base spare held fuel t cs=some x):∃b:UInt8,cs=[bv b]:=by
 obtain⟨z,rfl,_,hz⟩:=DataW.trod_int ht h;have h2:0<=z/\z<=255:=by simpa[Lit.wf,Jm,Jo,lT,nP]using hz
 refine⟨aJ z.e,?_⟩;unfold bv;congr 2;rw[Cv];omega
theorem abT(ht:P.k t=some (.float .f64))(h:lX enc P w base spare held fuel t cs=some x):∃n:Nat,cs=[fv n]/\n<18446744073709551616:=by
 cases fuel with
 | zero=>simp[lX]at h
 | succ m=>
   unfold lX at h;rw[ht]at h;split at h<;>simp_all;rename_i heq;subst heq;obtain⟨⟨_,hw⟩,_⟩:=h;exact⟨_,rfl,by simpa[Lit.wf]using hw⟩
theorem J6{fs:Array nS}{n:Nat}{xs:List (zw H×List sP)}(hl:xs.a=fs.j)(hf:∀(i:Nat)(f:nS),fs[i]? = some f->lX enc P w base spare held n f.p ((cs.f f.Y).d (P.a f.p))=xs[i]?)
 (j:Nat) (f:nS) (hj:fs[j]? = some f):∃y,lX enc P w base spare held n f.p ((cs.f f.Y).d (P.a f.p))=some y:=by
 have hlt:j<xs.a:=by have:=(bW.1 hj).1;omega
 exact⟨xs[j],(hf j f hj).trans (aC hlt)⟩
theorem sV{α:Type}(l:List α)(o n:Nat):l.f o=(l.f o).d n++l.f (o+n):=by
 rw[<-List.drop_drop];exact(iF n _).symm
theorem Me{k:Nat}{e:bF}(ht:P.k t=some (.array k e))(he:P.k e=some (.b .b))(hc:P.a e=1)(hk:P.a t=k)(h:lX enc P w base spare held fuel t cs=some x):∃v:Vector UInt8 k,cs=v.a.map bv:=by
 obtain⟨xs,m,_,_,hl,hxl,hf⟩:=DataW.trod_array ht h;rw[hk]at hl;have hg:∀i,i<k->∃b:UInt8,cs[i]? = some (bv b):=fun i hi=>by
  have h1:=hf i hi;rw[hc,gH,aC (by omega)]at h1;obtain⟨b,hb⟩:=agJ he h1;refine⟨b,?_⟩;rw[take1_drop cs i undef (by omega)]at hb;simp only[List.cons.injEq,and_true]at hb;rw[aC (by omega),<-hb,au,aC (by omega)];rfl
 obtain⟨f,hf⟩:∃f:Nat->UInt8,∀i,i<k->cs[i]? = some (bv (f i)):=by
  refine⟨fun i=>if hi:i<k then(hg i hi).choose else 0,fun i hi=>?_⟩;simp only[hi,dif_pos];exact(hg i hi).choose_spec
 refine⟨DT fun i:Fin k=>f i,?_⟩;apply iL;intro i;rcases aY i k with hi|hi
 ·rw[hf i hi]
  simp[hi]
 ·rw[aS (by omega),aS (by simpa using hi)]
end
theorem uJ{α:Type}(f:α->Array aB)(size:Nat)(hs:∀x,(f x).j=size)(l:List α)(k j:Nat)(hk:k<l.a)(hj:j<size):(l.h fun x=>(f x).a)[k*size+j]? = (f (l[k]'hk))[j]?:=by
 induction l generalizing k with
 | nil=>simp at hk
 | cons x l ih=>
   rw[iM];rcases k with _|k
   ·rw[mM (by rw[aZ,hs];omega),dD]
    simp
   ·rw[qY (by rw[aZ,hs,Jp];omega),aZ,hs,show(k+1)*size+j-size=k*size+j by rw[Jp];omega]
    rw[bC]at hk;simpa using ih k (by omega)
theorem sW{α:Type}(f:α->Array aB)(size:Nat)(hs:∀x,(f x).j=size)(l:List α):(l.h fun x=>(f x).a).a=l.a*size:=by
 induction l with
 | nil=>simp
 | cons x l ih=>rw[iM,aR,ih,aZ,hs,bC,Jp];omega
section
variable {H:Type} {enc:bF×aB->H} {P:eG} {w:ak} {base:Nat} {held:Bool} {fuel:Nat} {t:bF} {cs:List aB} {x:zw H×List sP}
theorem OD{α:Type}(f:α->Array aB)(OH:α->Prop)(size:Nat)(hfs:∀x,(f x).j=size){e:bF}(ht:P.k t=some (.a e))(hc:P.a e=size)(hpos:0<size)
 (hrd:∀(n:Nat)(cs:List aB)(y:zw H×List sP),lX enc P w base (fun _=>true) held n e cs=some y->∃a,cs=(f a).a/\OH a)
 (h:lX enc P w base (fun _=>true) held fuel t cs=some x) :
 ∃(A:Option aT)(n c:Nat)(l:List α),cs=[.a A n c]/\n<=c/\c<=9223372036854775807/\l.a=n/\Rd w w.a.j size A n (l.h fun x=>(f x).a)/\(∀a,A=some a->0<n->a=⟨a.block,a.off,none⟩)/\∀a∈l,OH a:=by
 rcases open_slice ht h with⟨rfl,_⟩|⟨a,len,cap,m,n,D,Pl,rfl,_,hl,hm,hmm,_,hi⟩
 ·exact⟨none,0,0,[],rfl,av _,by omega,rfl,Rd.nil,(fun a h=>by cases h),by simp⟩
 ·rw[if_pos rfl]at hmm
  have hg:∀i,i<len->∃b:α,OH b/\∀j,j<size->w.b (a.add (i*size+j))=(f b)[j]?:=fun i hlt=>by
   obtain⟨cs',h1,h2⟩:=hi i (by omega);obtain⟨_,hlen,hcell⟩:=World.cells?_some h1;obtain⟨b,hb,hgd⟩:=hrd _ _ _ h2;rw[hc]at hcell;refine⟨b,hgd,fun j hj=>?_⟩;have:=hcell j hj;rw[abP,hb,dD]at this;exact this
  obtain⟨F,hF⟩:∃F:Fin len->α,∀i:Fin len,OH (F i)/\∀j,j<size->w.b (a.add (i*size+j))=(f (F i))[j]?:=
   ⟨fun i=>(hg i i.2).choose,fun i=>(hg i i.2).choose_spec⟩
  have hll:(GJ F).a=len:=List.length_ofFn;have hcl:∀k (hk:k<len) j,j<size->((GJ F).h fun x=>(f x).a)[k*size+j]? = w.b (a.add (k*size+j)):=fun k hk j hj=>by
   rw[uJ f size hfs _ k j (by omega) hj,List.getElem_ofFn];exact((hF ⟨k,hk⟩).2 j hj).symm
  refine⟨some a,len,cap,GJ F,rfl,hl,by unfold maxLen at hm;omega,hll,⟨by rw[sW f size hfs,hll],fun h0=>⟨a,rfl,?_,fun j u hu=>?_⟩⟩,fun a' ha h0=>?_,fun b hb=>?_⟩
  ·have h1:=hcl 0 h0 0 hpos
   have h2:=uJ f size hfs (GJ F) 0 0 (by omega) hpos;have h3:w.b (a.add (0*size+0))=some ((f ((GJ F)[0]'(by omega)))[0]'(by rw[hfs];exact hpos)):=by rw[<-h1,h2];exact fD _
   have:=World.block_lt_of_cell? _ _ h3
   rwa [AB]at this
  ·have hj:j<len*size:=by
    rcases aY j (len*size)with h1|h1
    ·exact h1
    ·rw[aS (by rw[sW f size hfs,hll];exact h1)]at hu;cases hu
   have e1:j=j/size*size+j%size:=by rw[Cw];exact(Nat.div_add_mod j size).symm
   have:=hcl (j/size) ((zP hpos).2 hj) (j%size) (fH _ hpos);rw[<-e1]at this;rw[<-this];exact hu
  ·injection ha with ha
   subst ha;have h1:=hcl 0 h0 0 hpos;have h2:=uJ f size hfs (GJ F) 0 0 (by omega) hpos;have h3:w.b (a.add (0*size+0))=some ((f ((GJ F)[0]'(by omega)))[0]'(by rw[hfs];exact hpos)):=by rw[<-h1,h2];exact fD _
   rw[show 0*size+0=0 by omega,Ox]at h3;have hs:=World.cell?_spot h3;obtain⟨b,o,s⟩:=a;simp at hs;rw[hs]
  ·obtain⟨i,rfl⟩:=List.mem_ofFn.1 hb
   exact(hF i).1
end
section
variable {P:eG}
theorem Kr(d:Nat){e:bF}(he:P.k e=some (.b .b))(l m:List UInt8)(w:ak)(hlm:l.a=m.a):∀(j k:Nat),j+k=l.a ->
 (J4 (d+1) e 1 (l.map bv).b (m.map bv).b (List.range' k j)).I P w = .Z (l.f k==m.f k) w
 | 0,k,h=>by
   have h1:l.f k=[]:=List.drop_eq_nil_of_le (by omega);have h2:m.f k=[]:=List.drop_eq_nil_of_le (by omega);simp[J4,h1,h2]
 | j+1,k,h=>by
   have hk:k<l.a:=by omega
   have hk':k<m.a:=by omega
   have hp:P.plainKey e=true:=by simp[Program.plainKey,he]
   have p1:(part e (l.map bv).b (k*1)).I P w = .Z (bv l[k]) w:=run_part_plain w hp (by simp[hk]);have p2:(part e (m.map bv).b (k*1)).I P w = .Z (bv m[k]) w:=run_part_plain w hp (by simp[hk']);have p3:(jf (d+1) e (bv l[k]) (bv m[k])).I P w = .Z (l[k]==m[k]) w:=by
    simp only[bv,jf,jK,dJ he,gM,if_true,oh];congr 1;rw[bV];simp only[beq_iff_eq];constructor
    ·intro h;exact lY.1 (by omega)
    ·intro h;rw[h]
   rw[List.range'_succ];simp only[J4,jK,p1,p2,p3,gM];have ih:=Kr d he l m w hlm j (k+1) (by omega);have e3:(l.f k==m.f k)=((l[k]==m[k])&&(l.f (k+1)==m.f (k+1))):=by
    rw[kU hk,kU hk'];rfl
   rw[e3];cases(l[k]==m[k])
   ·simp
   ·simpa using ih
theorem Gt(d:Nat){t e:bF}{n:Nat}(hu:P.k t=some (.array n e))(hsz:(P.l e).map (·.j)=some 1)(he:P.k e=some (.b .b))(l m:List UInt8)(hl:l.a=n)(hm:m.a=n)(w:ak):
 (jf (d+2) t (.d (l.map bv).b) (.d (m.map bv).b)).I P w = .Z (l==m) w:=by
 obtain⟨i,hi,hs⟩:∃i,P.l e=some i/\i.j=1:=by
  cases h:P.l e with
  | none=>simp[h]at hsz
  | some i=>exact⟨i,rfl,by simpa[h]using hsz⟩
 rw[run_equalIn_array w (d+1) _ _ hu hi];have hc:P.a e=1:=by simp[zX,hi,hs]
 rw[hc,List.range_eq_range',Kr d he l m w (by omega) n 0 (by omega)];simp
end
theorem agK{n:Nat}(a b:Vector UInt8 n):(a.a==b.a)=decide (a=b):=by
 rw[bV];simp only[beq_iff_eq,decide_eq_true_eq];constructor
 ·intro h;exact Vector.toList_inj.1 h
 ·intro h;rw[h]
theorem pE{P:eG}{e:bF}(he:(match P.k e with|some (.d _)|some (.array _ _)|none=>false|_=>true)=true){xs:Array aB}{off:Nat}{v:aB}(hx:xs[off]? = some v)(w:ak):(part e xs off).I P w = .Z v w:=by
 cases hu:P.k e with
 | none=>simp[hu]at he
 | some d=>cases d<;>simp[hu]at he<;>simp[part,isAgg,dJ hu,hx]
theorem DZ{P:eG}{e:bF}{n:Nat}(he:(match P.k e with|some (.d _)|some (.array _ _)=>true|_=>false)=true)(hs:(P.l e).map (·.j)=some n)(xs:Array aB)(off:Nat)(w:ak):(part e xs off).I P w = .Z (.d (xs.extract off (off+n))) w:=by
 obtain⟨i,hi,hi2⟩:∃i,P.l e=some i/\i.j=n:=by
  cases h:P.l e with
  | none=>simp[h]at hs
  | some i=>exact⟨i,rfl,by simpa[h]using hs⟩
 have hc:P.a e=n:=by simp[zX,hi,hi2]
 cases hu:P.k e with
 | none=>simp[hu]at he
 | some d=>cases d<;>simp[hu]at he<;>simp[part,isAgg,dJ hu,run_sizeOf w hi,hc]
theorem Zt(a b:Bool)(d:Nat)(W:ak):(jf (d+1) 4 (.e a) (.e b)).I ah W = .Z (a==b) W:=by
 simp only[jf,jK,dJ nJ,gM,oh]
theorem OJ(a b:List UInt8)(d:Nat)(W:ak):(jf (d+1) 9 (.g (bT a)) (.g (bT b))).I ah W = .Z (a==b) W:=by
 rw[run_equalIn_string W d _ _ _ iO,Kn,Kn]
theorem Fe(a b:Int)(d:Nat)(W:ak):(jf (d+1) 3 (.b .a a) (.b .a b)).I ah W = .Z (a==b) W:=by
 simp only[jf,jK,dJ gQ,gM,if_true,oh]
theorem iR{P:eG}(d:Nat)(xs ys:Array aB)(f:nS)(fs:List nS)(h:f.E ≠ "_")(W:ak)(a b:aB)(r r':Bool)
 (p:(part f.p xs f.Y).I P W = .Z a W) (q:(part f.p ys f.Y).I P W = .Z b W) (e:(jf d f.p a b).I P W = .Z r W)
 (rest:(vY d xs ys fs).I P W = .Z r' W):(vY d xs ys (f::fs)).I P W = .Z (r&&r') W:=by
 simp only[vY,h,ne_eq,not_false_eq_true,if_true,jK,p,q,e,gM];cases r
 ·simp
 ·simpa using rest
def iJ{α:Type}(f:α->Array aB)(s:Nat)(w:ak)(B:Nat)(A:Option aT)(n:Nat)(l:List α):Prop:=
 l.a=n/\Rd w B s A n (l.h fun x=>(f x).a)/\∀a,A=some a->0<n->a=⟨a.block,a.off,none⟩
section
variable {α:Type} {f:α->Array aB} {s:Nat} {w w':ak} {B B' n:Nat} {A:Option aT} {l:List α}
theorem iJ.nil(w:ak)(B:Nat):iJ f s w B none 0 []:=⟨rfl,Rd.nil,fun a h _=>by cases h⟩
theorem iJ.len(h:iJ f s w B A n l):l.a=n:=h.1
theorem iJ.O(h:iJ f s w B A n l)(hb:aL B w w'):iJ f s w' B A n l:=⟨h.1,Rd.O h.2.1 hb,h.2.2⟩
theorem iJ.to{C:Nat}(h:iJ f s w B A n l)(hb:aL C w w')(hC:B<=C):iJ f s w' B A n l:=⟨h.1,Rd.to h.2.1 hb hC,h.2.2⟩
theorem iJ.lF(h:iJ f s w B A n l)(hB:B<=B'):iJ f s w B' A n l:=⟨h.1,Rd.lF h.2.1 hB,h.2.2⟩
theorem iJ.alloc(h:iJ f s w B A n l)(hB:B<=w.a.j)(o:Obj):iJ f s (w.alloc o) B A n l:=⟨h.1,Rd.alloc h.2.1 hB o,h.2.2⟩
theorem iJ.up(h:iJ f s w w.a.j A n l)(ob:Obj):iJ f s (w.alloc ob) (w.alloc ob).a.j A n l:=(h.alloc (av _) ob).lF (by simp)
theorem iJ.arf(h:iJ f s w w.a.j A n l):iJ f s w.drew w.drew.a.j A n l:=h
theorem iJ.go{W w1:ak}(h:iJ f s W W.a.j A n l)(hb:aL W.a.j W w1):iJ f s w1 w1.a.j A n l:=(h.O hb).lF hb.j
theorem iJ.aBS(h:iJ f s w B A n l){p:aT}(u:aB)(hp:∀a,A=some a->p.block≠a.block):iJ f s (w.F p u) B A n l:=by
 obtain⟨h1,h2,h3⟩:=h;refine⟨h1,⟨h2.1,fun hn=>?_⟩,h3⟩;obtain⟨a,e,hb,hc⟩:=h2.2 hn;refine⟨a,e,hb,fun j u' hu=>?_⟩;rw[vW _ _ _ _ (fun e2=>by have:=hp a e;rw[e2,AB]at this;omega)];exact hc j u' hu
theorem iJ.cell(hs:∀x,(f x).j=s)(d:α){k:Nat}(h:iJ f s w B A n l)(hk:k<n):∃b o,A=some ⟨b,o,none⟩/\b<B/\∀j,j<s->w.b ⟨b,o+k*s+j,none⟩=(f (l.c k d))[j]?:=by
 obtain⟨h1,h2,h3⟩:=h;obtain⟨a,hA,hb,hc⟩:=h2.2 (by omega);have ha:=h3 a hA (by omega);refine⟨a.block,a.off,by rw[hA,<-ha],hb,fun j hj=>?_⟩;have hk':k<l.a:=by omega
 have hg:=uJ f s hs l k j hk' hj;have hx:l.c k d=l[k]:=by rw[au,aC hk'];rfl
 have hs1:(f (l[k]'hk'))[j]? = some ((f (l[k]'hk'))[j]'(by rw[hs];exact hj)):=fD _;rw[hs1]at hg;rw[hx,hs1];have:=hc _ _ hg;rw[ha,iC]at this;rw[<-this,mZ]
theorem iJ.fI(hs:∀x,(f x).j=s)(d:α){k:Nat}(h:iJ f s w B A n l)(hk:k<n):∃b o,A=some ⟨b,o,none⟩/\b<B/\vw w b (o+k*s) s/\dM w b (o+k*s) s=f (l.c k d):=by
 obtain⟨b,o,hA,hb,hc⟩:=h.cell hs d hk;exact⟨b,o,hA,hb,wL (hs _) hc⟩
theorem iJ.one(x:α)(hs:∀x,(f x).j=s)(w:ak)(t:bF):iJ f s (w.alloc (.D (f x) t)) (w.alloc (.D (f x) t)).a.j (some ⟨w.a.j,0,none⟩) 1 [x]:=
 ⟨rfl,⟨by simp[hs],fun _=>⟨_,rfl,by simp,by
  intro j v hv;rw[iC,bB];have:=mQ w (f x) t j;rw[this];simpa using hv⟩⟩,fun a h _=>by injection h with h;rw[<-h]⟩
end
theorem akG{α:Type}(f:α->Array aB)(s:Nat)(hs:∀x,(f x).j=s)(l:List α):(l.h fun x=>(f x).a).a=l.a*s:=sW f s hs l
theorem ah1{α:Type}(f:α->Array aB)(l:List α)(x:α):(l.h fun x=>(f x).a)++(f x).a=(l++[x]).h fun x=>(f x).a:=by simp
theorem abU{α:Type}(f:α->Array aB)(l m:List α):(l.h fun x=>(f x).a)++(m.h fun x=>(f x).a)=(l++m).h fun x=>(f x).a:=by simp
theorem D6{α:Type}(f:α->Array aB)(h1:∀x,(f x).all (·.h)=true)(l:List α):∀u∈(l.h fun x=>(f x).a),u.h=true:=by
 intro u hu;obtain⟨x,_,hx⟩:=List.mem_flatMap.1 hu;exact gu.1 (h1 x) u (by simpa using hx)
theorem lN{α:Type}(d:α)(l:List α)(i:Nat)(hi:i<l.a):l.d i++[l.c i d]=l.d (i+1):=by
 rw[dR hi,au,aC hi];rfl
theorem AY{α:Type}(d:α)(l:List α)(i:Nat)(hi:i<l.a):l.c i d∈l:=by
 rw[au,aC hi];simp
theorem iJ.iQ{α:Type}{f:α->Array aB}{s:Nat}{w:ak}{base n:Nat}{e:bF}{l:List α}{A:Option aT}{c:Nat}(hn:l.a=n)(h:w.c base e s (.a A n c) n (l.h fun x=>(f x).a)):iJ f s w w.a.j A n l:=
 ⟨hn,Rd.iQ h,fun a ha _=>by
  rcases h.2 with⟨hv,h0⟩|⟨g,cap,cur,hv,_⟩
  ·injection hv with e1 _ _
   rw[e1]at ha;cases ha
  ·injection hv with e1 _ _
   rw[e1]at ha;injection ha with ha
   rw[<-ha]⟩
theorem Zu(w:ak)(c:Array aB)(s:Nat)(hc:c.j=s)(t:bF):Rd (w.alloc (.D c t)) (w.a.j+1) s (some ⟨w.a.j,0,none⟩) 1 c.a:=
 ⟨by rw[aZ,hc,Nat.one_mul],fun _=>⟨_,rfl,mF _,fun j v hv=>by
  rw[iC,bB,mQ w c t j];simpa using hv⟩⟩
theorem Uf{w:ak}{base size n:Nat}{e:bF}{v:aB}{xs:List aB}(h:w.c base e size v n xs){p:aT}(hp:v.f≠some p.block)(u:aB):(w.F p u).c base e size v n xs:=by
 refine⟨h.1,?_⟩;rcases h.2 with hn|⟨g,cap,cur,rfl,h2,h3,h4⟩
 ·exact .a hn
 ·exact .b ⟨g,cap,cur,rfl,h2,(qW w p u g (fun e=>hp (by rw[<-e];rfl))).trans h3,h4⟩
theorem Ug{w:ak}{g:Nat}(vs:List aB):∀(o:Nat)(W:ak),w.d W (some g)->w.d (W.setCells g o vs) (some g):=by
 induction vs with
 | nil=>exact fun _ _ h=>h
 | cons v vs ih=>
   intro o W h;rw[Cu];refine ih (o+1) _ ⟨h.os,h.tape,h.output,by simpa[gX]using h.j,fun k hk hne=>?_⟩;rw[qW W _ v k (fun e=>hne (by rw[e]))];exact h.block k hk hne
theorem xL{w:ak}{B g:Nat}(hg:B<=g)(vs:List aB):∀(o:Nat)(W:ak),aL B w W->aL B w (W.setCells g o vs):=by
 induction vs with
 | nil=>exact fun _ _ h=>h
 | cons v vs ih=>intro o W h;rw[Cu];exact ih (o+1) _ (h.F hg v)
theorem nb{x:Option Nat}{a b c:Nat}(h:x=some a\/x=some b)(h1:c≠a)(h2:c≠b):x≠some c:=by
 rcases h with rfl|rfl<;>(intro e;injection e with e;omega)
theorem Uh(b:Nat)(t:bF)(vs:List aB)(o:Nat)(c:Array aB)(W:ak)(h:W.a[b]? = some (.D c t (0,0))):(W.setCells b o vs).a[b]? = some (.D (sw c o vs.b) t (0,0)):=by
 have:=Kq b t (0,0) vs o c W h;rw[this];unfold sw;congr 2;rw[<-Ct,Array.toList_zipIdx];have:∀(vs:List aB)(k:Nat)(c:Array aB),(List.foldl (fun cs (x:aB×Nat)=>cs.b x.2 x.1) c (vs.zipIdx (o+k)))=List.foldl (fun cs (x:aB×Nat)=>cs.b (o+x.2) x.1) c (vs.zipIdx k):=by
  intro vs
  induction vs with
  | nil=>intros;rfl
  | cons v vs ih=>intro k c;rw[GI,GI,jW,jW,mZ,ih]
 have h2:=this vs 0 c;simpa using h2
theorem dK.akH{W:ak}{b:Nat}{c:Array aB}(h:dK W b c)(d:Array aB)(hc:d.j=c.j):dK (W.setCells b 0 d.a) b d:=by
 obtain⟨t,h⟩:=h;refine⟨t,?_⟩;have h1:=Uh b t d.a 0 c W h;rw[h1];congr 2;exact Ud d c hc
end
section
open Go.RowKit Go.ChangeShapes Go.WideShapes Go.ChangeAt Go.Deep
def txA(s:List UInt8):Array aB:=#[.g (bT s)]
theorem akI(s:List UInt8):(txA s).j=1:=rfl
abbrev RdT:=iJ txA 1
theorem iJ.text{W:ak}{B n:Nat}{A:Option aT}{l:List (List UInt8)}{k:Nat}(h:RdT W B A n l)(hk:k<n):∃b o,A=some ⟨b,o,none⟩/\b<B/\W.b ⟨b,o+k,none⟩=some (.g (bT (l.c k []))):=by
 obtain⟨b,o,hA,hb,hc⟩:=iJ.cell akI [] h hk;refine⟨b,o,hA,hb,?_⟩;have:=hc 0 (by omega);rw[gH,nD]at this;exact this
def vP(l:List (List UInt8)):List aB:=l.h fun x=>(txA x).a
theorem QG(l:List (List UInt8))(s:List UInt8):vP l++[.g (bT s)]=vP (l++[s]):=by simp[vP,txA]
theorem Zv:∃i:nI,ah.l 9=some i/\i.zero=some (.g ⟨#[]⟩)/\i.j=1/\i.bytes<=400:=by
 cases h:ah.l 9 with
 | none=>exact absurd h (by have:(ah.l 9).isSome=true:=by kernel_rfl
                            intro e;rw[e]at this;cases this)
 | some i=>
   have h1:(ah.l 9).map (·.j)=some 1:=by kernel_rfl
   have h2:(ah.l 9).map (fun i=>decide (i.bytes<=400))=some true:=by kernel_rfl
   have h3:(ah.l 9).map (·.zero)=some (some (.g ⟨#[]⟩)):=by kernel_rfl
   rw[h]at h1 h2 h3;simp at h1 h2 h3;exact⟨i,rfl,h3,h1,h2⟩
def TxP(w:ak)(m:List (List UInt8))(e:lq)(w':ak):Prop:=
 ∃A n c,e=.a (.a A n c)/\m.a=n/\w'.c w.a.j 9 1 (.a A n c) n (vP m)/\aL w.a.j w w'
end
section
open Go.RowKit Go.ChangeShapes Go.WideShapes Go.ChangeAt Go.Deep
structure Hl where
 E:List UInt8
 down:Bool
 I:Int
deriving DecidableEq
def Hl.ay(x:Hl):Array aB:=#[iB (bT x.E),bM x.down,aI .a x.I]
theorem Hl.G(x:Hl):x.ay.j=3:=by simp[Hl.ay]
@[go_sem]theorem Hl.dY(x:Hl):dY x.ay=3:=Hl.G x
@[go_sem]theorem Hl.qw(x:Hl):x.ay[0]? = some (.g (bT x.E)):=rfl
@[go_sem]theorem Hl.Gu(x:Hl):x.ay[1]? = some (.e x.down):=rfl
@[go_sem]theorem Hl.XL(x:Hl):x.ay[2]? = some (.b .a x.I):=rfl
theorem Hl.cO(x:Hl):x.ay.all (·.h)=true:=by simp[Hl.ay,cZ]
@[go_sem]theorem Hl.kr(x:Hl):x.ay.extract 0 3=x.ay:=by
 have:=Hl.G x;rw[<-this];simp
def kS:Hl:=⟨[],false,0⟩
@[go_sem]theorem awP:bY #[iB {data:=#[]},bM false,aI bR 0]=bY kS.ay:=rfl
@[go_sem]theorem asL:Obj.cells #[iB {data:=#[]},bM false,aI bR 0] 100=Obj.cells kS.ay 100:=rfl
def akJ(v:aB):wX aB:=bZ 100 v
def Zx(v x:aB):wX Unit:=eD 100 v x
@[go_sem ↓]theorem avO(v:aB):bZ 100 v=akJ v:=rfl
@[go_sem ↓]theorem asM(v x:aB):eD 100 v x=Zx v x:=rfl
@[go_sem]theorem aAk(W:ak)(b o:Nat)(h:vw W b o 3):(akJ (.c (some ⟨b,o,none⟩))).I ah W = .Z (.d (dM W b o 3)) W:=
 jV W b o 3 _ _ qZ rfl (by kernel_rfl) h
@[go_sem]theorem aoA(W:ak)(c:Array aB)(x:Hl)(b:Nat)(hb:b=W.a.j)(hc:dY c=3):
 (Zx (.c (some ⟨b,0,none⟩)) (.d x.ay)).I ah (W.alloc (.D c 100)) = .Z () (W.alloc (.D x.ay 100)):=by
 subst hb;exact yO W _ c x.ay (by rw[Hl.G];kernel_rfl) (by rw[Hl.G];exact hc) (Hl.cO x)
def Ui(W:ak)(b o:Nat)(x:Hl):ak:=W.setCells b o x.ay.a
@[go_sem]theorem awQ(W:ak)(b o:Nat)(x:Hl)(h:W.M b o 3):(Zx (.c (some ⟨b,o,none⟩)) (.d x.ay)).I ah W = .Z () (Ui W b o x):=
 DU W b o _ x.ay (by rw[Hl.G];exact h) (by rw[Hl.G];kernel_rfl) (Hl.cO x)
theorem dK.awR{W:ak}{b:Nat}{c:Array aB}(h:dK W b c)(hc:c.j=3)(x:Hl):dK (Ui W b 0 x) b x.ay:=h.akH x.ay (by rw[Hl.G,hc])
theorem QH{w W:ak}{B:Nat}(h:aL B w W)(b o:Nat)(x:Hl)(hb:B<=b):aL B w (Ui W b o x):=xL hb _ o W h
def abV(x y:Hl):Bool:=(x.E==y.E)&&((x.down==y.down)&&((x.I==y.I)&&true))
theorem SC(x y:Hl):abV x y=decide (x=y):=by
 rw[bV];cases x;cases y;simp[abV]
theorem ah2:ah.k 100=some (.d (ah.fieldsOf 100)):=by
 simp only[jT,qZ]
theorem aoB:∃f1 f2 f3:nS,(ah.fieldsOf 100).a=[f1,f2,f3]/\(f1.E ≠ "_" /\ f2.E ≠ "_" /\ f3.E ≠ "_")/\(f1.p=9/\f1.Y=0)/\(f2.p=4/\f2.Y=1)/\(f3.p=3/\f3.Y=2):=by
 refine⟨_,_,_,by simp only[jT,qZ];rfl,⟨?_,?_,?_⟩,⟨rfl,rfl⟩,⟨rfl,rfl⟩,⟨rfl,rfl⟩⟩<;>decide
theorem ah3(x y:Hl)(d:Nat)(W:ak):(jf (d+2) 100 (.d x.ay) (.d y.ay)).I ah W = .Z (abV x y) W:=by
 rw[zh W (d+1) _ _ _ ah2 Tryz.stoodInHeld100];obtain⟨f1,f2,f3,hl,⟨n1,n2,n3⟩,⟨t1,o1⟩,⟨t2,o2⟩,⟨t3,o3⟩⟩:=aoB;rw[hl];have p1:∀z:Hl,(part f1.p z.ay f1.Y).I ah W = .Z (.g (bT z.E)) W:=fun z=>by
  rw[t1,o1];exact pE (by simp only[iO]) (Hl.qw z) W
 have p2:∀z:Hl,(part f2.p z.ay f2.Y).I ah W = .Z (.e z.down) W:=fun z=>by
  rw[t2,o2];exact pE (by simp only[nJ]) (Hl.Gu z) W
 have p3:∀z:Hl,(part f3.p z.ay f3.Y).I ah W = .Z (.b .a z.I) W:=fun z=>by
  rw[t3,o3];exact pE (by simp only[gQ]) (Hl.XL z) W
 exact(iR _ _ _ _ _ n1 W _ _ _ _ (p1 x) (p1 y) (by rw[t1];exact OJ _ _ _ W) (iR _ _ _ _ _ n2 W _ _ _ _ (p2 x) (p2 y) (by rw[t2];exact Zt _ _ _ W) (iR _ _ _ _ _ n3 W _ _ _ _ (p3 x) (p3 y) (by rw[t3];exact Fe _ _ _ W) (by simp[vY]))))
@[go_sem ↓]theorem aFL(x y:Hl)(W:ak):(jf 10000 100 (.d x.ay) (.d y.ay)).I ah W = .Z (abV x y) W:=ah3 x y 9998 W
theorem OL:∃i:nI,ah.l 100=some i/\i.zero=some (.d kS.ay)/\i.j=3/\i.bytes<=400:=by
 cases h:ah.l 100 with
 | none=>exact absurd h (by have:(ah.l 100).isSome=true:=by kernel_rfl
                            intro e;rw[e]at this;cases this)
 | some i=>
   have h1:(ah.l 100).map (·.j)=some 3:=by kernel_rfl
   have h2:(ah.l 100).map (fun i=>decide (i.bytes<=400))=some true:=by kernel_rfl
   have h3:(ah.l 100).map (·.zero)=some (some (.d kS.ay)):=by kernel_rfl
   rw[h]at h1 h2 h3;simp at h1 h2 h3;exact⟨i,rfl,h3,h1,h2⟩
def awS(ps:Array (Nat×aB)):wX aB:=fM 100 ps
@[go_sem ↓]theorem aAl(ps:Array (Nat×aB)):fM 100 ps=awS ps:=rfl
theorem ah4(w:ak)(fs:Array nS)(h:ah.k 100=some (.d fs)):(iy (fun f=>Prod.mk f.Y <$> sizeOf f.p) fs:wX (Array (Nat×Nat))).I ah w = .Z #[(0,1),(1,1),(2,1)] w:=by
 have e:=qZ;rw[h]at e;cases e;show _=_
 kernel_rfl
@[go_sem]theorem asN(w:ak)(u0:List UInt8):(awS #[(0,.g (bT u0))]).I ah w = .Z (.d (Hl.mk u0 false 0).ay) w:=by
 obtain⟨i0,hi0,hz0,_,_⟩:=OL;exact OB w _ _ i0 kS.ay _ _ _ qZ hi0 hz0 (ah4 w _ qZ) rfl
def agM(n:Nat)(ps:Array (Nat×aB)):wX aB:=bJ 33 n ps
@[go_sem ↓]theorem awT(n:Nat)(ps:Array (Nat×aB)):bJ 33 n ps=agM n ps:=rfl
@[go_sem]theorem avP(w:ak)(x:Hl):(agM 1 #[(0,.d x.ay)]).I ah w = .Z (.a (some ⟨w.a.j,0,none⟩) 1 1) (w.alloc (.D x.ay 100)):=by
 obtain⟨i0,hi0,hz0,hz1,hzb⟩:=OL;exact rP w _ _ i0 (.d kS.ay) 3 rU hi0 hz0 hz1 (Hl.G kS) (by omega) (by omega) x.ay (Hl.G x)
@[go_sem]theorem asO(w:ak):(agM 0 #[]).I ah w = .Z (.a (some ⟨w.a.j,0,none⟩) 0 0) (w.alloc (.D #[] 100)):=by
 obtain⟨i0,hi0,hz0,hz1,hzb⟩:=OL;have hne:¬i0.j=0:=by omega
 simp[agM,bJ,dJ rU,sizeOf,typeInfo,zeroValue,hi0,hz0,hz1,fE,newRow,hne];rw[show(lW 0)=(#[]:Array Nat)by simp[lW],Array.map_empty]
theorem Dy{fn:Func}{p u:Tmp}(h:fn.results = #[.cell p 100,.tmp u])(tmps:Array aB)(W:ak)(b o:Nat)(hp:tmps.c p undef=.c (some ⟨b,o,none⟩))(hh:vw W b o 3):
 (results fn tmps).I ah W = .Z (.J #[.d (dM W b o 3),tmps.c u undef]) W:=by
 have hl:=jV W b o 3 _ _ qZ rfl (by kernel_rfl) hh;simp only[bZ,yH,jK,oh,gM]at hl;rw[Kk h,hp];simp[asAddr,iD,hl]
end
def Zy(c:UInt8):Bool:=(decide (97<=c.e)&&decide (c.e<=122))||(decide (48<=c.e)&&decide (c.e<=57))||decide (c.e=45)||decide (c.e=46)
def vQ(s:List UInt8):Bool:=s.all Zy&&decide (1<=s.a)&&decide (s.a<=24)
theorem W9(l:List UInt8)(p:UInt8->Bool)(i:Nat)(hi:i<l.a):(l.d (i+1)).all p=((l.d i).all p&&p (l.c i 0)):=by
 rw[dR hi,List.all_append,au,aC hi];simp
theorem Zz(l:List UInt8)(p:UInt8->Bool)(i:Nat)(hi:i<l.a)(h:p (l.c i 0)=false):l.all p=false:=by
 rw[List.all_eq_false];refine⟨l.c i 0,?_,by rw[h];simp⟩;rw[au,aC hi];exact eU hi
theorem Uj(s:List UInt8)(w:ak)(hs:s.a<=9223372036854775807):
 aP ah 116 #[.g (bT s)] w (gD w (.e (vQ s))):=by
 have hcv:=Ic (P:=ah) 9 56 5 iO cu lC s;have hb:=Gp w 5 s;have hr:=Gq w 5 s;have HB:=ab hb;have HR:=ab hr;clear hb hr;go_enter Tryz.func116,Tryz.ntmps116;go_wp2;clear hcv;generalize su w 5 s=W at HB HR ⊢;generalize grownCap w s.a 0 5=cp;go_loop [8] (fun s8=>∃i:Nat,i<=s.a/\s8=.b .a i/\(s.d i).all Zy=true) (fun s8=>s.a-(intOf s8).e)
 case atStart=>exact⟨0,by omega,rfl,rfl⟩
 case round=>
  obtain⟨i,hi,rfl,hall⟩:=hrel;have HA:=ab hall;clear hall;by_cases hlt:i<s.a
  ·have hin:(i:Int)<s.a:=by omega
   obtain⟨a,ha,hab,hcell⟩:=HR.i.fI hlt;injection ha with ha
   subst ha;have e1:(⟨w.a.j,0,none⟩:aT).add i=⟨w.a.j,i,none⟩:=by unfold qy;split<;>simp_all
   rw[e1]at hcell;clear e1;have hsn:=W9 s Zy i hlt;have hno:=Zz s Zy i hlt;have HS:=ab hsn;have HN:=ab hno;clear hsn hno;unfold bv at hcell;have hc:Zy (s.c i 0)=Zy (s.c i 0):=rfl;have ahY:=(s.c i 0).a;obtain⟨c,hcc⟩:=cB (s.c i 0);rw[<-hcc]at hcell HS HN ahY;clear hcc hc;have hok:Zy c=((decide (97<=c.e)&&decide (c.e<=122))||(decide (48<=c.e)&&decide (c.e<=57))||decide (c.e=45)||decide (c.e=46)):=rfl;have JA:=ab hok;clear hok;generalize c.e=n at hcell ahY JA;rcases(show n<45\/n=45\/n=46\/n=47\/(48<=n/\n<=57)\/(57<n/\n<97)\/(97<=n/\n<=122)\/122<n by omega)with h|rfl|rfl|rfl|⟨h,h'⟩|⟨h,h'⟩|⟨h,h'⟩|h
   all_goals
    try(have h45:((n:Int) != 45)=true:=by rw[bne_iff_ne];omega)
    try(have h46:((n:Int) != 46)=true:=by rw[bne_iff_ne];omega)
   all_goals
    first
     | (have hk:Zy c=true:=by rw[JA.i];simp<;>omega
        have HK:=ab hk;clear hk;go_wp2;go_round
        case rel=>exact⟨i+1,by omega,by go_num,by rw[HS.i,HA.i,HK.i];rfl⟩
        case measure=>simp[intOf]<;>omega
        done)
     | (have hk:Zy c=false:=by rw[JA.i];simp<;>omega
        have HK:=ab hk;clear hk;go_wp2;go_ret;exact⟨by simp[vQ,HN.i HK.i],HB.i⟩)
  ·obtain rfl:i=s.a:=by omega
   have hall:=HA.i;rw[aK (av _)]at hall;have HL:=ab hall;clear hall;have hok:vQ s=(decide (1<=s.a)&&decide (s.a<=24)):=by simp[vQ,HL.i]
   have HK:=ab hok;clear hok;by_cases h1:1<=s.a
   ·by_cases h2:s.a<=24
    all_goals
     go_wp2;go_ret;exact⟨by rw[HK.i];simp[h1,h2]<;>omega,HB.i⟩
   ·have h1':¬(1:Int)<=s.a:=by omega
    go_wp2;go_ret;exact⟨by rw[HK.i];simp[h1],HB.i⟩
structure fC where
 h:Bool
 b:Vector UInt8 16
deriving DecidableEq
structure Bk where
 E:List UInt8
 h:fC
 mR:Int
 AJ:Vector UInt8 6
 w:Nat
 drain:Bool
deriving DecidableEq
def fC.ay(a:fC):Array aB:=(bM a.h::a.b.a.map bv).b
def Bk.ay(x:Bk):Array aB:=(iB (bT x.E)::bM x.h.h::(x.h.b.a.map bv++aI .a x.mR::(x.AJ.a.map bv++[fv x.w,bM x.drain]))).b
theorem fC.G(a:fC):a.ay.j=17:=by simp[fC.ay]
theorem Bk.G(x:Bk):x.ay.j=27:=by simp[Bk.ay]
@[go_sem]theorem fC.qw(a:fC):a.ay[0]? = some (.e a.h):=rfl
theorem fC.D7(a:fC)(i:Nat)(hi:i<16):a.ay[i+1]? = some (bv (a.b.a.c i 0)):=by
 simp[fC.ay,dV,hi,au]
@[go_sem]theorem Bk.qw(x:Bk):x.ay[0]? = some (.g (bT x.E)):=rfl
@[go_sem]theorem Bk.Gu(x:Bk):x.ay[1]? = some (.e x.h.h):=rfl
theorem Bk.D7(x:Bk)(i:Nat)(hi:i<16):x.ay[i+2]? = some (bv (x.h.b.a.c i 0)):=by
 simp[Bk.ay,dV,kR,hi,au]
@[go_sem]theorem Bk.akK(x:Bk):x.ay[18]? = some (.b .a x.mR):=by simp[Bk.ay,dV,kR]
theorem Bk.arh(x:Bk)(i:Nat)(hi:i<6):x.ay[i+19]? = some (bv (x.AJ.a.c i 0)):=by
 simp[Bk.ay,dV,kR,hi,au]
@[go_sem]theorem Bk.aeB(x:Bk):x.ay[25]? = some (fv x.w):=by simp[Bk.ay,dV,kR]
@[go_sem]theorem Bk.aeC(x:Bk):x.ay[26]? = some (.e x.drain):=by simp[Bk.ay,dV,kR]
theorem fC.cO(a:fC):a.ay.all (·.h)=true:=by
 rw[gu];intro v hv;simp[fC.ay]at hv;rcases hv with rfl|⟨b,_,rfl⟩<;>rfl
theorem Bk.cO(x:Bk):x.ay.all (·.h)=true:=by
 rw[gu];intro v hv;simp[Bk.ay]at hv;rcases hv with rfl|rfl|⟨b,_,rfl⟩|rfl|⟨b,_,rfl⟩|rfl|rfl<;>rfl
theorem Bk.Mf(x:Bk)(j:Nat)(hj:j<17):x.ay[j+1]? = x.h.ay[j]?:=by
 rcases j with _|j
 ·rfl
 ·rw[show j+1+1=j+2 from rfl,Bk.D7 x j (by omega),fC.D7 x.h j (by omega)]
@[go_sem]theorem Uk(w:ak)(x:Bk)(t:bF):vw (w.alloc (.D x.ay t)) w.a.j 0 27=True:=by
 simp only[eq_iff_iff,iff_true];exact(Ig w x.ay t 0 27 x.ay (Bk.G x) (fun j _=>by rw[bB])).1
@[go_sem]theorem Ih(w:ak)(x:Bk)(t:bF):dM (w.alloc (.D x.ay t)) w.a.j 0 27=x.ay:=
 (Ig w x.ay t 0 27 x.ay (Bk.G x) (fun j _=>by rw[bB])).2
@[go_sem]theorem abW(w:ak)(x:Bk)(t:bF):vw (w.alloc (.D x.ay t)) w.a.j 1 17=True:=by
 simp only[eq_iff_iff,iff_true];exact(Ig w x.ay t 1 17 x.h.ay (fC.G _) (fun j hj=>by rw[lM];exact Bk.Mf x j hj)).1
@[go_sem]theorem Rw(w:ak)(x:Bk)(t:bF):dM (w.alloc (.D x.ay t)) w.a.j 1 17=x.h.ay:=
 (Ig w x.ay t 1 17 x.h.ay (fC.G _) (fun j hj=>by rw[lM];exact Bk.Mf x j hj)).2
def rE(v:aB):wX aB:=bZ 27 v
def KY(v:aB):wX aB:=bZ 62 v
def JB(v x:aB):wX Unit:=eD 62 v x
@[go_sem ↓]theorem asP(v:aB):bZ 27 v=rE v:=rfl
@[go_sem ↓]theorem avQ(v:aB):bZ 62 v=KY v:=rfl
@[go_sem ↓]theorem asQ(v x:aB):eD 62 v x=JB v x:=rfl
@[go_sem]theorem ZB(W:ak)(b o:Nat)(h:vw W b o 27):(KY (.c (some ⟨b,o,none⟩))).I ah W = .Z (.d (dM W b o 27)) W:=
 jV W b o 27 _ _ nY rfl (by kernel_rfl) h
@[go_sem]theorem Mh(W:ak)(b o:Nat)(h:vw W b o 17):(rE (.c (some ⟨b,o,none⟩))).I ah W = .Z (.d (dM W b o 17)) W:=
 jV W b o 17 _ _ fB rfl (by kernel_rfl) h
@[go_sem]theorem Mi(w:ak)(c:Array aB)(x:Bk)(hc:c.j=27):
 (JB (.c (some ⟨w.a.j,0,none⟩)) (.d x.ay)).I ah (w.alloc (.D c 62)) = .Z () (w.alloc (.D x.ay 62)):=
 yO w _ c x.ay (by rw[Bk.G];kernel_rfl) (by rw[Bk.G];exact hc) (Bk.cO x)
def jg:Bk:=⟨[],⟨false,bG 16 0⟩,0,bG 6 0,0,false⟩
@[go_sem]theorem awU:bY #[iB {data:=#[]},bM false,aA,aA,aA,aA,aA,aA,aA,aA,aA,aA,aA,aA,aA,aA,aA,aA,bf,aA,aA,aA,aA,aA,aA,vH jX 0,bM false]=bY jg.ay:=rfl
@[go_sem]theorem asR:Obj.cells #[iB {data:=#[]},bM false,aA,aA,aA,aA,aA,aA,aA,aA,aA,aA,aA,aA,aA,aA,aA,aA,bf,aA,aA,aA,aA,aA,aA,vH jX 0,bM false] 62=Obj.cells jg.ay 62:=rfl
theorem akL{fn:Func}{p u:Tmp}(h:fn.results = #[.cell p 62,.tmp u])(tmps:Array aB)(W:ak)(b o:Nat)(hp:tmps.c p undef=.c (some ⟨b,o,none⟩))(hh:vw W b o 27):
 (results fn tmps).I ah W = .Z (.J #[.d (dM W b o 27),tmps.c u undef]) W:=by
 have hl:=jV W b o 27 _ _ nY rfl (by kernel_rfl) hh;simp only[bZ,yH,jK,oh,gM]at hl;rw[Kk h,hp];simp[asAddr,iD,hl]
def Ul(W:ak)(b o:Nat)(x:Bk):ak:=W.setCells b o x.ay.a
@[go_sem]theorem awV(W:ak)(b o:Nat)(x:Bk)(h:W.M b o 27):(JB (.c (some ⟨b,o,none⟩)) (.d x.ay)).I ah W = .Z () (Ul W b o x):=
 DU W b o _ x.ay (by rw[Bk.G];exact h) (by rw[Bk.G];kernel_rfl) (Bk.cO x)
theorem aeD(W:ak)(b o:Nat)(x:Bk)(h:W.M b o 27):∀j,j<27->(Ul W b o x).b ⟨b,o+j,none⟩=x.ay[j]?:=fun j hj=>by
 have hs:=Bk.G x;have:=World.cell?_setCells_in b x.ay.a o W (fun i hi=>(h i (by simpa[hs]using hi)).1) j (by simpa[hs]using hj);rw[Ul,this,Array.getElem_toList,fD (by rw[hs];exact hj)]
theorem Mj(W:ak)(b o:Nat)(x:Bk)(h:W.M b o 27):vw (Ul W b o x) b o 27/\dM (Ul W b o x) b o 27=x.ay:=
 wL (Bk.G x) (aeD W b o x h)
theorem QI{w W:ak}{B:Nat}(h:aL B w W)(b o:Nat)(x:Bk)(hb:B<=b):aL B w (Ul W b o x):=by
 unfold Ul;generalize x.ay.a=l
 induction l generalizing W o with
 | nil=>exact h
 | cons v l ih=>rw[Cu];exact ih (h.F hb v) (o+1)
@[go_sem]theorem Xa(w:ak)(x y:Bk):
 (JB (.c (some ⟨w.a.j,0,none⟩)) (.d x.ay)).I ah (w.alloc (.D y.ay 62)) = .Z () (w.alloc (.D x.ay 62)):=
 Mi w y.ay x (Bk.G y)
theorem XM(w:ak)(c:Array aB)(t:bF)(hc:c.j=27):(w.alloc (.D c t)).M w.a.j 0 27:=fun j hj=>by
 have hj':j<c.j:=by omega
 refine⟨by rw[bB,mQ,fD hj'];rfl,?_⟩;simp
namespace Fl
open Ieee
theorem Ii:double.binade=4503599627370496:=by decide
theorem ZC:double.signWeight=9223372036854775808:=by decide
theorem abX:double.infRung=9218868437227405312:=by decide
theorem Mk:double.leastPlace = -1074:=by decide
theorem asS:double.fractionBits=52:=rfl
def mag(r:Nat):Nat:=if r<4503599627370496 then r else 4503599627370496+r%4503599627370496
def pl(r:Nat):Nat:=r/4503599627370496-1
def V(r:Nat):Nat:=mag r*2^pl r
theorem asT(r:Nat):mag r<9007199254740992:=by unfold mag;split<;>omega
theorem Ij{x:Nat}(h:x<9218868437227405312):double.read x=.number false (mag x) ((pl x:Int)-1074):=by
 unfold Format.read;simp only[ZC,Ii,abX,Mk];have h1:x/9223372036854775808=0:=by omega
 have h2:x%9223372036854775808=x:=by omega
 rw[h1,h2];simp only[mag,pl];by_cases h3:x<4503599627370496
 ·have:x/4503599627370496=0:=by omega
  simp[this,h3]
 ·rw[if_neg h3,if_pos h,if_neg h3]
  congr 1
theorem akM{x:Nat}(h:x<9218868437227405312):double.read (9223372036854775808+x)=.number true (mag x) ((pl x:Int)-1074):=by
 unfold Format.read;simp only[ZC,Ii,abX,Mk];have h1:(9223372036854775808+x)/9223372036854775808=1:=by omega
 have h2:(9223372036854775808+x)%9223372036854775808=x:=by omega
 rw[h1,h2];simp only[mag,pl];by_cases h3:x<4503599627370496
 ·have:x/4503599627370496=0:=by omega
  simp[this,h3]
 ·rw[if_neg h3,if_pos h,if_neg h3]
  congr 1
theorem abY:double.read 9218868437227405312=.infinity false:=by decide +kernel
theorem XO:double.read 18442240474082181120=.infinity true:=by decide +kernel
theorem akN{x:Nat}(h:9218868437227405312<x)(h':x<9223372036854775808):double.read x=.nan false (x-9218868437227405312):=by
 unfold Format.read;simp only[ZC,Ii,abX,Mk];have h1:x/9223372036854775808=0:=by omega
 have h2:x%9223372036854775808=x:=by omega
 rw[h1,h2,if_neg (by omega),if_neg (by omega),if_neg (by omega)];rfl
theorem ah5{x:Nat}(h:18442240474082181120<x)(h':x<18446744073709551616):double.read x=.nan true (x-18442240474082181120):=by
 unfold Format.read;simp only[ZC,Ii,abX,Mk];have h1:x/9223372036854775808=1:=by omega
 have h2:x%9223372036854775808=x-9223372036854775808:=by omega
 rw[h1,h2,if_neg (by omega),if_neg (by omega),if_neg (by omega)];simp;omega
theorem akO(r:Nat):V (r+1)=V r+2^pl r:=by
 unfold V mag pl;by_cases h:r+1<4503599627370496
 ·have h1:r/4503599627370496=0:=by omega
  have h2:(r+1)/4503599627370496=0:=by omega
  rw[if_pos h,if_pos (by omega),h1,h2];simp
 ·rw[if_neg h]
  by_cases h3:(r+1)%4503599627370496=0
  ·
   have h4:r%4503599627370496=4503599627370495:=by omega
   have h5:(r+1)/4503599627370496=r/4503599627370496+1:=by omega
   rw[h3,h5];by_cases h6:r<4503599627370496
   ·have h7:r/4503599627370496=0:=by omega
    rw[if_pos h6,h7];simp;omega
   ·have h7:r/4503599627370496=(r/4503599627370496-1)+1:=by omega
    rw[if_neg h6,h4];have e:r/4503599627370496+1-1=(r/4503599627370496-1)+1:=by omega
    rw[e,Nat.pow_succ];generalize 2^(r/4503599627370496-1)=z;omega
  ·have h5:(r+1)/4503599627370496=r/4503599627370496:=by omega
   have h6:(r+1)%4503599627370496=r%4503599627370496+1:=by omega
   rw[h5,h6,if_neg (by omega)];generalize 2^(r/4503599627370496-1)=z;rw[show 4503599627370496+(r%4503599627370496+1)=(4503599627370496+r%4503599627370496)+1 from rfl,Jp]
theorem ZH{r s:Nat}(h:r<=s):V r<=V s:=by
 induction h with
 | refl=>exact av _
 | step _ ih=>rw[akO];exact aO ih (Nat.le_add_right _ _)
theorem aBT{r s:Nat}(h:r<s):V r<V s:=by
 have h1:=akO r;have h2:=ZH (show r+1<=s from h);have h3:0<2^pl r:=nE _;omega
theorem Um{r s:Nat}:V r<=V s↔r<=s:=⟨fun h=>by
 by_cases hc:r<=s
 ·exact hc
 ·have:=aBT (show s<r by omega);omega,ZH⟩
theorem aeE:V 0=0:=by decide
theorem abZ(a b:Int)(z:Nat)(hz:0<z):compare (a*z) (b*z)=compare a b:=by
 simp only[compare,compareOfLessAndEq];have a1:(a*(z:Int)<b*z)↔a<b:=Int.mul_lt_mul_right (by omega);have a2:(a*(z:Int)=b*z)↔a=b:=Int.mul_eq_mul_right_iff (by omega);simp only[a1,a2]
theorem Un(s:Bool)(m k d:Nat):signed s m (k+d)=signed s m k*(2^d:Nat):=by
 unfold signed;simp only[mE,oD];cases s
 ·simp[Int.mul_assoc]
 ·simp[Int.mul_assoc,Int.neg_mul]
theorem ah6(s t:Bool)(m n i j:Nat):Datum.order (.number s m ((i:Int)-1074)) (.number t n ((j:Int)-1074))=some (compare (signed s m i) (signed t n j)):=by
 simp only[Datum.order];congr 1;obtain⟨b,hb⟩:∃b:Nat,b=min i j:=⟨_,rfl⟩
 have e0:min ((i:Int)-1074) ((j:Int)-1074)=(b:Int)-1074:=by omega
 rw[e0];have e1:signed s m i=signed s m ((i:Int)-1074-((b:Int)-1074)).e*(2^b:Nat):=by
  rw[<-Un];congr 1;omega
 have e2:signed t n j=signed t n ((j:Int)-1074-((b:Int)-1074)).e*(2^b:Nat):=by
  rw[<-Un];congr 1;omega
 rw[e1,e2];exact(abZ _ _ _ (nE _)).symm
def XP(x:Nat):Prop:=x<9218868437227405312\/(9223372036854775808<=x/\x<18442240474082181120)
def SV(x:Nat):Int:=if x<9223372036854775808 then(V x:Int)else -(V (x-9223372036854775808):Int)
theorem Ml{x:Nat}(h:XP x):∃(s:Bool)(m i:Nat),double.read x=.number s m ((i:Int)-1074)/\signed s m i=SV x:=by
 rcases h with h|⟨h,h'⟩
 ·exact⟨_,_,_,Ij h,by unfold SV;rw[if_pos (by omega)];simp[signed,V,mE]⟩
 ·have:=akM (x:=x-9223372036854775808) (by omega)
  rw[show 9223372036854775808+(x-9223372036854775808)=x by omega]at this;exact⟨_,_,_,this,by unfold SV;rw[if_neg (by omega)];simp[signed,V,mE]⟩
theorem ZI{x y:Nat}(hx:XP x)(hy:XP y):double.order x y=some (compare (SV x) (SV y)):=by
 obtain⟨s,m,i,h1,h2⟩:=Ml hx;obtain⟨t,n,j,h3,h4⟩:=Ml hy;unfold Format.order;rw[h1,h3,ah6,h2,h4]
theorem agN{x:Nat}(hx:x<18446744073709551616)(h:¬XP x):x=9218868437227405312\/x=18442240474082181120\/(∃s f,double.read x=.nan s f):=by
 unfold XP at h;by_cases h1:x=9218868437227405312
 ·exact .a h1
 by_cases h2:x=18442240474082181120
 ·exact .b (.a h2)
 by_cases h3:x<9223372036854775808
 ·exact .b (.b ⟨_,_,akN (by omega) h3⟩)
 ·exact .b (.b ⟨_,_,ah5 (by omega) hx⟩)
theorem OO{x y:Nat}{s f}(h:double.read x=.nan s f):double.order x y=none:=by
 unfold Format.order;rw[h];rfl
theorem XQ{y:Nat}(hy:XP y):double.order 9218868437227405312 y=some .gt:=by
 obtain⟨t,n,j,h3,h4⟩:=Ml hy;unfold Format.order;rw[h3,abY];rfl
theorem Uo{y:Nat}(hy:XP y):double.order 18442240474082181120 y=some .lt:=by
 obtain⟨t,n,j,h3,h4⟩:=Ml hy;unfold Format.order;rw[h3,XO];rfl
theorem ab0(k t:Nat)(hk:0<k):(k*2^t).log2=k.log2+t:=by
 have h0:k*2^t≠0:=uq (Nat.mul_pos hk (nE _));have h1:2^k.log2<=k:=Nat.log2_self_le (by omega);have h2:k<2^(k.log2+1):=Nat.lt_log2_self;refine Nat.le_antisymm ?_ ?_
 ·refine EU ((Nat.log2_lt h0).2 ?_)
  rw[show Nat.succ (k.log2+t)=(k.log2+1)+t by omega,oD];exact(Nat.mul_lt_mul_right (nE _)).2 h2
 ·refine(Nat.le_log2 h0).2 ?_
  rw[oD];exact dw _ h1
theorem akP(way:Toward)(neg:Bool)(n:Nat):way.cut neg n 0=n:=by
 unfold Toward.cut;cases way<;>simp[Nat.mod_one]
theorem ah7(neg:Bool)(k t:Nat)(hk:0<k):Toward.even.cut neg (k*2^t) t=k:=by
 unfold Toward.cut;have h0:min t ((k*2^t).log2+2)=t:=by rw[ab0 _ _ hk];omega
 have h1:(1 <<< t)=2^t:=by rw[mE,Nat.one_mul]
 have hp:0<2^t:=nE _;simp only[h0,h1,Nat.mul_div_cancel _ hp,Nat.mul_mod_left];simp
theorem ab1(n t:Nat):Toward.down.cut false n t=n/2^t:=by
 unfold Toward.cut;simp only[Bool.false_and,Bool.toNat_false,nD];have h1:∀d,(1 <<< d)=2^d:=fun d=>by rw[mE,Nat.one_mul]
 rw[h1];by_cases h:t<=n.log2+2
 ·rw[oC h]
 ·rw[zW (by omega)]
  have h2:n<2^(n.log2+1):=Nat.lt_log2_self;have h3:2^(n.log2+1)<=2^(n.log2+2):=nK (by omega) (by omega);have h4:2^(n.log2+2)<=2^t:=nK (by omega) (by omega);rw[Nat.div_eq_of_lt (by omega),Nat.div_eq_of_lt (by omega)]
theorem ah8(neg:Bool)(n t:Nat):Toward.zero.cut neg n t=n/2^t:=by
 have:=ab1 n t;unfold Toward.cut at this ⊢;simpa using this
theorem Kt(neg:Bool)(k t s:Nat)(p:Int)(hp:p+t=(s:Int)-1074)(hk0:0<k)(hk:k<9007199254740992)(hs:s+k.log2<=2097):
 ∃r,r<9218868437227405312/\double.nearest neg (k*2^t) p=double.word neg r/\V r=k*2^s:=by
 have awX:k.log2<=52:=EU ((Nat.log2_lt (by omega)).2 (by simpa using hk));have h1:2^k.log2<=k:=Nat.log2_self_le (by omega);have h2:k<2^(k.log2+1):=Nat.lt_log2_self;have hne:k*2^t≠0:=uq (Nat.mul_pos hk0 (nE _));obtain⟨l,hl⟩:∃l:Nat,l=s+k.log2-52:=⟨_,rfl⟩
 have hlast:max (p+((k*2^t).log2:Int)-52) (-1074)=(l:Int)-1074:=by rw[ab0 _ _ hk0];omega
 have hkept:Toward.even.cut neg ((k*2^t) <<< (p-((l:Int)-1074)).e) (((l:Int)-1074)-p).e=k*2^(s-l):=by
  rw[mE];by_cases hc:(l:Int)-1074<=p
  ·rw[show(((l:Int)-1074)-p).e=0 by omega,akP,Nat.mul_assoc,<-oD]
   congr 2;omega
  ·rw[show(p-((l:Int)-1074)).e=0 by omega,Nat.pow_zero,gH]
   obtain⟨d,hd⟩:∃d:Nat,d=(((l:Int)-1074)-p).e:=⟨_,rfl⟩
   rw[<-hd,show k*2^t=(k*2^(s-l))*2^d by rw[Nat.mul_assoc,<-oD];congr 2;omega];exact ah7 _ _ _ (Nat.mul_pos hk0 (nE _))
 have hrun:double.nearest neg (k*2^t) p=double.word neg (min (l*4503599627370496+k*2^(s-l)) 9218868437227405312):=by
  unfold Format.nearest;simp only[if_neg hne,asS,Mk,Ii,abX];rw[show((52:Nat):Int)=52 from rfl,hlast,hkept];congr 4;omega
 by_cases hl0:l=0
 ·subst hl0
  have hb:k*2^s<9007199254740992:=by
   have h5:k*2^s<2^(k.log2+1)*2^s:=(Nat.mul_lt_mul_right (nE _)).2 h2;rw[<-oD]at h5;have h6:2^(k.log2+1+s)<=2^53:=nK (by omega) (by omega);omega
  refine⟨k*2^s,by omega,?_,?_⟩
  ·rw[hrun,Jq,bB,Nat.sub_zero,oC (by omega)]
  ·generalize k*2^s=z at hb
   unfold V mag pl;split
   ·rename_i h7;rw[show z/4503599627370496=0 by omega];simp
   ·rename_i h7;rw[show z/4503599627370496=1 by omega];simp;omega
 ·have hb1:4503599627370496<=k*2^(s-l):=by
   have h5:2^k.log2*2^(s-l)<=k*2^(s-l):=dw _ h1;rw[<-oD,show k.log2+(s-l)=52 by omega]at h5;exact h5
  have hb2:k*2^(s-l)<9007199254740992:=by
   have h5:k*2^(s-l)<2^(k.log2+1)*2^(s-l):=(Nat.mul_lt_mul_right (nE _)).2 h2;rw[<-oD,show k.log2+1+(s-l)=53 by omega]at h5;exact h5
  have hv:k*2^s=k*2^(s-l)*2^l:=by rw[Nat.mul_assoc,<-oD];congr 2;omega
  rw[hv];generalize k*2^(s-l)=z at hb1 hb2 hrun;refine⟨l*4503599627370496+z,by omega,?_,?_⟩
  ·rw[hrun,oC (by omega)]
  ·unfold V mag pl
   rw[if_neg (by omega),show(l*4503599627370496+z)/4503599627370496=l+1 by omega,show(l*4503599627370496+z)%4503599627370496=z-4503599627370496 by omega];rw[show 4503599627370496+(z-4503599627370496)=z by omega];rfl
def top:Nat:=1074
theorem aeF:top=1074:=rfl
def U:Nat:=2^top
theorem akQ{p:Nat}(h:p<=top):U=2^(top-p)*2^p:=by
 have h1:2^(top-p+p)=2^(top-p)*2^p:=oD 2 (top-p) p;rw[Nat.sub_add_cancel h]at h1;exact h1
theorem aoD{p:Nat}(h:p<=1074):U=2^(1074-p)*2^p:=by
 have h1:=akQ (p:=p) (by rw[aeF];exact h);rw[h1,show top-p=1074-p from congrArg (fun z=>z-p) aeF]
theorem aBU:∃s:Nat,s=1074/\U=2^s:=⟨top,aeF,rfl⟩
theorem akR:0<U:=nE _
theorem ah9:double.read 4652218415073722368=.number false 4503599627370496 (-42):=by decide +kernel
theorem akS:V 4652007308841189376=1000*U:=by decide +kernel
theorem Fg(r:Nat):double.word false r=r:=rfl
theorem ZJ(x t s:Nat)(p:Int)(hp:p+t=(s:Int)-1074)(hs:s<=2045):
 ∃r,r<9218868437227405312/\double.write (.number false (mag x*2^t) p)=r/\V r=mag x*2^s:=by
 unfold Format.write;by_cases h0:mag x=0
 ·rw[h0,Jq]
  exact⟨0,by decide,by simp[Format.nearest,Fg],by simp[aeE]⟩
 ·have hm:=asT x
  have awX:(mag x).log2<=52:=EU ((Nat.log2_lt h0).2 (by simpa using hm));obtain⟨r,a,b,c⟩:=Kt false (mag x) t s p hp (by omega) hm (by omega);exact⟨r,a,b.trans (Fg r),c⟩
theorem akT{x:Nat}(h:x<=4652007308841189376):∃r,r<9218868437227405312/\double.mul x 4652218415073722368=some r/\V r=V x*1024:=by
 unfold Format.mul;rw[Ij (x:=x) (by omega),ah9];obtain⟨r,a,b,c⟩:=ZJ x 52 (pl x+10) ((pl x:Int)-1074 + -42) (by omega) (by unfold pl;omega);refine⟨r,a,?_,?_⟩
 ·simp only[Datum.product,Option.map]
  rw[show(4503599627370496:Nat)=2^52 from rfl];exact congrArg some b
 ·rw[c,V,oD,Nat.mul_assoc]
theorem ab2:double.mul 9223372036854775808 4652218415073722368=some 9223372036854775808:=by decide +kernel
theorem Uq{r c:Nat}(h:V r<=V c):pl r<=pl c:=by
 have:=Um.1 h;unfold pl;have:=Nat.div_le_div_right (c:=4503599627370496) this;omega
theorem ari{r:Nat}(h:pl r<=1074):mag r/2^(1074-pl r)=V r/U:=by
 unfold V;rw[aoD h,Nat.mul_div_mul_right _ _ (nE _)]
theorem Xb{r:Nat}(hr:r<9218868437227405312)(h:pl r<=1074):(double.read r).integral .down=.number false (V r/U) 0:=by
 rw[Ij hr];simp only[Datum.integral];rw[show((pl r:Int)-1074).e=0 by omega,show(-((pl r:Int)-1074)).e=1074-pl r by omega,Nat.shiftLeft_zero,ab1,ari h]
theorem Xc{r:Nat}(hr:r<9218868437227405312)(h:pl r<=1074):(double.read r).integral .zero=.number false (V r/U) 0:=by
 rw[Ij hr];simp only[Datum.integral];rw[show((pl r:Int)-1074).e=0 by omega,show(-((pl r:Int)-1074)).e=1074-pl r by omega,Nat.shiftLeft_zero,ah8,ari h]
theorem ab3(q:Nat)(hq:q<9007199254740992):∃r,r<9218868437227405312/\double.write (.number false q 0)=r/\V r=q*U:=by
 unfold Format.write;by_cases h0:q=0
 ·subst h0
  exact⟨0,by decide,by simp[Format.nearest,Fg],by simp[aeE]⟩
 ·have awX:q.log2<=52:=EU ((Nat.log2_lt h0).2 (by simpa using hq))
  obtain⟨u,hu,hU⟩:=aBU;obtain⟨r,a,b,c⟩:=Kt false q 0 u 0 (by omega) (by omega) hq (by omega);rw[Nat.pow_zero,gH]at b;rw[<-hU]at c;exact⟨r,a,b.trans (Fg r),c⟩
theorem akU:V 4697254411347427328=1048576*U:=by decide +kernel
theorem akV{r q:Nat}(hv:V r=q*U)(hq:q<=1048576):pl r<=1074:=by
 have h1:V r<=V 4697254411347427328:=by rw[hv,akU];exact dw _ hq
 have h2:=Uq h1;have h3:pl 4697254411347427328=1042:=by decide +kernel
 omega
def uK(x:Nat):Nat:=V x*1024/U
theorem ab4{x y:Nat}(h:x<=y):uK x<=uK y:=Nat.div_le_div_right (dw _ (ZH h))
theorem ab5:uK 4652007308841189376=1024000:=by
 unfold uK;rw[akS,Nat.mul_right_comm,Nat.mul_div_cancel _ akR]
theorem ah'{x:Nat}(h:x<=4652007308841189376):uK x<=1024000:=ab5 ▸ ab4 h
end Fl
theorem yR(x:Nat)(w:ak):(callFunc 198 #[.float .f64 x]).I ah w = .Z (.value (.b .c x)) w:=by
 rw[yu Tryz.func198 (by kernel_rfl) (by kernel_rfl) (by kernel_rfl) (e:=Extern.MathFloatBits.float64bits) (by kernel_rfl)];rfl
def ord(x y:Nat):Option Ordering:=jX.format.order x y
def Ur(x:Nat):Bool:=ord x x != some .eq
theorem aia(x:Nat)(w:ak):aP ah 261 #[.float .f64 x] w fun e w'=>e=.a (.e (Ur x))/\w=w':=by
 go_enter Tryz.func261,Tryz.ntmps261;go_wp2;go_ret;exact⟨rfl,rfl⟩
def Ku(x:Nat):Nat:=if Ur x then 9221120237041090560 else x
theorem akX(x:Nat)(w:ak):aP ah 192 #[.float .f64 x] w fun e w'=>e=.a (.b .c (Ku x))/\w=w':=by
 have h1:=yR x;cases hn:Ur x
 all_goals
  go_enter Tryz.func192,Tryz.ntmps192;go_wp2_with (first|(go_at_call 261;refine(aia _ _).g ?_;rintro e w' ⟨rfl,rfl⟩));go_ret;exact⟨by simp[Ku,hn],rfl⟩
def D8(x y:Nat):Bool:=Ku x==Ku y
theorem ab6(x y:Nat)(w:ak):aP ah 112 #[.float .f64 x,.float .f64 y] w fun e w'=>e=.a (.e (D8 x y))/\w=w':=by
 go_enter Tryz.func112,Tryz.ntmps112;go_wp2_with (first|(go_at_call 192;refine(akX _ _).g ?_;rintro e w' ⟨rfl,rfl⟩));go_ret;exact⟨by simp[D8,aov],rfl⟩
def OP(x:Nat):Bool:=(ord x 0==some .gt||ord x 0==some .eq)&&(ord x 4652007308841189376==some .lt||ord x 4652007308841189376==some .eq)
theorem JC(x:Nat)(w:ak):aP ah 170 #[.float .f64 x] w fun e w'=>e=.a (.e (OP x))/\w=w':=by
 cases h0:(jX.format.order x 0==some .gt||jX.format.order x 0==some .eq)
 all_goals
  go_enter Tryz.func170,Tryz.ntmps170;go_wp2;go_ret;exact⟨by simp[OP,ord,h0],rfl⟩
def kI(x:Nat):Nat:=if ord x 0==some .eq then 0 else x
theorem yS(x:Nat)(w:ak):aP ah 113 #[.float .f64 x] w fun e w'=>e=.a (.float .f64 (kI x))/\w=w':=by
 cases h0:(jX.format.order x 0==some .eq)
 all_goals
  go_enter Tryz.func113,Tryz.ntmps113;go_wp2;go_ret;exact⟨by simp[kI,ord,h0],rfl⟩
def Xd(x:Nat):Bool:=decide (x<=4652007308841189376)||x==9223372036854775808
theorem JD{x:Nat}(hx:x<18446744073709551616):OP x=Xd x:=by
 have f0:Fl.XP 0:=by unfold Fl.XP;omega
 have f1:Fl.XP 4652007308841189376:=by unfold Fl.XP;omega
 have s0:Fl.SV 0=0:=by decide +kernel
 have s1:Fl.SV 4652007308841189376=(Fl.V 4652007308841189376:Int):=by unfold Fl.SV;rw[if_pos (by omega)]
 have asU:∀a b,ord a b=tV.order a b:=fun _ _=>rfl
 unfold OP Xd;rw[bV];simp only[asU];by_cases hf:Fl.XP x
 ·rw[Fl.ZI hf f0,Fl.ZI hf f1,s0,s1]
  have e1:∀a b:Int,(some (compare a b)==some Ordering.gt||some (compare a b)==some Ordering.eq)=decide (b<=a):=by
   intro a b;rw[bV];simp[Int.compare_eq_gt,Int.compare_eq_eq];omega
  have e2:∀a b:Int,(some (compare a b)==some Ordering.lt||some (compare a b)==some Ordering.eq)=decide (a<=b):=by
   intro a b;rw[bV];simp[Int.compare_eq_lt,Int.compare_eq_eq];omega
  rw[e1,e2];unfold Fl.SV;split
  ·rename_i h1
   have:=@Fl.Um x 4652007308841189376;simp;omega
  ·rename_i h1
   have:=@Fl.Um (x-9223372036854775808) 0;have hz:=Fl.aeE;simp;omega
 ·have hno:¬x<=4652007308841189376:=fun h=>hf (by unfold Fl.XP;omega)
  have hno':¬x=9223372036854775808:=fun h=>hf (by unfold Fl.XP;omega)
  rcases Fl.agN hx hf with rfl|rfl|⟨s,f,h⟩
  ·rw[Fl.XQ f0,Fl.XQ f1];decide
  ·rw[Fl.Uo f0,Fl.Uo f1];decide
  ·rw[Fl.OO h,Fl.OO h]
   simp;omega
def wQ(x:Nat):Nat:=if Xd x then Fl.uK (x%9223372036854775808)else 0
theorem arj(x:Nat):wQ x<=1024000:=by
 unfold wQ;split
 ·rename_i h
  simp[Xd]at h;refine Fl.ah' ?_;omega
 ·omega
theorem Us(x:Nat)(d:Ieee.Datum)(h:tV.read x=d)(hn:d.isNaN=false)(w:ak):
 (callFunc 244 #[.float .f64 x]).I ah w = .Z (.value (.float .f64 (tV.write (d.integral .down)))) w:=by
 rw[yu Tryz.func244 (by kernel_rfl) (by kernel_rfl) (by kernel_rfl) (e:=Extern.MathFloor.toIntegral (Tryz.f244.E) .down) (by kernel_rfl)];have e:jX.decode x=d:=h;have hrun:Jr ah (Extern.MathFloor.toIntegral (Tryz.f244.E) .down #[.float .f64 x]) w = .Z (.float .f64 (tV.write (d.integral .down))) w:=by
  change Jr ah ((match jX.decode x with
   | .nan s t=>
     if jX.format.quiet t=t then pure (vH .f64 x)else do
     let kept<-choose _
     pure (vH .f64 (if kept==1 then x else jX.encode (.nan s (jX.format.quiet t))))
   | d=>pure (vH .f64 (jX.encode (d.integral .down)))):wX aB) w=_
  rw[e];cases d with
  | nan s f=>simp[Ieee.Datum.isNaN]at hn
  | infinity s=>rfl
  | number s m i=>rfl
 rw[hrun];rfl
theorem aib(x:Nat)(h:Xd x=true)(w:ak):aP ah 86 #[.float .f64 x] w fun e w'=>e=.a (.J #[.b .a (wQ x),.e true])/\w=w':=by
 have hx:x<18446744073709551616:=by simp[Xd]at h;omega
 have hr:OP x=true:=by rw[JD hx,h]
 obtain⟨r,r2,e1,e2,e3,e4⟩:∃r r2,tV.mul x 4652218415073722368=some r/\(tV.read r).isNaN=false/\tV.write ((tV.read r).integral .down)=r2/\floatToIntVal .f64 r2 .a=some (wQ x:Int):=by
  by_cases hm:x=9223372036854775808
  ·subst hm
   exact⟨_,_,Fl.ab2,by decide +kernel,rfl,by decide +kernel⟩
  ·have hle:x<=4652007308841189376:=by simp[Xd]at h;omega
   have hq:wQ x=Fl.uK x:=by unfold wQ;rw[if_pos h,fP (by omega)]
   obtain⟨r,a,b,c⟩:=Fl.akT hle;have aH4:=arj x;have hV:Fl.V r<1048576*Fl.U:=by
    have h1:=Fl.ZH hle;rw[Fl.akS]at h1;have:=Fl.akR;rw[c];generalize Fl.V x=y at h1;generalize Fl.U=u at h1 this;omega
   have hpl:Fl.pl r<=1074:=by
    have h1:Fl.V r<=Fl.V 4697254411347427328:=by rw[Fl.akU];exact Nat.le_of_lt hV
    have h2:=Fl.Uq h1;have h3:Fl.pl 4697254411347427328=1042:=by decide +kernel
    omega
   have hi:=Fl.Xb a hpl;have hqq:Fl.V r/Fl.U=wQ x:=by rw[hq,c];rfl
   rw[hqq]at hi;obtain⟨r2,a2,b2,c2⟩:=Fl.ab3 (wQ x) (by omega);have hz:=Fl.Xc a2 (Fl.akV c2 (by omega));rw[c2,Nat.mul_div_cancel _ Fl.akR]at hz;refine⟨r,r2,b,?_,?_,?_⟩
   ·rw[Fl.Ij a];rfl
   ·rw[hi];exact b2
   ·unfold floatToIntVal
    have:(jX.decode r2).toInt .zero=some (wQ x:Int):=by
     show(tV.read r2).toInt .zero=_;unfold Ieee.Datum.toInt;rw[hz];simp[Ieee.signed]
    rw[this];simp[Jm,Jo,lT,nP];omega
 have h1:=fun w=>run_float_arith (P:=ah) w .mul 60 .f64 x 4652218415073722368 r e1
 have h2:=Us r _ rfl e2;rw[e3]at h2;have h3:=fun w=>run_convert_float_int (P:=ah) w 60 3 .f64 .a r2 _ (by kernel_rfl) gQ e4
 clear e1 e2 e3 e4;go_enter Tryz.func86,Tryz.ntmps86;go_wp2_with (first|(go_at_call 170;refine(JC _ _).g ?_;rintro e w' ⟨rfl,rfl⟩)|(go_at_call 171;go_in));go_ret2;exact⟨rfl,rfl⟩
theorem aic(x:Nat)(hx:x<18446744073709551616)(h:Xd x=false)(w:ak):aP ah 86 #[.float .f64 x] w fun e w'=>e=.a (.J #[.b .a (wQ x),.e false])/\w=w':=by
 have hr:OP x=false:=by rw[JD hx,h]
 have hq:wQ x=0:=by unfold wQ;rw[h];rfl
 go_enter Tryz.func86,Tryz.ntmps86;go_wp2_with (first|(go_at_call 170;refine(JC _ _).g ?_;rintro e w' ⟨rfl,rfl⟩));go_ret2;exact⟨by simp[hq],rfl⟩
theorem aeG(x:Nat)(hx:x<18446744073709551616)(w:ak):aP ah 86 #[.float .f64 x] w fun e w'=>e=.a (.J #[.b .a (wQ x),.e (Xd x)])/\w=w':=by
 cases h:Xd x
 ·exact aic x hx h w
 ·exact aib x h w
theorem Mq(x m k:Nat)(hx:x<18446744073709551616)(hm:m+1=2^k)(hk:m<18446744073709551616):bits .and .c (x:Int) (m:Int)=((x%2^k:Nat):Int):=by
 rw[bits_and_u64_nat x m hx hk,show m=2^k-1 by omega,Nat.and_two_pow_sub_one_eq_mod]
theorem aie(x:Nat)(hx:x<18446744073709551616)(w:ak):aP ah 265 #[.float .f64 x] w fun e w'=>
 e=.a (.J #[.e (decide (9223372036854775808<=x)),.b .a (x/4503599627370496%2048:Nat),.b .c (x%4503599627370496:Nat)])/\w=w':=by
 have h1:=yR x;have h2:bits .and .c ((x:Int)/4503599627370496) 2047=((x/4503599627370496%2048:Nat):Int):=
  Mq (x/4503599627370496) 2047 11 (by omega) (by omega) (by omega)
 have h3:bits .and .c (x:Int) 4503599627370495=((x%4503599627370496:Nat):Int):=
  Mq x 4503599627370495 52 (by omega) (by omega) (by omega)
 go_enter Tryz.func265,Tryz.ntmps265;go_wp2;go_ret3;refine⟨?_,rfl⟩;have e1:((x:Int)/9223372036854775808==1)=decide (9223372036854775808<=x):=by rw[bV];simp;omega
 have e2:wrap64 ((x/4503599627370496%2048:Nat):Int)=((x/4503599627370496%2048:Nat):Int):=IntWalk.wrap64_in _ (by omega);simp[e1]
theorem ab7(n i:Nat):rO n (i+1)=rO n i++[Fa n i]:=by
 unfold rO;rw[List.range_succ,List.map_append];rfl
theorem ab8(n k:Nat)(hk:k<=8)(hn:n<18446744073709551616)(w:ak):
 aP ah 197 #[.b .c n,.b .a k,.e true] w fun e w'=>∃v,e=.a v /\
  w'.c w.a.j 5 1 v k ((iG n k true).map bv)/\aL w.a.j w w':=by
 obtain⟨i0,hi0,hz0,hz1,hz2⟩:=info_parts Ia;go_enter Tryz.func197,Tryz.ntmps197;go_wp2;go_loopw [0,7,8] (fun s0 s7 s8 wr=>∃(i:Nat)(A:Option aT)(cap:Nat),i<=k/\s0=.b .c (n/2^(8*i):Nat)/\s7=.a A i cap/\s8=.b .a i/\wr.c w.a.j 5 1 (.a A i cap) i ((rO n i).reverse.map bv)/\aL w.a.j w wr) (fun _ _ s8 _=>k-(intOf s8).e)
 case atStart=>exact⟨0,none,0,by omega,by simp,rfl,rfl,fu _ _ _ _,aG _ _⟩
 case round=>
  obtain⟨i,A,cap,hi,rfl,rfl,rfl,hown,hb⟩:=hrel;by_cases hlt:i<k
  ·have hlt2:(i:Int)<k:=by omega
   have hlt3:(i:Int)<8:=by omega
   have hlo:=ab7 n i;have hbyte:=abS n i;have hq:n/2^(8*i)<18446744073709551616:=Nat.lt_of_le_of_lt (J5 _ _) hn;have hn2:n/2^(8*(i+1))=n/2^(8*i)/256:=by
    rw[Nat.div_div_eq_div_mul,show 8*(i+1)=8*i+8 by omega,oD]
   have akY:((Fa n i).e:Int)=((n/2^(8*i):Nat):Int)%256:=by rw[hbyte];simp
   have HN:=ab hn2;have HLO:=ab hlo;have OQ:=ab akY;clear hn2 hlo hbyte akY;generalize n/2^(8*i)=q at hq HN OQ ⊢;have hrd:=Rd.iQ hown;have HO:=ab hown;clear hown;have o1:(wr.alloc (.D #[.b .b ((q:Int)%256)] 5)).c w.a.j 5 1 (.a (some ⟨wr.a.j,0,none⟩) 1 1) 1 [.b .b ((q:Int)%256)]:=
    nU wr #[.b .b ((q:Int)%256)] 1 hb.j (by unfold maxLen;omega) rfl
   have o2:=hrd.alloc (av _) (.D #[.b .b ((q:Int)%256)] 5);have o3:w.a.j<=(wr.alloc (.D #[.b .b ((q:Int)%256)] 5)).a.j:=by have:=hb.j;simp;omega
   have O1:=ab o1;have O2:=ab o2;have O3:=ab o3;have HB:=ab hb;clear o1 o2 o3 hrd hb;go_wp2_with (at_builtin;refine jv _ rfl (.tmp 26) (.tmp 27) _ rfl w.a.j 5 i0 (.b .b 0) 1 1 cu hi0 hz0 hz1 hz2 rfl (av 1) (.a (some ⟨wr.a.j,0,none⟩) 1 1) 1 [.b .b ((q:Int)%256)] rfl O1.i wr.a.j A i cap ((rO n i).reverse.map bv) rfl O2.i (EZ _) (by unfold maxLen;omega) (by omega) O3.i ?_;intro v1 w1 hown1 hg1 wM);go_roundw
   case rel=>
    obtain⟨A',cap',hv,_,_⟩:=jE hown1;refine⟨i+1,A',cap',by omega,by rw[HN.i];go_num,by rw[hv,lM],by go_num,?_,?_⟩
    ·rw[lM i 1,<-hv,lM 1 i,HLO.i]
     rw[lM 1 i]at hown1;simpa[bv,OQ.i]using hown1
    ·exact sj (HB.i.alloc HB.i.j _) hg1 HB.i.j O3.i
   case measure=>simp[intOf]<;>omega
  ·obtain rfl:i=k:=by omega
   have hd:decide ((i:Int)<(i:Int))=false:=by simp
   go_wp2;go_ret;exact⟨_,rfl,hown,hb⟩
theorem akZ{x:Nat}(hx:x<18446744073709551616):Ur x=((((x/4503599627370496%2048:Nat):Int)==2047)&&(((x%4503599627370496:Nat):Int) != 0)):=by
 have asU:ord x x=tV.order x x:=rfl;unfold Ur;rw[asU,bV];by_cases hf:Fl.XP x
 ·rw[Fl.ZI hf hf]
  have:compare (Fl.SV x) (Fl.SV x)=.eq:=Int.compare_eq_eq.2 rfl;rw[this];unfold Fl.XP at hf;simp;omega
 ·rcases Fl.agN hx hf with rfl|rfl|⟨s,f,h⟩
  ·decide +kernel
  ·decide +kernel
  ·rw[Fl.OO h]
   have h1:x≠9218868437227405312:=by rintro rfl;rw[Fl.abY]at h;cases h
   have h2:x≠18442240474082181120:=by rintro rfl;rw[Fl.XO]at h;cases h
   unfold Fl.XP at hf;simp;omega
theorem Ut(x:Nat)(hx:x<18446744073709551616)(w:ak):aP ah 196 #[.float .f64 x] w fun e w'=>e=.a (.e (Ur x))/\w=w':=by
 have hn:=akZ hx;obtain⟨E,hE⟩:∃E:Int,E=((x/4503599627370496%2048:Nat):Int):=⟨_,rfl⟩
 obtain⟨M,hM⟩:∃M:Int,M=((x%4503599627370496:Nat):Int):=⟨_,rfl⟩
 rw[<-hE,<-hM]at hn;have HN:=ab hn;have HE:=ab hE;have HM:=ab hM;clear hn hE hM;cases hc:(E==2047)
 all_goals
  go_enter Tryz.func196,Tryz.ntmps196;go_wp2_with (first|(go_at_call 265;refine(aie _ hx _).g ?_;rintro e w' ⟨rfl,rfl⟩;rw[<-HE.i,<-HM.i]));go_ret;refine⟨?_,rfl⟩;rw[HN.i,hc];simp
theorem ab9{x:Nat}(hx:x<18446744073709551616):Ku x<18446744073709551616:=by unfold Ku;split<;>omega
def KZ(x:Nat):List UInt8:=iG (Ku x) 8 true
theorem aeH(x:Nat)(hx:x<18446744073709551616)(w:ak):aP ah 119 #[.float .f64 x] w fun e w'=>
 ∃A c,e=.a (.a A 8 c)/\fU w' w'.a.j A 8 (KZ x)/\aL w.a.j w w':=by
 have h1:=yR x;cases hn:Ur x
 ·have e1:Ku x=x:=by unfold Ku;rw[hn];rfl
  have HE:=ab e1;clear e1;go_enter Tryz.func119,Tryz.ntmps119;go_wp2_with (first|(go_at_call 196;refine(Ut _ hx _).g ?_;rintro e w' ⟨rfl,rfl⟩)|(go_at_call 197;refine(ab8 _ 8 (by omega) hx _).g ?_;rintro e w' ⟨v,rfl,hown,hbl⟩));obtain⟨A,cap,hv,_,_⟩:=jE hown;go_ret;refine⟨A,cap,by simp[hv],?_,hbl⟩;rw[hv]at hown;have:=Rd.iQ hown;unfold fU KZ;rw[HE.i];exact this
 ·have e1:KZ x=[127,248,0,0,0,0,0,0]:=by unfold KZ Ku;rw[hn,if_pos rfl];decide +kernel
  have HE:=ab e1;clear e1;go_enter Tryz.func119,Tryz.ntmps119;go_wp2_with (first|(go_at_call 196;refine(Ut _ hx _).g ?_;rintro e w' ⟨rfl,rfl⟩));go_ret;refine⟨_,_,rfl,?_,(aG _ _).alloc (av _) _⟩;rw[HE.i];refine fU.akB (c:=0) (l:=[127,248,0,0,0,0,0,0]) (World.rowIs_alloc w _ _ (fun j=>bv (([127,248,0,0,0,0,0,0]:List UInt8).c j 0)) (fun i hi=>?_)) (by simp) (by simp) (fun j hj=>rfl);simp at hi;have:i=0\/i=1\/i=2\/i=3\/i=4\/i=5\/i=6\/i=7:=by omega
  rcases this with rfl|rfl|rfl|rfl|rfl|rfl|rfl|rfl<;>rfl
theorem AZ{w:ak}{A:Option aT}{n:Nat}{l:List UInt8}(h:fU w w.a.j A n l)(c:Nat):
 (∀W,aL w.a.j w W->(convert 56 9 (.a A n c)).I ah W = .Z (.g (bT l)) W) /\
  (convert 56 9 (.a A n c)).I ah w = .Z (.g (bT l)) w:=
 ⟨fun W hW=>H9 (P:=ah) (h.O hW) _ _ _ cu lC iO c,
  H9 (P:=ah) h _ _ _ cu lC iO c⟩
theorem ab'(l:List UInt8):(bT l).a=l:=ByteArray.toList_mk l
theorem acd{n m:Nat}(k:Nat)(h:∀i,i<k->Fa n i=Fa m i):n%2^(8*k)=m%2^(8*k):=by
 induction k with
 | zero=>simp[Nat.mod_one]
 | succ k ih=>
   have h1:=ih (fun i hi=>h i (by omega));have h2:=congrArg UInt8.toNat (h k (by omega));simp only[Fa,Cv]at h2;have e:2^(8*(k+1))=2^(8*k)*256:=by rw[show 8*(k+1)=8*k+8 by omega,oD]
   rw[e,Nat.mod_mul,Nat.mod_mul,h1,h2]
theorem aeI{n m:Nat}(hn:n<18446744073709551616)(hm:m<18446744073709551616)(h:iG n 8 true=iG m 8 true):n=m:=by
 have h1:rO n 8=rO m 8:=by
  have:=congrArg List.reverse h;simpa[iG]using this
 have h2:∀i,i<8->Fa n i=Fa m i:=fun i hi=>by
  have:=congrArg (fun l:List UInt8=>l[i]?) h1;simpa[rO,hi]using this
 have h3:=acd 8 h2;rw[fP (by omega),fP (by omega)]at h3;exact h3
theorem Rx(l:List UInt8):rO (oG l) l.a=l.reverse:=by
 have key:∀(k:Nat)(l:List UInt8),l.a=k->rO (oG l) k=l.reverse:=by
  intro k
  induction k with
  | zero=>intro l hl;rw[bE hl];rfl
  | succ k ih=>
    intro l hl;obtain⟨r,c,rfl⟩:∃r c,l=r++[c]:=⟨l.dropLast,l.getLast (by intro h;simp[h]at hl),(List.dropLast_concat_getLast _).symm⟩
    have hr:r.a=k:=by simpa using hl
    have:=ih r hr;rw[Ib];unfold rO at this ⊢;rw[List.range_succ_eq_map,kL,Hq,List.reverse_append];simp only[List.reverse_cons,List.reverse_nil,dF,List.singleton_append,List.cons.injEq];constructor
    ·unfold Fa
     apply lY.1;have:=c.a;simp[Cv]
    ·rw[<-this]
     refine BR (fun i hi=>?_);simp only[Function.comp,Fa];have e:(oG r*256+c.e)/2^(8*(i+1))=oG r/2^(8*i):=by
      rw[show 8*(i+1)=8+8*i by omega,oD,<-Nat.div_div_eq_div_mul];congr 1;have:=c.a;omega
     rw[show Nat.succ i=i+1 from rfl,e]
 exact key _ l rfl
theorem ace(x y:Nat)(hx:x<18446744073709551616)(hy:y<18446744073709551616)(w:ak):aP ah 199 #[.float .f64 x,.float .f64 y] w fun e w'=>
 e=.a (.e (decide (KZ x=KZ y)))/\aL w.a.j w w':=by
 have ht:=ab';go_enter Tryz.func199,Tryz.ntmps199;go_wp2_with fail;go_region_with (first|(go_at_call 119;refine(aeH _ (by assumption) _).g ?_;rintro e w' ⟨A,c,rfl,hr,hb⟩;obtain⟨k1,k2⟩:=AZ hr c))
 all_goals go_wp2
 all_goals go_ret
 all_goals exact⟨by simp[aox,eq_comm,Act.put],aow (by assumption) hb⟩
def fC.mJ(a:fC):Bool:=(a.b.a.f 4).all (fun c=>c==0)
theorem fC.awY(a:fC):a.b.a.a=16:=a.b.size_toArray
def Bk.Ci(x:Bk):Bool:=(x.h.h||x.h.mJ)&&vQ x.E&&decide (1<=x.mR)&&decide (x.mR<=65535)&&Xd x.w
def fC.fI(a:fC)(i:Nat):UInt8:=a.b.a.c i 0
theorem fC.JE(a:fC):a.mJ=true↔∀i,4<=i->i<16->a.fI i=0:=by
 unfold fC.mJ fC.fI;rw[gJ];have hl:=a.awY;constructor
 ·intro h i h4 h16
  have:a.b.a.c i 0∈a.b.a.f 4:=by
   rw[au,aC (by omega)];exact List.mem_drop_iff_getElem.2 ⟨i-4,by omega,by simp[show 4+(i-4)=i by omega]⟩
  simpa using h _ this
 ·intro h x hx
  obtain⟨j,hj,rfl⟩:=List.mem_drop_iff_getElem.1 hx;have:=h (4+j) (by omega) (by omega);rw[au,aC (by omega)]at this;simpa using this
theorem fC.Uu{a:fC}{i:Nat}(h4:4<=i)(h16:i<16)(h:a.fI i≠0):a.mJ=false:=by
 cases hs:a.mJ
 ·rfl
 ·exact absurd (a.JE.1 hs i h4 h16) h
theorem aif(a:fC)(w:ak):aP ah 133 #[.d a.ay] w (gD w (.e (a.mJ && !a.h))):=by
 go_enter Tryz.func133,Tryz.ntmps133;go_wp2;have hb:aL w.a.j w (w.alloc (.D a.ay 27)):=(aG _ _).alloc (av _) _;have HB:=ab hb;clear hb;go_loop [3] (fun s3=>∃i:Nat,i<=16/\4<=i/\s3=.b .a i/\∀j,4<=j->j<i->a.fI j=0) (fun s3=>16-(intOf s3).e)
 case atStart=>exact⟨4,by omega,by omega,rfl,fun j h1 h2=>by omega⟩
 case round=>
  obtain⟨i,hi,hi4,rfl,hall⟩:=hrel;have HA:=ab hall;clear hall;by_cases hlt:i<16
  ·have hin:(i:Int)<16:=by omega
   have hcell:(w.alloc (.D a.ay 27)).b ⟨w.a.j,1+i,none⟩=some (.b .b ((a.fI i).e:Nat)):=by
    rw[mQ,lM];exact fC.D7 a i hlt
   have hz:((a.fI i).e:Int)=0↔a.fI i=0:=by
    constructor
    ·intro h;apply lY.1;have:(0:UInt8).e=0:=rfl;omega
    ·intro h;rw[h];rfl
   have HZ:=ab hz;clear hz;obtain⟨n,hn⟩:∃n:Nat,n=(a.fI i).e:=⟨_,rfl⟩
   rw[<-hn]at hcell HZ;clear hn;by_cases h0:n=0
   ·have h1:((n:Int) != 0)=false:=by rw[h0];rfl
    have hz0:a.fI i=0:=HZ.i.1 (by omega);have HZ0:=ab hz0;clear hz0 h0;go_wp2;go_round
    case rel=>exact⟨i+1,by omega,by omega,by go_num,fun j h1 h2=>by
     by_cases hji:j=i
     ·rw[hji];exact HZ0.i
     ·exact HA.i j h1 (by omega)⟩
    case measure=>simp[intOf]<;>omega
   ·have h1:((n:Int) != 0)=true:=by rw[bne_iff_ne];omega
    have hno:a.mJ=false:=fC.Uu hi4 hlt (fun h=>h0 (by have:=HZ.i.2 h;omega));have Fh:=ab hno;clear hno h0;go_wp2;go_ret;exact⟨by rw[Fh.i];rfl,HB.i⟩
  ·obtain rfl:i=16:=by omega
   have hs:a.mJ=true:=a.JE.2 HA.i;have HS:=ab hs;clear hs;go_wp2;go_ret;exact⟨by rw[HS.i];rfl,HB.i⟩
theorem QJ(c:Nat)(w:ak):aP ah 191 #[.b .b c] w fun e w'=>e=.a (.e ((c:Int) != 0))/\w=w':=by
 go_enter Tryz.func191,Tryz.ntmps191;go_wp2;go_ret;exact⟨rfl,rfl⟩
theorem Xe(args:Array aB)(w:ak):(callFunc 191 args).I ah w = .Z (.enter 191 args) w:=by kernel_rfl
theorem acf(a:fC)(b o c:Nat)(w:ak)(hc:∀j,j<12->w.b ⟨b,o+j,none⟩=some (.b .b ((a.fI (4+j)).e:Nat))):
 aP ah 260 #[.a (some ⟨b,o,none⟩) 12 c,.func (.func 191) #[] #[]] w fun e w'=>∃r:Int,e=.a (.b .a r)/\(decide (0<=r) = !a.mJ)/\w=w':=by
 have hen:=Xe;have HC:=ab hc;clear hc;go_enter Tryz.func260,Tryz.ntmps260;go_wp2;go_loop [8] (fun s8=>∃i:Nat,i<=12/\s8=.b .a i/\∀j,4<=j->j<4+i->a.fI j=0) (fun s8=>12-(intOf s8).e)
 case atStart=>exact⟨0,by omega,rfl,fun j h1 h2=>by omega⟩
 case round=>
  obtain⟨i,hi,rfl,hall⟩:=hrel;have HA:=ab hall;clear hall;by_cases hlt:i<12
  ·have hin:(i:Int)<12:=by omega
   have hcell:=HC.i i hlt;have hz:((a.fI (4+i)).e:Int)=0↔a.fI (4+i)=0:=by
    constructor
    ·intro h;apply lY.1;have:(0:UInt8).e=0:=rfl;omega
    ·intro h;rw[h];rfl
   have HZ:=ab hz;clear hz;obtain⟨n,hn⟩:∃n:Nat,n=(a.fI (4+i)).e:=⟨_,rfl⟩
   rw[<-hn]at hcell HZ;clear hn;by_cases h0:n=0
   ·have h1:((n:Int) != 0)=false:=by rw[h0];rfl
    have hz0:a.fI (4+i)=0:=HZ.i.1 (by omega);have HZ0:=ab hz0;clear hz0 h0;go_wp2_with (go_at_call 191;refine(QJ n _).g ?_;rintro e w' ⟨rfl,rfl⟩);go_round
    case rel=>exact⟨i+1,by omega,by go_num,fun j h1 h2=>by
     by_cases hji:j=4+i
     ·rw[hji];exact HZ0.i
     ·exact HA.i j h1 (by omega)⟩
    case measure=>simp[intOf]<;>omega
   ·have h1:((n:Int) != 0)=true:=by rw[bne_iff_ne];omega
    have hno:a.mJ=false:=fC.Uu (i:=4+i) (by omega) (by omega) (fun h=>h0 (by have:=HZ.i.2 h;omega));have Fh:=ab hno;clear hno h0;go_wp2_with (go_at_call 191;refine(QJ n _).g ?_;rintro e w' ⟨rfl,rfl⟩);go_ret;exact⟨_,rfl,by rw[Fh.i];simp,rfl⟩
  ·obtain rfl:i=12:=by omega
   have hs:a.mJ=true:=a.JE.2 HA.i;have HS:=ab hs;clear hs;go_wp2;go_ret;exact⟨_,rfl,by rw[HS.i];simp,rfl⟩
theorem QK(a:fC)(b o c:Nat)(w:ak)(hc:∀j,j<12->w.b ⟨b,o+j,none⟩=some (.b .b ((a.fI (4+j)).e:Nat))):
 aP ah 189 #[.a (some ⟨b,o,none⟩) 12 c,.func (.func 191) #[] #[]] w fun e w'=>e=.a (.e (!a.mJ))/\w=w':=by
 have HC:=ab hc;clear hc;go_enter Tryz.func189,Tryz.ntmps189;go_wp2_with (go_at_call 260;refine(acf a b o c _ HC.i).g ?_;rintro e w' ⟨r,rfl,hr,rfl⟩);go_ret;exact⟨by simp,rfl⟩
theorem aeJ(w:ak)(x:Bk)(t:bF):∀j,j<12->(w.alloc (.D x.ay t)).b ⟨w.a.j,6+j,none⟩=some (.b .b ((x.h.fI (4+j)).e:Nat)):=fun j hj=>by
 rw[mQ,show 6+j=(4+j)+2 by omega];exact Bk.D7 x (4+j) (by omega)
theorem acg(x:Bk)(w:ak)(hn:x.E.a<=9223372036854775807)(hw:x.w<18446744073709551616):
 aP ah 111 #[.d x.ay] w (gD w (.e x.Ci)):=by
 have ht:=aeJ w x 62;have HT:=ab ht;clear ht;have hr:=JD hw;have HR:=ab hr;clear hr;have hf:x.Ci=((x.h.h||x.h.mJ)&&vQ x.E&&decide (1<=x.mR)&&decide (x.mR<=65535)&&Xd x.w):=rfl;have HF:=ab hf;clear hf;have hb0:aL w.a.j w (w.alloc (.D x.ay 62)):=(aG _ _).alloc (av _) _;have HB0:=ab hb0;clear hb0;cases hs:(x.h.h||x.h.mJ)
 ·have h6:x.h.h=false:=by cases h:x.h.h<;>simp_all
  have hsh:x.h.mJ=false:=by cases h:x.h.mJ<;>simp_all
  have HS:=ab hs;clear hs;go_enter Tryz.func111,Tryz.ntmps111;go_wp2_with fail;refine(QK x.h _ 6 _ _ HT.i).g ?_;rintro e w' ⟨rfl,rfl⟩;rw[hsh];go_wp2_with fail;go_ret;exact⟨by rw[HF.i,HS.i];rfl,HB0.i⟩
 ·have HS:=ab hs
  have hk:vQ x.E=true\/vQ x.E=false:=by cases vQ x.E<;>simp
  clear hs;have main:∀(K:Bool),vQ x.E=K->x.h.h=true\/(x.h.h=false/\x.h.mJ=true) ->
   aP ah 111 #[.d x.ay] w fun e w'=>e=.a (.e x.Ci)/\aL w.a.j w w':=by
   intro K hK h6;have HK:=ab hK;clear hK hk;rcases h6 with h6|⟨h6,hsh⟩
   all_goals
    go_enter Tryz.func111,Tryz.ntmps111;go_wp2_with fail
    try(refine(QK x.h _ 6 _ _ HT.i).g ?_;rintro e w' ⟨rfl,rfl⟩;rw[hsh];go_wp2_with fail)
    refine(Uj _ _ hn).g ?_;rintro e w1 ⟨rfl,hb1⟩;rw[HK.i];have hcl:=ahZ hb1;have hB1:aL w.a.j w w1:=HB0.i.trans (hb1.g (by simp));have HB1:=ab hB1;clear hb1 hB1;cases K
    ·go_wp2_with fail
     go_ret;exact⟨by rw[HF.i,HS.i,HK.i];rfl,HB1.i⟩
    ·by_cases p1:1<=x.mR
     ·by_cases p2:x.mR<=65535
      ·go_wp2_with fail
       refine(JC _ _).g ?_;rintro e w' ⟨rfl,rfl⟩;rw[HR.i];go_wp2_with fail;go_ret;exact⟨by rw[HF.i,HS.i,HK.i];simp[p1,p2]<;>intros<;>omega,HB1.i⟩
      ·go_wp2_with fail
       go_ret;exact⟨by rw[HF.i,HS.i,HK.i];simp[p1,p2]<;>intros<;>omega,HB1.i⟩
     ·go_wp2_with fail
      go_ret;exact⟨by rw[HF.i,HS.i,HK.i];simp[p1]<;>intros<;>omega,HB1.i⟩
  refine main _ rfl ?_;have:=HS.i;cases h:x.h.h
  ·right;rw[h]at this;exact⟨rfl,by simpa using this⟩
  ·left;rfl
def dH(l:List Bk):List aB:=l.h (·.ay.a)
theorem jF(l:List Bk):(dH l).a=l.a*27:=by
 induction l with
 | nil=>rfl
 | cons x l ih=>
   have hx:=Bk.G x;rw[dH,iM,aR,aZ,hx,bC];rw[dH]at ih;rw[ih];omega
theorem Ik(l:List Bk)(k j:Nat)(hk:k<l.a)(hj:j<27):(dH l)[k*27+j]? = (l.c k jg).ay[j]?:=by
 induction l generalizing k with
 | nil=>simp at hk
 | cons x l ih=>
   have hx:=Bk.G x;rw[dH,iM];rcases k with _|k
   ·rw[mM (by rw[aZ,hx];omega),dD]
    simp
   ·rw[qY (by rw[aZ,hx];omega),aZ,hx,show(k+1)*27+j-27=k*27+j by omega]
    rw[bC]at hk;rw[List.getD_cons_succ];exact ih k (by omega)
def Ea(w:ak)(B:Nat)(A:Option aT)(n:Nat)(l:List Bk):Prop:=
 l.a=n/\Rd w B 27 A n (dH l)/\∀a,A=some a->0<n->a=⟨a.block,a.off,none⟩
section
variable {w w':ak} {B B' n:Nat} {A:Option aT} {l:List Bk}
theorem Ea.O(h:Ea w B A n l)(hb:aL B w w'):Ea w' B A n l:=⟨h.1,Rd.O h.2.1 hb,h.2.2⟩
theorem Ea.lF(h:Ea w B A n l)(hB:B<=B'):Ea w B' A n l:=⟨h.1,Rd.lF h.2.1 hB,h.2.2⟩
theorem Ea.alloc(h:Ea w B A n l)(hB:B<=w.a.j)(o:Obj):Ea (w.alloc o) B A n l:=⟨h.1,Rd.alloc h.2.1 hB o,h.2.2⟩
theorem Ea.cell{k:Nat}(h:Ea w B A n l)(hk:k<n):∃b o,A=some ⟨b,o,none⟩/\b<B/\∀j,j<27->w.b ⟨b,o+k*27+j,none⟩=(l.c k jg).ay[j]?:=by
 obtain⟨h1,h2,h3⟩:=h;obtain⟨a,hA,hb,hc⟩:=h2.2 (by omega);have:=h3 a hA (by omega);refine⟨a.block,a.off,by rw[hA,<-this],hb,fun j hj=>?_⟩;have hg:=Ik l k j (by omega) hj;have hs:((l.c k jg).ay)[j]? = some ((l.c k jg).ay[j]'(by rw[Bk.G];exact hj)):=fD _;rw[hs]at hg ⊢;have:=hc _ _ hg;rw[h3 a hA (by omega),iC]at this;rw[<-this,mZ]
theorem Ea.fI{k:Nat}(h:Ea w B A n l)(hk:k<n):∃b o,A=some ⟨b,o,none⟩/\b<B/\vw w b (o+k*27) 27/\dM w b (o+k*27) 27=(l.c k jg).ay:=by
 obtain⟨b,o,hA,hb,hc⟩:=h.cell hk;exact⟨b,o,hA,hb,wL (Bk.G _) hc⟩
end
def mD(a b:List UInt8):Int:=iw a b
theorem aeK(a b:List UInt8):mD a b = -1\/mD a b=0\/mD a b=1:=by
 unfold mD
 induction a generalizing b with
 | nil=>cases b<;>simp[iw]
 | cons x a ih=>
   cases b with
   | nil=>simp[iw]
   | cons y b=>
     unfold iw;split
     ·simp
     ·split
      ·simp
      ·exact ih b
theorem OT(x y:UInt8):x<y\/x=y\/y<x:=by
 rcases Nat.lt_trichotomy x.e y.e with h|h|h
 ·exact Or.inl (zA.2 h)
 ·exact Or.inr (Or.inl (lY.1 h))
 ·exact Or.inr (Or.inr (zA.2 h))
theorem JF{a b:List UInt8}:mD a b=0↔a=b:=by
 unfold mD
 induction a generalizing b with
 | nil=>cases b<;>simp[iw]
 | cons x a ih=>
   cases b with
   | nil=>simp[iw]
   | cons y b=>
     unfold iw;rcases OT x y with h|rfl|h
     ·have:x≠y:=fun e=>by subst e;exact kG x h
      simp[h,this]
     ·have:=kG x
      simp[this,ih]
     ·have h1:¬x<y:=fun h2=>kG x (sS h2 h)
      have:x≠y:=fun e=>by subst e;exact kG x h
      simp[h,h1,this]
theorem aii(a b:List UInt8):mD b a = - mD a b:=by
 unfold mD
 induction a generalizing b with
 | nil=>cases b<;>simp[iw]
 | cons x a ih=>
   cases b with
   | nil=>simp[iw]
   | cons y b=>
     unfold iw;rcases OT x y with h|rfl|h
     ·have h1:¬y<x:=fun h2=>kG x (sS h h2)
      simp[h,h1]
     ·have:=kG x
      simp[this,ih]
     ·have h1:¬x<y:=fun h2=>kG x (sS h2 h)
      simp[h,h1]
theorem Fj{a b c:List UInt8}(h1:mD a b<0)(h2:mD b c<0):mD a c<0:=by
 unfold mD at *
 induction a generalizing b c with
 | nil=>
   cases c with
   | nil=>cases b<;>simp[iw]at h1 h2
   | cons z c=>simp[iw]
 | cons x a ih=>
   cases b with
   | nil=>simp[iw]at h1
   | cons y b=>
     cases c with
     | nil=>simp[iw]at h2
     | cons z c=>
       unfold iw at h1 h2 ⊢;rcases OT x y with h|rfl|h
       ·rcases OT y z with k|rfl|k
        ·have:=sS h k
         simp[this]
        ·simp[h]
        ·have k1:¬y<z:=fun k2=>kG z (sS k k2)
         simp[k,k1]at h2
       ·have hx:=kG x
        rcases OT x z with k|rfl|k
        ·simp[k]
        ·simp[hx]at h1 h2 ⊢
         exact ih h1 h2
        ·have k1:¬x<z:=fun k2=>kG z (sS k k2)
         simp[k,k1]at h2
       ·have h3:¬x<y:=fun k2=>kG y (sS h k2)
        simp[h,h3]at h1
theorem xM(a b:List UInt8):bQ a b=decide (mD a b<0):=by
 unfold mD
 induction a generalizing b with
 | nil=>cases b<;>simp[iw,bQ]
 | cons x a ih=>
   cases b with
   | nil=>simp[iw,bQ]
   | cons y b=>
     unfold iw bQ;rcases OT x y with h|rfl|h
     ·simp[h]
     ·have:=kG x
      simp[this,ih]
     ·have h1:¬x<y:=fun h2=>kG x (sS h2 h)
      have:x≠y:=fun e=>by subst e;exact kG x h
      simp[h,h1,this]
def Fp(l:List Bk):Prop:=l.Pairwise fun x y=>mD x.E y.E<0
def nm(l:List Bk)(i:Nat):List UInt8:=(l.c i jg).E
theorem Fp.lt{l:List Bk}(h:Fp l){i j:Nat}(hij:i<j)(hj:j<l.a):mD (nm l i) (nm l j)<0:=by
 have:=List.pairwise_iff_getElem.1 h i j (by omega) hj hij;unfold nm;rw[au,au,aC hj,aC (by omega:i<l.a)];exact this
theorem Fp.down{l:List Bk}(h:Fp l){i j:Nat}(s:List UInt8)(hij:i<=j)(hj:j<l.a)(hs:mD (nm l j) s<0):mD (nm l i) s<0:=by
 rcases aY i j with h1|h1
 ·exact Fj (h.lt h1 hj) hs
 ·obtain rfl:i=j:=by omega
  exact hs
theorem Fp.up{l:List Bk}(h:Fp l){i j:Nat}(s:List UInt8)(hij:i<=j)(hj:j<l.a)(hs:¬mD (nm l i) s<0):¬mD (nm l j) s<0:=fun h1=>hs (h.down s hij hj h1)
def kJ(l:List Bk)(s:List UInt8):Nat:=(l.takeWhile fun x=>decide (mD x.E s<0)).a
theorem agO{l:List Bk}{s:List UInt8}{k:Nat}(hk:k<=l.a)(h1:∀i,i<k->mD (nm l i) s<0)(h2:k<l.a->¬mD (nm l k) s<0):kJ l s=k:=by
 unfold kJ
 induction l generalizing k with
 | nil=>simp at hk⊢;omega
 | cons x l ih=>
   rcases k with _|k
   ·have:¬mD x.E s<0:=h2 (by simp)
    simp[this]
   ·have h0:mD x.E s<0:=h1 0 (by omega)
    rw[List.takeWhile_cons];simp only[h0,decide_true,if_true,bC];rw[ih (k:=k) (by simpa using hk) (fun i hi=>h1 (i+1) (by omega)) (fun hi=>h2 (by simpa using hi))]
theorem Uv(a b:List UInt8)(w:ak):(callFunc 302 #[.g (bT a),.g (bT b)]).I ah w = .Z (.value (.b .a (mD a b))) w:=by
 rw[yu Tryz.func302 (by kernel_rfl) (by kernel_rfl) (by kernel_rfl) (e:=Extern.BytealgCompare.compare) (by kernel_rfl),Lib.run_compareString];rfl
theorem Mr(a b:List UInt8)(w:ak):aP ah 240 #[.g (bT a),.g (bT b)] w fun e w'=>e=.a (.b .a (mD a b))/\w=w':=by
 have h:=Uv a b;go_enter Tryz.func240,Tryz.ntmps240;go_wp2;go_ret;exact⟨rfl,rfl⟩
theorem QL(a b:List UInt8)(w:ak):aP ah 166 #[.g (bT a),.g (bT b)] w fun e w'=>e=.a (.b .a (mD a b))/\w=w':=by
 go_enter Tryz.func166,Tryz.ntmps166;go_wp2_with (go_at_call 240;refine(Mr _ _ _).g ?_;rintro e w' ⟨rfl,rfl⟩);go_ret;exact⟨rfl,rfl⟩
theorem SG(x:Bk)(s:List UInt8)(w:ak):aP ah 179 #[.d x.ay,.g (bT s)] w (gD w (.b .a (mD x.E s))):=by
 have hb0:aL w.a.j w (w.alloc (.D x.ay 62)):=(aG _ _).alloc (av _) _;have HB0:=ab hb0;clear hb0;go_enter Tryz.func179,Tryz.ntmps179;go_wp2_with (go_at_call 166;refine(QL _ _ _).g ?_;rintro e w' ⟨rfl,rfl⟩);go_ret;exact⟨rfl,HB0.i⟩
def sM(l:List Bk)(s:List UInt8):Bool:=decide (kJ l s<l.a)&&decide (mD (nm l (kJ l s)) s=0)
def qc(l:List Bk)(s:List UInt8):Bk:=if sM l s then l.c (kJ l s) jg else jg
theorem aoE{l:List Bk}{s:List UInt8}(h:sM l s=false):qc l s=jg:=by simp[qc,h]
theorem Eb{l:List Bk}{s:List UInt8}(h:sM l s=true):qc l s=l.c (kJ l s) jg:=by simp[qc,h]
theorem aij(args:Array aB)(w:ak):(callFunc 179 args).I ah w = .Z (.enter 179 args) w:=by kernel_rfl
theorem aeL(l:List Bk)(hs:Fp l)(s:List UInt8)(A:Option aT)(c:Nat)(w:ak)(hR:Ea w w.a.j A l.a l)(hn:l.a<4611686018427387904):
 aP ah 178 #[.a A l.a c,.g (bT s),.func (.func 179) #[] #[]] w
  (gD w (.J #[.b .a (kJ l s),.e (sM l s)])):=by
 have hen:=aij;have HR:=ab hR;clear hR;have HS:=ab hs;clear hs;obtain⟨n,hnl⟩:=cB l.a;rw[<-hnl]at HR hn ⊢;have HN:=ab hnl;clear hnl;go_enter Tryz.func178,Tryz.ntmps178;go_wp2;go_loopw [9,10] (fun s9 s10 wr=>∃i j:Nat,i<=j/\j<=n/\s9=.b .a i/\s10=.b .a j/\(∀k,k<i->mD (nm l k) s<0)/\(∀k,j<=k->k<n->¬mD (nm l k) s<0)/\aL w.a.j w wr) (fun s9 s10 _=>(intOf s10-intOf s9).e)
 case atStart=>exact⟨0,n,by omega,av _,rfl,rfl,fun k hk=>by omega,fun k h1 h2=>by omega,aG _ _⟩
 case round=>
  obtain⟨i,j,hij,hjn,rfl,rfl,hlo,hhi,hb⟩:=hrel;have HLO:=ab hlo;have HHI:=ab hhi;have HB:=ab hb;clear hlo hhi hb;by_cases hlt:i<j
  ·have hin:(i:Int)<j:=by omega
   have hmn:(i+j)/2<n:=by omega
   have hR1:=HR.i.O HB.i;obtain⟨b,o,rfl,hbb,hh,hc⟩:=hR1.fI hmn;have GU:=ab hbb;clear hR1 hbb;have hdn:∀k,k<=(i+j)/2->mD (nm l ((i+j)/2)) s<0->mD (nm l k) s<0:=fun k hk h=>HS.i.down s hk (by have:=HN.i;omega) h
   have hup:∀k,(i+j)/2<=k->k<n->¬mD (nm l ((i+j)/2)) s<0->¬mD (nm l k) s<0:=fun k hk hkn h=>HS.i.up s hk (by have:=HN.i;omega) h
   have HDN:=ab hdn;have HUP:=ab hup;clear hdn hup;unfold nm at HDN HUP;obtain⟨x,hx⟩:=cB (l.c ((i+j)/2) jg);rw[<-hx]at hc HDN HUP;clear hx;by_cases ht:mD x.E s<0
   ·have hd:decide (mD x.E s<0)=true:=by simpa using ht
    go_wp2_with (go_at_call 179;refine(SG x s _).g ?_;rintro e w1 ⟨rfl,hb1⟩;clear hh hc;have HB1:=ab hb1;clear hb1);go_roundw
    case rel=>exact⟨(i+j)/2+1,j,by omega,by omega,by go_num,by go_num,fun k hk=>HDN.i k (by omega) ht,fun k h1 h2=>by have:=HHI.i k h1 h2;omega,iX HB.i HB1.i⟩
    case measure=>simp[intOf]<;>omega
   ·have hd:decide (mD x.E s<0)=false:=by simpa using ht
    go_wp2_with (go_at_call 179;refine(SG x s _).g ?_;rintro e w1 ⟨rfl,hb1⟩;clear hh hc;have HB1:=ab hb1;clear hb1);go_roundw
    case rel=>exact⟨i,(i+j)/2,by omega,by omega,by go_num,by go_num,HLO.i,fun k h1 h2=>by have:=HUP.i k h1 h2 ht;unfold nm;omega,iX HB.i HB1.i⟩
    case measure=>simp[intOf]<;>omega
  ·obtain rfl:i=j:=by omega
   have hlo:kJ l s=i:=agO (by have:=HN.i;omega) HLO.i (fun h=>by have:=HHI.i i (av _) (by have:=HN.i;omega);omega);have ak0:=ab hlo;clear hlo;by_cases hlt2:i<n
   ·have hin:(i:Int)<n:=by omega
    have hR1:=HR.i.O HB.i;obtain⟨b,o,rfl,hbb,hh,hc⟩:=hR1.fI hlt2;clear hR1 hbb;have hf:sM l s=decide (mD (l.c i jg).E s=0):=by
     have h1:=ak0.i;have h2:=HN.i;unfold sM nm;rw[h1];simp[show i<l.a by omega]
    have HF:=ab hf;clear hf;obtain⟨x,hx⟩:=cB (l.c i jg);rw[<-hx]at hc HF;clear hx;by_cases ht:mD x.E s=0
    ·have hd:(mD x.E s==0)=true:=by simpa using ht
     go_wp2_with (go_at_call 179;refine(SG x s _).g ?_;rintro e w1 ⟨rfl,hb1⟩;clear hh hc;have HB1:=ab hb1;clear hb1);go_ret2;exact⟨by rw[ak0.i,HF.i];simp[ht],iX HB.i HB1.i⟩
    ·have hd:(mD x.E s==0)=false:=by simpa using ht
     go_wp2_with (go_at_call 179;refine(SG x s _).g ?_;rintro e w1 ⟨rfl,hb1⟩;clear hh hc;have HB1:=ab hb1;clear hb1);go_ret2;exact⟨by rw[ak0.i,HF.i];simp[ht],iX HB.i HB1.i⟩
   ·have hf:sM l s=false:=by
     have h1:=ak0.i;have h2:=HN.i;unfold sM;rw[h1];simp[show¬i<l.a by omega]
    have HF:=ab hf;clear hf;have hd:decide ((i:Int)<n)=false:=by simpa using hlt2
    go_wp2;go_ret2;exact⟨by rw[ak0.i,HF.i];rfl,HB.i⟩
theorem K6(l:List Bk)(hs:Fp l)(s:List UInt8)(v:Int)(A:Option aT)(c:Nat)(w:ak)(hR:Ea w w.a.j A l.a l)(hn:l.a<4611686018427387904):
 aP ah 96 #[.d #[.b .a v,.a A l.a c],.g (bT s)] w (gD w (.J #[.b .a (kJ l s),.e (sM l s)])):=by
 have hb0:∀ob,aL w.a.j w (w.alloc ob):=fun ob=>(aG _ _).alloc (av _) _
 have HB0:=ab hb0;clear hb0;have HR1:=ab (fun ob=>(hR.alloc (av _) ob).lF (B':=(w.alloc ob).a.j) (by simp));clear hR;go_enter Tryz.func96,Tryz.ntmps96;go_wp2_with (go_at_call 178;refine(aeL l hs s A c _ (HR1.i _) hn).g ?_;rintro e w1 ⟨rfl,hb1⟩;have HB1:=ab hb1;clear hb1);go_ret2;exact⟨rfl,iX (HB0.i _) HB1.i⟩
theorem Bf(l:List Bk)(hs:Fp l)(s:List UInt8)(v:Int)(A:Option aT)(c:Nat)(w:ak)(hR:Ea w w.a.j A l.a l)(hn:l.a<4611686018427387904):
 aP ah 33 #[.d #[.b .a v,.a A l.a c],.g (bT s)] w (gD w (.J #[.d (qc l s).ay,.e (sM l s)])):=by
 have hb0:∀ob sK,aL w.a.j w ((w.alloc ob).alloc sK):=fun ob sK=>((aG _ _).alloc (av _) _).alloc (by simp) _
 have HB0:=ab hb0;clear hb0;have HR1:=ab (fun ob sK=>((hR.alloc (av _) ob).alloc (by simp) sK).lF (B':=((w.alloc ob).alloc sK).a.j) (by simp;omega));have HRB:=ab hR;clear hR;obtain⟨K,hK⟩:=tN (sM l s);have HK:=ab hK;clear hK;cases K
 ·go_enter Tryz.func33,Tryz.ntmps33
  go_wp2_with fail;refine(K6 l hs s v A c _ (HR1.i _ _) hn).g ?_;rintro e w1 ⟨rfl,hb1⟩;rw[HK.i];have hth:=QF (XM (w.alloc (.D #[.b .a v,.a A l.a c] 32)) jg.ay 62 (Bk.G _)) hb1 (by simp);rw[show∀ob,(w.alloc ob).a.j=w.a.j+1 from fun ob=>by simp]at hth;have hB:=HB0.i (.D #[.b .a v,.a A l.a c] 32) (.D jg.ay 62);have HB1:=ab (hB.trans (hb1.g (by simp;omega)));have HT:=ab hth;clear hb1 hB;go_wp2_with fail
  (try simp only[Exit.inBlock,Exit.then])
  refine aN (akL rfl _ _ _ _ rfl (Mj _ _ _ _ HT.i).1) rfl ⟨?_,QI HB1.i _ _ _ (by omega)⟩;rw[(Mj _ _ _ _ HT.i).2,aoE HK.i]
  try rw[HK.i]
  rfl
 ·have hlt:kJ l s<l.a:=by
   have:=HK.i;unfold sM at this;simp at this;exact this.1
  have hin:((kJ l s:Nat):Int)<(l.a:Nat):=by omega
  go_enter Tryz.func33,Tryz.ntmps33;go_wp2_with fail;refine(K6 l hs s v A c _ (HR1.i _ _) hn).g ?_;rintro e w1 ⟨rfl,hb1⟩;rw[HK.i];have hcl:w1.b ⟨w.a.j,1,none⟩=some (.a A l.a c):=by
   rw[hb1.cell (by simp;omega)];go_simp
  have hth:=QF (XM (w.alloc (.D #[.b .a v,.a A l.a c] 32)) jg.ay 62 (Bk.G _)) hb1 (by simp);rw[show∀ob,(w.alloc ob).a.j=w.a.j+1 from fun ob=>by simp]at hth;have hB:=HB0.i (.D #[.b .a v,.a A l.a c] 32) (.D jg.ay 62);have hB1:=hB.trans (hb1.g (by simp;omega));have HB1:=ab hB1;have hR1:=HRB.i.O hB1;have HT:=ab hth;clear hb1 hB hB1;obtain⟨b,o,rfl,hbb,hh,hc⟩:=hR1.fI hlt;clear hbb hR1;obtain⟨x,hx⟩:=cB (l.c (kJ l s) jg);rw[<-hx]at hc;have HX:=ab hx;clear hx;go_wp2_with fail
  (try simp only[Exit.inBlock,Exit.then])
  refine aN (akL rfl _ _ _ _ rfl (Mj _ _ _ _ HT.i).1) rfl ⟨?_,QI HB1.i _ _ _ (by omega)⟩;rw[(Mj _ _ _ _ HT.i).2,Eb HK.i,<-HX.i]
  try rw[HK.i]
  rfl
theorem nL{P:eG}{T:Type}(f:T->ak){id:Nat}{Q:zO->qR->ak->Prop}{a:qR}{w:ak}{l:List iZ}(hm:P.follows .mixedOrders=true)(hB:Region.lexB .any l.b=true)
 (n0:T) (h0:f n0=w.drew)
 (h:wpQuiet P l.b (fun w'=>∃n,w'=f n) (fun a'=>∀w',(∃n,w'=f n)->Q .normal a' w') l a):(Code.region id l.b true).wp P Q a w:=
 wp_region_quiet (C:=fun w'=>∃n,w'=f n) hm hB ⟨n0,h0.symm⟩ (by simpa using h)
theorem Ec(S:ak->Prop)(w:ak)(h:S w.drew):∃(T:Type)(f:T->ak)(n0:T),f n0=w.drew/\(∀n,S (f n))/\(∀W,S W->∃n,W=f n):=
 ⟨{W // S W},Subtype.val,⟨w.drew,h⟩,rfl,fun n=>n.2,fun W hW=>⟨⟨W,hW⟩,rfl⟩⟩
theorem aik(x:Nat):D8 x x=true:=by simp[D8]
def Xf(x:Nat):Bool:=D8 x (kI x)
def Bk.pJ(x:Bk):Prop:=x.E.a<=9223372036854775807/\x.w<18446744073709551616
def J7(l:List Bk)(i:Nat):Bool:=(l.c i jg).Ci&&Xf (l.c i jg).w&&(decide (i=0)||decide (mD (nm l (i-1)) (nm l i)<0))
def xO(v:Int)(l:List Bk):Bool:=decide (0<=v)&&decide (v<=1099511627776)&&decide (l.a<=1024)&&(dP l.a).all (J7 l)
theorem Il(p:Nat->Bool)(i:Nat):(dP (i+1)).all p=((dP i).all p&&p i):=by
 rw[List.range_succ,List.all_append];simp
theorem jh(p:Nat->Bool)(i n:Nat)(h:i<n)(hp:p i=false):(dP n).all p=false:=by
 rw[List.all_eq_false];exact⟨i,eO.2 h,by rw[hp];simp⟩
def SR(n4:Nat)(x:Bk)(hp:Nat)(sl:aB)(b o:Nat)(pn:List UInt8)(W:ak):Prop:=
 n4<W.a.j/\hp<W.a.j/\b<W.a.j/\vw W n4 0 27/\dM W n4 0 27=x.ay/\W.b ⟨n4,0,none⟩=some (.g (bT x.E))/\W.b ⟨n4,25,none⟩=some (fv x.w)/\W.b ⟨hp,1,none⟩=some sl/\W.b ⟨b,o,none⟩=some (.g (bT pn))
theorem SR.O{n4 hp b o:Nat}{x:Bk}{sl:aB}{pn:List UInt8}{W W1:ak}(h:SR n4 x hp sl b o pn W)(hb:aL W.a.j W W1):SR n4 x hp sl b o pn W1:=by
 obtain⟨h1,h2,h3,h4,h5,h6,h7,h8,h9⟩:=h;have hz:=hb.j;refine⟨by omega,by omega,by omega,fun j hj=>?_,?_,by rw[hb.cell h1];exact h6,by rw[hb.cell h1];exact h7,by rw[hb.cell h2];exact h8,by rw[hb.cell h3];exact h9⟩
 ·obtain⟨v,hv⟩:=h4 j hj
  exact⟨v,by rw[hb.cell h1];exact hv⟩
 ·rw[<-h5];exact AX fun j _=>hb.cell h1
theorem SR.load{n4 hp b o:Nat}{x:Bk}{sl:aB}{pn:List UInt8}{W:ak}(h:SR n4 x hp sl b o pn W):(KY (.c (some ⟨n4,0,none⟩))).I ah W = .Z (.d x.ay) W:=by
 rw[ZB W n4 0 h.2.2.2.1,h.2.2.2.2.1]
theorem Xg(l:List Bk)(hf:∀x∈l,x.pJ)(v:Int)(A:Option aT)(c:Nat)(w:ak)(hR:Ea w w.a.j A l.a l)(hn:l.a<4611686018427387904):
 aP ah 45 #[.d #[.b .a v,.a A l.a c]] w (gD w (.e (xO v l))):=by
 have hb0:∀ob,aL w.a.j w (w.alloc ob):=fun ob=>(aG _ _).alloc (av _) _
 have HB0:=ab hb0;clear hb0;have HR:=ab hR;have HF:=ab hf;clear hR hf;have hp:xO v l=(decide (0<=v)&&decide (v<=1099511627776)&&decide (l.a<=1024)&&(dP l.a).all (J7 l)):=rfl;have HP:=ab hp;clear hp;by_cases h1:0<=v;rotate_left
 ·have h1':v<0:=by omega
  go_enter Tryz.func45,Tryz.ntmps45;go_wp2;go_ret;exact⟨by rw[HP.i];simp<;>intros<;>omega,HB0.i _⟩
 by_cases h2:v<=1099511627776;rotate_left
 ·go_enter Tryz.func45,Tryz.ntmps45
  go_wp2;go_ret;exact⟨by rw[HP.i];simp<;>intros<;>omega,HB0.i _⟩
 by_cases h3:l.a<=1024;rotate_left
 ·go_enter Tryz.func45,Tryz.ntmps45
  go_wp2;go_ret;exact⟨by rw[HP.i];simp<;>intros<;>omega,HB0.i _⟩
 obtain⟨n,hnl⟩:=cB l.a;rw[<-hnl]at HR hn h3 ⊢;have HN:=ab hnl;clear hnl;go_enter Tryz.func45,Tryz.ntmps45;go_wp2;go_loopw [22] (fun s22 wr=>∃i:Nat,i<=n/\s22=.b .a i/\(dP i).all (J7 l)=true/\aL (w.a.j+1) (w.alloc (.D #[.b .a v,.a A n c] 32)) wr) (fun s22 _=>n-(intOf s22).e)
 case atStart=>exact⟨0,by omega,rfl,rfl,by simpa using aG _ _⟩
 case round=>
  obtain⟨i,hin,rfl,hall,hb⟩:=hrel;have HA:=ab hall;have hB:=(HB0.i (.D #[.b .a v,.a A n c] 32)).trans (hb.g (by simp));have hcl:wr.b ⟨w.a.j,1,none⟩=some (.a A n c):=by
   rw[hb.cell (by simp)];go_simp
  have HB:=ab hb;have HBW:=ab hB;have hsz:=hb.j;clear hall hb hB;by_cases hlt:i<n
  ·have hi:(i:Int)<n:=by omega
   have hR1:=HR.i.O HBW.i;obtain⟨b,o,rfl,hbb,hh,hc⟩:=hR1.fI hlt;have hbs:b<wr.a.j:=by simp at hsz;omega
   have hmem:l.c i jg∈l:=by
    have:=HN.i;rw[au,aC (by omega)];simp
   obtain⟨hx1,hx2⟩:=HF.i _ hmem;have hok:J7 l i=((l.c i jg).Ci&&Xf (l.c i jg).w&&(decide (i=0)||decide (mD (nm l (i-1)) (nm l i)<0))):=rfl;have hnm:nm l i=(l.c i jg).E:=rfl;rw[hnm]at hok;obtain⟨x,hx⟩:=cB (l.c i jg);rw[<-hx]at hc hx1 hx2 hok;have JA:=ab hok;clear hx hok hnm hmem;obtain⟨K1,hK1⟩:∃K,x.Ci=K:=⟨_,rfl⟩
   obtain⟨K2,hK2⟩:∃K,D8 x.w (kI x.w)=K:=⟨_,rfl⟩
   have hn4:wr.a.j<(wr.alloc (.D x.ay 62)).a.j:=by simp
   have hS:∀b' o' pn,b'<wr.a.j->wr.b ⟨b',o',none⟩=some (.g (bT pn))->SR wr.a.j x w.a.j (.a (some ⟨b,o,none⟩) n c) b' o' pn (wr.alloc (.D x.ay 62)):=by
    intro b' o' pn h1 h2;refine⟨by simp,by simp at hsz⊢;omega,by simp;omega,?_,?_,?_,?_,?_,?_⟩
    ·rw[Uk];trivial
    ·exact Ih _ _ _
    ·rw[mQ];exact Bk.qw x
    ·rw[mQ];exact Bk.aeB x
    ·rw[vG _ _ _ (by simp at hsz⊢;omega)];exact hcl
    ·rw[vG _ _ _ (by simpa using h1)];exact h2
   have hpn:∃pn,(0<i->wr.b ⟨b,o+(i-1)*27,none⟩=some (.g (bT pn))/\nm l (i-1)=pn):=by
    refine⟨nm l (i-1),fun h0=>⟨?_,rfl⟩⟩;obtain⟨b',o',ZL,_,hcc⟩:=hR1.cell (k:=i-1) (by omega);injection ZL with ZL
    injection ZL with e1 e2
    subst e1 e2;have:=hcc 0 (by omega);rw[Bk.qw]at this;simpa[nm]using this
   have hn0:wr.b ⟨b,o+i*27,none⟩=some (.g (bT x.E)):=by
    have:=hh 0 (by omega);obtain⟨u,hu⟩:=this;have hg:=Ie wr b (o+i*27) 27 0 (by omega);rw[hc,Bk.qw]at hg;rw[hu]at hg;simp at hg hu;rw[hu,<-hg]
   have Xh:∀b' o' pn,b'<wr.a.j->wr.b ⟨b',o',none⟩=some (.g (bT pn))->∃(T:Type)(f:T->ak)(n0:T),f n0=(wr.alloc (.D x.ay 62)).drew/\(∀m W1,aL (f m).a.j (f m) W1->∃m',W1=f m')/\(∀m,aL (w.a.j+1) (w.alloc (.D #[.b .a v,.a (some ⟨b,o,none⟩) n c] 32)) (f m)) /\
    (∀m,(KY (.c (some ⟨wr.a.j,0,none⟩))).I ah (f m) = .Z (.d x.ay) (f m))/\(∀m,(f m).b ⟨wr.a.j,0,none⟩=some (.g (bT x.E)))/\(∀m,(f m).b ⟨wr.a.j,25,none⟩=some (.float .f64 x.w)) /\
     (∀m,(f m).b ⟨w.a.j,1,none⟩=some (.a (some ⟨b,o,none⟩) n c))/\(∀m,(f m).b ⟨b',o',none⟩=some (.g (bT pn))):=by
    intro b' o' pn h1 h2;obtain⟨T,f,n0,e0,eS,eT⟩:=Ec (fun W=>SR wr.a.j x w.a.j (.a (some ⟨b,o,none⟩) n c) b' o' pn W/\aL (w.a.j+1) (w.alloc (.D #[.b .a v,.a (some ⟨b,o,none⟩) n c] 32)) W)
     (wr.alloc (.D x.ay 62)) ⟨hS _ _ _ h1 h2,(HB.i.alloc (by simp at hsz;omega) _).drew⟩
    refine⟨T,f,n0,e0,?_,fun m=>(eS m).2,fun m=>(eS m).1.load,fun m=>(eS m).1.2.2.2.2.2.1,fun m=>(eS m).1.2.2.2.2.2.2.1,fun m=>(eS m).1.2.2.2.2.2.2.2.1,fun m=>(eS m).1.2.2.2.2.2.2.2.2⟩;intro m W1 hb;have:=(eS m).2.j;exact eT _ ⟨(eS m).1.O hb,(eS m).2.trans (hb.g (by simpa using this))⟩
   have zk:∀K,x.Ci=K->∀W,aP ah 111 #[.d x.ay] W fun e w'=>e=.a (.e K)/\aL W.a.j W w':=fun K h W=>by
    have:=acg x W hx1 hx2;rw[h]at this;exact this
   have pR:∀K,D8 x.w (kI x.w)=K->∀W,aP ah 112 #[.float .f64 x.w,.float .f64 (kI x.w)] W fun e w'=>e=.a (.e K)/\W=w':=fun K h W=>by
    have:=ab6 x.w (kI x.w) W;rw[h]at this;exact this
   cases K1
   ·have hno:J7 l i=false:=by rw[JA.i,hK1];rfl
    have ach:=jh (J7 l) i n hlt hno;have hPF:xO v l=false:=by rw[HP.i,<-HN.i,ach];simp
    have HPF:=ab hPF;have HRI:=ab (zk _ hK1);have SH:=ab (pR _ hK2);clear hK1 hK2 hpn hno ach hPF zk pR;obtain⟨T,f,n0,e0,es,ew,r1,r2,r3,r4,r5⟩:=Xh _ _ _ hbs hn0;have hne:Nonempty T:=⟨n0⟩
    have E0:=ab e0;have ES:=ab es;have EW:=ab ew;clear hS Xh e0 es ew;go_upto_region 6 with fail
    refine nL f (by kernel_rfl) (by kernel_rfl) n0 E0.i ?_
    repeat(go_big_quiet_step ((first
     | (go_at_call 111;refine(HRI.i _).g ?_;rintro e w1 ⟨rfl,hb1⟩;exact⟨rfl,ES.i _ _ hb1⟩)
     | (go_at_call 113;refine(yS _ _).g ?_;rintro e w1 ⟨rfl,rfl⟩;exact⟨rfl,_,rfl⟩)
     | (go_at_call 112;refine(SH.i _).g ?_;rintro e w1 ⟨rfl,rfl⟩;exact⟨rfl,_,rfl⟩))))
    refine gK ?_;rintro _ ⟨m,rfl⟩;go_wp2;go_ret;exact⟨by rw[HPF.i];rfl,(HB0.i _).trans ((EW.i _).g (by simp))⟩
   ·cases K2
    ·have hno:J7 l i=false:=by rw[JA.i];unfold Xf;rw[hK2];simp
     have ach:=jh (J7 l) i n hlt hno;have hPF:xO v l=false:=by rw[HP.i,<-HN.i,ach];simp
     have HPF:=ab hPF;have HRI:=ab (zk _ hK1);have SH:=ab (pR _ hK2);clear hK1 hK2 hpn hno ach hPF zk pR;obtain⟨T,f,n0,e0,es,ew,r1,r2,r3,r4,r5⟩:=Xh _ _ _ hbs hn0;have hne:Nonempty T:=⟨n0⟩
     have E0:=ab e0;have ES:=ab es;have EW:=ab ew;clear hS Xh e0 es ew;go_upto_region 6 with fail
     refine nL f (by kernel_rfl) (by kernel_rfl) n0 E0.i ?_
     repeat(go_big_quiet_step ((first
      | (go_at_call 111;refine(HRI.i _).g ?_;rintro e w1 ⟨rfl,hb1⟩;exact⟨rfl,ES.i _ _ hb1⟩)
      | (go_at_call 113;refine(yS _ _).g ?_;rintro e w1 ⟨rfl,rfl⟩;exact⟨rfl,_,rfl⟩)
      | (go_at_call 112;refine(SH.i _).g ?_;rintro e w1 ⟨rfl,rfl⟩;exact⟨rfl,_,rfl⟩))))
     refine gK ?_;rintro _ ⟨m,rfl⟩;go_wp2;go_ret;exact⟨by rw[HPF.i];rfl,(HB0.i _).trans ((EW.i _).g (by simp))⟩
    ·rcases i with _|i
     ·simp only[Jq,nD]at hh hc hn0
      have hyes:(dP (0+1)).all (J7 l)=(dP 0).all (J7 l):=by
       rw[Il,JA.i];unfold Xf;rw[hK1,hK2];simp
      have HY:=ab hyes;have HRI:=ab (zk _ hK1);have SH:=ab (pR _ hK2);clear hK1 hK2 hpn hyes zk pR;obtain⟨T,f,n0,e0,es,ew,r1,r2,r3,r4,r5⟩:=Xh _ _ _ hbs hn0;have hne:Nonempty T:=⟨n0⟩
      have E0:=ab e0;have ES:=ab es;have EW:=ab ew;clear hS Xh e0 es ew;go_upto_region 6 with fail
      refine nL f (by kernel_rfl) (by kernel_rfl) n0 E0.i ?_
      repeat(go_big_quiet_step ((first
       | (go_at_call 111;refine(HRI.i _).g ?_;rintro e w1 ⟨rfl,hb1⟩;exact⟨rfl,ES.i _ _ hb1⟩)
       | (go_at_call 113;refine(yS _ _).g ?_;rintro e w1 ⟨rfl,rfl⟩;exact⟨rfl,_,rfl⟩)
       | (go_at_call 112;refine(SH.i _).g ?_;rintro e w1 ⟨rfl,rfl⟩;exact⟨rfl,_,rfl⟩))))
      refine gK ?_;rintro _ ⟨m,rfl⟩;go_wp2;go_roundw
      case rel=>exact⟨0+1,by omega,by go_num,by rw[HY.i];exact HA.i,EW.i _⟩
      case measure=>simp[intOf]<;>omega
     ·obtain⟨pn,hpn⟩:=hpn
      obtain⟨hp1,hp2⟩:=hpn (by omega);clear hpn;simp only[Nat.add_sub_cancel]at hp1 hp2;have hok2:J7 l (i+1)=(x.Ci&&Xf x.w&&(decide (i+1=0)||decide (mD pn x.E<0))):=by rw[JA.i,Nat.add_sub_cancel,hp2]
      have hbl:=xM pn x.E;by_cases ht:mD pn x.E<0
      ·have hbt:bQ pn x.E=true:=by rw[hbl];simpa using ht
       have hyes:(dP (i+1+1)).all (J7 l)=(dP (i+1)).all (J7 l):=by
        rw[Il,hok2];unfold Xf;rw[hK1,hK2];simp[ht]
       have HY:=ab hyes;have HRI:=ab (zk _ hK1);have SH:=ab (pR _ hK2);clear hK1 hK2 hyes zk pR hok2 hbl hp2 ht;obtain⟨T,f,n0,e0,es,ew,r1,r2,r3,r4,r5⟩:=Xh _ _ _ hbs hp1;have hne:Nonempty T:=⟨n0⟩
       have E0:=ab e0;have ES:=ab es;have EW:=ab ew;clear hS Xh e0 es ew;go_upto_region 6 with fail
       refine nL f (by kernel_rfl) (by kernel_rfl) n0 E0.i ?_
       repeat(go_big_quiet_step ((first
        | (go_at_call 111;refine(HRI.i _).g ?_;rintro e w1 ⟨rfl,hb1⟩;exact⟨rfl,ES.i _ _ hb1⟩)
        | (go_at_call 113;refine(yS _ _).g ?_;rintro e w1 ⟨rfl,rfl⟩;exact⟨rfl,_,rfl⟩)
        | (go_at_call 112;refine(SH.i _).g ?_;rintro e w1 ⟨rfl,rfl⟩;exact⟨rfl,_,rfl⟩))))
       refine gK ?_;rintro _ ⟨m,rfl⟩;go_wp2;go_roundw
       case rel=>exact⟨i+1+1,by omega,by go_num,by rw[HY.i];exact HA.i,EW.i _⟩
       case measure=>simp[intOf]<;>omega
      ·have hbt:bQ pn x.E=false:=by rw[hbl];simpa using ht
       have hno:J7 l (i+1)=false:=by rw[hok2];simp[ht]
       have ach:=jh (J7 l) (i+1) n hlt hno;have hPF:xO v l=false:=by rw[HP.i,<-HN.i,ach];simp
       have HPF:=ab hPF;have HRI:=ab (zk _ hK1);have SH:=ab (pR _ hK2);clear hK1 hK2 hno ach hPF zk pR hok2 hbl hp2 ht;obtain⟨T,f,n0,e0,es,ew,r1,r2,r3,r4,r5⟩:=Xh _ _ _ hbs hp1;have hne:Nonempty T:=⟨n0⟩
       have E0:=ab e0;have ES:=ab es;have EW:=ab ew;clear hS Xh e0 es ew;go_upto_region 6 with fail
       refine nL f (by kernel_rfl) (by kernel_rfl) n0 E0.i ?_
       repeat(go_big_quiet_step ((first
        | (go_at_call 111;refine(HRI.i _).g ?_;rintro e w1 ⟨rfl,hb1⟩;exact⟨rfl,ES.i _ _ hb1⟩)
        | (go_at_call 113;refine(yS _ _).g ?_;rintro e w1 ⟨rfl,rfl⟩;exact⟨rfl,_,rfl⟩)
        | (go_at_call 112;refine(SH.i _).g ?_;rintro e w1 ⟨rfl,rfl⟩;exact⟨rfl,_,rfl⟩))))
       refine gK ?_;rintro _ ⟨m,rfl⟩;go_wp2;go_ret;exact⟨by rw[HPF.i];rfl,(HB0.i _).trans ((EW.i _).g (by simp))⟩
  ·obtain rfl:i=n:=by omega
   have hPT:xO v l=true:=by rw[HP.i,<-HN.i,HA.i];simp[h1,h2,h3]<;>omega
   have HPT:=ab hPT;clear hPT;have hd:decide ((i:Int)<i)=false:=by simp
   go_wp2;go_ret;exact⟨by rw[HPT.i];rfl,HBW.i⟩
structure Tu where
 h:fC
 X:fC
 aQ:Int
 kV:Int
 j6:Int
deriving DecidableEq
structure Fw where
 key:Tu
 E:List UInt8
 xk:Int
 seen:Int
 no:Int
deriving DecidableEq
structure pY where
 kT:Int
 X:List Bk
 h:List Hl
 G:List Fw
 fQ:Int
 no:Int
 ji:Vector Int 11
deriving DecidableEq
def mX:fC:=⟨false,bG 16 0⟩
def aeN:Tu:=⟨mX,mX,0,0,0⟩
def kD:Fw:=⟨aeN,[],0,0,0⟩
def uL:pY:=⟨0,[],[],[],0,0,bG 11 0⟩
abbrev RS:=Option (List UInt8)
def Gv(k:Nat):RS->List UInt8×RS
 | some l=>if k<=l.a then(l.d k,some (l.f k))else([],none)
 | none=>([],none)
def aci(k:Nat)(s:RS):Nat×RS:=(oG (Gv k s).1,(Gv k s).2)
def qd(n:Nat)(l:List UInt8):Vector UInt8 n:=DT fun i=>l.c i 0
def tuO(s:RS):(Tu×Bool)×RS:=
 let a1:=aci 1 s
 let a2:=Gv 16 a1.2
 let a3:=Gv 16 a2.2
 let a4:=aci 1 a3.2
 let a5:=aci 2 a4.2
 let a6:=aci 2 a5.2
 ((⟨⟨a1.1==6,qd 16 a2.1⟩,⟨a1.1==6,qd 16 a3.1⟩,a4.1,a5.1,a6.1⟩,(a1.1==6)||(a1.1==4)),a6.2)
def LW(t:Tu):List UInt8:=[if t.h.h then 6 else 4]++(t.h.b.a++(t.X.b.a++([aJ t.aQ.e]++(iG t.kV.e 2 true++iG t.j6.e 2 true))))
def XT(n m:Int):Bool:=decide (0<=n)&&decide (n<=m)
def qF(a:fC):Bool:=a.h||(a.b.a.f 4).all (· == 0)
def Fq(t:Tu):Bool:=decide (t.h.h=t.X.h)&&qF t.h&&qF t.X&&XT t.aQ 255&&XT t.kV 65535&&XT t.j6 65535
def Dz(x:Fw):Bool:=Fq x.key&&vQ x.E&&decide (1<=x.xk)&&decide (x.xk<=5)&&XT x.seen 1099511627776&&XT x.no 1152921504606846976
theorem Uw(a b:Vector UInt8 6)(d:Nat)(W:ak):(jf (d+2) 25 (.d (a.a.map bv).b) (.d (b.a.map bv).b)).I ah W = .Z (decide (a=b)) W:=by
 rw[Gt d EH (by kernel_rfl) lC _ _ (by simp) (by simp),agK]
theorem ain(a b:Vector UInt8 16)(d:Nat)(W:ak):(jf (d+2) 22 (.d (a.a.map bv).b) (.d (b.a.map bv).b)).I ah W = .Z (decide (a=b)) W:=by
 rw[Gt d qh (by kernel_rfl) lC _ _ (by simp) (by simp),agK]
theorem fC.aio(a:fC):a.ay.extract 1 (1+16)=(a.b.a.map bv).b:=by
 apply oQ;simp[fC.ay];exact aK (by simp)
theorem aeO:ah.k 27=some (.d (ah.fieldsOf 27)):=by
 simp only[jT,fB]
theorem XU(c:fC)(W:ak):(part 4 c.ay 0).I ah W = .Z (.e c.h) W:=
 pE (P:=ah) (e:=4) (by simp only[nJ]) (fC.qw c) W
theorem agP(c:fC)(W:ak):(part 22 c.ay 1).I ah W = .Z (.d (c.b.a.map bv).b) W:=by
 rw[DZ (P:=ah) (e:=22) (n:=16) (by simp only[qh]) (by kernel_rfl) c.ay 1 W,fC.aio]
theorem ak3:∃f1 f2:nS,(ah.fieldsOf 27).a=[f1,f2]/\f1.E ≠ "_" /\ f2.E ≠ "_" /\ f1.p=4/\f1.Y=0/\f2.p=22/\f2.Y=1:=by
 refine⟨_,_,by simp only[jT,fB];rfl,?_,?_,rfl,rfl,rfl,rfl⟩<;>decide
theorem ZO{P:eG}(d:Nat)(xs ys:Array aB)(f1 f2:nS)(h1:f1.E ≠ "_")(h2:f2.E ≠ "_")(W:ak)(a1 b1 a2 b2:aB)(r1 r2:Bool)
 (p1:(part f1.p xs f1.Y).I P W = .Z a1 W) (q1:(part f1.p ys f1.Y).I P W = .Z b1 W) (e1:(jf d f1.p a1 b1).I P W = .Z r1 W)
 (p2:(part f2.p xs f2.Y).I P W = .Z a2 W) (q2:(part f2.p ys f2.Y).I P W = .Z b2 W) (e2:(jf d f2.p a2 b2).I P W = .Z r2 W) :
 (vY d xs ys [f1,f2]).I P W = .Z (r1&&r2) W:=by
 simp only[vY,h1,h2,ne_eq,not_false_eq_true,if_true,jK,p1,q1,e1,gM];cases r1
 ·simp
 ·simp only[uG,Bool.false_eq_true,if_false,jK,p2,q2,e2,gM]
  cases r2<;>simp
theorem Fu(a b:fC)(d:Nat)(W:ak):(jf (d+3) 27 (.d a.ay) (.d b.ay)).I ah W = .Z (decide (a=b)) W:=by
 rw[zh W (d+2) _ _ _ aeO Tryz.stoodInHeld27];obtain⟨f1,f2,hl,n1,n2,t1,o1,t2,o2⟩:=ak3;rw[hl,ZO (d+2) a.ay b.ay f1 f2 n1 n2 W _ _ _ _ _ _ (by rw[t1,o1];exact XU a W) (by rw[t1,o1];exact XU b W) (by rw[t1];exact Zt _ _ _ W)
  (by rw[t2,o2];exact agP a W) (by rw[t2,o2];exact agP b W) (by rw[t2];exact ain _ _ d W)]
 obtain⟨s1,v1⟩:=a;obtain⟨s2,v2⟩:=b;congr 1;rw[bV];simp
@[go_sem ↓]theorem aB0(a b:fC)(W:ak):(jf 10000 27 (.d a.ay) (.d b.ay)).I ah W = .Z (decide (a=b)) W:=Fu a b 9997 W
theorem Bk.aoF(x:Bk):x.ay.extract 1 (1+17)=x.h.ay:=by
 apply dZ;intro j;have hs:=Bk.G x;have ha:=fC.G x.h;rw[dx];by_cases hj:j<17
 ·rw[if_pos (by rw[hs];omega),lM]
  exact Bk.Mf x j hj
 ·rw[if_neg (by rw[hs];omega),aU (by rw[ha];omega)]
theorem Bk.agQ(x:Bk):x.ay.extract 19 (19+6)=(x.AJ.a.map bv).b:=by
 apply dZ;intro j;have hs:=Bk.G x;have hm:x.AJ.a.a=6:=by simp
 rw[dx];by_cases hj:j<6
 ·rw[if_pos (by rw[hs];omega),lM,Bk.arh x j hj]
  simp[hj,dV]
 ·rw[if_neg (by rw[hs];omega),aU (by simp;omega)]
theorem ak4(a b:Nat)(d:Nat)(W:ak):(jf (d+1) 60 (fv a) (fv b)).I ah W = .Z (Op.floatEq .f64 a b) W:=by
 simp only[fv,jf,jK,dJ Tryz.underlying60,gM,if_true,oh]
theorem aip:ah.k 62=some (.d (ah.fieldsOf 62)):=by
 simp only[jT,nY]
theorem aoG:∃f1 f2 f3 f4 f5 f6:nS,(ah.fieldsOf 62).a=[f1,f2,f3,f4,f5,f6]/\(f1.E ≠ "_" /\ f2.E ≠ "_" /\ f3.E ≠ "_" /\ f4.E ≠ "_" /\ f5.E ≠ "_" /\ f6.E ≠ "_") /\
 (f1.p=9/\f1.Y=0)/\(f2.p=27/\f2.Y=1)/\(f3.p=3/\f3.Y=18)/\(f4.p=25/\f4.Y=19)/\(f5.p=60/\f5.Y=25)/\(f6.p=4/\f6.Y=26):=by
 refine⟨_,_,_,_,_,_,by simp only[jT,nY];rfl,⟨?_,?_,?_,?_,?_,?_⟩,⟨rfl,rfl⟩,⟨rfl,rfl⟩,⟨rfl,rfl⟩,⟨rfl,rfl⟩,⟨rfl,rfl⟩,⟨rfl,rfl⟩⟩<;>decide
def ak5(x y:Bk):Bool:=(x.E==y.E)&&(decide (x.h=y.h)&&((x.mR==y.mR)&&(decide (x.AJ=y.AJ)&&(Op.floatEq .f64 x.w y.w&&((x.drain==y.drain)&&true)))))
theorem aiq(x y:Bk)(d:Nat)(W:ak):(jf (d+4) 62 (.d x.ay) (.d y.ay)).I ah W = .Z (ak5 x y) W:=by
 rw[zh W (d+3) _ _ _ aip Tryz.stoodInHeld62];obtain⟨f1,f2,f3,f4,f5,f6,hl,⟨n1,n2,n3,n4,n5,n6⟩,⟨t1,o1⟩,⟨t2,o2⟩,⟨t3,o3⟩,⟨t4,o4⟩,⟨t5,o5⟩,⟨t6,o6⟩⟩:=aoG;rw[hl];have p1:∀z:Bk,(part f1.p z.ay f1.Y).I ah W = .Z (.g (bT z.E)) W:=fun z=>by
  rw[t1,o1];exact pE (by simp only[iO]) (Bk.qw z) W
 have p2:∀z:Bk,(part f2.p z.ay f2.Y).I ah W = .Z (.d z.h.ay) W:=fun z=>by
  rw[t2,o2,DZ (n:=17) (by simp only[fB]) (by kernel_rfl) z.ay 1 W,Bk.aoF]
 have p3:∀z:Bk,(part f3.p z.ay f3.Y).I ah W = .Z (.b .a z.mR) W:=fun z=>by
  rw[t3,o3];exact pE (by simp only[gQ]) (Bk.akK z) W
 have p4:∀z:Bk,(part f4.p z.ay f4.Y).I ah W = .Z (.d (z.AJ.a.map bv).b) W:=fun z=>by
  rw[t4,o4,DZ (n:=6) (by simp only[EH]) (by kernel_rfl) z.ay 19 W,Bk.agQ]
 have p5:∀z:Bk,(part f5.p z.ay f5.Y).I ah W = .Z (fv z.w) W:=fun z=>by
  rw[t5,o5];exact pE (by simp only[Tryz.underlying60]) (Bk.aeB z) W
 have p6:∀z:Bk,(part f6.p z.ay f6.Y).I ah W = .Z (.e z.drain) W:=fun z=>by
  rw[t6,o6];exact pE (by simp only[nJ]) (Bk.aeC z) W
 exact iR _ _ _ _ _ n1 W _ _ _ _ (p1 x) (p1 y) (by rw[t1];exact OJ _ _ _ W)
  (iR _ _ _ _ _ n2 W _ _ _ _ (p2 x) (p2 y) (by rw[t2];exact Fu _ _ d W)
  (iR _ _ _ _ _ n3 W _ _ _ _ (p3 x) (p3 y) (by rw[t3];exact Fe _ _ _ W)
  (iR _ _ _ _ _ n4 W _ _ _ _ (p4 x) (p4 y) (by rw[t4];exact Uw _ _ _ W)
  (iR _ _ _ _ _ n5 W _ _ _ _ (p5 x) (p5 y) (by rw[t5];exact ak4 _ _ _ W)
  (iR _ _ _ _ _ n6 W _ _ _ _ (p6 x) (p6 y) (by rw[t6];exact Zt _ _ _ W) (by simp[vY]))))))
@[go_sem ↓]theorem aFO(x y:Bk)(W:ak):(jf 10000 62 (.d x.ay) (.d y.ay)).I ah W = .Z (ak5 x y) W:=aiq x y 9996 W
def Xi(m:Vector UInt8 6):Array aB:=(m.a.map bv).b
theorem XV(m:Vector UInt8 6):(Xi m).j=6:=by simp[Xi]
def Ak(v:aB):wX aB:=bZ 25 v
@[go_sem ↓]theorem asV(v:aB):bZ 25 v=Ak v:=rfl
@[go_sem]theorem aw9(W:ak)(b o:Nat)(h:vw W b o 6):(Ak (.c (some ⟨b,o,none⟩))).I ah W = .Z (.d (dM W b o 6)) W:=
 jV W b o 6 _ _ EH rfl (by kernel_rfl) h
theorem Bk.acj(x:Bk)(j:Nat)(hj:j<6):x.ay[19+j]? = (Xi x.AJ)[j]?:=by
 rw[lM,Bk.arh x j hj];simp[Xi,hj,dV]
@[go_sem]theorem aeP(w:ak)(x:Bk)(t:bF):vw (w.alloc (.D x.ay t)) w.a.j 19 6=True:=by
 simp only[eq_iff_iff,iff_true];exact(Ig w x.ay t 19 6 (Xi x.AJ) (XV _) (fun j hj=>Bk.acj x j hj)).1
@[go_sem]theorem Ux(w:ak)(x:Bk)(t:bF):dM (w.alloc (.D x.ay t)) w.a.j 19 6=Xi x.AJ:=
 (Ig w x.ay t 19 6 (Xi x.AJ) (XV _) (fun j hj=>Bk.acj x j hj)).2
@[go_sem ↓]theorem aB1(a b:Vector UInt8 6)(W:ak):(jf 10000 25 (.d (Xi a)) (.d (Xi b))).I ah W = .Z (decide (a=b)) W:=Uw a b 9998 W
@[go_sem]theorem aAm(w:ak)(ob:Obj)(x:Bk)(t:bF):vw ((w.alloc ob).alloc (.D x.ay t)) (w.a.j+1) 0 27=True:=by
 have:=Uk (w.alloc ob) x t
 rwa [show(w.alloc ob).a.j=w.a.j+1 by simp]at this
@[go_sem]theorem arn(w:ak)(ob:Obj)(x:Bk)(t:bF):dM ((w.alloc ob).alloc (.D x.ay t)) (w.a.j+1) 0 27=x.ay:=by
 have:=Ih (w.alloc ob) x t
 rwa [show(w.alloc ob).a.j=w.a.j+1 by simp]at this
@[go_sem]theorem avR(w:ak)(ob:Obj)(x:Bk)(t:bF):vw ((w.alloc ob).alloc (.D x.ay t)) (w.a.j+1) 1 17=True:=by
 have:=abW (w.alloc ob) x t
 rwa [show(w.alloc ob).a.j=w.a.j+1 by simp]at this
@[go_sem]theorem aoe(w:ak)(ob:Obj)(x:Bk)(t:bF):dM ((w.alloc ob).alloc (.D x.ay t)) (w.a.j+1) 1 17=x.h.ay:=by
 have:=Rw (w.alloc ob) x t
 rwa [show(w.alloc ob).a.j=w.a.j+1 by simp]at this
@[go_sem]theorem aw'(w:ak)(ob:Obj)(x:Bk)(t:bF):vw ((w.alloc ob).alloc (.D x.ay t)) (w.a.j+1) 19 6=True:=by
 have:=aeP (w.alloc ob) x t
 rwa [show(w.alloc ob).a.j=w.a.j+1 by simp]at this
@[go_sem]theorem aoH(w:ak)(ob:Obj)(x:Bk)(t:bF):dM ((w.alloc ob).alloc (.D x.ay t)) (w.a.j+1) 19 6=Xi x.AJ:=by
 have:=Ux (w.alloc ob) x t
 rwa [show(w.alloc ob).a.j=w.a.j+1 by simp]at this
def Al(x y:Bk):Bool:=(x.E==y.E)&&decide (x.h=y.h)&&(x.mR==y.mR)&&decide (x.AJ=y.AJ)&&(x.drain==y.drain)&&decide (KZ x.w=KZ y.w)
theorem acn(x y:Bk)(hx:x.w<18446744073709551616)(hy:y.w<18446744073709551616)(w:ak):
 aP ah 125 #[.d x.ay,.d y.ay] w (gD w (.e (Al x y))):=by
 have hb0:∀ob sK,aL w.a.j w ((w.alloc ob).alloc sK):=fun ob sK=>((aG _ _).alloc (av _) _).alloc (by simp) _
 have HB0:=ab hb0;clear hb0;have hs:Al x y=((x.E==y.E)&&decide (x.h=y.h)&&(x.mR==y.mR)&&decide (x.AJ=y.AJ)&&(x.drain==y.drain)&&decide (KZ x.w=KZ y.w)):=rfl;have HS:=ab hs;clear hs;cases k1:x.E==y.E
 ·go_enter Ca,zY
  go_wp2;go_ret;exact⟨by rw[HS.i,k1];rfl,HB0.i _ _⟩
 cases k2:decide (x.h=y.h)
 ·go_enter Ca,zY
  go_wp2;go_ret;exact⟨by rw[HS.i,k1,k2];rfl,HB0.i _ _⟩
 cases k3:x.mR==y.mR
 ·go_enter Ca,zY
  go_wp2;go_ret;exact⟨by rw[HS.i,k1,k2,k3];rfl,HB0.i _ _⟩
 cases k4:decide (x.AJ=y.AJ)
 ·go_enter Ca,zY
  go_wp2;go_ret;exact⟨by rw[HS.i,k1,k2,k3,k4];rfl,HB0.i _ _⟩
 cases k5:x.drain==y.drain
 ·go_enter Ca,zY
  go_wp2;go_ret;exact⟨by rw[HS.i,k1,k2,k3,k4,k5];rfl,HB0.i _ _⟩
 go_enter Ca,zY;go_wp2_with (go_at_call 199;refine(ace _ _ hx hy _).g ?_;rintro e w' ⟨rfl,hb1⟩;have HB1:=ab hb1;clear hb1);go_ret;exact⟨by rw[HS.i,k1,k2,k3,k4,k5];rfl,(HB0.i _ _).trans (HB1.i.g (by simp;omega))⟩
def Bk.Ol(x:Bk)(v:Nat):Bk:={x with w:=v}
def Bk.toD(x:Bk)(d:Bool):Bk:={x with drain:=d}
@[go_sem]theorem Bk.axa(x:Bk)(v:Nat):x.ay.b 25 (.float .f64 v)=(x.Ol v).ay:=by
 apply oQ;simp[Bk.ay,Bk.Ol,List.set_append,fv]
@[go_sem]theorem Bk.aro(x:Bk)(d:Bool):x.ay.b 26 (.e d)=(x.toD d).ay:=by
 apply oQ;simp[Bk.ay,Bk.toD,List.set_append]
@[go_sem]theorem arp{P:eG}{w:ak}{a:aT}{m:Mode}(k:FloatKind)(n:Nat):(store a (.float k n) m).I P w=stored P w a (.float k n) m:=run_store P w a _ m rfl
def QM(x y:Bk):Bool:=D8 x.w y.w&&ak5 (x.Ol 0) (y.Ol 0)
theorem air(x y:Bk)(w:ak):
 aP ah 124 #[.d x.ay,.d y.ay] w (gD w (.e (QM x y))):=by
 have hb0:∀ob sK,aL w.a.j w ((w.alloc ob).alloc sK):=fun ob sK=>((aG _ _).alloc (av _) _).alloc (by simp) _
 have HB0:=ab hb0;clear hb0;have hs:QM x y=(D8 x.w y.w&&ak5 (x.Ol 0) (y.Ol 0)):=rfl;have HS:=ab hs;clear hs;have pR:∀K,D8 x.w y.w=K->∀W,aP ah 112 #[.float .f64 x.w,.float .f64 y.w] W fun e w'=>e=.a (.e K)/\W=w':=fun K h W=>by
  have:=ab6 x.w y.w W;rw[h]at this;exact this
 cases k:D8 x.w y.w
 ·have HK:=ab k
  have SH:=ab (pR _ k);clear k pR;go_enter Tryz.func124,Tryz.ntmps124;go_wp2_with (go_at_call 112;refine(SH.i _).g ?_;rintro e w' ⟨rfl,rfl⟩);go_ret;exact⟨by rw[HS.i,HK.i];rfl,HB0.i _ _⟩
 ·have HK:=ab k
  have SH:=ab (pR _ k);clear k pR;go_enter Tryz.func124,Tryz.ntmps124;go_wp2_with (go_at_call 112;refine(SH.i _).g ?_;rintro e w' ⟨rfl,rfl⟩);go_ret;exact⟨by rw[HS.i,HK.i];rfl,HB0.i _ _⟩
theorem Cy(l:List Bk):∀u∈dH l,u.h=true:=by
 intro u hu;obtain⟨x,_,hx⟩:=List.mem_flatMap.1 hu;exact gu.1 (Bk.cO x) u (by simpa using hx)
theorem OU:∃i:nI,ah.l 62=some i/\i.zero=some (.d jg.ay)/\i.j=27/\i.bytes<=200:=by
 cases h:ah.l 62 with
 | none=>exact absurd h (by have:(ah.l 62).isSome=true:=by kernel_rfl
                            intro e;rw[e]at this;cases this)
 | some i=>
   have h1:(ah.l 62).map (·.j)=some 27:=by kernel_rfl
   have h2:(ah.l 62).map (fun i=>decide (i.bytes<=200))=some true:=by kernel_rfl
   have h3:(ah.l 62).map (·.zero)=some (some (.d jg.ay)):=by kernel_rfl
   rw[h]at h1 h2 h3;simp at h1 h2 h3;exact⟨i,rfl,h3,h1,h2⟩
def uM(n:Int):Int:=if n<1 then 1 else if 100<n then 100 else n
theorem XW(n:Int):1<=uM n/\uM n<=100:=by unfold uM;split<;>(try split)<;>omega
theorem XZ(n:Int)(w:ak):aP ah 216 #[.b .a n] w fun e w'=>e=.a (.b .a (uM n))/\w=w':=by
 rcases(show n<1\/(1<=n/\n<=100)\/100<n by omega)with h|⟨h1,h2⟩|h
 ·have hb:=ab (show uM n=1 by simp[uM,h])
  go_enter Tryz.func216,Tryz.ntmps216;go_wp2;go_ret;exact⟨by rw[hb.i];rfl,rfl⟩
 ·have hb:=ab (show uM n=n by unfold uM;rw[if_neg (by omega),if_neg (by omega)])
  go_enter Tryz.func216,Tryz.ntmps216;go_wp2;go_ret;exact⟨by rw[hb.i];rfl,rfl⟩
 ·have hb:=ab (show uM n=100 by unfold uM;rw[if_neg (by omega),if_pos h])
  go_enter Tryz.func216,Tryz.ntmps216;go_wp2;go_ret;exact⟨by rw[hb.i];rfl,rfl⟩
def uN(h:Hl)(well:Bool)(kC fall:Int):Hl×Bool:=
 if well != h.down then({h with I:=0},false)
 else if uM (if h.down then kC else fall)-1<=max h.I 0 then(⟨h.E,!h.down,0⟩,true)
 else({h with I:=max h.I 0+1},false)
def arq(w:ak)(r:Hl×Bool)(e:lq)(w':ak):Prop:=e=.a (.J #[.d r.1.ay,.e r.2])/\aL w.a.j w w'
theorem vZ{w W:ak}{x:Hl}{r:Bool}{h:Hl}{well:Bool}{kC fall:Int}(hs:uN h well kC fall=(x,r))(hb:aL w.a.j w W):
 arq w (uN h well kC fall) (.a (.J #[.d x.ay,.e r])) W:=by rw[hs];exact⟨rfl,hb⟩
theorem SI{h:Hl}{well:Bool}{kC fall k m:Int}(hw:well=h.down)(hk:uM (if h.down then kC else fall)=k)(hm:max h.I 0=m)(hle:k-1<=m):uN h well kC fall=(⟨h.E,!h.down,0⟩,true):=by
 unfold uN;rw[if_neg (by simp[hw]),hk,hm,if_pos hle]
theorem SK{h:Hl}{well:Bool}{kC fall k m:Int}(hw:well=h.down)(hk:uM (if h.down then kC else fall)=k)(hm:max h.I 0=m)(hlt:m<k-1):uN h well kC fall=(⟨h.E,h.down,m+1⟩,false):=by
 unfold uN;rw[if_neg (by simp[hw]),hk,hm,if_neg (by omega)]
theorem K7{w W1:ak}{nm:List UInt8}{dn:Bool}{rn:Int}(b1:dK W1 w.a.j (Hl.mk nm dn rn).ay)(b2:dK W1 (w.a.j+1) kS.ay)(hb:aL w.a.j w W1)(v:Int):
 dK (W1.F ⟨w.a.j,2,none⟩ (.b .a v)) w.a.j (Hl.mk nm dn v).ay/\dK (W1.F ⟨w.a.j,2,none⟩ (.b .a v)) (w.a.j+1) kS.ay/\Hid (aL w.a.j w (Ui (W1.F ⟨w.a.j,2,none⟩ (.b .a v)) (w.a.j+1) 0 (Hl.mk nm dn v)))/\Hid (dK (Ui (W1.F ⟨w.a.j,2,none⟩ (.b .a v)) (w.a.j+1) 0 (Hl.mk nm dn v)) (w.a.j+1) (Hl.mk nm dn v).ay):=by
 have c2:dK (W1.F ⟨w.a.j,2,none⟩ (.b .a v)) (w.a.j+1) kS.ay:=b2.dN ⟨w.a.j,2,none⟩ (.b .a v) (by simp);exact⟨b1.eF 2 (.b .a v),c2,QH (hb.F (p:=⟨w.a.j,2,none⟩) (av _) (.b .a v)) (w.a.j+1) 0 (Hl.mk nm dn v) (by omega),c2.awR (Hl.G _) (Hl.mk nm dn v)⟩
theorem SX{w W1:ak}{nm:List UInt8}{dn:Bool}{rn:Int}(b1:dK W1 w.a.j (Hl.mk nm dn rn).ay)(b2:dK W1 (w.a.j+1) kS.ay)(hb:aL w.a.j w W1)(d:Bool):
 dK ((W1.F ⟨w.a.j,1,none⟩ (.e d)).F ⟨w.a.j,2,none⟩ (.b .a 0)) w.a.j (Hl.mk nm d 0).ay/\dK ((W1.F ⟨w.a.j,1,none⟩ (.e d)).F ⟨w.a.j,2,none⟩ (.b .a 0)) (w.a.j+1) kS.ay/\Hid (aL w.a.j w (Ui ((W1.F ⟨w.a.j,1,none⟩ (.e d)).F ⟨w.a.j,2,none⟩ (.b .a 0)) (w.a.j+1) 0 (Hl.mk nm d 0)))/\Hid (dK (Ui ((W1.F ⟨w.a.j,1,none⟩ (.e d)).F ⟨w.a.j,2,none⟩ (.b .a 0)) (w.a.j+1) 0 (Hl.mk nm d 0)) (w.a.j+1) (Hl.mk nm d 0).ay):=
 K7 (b1.eF 1 (.e d)) (b2.dN ⟨w.a.j,1,none⟩ (.e d) (by simp)) (hb.F (p:=⟨w.a.j,1,none⟩) (av _) (.e d)) 0
theorem ak6(h:Hl)(well:Bool)(kC fall:Int)(w:ak)(hh : -9223372036854775808<=h.I/\h.I<=9223372036854775807):
 aP ah 149 #[.d h.ay,.e well,.b .a kC,.b .a fall] w (arq w (uN h well kC fall)):=by
 obtain⟨nm,dn,rn⟩:=h;obtain⟨hh1,hh2⟩:=hh;have B1:=ab (fun(ob:Obj)=>(dK.new w (Hl.mk nm dn rn).ay 100).alloc ob);have B2:=ab (fun(ob:Obj)=>dK.Rv w ob kS.ay 100);have HB:=ab (fun(ob sK:Obj)=>((aG w.a.j w).alloc (av _) ob).alloc (by simp) sK);go_enter Tryz.func149,Tryz.ntmps149;go_wp2_with fail;refine(XZ _ _).g ?_;rintro e wz ⟨rfl,rfl⟩;have B1:=ab (B1.i (.D kS.ay 100));have B2:=ab (B2.i (.D (Hl.mk nm dn rn).ay 100));have HB:=ab (HB.i (.D (Hl.mk nm dn rn).ay 100) (.D kS.ay 100));obtain⟨W1,hW1⟩:=cB ((w.alloc (.D (Hl.mk nm dn rn).ay 100)).alloc (.D kS.ay 100));rw[<-hW1]at B1 B2 HB ⊢;clear hW1;obtain⟨x1,x2,x3,x4⟩:=B1.i.K;have l1:=B1.i.lt;have l2:=B2.i.lt;cases dn
 ·have kb:=XW fall
  obtain⟨k,hk⟩:=tN (uM fall);rw[hk]at kb ⊢;have HK:=ab hk;clear hk;obtain⟨kb1,kb2⟩:=kb;cases well
  ·rcases wu rn 0 with hrn|hrn
   ·have HM:=ab (show max rn 0=0 by omega)
    rcases wu (0:Int) (k-1)with hlt|hle
    ·have hne:decide (k-1<=0)=false:=by simp;omega
     obtain⟨c1,c2,QN,CF⟩:=K7 B1.i B2.i HB.i (1);obtain⟨y1,y2,y3,y4⟩:=c1.K;have th:=c2.M 0 3 (by rw[Hl.G];omega);clear c1 c2;have hs:=ab (SK (h:=⟨nm,false,rn⟩) (well:=false) (kC:=kC) (fall:=fall) rfl HK.i HM.i hlt);go_wp2_with fail;refine aN (Dy rfl _ _ _ _ rfl (by rw[CF.i.K.2.2.1 0 3 (av _)];trivial)) rfl ?_;rw[CF.i.K.2.2.2 0 3 (av _),Hl.kr];exact vZ hs.i QN.i
    ·have hye:decide (k-1<=0)=true:=by simp;omega
     obtain⟨c1,c2,QN,CF⟩:=SX B1.i B2.i HB.i true;obtain⟨y1,y2,y3,y4⟩:=c1.K;have th:=c2.M 0 3 (by rw[Hl.G];omega);obtain⟨z1,z2,z3,z4⟩:=(B1.i.eF 1 (.e true)).K;clear c1 c2;have hs:=ab (SI (h:=⟨nm,false,rn⟩) (well:=false) (kC:=kC) (fall:=fall) rfl HK.i HM.i hle);go_wp2_with fail;refine aN (Dy rfl _ _ _ _ rfl (by rw[CF.i.K.2.2.1 0 3 (av _)];trivial)) rfl ?_;rw[CF.i.K.2.2.2 0 3 (av _),Hl.kr];exact vZ hs.i QN.i
   ·have HM:=ab (show max rn 0=rn by omega)
    rcases wu rn (k-1)with hlt|hle
    ·have hne:decide (k-1<=rn)=false:=by simp;omega
     obtain⟨c1,c2,QN,CF⟩:=K7 B1.i B2.i HB.i (rn+1);obtain⟨y1,y2,y3,y4⟩:=c1.K;have th:=c2.M 0 3 (by rw[Hl.G];omega);clear c1 c2;have hs:=ab (SK (h:=⟨nm,false,rn⟩) (well:=false) (kC:=kC) (fall:=fall) rfl HK.i HM.i hlt);go_wp2_with fail;refine aN (Dy rfl _ _ _ _ rfl (by rw[CF.i.K.2.2.1 0 3 (av _)];trivial)) rfl ?_;rw[CF.i.K.2.2.2 0 3 (av _),Hl.kr];exact vZ hs.i QN.i
    ·have hye:decide (k-1<=rn)=true:=by simp;omega
     obtain⟨c1,c2,QN,CF⟩:=SX B1.i B2.i HB.i true;obtain⟨y1,y2,y3,y4⟩:=c1.K;have th:=c2.M 0 3 (by rw[Hl.G];omega);obtain⟨z1,z2,z3,z4⟩:=(B1.i.eF 1 (.e true)).K;clear c1 c2;have hs:=ab (SI (h:=⟨nm,false,rn⟩) (well:=false) (kC:=kC) (fall:=fall) rfl HK.i HM.i hle);go_wp2_with fail;refine aN (Dy rfl _ _ _ _ rfl (by rw[CF.i.K.2.2.1 0 3 (av _)];trivial)) rfl ?_;rw[CF.i.K.2.2.2 0 3 (av _),Hl.kr];exact vZ hs.i QN.i
  ·have hbn:((true:Bool) != false)=true:=rfl
   rcases wu rn 0 with hrn|hrn
   all_goals
    skip;obtain⟨c1,c2,QN,CF⟩:=K7 B1.i B2.i HB.i 0;obtain⟨y1,y2,y3,y4⟩:=c1.K;have th:=c2.M 0 3 (by rw[Hl.G];omega);clear c1 c2;have hs:=ab (show uN ⟨nm,false,rn⟩ true kC fall=(⟨nm,false,0⟩,false)from rfl);go_wp2_with fail;refine aN (Dy rfl _ _ _ _ rfl (by rw[CF.i.K.2.2.1 0 3 (av _)];trivial)) rfl ?_;rw[CF.i.K.2.2.2 0 3 (av _),Hl.kr];exact vZ hs.i QN.i
 ·have kb:=XW kC
  obtain⟨k,hk⟩:=tN (uM kC);go_wp2_with fail;refine(XZ _ _).g ?_;rintro e wz ⟨rfl,rfl⟩;rw[hk]at kb ⊢;have HK:=ab hk;clear hk;obtain⟨kb1,kb2⟩:=kb;cases well
  ·have hbn:((false:Bool) != true)=true:=rfl
   rcases wu rn 0 with hrn|hrn
   all_goals
    skip;obtain⟨c1,c2,QN,CF⟩:=K7 B1.i B2.i HB.i 0;obtain⟨y1,y2,y3,y4⟩:=c1.K;have th:=c2.M 0 3 (by rw[Hl.G];omega);clear c1 c2;have hs:=ab (show uN ⟨nm,true,rn⟩ false kC fall=(⟨nm,true,0⟩,false)from rfl);go_wp2_with fail;refine aN (Dy rfl _ _ _ _ rfl (by rw[CF.i.K.2.2.1 0 3 (av _)];trivial)) rfl ?_;rw[CF.i.K.2.2.2 0 3 (av _),Hl.kr];exact vZ hs.i QN.i
  ·rcases wu rn 0 with hrn|hrn
   ·have HM:=ab (show max rn 0=0 by omega)
    rcases wu (0:Int) (k-1)with hlt|hle
    ·have hne:decide (k-1<=0)=false:=by simp;omega
     obtain⟨c1,c2,QN,CF⟩:=K7 B1.i B2.i HB.i (1);obtain⟨y1,y2,y3,y4⟩:=c1.K;have th:=c2.M 0 3 (by rw[Hl.G];omega);clear c1 c2;have hs:=ab (SK (h:=⟨nm,true,rn⟩) (well:=true) (kC:=kC) (fall:=fall) rfl HK.i HM.i hlt);go_wp2_with fail;refine aN (Dy rfl _ _ _ _ rfl (by rw[CF.i.K.2.2.1 0 3 (av _)];trivial)) rfl ?_;rw[CF.i.K.2.2.2 0 3 (av _),Hl.kr];exact vZ hs.i QN.i
    ·have hye:decide (k-1<=0)=true:=by simp;omega
     obtain⟨c1,c2,QN,CF⟩:=SX B1.i B2.i HB.i false;obtain⟨y1,y2,y3,y4⟩:=c1.K;have th:=c2.M 0 3 (by rw[Hl.G];omega);obtain⟨z1,z2,z3,z4⟩:=(B1.i.eF 1 (.e false)).K;clear c1 c2;have hs:=ab (SI (h:=⟨nm,true,rn⟩) (well:=true) (kC:=kC) (fall:=fall) rfl HK.i HM.i hle);go_wp2_with fail;refine aN (Dy rfl _ _ _ _ rfl (by rw[CF.i.K.2.2.1 0 3 (av _)];trivial)) rfl ?_;rw[CF.i.K.2.2.2 0 3 (av _),Hl.kr];exact vZ hs.i QN.i
   ·have HM:=ab (show max rn 0=rn by omega)
    rcases wu rn (k-1)with hlt|hle
    ·have hne:decide (k-1<=rn)=false:=by simp;omega
     obtain⟨c1,c2,QN,CF⟩:=K7 B1.i B2.i HB.i (rn+1);obtain⟨y1,y2,y3,y4⟩:=c1.K;have th:=c2.M 0 3 (by rw[Hl.G];omega);clear c1 c2;have hs:=ab (SK (h:=⟨nm,true,rn⟩) (well:=true) (kC:=kC) (fall:=fall) rfl HK.i HM.i hlt);go_wp2_with fail;refine aN (Dy rfl _ _ _ _ rfl (by rw[CF.i.K.2.2.1 0 3 (av _)];trivial)) rfl ?_;rw[CF.i.K.2.2.2 0 3 (av _),Hl.kr];exact vZ hs.i QN.i
    ·have hye:decide (k-1<=rn)=true:=by simp;omega
     obtain⟨c1,c2,QN,CF⟩:=SX B1.i B2.i HB.i false;obtain⟨y1,y2,y3,y4⟩:=c1.K;have th:=c2.M 0 3 (by rw[Hl.G];omega);obtain⟨z1,z2,z3,z4⟩:=(B1.i.eF 1 (.e false)).K;clear c1 c2;have hs:=ab (SI (h:=⟨nm,true,rn⟩) (well:=true) (kC:=kC) (fall:=fall) rfl HK.i HM.i hle);go_wp2_with fail;refine aN (Dy rfl _ _ _ _ rfl (by rw[CF.i.K.2.2.1 0 3 (av _)];trivial)) rfl ?_;rw[CF.i.K.2.2.2 0 3 (av _),Hl.kr];exact vZ hs.i QN.i
abbrev RdH:=iJ Hl.ay 3
theorem iJ.hl{W:ak}{B n:Nat}{A:Option aT}{l:List Hl}{k:Nat}(h:RdH W B A n l)(hk:k<n):∃b o,A=some ⟨b,o,none⟩/\b<B/\vw W b (o+k*3) 3/\dM W b (o+k*3) 3=(l.c k kS).ay /\
 W.b ⟨b,o+k*3,none⟩=some (.g (bT (l.c k kS).E))/\W.b ⟨b,o+k*3+1,none⟩=some (.e (l.c k kS).down):=by
 obtain⟨b,o,hA,hb,hc⟩:=iJ.cell Hl.G kS h hk;obtain⟨h1,h2⟩:=wL (Hl.G _) hc;exact⟨b,o,hA,hb,h1,h2,by have:=hc 0 (by omega);rw[nD]at this;exact this,hc 1 (by omega)⟩
theorem vw.O{w W:ak}{b o k B:Nat}(h:vw w b o k)(hb:aL B w W)(hlt:b<B):vw W b o k:=fun j hj=>by
 obtain⟨u,hu⟩:=h j hj;exact⟨u,by rw[hb.cell hlt];exact hu⟩
theorem Kv{w W:ak}{b o k B:Nat}(hb:aL B w W)(hlt:b<B):dM W b o k=dM w b o k:=AX fun j _=>hb.cell hlt
def zB(l:List Hl)(s:List UInt8):Int:=match l.findIdx? (fun x=>x.E==s)with|some i=>(i:Nat)|none=>-1
theorem aoI{l:List Hl}{s:List UInt8}{i:Nat}(hi:i<l.a)(h:(l.c i kS).E=s)(hno:∀k,k<i->(l.c k kS).E≠s):zB l s=i:=by
 have:l.findIdx? (fun x=>x.E==s)=some i:=by
  rw[gV];refine⟨hi,?_,fun j hj=>?_⟩
  ·rw[au,aC hi]at h
   simpa using h
  ·have:=hno j hj
   rw[au,aC (by omega)]at this;simpa using this
 unfold zB;rw[this]
theorem aoJ{l:List Hl}{s:List UInt8}(hno:∀k,k<l.a->(l.c k kS).E≠s):zB l s = -1:=by
 have:l.findIdx? (fun x=>x.E==s)=none:=by
  rw[List.findIdx?_eq_none_iff];intro x hx;obtain⟨k,hk,rfl⟩:=List.getElem_of_mem hx;have:=hno k hk;rw[au,aC hk]at this;simpa using this
 unfold zB;rw[this]
theorem aoK(l:List Hl)(s:List UInt8):zB l s<l.a:=by
 unfold zB;split
 ·rename_i i h
  have:=(gV.1 h).1;omega
 ·omega
theorem aeQ(l:List Hl)(s:List UInt8):zB l s = -1\/∃i:Nat,zB l s=i/\i<l.a:=by
 have:=aoK l s;unfold zB at this ⊢;split
 ·rename_i i h;rw[h]at this;exact .b ⟨i,rfl,by simpa using this⟩
 ·exact .a rfl
theorem ait(l m:List Hl)(A B:Option aT)(n k c d:Nat)(w:ak)(hR:RdH w w.a.j A n l)(hT:RdH w w.a.j B k m)(hn:n<=4611686018427387904)(hk:k<=4611686018427387904):
 aP ah 57 #[.a A n c,.a B k d] w (gD w (.e (decide (l=m)))):=by
 have HR:=ab hR;have HT:=ab hT;have HN:=ab hR.1;have HK:=ab hT.1;clear hR hT;by_cases hlm:n=k;rotate_left
 ·have hne:((n:Int) != (k:Int))=true:=by rw[bne_iff_ne];omega
  have HF:=ab (show decide (l=m)=false from decide_eq_false (fun e=>hlm (by rw[<-HN.i,<-HK.i,e])));clear hlm;go_enter Tryz.func57,Tryz.ntmps57;go_wp2;go_ret;exact⟨by rw[HF.i];rfl,aG _ _⟩
 subst hlm;have hbn:((n:Int) != (n:Int))=false:=by simp
 go_enter Tryz.func57,Tryz.ntmps57;go_wp2;go_loopw [5] (fun s5 wr=>∃i:Nat,i<=n/\s5=.b .a i/\l.d i=m.d i/\aL w.a.j w wr) (fun s5 _=>n-(intOf s5).e)
 case atStart=>exact⟨0,by omega,rfl,rfl,aG _ _⟩
 case round=>
  obtain⟨i,hin,rfl,hall,hb⟩:=hrel;have HA:=ab hall;have HB:=ab hb;clear hall hb;by_cases hlt:i<n
  ·have hi:(i:Int)<n:=by omega
   obtain⟨b,o,rfl,hbb,hh,hc,_,_⟩:=(HR.i.O HB.i).hl hlt;obtain⟨b2,o2,rfl,Ms,hh2,hc2,_,_⟩:=(HT.i.O HB.i).hl hlt;obtain⟨x,hx⟩:=cB (l.c i kS);obtain⟨y,hy⟩:=cB (m.c i kS);rw[<-hx]at hc;rw[<-hy]at hc2;have HX:=ab hx;have HY:=ab hy;clear hx hy hbb Ms;by_cases hq:x=y
   ·have he:abV x y=true:=by rw[SC];simpa using hq
    have HS:=ab (show l.d (i+1)=m.d (i+1)by
     rw[<-lN kS l i (by rw[HN.i];exact hlt),<-lN kS m i (by rw[HK.i];exact hlt),HA.i,<-HX.i,<-HY.i,hq])
    clear hq;go_wp2;go_quiet (fail);go_wp2;go_roundw
    case rel=>exact⟨i+1,by omega,by go_num,HS.i,eH HB.i _⟩
    case measure=>simp[intOf]<;>omega
   ·have he:abV x y=false:=by rw[SC];simpa using hq
    have HF:=ab (show decide (l=m)=false from decide_eq_false (fun e=>hq (by rw[HX.i,HY.i,e])));clear hq;go_wp2;go_quiet (fail);go_wp2;go_ret;exact⟨by rw[HF.i];rfl,eH HB.i _⟩
  ·obtain rfl:i=n:=by omega
   have hd:decide ((i:Int)<i)=false:=by simp
   have HT2:=ab (show decide (l=m)=true from decide_eq_true (by
    have:=HA.i
    rwa [aK (by rw[HN.i];omega),aK (by rw[HK.i];omega)]at this))
   go_wp2;go_ret;exact⟨by rw[HT2.i];rfl,HB.i⟩
section
variable {P:eG}
theorem Kw(w:ak)(dT sT ty elem:bF)(size g o dLen dCap:Nat)(a:aT)(sLen sCap:Nat)(cur:Array aB)(t:bF)(cs:List aB)(m:Nat)
 (hu:P.k dT=some (.a elem)) (hs:(P.l elem).map (·.j)=some size)
 (hg:w.a[g]? = some (.D cur t (0,0))) (hm:m=ql sLen dLen) (hn:cs.a=m*size)
 (hsrc:∀j v,cs[j]? = some v->w.b (a.add j)=some v) (hfit:o+cs.a<=cur.j) (h1:∀v∈cs,v.h=true) :
 (qA #[dT,sT] ty #[.a (some ⟨g,o,none⟩) dLen dCap,.a (some a) sLen sCap]).I P w =
  .Z (goInt m) (w.setRow g (splice cur.a o cs).b):=by
 have hl:=run_loadCells_list (P:=P) w a cs hsrc;have hst:=run_storeCells_at P g o t cs 0 cur w hg (by simpa using hfit) h1;cases hq:P.l elem with
 | none=>simp[hq]at hs
 | some i=>
   have hi:i.j=size:=by simpa[hq]using hs
   subst hm;simp[qA,dJ hu,Builtin.lenOf,tL,sizeOf,typeInfo,hq,hi,<-hn,hl,hst,splice]
theorem Ed{w:ak}{ops:Array iZ}{rest:List iZ}{o:iZ}{a:qR}{Q:zO->qR->ak->Prop}(hgd:o.guard=none)(d s:pG)(dT sT:bF)
 (ho:o.op=.call {callee:=.builtin .copy,args:=#[d,s],argTypes:=#[dT,sT]}) (elem:bF) (size:Nat) (hu:P.k dT=some (.a elem)) (hsz:(P.l elem).map (·.j)=some size)
 (g off dLen dCap:Nat) (ad:aT) (sLen sCap:Nat) (hd:a.eval d=.a (some ⟨g,off,none⟩) dLen dCap) (hs:a.eval s=.a (some ad) sLen sCap)
 (cur:Array aB) (t:bF) (hg:w.a[g]? = some (.D cur t (0,0))) (cs:List aB) (m:Nat) (hm:m=ql sLen dLen) (hn:cs.a=m*size)
 (hsrc:∀j v,cs[j]? = some v->w.b (ad.add j)=some v) (hfit:off+cs.a<=cur.j) (h1:∀v∈cs,v.h=true)
 (h:∀w',w'=w.setRow g (splice cur.a off cs).b->wpList P ops Q rest (a.put o.X (goInt m)) w'):wpList P ops Q (o::rest) a w:=by
 refine sO hgd fun K hK=>?_
 have hrun:=Kw (P:=P) w dT sT o.p elem size g off dLen dCap ad sLen sCap cur t cs m hu hsz hg hm hn hsrc hfit h1;unfold ni;simp[execOp,ho,resolve,invoke,builtin,hd,hs,hrun,iD];exact hK _ _ (h _ rfl)
theorem Im{ops:Array iZ}{o:iZ}{a:qR}{w:ak}{K:qR->ak->Prop}{Q:zO->qR->ak->Prop}{E:Prop}(hgd:o.guard=none)(d s:pG)(dT sT:bF)
 (ho:o.op=.call {callee:=.builtin .copy,args:=#[d,s],argTypes:=#[dT,sT]}) (elem:bF) (size:Nat) (hu:P.k dT=some (.a elem)) (hsz:(P.l elem).map (·.j)=some size)
 (g off dLen dCap:Nat) (ad:aT) (sLen sCap:Nat) (hd:a.eval d=.a (some ⟨g,off,none⟩) dLen dCap) (hs:a.eval s=.a (some ad) sLen sCap)
 (cur:Array aB) (t:bF) (hg:w.a[g]? = some (.D cur t (0,0))) (cs:List aB) (m:Nat) (hm:m=ql sLen dLen) (hn:cs.a=m*size)
 (hsrc:∀j v,cs[j]? = some v->w.b (ad.add j)=some v) (hfit:off+cs.a<=cur.j) (h1:∀v∈cs,v.h=true)
 (h:∀w',w'=w.setRow g (splice cur.a off cs).b->K (a.put o.X (goInt m)) w') :
 if fF o (yielded ops a.tmps)=true then ni P o a w K Q else E:=by
 have hw:fF o (yielded ops a.tmps)=true:=by simp[fF,hgd]
 rw[if_pos hw];have hrun:=Kw (P:=P) w dT sT o.p elem size g off dLen dCap ad sLen sCap cur t cs m hu hsz hg hm hn hsrc hfit h1;unfold ni;simp[execOp,ho,resolve,invoke,builtin,hd,hs,hrun,iD];exact h _ rfl
theorem OV{w:ak}{ops:Array iZ}{rest:List iZ}{o:iZ}{a:qR}{Q:zO->qR->ak->Prop}(hgd:o.guard=none)(s x:pG)(t tn:bF)
 (ho:o.op=.call {callee:=.builtin .append,args:=#[s,x],argTypes:=#[t,tn]}) (e:bF) (i:nI) (z:aB) (size:Nat) (kq kn:IntKind) (ht:P.k t=some (.a e)) (htn:P.k tn=some (.b kn)) (hi:P.l e=some i) (hz:i.zero=some z)
 (hsize:i.j=size) (hzs:z.D.j=size)
 (ad:aT) (sLen sCap:Nat) (hs:a.eval s=.a (some ad) sLen sCap) (k:Nat) (hx:a.eval x=.b kq k)
 (olds:List aB) (hlo:olds.a=sLen*size) (hold:∀j u,olds[j]? = some u->w.b (ad.add j)=some u)
 (h0:0<k) (hsz:0<size) (hg:sCap<sLen+k) (h63:sLen+k<=maxLen) (hb:(sLen+k)*i.bytes<=140737488355328)
 (h:∀c' cur w',sLen+k<=c'->c'<=maxLen->cur.j=c'*size->cur.a.d (sLen*size)=olds->w'.a[w.a.j]? = some (.D cur e (0,0))->aL w.a.j w w' ->
  wpList P ops Q rest (a.put o.X (.a (some ⟨w.a.j,0,none⟩) (sLen+k) c')) w'):wpList P ops Q (o::rest) a w:=by
 subst hsize;refine sO hgd fun K hK=>?_
 have hl:(tL i.j sLen (.a (some ad) sLen sCap)).I P w.drew = .Z olds.b w.drew:=by
  have:=run_loadCells_list (P:=P) w.drew ad olds (fun j v hj=>by simpa using hold j v hj);rw[hlo]at this;simpa[tL]using this
 have h63':((sLen+k:Nat):Int)<=9223372036854775807:=by unfold maxLen at h63;omega
 have h48:k*i.bytes<=281474976710656:=aO (dw _ (by omega:k<=sLen+k)) (by omega);have hrun:=Lib.run_append_grow_zeros (P:=P) w t tn o.p e i z kq kn ht htn hi hz (some ad) sLen sCap olds hl k h0 hsz hg h63' h48 (growslice_fits hg hb);have hge:=grownCap_ge w (sLen+k) sCap e;have:=h (grownCap w (sLen+k) sCap e) _ _ hge (grownCap_le_maxLen w (sLen+k) sCap e h63)
  (by simp only[Array.size_append,List.size_toArray,size_zeroCells,hzs,hlo,<-Nat.add_mul];congr 1;omega)
  (by simp only[Array.toList_append,dB];rw[<-hlo];exact List.take_left)
  (Gl w.drew (.D (olds.b++nQ z.D k++nQ z.D (grownCap w (sLen+k) sCap e-(sLen+k))) e))
  (((aG w.a.j w).drew).alloc (av _) _)
 unfold ni;simp[execOp,ho,resolve,invoke,builtin,hs,hx,hrun,iD];exact hK _ _ (by simpa using this)
theorem Ky{ops:Array iZ}{o:iZ}{a:qR}{w:ak}{K:qR->ak->Prop}{Q:zO->qR->ak->Prop}{E:Prop}(hgd:o.guard=none)(s x:pG)(t:bF)
 (ho:o.op=.call {callee:=.builtin .append,args:=#[s,x],argTypes:=#[t,t]}) (e:bF) (i:nI) (size:Nat) (ht:P.k t=some (.a e)) (hi:P.l e=some i) (hsize:i.j=size)
 (g sLen sCap:Nat) (ad:aT) (m c:Nat) (hs:a.eval s=.a (some ⟨g,0,none⟩) sLen sCap) (hx:a.eval x=.a (some ad) m c)
 (cur:Array aB) (hg:w.a[g]? = some (.D cur e (0,0))) (news:List aB) (hl:news.a=m*size) (hnews:∀j u,news[j]? = some u->w.b (ad.add j)=some u) (h1:∀u∈news,u.h=true)
 (hroom:sLen+m<=sCap) (hfit:sLen*size+news.a<=cur.j)
 (h:∀w',w'=w.setRow g (splice cur.a (sLen*size) news).b->K (a.put o.X (.a (some ⟨g,0,none⟩) (sLen+m) sCap)) w') :
 if fF o (yielded ops a.tmps)=true then ni P o a w K Q else E:=by
 subst hsize;have hw:fF o (yielded ops a.tmps)=true:=by simp[fF,hgd]
 rw[if_pos hw];have hrun:=run_append_room (P:=P) w t o.p e i ht hi g sLen sCap cur hg ad m c news hl hnews h1 hroom hfit;unfold ni;simp[execOp,ho,resolve,invoke,builtin,hs,hx,hrun,iD];exact h _ (by simp[splice])
theorem Ee{w:ak}{ops:Array iZ}{rest:List iZ}{o:iZ}{a:qR}{Q:zO->qR->ak->Prop}(hgd:o.guard=none)(s:pG)(t:bF)
 (ho:o.op=.call {callee:=.builtin .clear,args:=#[s],argTypes:=#[t]}) (e:bF) (i:nI) (z:aB) (size:Nat) (ht:P.k t=some (.a e)) (hi:P.l e=some i) (hz:i.zero=some z) (hzs:z.D.j=size) (h1:z.D.all (·.h)=true)
 (g off n c:Nat) (hs:a.eval s=.a (some ⟨g,off,none⟩) n c) (h0:0<n) (cur:Array aB) (tt:bF) (hg:w.a[g]? = some (.D cur tt (0,0))) (hfit:off+n*size<=cur.j)
 (h:∀w' zs,zs.a=n*size->w'=w.setRow g (splice cur.a off zs).b->wpList P ops Q rest (a.put o.X (.J #[])) w'):wpList P ops Q (o::rest) a w:=by
 refine sO hgd fun K hK=>?_
 have hzl:(nQ z.D n).a.a=n*size:=by rw[aZ,size_zeroCells,hzs]
 have hst:=run_storeCells_at P g off tt (nQ z.D n).a 0 cur w hg (by rw[hzl];omega) (fun v hv=>by
  have hv':v∈nQ z.D n:=by simpa using hv
  unfold nQ at hv';obtain⟨j,hj,rfl⟩:=Array.mem_map.1 hv';have hj':j<n*z.D.j:=by simpa using hj
  have hpos:0<z.D.j:=by
   rcases eu z.D.j with h2|h2
   ·rw[h2]at hj';omega
   ·exact h2
  have hm:j%z.D.j<z.D.j:=fH _ hpos;rw[getElem!_pos z.D _ hm];exact gu.1 h1 _ (Array.getElem_mem hm))
 have hrun:(Builtin.clear_ #[t] o.p #[.a (some ⟨g,off,none⟩) n c]).I P w = .Z (.J #[]) (w.setRow g (splice cur.a off (nQ z.D n).a).b):=by
  obtain⟨n',rfl⟩:∃n',n=n'+1:=⟨n-1,by omega⟩
  simp[Builtin.clear_,dJ ht,zeroValue,typeInfo,hi,hz,hst,splice]
 unfold ni;simp[execOp,ho,resolve,invoke,builtin,hs,hrun,iD];exact hK _ _ (h _ _ hzl rfl)
end
theorem aiu{α:Type}(cur xs ys:List α)(k s:Nat)(hx:cur.d xs.a=xs)(hk:k<=xs.a)(hy:ys.a=s)(hfit:xs.a+s<=cur.a):
 (splice (splice cur (k+s) (xs.f k)) k ys).d (xs.a+s)=xs.d k++ys++xs.f k:=by
 have hc:cur=xs++cur.f xs.a:=by
  conv=>lhs;rw[<-iF xs.a cur]
  rw[hx]
 generalize cur.f xs.a=r at hc;subst hc;have hr:s<=r.a:=by simp at hfit;omega
 unfold splice;have e1:((xs++r).d (k+s)++(xs.f k++(xs++r).f (k+s+(xs.f k).a))).d k=xs.d k:=by
  rw[gF (by simp;omega),List.take_take,oC (by omega),gF hk]
 have e2:((xs++r).d (k+s)++(xs.f k++(xs++r).f (k+s+(xs.f k).a))).f (k+ys.a)=xs.f k++(xs++r).f (k+s+(xs.f k).a):=by
  rw[hy];have:(List.take (k+s) (xs++r)).a=k+s:=by simp;omega
  rw[List.drop_append_of_le_length (by omega),iW (by omega),dF]
 rw[e1,e2,<-dB,<-dB,gF (by simp;omega)];exact aK (by simp;omega)
theorem aoL{α:Type}(cur xs ys:List α)(k s:Nat)(hx:cur.d k=xs.d k)(hk:k<=xs.a)(hy:ys.a=s)(hfit:xs.a+s<=cur.a):
 (splice (splice cur k ys) (k+s) (xs.f k)).d (xs.a+s)=xs.d k++ys++xs.f k:=by
 unfold splice;rw[hx];have e1:(xs.d k++(ys++cur.f (k+ys.a))).d (k+s)=xs.d k++ys:=by
  rw[<-dB,gF (by simp;omega)];exact aK (by simp;omega)
 rw[e1,<-dB,gF (by simp;omega)];exact aK (by simp;omega)
theorem Ya{α:Type}(cur xs:List α)(k s:Nat)(hx:cur.d xs.a=xs)(hk:k+s<=xs.a):
 (splice cur k (xs.f (k+s))).d (xs.a-s)=xs.d k++xs.f (k+s):=by
 have hc:cur=xs++cur.f xs.a:=by
  conv=>lhs;rw[<-iF xs.a cur]
  rw[hx]
 generalize cur.f xs.a=r at hc;subst hc;unfold splice;have e1:(xs++r).d k=xs.d k:=gF (by omega);rw[e1,<-dB,gF (by simp;omega)];exact aK (by simp;omega)
@[go_sem]theorem ak7(w:ak)(ob:Obj)(x y:Bk):
 (JB (.c (some ⟨w.a.j+1,0,none⟩)) (.d x.ay)).I ah ((w.alloc ob).alloc (.D y.ay 62)) = .Z () ((w.alloc ob).alloc (.D x.ay 62)):=by
 have:=Xa (w.alloc ob) x y
 rwa [show(w.alloc ob).a.j=w.a.j+1 by simp]at this
def Io(l m:List Bk)(i:Nat):Bool:=QM (l.c i jg) (m.c i jg)
def Ip(l m:List Bk):Bool:=decide (l.a=m.a)&&(dP l.a).all (Io l m)
theorem aco(args:Array aB)(w:ak):(callFunc 124 args).I ah w = .Z (.enter 124 args) w:=by kernel_rfl
theorem Kz(p:Nat->Bool)(i:Nat):(dP (i+1)).all p=((dP i).all p&&p i):=by
 rw[List.range_succ,List.all_append];simp
theorem QO(p:Nat->Bool)(i n:Nat)(h:i<n)(hp:p i=false):(dP n).all p=false:=by
 rw[List.all_eq_false];exact⟨i,eO.2 h,by rw[hp];simp⟩
theorem Xj(l m:List Bk)(A B:Option aT)(c d:Nat)(w:ak)(hR:Ea w w.a.j A l.a l)(hT:Ea w w.a.j B m.a m)(hn:l.a<4611686018427387904)(hm:m.a<4611686018427387904):
 aP ah 123 #[.a A l.a c,.a B m.a d,.func (.func 124) #[] #[]] w
  (gD w (.e (Ip l m))):=by
 have hen:=aco;have HR:=ab hR;have HT:=ab hT;clear hR hT;have he:Ip l m=(decide (l.a=m.a)&&(dP l.a).all (Io l m)):=rfl;have HE:=ab he;clear he;by_cases hlm:l.a=m.a;rotate_left
 ·have aB2:((l.a:Int) != (m.a:Int))=true:=by rw[bne_iff_ne];omega
  have hf:Ip l m=false:=by rw[HE.i];simp[hlm]
  have HF:=ab hf;clear hf hlm;go_enter Tryz.func123,Tryz.ntmps123;go_wp2;go_ret;exact⟨by rw[HF.i];rfl,aG _ _⟩
 have HLM:=ab hlm;rw[<-hlm]at HT hm ⊢;clear hlm;obtain⟨n,hnl⟩:=cB l.a;rw[<-hnl]at HR HT hn ⊢;have HN:=ab hnl;clear hnl hm;have hbn:((n:Int) != (n:Int))=false:=by simp
 go_enter Tryz.func123,Tryz.ntmps123;go_wp2;go_loopw [17] (fun s17 wr=>∃i:Nat,i<=n/\s17=.b .a i/\(dP i).all (Io l m)=true/\aL w.a.j w wr) (fun s17 _=>n-(intOf s17).e)
 case atStart=>exact⟨0,by omega,rfl,rfl,aG _ _⟩
 case round=>
  obtain⟨i,hin,rfl,hall,hb⟩:=hrel;have HA:=ab hall;have HB:=ab hb;have hsz:=hb.j;clear hall hb;by_cases hlt:i<n
  ·have hi:(i:Int)<n:=by omega
   obtain⟨b,o,rfl,hbb,hh,hc⟩:=(HR.i.O HB.i).fI hlt;obtain⟨b2,o2,rfl,Ms,hh2,hc2⟩:=(HT.i.O HB.i).fI hlt;have hbs:b<wr.a.j:=by omega
   have Fv:b2<wr.a.j:=by omega
   have hp:Io l m i=QM (l.c i jg) (m.c i jg):=rfl;obtain⟨x,hx⟩:=cB (l.c i jg);obtain⟨y,hy⟩:=cB (m.c i jg);rw[<-hx]at hc hp;rw[<-hy]at hc2 hp;have HP:=ab hp;clear hx hy hp hbb Ms;have pR:∀K,QM x y=K->∀W,aP ah 124 #[.d x.ay,.d y.ay] W fun e w'=>e=.a (.e K)/\aL W.a.j W w':=fun K h W=>by
    have:=air x y W;rw[h]at this;exact this
   have hb2:∀ob sK,aL wr.a.j wr ((wr.alloc ob).alloc sK):=fun ob sK=>((aG _ _).alloc (av _) _).alloc (by simp) _
   have HB2:=ab hb2;clear hb2;cases k:QM x y
   ·have hf:Ip l m=false:=by
     rw[HE.i,<-HN.i,QO (Io l m) i n hlt (by rw[HP.i,k])];simp
    have HF:=ab hf;have SH:=ab (pR _ k);clear k pR hf;go_wp2_with (go_at_call 124;refine(SH.i _).g ?_;rintro e w1 ⟨rfl,hb1⟩;clear hh hc hh2 hc2;have HB1:=ab hb1;clear hb1);go_ret;exact⟨by rw[HF.i];rfl,iX HB.i ((HB2.i _ _).trans (HB1.i.g (by simp;omega)))⟩
   ·have hy':(dP (i+1)).all (Io l m)=true:=by rw[Kz,HA.i,HP.i,k];rfl
    have HY:=ab hy';have SH:=ab (pR _ k);clear k pR hy';go_wp2_with (go_at_call 124;refine(SH.i _).g ?_;rintro e w1 ⟨rfl,hb1⟩;clear hh hc hh2 hc2;have HB1:=ab hb1;clear hb1);go_roundw
    case rel=>exact⟨i+1,by omega,by go_num,HY.i,iX HB.i ((HB2.i _ _).trans (HB1.i.g (by simp;omega)))⟩
    case measure=>simp[intOf]<;>omega
  ·obtain rfl:i=n:=by omega
   have ht:Ip l m=true:=by rw[HE.i,<-HN.i,HA.i];have:=HLM.i;have:=HN.i;simp;omega
   have HTR:=ab ht;clear ht;have hd:decide ((i:Int)<i)=false:=by simp
   go_wp2;go_ret;exact⟨by rw[HTR.i];rfl,HB.i⟩
def ZU(v:Int)(l:List Bk)(v':Int)(m:List Bk):Bool:=(v==v')&&Ip l m
theorem ZV(l m:List Bk)(v v':Int)(A B:Option aT)(c d:Nat)(w:ak)(hR:Ea w w.a.j A l.a l)(hT:Ea w w.a.j B m.a m)(hn:l.a<4611686018427387904)(hm:m.a<4611686018427387904):
 aP ah 53 #[.d #[.b .a v,.a A l.a c],.d #[.b .a v',.a B m.a d]] w
  (gD w (.e (ZU v l v' m))):=by
 have hb0:∀ob sK,aL w.a.j w ((w.alloc ob).alloc sK):=fun ob sK=>((aG _ _).alloc (av _) _).alloc (by simp) _
 have HB0:=ab hb0;clear hb0;have HR:=ab (fun ob sK=>((hR.alloc (av _) ob).alloc (by simp) sK).lF (B':=((w.alloc ob).alloc sK).a.j) (by simp;omega));have HT:=ab (fun ob sK=>((hT.alloc (av _) ob).alloc (by simp) sK).lF (B':=((w.alloc ob).alloc sK).a.j) (by simp;omega));clear hR hT;have he:ZU v l v' m=((v==v')&&Ip l m):=rfl;have HE:=ab he;clear he;cases k:v==v'
 ·have HK:=ab k
  go_enter Tryz.func53,Tryz.ntmps53;go_wp2;go_ret;exact⟨by rw[HE.i,HK.i];rfl,HB0.i _ _⟩
 ·have HK:=ab k
  go_enter Tryz.func53,Tryz.ntmps53;go_wp2_with (go_at_call 123;refine(Xj l m A B c d _ (HR.i _ _) (HT.i _ _) hn hm).g ?_;rintro e w1 ⟨rfl,hb1⟩;have HB1:=ab hb1;clear hb1);go_ret;exact⟨by rw[HE.i,HK.i];rfl,(HB0.i _ _).trans (HB1.i.g (by simp;omega))⟩
theorem acp(l:List Bk)(a:aT)(c:Nat)(w:ak)(hR:Ea w w.a.j (some a) l.a l)(hn:l.a<=100000000000):
 aP ah 61 #[.a (some a) l.a c] w fun e w'=>∃A' c',e=.a (.a A' l.a c')/\w'.c w.a.j 62 27 (.a A' l.a c') l.a (dH l)/\aL w.a.j w w':=by
 have hnil:∀W:ak,(binOp .eql 30 (.a (some a) l.a c) (.a none 0 0)).I ah W = .Z (.e false) W:=fun W=>by
  simp only[binOp];simp[jc,jl]
 obtain⟨i0,hi0,hz0,hz1,hzb⟩:=OU;have hz2:(bY jg.ay).D.j=27:=by simp[cK,Bk.G]
 have o1:(w.alloc (.D #[] 62)).c w.a.j 62 27 (.a (some ⟨w.a.j,0,none⟩) 0 0) 0 []:=
  nU w #[] 0 (av _) (by unfold maxLen;omega) rfl
 have O1:=ab o1;have O2:=ab (hR.alloc (av _) (.D #[] 62)).2.1;have S9:=ab (show 0+l.a<=maxLen by unfold maxLen;omega);have OQ:=ab (show(0+l.a)*i0.bytes<=140737488355328 from aO (gU (show 0+l.a<=100000000000 by omega) hzb) (by omega));have O3:=ab (show w.a.j<=(w.alloc (.D #[] 62)).a.j by simp);clear o1 hR;go_enter Tryz.func61,Tryz.ntmps61;go_wp2_with (at_builtin;refine jv _ rfl (.tmp 5) (.tmp 6) _ rfl w.a.j 62 i0 (.d jg.ay) 27 i0.bytes jl hi0 hz0 hz1 rfl hz2 (mH _) (.a (some ⟨w.a.j,0,none⟩) 0 0) 0 [] rfl O1.i w.a.j (some a) l.a c (dH l) rfl O2.i (Cy l) S9.i OQ.i O3.i ?_;intro v1 w1 hown1 hg1 wM);obtain⟨A',c',hv,_,_⟩:=jE hown1;subst hv;simp only[bB,dF]at hown1;have hb:=sj ((aG w.a.j w).alloc (av _) (.D #[] 62)) hg1 (av _) O3.i;go_wp2;go_ret;exact⟨A',c',by simp,hown1,hb⟩
theorem aoM{l:List Bk}(hs:Fp l){s:List UInt8}{i:Nat}(hi:i<l.a)(h:nm l i=s):kJ l s=i/\sM l s=true:=by
 have h0:mD (nm l i) s=0:=JF.2 h;have hl:kJ l s=i:=agO (by omega) (fun k hk=>by rw[<-h];exact hs.lt hk hi) (fun _=>by omega);refine⟨hl,?_⟩;unfold sM;rw[hl];simp[hi,h0]
def Fx(l m:List Bk)(i:Nat):Bool:=Al (l.c i jg) (m.c i jg)
def Bg(v:Int)(l:List Bk)(v':Int)(m:List Bk):Bool:=(v==v')&&decide (l.a=m.a)&&(dP l.a).all (Fx l m)
theorem Ry(l m:List Bk)(hf:∀x∈l,x.pJ)(hg:∀x∈m,x.pJ)(v v':Int)(A B:Option aT)(c d:Nat)(w:ak)(hR:Ea w w.a.j A l.a l)(hT:Ea w w.a.j B m.a m)(hn:l.a<4611686018427387904)(hm:m.a<4611686018427387904):
 aP ah 56 #[.d #[.b .a v,.a A l.a c],.d #[.b .a v',.a B m.a d]] w
  (gD w (.e (Bg v l v' m))):=by
 have hb0:∀ob sK,aL w.a.j w ((w.alloc ob).alloc sK):=fun ob sK=>((aG _ _).alloc (av _) _).alloc (by simp) _
 have HB0:=ab hb0;clear hb0;have HR:=ab hR;have HT:=ab hT;have HF:=ab hf;have HG:=ab hg;clear hR hT hf hg;have he:Bg v l v' m=((v==v')&&decide (l.a=m.a)&&(dP l.a).all (Fx l m)):=rfl;have HE:=ab he;clear he;by_cases hv:v=v';rotate_left
 ·have hv1:(v != v')=true:=by rw[bne_iff_ne];exact hv
  have hff:Bg v l v' m=false:=by rw[HE.i];simp[hv]
  have ER:=ab hff;clear hff hv;go_enter Tryz.func56,Tryz.ntmps56;go_wp2;go_ret;exact⟨by rw[ER.i];rfl,HB0.i _ _⟩
 have hv1:(v != v')=false:=by simpa using hv
 by_cases hlm:l.a=m.a;rotate_left
 ·have aB2:((l.a:Int) != (m.a:Int))=true:=by rw[bne_iff_ne];omega
  have hff:Bg v l v' m=false:=by rw[HE.i];simp[hlm]
  have ER:=ab hff;clear hff hlm hv;go_enter Tryz.func56,Tryz.ntmps56;go_wp2;go_ret;exact⟨by rw[ER.i];rfl,HB0.i _ _⟩
 have HLM:=ab hlm;have HV:=ab hv;rw[<-hlm]at HT hm ⊢;clear hlm hv;obtain⟨n,hnl⟩:=cB l.a;rw[<-hnl]at HR HT hn ⊢;have HN:=ab hnl;clear hnl hm;have hbn:((n:Int) != (n:Int))=false:=by simp
 go_enter Tryz.func56,Tryz.ntmps56;go_wp2;go_loopw [5] (fun s5 wr=>∃i:Nat,i<=n/\s5=.b .a i/\(dP i).all (Fx l m)=true/\aL (w.a.j+2) ((w.alloc (.D #[.b .a v,.a A n c] 32)).alloc (.D #[.b .a v',.a B n d] 32)) wr) (fun s5 _=>n-(intOf s5).e)
 case atStart=>exact⟨0,by omega,rfl,rfl,aG _ _⟩
 case round=>
  obtain⟨i,hin,rfl,hall,hb⟩:=hrel;have HA:=ab hall;have HB:=ab hb;have hcl:wr.b ⟨w.a.j,1,none⟩=some (.a A n c):=by
   rw[hb.cell (by simp)];go_simp
  have hBW:=(HB0.i (.D #[.b .a v,.a A n c] 32) (.D #[.b .a v',.a B n d] 32)).trans (hb.g (by simp));have HBW:=ab hBW;clear hall hb hBW;by_cases hlt:i<n
  ·have hsz:=HB.i.j
   have hi:(i:Int)<n:=by omega
   have aB4:wr.b ⟨w.a.j+1,1,none⟩=some (.a B n d):=by
    rw[HB.i.cell (by simp)];go_simp
   obtain⟨b,o,rfl,hbb,hh,hc⟩:=(HR.i.O HBW.i).fI hlt;obtain⟨b2,o2,rfl,Ms,hh2,hc2⟩:=(HT.i.O HBW.i).fI hlt;have hws:w.a.j+2<=wr.a.j:=by simpa using hsz
   have hbs:b<wr.a.j:=by omega
   have Fv:b2<wr.a.j:=by omega
   have hmem:l.c i jg∈l:=by
    have:=HN.i;rw[au,aC (by omega)];simp
   have aru:m.c i jg∈m:=by
    have:=HN.i;have:=HLM.i;rw[au,aC (by omega)];simp
   obtain⟨hx1,hx2⟩:=HF.i _ hmem;obtain⟨hy1,hy2⟩:=HG.i _ aru;have hp:Fx l m i=Al (l.c i jg) (m.c i jg):=rfl;obtain⟨x,hx⟩:=cB (l.c i jg);obtain⟨y,hy⟩:=cB (m.c i jg);rw[<-hx]at hc hp hx2;rw[<-hy]at hc2 hp hy2;have HP:=ab hp;clear hx hy hp hbb Ms hmem aru hx1 hy1;have pR:∀K,Al x y=K->∀W,aP ah 125 #[.d x.ay,.d y.ay] W fun e w'=>e=.a (.e K)/\aL W.a.j W w':=fun K h W=>by
    have:=acn x y hx2 hy2 W;rw[h]at this;exact this
   obtain⟨T,f,n0,e0,eS,eT⟩:=Ec (fun W=>aL wr.a.j wr W) wr (aG _ _).drew;have es:∀q W1,aL (f q).a.j (f q) W1->∃q',W1=f q':=fun q W1 hb=>eT _ ((eS q).trans (hb.g (eS q).j))
   have r1:∀q,(KY (.c (some ⟨b,o+i*27,none⟩))).I ah (f q) = .Z (.d x.ay) (f q):=fun q=>by
    rw[ZB _ _ _ (hh.O (eS q) hbs),Kv (eS q) hbs,hc]
   have r2:∀q,(KY (.c (some ⟨b2,o2+i*27,none⟩))).I ah (f q) = .Z (.d y.ay) (f q):=fun q=>by
    rw[ZB _ _ _ (hh2.O (eS q) Fv),Kv (eS q) Fv,hc2]
   have r3:∀q,(f q).b ⟨w.a.j,1,none⟩=some (.a (some ⟨b,o,none⟩) n c):=fun q=>by rw[(eS q).cell (by simp;omega)];exact hcl
   have r4:∀q,(f q).b ⟨w.a.j+1,1,none⟩=some (.a (some ⟨b2,o2,none⟩) n d):=fun q=>by rw[(eS q).cell (by simp;omega)];exact aB4
   have hne:Nonempty T:=⟨n0⟩
   have E0:=ab e0;have ES:=ab es;have EB:=ab (fun q=>HB.i.trans ((eS q).g hws));have EW:=ab (fun q=>HBW.i.trans ((eS q).g (by omega)));clear e0 es eS eT hh hc hh2 hc2;cases k:Al x y
   ·have hff:Bg v l v' m=false:=by
     rw[HE.i,<-HN.i,QO (Fx l m) i n hlt (by rw[HP.i,k])];simp
    have ER:=ab hff;have SH:=ab (pR _ k);clear k pR hff;go_upto_region 6 with fail
    refine nL f (by kernel_rfl) (by kernel_rfl) n0 E0.i ?_
    repeat(go_big_quiet_step ((first
     | (go_at_call 125;refine(SH.i _).g ?_;rintro e w1 ⟨rfl,hb1⟩;exact⟨rfl,ES.i _ _ hb1⟩))))
    refine gK ?_;rintro _ ⟨q,rfl⟩;go_wp2;go_ret;exact⟨by rw[ER.i];rfl,EW.i _⟩
   ·have hy':(dP (i+1)).all (Fx l m)=true:=by rw[Kz,HA.i,HP.i,k];rfl
    have HY:=ab hy';have SH:=ab (pR _ k);clear k pR hy';go_upto_region 6 with fail
    refine nL f (by kernel_rfl) (by kernel_rfl) n0 E0.i ?_
    repeat(go_big_quiet_step ((first
     | (go_at_call 125;refine(SH.i _).g ?_;rintro e w1 ⟨rfl,hb1⟩;exact⟨rfl,ES.i _ _ hb1⟩))))
    refine gK ?_;rintro _ ⟨q,rfl⟩;go_wp2;go_roundw
    case rel=>exact⟨i+1,by omega,by go_num,HY.i,EB.i _⟩
    case measure=>simp[intOf]<;>omega
  ·obtain rfl:i=n:=by omega
   have ht:Bg v l v' m=true:=by rw[HE.i,<-HN.i,HA.i];have:=HLM.i;have:=HN.i;have:=HV.i;simp;omega
   have HTR:=ab ht;clear ht;have hd:decide ((i:Int)<i)=false:=by simp
   go_wp2;go_ret;exact⟨by rw[HTR.i];rfl,HBW.i⟩
theorem aiv{x y:Nat}(hx:x<18446744073709551616)(hy:y<18446744073709551616):D8 x y=decide (KZ x=KZ y):=by
 rw[bV];simp only[D8,beq_iff_eq,decide_eq_true_eq];constructor
 ·intro h;simp only[KZ,h]
 ·intro h;exact aeI (ab9 hx) (ab9 hy) h
theorem aeR:Op.floatEq .f64 0 0=true:=by decide +kernel
theorem ak8{x y:Bk}(hx:x.w<18446744073709551616)(hy:y.w<18446744073709551616):QM x y=Al x y:=by
 unfold QM Al ak5 Bk.Ol;rw[aeR,aiv hx hy];cases(decide (KZ x.w=KZ y.w))<;>cases(x.E==y.E)<;>cases(decide (x.h=y.h))<;>cases(x.mR==y.mR)<;>cases(decide (x.AJ=y.AJ))<;>cases(x.drain==y.drain)<;>rfl
theorem aiw{l m:List Bk}(v v':Int)(hf:∀x∈l,x.pJ)(hg:∀x∈m,x.pJ):ZU v l v' m=Bg v l v' m:=by
 unfold ZU Bg Ip;rw[Bool.and_assoc];congr 1;by_cases hlm:l.a=m.a
 ·congr 1
  rw[bV,gJ,gJ];have key:∀i,i∈dP l.a->Io l m i=Fx l m i:=fun i hi=>by
   have hi:=eO.1 hi;unfold Io Fx;have h1:l.c i jg∈l:=by rw[au,aC hi];simp
   have h2:m.c i jg∈m:=by rw[au,aC (by omega)];simp
   exact ak8 (hf _ h1).2 (hg _ h2).2
  constructor
  ·intro h i hi;rw[<-key i hi];exact h i hi
  ·intro h i hi;rw[key i hi];exact h i hi
 ·simp[hlm]
theorem aeS(v:Int)(l:List Bk):Bg v l v l=true:=by
 unfold Bg Fx Al;simp
def Uy(f w:Nat):Bool:=decide (f/w%2=1)
theorem ak9(f w:Nat)(hf:f<64)(hw:w∈[1,2,4,16]):(bits .and .a (f:Int) (w:Int) != 0)=Uy f w:=
 (by decide +kernel:∀f:Fin 64,∀w∈([1,2,4,16]:List Nat),(bits .and .a ((f.val:Nat):Int) (w:Int) != 0)=Uy f.val w) ⟨f,hf⟩ w hw
def ZW(f:Nat):Bool:=Uy f 2 && !Uy f 16
def aac(p:Int)(f:Nat):Int:=if p=17 then 5 else if p=6 then(if Uy f 4 then 4 else if Uy f 1 then 3 else if ZW f then 1 else 2)else 0
def agR(s:Int)(f:Nat):Int:=if s=5 then 5 else if s<1\/5<s then 0 else if Uy f 4 then 4 else if s=4 then(if ZW f then 1 else 4)else if Uy f 1 then 3 else if s=1/\(Uy f 16 && !Uy f 2)=true then 2 else s
def Iq(n:Int):Int:=if n<0 then 0 else if 1099511627776<n then 1099511627776 else n
section
variable (f w:Nat) (p s n:Int) (W:ak)
theorem aad(hf:f<64)(hw:w∈[1,2,4,16]):aP ah 208 #[.b .a f,.b .a w] W fun e W'=>e=.a (.e (Uy f w))/\W=W':=by
 have h:=ak9 f w hf hw;go_enter Tryz.func208,Tryz.ntmps208;go_wp2;go_ret;exact⟨by rw[<-h];rfl,rfl⟩
theorem Yb(hf:f<64):aP ah 209 #[.b .a f] W fun e W'=>e=.a (.e (ZW f))/\W=W':=by
 go_enter Tryz.func209,Tryz.ntmps209;go_wp2_with (go_at_call 208;refine(aad f _ _ hf (by simp)).g ?_;rintro e w' ⟨rfl,rfl⟩)
 all_goals(go_ret;refine⟨?_,rfl⟩;simp_all[ZW])
theorem aix(hf:f<64):aP ah 138 #[.b .a p,.b .a f] W fun e W'=>e=.a (.b .a (aac p f))/\W=W':=by
 go_enter Tryz.func138,Tryz.ntmps138;go_wp2_with (first|(go_at_call 208;refine(aad f _ _ hf (by simp)).g ?_;rintro e w' ⟨rfl,rfl⟩)|(go_at_call 209;refine(Yb f _ hf).g ?_;rintro e w' ⟨rfl,rfl⟩))
 all_goals(go_ret;refine⟨?_,rfl⟩;simp_all[aac])
theorem ak'(hf:f<64):aP ah 139 #[.b .a s,.b .a f] W fun e W'=>e=.a (.b .a (agR s f))/\W=W':=by
 go_enter Tryz.func139,Tryz.ntmps139;go_wp2_with (first|(go_at_call 208;refine(aad f _ _ hf (by simp)).g ?_;rintro e w' ⟨rfl,rfl⟩)|(go_at_call 209;refine(Yb f _ hf).g ?_;rintro e w' ⟨rfl,rfl⟩))
 all_goals(go_ret;refine⟨?_,rfl⟩;simp_all[agR]<;>omega)
theorem acr:aP ah 217 #[.b .a n] W fun e W'=>e=.a (.b .a (Iq n))/\W=W':=by
 go_enter Tryz.func217,Tryz.ntmps217;go_wp2
 all_goals(go_ret;refine⟨?_,rfl⟩;simp_all[Iq]<;>(repeat' split)<;>omega)
end
def lH(n:Nat):Bool:=decide (2<=n)&&(dP n).all fun d=>decide (d<2)||decide (n<d*d)||decide (n%d≠0)
theorem JG{n:Nat}(h:lH n=true){d:Nat}(h2:2<=d)(hd:d*d<=n):n%d≠0:=by
 unfold lH at h;simp only[bl,gJ,eO,nu,decide_eq_true_eq]at h;have hlt:d<n:=by have:=dw d h2;omega
 rcases h.2 d hlt with(h|h)|h<;>omega
theorem wO{n:Nat}(h:lH n=true):2<=n:=by
 unfold lH at h;simp at h;exact h.1
theorem aeT{n g:Nat}(h:lH n=true)(hg:g∣n)(h2:2<=g):g=n:=by
 obtain⟨q,rfl⟩:=hg;rcases aY q 2 with hq|hq
 ·rcases q with _|_|q
  ·have:=wO h;omega
  ·omega
  ·omega
 ·exfalso
  rcases Nat.le_total g q with hle|hle
  ·exact JG h h2 (Nat.mul_le_mul_left g hle) (Nat.mul_mod_right g q)
  ·exact JG h hq (dw q hle) (Nat.mul_mod_left g q)
theorem Uz{n s:Nat}(h:lH n=true)(h1:1<=s)(h2:s<n):Nat.Coprime n s:=by
 have hg:=Nat.gcd_dvd_left n s;have hs:=Nat.gcd_dvd_right n s;have hpos:0<Nat.gcd n s:=Nat.gcd_pos_of_pos_right n h1;rcases aY (Nat.gcd n s) 2 with hc|hc
 ·show Nat.gcd n s=1;omega
 ·have:=aeT h hg hc
  have:=Nat.le_of_dvd h1 hs;omega
def re(o s n i:Nat):Nat:=(o+i*s)%n
theorem aeU{o s n i j:Nat}(h:lH n=true)(h1:1<=s)(h2:s<n)(hi:i<j)(hj:j<n)(e:re o s n i=re o s n j):False:=by
 unfold re at e;have hd:n∣(j-i)*s:=by
  have:n∣(o+j*s)-(o+i*s):=Nat.dvd_of_mod_eq_zero (Nat.sub_mod_eq_zero_of_mod_eq e.symm)
  rwa [Nat.add_sub_add_left,<-Nat.mul_sub_right_distrib]at this
 have:=(Uz h h1 h2).dvd_of_dvd_mul_right hd;have:=Nat.le_of_dvd (by omega) this;omega
theorem acs:∀(l m:List Nat),l.Nodup->(∀x∈l,x∈m)->l.a<=m.a
 | [],m,_,_=>Nat.zero_le _
 | x::l,m,hn,hs=>by
   have hx:=hs x (by simp);rw[List.nodup_cons]at hn;have:=acs l (m.erase x) hn.2 (fun y hy=>(List.mem_erase_of_ne (fun e=>hn.1 (by rw[<-e];exact hy))).2 (hs y (by simp[hy])));rw[List.length_erase_of_mem hx]at this;have:=List.length_pos_of_mem hx;simp;omega
theorem UA{o s n:Nat}(h:lH n=true)(h1:1<=s)(h2:s<n){j:Nat}(hj:j<n):∃i,i<n/\re o s n i=j:=by
 have hn:0<n:=by omega
 by_cases hc:j∈(dP n).map (re o s n)
 ·obtain⟨i,hi,e⟩:=iV.1 hc
  exact⟨i,eO.1 hi,e⟩
 ·exfalso
  have hnd:((dP n).map (re o s n)).Nodup:=by
   rw[List.Nodup,List.pairwise_map];refine List.Pairwise.imp_of_mem ?_ (List.pairwise_lt_range (n:=n));intro a b ha hb hab e;exact aeU h h1 h2 hab (eO.1 hb) e
  have:=acs (j::(dP n).map (re o s n)) (dP n) (List.nodup_cons.2 ⟨hc,hnd⟩) (by
   intro x hx;rcases bg.1 hx with rfl|hx
   ·exact eO.2 hj
   ·obtain⟨i,_,rfl⟩:=iV.1 hx
    exact eO.2 (fH _ hn))
  simp at this;omega
theorem OX{o s n i:Nat}(h:0<n):re o s n i<n:=fH _ h
structure Mg where
 cr:List Nat
 sl:List Int
 left:Nat
def rQ(sl:List Int)(j:Nat):Bool:=decide (sl.c j 0 = -1)
def ff(sl:List Int)(ch:Nat->Nat)(n:Nat):Nat:=((dP n).find? fun k=>rQ sl (ch k)).c 0
def sF(g n:Nat)(q:List Nat)(ch:Nat->Nat->Nat)(m:Mg)(i:Nat):Mg:=
 if m.cr.c i 0+q.c i 0<g then{m with cr:=m.cr.set i (m.cr.c i 0+q.c i 0)}
 else⟨m.cr.set i (m.cr.c i 0+q.c i 0-g),m.sl.set (ch i (ff m.sl (ch i) n)) i,m.left-1⟩
def jO(g n:Nat)(q:List Nat)(ch:Nat->Nat->Nat):Nat->Mg
 | 0=>⟨q.map fun _=>0,dX n (-1),n⟩
 | j+1=>sF g n q ch (jO g n q ch j) (j%q.a)
def Ir(sl:List Int):Nat:=sl.countP fun x=>decide (x = -1)
theorem arv{sl:List Int}{ch:Nat->Nat}{n:Nat}(h:∃k,k<n/\rQ sl (ch k)=true):ff sl ch n<n/\rQ sl (ch (ff sl ch n))=true/\∀k,k<ff sl ch n->rQ sl (ch k)=false:=by
 unfold ff;cases hf:(dP n).find? fun k=>rQ sl (ch k)with
 | none=>
   obtain⟨k,hk,hk2⟩:=h;rw[List.find?_eq_none]at hf;exact absurd hk2 (hf k (eO.2 hk))
 | some k=>
   obtain⟨h1,u1,bs,h2,h3⟩:=List.find?_eq_some_iff_append.1 hf;have hk:u1.a=k/\k<n:=by
    have e1:(dP n)[u1.a]? = some k:=by rw[h2];simp
    rw[wH]at e1
    ·have hl:u1.a<n:=by have:=congrArg KT h2;simp at this;omega
     simp at e1;omega
    ·have:=congrArg KT h2;simp at this;omega
   refine⟨hk.2,h1,fun j hj=>?_⟩;simp only[jB]at hj;have e1:(dP n)[j]? = some j:=by rw[wH (by omega)]
   rw[h2,mM (by omega)]at e1;have:=h3 j (List.mem_of_getElem? e1);simpa using this
theorem OY:∀(sl:List Int)(j:Nat)(v:Int),rQ sl j=true->j<sl.a->v≠-1->Ir (sl.set j v)+1=Ir sl
 | [],j,v,_,h,_=>by simp at h
 | a::sl,0,v,h,_,hv=>by
   have:a = -1:=by simpa[rQ]using h
   subst this;simp[Ir,hv]
 | a::sl,j+1,v,h,hj,hv=>by
   have:=OY sl j v (by simpa[rQ]using h) (by simpa using hj) hv;simp only[Ir,bH,List.countP_cons]at this ⊢;omega
theorem Yc:∀(sl:List Int),0<Ir sl->∃j,j<sl.a/\rQ sl j=true
 | [],h=>by simp[Ir]at h
 | a::sl,h=>by
   by_cases ha:a = -1
   ·exact⟨0,by simp,by simp[rQ,ha]⟩
   ·obtain⟨j,h1,h2⟩:=Yc sl (by simpa[Ir,List.countP_cons,ha]using h)
    exact⟨j+1,by simpa using h1,by simpa[rQ]using h2⟩
structure aeV(n:Nat)(q:List Nat)(m:Mg):Prop where
 crl:m.cr.a=q.a
 sll:m.sl.a=n
 fr:Ir m.sl=m.left
 rng:∀j,j<n->m.sl.c j 0 = -1\/∃i,i<q.a/\m.sl.c j 0=(i:Int)
def acu(n k:Nat)(ch:Nat->Nat->Nat):Prop:=∀i,i<k->(∀t,ch i t<n)/\∀j,j<n->∃t,t<n/\ch i t=j
theorem aeV.free{n:Nat}{q:List Nat}{ch:Nat->Nat->Nat}{m:Mg}(h:aeV n q m)(hf:acu n q.a ch)(hl:m.left≠0){i:Nat}(hi:i<q.a):∃k,k<n/\rQ m.sl (ch i k)=true:=by
 obtain⟨j,hj,hj2⟩:=Yc m.sl (by rw[h.fr];omega);obtain⟨t,ht,e⟩:=(hf i hi).2 j (by rw[<-h.sll];exact hj);exact⟨t,ht,by rw[e];exact hj2⟩
theorem aeV.RG{g n:Nat}{q:List Nat}{ch:Nat->Nat->Nat}{m:Mg}(h:aeV n q m)(hf:acu n q.a ch)(hl:m.left≠0){i:Nat}(hi:i<q.a):aeV n q (sF g n q ch m i):=by
 unfold sF;split
 ·exact⟨by simpa using h.crl,h.sll,h.fr,h.rng⟩
 ·obtain⟨h1,h2,h3⟩:=arv (h.free hf hl hi)
  have hlt:=(hf i hi).1 (ff m.sl (ch i) n);have hll:=h.sll;refine⟨by simpa using h.crl,by simpa using h.sll,?_,fun j hj=>?_⟩
  ·have:=OY m.sl _ (i:Int) h2 (by omega) (by omega)
   have:=h.fr;show Ir (m.sl.set _ _)=m.left-1;omega
  ·simp only[au,fJ]
   split
   ·rename_i e
    rw[if_pos (by omega)];exact .b ⟨i,hi,rfl⟩
   ·have:=h.rng j hj
    simpa[au]using this
theorem acv{g n:Nat}{q:List Nat}{ch:Nat->Nat->Nat}(m:Mg)(i:Nat):(sF g n q ch m i).left<=m.left:=by
 unfold sF;split
 ·exact av _
 ·exact Nat.sub_le _ _
theorem aae{g n:Nat}{q:List Nat}{ch:Nat->Nat->Nat}(j:Nat):∀d,(jO g n q ch (j+d)).left<=(jO g n q ch j).left
 | 0=>av _
 | d+1=>aO (acv _ _) (aae j d)
theorem aaf{g n:Nat}{q:List Nat}{ch:Nat->Nat->Nat}{i0:Nat}(hi:i0<q.a)(hg:q.c i0 0=g)(m:Nat):(jO g n q ch ((m+1)*q.a)).left<=(jO g n q ch (m*q.a)).left-1:=by
 have h1:(jO g n q ch (m*q.a+i0+1)).left<=(jO g n q ch (m*q.a+i0)).left-1:=by
  have e:(m*q.a+i0)%q.a=i0:=by rw[Cw,Nat.mul_add_mod,fP hi]
  show(sF g n q ch _ ((m*q.a+i0)%q.a)).left<=_;rw[e];unfold sF;rw[if_neg (by omega)];exact av _
 have h2:=aae (g:=g) (n:=n) (q:=q) (ch:=ch) (m*q.a) i0;have h3:=aae (g:=g) (n:=n) (q:=q) (ch:=ch) (m*q.a+i0+1) (q.a-i0-1);rw[show m*q.a+i0+1+(q.a-i0-1)=(m+1)*q.a by rw[Nat.add_mul];omega]at h3;omega
theorem aoN{g n:Nat}{q:List Nat}{ch:Nat->Nat->Nat}{i0:Nat}(hi:i0<q.a)(hg:q.c i0 0=g):∃K,(jO g n q ch K).left=0/\∀j,j<K->(jO g n q ch j).left≠0:=by
 have h:∀m,(jO g n q ch (m*q.a)).left<=n-m:=by
  intro m
  induction m with
  | zero=>simp[jO]
  | succ m ih=>have:=aaf (n:=n) (ch:=ch) hi hg m;omega
 have hk:(jO g n q ch (n*q.a)).left=0:=by have:=h n;omega
 have:∀k,(∃j,j<=k/\(jO g n q ch j).left=0)->∃K,(jO g n q ch K).left=0/\∀j,j<K->(jO g n q ch j).left≠0:=by
  intro k
  induction k with
  | zero=>rintro⟨j,hj,h0⟩;obtain rfl:j=0:=by omega
          exact⟨0,h0,fun j h=>by omega⟩
  | succ k ih=>
    rintro⟨j,hj,h0⟩;by_cases hc:∃j,j<=k/\(jO g n q ch j).left=0
    ·exact ih hc
    ·exact⟨j,h0,fun t ht e=>hc ⟨t,by omega,e⟩⟩
 exact this _ ⟨_,av _,hk⟩
theorem ala{g n:Nat}{q:List Nat}{ch:Nat->Nat->Nat}(hq:0<q.a)(hf:acu n q.a ch):∀j,(∀t,t<j->(jO g n q ch t).left≠0)->aeV n q (jO g n q ch j)
 | 0,_=>⟨by simp[jO],by simp[jO],by simp[jO,Ir,List.countP_replicate],fun j hj=>.a (by simp[jO,au,hj])⟩
 | j+1,h=>(ala hq hf j fun t ht=>h t (by omega)).RG hf (h j (by omega)) (fH _ hq)
theorem acw(n:Int):0<=Iq n/\Iq n<=1099511627776:=by unfold Iq;(repeat' split)<;>omega
theorem alb{P:eG}{f:FuncId}{args:Array aB}{w:ak}{n:Nat}{v:aB}(h:aP P f args (w.drewN n) fun e w'=>e=.a v/\w.drewN n=w'):aP P f args (w.drewN n) fun e w''=>e=.a v/\∃m,w''=w.drewN m:=
 h.g fun _ _ ⟨he,hm⟩=>⟨he,n,hm.symm⟩
def J8(v:Vector Int 6):Array aB:=(v.a.map fun n=>.b .a n).b
def DC(s seen now:Int)(v:Vector Int 6):Bool:=decide (s<1\/5<s\/v.a.c s.e 0<Iq now-Iq seen)
theorem aag(v:Vector Int 6)(k:Nat)(hk:k<6):(J8 v)[k]? = some (.b .a (v.a.c k 0)):=by
 simp[J8,au,hk]
theorem aB6(a b:Nat)(ha:a<9223372036854775808):wrap64 ((a:Int)/(b:Int))=((a/b:Nat):Int):=by
 have:=J5 a b;rw[<-Int.natCast_ediv];generalize a/b=q at *;unfold wrap64;omega
section
variable (s seen now:Int) (v:Vector Int 6) (W:ak)
theorem aiy:aP ah 150 #[.b .a s,.b .a seen,.b .a now,.d (J8 v)] W (gD W (.e (DC s seen now v))):=by
 have HB:=ab ((aG W.a.j W).alloc (av _) (.D (J8 v) 24));have t1:=ab (acw now);have t2:=ab (acw seen);have C1:=fun W=>acr now W
 have C2:=fun W=>acr seen W
 by_cases hs:s<1\/5<s
 ·have H:=ab (show DC s seen now v=true by simp[DC];omega)
  go_enter Tryz.func150,Tryz.ntmps150;go_wp2
  all_goals first|(go_ret;exact⟨by rw[H.i];rfl,HB.i⟩)|(exfalso;simp_all)
 ·obtain⟨k,rfl⟩:∃k:Nat,s=k:=⟨s.e,by omega⟩
  have h1:¬(k:Int)<1:=by omega
  have h2:¬(5:Int)<k:=by omega
  have hg:=aag v k (by omega);have hk:(k:Int)<6:=by omega
  have H:=ab (show DC k seen now v=decide (v.a.c k 0<Iq now-Iq seen)from decide_eq_decide.2 ⟨fun h=>(h.resolve_left h1).resolve_left h2,fun h=>.b (.b h)⟩);generalize Iq now=p at *;generalize Iq seen=q at *;generalize v.a.c k 0=z at *;have hpq:wrap64 (p-q)=p-q:=by have:=t1.i;have:=t2.i;unfold wrap64;omega
  clear hs;go_enter Tryz.func150,Tryz.ntmps150;go_wp2_with fail;go_quiet (first|(go_at_call 217;with_reducible refine alb (C1 _))|(go_at_call 217;with_reducible refine alb (C2 _)));go_wp2;go_ret;exact⟨by rw[H.i];rfl,eH HB.i _⟩
theorem UC{n:Nat}(h:2<=n)(hall:∀e,2<=e->e*e<=n->n%e≠0):lH n=true:=by
 unfold lH;simp only[bl,gJ,eO,nu,decide_eq_true_eq];refine⟨h,fun d _=>?_⟩;by_cases h1:d<2
 ·exact .a (.a h1)
 ·by_cases h2:n<d*d
  ·exact .a (.b h2)
  ·exact .b (hall d (by omega) (by omega))
theorem Yd(n:Nat)(hn:n<=65537):aP ah 81 #[.b .a n] W fun e W'=>e=.a (.e (lH n))/\W=W':=by
 go_enter Tryz.func81,Tryz.ntmps81;by_cases h2:n<2
 ·have h2':(n:Int)<2:=by omega
  have hp:=ab (show lH n=false by simp[lH];omega);go_wp2;go_ret;exact⟨by rw[hp.i];rfl,rfl⟩
 have h2':¬(n:Int)<2:=by omega
 go_wp2;go_loop [3] (fun s3=>∃d:Nat,2<=d/\d<=n+1/\s3=.b .a d/\∀e,2<=e->e<d->n%e≠0) (fun s3=>n+1-(intOf s3).e)
 case atStart=>exact⟨2,by omega,by omega,rfl,fun e h1 h2=>by omega⟩
 case round=>
  obtain⟨d,hd,hdn,rfl,hall⟩:=hrel;have HA:=ab hall;clear hall;have hd0:¬(d:Int)=0:=by omega
  have hq:=aB6 n d (by omega);by_cases hle:d*d<=n
  ·have hle2:(d:Int)<=((n/d:Nat):Int):=by have:=(Nat.le_div_iff_mul_le (show 0<d by omega)).2 hle;omega
   by_cases hm:n%d=0
   ·have hm2:((n:Int)%(d:Int)==0)=true:=by rw[<-Hg,hm];rfl
    have H:=ab (show lH n=false by cases hp:lH n with
     | false=>rfl
     | true=>exact absurd hm (JG hp hd hle))
    clear hle hm;go_wp2;go_ret;exact⟨by rw[H.i];rfl,rfl⟩
   ·have hm2:((n:Int)%(d:Int)==0)=false:=by rw[<-Hg,beq_eq_false_iff_ne];omega
    have HL:=ab (show d<n+1 by have:=Nat.le_mul_self d;omega);have HM:=ab hm;clear hle hm;go_wp2;go_round
    case rel=>exact⟨d+1,by omega,by have:=HL.i;omega,by go_num,fun e h1 h2=>by
     rcases aY e d with h|h
     ·exact HA.i e h1 h
     ·rw[show e=d by omega];exact HM.i⟩
    case measure=>have:=HL.i;simp[intOf]<;>omega
  ·have hle2:¬(d:Int)<=((n/d:Nat):Int):=by have:=mt (Nat.le_div_iff_mul_le (show 0<d by omega)).1 hle;omega
   have H:=ab (show lH n=true from UC (by omega) fun e h1 h2=>HA.i e h1 (by
    rcases aY e d with h|h
    ·exact h
    ·have:=gU h h;omega))
   clear hle;go_wp2;go_ret;exact⟨by rw[H.i];rfl,rfl⟩
theorem aah(n:Nat)(hn:n<=65537):aP ah 69 #[.b .a n] W fun e W'=>e=.a (.e (lH n))/\W=W':=by
 go_enter Tryz.func69,Tryz.ntmps69;by_cases h2:n<2
 ·have h2':(n:Int)<2:=by omega
  have hp:=ab (show lH n=false by simp[lH];omega);go_wp2;go_ret;exact⟨by rw[hp.i];rfl,rfl⟩
 have h2':¬(n:Int)<2:=by omega
 go_wp2;go_loop [3] (fun s3=>∃d:Nat,2<=d/\d<=n+1/\s3=.b .a d/\∀e,2<=e->e<d->n%e≠0) (fun s3=>n+1-(intOf s3).e)
 case atStart=>exact⟨2,by omega,by omega,rfl,fun e h1 h2=>by omega⟩
 case round=>
  obtain⟨d,hd,hdn,rfl,hall⟩:=hrel;have HA:=ab hall;clear hall;have hd0:¬(d:Int)=0:=by omega
  have hq:wrap64 ((d:Int)*(d:Int))=((d*d:Nat):Int):=by
   have h1:d*d<=4295229444:=aO (gU (show d<=65538 by omega) (show d<=65538 by omega)) (by decide);rw[<-Int.natCast_mul];generalize d*d=q at h1 ⊢;unfold wrap64;omega
  by_cases hle:d*d<=n
  ·have hle2:((d*d:Nat):Int)<=(n:Int):=by omega
   by_cases hm:n%d=0
   ·have hm2:((n:Int)%(d:Int)==0)=true:=by rw[<-Hg,hm];rfl
    have H:=ab (show lH n=false by cases hp:lH n with
     | false=>rfl
     | true=>exact absurd hm (JG hp hd hle))
    clear hle hm;go_wp2;go_ret;exact⟨by rw[H.i];rfl,rfl⟩
   ·have hm2:((n:Int)%(d:Int)==0)=false:=by rw[<-Hg,beq_eq_false_iff_ne];omega
    have HL:=ab (show d<n+1 by have:=Nat.le_mul_self d;omega);have HM:=ab hm;clear hle hm;go_wp2;go_round
    case rel=>exact⟨d+1,by omega,by have:=HL.i;omega,by go_num,fun e h1 h2=>by
     rcases aY e d with h|h
     ·exact HA.i e h1 h
     ·rw[show e=d by omega];exact HM.i⟩
    case measure=>have:=HL.i;simp[intOf]<;>omega
  ·have hle2:¬((d*d:Nat):Int)<=(n:Int):=by omega
   have H:=ab (show lH n=true from UC (by omega) fun e h1 h2=>HA.i e h1 (by
    rcases aY e d with h|h
    ·exact h
    ·have:=gU h h;omega))
   clear hle;go_wp2;go_ret;exact⟨by rw[H.i];rfl,rfl⟩
end
section
variable {α κ:Type} [DecidableEq κ] (kf:α->κ) (hm:κ->Nat)
def yx(N z c:Nat):Nat:=(z+c)%N
theorem Bh{N z c:Nat}(h:0<N):yx N z c<N:=fH _ h
theorem wD{N a:Nat}(h:a<2*N):a%N=if a<N then a else a-N:=by
 split
 ·exact fP ‹_›
 ·rw[Nat.mod_eq_sub_mod (by omega),fP (by omega)]
theorem K8{N z c:Nat}(hz:z<N)(hc:c<N):yx N z c=if z+c<N then z+c else z+c-N:=wD (by omega)
def yA(N z i:Nat):Nat:=if z<=i then i-z else i+N-z
theorem Bj{N z i:Nat}(hz:z<N)(hi:i<N):yA N z i<N:=by unfold yA;split<;>omega
theorem wE{N z i:Nat}(hz:z<N)(hi:i<N):yx N z (yA N z i)=i:=by
 rw[K8 hz (Bj hz hi)];unfold yA;split<;>split<;>omega
theorem Mt{N z c:Nat}(hz:z<N)(hc:c<N):yA N z (yx N z c)=c:=by
 rw[K8 hz hc];unfold yA;split<;>split<;>omega
theorem JH{N z c d:Nat}(hz:z<N)(hc:c<N)(hd:d<N)(h:yx N z c=yx N z d):c=d:=by
 rw[<-Mt hz hc,<-Mt hz hd,h]
def fI(s:List (Option α))(i:Nat):Option α:=s.c i none
theorem Fy(s:List (Option α))(i j:Nat)(v:Option α)(hi:i<s.a):fI (s.set i v) j=if i=j then v else fI s j:=by
 unfold fI;rw[au,au,fJ];by_cases h:i=j
 ·subst h;simp[hi]
 ·simp[h]
def Lin(s:List (Option α))(z:Nat):Prop:=∀c x,c<s.a->fI s (yx s.a z c)=some x ->
 yA s.a z (hm (kf x))<=c/\∀q,yA s.a z (hm (kf x))<=q->q<c->fI s (yx s.a z q)≠none
structure Tab(s:List (Option α)):Prop where
 hom:∀k,hm k<s.a
 lin:∃z,z<s.a/\fI s z=none/\Lin kf hm s z
 uni:∀i j x y,i<s.a->j<s.a->fI s i=some x->fI s j=some y->kf x=kf y->i=j
def stops(s:List (Option α))(k:κ)(i:Nat):Bool:=match fI s i with|none=>true|some x=>decide (kf x=k)
variable {kf hm} {s:List (Option α)}
theorem Lin.asW(h0:∀k,hm k<s.a){z z':Nat}(hz:z<s.a)(hf:fI s z=none)(h:Lin kf hm s z)(hz':z'<s.a)(hf':fI s z'=none):Lin kf hm s z':=by
 intro c x hc hx;have hi:=Bh (N:=s.a) (z:=z') (c:=c) (by omega);generalize hI:yx s.a z' c=i at hx hi;have hc2:c=yA s.a z' i:=by rw[<-hI,Mt hz' hc]
 subst hc2;have hh:=h0 (kf x);obtain⟨h1,h2⟩:=h (yA s.a z i) x (Bj hz hi) (by rw[wE hz hi];exact hx);have hne:i≠z':=by rintro rfl;rw[hf']at hx;cases hx
 have hno:¬(yA s.a z (hm (kf x))<=yA s.a z z'/\yA s.a z z'<yA s.a z i):=fun⟨a,b⟩=>
  h2 _ a b (by rw[wE hz hz'];exact hf')
 have hne2:i≠z:=by rintro rfl;rw[hf]at hx;cases hx
 generalize hm (kf x)=y at *;have e1:yA s.a z' y<=yA s.a z' i:=by
  revert hno h1
  unfold yA
  repeat' split
  all_goals omega
 refine⟨e1,fun q hq1 hq2=>?_⟩;have hqN:q<s.a:=Nat.lt_trans hq2 (Bj hz' hi);have hj:=Bh (N:=s.a) (z:=z') (c:=q) (by omega);generalize hJ:yx s.a z' q=j at hj;have hq3:q=yA s.a z' j:=by rw[<-hJ,Mt hz' hqN]
 subst hq3
 have:=h2 (yA s.a z j) (by revert hno h1 hq1 hq2;unfold yA;repeat' split
                           all_goals omega) (by revert hno h1 hq1 hq2;unfold yA;repeat' split
                                                all_goals omega)
 rwa [wE hz hj]at this
def Found(hm:κ->Nat)(kf:α->κ)(s:List (Option α))(k:κ)(d:Nat):Prop:=d<s.a/\stops (kf:=kf) s k ((hm k+d)%s.a)=true/\∀t,t<d->stops (kf:=kf) s k ((hm k+t)%s.a)=false
theorem Mv{N z y q:Nat}(hz:z<N)(hy:y<N)(h1:yA N z y<=q)(hq:q<N):yx N z q=(y+(q-yA N z y))%N:=by
 rw[K8 hz hq,wD (by unfold yA at *;split at h1<;>omega)];unfold yA at *
 repeat' split
 all_goals(try split at h1)
 all_goals omega
theorem Tab.aai(h:Tab kf hm s){k:κ}{j:Nat}{x:α}(hj:j<s.a)(hx:fI s j=some x)(hk:kf x=k):∃d,Found hm kf s k d/\(hm k+d)%s.a=j:=by
 obtain⟨z,hz,hf,hl⟩:=h.lin;obtain⟨h1,h2⟩:=hl (yA s.a z j) x (Bj hz hj) (by rw[wE hz hj];exact hx);rw[hk]at h1 h2;have hy:=h.hom k;have hcj:=Bj hz hj;have ej:(hm k+(yA s.a z j-yA s.a z (hm k)))%s.a=j:=by rw[<-Mv hz hy h1 hcj,wE hz hj]
 refine⟨yA s.a z j-yA s.a z (hm k),⟨by omega,?_,fun t ht=>?_⟩,ej⟩
 ·rw[ej];simp[stops,hx,hk]
 ·have hq:yA s.a z (hm k)+t<yA s.a z j:=by omega
  have:=h2 (yA s.a z (hm k)+t) (by omega) hq;have e:=Mv hz hy (q:=yA s.a z (hm k)+t) (by omega) (by omega);rw[show yA s.a z (hm k)+t-yA s.a z (hm k)=t by omega]at e;rw[e]at this;cases hw:fI s ((hm k+t)%s.a)with
  | none=>exact absurd hw this
  | some y=>
    simp only[stops,hw,decide_eq_false_iff_not];intro hky;have hlt:(hm k+t)%s.a<s.a:=fH _ (by omega);have:=h.uni _ _ _ _ hlt hj hw hx (by rw[hky,hk]);rw[<-e,<-wE hz hj]at this;have:=JH hz (by omega) hcj this;omega
theorem Tab.agS(h:Tab kf hm s){k:κ}(hno:∀j x,j<s.a->fI s j=some x->kf x≠k):∃d,Found hm kf s k d/\fI s ((hm k+d)%s.a)=none:=by
 obtain⟨z,hz,hf,hl⟩:=h.lin;have hy:=h.hom k;have hN:0<s.a:=by omega
 have st:∀i,i<s.a->(stops (kf:=kf) s k i=true↔fI s i=none):=by
  intro i hi;unfold stops;cases hw:fI s i with
  | none=>simp
  | some x=>simpa using hno i x hi hw
 have ex:∃d,d<s.a/\stops (kf:=kf) s k ((hm k+d)%s.a)=true:=by
  have hd:(hm k+(if hm k<=z then z-hm k else z+s.a-hm k))%s.a=z:=by
   rw[wD (by split<;>omega)];repeat' split
   all_goals omega
  refine⟨if hm k<=z then z-hm k else z+s.a-hm k,by split<;>omega,?_⟩;rw[hd,st z hz];exact hf
 have least:∀n,(∃d,d<n/\d<s.a/\stops (kf:=kf) s k ((hm k+d)%s.a)=true)->∃d,d<s.a/\stops (kf:=kf) s k ((hm k+d)%s.a)=true/\∀t,t<d->stops (kf:=kf) s k ((hm k+t)%s.a)=false:=by
  intro n
  induction n with
  | zero=>rintro⟨d,hd,_⟩;omega
  | succ n ih=>
    rintro⟨d,hd,hd2,hd3⟩;by_cases hc:∃d,d<n/\d<s.a/\stops (kf:=kf) s k ((hm k+d)%s.a)=true
    ·exact ih hc
    ·refine⟨d,hd2,hd3,fun t ht=>?_⟩
     cases hs:stops (kf:=kf) s k ((hm k+t)%s.a)with
     | false=>rfl
     | true=>exact absurd ⟨t,by omega,by omega,hs⟩ hc
 obtain⟨d,hd⟩:=ex;obtain⟨e,e1,e2,e3⟩:=least s.a ⟨d,hd.1,hd.1,hd.2⟩;exact⟨e,⟨e1,e2,e3⟩,(st _ (fH _ hN)).1 e2⟩
theorem Found.GV{k:κ}{d e:Nat}(h:Found hm kf s k d)(g:Found hm kf s k e):d=e:=by
 rcases Nat.lt_trichotomy d e with h1|h1|h1
 ·have:=g.2.2 d h1;rw[h.2.1]at this;cases this
 ·exact h1
 ·have:=h.2.2 e h1;rw[g.2.1]at this;cases this
theorem Tab.found(h:Tab kf hm s)(k:κ):∃d,Found hm kf s k d:=by
 by_cases hc:∃j x,j<s.a/\fI s j=some x/\kf x=k
 ·obtain⟨j,x,h1,h2,h3⟩:=hc
  obtain⟨d,hd,_⟩:=h.aai h1 h2 h3;exact⟨d,hd⟩
 ·obtain⟨d,hd,_⟩:=h.agS (k:=k) (fun j x h1 h2 h3=>hc ⟨j,x,h1,h2,h3⟩)
  exact⟨d,hd⟩
theorem Tab.put(h:Tab kf hm s){x:α}{d:Nat}(hd:Found hm kf s (kf x) d){z':Nat}(hz':z'<s.a)(hfree:fI s z'=none)(hne:z'≠(hm (kf x)+d)%s.a):
 Tab kf hm (s.set ((hm (kf x)+d)%s.a) (some x)):=by
 obtain⟨z,hz,hf,hl⟩:=h.lin;have hl:=hl.asW h.hom hz hf hz' hfree;have hy:=h.hom (kf x);have hN:0<s.a:=by omega
 have hj:(hm (kf x)+d)%s.a<s.a:=fH _ hN;have hstop:=hd.2.1;have hbef:=hd.2.2;have hdl:=hd.1;generalize hJ:(hm (kf x)+d)%s.a=j at *;refine⟨by simpa using h.hom,⟨z',by simpa using hz',by rw[Fy _ _ _ _ hj,if_neg (jr hne)];exact hfree,?_⟩,?_⟩
 ·intro c y hc hyc
  simp only[aV]at hc hyc ⊢;have hkeep:∀q,fI s (yx s.a z' q)≠none->fI (s.set j (some x)) (yx s.a z' q)≠none:=by
   intro q hq;rw[Fy _ _ _ _ hj];split
   ·simp
   ·exact hq
  rw[Fy _ _ _ _ hj]at hyc;split at hyc
  ·rename_i hjc
   injection hyc with hyc;subst hyc
   have hcj:c=yA s.a z' j:=by rw[hjc,Mt hz' hc]
   have arx:∀t,t<d->fI s ((hm (kf x)+t)%s.a)≠none:=by
    intro t ht hn;have:=hbef t ht;simp[stops,hn]at this
   have hzd:∀t,t<=d->(hm (kf x)+t)%s.a≠z':=by
    intro t ht e;rcases aY t d with h1|h1
    ·exact arx t h1 (by rw[e];exact hfree)
    ·have:t=d:=by omega
     subst this;rw[hJ]at e;exact hne e.symm
   have hle:yA s.a z' (hm (kf x))+d<s.a:=by
    rcases aY (yA s.a z' (hm (kf x))+d) s.a with h1|h1
    ·exact h1
    ·exfalso
     have hlt:=Bj hz' hy;refine hzd (s.a-yA s.a z' (hm (kf x))) (by omega) ?_;rw[wD (by omega)];unfold yA at *
     repeat' split
     all_goals(repeat' split at *)
     all_goals omega
   have e1:yx s.a z' (yA s.a z' (hm (kf x))+d)=j:=by
    rw[Mv hz' hy (by omega) hle,<-hJ];congr 2;omega
   have e2:c=yA s.a z' (hm (kf x))+d:=JH hz' hc hle (by rw[e1,<-hjc]);refine⟨by omega,fun q h1 h2=>hkeep q ?_⟩;rw[Mv hz' hy h1 (by omega)];exact arx _ (by omega)
  ·obtain⟨a,b⟩:=hl c y hc hyc
   exact⟨a,fun q h1 h2=>hkeep q (b q h1 h2)⟩
 ·intro i k y w hi hk hyi hwk he
  simp only[aV]at hi hk;rw[Fy _ _ _ _ hj]at hyi hwk;have key:∀k w,k<s.a->fI s k=some w->kf w=kf x->k=j:=by
   intro k w hk hw he;obtain⟨e,he1,he2⟩:=h.aai hk hw he;have:=he1.GV hd;subst this;rw[<-he2,hJ]
  split at hyi<;>split at hwk
  ·omega
  ·injection hyi with hyi;subst hyi
   have:=key k w hk hwk he.symm;omega
  ·injection hwk with hwk;subst hwk
   have:=key i y hi hyi he;omega
  ·exact h.uni i k y w hi hk hyi hwk he
def ig(s:List (Option α)):List α:=s.filterMap id
theorem yT(s:List (Option α)):∀(i:Nat)(x:α),i<s.a->(ig (s.set i (some x))).Perm (x::ig (s.set i none)):=by
 induction s with
 | nil=>intro i x h;simp at h
 | cons a s ih=>
   intro i x h;cases i with
   | zero=>simp[ig]
   | succ i=>
     have:=ih i x (by simpa using h);cases a with
     | none=>simpa[ig]using this
     | some a=>
       simp only[ig,bH,List.filterMap_cons,id]at this ⊢;exact(this.cons a).trans (List.Perm.swap x a _)
theorem acy(s:List (Option α))(i:Nat)(hi:i<s.a):s.set i (fI s i)=s:=by
 apply iL;intro j;rw[fJ];split
 ·rename_i h;subst h;simp[hi,fI]
 ·rfl
theorem OZ(s:List (Option α))(i:Nat)(x:α)(hi:i<s.a)(hx:fI s i=some x):(ig s).Perm (x::ig (s.set i none)):=by
 have:=yT s i x hi
 rwa [<-hx,acy s i hi]at this
theorem K9(s:List (Option α))(i:Nat)(x:α)(hi:i<s.a)(hx:fI s i=none):(ig (s.set i (some x))).Perm (x::ig s):=by
 have:=yT s i x hi
 rwa [<-hx,acy s i hi]at this
theorem Pb{s:List (Option α)}{x:α}:x∈ig s↔∃i,i<s.a/\fI s i=some x:=by
 simp only[ig,List.mem_filterMap,id];constructor
 ·rintro⟨a,h1,rfl⟩
  obtain⟨i,hi,he⟩:=List.mem_iff_getElem.1 h1;exact⟨i,hi,by simp[fI,au,hi,he]⟩
 ·rintro⟨i,hi,he⟩
  refine⟨some x,?_,rfl⟩;rw[<-he];simp only[fI,au,aC hi,jB];exact eU hi
theorem alc(s:List (Option α)):(ig s).a<=s.a:=List.length_filterMap_le _ _
theorem La(s:List (Option α)):(ig s).a<s.a↔∃i,i<s.a/\fI s i=none:=by
 induction s with
 | nil=>simp[ig]
 | cons a s ih=>
   cases a with
   | none=>exact⟨fun _=>⟨0,by simp,by simp[fI]⟩,fun _=>by have:=alc s;simp[ig]at this⊢;omega⟩
   | some a=>
     have:(ig (some a::s)).a=(ig s).a+1:=by simp[ig]
     rw[this,bC];constructor
     ·intro h
      obtain⟨i,h1,h2⟩:=ih.1 (by omega);exact⟨i+1,by omega,by simpa[fI]using h2⟩
     ·rintro⟨i,h1,h2⟩
      cases i with
      | zero=>simp[fI]at h2
      | succ i=>
        have:=ih.2 ⟨i,by omega,by simpa[fI]using h2⟩;omega
structure Xk(kf:α->κ)(hm:κ->Nat)(z:Nat)(s:List (Option α))(a c:Nat)(L:List α):Prop where
 hom:∀k,hm k<s.a
 hz:z<s.a
 free:fI s z=none
 a0:0<a
 ac:a<c
 cN:c<=s.a
 lin:∀e x,e<s.a->e≠a->fI s (yx s.a z e)=some x->yA s.a z (hm (kf x))<=e/\∀q,yA s.a z (hm (kf x))<=q->q<e->(q≠a->fI s (yx s.a z q)≠none)/\(q=a->c<=e)
 acz:∀q,a<q->q<c->fI s (yx s.a z q)≠none
 uni:∀d e x y,d<s.a->e<s.a->d≠a->e≠a->fI s (yx s.a z d)=some x->fI s (yx s.a z e)=some y->kf x=kf y->d=e
 Pf:(ig (s.set (yx s.a z a) none)).Perm L
theorem Tab.aB7(h:Tab kf hm s){j:Nat}{x:α}(hj:j<s.a)(hx:fI s j=some x):∃z a,Xk kf hm z s a (a+1) (ig (s.set j none))/\yx s.a z a=j:=by
 obtain⟨z,hz,hf,hl⟩:=h.lin;have hne:j≠z:=by rintro rfl;rw[hf]at hx;cases hx
 have hlt:=Bj hz hj;have ej:=wE hz hj;refine⟨z,yA s.a z j,⟨h.hom,hz,hf,?_,by omega,by omega,?_,fun q h1 h2=>absurd h1 (by omega),?_,?_⟩,ej⟩
 ·unfold yA;split<;>omega
 ·intro e y he hea hy
  obtain⟨h1,h2⟩:=hl e y he hy;exact⟨h1,fun q h3 h4=>⟨fun _=>h2 q h3 h4,fun h5=>by omega⟩⟩
 ·intro d e y w hd he hda hea hy hw hk
  exact JH hz hd he (h.uni _ _ y w (Bh (by omega)) (Bh (by omega)) hy hw hk)
 ·rw[ej]
theorem UD{s:List (Option α)}{z a e:Nat}(hz:z<s.a)(ha:a<s.a)(he:e<s.a)(v:Option α):fI (s.set (yx s.a z a) v) (yx s.a z e)=if a=e then v else fI s (yx s.a z e):=by
 rw[Fy _ _ _ _ (Bh (by omega))];by_cases h:a=e
 ·subst h;simp
 ·rw[if_neg h,if_neg (fun e2=>h (JH hz ha he e2))]
theorem Xk.aB8{z a c:Nat}{L:List α}{x:α}(h:Xk kf hm z s a c L)(hc:c<s.a)(hx:fI s (yx s.a z c)=some x)(hlt:a<yA s.a z (hm (kf x))):Xk kf hm z s a (c+1) L:=by
 refine⟨h.hom,h.hz,h.free,h.a0,by have:=h.ac;omega,by omega,?_,?_,h.uni,h.Pf⟩
 ·intro e y he hea hy
  obtain⟨h1,h2⟩:=h.lin e y he hea hy;refine⟨h1,fun q h3 h4=>⟨(h2 q h3 h4).1,fun h5=>?_⟩⟩;have:=(h2 q h3 h4).2 h5;rcases aY c e with h6|h6
  ·omega
  ·have:e=c:=by omega
   subst this;rw[hx]at hy;injection hy with hy;subst hy
   omega
 ·intro q h1 h2
  rcases aY q c with h3|h3
  ·exact h.acz q h1 h3
  ·have:q=c:=by omega
   subst this;rw[hx];simp
theorem Xk.move{z a c:Nat}{L:List α}{x:α}(h:Xk kf hm z s a c L)(hc:c<s.a)(hx:fI s (yx s.a z c)=some x)(hle:yA s.a z (hm (kf x))<=a):Xk kf hm z (s.set (yx s.a z a) (some x)) c (c+1) L:=by
 have ha:a<s.a:=by have:=h.ac;omega
 have hac:=h.ac;have hz:=h.hz;have ca:∀e,e<s.a->∀v:Option α,fI (s.set (yx s.a z a) v) (yx s.a z e)=if a=e then v else fI s (yx s.a z e):=fun e he v=>UD hz ha he v
 have z0:yx s.a z 0=z:=by rw[K8 hz (by omega)];split<;>omega
 refine⟨by simpa using h.hom,by simpa using hz,?_,by omega,by omega,by simp;omega,?_,?_,?_,?_⟩
 ·have:=ca 0 (by omega) (some x)
  rw[z0,if_neg (by have:=h.a0;omega)]at this;rw[this];exact h.free
 ·intro e y he hec hy
  simp only[aV]at he hy ⊢;rw[ca e he]at hy;split at hy
  ·rename_i hae
   injection hy with hy;subst hy;subst hae
   refine⟨hle,fun q h3 h4=>⟨fun h5=>?_,fun h5=>by omega⟩⟩;rw[ca q (by omega),if_neg (by omega)];exact((h.lin c x hc (by omega) hx).2 q h3 (by omega)).1 (by omega)
  ·rename_i hae
   obtain⟨h1,h2⟩:=h.lin e y he (jr hae) hy;refine⟨h1,fun q h3 h4=>⟨fun h5=>?_,fun h5=>by omega⟩⟩;rw[ca q (by omega)];split
   ·simp
   ·exact(h2 q h3 h4).1 (by omega)
 ·intro q h1 h2;omega
 ·intro d e y w hd he hda hea hy hw hk
  simp only[aV]at hd he hy hw;rw[ca d hd]at hy;rw[ca e he]at hw;split at hy<;>split at hw
  ·omega
  ·injection hy with hy;subst hy
   have:=h.uni c e x w hc he (by omega) (by omega) hx hw hk;omega
  ·injection hw with hw;subst hw
   have:=h.uni d c y x hd hc (by omega) (by omega) hy hx hk;omega
  ·exact h.uni d e y w hd he (by omega) (by omega) hy hw hk
 ·have h1:=h.Pf
  have hci:=Bh (N:=s.a) (z:=z) (c:=c) (by omega);have hai:=Bh (N:=s.a) (z:=z) (c:=a) (by omega);have hne:yx s.a z a≠yx s.a z c:=fun e=>by have:=JH hz ha hc e;omega
  simp only[aV];rw[List.set_comm _ _ hne];refine List.Perm.trans (yT _ _ x (by simpa using hai)) ?_;rw[List.set_comm _ _ (jr hne)];refine List.Perm.trans (List.Perm.symm (OZ (s.set (yx s.a z a) none) _ x (by simpa using hci) ?_)) h1;rw[ca c hc,if_neg (by omega)];exact hx
theorem Xk.done{z a c:Nat}{L:List α}(h:Xk kf hm z s a c L)(hc:fI s (yx s.a z c)=none):Tab kf hm (s.set (yx s.a z a) none)/\(ig (s.set (yx s.a z a) none)).Perm L:=by
 have hcN:=h.cN;have hac:=h.ac;have ha:a<s.a:=by omega
 have hz:=h.hz;have ca:∀e,e<s.a->∀v:Option α,fI (s.set (yx s.a z a) v) (yx s.a z e)=if a=e then v else fI s (yx s.a z e):=fun e he v=>UD hz ha he v
 have z0:yx s.a z 0=z:=by rw[K8 hz (by omega)];split<;>omega
 refine⟨⟨by simpa using h.hom,⟨z,by simpa using hz,?_,?_⟩,?_⟩,h.Pf⟩
 ·have:=ca 0 (by omega) none
  rw[z0]at this;rw[this];split
  ·rfl
  ·exact h.free
 ·intro e y he hy
  simp only[aV]at he hy ⊢;rw[ca e he]at hy;split at hy
  ·cases hy
  ·rename_i hae
   obtain⟨h1,h2⟩:=h.lin e y he (jr hae) hy;refine⟨h1,fun q h3 h4=>?_⟩;rw[ca q (by omega)];have hqa:a≠q:=by
    intro hq;have h5:=(h2 q h3 h4).2 hq.symm;rcases aY c e with h6|h6
    ·exact(h2 c (by omega) h6).1 (by omega) hc
    ·have:e=c:=by omega
     subst this;rw[hc]at hy;cases hy
   rw[if_neg hqa];exact(h2 q h3 h4).1 (jr hqa)
 ·intro i k y w hi hk hy hw he
  simp only[aV]at hi hk;rw[<-wE hz hi,ca _ (Bj hz hi)]at hy;rw[<-wE hz hk,ca _ (Bj hz hk)]at hw;split at hy
  ·cases hy
  ·split at hw
   ·cases hw
   ·have:=h.uni _ _ y w (Bj hz hi) (Bj hz hk) (by omega) (by omega) hy hw he
    rw[<-wE hz hi,<-wE hz hk,this]
theorem acB{N z c d:Nat}(hz:z<N)(hd:d<=c)(hc:c<N):(yx N z c+N-yx N z d)%N=c-d:=by
 have h1:=Bh (N:=N) (z:=z) (c:=c) (by omega);have h2:=Bh (N:=N) (z:=z) (c:=d) (by omega);rw[wD (by omega)];rw[K8 hz hc,K8 hz (by omega)]
 repeat' split
 all_goals omega
theorem aiz{N z c y:Nat}(hz:z<N)(hy:y<N)(hd:yA N z y<=c)(hc:c<N):(yx N z c+N-y)%N=c-yA N z y:=by
 have:=acB hz hd hc
 rwa [wE hz hy]at this
theorem acC{N z c:Nat}(hz:z<N)(hc:c<N):(yx N z c+1)%N=yx N z (c+1):=by unfold yx;rw[Nat.mod_add_mod,mZ]
theorem Tab.new{N:Nat}(hN:0<N)(h:∀k,hm k<N):Tab kf hm (dX N (none:Option α)):=by
 have e:∀i,fI (dX N (none:Option α)) i=none:=by
  intro i;unfold fI;rw[au,List.getElem?_replicate];split<;>rfl
 refine⟨by simpa using h,⟨0,by simpa using hN,e 0,fun c x _ hx=>?_⟩,fun i j x y _ _ hx=>?_⟩<;>(rw[e]at hx;cases hx)
theorem UE(N:Nat):ig (dX N (none:Option α))=[]:=by induction N<;>simp_all[ig,List.replicate_succ]
end
section
variable {α:Type} (lt:α->α->Bool)
def Asc(l:List α):Prop:=l.Pairwise fun x y=>lt x y=true
structure Iu:Prop where
 irr:∀x,lt x x=false
 tr:∀x y z,lt x y=true->lt y z=true->lt x z=true
variable {lt}
theorem Iu.asy(h:Iu lt){x y:α}(h1:lt x y=true):lt y x=false:=by
 cases h2:lt y x with
 | false=>rfl
 | true=>have:=h.tr _ _ _ h1 h2;rw[h.irr]at this;cases this
theorem Asc.eq(h:Iu lt):∀{l m:List α},Asc lt l->Asc lt m->l.Perm m->l=m
 | [],m,_,_,p=>(List.Perm.nil_eq p)
 | x::l,[],_,_,p=>by simp at p
 | x::l,y::m,hl,hm,p=>by
   obtain⟨a1,a2⟩:=gN.1 hl;obtain⟨b1,b2⟩:=gN.1 hm;have hx:x∈y::m:=p.subset (by simp);have hy:y∈x::l:=p.symm.subset (by simp);have e:x=y:=by
    rcases bg.1 hx with hx|hx
    ·exact hx
    ·rcases bg.1 hy with hy|hy
     ·exact hy.symm
     ·have:=h.asy (a1 y hy);rw[b1 x hx]at this;cases this
   subst e;rw[Asc.eq h a2 b2 (List.Perm.cons_inv p)]
def ins(lt:α->α->Bool)(f:α):List α->List α
 | []=>[f]
 | x::l=>if lt f x then f::x::l else x::ins lt f l
theorem Bl(f:α):∀l:List α,(ins lt f l).Perm (f::l)
 | []=>.refl _
 | x::l=>by
   unfold ins;split
   ·exact .refl _
   ·exact((Bl f l).cons x).trans (.swap f x l)
theorem agT(h:Iu lt){f:α}:∀{l:List α},Asc lt l->(∀x∈l,lt f x=true\/lt x f=true)->Asc lt (ins lt f l)
 | [],_,_=>by simp[ins,Asc]
 | x::l,hl,ht=>by
   obtain⟨a1,a2⟩:=gN.1 hl;unfold ins;split
   ·rename_i hfx
    exact gN.2 ⟨fun y hy=>by
     rcases bg.1 hy with rfl|hy
     ·exact hfx
     ·exact h.tr _ _ _ hfx (a1 y hy),hl⟩
   ·rename_i hfx
    have hxf:lt x f=true:=(ht x (by simp)).resolve_left hfx;refine gN.2 ⟨fun y hy=>?_,agT h a2 fun y hy=>ht y (by simp[hy])⟩;rcases bg.1 ((Bl f l).subset hy)with rfl|hy
    ·exact hxf
    ·exact a1 y hy
theorem acD{f:α}:∀{l:List α},(∀x∈l,lt f x=false)->ins lt f l=l++[f]
 | [],_=>rfl
 | x::l,h=>by
   unfold ins;rw[if_neg (by rw[h x (by simp)];exact Bool.false_ne_true),acD fun y hy=>h y (by simp[hy])];rfl
theorem Asc.sub{l m:List α}(h:Asc lt l)(hs:m.Sublist l):Asc lt m:=List.Pairwise.sublist hs h
theorem Asc.aoP{x:α}{l:List α}(h:Asc lt (x::l)){y:α}(hy:y∈l):lt x y=true:=(gN.1 h).1 y hy
def least(lt:α->α->Bool)(b:Option α)(x:α):Option α:=match b with|none=>some x|some y=>if lt x y then some x else some y
theorem acE(h:Iu lt){m:α}:∀(l:List α)(b:Option α),(m∈l\/b=some m)->(∀x∈l,x=m\/lt m x=true)->(∀y,b=some y->y=m\/lt m y=true)->l.foldl (least lt) b=some m
 | [],b,h1,_,_=>by simpa using h1
 | x::l,b,h1,h2,h3=>by
   rw[jW];refine acE h l _ ?_ (fun y hy=>h2 y (by simp[hy])) ?_
   ·rcases h1 with h1|rfl
    ·rcases bg.1 h1 with rfl|h1
     ·right
      cases b with
      | none=>rfl
      | some y=>
        unfold least;rcases h3 y rfl with rfl|h4
        ·simp
        ·simp[h4]
     ·exact .a h1
    ·right
     unfold least;rcases h2 x (by simp)with rfl|h4
     ·simp
     ·simp[h.asy h4]
   ·intro y hy
    cases b with
    | none=>injection hy with hy;subst hy;exact h2 x (by simp)
    | some z=>
      simp only[least]at hy;split at hy<;>(injection hy with hy;subst hy)
      ·exact h2 x (by simp)
      ·exact h3 z rfl
end
def Ld(x k:Nat):Nat:=x*2^k%18446744073709551616 ||| x/2^(64-k)
theorem axe(a b:Nat)(ha:a<18446744073709551616)(hb:b<18446744073709551616):a ||| b<18446744073709551616:=Nat.or_lt_two_pow (n:=64) ha hb
theorem xP(a b:Nat)(ha:a<18446744073709551616)(hb:b<18446744073709551616):a ^^^ b<18446744073709551616:=Nat.xor_lt_two_pow (n:=64) ha hb
theorem aoQ(x k:Nat)(hx:x<18446744073709551616):Ld x k<18446744073709551616:=axe _ _ (fH _ (by decide)) (Nat.lt_of_le_of_lt (J5 _ _) hx)
theorem acG(n:Nat):jy.wrap (n:Int)=((n%18446744073709551616:Nat):Int):=by
 rw[jU];omega
theorem aiA(x k:Nat)(hx:x<18446744073709551616):bits .or .c (jy.wrap ((x:Int)*2^k)) ((x:Int)/2^(64-k))=((Ld x k:Nat):Int):=by
 have h1:(x:Int)*2^k=((x*2^k:Nat):Int):=by simp
 have h2:(x:Int)/2^(64-k)=((x/2^(64-k):Nat):Int):=by simp
 rw[h1,h2,acG,bits_or_u64_nat _ _ (fH _ (by decide)) (Nat.lt_of_le_of_lt (J5 _ _) hx)];rfl
theorem Ef(x k:Nat)(hx:x<18446744073709551616)(hk:k∈[13,16,17,21,32])(W:ak):aP ah 254 #[.b .c x,.b .a k] W fun e W'=>e=.a (.b .c (Ld x k:Nat))/\W=W':=by
 have h:=aiA x k hx;have H1:bits .and .c (k:Int) 63=(k:Int):=(by decide +kernel:∀k∈([13,16,17,21,32]:List Nat),bits .and .c (k:Int) 63=(k:Int)) k hk;have H2:jy.wrap (64-(k:Int))=((64-k:Nat):Int):=(by decide +kernel:∀k∈([13,16,17,21,32]:List Nat),jy.wrap (64-(k:Int))=((64-k:Nat):Int)) k hk;have hk1:(k:Int)<64:=by simp at hk;omega
 have hk2:0<k:=by simp at hk;omega
 go_enter Tryz.func254,Tryz.ntmps254;go_wp2;go_ret;exact⟨by rw[<-h];rfl,rfl⟩
structure S4 where
 a:Nat
 b:Nat
 c:Nat
 d:Nat
def S4.ay(s:S4):Array aB:=#[.b .c s.a,.b .c s.b,.b .c s.c,.b .c s.d]
@[go_sem]theorem S4.qw(s:S4):s.ay[0]? = some (.b .c s.a):=rfl
@[go_sem]theorem S4.Gu(s:S4):s.ay[1]? = some (.b .c s.b):=rfl
@[go_sem]theorem S4.XL(s:S4):s.ay[2]? = some (.b .c s.c):=rfl
@[go_sem]theorem S4.agU(s:S4):s.ay[3]? = some (.b .c s.d):=rfl
def S4.Z(s:S4):Prop:=s.a<18446744073709551616/\s.b<18446744073709551616/\s.c<18446744073709551616/\s.d<18446744073709551616
def addN(a b:Nat):Nat:=(a+b)%18446744073709551616
def J9(s:S4):S4:=
 let a:=addN s.a s.b
 let b:=Ld s.b 13 ^^^ a
 let a:=Ld a 32
 let c:=addN s.c s.d
 let d:=Ld s.d 16 ^^^ c
 let a:=addN a d
 let d:=Ld d 21 ^^^ a
 let c:=addN c b
 let b:=Ld b 17 ^^^ c
 ⟨a,b,Ld c 32,d⟩
theorem aoR(a b:Nat):addN a b<18446744073709551616:=fH _ (by decide)
theorem Fz(a b:Nat):jy.wrap ((a:Int)+(b:Int))=((addN a b:Nat):Int):=by rw[<-Int.natCast_add,acG];rfl
theorem pK(a b:Nat)(ha:a<18446744073709551616)(hb:b<18446744073709551616):bits .xor .c (a:Int) (b:Int)=((a ^^^ b:Nat):Int):=bits_xor_u64_nat _ _ ha hb
theorem Ye(s:S4)(h:s.Z):∃a1 b1 a2 c1 d1 a3 d2 c2 b2 c3 r13 r16 r21 r17:Nat,J9 s=⟨a3,b2,c3,d2⟩ /\
 jy.wrap ((s.a:Int)+(s.b:Int))=(a1:Int)/\a1<18446744073709551616/\Ld s.b 13=r13/\bits .xor .c (r13:Int) (a1:Int)=(b1:Int)/\b1<18446744073709551616/\Ld a1 32=a2/\a2<18446744073709551616 /\
 jy.wrap ((s.c:Int)+(s.d:Int))=(c1:Int)/\c1<18446744073709551616/\Ld s.d 16=r16/\bits .xor .c (r16:Int) (c1:Int)=(d1:Int)/\d1<18446744073709551616 /\
 jy.wrap ((a2:Int)+(d1:Int))=(a3:Int)/\a3<18446744073709551616/\Ld d1 21=r21/\bits .xor .c (r21:Int) (a3:Int)=(d2:Int)/\d2<18446744073709551616 /\
 jy.wrap ((c1:Int)+(b1:Int))=(c2:Int)/\c2<18446744073709551616/\Ld b1 17=r17/\bits .xor .c (r17:Int) (c2:Int)=(b2:Int)/\b2<18446744073709551616/\Ld c2 32=c3/\c3<18446744073709551616:=by
 obtain⟨h1,h2,h3,h4⟩:=h;have R:=aoQ;have A:=aoR;have X:=xP;refine⟨_,_,_,_,_,_,_,_,_,_,_,_,_,_,rfl,Fz _ _,A _ _,rfl,pK _ _ (R _ _ h2) (A _ _),X _ _ (R _ _ h2) (A _ _),rfl,R _ _ (A _ _),Fz _ _,A _ _,rfl,pK _ _ (R _ _ h4) (A _ _),X _ _ (R _ _ h4) (A _ _),Fz _ _,A _ _,rfl,
  pK _ _ (R _ _ (X _ _ (R _ _ h4) (A _ _))) (A _ _),X _ _ (R _ _ (X _ _ (R _ _ h4) (A _ _))) (A _ _),Fz _ _,A _ _,rfl,pK _ _ (R _ _ (X _ _ (R _ _ h2) (A _ _))) (A _ _),X _ _ (R _ _ (X _ _ (R _ _ h2) (A _ _))) (A _ _),rfl,R _ _ (A _ _)⟩
theorem dK.num{W:ak}{p:Nat}{s:S4}(h:dK W p s.ay):W.b ⟨p,0,none⟩=some (.b .c s.a)/\W.b ⟨p,1,none⟩=some (.b .c s.b)/\W.b ⟨p,2,none⟩=some (.b .c s.c)/\W.b ⟨p,3,none⟩=some (.b .c s.d)/\(∀j,W.frozen? ⟨p,j,none⟩=false):=by
 obtain⟨h1,h2,_⟩:=h.K;exact⟨h1 0,h1 1,h1 2,h1 3,h2⟩
def zC{α:Type}(f:α->α):Nat->α->α
 | 0,s=>s
 | n+1,s=>zC f n (f s)
theorem agV{α:Type}(f:α->α)(n:Nat)(s:α):zC f (n+1) s=zC f n (f s):=rfl
theorem agW{α:Type}(f:α->α)(s:α):zC f 0 s=s:=rfl
theorem agX(s:S4)(h:s.Z):(J9 s).Z:=by
 obtain⟨a1,b1,a2,c1,d1,a3,d2,c2,b2,c3,r13,r16,r21,r17,h0,e1,l1,e2,e3,l3,e4,l4,e5,l5,e6,e7,l7,e8,l8,e9,e10,l10,e11,l11,e12,e13,l13,e14,l14⟩:=Ye s h;rw[h0];exact⟨l8,l13,l14,l10⟩
theorem agY(w:ak)(row:Option Nat):w.d w row:=⟨rfl,rfl,rfl,av _,fun _ _ _=>rfl⟩
theorem dK.p0{W:ak}{p a b c d:Nat}(h:dK W p (S4.mk a b c d).ay)(x:Nat):dK (W.F ⟨p,0,none⟩ (.b .c x)) p (S4.mk x b c d).ay:=h.eF 0 _
theorem dK.p1{W:ak}{p a b c d:Nat}(h:dK W p (S4.mk a b c d).ay)(x:Nat):dK (W.F ⟨p,1,none⟩ (.b .c x)) p (S4.mk a x c d).ay:=h.eF 1 _
theorem dK.p2{W:ak}{p a b c d:Nat}(h:dK W p (S4.mk a b c d).ay)(x:Nat):dK (W.F ⟨p,2,none⟩ (.b .c x)) p (S4.mk a b x d).ay:=h.eF 2 _
theorem dK.p3{W:ak}{p a b c d:Nat}(h:dK W p (S4.mk a b c d).ay)(x:Nat):dK (W.F ⟨p,3,none⟩ (.b .c x)) p (S4.mk a b c x).ay:=h.eF 3 _
theorem aeW(n:Nat)(hn:n<=4)(p:Nat)(s:S4)(hs:s.Z)(W:ak)(hb:dK W p s.ay):aP ah 183 #[.c (some ⟨p,0,none⟩),.b .a n] W fun e W'=>e=.a (.J #[])/\dK W' p (zC J9 n s).ay/\W.d W' (some p):=by
 have HB:=ab hb;clear hb;go_enter Tryz.func183,Tryz.ntmps183;go_wp2;go_loopw [5] (fun s5 wr=>∃(k:Nat)(x:S4),k<=n/\s5=.b .a k/\x.Z/\dK wr p x.ay/\W.d wr (some p)/\zC J9 n s=zC J9 (n-k) x) (fun s5 _=>n-(intOf s5).e)
 case atStart=>exact⟨0,s,by omega,rfl,hs,HB.i,agY _ _,by rw[Nat.sub_zero]⟩
 case round=>
  obtain⟨k,x,hk,rfl,hx,hbx,hg,xE⟩:=hrel;have HI:=ab xE;have HG:=ab hg;have HX:=ab hbx;clear hg xE hbx;by_cases hlt:k<n
  ·obtain⟨a1,b1,a2,c1,d1,a3,d2,c2,b2,c3,r13,r16,r21,r17,h0,e1,l1,e2,e3,l3,e4,l4,e5,l5,e6,e7,l7,e8,l8,e9,e10,l10,e11,l11,e12,e13,l13,e14,l14⟩:=Ye x hx
   have HE:=ab (show zC J9 n s=zC J9 (n-(k+1)) (J9 x)by rw[HI.i,show n-k=n-(k+1)+1 by omega,agV]);rw[h0]at HE;have OK:=ab (show(S4.mk a3 b2 c3 d2).Z by rw[<-h0];exact agX x hx);obtain⟨a,b,c,d⟩:=x;obtain⟨y1,y2,y3,y4,y5⟩:=HX.i.num;obtain⟨k1,k2,k3,k4⟩:=hx;simp only at e1 e2 e3 e4 e5 e6 e7 e8 e9 e10 e11 e12 e13 e14 y1 y2 y3 y4 k1 k2 k3 k4;have hlt2:(k:Int)<n:=by omega
   clear h0 HI;go_wp2_with fail;go_region;have X0:=ab ((HX.i.p0 a1).drew);have G0:=ab (Aj (xK HG.i (p:=⟨p,0,none⟩) (.a rfl) (.b .c (a1:Nat))));generalize(wr.F ⟨p,0,none⟩ (.b .c (a1:Nat))).drew=w0 at X0 G0 ⊢;clear y1 y2 y3 y4 y5 HX HG;obtain⟨y1,y2,y3,y4,y5⟩:=X0.i.num;simp only at y1 y2 y3 y4;have C:=ab (fun W=>e2 ▸ Ef b 13 k2 (by simp) W);go_wp2_with fail;go_cut []from 18 to 30 (fun wx=>dK wx p (S4.mk a1 b1 c d).ay/\W.d wx (some p))
   case first=>
    go_region_law (first|(go_simp;(go_at_call 254;refine(C.i _).g ?_;rintro e w' ⟨rfl,rfl⟩)))
    all_goals
     go_wp2_with fail;go_meet
     case rel=>exact⟨(X0.i.p1 b1).drew,Aj (xK G0.i (p:=⟨p,1,none⟩) (.a rfl) (.b .c (b1:Nat)))⟩
   obtain⟨X1,G1⟩:=hcut;have X1:=ab X1;have G1:=ab G1;generalize wc=w1 at X1 G1 ⊢;clear y1 y2 y3 y4 y5 X0 G0;obtain⟨y1,y2,y3,y4,y5⟩:=X1.i.num;simp only at y1 y2 y3 y4;have C:=ab (fun W=>e4 ▸ Ef a1 32 l1 (by simp) W);go_wp2_with (go_at_call 254;refine(C.i _).g ?_;rintro e w' ⟨rfl,rfl⟩);have X2:=ab ((X1.i.p0 a2));have G2:=ab ((xK G1.i (p:=⟨p,0,none⟩) (.a rfl) (.b .c (a2:Nat))));generalize(w1.F ⟨p,0,none⟩ (.b .c (a2:Nat)))=w2 at X2 G2 ⊢;clear y1 y2 y3 y4 y5 X1 G1;obtain⟨y1,y2,y3,y4,y5⟩:=X2.i.num;simp only at y1 y2 y3 y4;go_wp2_with fail;go_region;have X3:=ab ((X2.i.p2 c1).drew);have G3:=ab (Aj (xK G2.i (p:=⟨p,2,none⟩) (.a rfl) (.b .c (c1:Nat))));generalize(w2.F ⟨p,2,none⟩ (.b .c (c1:Nat))).drew=w3 at X3 G3 ⊢;clear y1 y2 y3 y4 y5 X2 G2;obtain⟨y1,y2,y3,y4,y5⟩:=X3.i.num;simp only at y1 y2 y3 y4;have C:=ab (fun W=>e6 ▸ Ef d 16 k4 (by simp) W);go_wp2_with fail;go_cut []from 50 to 62 (fun wx=>dK wx p (S4.mk a2 b1 c1 d1).ay/\W.d wx (some p))
   case first=>
    go_region_law (first|(go_simp;(go_at_call 254;refine(C.i _).g ?_;rintro e w' ⟨rfl,rfl⟩)))
    all_goals
     go_wp2_with fail;go_meet
     case rel=>exact⟨(X3.i.p3 d1).drew,Aj (xK G3.i (p:=⟨p,3,none⟩) (.a rfl) (.b .c (d1:Nat)))⟩
   obtain⟨X4,G4⟩:=hcut;have X4:=ab X4;have G4:=ab G4;generalize wc=w4 at X4 G4 ⊢;clear y1 y2 y3 y4 y5 X3 G3;obtain⟨y1,y2,y3,y4,y5⟩:=X4.i.num;simp only at y1 y2 y3 y4;go_wp2_with fail;go_region;have X5:=ab ((X4.i.p0 a3).drew);have G5:=ab (Aj (xK G4.i (p:=⟨p,0,none⟩) (.a rfl) (.b .c (a3:Nat))));generalize(w4.F ⟨p,0,none⟩ (.b .c (a3:Nat))).drew=w5 at X5 G5 ⊢;clear y1 y2 y3 y4 y5 X4 G4;obtain⟨y1,y2,y3,y4,y5⟩:=X5.i.num;simp only at y1 y2 y3 y4;have C:=ab (fun W=>e9 ▸ Ef d1 21 l7 (by simp) W);go_wp2_with fail;go_cut []from 74 to 86 (fun wx=>dK wx p (S4.mk a3 b1 c1 d2).ay/\W.d wx (some p))
   case first=>
    go_region_law (first|(go_simp;(go_at_call 254;refine(C.i _).g ?_;rintro e w' ⟨rfl,rfl⟩)))
    all_goals
     go_wp2_with fail;go_meet
     case rel=>exact⟨(X5.i.p3 d2).drew,Aj (xK G5.i (p:=⟨p,3,none⟩) (.a rfl) (.b .c (d2:Nat)))⟩
   obtain⟨X6,G6⟩:=hcut;have X6:=ab X6;have G6:=ab G6;generalize wc=w6 at X6 G6 ⊢;clear y1 y2 y3 y4 y5 X5 G5;obtain⟨y1,y2,y3,y4,y5⟩:=X6.i.num;simp only at y1 y2 y3 y4;go_wp2_with fail;go_region;have X7:=ab ((X6.i.p2 c2).drew);have G7:=ab (Aj (xK G6.i (p:=⟨p,2,none⟩) (.a rfl) (.b .c (c2:Nat))));generalize(w6.F ⟨p,2,none⟩ (.b .c (c2:Nat))).drew=w7 at X7 G7 ⊢;clear y1 y2 y3 y4 y5 X6 G6;obtain⟨y1,y2,y3,y4,y5⟩:=X7.i.num;simp only at y1 y2 y3 y4;have C:=ab (fun W=>e12 ▸ Ef b1 17 l3 (by simp) W);go_wp2_with fail;go_cut []from 98 to 110 (fun wx=>dK wx p (S4.mk a3 b2 c2 d2).ay/\W.d wx (some p))
   case first=>
    go_region_law (first|(go_simp;(go_at_call 254;refine(C.i _).g ?_;rintro e w' ⟨rfl,rfl⟩)))
    all_goals
     go_wp2_with fail;go_meet
     case rel=>exact⟨(X7.i.p1 b2).drew,Aj (xK G7.i (p:=⟨p,1,none⟩) (.a rfl) (.b .c (b2:Nat)))⟩
   obtain⟨X8,G8⟩:=hcut;have X8:=ab X8;have G8:=ab G8;generalize wc=w8 at X8 G8 ⊢;clear y1 y2 y3 y4 y5 X7 G7;obtain⟨y1,y2,y3,y4,y5⟩:=X8.i.num;simp only at y1 y2 y3 y4;have C:=ab (fun W=>e14 ▸ Ef c2 32 l11 (by simp) W);go_wp2_with (go_at_call 254;refine(C.i _).g ?_;rintro e w' ⟨rfl,rfl⟩);have X9:=ab ((X8.i.p2 c3));have G9:=ab ((xK G8.i (p:=⟨p,2,none⟩) (.a rfl) (.b .c (c3:Nat))));generalize(w8.F ⟨p,2,none⟩ (.b .c (c3:Nat)))=w9 at X9 G9 ⊢;clear y1 y2 y3 y4 y5 X8 G8;go_wp2;go_roundw
   case rel=>exact⟨k+1,_,by omega,by go_num,OK.i,X9.i,G9.i,HE.i⟩
   case measure=>simp[intOf]<;>omega
  ·have hlt2:¬(k:Int)<n:=by omega
   obtain rfl:k=n:=by omega
   have HI:=ab (show zC J9 k s=x by rw[HI.i,Nat.sub_self,agW]);go_wp2;go_end0;exact⟨rfl,by rw[HI.i];exact HX.i,HG.i⟩
def leN(l:List UInt8):Nat:=oG l.reverse
theorem aeX(l:List UInt8):leN l<256^l.a:=by have:=Jz l.reverse;rwa [List.length_reverse]at this
theorem JI(l:List UInt8)(h:l.a<=8):leN l<18446744073709551616:=eY (aeX l) (nK (by decide) h:256^l.a<=256^8)
def Pg:Nat->List UInt8->Nat->List Nat
 | 0,l,e=>[leN l+e*72057594037927936]
 | k+1,l,e=>leN (l.d 8)::Pg k (l.f 8) e
def asY(s:S4)(n:Nat):S4:=⟨s.a ^^^ n,s.b,s.c,s.d⟩
def ald(s:S4)(n:Nat):S4:=⟨s.a,s.b,s.c,s.d ^^^ n⟩
def ale(s:S4)(n:Nat):S4:=⟨s.a,s.b,s.c ^^^ n,s.d⟩
def asZ(s:S4):Nat:=s.a ^^^ s.b ^^^ s.c ^^^ s.d
def UF(s:S4)(n:Nat):S4:=asY (zC J9 2 (ald s n)) n
def aoS(k:Vector UInt8 16):S4:=⟨leN (k.a.d 8) ^^^ 8317987319222330741,leN (k.a.f 8) ^^^ 7237128888997146477,leN (k.a.d 8) ^^^ 7816392313619706465,leN (k.a.f 8) ^^^ 8387220255154660723⟩
def alf(s:S4):Nat:=asZ (zC J9 4 (ale s 255))
def xQ(k:Vector UInt8 16)(l:List UInt8):Nat:=alf ((Pg (l.a/8) l (l.a%256)).foldl UF (aoS k))
theorem Mw(n:Nat):∀s:S4,s.Z->(zC J9 n s).Z:=by
 induction n with
 | zero=>intro s h;rw[agW];exact h
 | succ n ih=>intro s h;rw[agV];exact ih _ (agX s h)
theorem aoT{s:S4}(h:s.Z){n:Nat}(hn:n<18446744073709551616):(asY s n).Z:=⟨xP _ _ h.1 hn,h.2.1,h.2.2.1,h.2.2.2⟩
theorem agZ{s:S4}(h:s.Z){n:Nat}(hn:n<18446744073709551616):(ald s n).Z:=⟨h.1,h.2.1,h.2.2.1,xP _ _ h.2.2.2 hn⟩
theorem aak{s:S4}(h:s.Z){n:Nat}(hn:n<18446744073709551616):(ale s n).Z:=⟨h.1,h.2.1,xP _ _ h.2.2.1 hn,h.2.2.2⟩
theorem aoU{s:S4}(h:s.Z):asZ s<18446744073709551616:=xP _ _ (xP _ _ (xP _ _ h.1 h.2.1) h.2.2.1) h.2.2.2
theorem aal{s:S4}(h:s.Z){n:Nat}(hn:n<18446744073709551616):(UF s n).Z:=aoT (Mw 2 _ (agZ h hn)) hn
theorem ag0(k:Vector UInt8 16):(aoS k).Z:=by
 have h1:=JI (k.a.d 8) (by simp);have h2:=JI (k.a.f 8) (by simp);exact⟨xP _ _ h1 (by decide),xP _ _ h2 (by decide),xP _ _ h1 (by decide),xP _ _ h2 (by decide)⟩
theorem Yf:∀(k:Nat)(l:List UInt8)(e:Nat),l.a/8=k->e<256->∀n∈Pg k l e,n<18446744073709551616
 | 0,l,e,h,he,n,hn=>by
   have h1:=aeX l;have h2:256^l.a<=256^7:=nK (by decide) (by omega);simp only[Pg,List.mem_singleton]at hn;omega
 | k+1,l,e,h,he,n,hn=>by
   rcases bg.1 hn with rfl|hn
   ·exact JI _ (by simp;omega)
   ·exact Yf k (l.f 8) e (by simp;omega) he n hn
def aam(w:ak)(B:Nat)(A:Option aT)(n:Nat)(ls:List (List UInt8)):Prop:=Rd w B 1 A n (ls.map fun s=>.g (bT s))
theorem aam.len{w:ak}{B n:Nat}{A:Option aT}{ls:List (List UInt8)}(h:aam w B A n ls):ls.a=n:=by have:=h.1;simpa using this
theorem aam.fI{w:ak}{B n:Nat}{A:Option aT}{ls:List (List UInt8)}(h:aam w B A n ls){k:Nat}(hk:k<n):∃a,A=some a/\a.block<B/\w.b (a.add k)=some (.g (bT (ls.c k []))):=by
 obtain⟨a,u,e,hb,hu,hc⟩:=Rd.pick h hk;refine⟨a,e,hb,?_⟩;rw[hc];have hl:=h.len;rw[jk,aC (by omega)]at hu;simp only[lV,qV]at hu;rw[<-hu,au,aC (by omega)];rfl
def xq(ls:List (List UInt8))(s:List UInt8):Bool:=(dP ls.a).any fun i=>ls.c i []==s
theorem alg{ls:List (List UInt8)}{s:List UInt8}{i:Nat}(hi:i<ls.a)(h:ls.c i []=s):xq ls s=true:=by
 unfold xq;rw[List.any_eq_true];exact⟨i,eO.2 hi,by rw[h];simp⟩
theorem alh{ls:List (List UInt8)}{s:List UInt8}(h:∀i,i<ls.a->ls.c i []≠s):xq ls s=false:=by
 unfold xq;rw[List.any_eq_false];intro i hi;simpa using h i (eO.1 hi)
theorem aeY(ls:List (List UInt8))(s:List UInt8)(A:Option aT)(c:Nat)(w:ak)(hR:aam w w.a.j A ls.a ls)(hn:ls.a<4611686018427387904):
 aP ah 172 #[.a A ls.a c,.g (bT s)] w fun e w'=>∃r:Int,e=.a (.b .a r)/\decide (0<=r)=xq ls s/\w=w':=by
 have HR:=ab hR;clear hR;obtain⟨n,hnl⟩:=cB ls.a;rw[<-hnl]at HR hn ⊢;have HN:=ab hnl;clear hnl;go_enter Tryz.func172,Tryz.ntmps172;go_wp2;go_loop [8] (fun s8=>∃i:Nat,i<=n/\s8=.b .a i/\∀k,k<i->ls.c k []≠s) (fun s8=>n-(intOf s8).e)
 case atStart=>exact⟨0,by omega,rfl,fun k hk=>by omega⟩
 case round=>
  obtain⟨i,hin,rfl,hno⟩:=hrel;have Fh:=ab hno;clear hno;by_cases hlt:i<n
  ·have hi:(i:Int)<n:=by omega
   obtain⟨a,rfl,hbb,hc⟩:=HR.i.fI hlt;clear hbb;obtain⟨pn,hp⟩:=cB (ls.c i []);rw[<-hp]at hc;have HP:=ab hp;clear hp;by_cases hq:pn=s
   ·have hbq:(s==pn)=true:=by rw[hq];simp
    have hpos:xq ls s=true:=alg (i:=i) (by have:=HN.i;omega) (by rw[<-HP.i,hq]);have UG:=ab hpos;clear hpos hq;go_wp2;go_ret;exact⟨_,rfl,by rw[UG.i];simp,rfl⟩
   ·have hbq:(s==pn)=false:=by simpa using(fun h:s=pn=>hq h.symm)
    have HQ:=ab hq;clear hq;go_wp2;go_round
    case rel=>exact⟨i+1,by omega,by go_num,fun k hk=>by
     by_cases hki:k=i
     ·rw[hki,<-HP.i];exact HQ.i
     ·exact Fh.i k (by omega)⟩
    case measure=>simp[intOf]<;>omega
  ·obtain rfl:i=n:=by omega
   have hpos:xq ls s=false:=alh (fun k hk=>Fh.i k (by have:=HN.i;omega));have UG:=ab hpos;clear hpos;have hd:decide ((i:Int)<i)=false:=by simp
   go_wp2;go_ret;exact⟨_,rfl,by rw[UG.i];simp,rfl⟩
theorem Mx(ls:List (List UInt8))(s:List UInt8)(A:Option aT)(c:Nat)(w:ak)(hR:aam w w.a.j A ls.a ls)(hn:ls.a<4611686018427387904):
 aP ah 87 #[.a A ls.a c,.g (bT s)] w fun e w'=>e=.a (.e (xq ls s))/\w=w':=by
 have HR:=ab hR;clear hR;go_enter Tryz.func87,Tryz.ntmps87;go_wp2_with (go_at_call 172;refine(aeY ls s A c _ HR.i hn).g ?_;rintro e w' ⟨r,rfl,hr,rfl⟩;have HD:=ab hr;clear hr);go_ret;exact⟨by rw[<-HD.i];rfl,rfl⟩
def vD(a b:Nat):Nat:=if a+b>65535 then a+b-65535 else a+b
theorem FC{a b:Nat}(h:a<=65535)(g:b<=65535):vD a b<=65535:=by unfold vD;split<;>omega
def words:List UInt8->List Nat
 | []=>[]
 | [a]=>[256*a.e]
 | a::b::l=>(256*a.e+b.e)::words l
def MB(n:Nat)(l:List UInt8):Nat:=(words l).foldl vD n
def wP(l:List UInt8):Nat:=65535-MB 0 l
def inS(s:Nat×Bool)(c:UInt8):Nat×Bool:=(vD s.1 (if s.2 then c.e else 256*c.e),!s.2)
theorem ali(n a b:Nat)(hn:n<=65535)(ha:a<256)(hb:b<256):vD (vD n (256*a)) b=vD n (256*a+b):=by
 unfold vD;repeat' split
 all_goals omega
theorem Yg:∀(l:List UInt8)(n:Nat),n<=65535->l.foldl inS (n,false)=(MB n l,decide (l.a%2=1))
 | [],n,_=>rfl
 | [a],n,h=>by simp[inS,MB,words]
 | a::b::l,n,h=>by
   have ha:=a.a;have hb:=b.a;have:=Yg l (vD n (256*a.e+b.e)) (FC h (by omega));simp only[jW,inS,if_neg Bool.false_ne_true,Bool.not_false,if_pos,uG,if_true,bC,ali n _ _ h ha hb,this,Prod.mk.injEq];refine⟨by simp[MB,words],by congr 1;rw[eq_iff_iff];omega⟩
theorem aan:∀(l:List UInt8)(n:Nat),n<=65535->MB n l<=65535
 | [],n,h=>h
 | [a],n,h=>by have:=a.a;exact FC h (by omega)
 | a::b::l,n,h=>by
   have ha:=a.a;have hb:=b.a;exact aan l (vD n (256*a.e+b.e)) (FC h (by omega))
theorem as0(l:List UInt8):∀s:Nat×Bool,s.1<=65535->(l.foldl inS s).1<=65535:=by
 induction l with
 | nil=>exact fun s h=>h
 | cons c l ih=>
   intro s h;have:=c.a;exact ih _ (FC h (by split<;>omega))
def FD(c m n:Nat):Nat:=65535-vD (vD (65535-c) (65535-m)) n
def om:Nat->List UInt8->List UInt8->Nat
 | c,a::b::l,x::y::m=>om (FD c (256*a.e+b.e) (256*x.e+y.e)) l m
 | c,_,_=>c
theorem UH(c m n:Nat):FD c m n<=65535:=by unfold FD;omega
theorem axf(x:Nat)(hx:x<4294967296):bits .and .u32 (x:Int) 65535=((x%65536:Nat):Int):=by
 have h1:(fZ 32 (x:Int)).e=x:=by
  rw[lU,ny];exact fP (by omega)
 show IntKind.u32.wrap ((fZ 32 (x:Int) &&& fZ 32 65535).e:Int)=_;rw[BitVec.toNat_and,h1,show(fZ 32 65535).e=2^16-1 by decide,Nat.and_two_pow_sub_one_eq_mod];simp[vI,nP,lT];omega
theorem ag2(x:Nat)(hx:x<=65535):bits .xor .u16 Dm.max (x:Int)=((65535-x:Nat):Int):=by
 have h1:fZ 16 (x:Int)=GK 16 x:=lU _ _;show Dm.wrap ((fZ 16 65535 ^^^ fZ 16 (x:Int)).e:Int)=_;rw[h1,show fZ 16 65535=BitVec.allOnes 16 by decide,BitVec.allOnes_xor,BitVec.toNat_not,ny,fP (by omega)];simp[vI,nP,lT];omega
theorem axg(a c:Nat)(ha:a<256)(hc:c<256):bits .or .u16 (256*(a:Int)) (c:Int)=((256*a+c:Nat):Int):=by
 have h1:fZ 16 (256*(a:Int))=GK 16 (256*a):=by rw[show(256*(a:Int))=((256*a:Nat):Int)by omega];exact lU _ _
 have h2:fZ 16 (c:Int)=GK 16 c:=lU _ _;show Dm.wrap ((fZ 16 (256*(a:Int)) ||| fZ 16 (c:Int)).e:Int)=_;rw[h1,h2,BitVec.toNat_or,ny,ny,fP (by omega),fP (by omega),show 256*a=a <<< 8 by rw[mE];omega,<-Nat.shiftLeft_add_eq_or_of_lt (by omega)];rw[mE];simp[vI,nP,lT];omega
section
variable (a b c m n:Nat) (W:ak)
theorem MC(ha:a<=65535)(hb:b<=65535):aP ah 369 #[.b .u32 a,.b .u32 b] W fun e W'=>e=.a (.b .u32 (vD a b:Nat))/\W=W':=by
 have h:=axf (a+b) (by omega);rw[Int.natCast_add]at h;have H:=ab (show((a:Int)+(b:Int))%65536+((a:Int)+(b:Int))/65536=(vD a b:Nat)by unfold vD;split<;>omega);go_enter Tryz.func369,Tryz.ntmps369;go_wp2;go_ret;exact⟨by rw[<-H.i];rfl,rfl⟩
theorem acI(ha:a<=65535)(hb:b<=65535):aP ah 258 #[.b .a a,.b .a b] W fun e W'=>e=.a (.b .a (vD a b:Nat))/\W=W':=by
 go_enter Tryz.func258,Tryz.ntmps258;go_wp2
 all_goals(go_ret;refine⟨?_,rfl⟩;simp_all[vD]<;>(repeat' split)<;>omega)
theorem aeZ(hc:c<=65535)(hm:m<=65535)(hn:n<=65535):aP ah 352 #[.b .u16 c,.b .u16 m,.b .u16 n] W fun e W'=>e=.a (.b .u16 (FD c m n:Nat))/\W=W':=by
 have h1:=ag2 c hc;have h2:=ag2 m hm;have l1:=FC (show 65535-c<=65535 by omega) (show 65535-m<=65535 by omega);have l2:=FC l1 hn;have h3:=ag2 _ l2;have C1:=ab (fun W=>MC (65535-c) (65535-m) W (by omega) (by omega));have C2:=ab (fun W=>MC (vD (65535-c) (65535-m)) n W l1 hn);have H:=ab (show FD c m n=65535-vD (vD (65535-c) (65535-m)) n from rfl);generalize vD (vD (65535-c) (65535-m)) n=z at *;generalize vD (65535-c) (65535-m)=y at *;have hz:Dm.wrap (z:Int)=z:=by simp[vI,nP,lT];omega
 have q1:((65535-c:Nat):Int)%4294967296=((65535-c:Nat):Int):=by omega
 have q2:((65535-m:Nat):Int)%4294967296=((65535-m:Nat):Int):=by omega
 have q3:(n:Int)%4294967296=n:=by omega
 generalize 65535-c=cc at *;generalize 65535-m=mm at *;go_enter Tryz.func352,Tryz.ntmps352;go_wp2_with (first|(go_at_call 369;with_reducible refine(C1.i _).g ?_;rintro e w' ⟨rfl,rfl⟩)|(go_at_call 369;with_reducible refine(C2.i _).g ?_;rintro e w' ⟨rfl,rfl⟩))
 all_goals(go_ret;exact⟨by rw[H.i];rfl,rfl⟩)
end
section
variable (W:ak) (A:Option aT) (n c B:Nat) (l:List UInt8)
theorem acJ(i:Nat)(hi:i<9223372036854775807)(hr:fU W B A n l):aP ah 353 #[.a A n c,.b .a i] W fun e W'=>e=.a (.b .u16 ((l.c i 0).e:Nat))/\W=W':=by
 by_cases hin:i<n
 ·obtain⟨a,rfl,hab,hcell⟩:=hr.fI hin
  have h1:(i:Int)<n:=by omega
  have h2:=(l.c i 0).a;have h3:((l.c i 0).e:Int)%65536=(l.c i 0).e:=by omega
  unfold bv at hcell;generalize(l.c i 0).e=x at *;clear hr;go_enter Tryz.func353,Tryz.ntmps353;go_wp2;go_ret;exact⟨rfl,rfl⟩
 ·have h1:¬(i:Int)<n:=by omega
  have h2:l.c i 0=0:=by rw[au,aS (by have:=hr.len;omega)];rfl
  rw[h2];clear hr h2;go_enter Tryz.func353,Tryz.ntmps353;go_wp2;go_ret;exact⟨rfl,rfl⟩
end
theorem UJ(l:List UInt8)(k:Nat)(h:k+1<l.a):l.f k=l.c k 0::l.c (k+1) 0::l.f (k+2):=by
 rw[kU (show k<l.a by omega),kU h,au,au,aC (show k<l.a by omega),aC h];rfl
theorem aao(c:Nat)(m:List UInt8):om c [] m=c:=by cases m<;>rfl
theorem Iw(W:ak)(A D:Option aT)(n ca cd B E c:Nat)(l m:List UInt8)(hc:c<=65535)(hn:n%2=0)(hnn:n<=1000000)(hr:fU W B A n l)(ht:fU W E D n m):
 aP ah 311 #[.b .u16 c,.a A n ca,.a D n cd] W fun e W'=>e=.a (.b .u16 (om c l m:Nat))/\W=W':=by
 have CA:=ab (fun i hi=>acJ W A n ca B l i hi hr);have CD:=ab (fun i hi=>acJ W D n cd E m i hi ht);have hl:=ab hr.len;have hm:=ab ht.len;clear hr ht;go_enter Tryz.func311,Tryz.ntmps311;go_wp2;go_loop [0,7] (fun s0 s7=>∃(k x:Nat),k<=n/\k%2=0/\x<=65535/\s0=.b .u16 x/\s7=.b .a k/\om c l m=om x (l.f k) (m.f k)) (fun _ s7=>n-(intOf s7).e)
 case atStart=>exact⟨0,c,by omega,rfl,hc,rfl,rfl,rfl⟩
 case round=>
  obtain⟨k,x,hk,hk2,hx,rfl,rfl,heq⟩:=hrel;have HE:=ab heq;clear heq;by_cases hlt:k<n
  ·have hlt2:(k:Int)<n:=by omega
   have A0:=ab (CA.i k (by omega));have A1:=ab (CA.i (k+1) (by omega));have D0:=ab (CD.i k (by omega));have D1:=ab (CD.i (k+1) (by omega));rw[show((k+1:Nat):Int)=(k:Int)+1 from rfl]at A1 D1;have HE:=ab (by rw[HE.i,UJ l k (by rw[hl.i];omega),UJ m k (by rw[hm.i];omega),om]:om c l m=om (FD x (256*(l.c k 0).e+(l.c (k+1) 0).e) (256*(m.c k 0).e+(m.c (k+1) 0).e)) (l.f (k+2)) (m.f (k+2)));have b1:=(l.c k 0).a;have b2:=(l.c (k+1) 0).a;have b3:=(m.c k 0).a;have b4:=(m.c (k+1) 0).a;generalize(l.c k 0).e=y1 at *;generalize(l.c (k+1) 0).e=y2 at *;generalize(m.c k 0).e=y3 at *;generalize(m.c (k+1) 0).e=y4 at *;have o1:=axg y1 y2 b1 b2;have o2:=axg y3 y4 b3 b4;rw[Int.mul_comm]at o1 o2;have CH:=ab (aeZ x (256*y1+y2) (256*y3+y4) W hx (by omega) (by omega));have LE:=ab (UH x (256*y1+y2) (256*y3+y4));generalize FD x (256*y1+y2) (256*y3+y4)=z at *;generalize 256*y1+y2=w1 at *;generalize 256*y3+y4=w2 at *;clear CA CD;go_wp2_with (first|(go_at_call 353;with_reducible refine A0.i.g ?_;rintro e w' ⟨rfl,rfl⟩)|(go_at_call 353;with_reducible refine A1.i.g ?_;rintro e w' ⟨rfl,rfl⟩)|(go_at_call 353;with_reducible refine D0.i.g ?_;rintro e w' ⟨rfl,rfl⟩)|(go_at_call 353;with_reducible refine D1.i.g ?_;rintro e w' ⟨rfl,rfl⟩)|(go_at_call 352;with_reducible refine CH.i.g ?_;rintro e w' ⟨rfl,rfl⟩));go_round
   case rel=>exact⟨k+2,z,by omega,by omega,LE.i,rfl,by go_num,HE.i⟩
   case measure=>simp[intOf]<;>omega
  ·have hlt2:¬(k:Int)<n:=by omega
   have HE:=ab (by rw[HE.i,iW (by rw[hl.i];omega),aao]:om c l m=x);clear CA CD;go_wp2;go_ret;exact⟨by rw[HE.i];rfl,rfl⟩
theorem acL(x:Bool)(w:ak):(Op.unary .not (.e x)).I ah w = .Z (.e (!x)) w:=rfl
theorem aiB(W:ak)(b:Nat)(A:Option aT)(n c B:Nat)(l:List UInt8)(hnn:n<=1000000000)(hp:W.b ⟨b,0,none⟩=some (.a A n c))(hr:fU W B A n l):
 aP ah 350 #[.a (some ⟨b,0,none⟩) 1 1] W fun e W'=>e=.a (.b .u32 (MB 0 l:Nat))/\W=W':=by
 have HR:=ab hr;have HN:=acL;clear hr;go_enter Tryz.func350,Tryz.ntmps350;go_wp2;go_loop [3,4,12] (fun s3 s4 s12=>(s3=.b .u32 0/\s4=.e false/\s12=.b .a 0)\/(∃o,s3=.b .u32 (MB 0 l:Nat)/\s4=.e o/\s12=.b .a 1)) (fun _ _ s12=>1-(intOf s12).e)
 case atStart=>exact .a ⟨rfl,rfl,rfl⟩
 case round=>
  rcases hrel with⟨rfl,rfl,rfl⟩|⟨o,rfl,rfl,rfl⟩
  ·go_wp2
   go_loop [3,4,18] (fun s3 s4 s18=>∃k:Nat,k<=n/\s18=.b .a k/\s3=.b .u32 ((l.d k).foldl inS (0,false)).1/\s4=.e ((l.d k).foldl inS (0,false)).2) (fun _ _ s18=>n-(intOf s18).e)
   case atStart=>exact⟨0,by omega,rfl,rfl,rfl⟩
   case round=>
    obtain⟨k,hk,rfl,rfl,rfl⟩:=hrel;have hlen:=ab HR.i.len;by_cases hlt:k<n
    ·have hlt2:(k:Int)<n:=by omega
     obtain⟨a,rfl,hab,hcell⟩:=HR.i.fI hlt;have HS:=ab (show(l.d (k+1)).foldl inS (0,false)=inS ((l.d k).foldl inS (0,false)) (l.c k 0)by
      rw[dR (by rw[hlen.i];exact hlt),List.foldl_append,au,aC (by rw[hlen.i];exact hlt)];rfl)
     have hle:=as0 (l.d k) (0,false) (by decide);have hx:=(l.c k 0).a;generalize(l.d k).foldl inS (0,false)=st at *;obtain⟨s,o⟩:=st;have HS:=ab (show(l.d (k+1)).foldl inS (0,false)=(vD s (if o then(l.c k 0).e else 256*(l.c k 0).e),!o)from HS.i);unfold bv at hcell;simp only at hle ⊢;generalize(l.c k 0).e=x at *;have C1:=ab (fun W=>MC s x W hle (by omega));have C2:=ab (fun W=>show aP ah 369 #[.b .u32 s,.b .u32 ((x:Int)*256)] W fun e W'=>e=.a (.b .u32 (vD s (256*x):Nat))/\W=W' by rw[show(x:Int)*256=((256*x:Nat):Int)by omega];exact MC s (256*x) W hle (by omega));have e1:(x:Int)%4294967296=x:=by omega
     cases o
     ·have HS:=ab (show(l.d (k+1)).foldl inS (0,false)=(vD s (256*x),true)from HS.i)
      go_wp2_with (first|(go_at_call 369;with_reducible refine(C2.i _).g ?_;rintro e w' ⟨rfl,rfl⟩));go_round
      case rel=>exact⟨k+1,by omega,by go_num,by rw[HS.i],by rw[HS.i]⟩
      case measure=>simp[intOf]<;>omega
     ·have HS:=ab (show(l.d (k+1)).foldl inS (0,false)=(vD s x,false)from HS.i)
      go_wp2_with (first|(go_at_call 369;with_reducible refine(C1.i _).g ?_;rintro e w' ⟨rfl,rfl⟩));go_round
      case rel=>exact⟨k+1,by omega,by go_num,by rw[HS.i];rfl,by rw[HS.i];rfl⟩
      case measure=>simp[intOf]<;>omega
    ·have hlt2:¬(k:Int)<n:=by omega
     have HS:=ab (show((l.d k).foldl inS (0,false)).1=MB 0 l by rw[aK (by rw[hlen.i];omega),Yg _ _ (by decide)]);go_wp2;go_round
     case rel=>exact .b ⟨_,by rw[HS.i],rfl,rfl⟩
     case measure=>simp[intOf]
  ·go_wp2
   go_ret;exact⟨rfl,rfl⟩
section
variable (W:ak) (b:Nat) (A:Option aT) (n c B:Nat) (l:List UInt8) (hnn:n<=1000000000) (hp:W.b ⟨b,0,none⟩=some (.a A n c)) (hr:fU W B A n l)
include hnn hp hr
theorem ag3:aP ah 305 #[.a (some ⟨b,0,none⟩) 1 1] W fun e W'=>e=.a (.b .u16 (wP l:Nat))/\W=W':=by
 have C:=ab (aiB W b A n c B l hnn hp hr);have hle:=aan l 0 (by omega);have HS:=ab (show wP l=65535-MB 0 l from rfl);have hx:=ag2 (MB 0 l) hle;generalize MB 0 l=x at *;have hz:Dm.wrap (x:Int)=x:=by simp[vI,nP,lT];omega
 clear hr;go_enter Tryz.func305,Tryz.ntmps305;go_wp2_with (go_at_call 350;with_reducible refine C.i.g ?_;rintro e w' ⟨rfl,rfl⟩);go_ret;exact⟨by rw[HS.i];rfl,rfl⟩
theorem acM:aP ah 247 #[.a (some ⟨b,0,none⟩) 1 1] W fun e W'=>e=.a (.e (decide (wP l=0)))/\W=W':=by
 have C:=ab (ag3 W b A n c B l hnn hp hr);generalize wP l=x at *;clear hr;go_enter Tryz.func247,Tryz.ntmps247;go_wp2_with (go_at_call 305;with_reducible refine C.i.g ?_;rintro e w' ⟨rfl,rfl⟩);go_ret;refine⟨?_,rfl⟩;show Ending.returned (.e ((x:Int)==0))=_;congr 2;rw[bV];simp
end
section
variable {P:eG} {ops:Array iZ} {md:Region.Mode} {C:ak->Prop}
def wqL(P:eG)(md:Region.Mode)(ops:Array iZ)(C:ak->Prop)(n:Nat)(L:Array Bool->qR->Prop):Nat->Array Bool->qR->Prop
 | 0,listed,a=>L listed a
 | f+1,listed,a=>gq md ops listed≠[]/\∀i∈gq md ops listed,i<n/\qOp P ops C i (wqL P md ops C n L f (listed.b i true)) a
theorem ag4{n g:Nat}{L:Array Bool->qR->Prop}{Q':zO->qR->ak->Prop}(hL:∀listed a w,C w->L listed a->wpAny P md ops Q' g listed a w):
 ∀(f:Nat)(listed:Array Bool)(a:qR)(w:ak),C w->wqL P md ops C n L f listed a->wpAny P md ops Q' (f+g) listed a w
 | 0,listed,a,w,hw,h=>by rw[bB];exact hL _ _ _ hw h
 | f+1,listed,a,w,hw,h=>by
   rw[show f+1+g=(f+g)+1 by omega];exact⟨fun h0=>absurd h0 h.1,fun i hi=>wpOp_of_qOp hw (fun a' w' hw' h'=>ag4 hL f _ a' w' hw' h') (h.2 i hi).2⟩
theorem alj{n i:Nat}{oi:iZ}{v:aB}{L:Array Bool->qR->Prop}(hi:ops[i]? = some oi)(hsel:∀(j:Nat)(o:iZ) cs b,ops[j]? = some o->o.op≠.select cs b)
 (hs:Region.sinkB md ops n=true) (hc:Region.chainB md ops n=true) (hn:n<ops.j) (hin:i<n) (hdone:∀listed a,L listed a->∀j∈gq md ops listed,n<=j) :
 ∀(f:Nat)(listed:Array Bool)(a:qR),HeadInv md ops n listed ->
  (∀j oj,ops[j]? = some oj->j≠i->listed.c j true=false->(∀e∈oj.after,qB md e=true->e.on≠i)->oi.apart ops oj=true) ->
  i∈gq md ops listed->YieldsIn P ops C oi v a ->
  wqL P md ops C n L f (listed.b i true) (a.put oi.X v)->wqL P md ops C n L (f+1) listed a:=by
 intro f
 induction f with
 | zero=>
   intro listed a inv _ hr hy H;have hun:=(kH.1 hr).1;refine⟨fun h=>(by rw[h]at hr;cases hr),fun j hj=>?_⟩;have hjn:j<n:=(aY j n).resolve_right fun h=>tail_waits hs hc hn inv _ i rfl hin hun j h hj
   refine⟨hjn,?_⟩;by_cases hji:j=i
   ·subst hji;exact hy.qOp hi H
   ·have:=hdone _ _ H j (ready_mono hj hji)
    omega
 | succ f ih=>
   intro listed a inv hfree hr hy H;have hun:=(kH.1 hr).1;refine⟨fun h=>(by rw[h]at hr;cases hr),fun j hj=>?_⟩;have hjn:j<n:=(aY j n).resolve_right fun h=>tail_waits hs hc hn inv _ i rfl hin hun j h hj
   refine⟨hjn,?_⟩;by_cases hji:j=i
   ·subst hji;exact hy.qOp hi H
   ·have h1:=(H.2 j (ready_mono hj hji)).2
    obtain⟨hjun,oj,hoj,hall⟩:=kH.1 hj;have hnot:∀e∈oj.after,qB md e=true->e.on≠i:=fun e he hb heq=>by
     have h1:=hall e he hb;rw[heq,getD_both hun]at h1;cases h1
    have h2:=qOp_put hoj (hfree j oj hoj hji hjun hnot) (fun cs b=>hsel i oi cs b hi) (fun cs b=>hsel j oj cs b hoj) hy h1;have hfree':∀k ok,ops[k]? = some ok->k≠i->(listed.b j true).c k true=false->(∀e∈ok.after,qB md e=true->e.on≠i)->oi.apart ops ok=true:=fun k ok hk hki hun hno=>by
     refine hfree k ok hk hki ?_ hno;by_cases hjk:j=k
     ·subst hjk;exact hjun
     ·rw[getD_set_ne true hjk]at hun;exact hun
    refine qOp_mono (fun a' h3=>ih (listed.b j true) a' (inv.set hj hjn) hfree' (ready_mono hr (jr hji)) h3.1 ?_) h2;rw[Array.setIfInBounds_comm _ _ hji];exact h3.2
theorem aap{n g:Nat}{Lq:qR->Prop}(hsel:Region.noSelect ops=true)(hs:Region.sinkB md ops n=true)(hc:Region.chainB md ops n=true)(hn:n<ops.j):
 ∀(l:List iZ)(k:Nat)(listed:Array Bool)(a:qR),(∀j,j<l.a->l[j]? = ops[k+j]?)->k+l.a=n->HeadInv md ops n listed->Region.lexHead md ops g l.a k listed=true->wpQuiet P ops C Lq l a ->
 wqL P md ops C n (fun listed' a'=>Region.seqB md ops g n listed'=true/\Lq a') l.a listed a
 | [],k,listed,a,_,hk,_,hB,h=>by
   have:k=n:=by simpa using hk
   subst this;exact⟨by simpa[Region.lexHead]using hB,h⟩
 | o::l,k,listed,a,hl,hk,inv,hB,h=>by
   have h0:ops[k]? = some o:=by simpa using(hl 0 (by simp)).symm
   simp only[bC,Region.lexHead,bl]at hB;obtain⟨⟨hr,hf⟩,hB'⟩:=hB;have hkn:k<n:=by simp only[bC]at hk;omega
   have hr':k∈gq md ops listed:=by simpa using hr
   have hst:qOp P ops C k (wpQuiet P ops C Lq l) a:=by unfold qOp;simp only[h0];exact h
   obtain⟨v,hy,hK⟩:=yieldsIn_of_qOp h0 hst;exact alj h0 (Region.noSelect_spec hsel) hs hc hn hkn (fun listed' a' hL=>seqB_ready hL.1) l.a listed a inv (Region.free_spec h0 hf) hr' hy
    (aap hsel hs hc hn l (k+1) _ _ (fun j hj=>by have:=hl (j+1) (by simp;omega);simpa[mZ,lM 1 j]using this) (by simp only[bC]at hk;omega) (inv.set hr' hkn) hB' hK)
theorem UK{T:Type}(f:T->ak)(n:Nat){id:Nat}{Q:zO->qR->ak->Prop}{a:qR}{w:ak}{l:List iZ}(hm:P.follows .mixedOrders=true)(hB:wZ .any l.b n=true)(n0:T)(h0:f n0=w.drew)
 (h:wpQuiet P l.b (fun w'=>∃m,w'=f m) (fun a'=>∀w',(∃m,w'=f m)->wpList P l.b Q (l.f n) a' w') (l.d n) a):(Code.region id l.b true).wp P Q a w:=by
 simp only[wZ,bl,decide_eq_true_eq]at hB;obtain⟨⟨⟨⟨hsel,hn⟩,hs⟩,hc⟩,hlex⟩:=hB;have hn':n<l.a:=by simpa using hn
 have htl:(l.d n).a=n:=by simp;omega
 have hdl:(l.f n).a=l.b.j-n:=by simp
 have inv0:HeadInv .any l.b n (Array.replicate l.b.j false):=
  ⟨by simp,fun j oj _ hl=>(by rw[mI]at hl;cases hl),fun t _ ht=>getD_in (by simpa using ht) (mI _ _)⟩
 have H:=aap (md:=.any) (C:=fun w'=>∃m,w'=f m) (g:=l.b.j-n) hsel hs hc hn (l.d n) 0 _ a (fun j hj=>by
  have hj':j<n:=by rw[htl]at hj;exact hj
  simp[hj']) (by simpa using htl) inv0 (by rw[htl];exact hlex) h
 refine wp_region_any hm ?_;have:=ag4 (Q':=Q) (g:=l.b.j-n) (fun listed a' w' hw hL=>by
  have:=wpAny_of_seq (md:=.any) (Q':=Q) (l.f n) n listed a' w' (fun j=>by simp[jo]) (by rw[hdl];exact hL.1) (hL.2 w' hw)
  rwa [hdl]at this) _ _ _ {w with drawn:=w.drawn+1} ⟨n0,h0.symm⟩ H
 rw[htl,show n+(l.b.j-n)=l.b.j by omega]at this;exact this
end
section
open Go.RowKit Go.ChangeShapes Go.WideShapes Go.ChangeAt Go.Deep
def nX(l:List Hl):List (List UInt8):=(l.filter (·.down)).map (·.E)
theorem Yh(l:List Hl)(i:Nat)(hi:i<l.a){x:Hl}(hx:x=l.c i kS)(h:x.down=true):nX (l.d (i+1))=nX (l.d i)++[x.E]:=by
 rw[<-lN kS l i hi,<-hx];simp[nX,h]
theorem acN(l:List Hl)(i:Nat)(hi:i<l.a){x:Hl}(hx:x=l.c i kS)(h:x.down=false):nX (l.d (i+1))=nX (l.d i):=by
 rw[<-lN kS l i hi,<-hx];simp[nX,h]
theorem alk(l:List Hl)(A:Option aT)(n c:Nat)(w:ak)(hR:RdH w w.a.j A n l)(hn:n<=100000):
 aP ah 130 #[.a A n c] w (TxP w (nX l)):=by
 have HR:=ab hR;have HN:=ab hR.1;obtain⟨i0,hi0,hz0,hz1,hzb⟩:=Zv;have HI0:=ab hi0;have HZ0:=ab hz0;have HZ1:=ab hz1;have HZ2:=ab (show(iB ⟨#[]⟩).D.j=1 from rfl);clear hR hi0 hz0 hz1;go_enter Tryz.func130,Tryz.ntmps130;go_wp2;go_loopw [3,8] (fun s3 s8 wr=>∃(i:Nat)(O:Option aT)(cap k:Nat),i<=n/\s3=.a O k cap/\s8=.b .a i/\k<=i/\(nX (l.d i)).a=k/\wr.c w.a.j 9 1 (.a O k cap) k (vP (nX (l.d i)))/\aL w.a.j w wr) (fun _ s8 _=>n-(intOf s8).e)
 case atStart=>exact⟨0,none,0,0,by omega,rfl,rfl,by omega,by simp[nX],fu _ _ _ _,aG _ _⟩
 case round=>
  obtain⟨i,O,cap,k,hin,rfl,rfl,hki,hlen,ho,hb⟩:=hrel;have HB:=ab hb;have HO:=ab ho;have HLEN:=ab hlen;have hsz:=hb.j;clear hb ho hlen;by_cases hlt:i<n
  ·have hi:(i:Int)<n:=by omega
   obtain⟨b,o,rfl,hbb,hh,hc,hnm,hdw⟩:=(HR.i.O HB.i).hl hlt;obtain⟨x,hx⟩:=cB (l.c i kS);rw[<-hx]at hc hnm hdw;have HX:=ab hx;have hbs:b<wr.a.j:=by omega
   clear hx hbb;have HNL:=ab (show i<l.a by rw[HN.i];exact hlt);cases hd:x.down
   ·have HD:=ab hd
    rw[hd]at hdw;go_wp2;go_roundw
    case rel=>exact⟨i+1,O,cap,k,by omega,rfl,by go_num,by omega,by rw[acN l i HNL.i HX.i HD.i];exact HLEN.i,by rw[acN l i HNL.i HX.i HD.i];exact HO.i.alloc _,HB.i.alloc hsz _⟩
    case measure=>simp[intOf]<;>omega
   ·have HD:=ab hd
    rw[hd]at hdw;have S9:=ab (show k+1<=maxLen by unfold maxLen;omega);have OQ:=ab (show(k+1)*i0.bytes<=140737488355328 from aO (gU (show k+1<=100002 by omega) hzb) (by omega));have HKI:=ab hki;have RJ:=ab (fun(ob:Obj) (s:List UInt8)=>show Rd ((wr.alloc ob).alloc (.D #[.g (bT s)] 9)) (wr.a.j+2) 1 (some ⟨wr.a.j+1,0,none⟩) 1 [.g (bT s)]by
     have h:=Zu (wr.alloc ob) (txA s) 1 rfl 9
     rwa [show(wr.alloc ob).a.j=wr.a.j+1 by simp]at h)
    have HBS:=ab (fun ob sK=>show w.a.j<=((wr.alloc ob).alloc sK).a.j by simp;omega);have HGR:=ab (fun ob sK w1 (hg:((wr.alloc ob).alloc sK).d w1 (Value.slice O k cap).f)=>((HB.i.alloc hsz ob).alloc (by simp;omega) sK).grown hg (by simp;omega) (fun k hk=>(HO.i.lt k hk).1));clear hki;go_wp2_with (at_builtin;refine jv _ rfl (.tmp 14) (.tmp 17) _ rfl w.a.j 9 i0 (.g ⟨#[]⟩) 1 i0.bytes Tryz.underlying69 HI0.i HZ0.i HZ1.i rfl HZ2.i (mH _) (.a O k cap) k (vP (nX (l.d i))) rfl ((HO.i.alloc _).alloc _) (wr.a.j+2) (some ⟨wr.a.j+1,0,none⟩) 1 1 [.g (bT x.E)] rfl (RJ.i _ x.E) (by simp[cZ]) S9.i OQ.i (HBS.i _ _) ?_;intro v1 w1 hown1 hg1 wM;have O1:=ab hown1;have G1:=ab (HGR.i _ _ _ hg1);clear hown1 hg1 wM);obtain⟨O',cap',rfl,_,_⟩:=jE O1.i;go_roundw
    case rel=>exact⟨i+1,O',cap',k+1,by omega,rfl,by go_num,by have:=HKI.i;omega,by rw[Yh l i HNL.i HX.i HD.i,aR,HLEN.i];rfl,by rw[Yh l i HNL.i HX.i HD.i,<-QG];exact O1.i,G1.i⟩
    case measure=>simp[intOf]<;>omega
  ·obtain rfl:i=n:=by omega
   have hd:decide ((i:Int)<i)=false:=by simp
   have HL:=ab (show l.d i=l from aK (by rw[HN.i];omega));go_wp2;go_ret;exact⟨O,k,cap,rfl,by rw[<-HL.i];exact HLEN.i,by have:=HO.i;rw[HL.i]at this;exact this,HB.i⟩
end
section
open Go.RowKit Go.ChangeShapes Go.WideShapes Go.ChangeAt Go.Deep
def arz(h:Hl):Prop:=-9223372036854775808<=h.I/\h.I<=9223372036854775807
end
def ae0(xs:List aB):Nat->List aB->List aB
 | _,[]=>xs
 | o,v::vs=>ae0 (xs.set o v) (o+1) vs
theorem aln(vs:List aB):∀(xs:List aB)(o j:Nat),(ae0 xs o vs)[j]? = if o<=j/\j<o+vs.a/\j<xs.a then vs[j-o]? else xs[j]?:=by
 induction vs with
 | nil=>intro xs o j;rw[ae0,if_neg (by simp;omega)]
 | cons v vs ih=>
   intro xs o j;rw[ae0,ih,aV,bC];by_cases h1:o+1<=j/\j<o+1+vs.a/\j<xs.a
   ·rw[if_pos h1,if_pos (by omega),show j-o=(j-(o+1))+1 by omega,List.getElem?_cons_succ]
   ·rw[if_neg h1]
    by_cases h2:o=j
    ·subst h2
     by_cases h3:o<xs.a
     ·rw[if_pos ⟨av _,by omega,h3⟩,List.getElem?_set_self h3];simp
     ·rw[if_neg (by omega),fJ];simp[h3]
    ·rw[List.getElem?_set_ne h2,if_neg (by omega)]
theorem Xl{base size n g c:Nat}{e:bF}(vs:List aB):∀(xs:List aB)(W:ak)(o:Nat),W.c base e size (.a (some ⟨g,0,none⟩) n c) n xs->o+vs.a<=n*size ->
 (W.setCells g o vs).c base e size (.a (some ⟨g,0,none⟩) n c) n (ae0 xs o vs):=by
 induction vs with
 | nil=>intro xs W o h _;exact h
 | cons v vs ih=>
   intro xs W o h ho;rw[bC]at ho;rw[Cu,ae0];exact ih _ _ _ (SA h o (by omega) v) (by omega)
theorem alo{α:Type}(f:α->Array aB)(s:Nat)(hs:∀x,(f x).j=s)(hp:0<s)(l:List α)(i:Nat)(hi:i<l.a)(x:α):
 ae0 (l.h fun x=>(f x).a) (i*s) (f x).a=(l.set i x).h fun x=>(f x).a:=by
 apply iL;intro j;rw[aln,aZ,hs,sW f s hs];have hl2:=sW f s hs (l.set i x);rw[aV]at hl2;rcases aY j (l.a*s)with hj|hj
 ·have e1:j=j/s*s+j%s:=by rw[Cw];exact(Nat.div_add_mod j s).symm
  have h2:j/s<l.a:=(zP hp).2 hj;have h3:j%s<s:=fH _ hp;have g1:=uJ f s hs l (j/s) (j%s) h2 h3;have g2:=uJ f s hs (l.set i x) (j/s) (j%s) (by rw[aV];exact h2) h3;rw[<-e1]at g1 g2;rw[g2];by_cases hij:i=j/s
  ·subst hij
   rw[if_pos ⟨Nat.div_mul_le_self j s,by omega,hj⟩,List.getElem_set_self,dD];congr 1;omega
  ·rw[List.getElem_set_ne hij,if_neg,g1]
   rintro⟨h4,h5,_⟩;apply hij;have h6:i*s<=j:=h4;have h7:j<(i+1)*s:=by rw[Jp];exact h5
   exact(Nat.le_antisymm ((Nat.le_div_iff_mul_le hp).2 h6) (Nat.lt_succ_iff.1 ((zP hp).2 h7)))
 ·rw[if_neg (by omega),aS (by rw[sW f s hs];exact hj),aS (by omega)]
def wR(l:List Hl):List aB:=l.h fun x=>x.ay.a
theorem ae1(l:List Hl):∀u∈wR l,u.h=true:=D6 Hl.ay Hl.cO l
theorem acO(l:List Hl)(x:Hl):wR l++x.ay.a=wR (l++[x]):=ah1 Hl.ay l x
def ClP(w:ak)(n:Nat)(l:List Hl)(e:lq)(w':ak):Prop:=
 ∃A c,e=.a (.a A n c)/\w'.c w.a.j 100 3 (.a A n c) n (wR l)/\aL w.a.j w w'
theorem Le(l:List Hl)(A:Option aT)(n c:Nat)(w:ak)(hR:RdH w w.a.j A n l)(hn:n<=100000):
 aP ah 59 #[.a A n c] w (ClP w n l):=by
 have hll:=hR.1;cases A with
 | some a=>
   have hnil:∀W:ak,(binOp .eql 33 (.a (some a) n c) (.a none 0 0)).I ah W = .Z (.e false) W:=fun W=>by
    simp only[binOp];simp[jc,rU]
   obtain⟨i0,hi0,hz0,hz1,hzb⟩:=OL;have hz2:(bY kS.ay).D.j=3:=by simp[cK,Hl.G]
   have O1:=ab (show(w.alloc (.D #[] 100)).c w.a.j 100 3 (.a (some ⟨w.a.j,0,none⟩) 0 0) 0 []from nU w #[] 0 (av _) (by unfold maxLen;omega) rfl);have O2:=ab (hR.alloc (av _) (.D #[] 100)).2.1;have S9:=ab (show 0+n<=maxLen by unfold maxLen;omega);have OQ:=ab (show(0+n)*i0.bytes<=140737488355328 from aO (gU (show 0+n<=100000 by omega) hzb) (by omega));have O3:=ab (show w.a.j<=(w.alloc (.D #[] 100)).a.j by simp);have ON:=ab (ae1 l);clear hR hll;go_enter Tryz.func59,Tryz.ntmps59;go_wp2_with (at_builtin;refine jv _ rfl (.tmp 5) (.tmp 6) _ rfl w.a.j 100 i0 (.d kS.ay) 3 i0.bytes rU hi0 hz0 hz1 rfl hz2 (mH _) (.a (some ⟨w.a.j,0,none⟩) 0 0) 0 [] rfl O1.i w.a.j (some a) n c (wR l) rfl O2.i ON.i S9.i OQ.i O3.i ?_;intro v1 w1 hown1 hg1 wM);obtain⟨A',c',hv,_,_⟩:=jE hown1;subst hv;simp only[bB,dF]at hown1;have hb:=sj ((aG w.a.j w).alloc (av _) (.D #[] 100)) hg1 (av _) O3.i;go_wp2;go_ret;exact⟨A',c',by simp,hown1,hb⟩
 | none=>
   have h0:n=0:=by
    rcases eu n with h0|h0
    ·exact h0
    ·obtain⟨a,ha,_⟩:=hR.2.1.2 h0;cases ha
   subst h0;have hl:l=[]:=bE hll;subst hl;have hnil:∀W:ak,(binOp .eql 33 (.a none 0 c) (.a none 0 0)).I ah W = .Z (.e true) W:=fun W=>by
    simp only[binOp];simp[jc,rU]
   have FIN:=ab (show ClP w 0 [] (.a (.a none 0 0)) w from⟨none,0,rfl,fu _ _ _ _,aG _ _⟩);clear hR hll;go_enter Tryz.func59,Tryz.ntmps59;go_wp2;go_ret;exact FIN.i
theorem UL(args:Array aB)(w:ak):(callFunc 148 args).I ah w = .Z (.enter 148 args) w:=by kernel_rfl
theorem alp(x:Hl)(s:List UInt8)(bn:Nat)(w:ak)(hb:bn<w.a.j)(hc:w.b ⟨bn,0,none⟩=some (.g (bT s))):
 aP ah 148 #[.d x.ay,.c (some ⟨bn,0,none⟩)] w (gD w (.e (x.E==s))):=by
 have HB:=ab (fun ob=>(aG w.a.j w).alloc (av _) ob);go_enter Tryz.func148,Tryz.ntmps148;go_wp2;go_ret;exact⟨by simp,HB.i _⟩
theorem aiC(l:List Hl)(s:List UInt8)(bn:Nat)(A:Option aT)(n c:Nat)(w:ak)(hR:RdH w w.a.j A n l)(hn:n<=100000)(hb:bn<w.a.j)(hc:w.b ⟨bn,0,none⟩=some (.g (bT s))):
 aP ah 147 #[.a A n c,.func (.func 148) #[] #[.c (some ⟨bn,0,none⟩)]] w (gD w (.b .a (zB l s))):=by
 have hen:=UL;have HR:=ab hR;have HN:=ab hR.1;have PR:=ab (fun x W (h:aL w.a.j w W)=>alp x s bn W (eY hb h.j) (by rw[h.cell (p:=⟨bn,0,none⟩) hb];exact hc));clear hR hc;go_enter Tryz.func147,Tryz.ntmps147;go_wp2;go_loopw [8] (fun s8 wr=>∃i:Nat,i<=n/\s8=.b .a i/\(∀k,k<i->(l.c k kS).E≠s)/\aL w.a.j w wr) (fun s8 _=>n-(intOf s8).e)
 case atStart=>exact⟨0,by omega,rfl,fun k hk=>by omega,aG _ _⟩
 case round=>
  obtain⟨i,hin,rfl,hno,hb⟩:=hrel;have Fh:=ab hno;have HB:=ab hb;clear hno hb;by_cases hlt:i<n
  ·have hi:(i:Int)<n:=by omega
   obtain⟨b,o,rfl,hbb,hh,hcl,_,_⟩:=(HR.i.O HB.i).hl hlt;obtain⟨x,hx⟩:=cB (l.c i kS);rw[<-hx]at hcl;have HX:=ab hx;clear hx hbb;by_cases hq:x.E=s
   ·have hbq:(x.E==s)=true:=by rw[hq];simp
    have UG:=ab (aoI (by rw[HN.i];exact hlt) (by rw[<-HX.i];exact hq) Fh.i);clear hq;go_wp2_with (go_at_call 148;refine(PR.i x _ HB.i).g ?_;rintro e w1 ⟨rfl,hb1⟩;clear hh hcl;have HB1:=ab hb1;clear hb1);go_ret;exact⟨by rw[UG.i];rfl,iX HB.i HB1.i⟩
   ·have hbq:(x.E==s)=false:=by simpa using hq
    have HQ:=ab hq;clear hq;go_wp2_with (go_at_call 148;refine(PR.i x _ HB.i).g ?_;rintro e w1 ⟨rfl,hb1⟩;clear hh hcl;have HB1:=ab hb1;clear hb1);go_roundw
    case rel=>exact⟨i+1,by omega,by go_num,fun k hk=>by
     by_cases hki:k=i
     ·rw[hki,<-HX.i];exact HQ.i
     ·exact Fh.i k (by omega),iX HB.i HB1.i⟩
    case measure=>simp[intOf]<;>omega
  ·obtain rfl:i=n:=by omega
   have UG:=ab (aoJ (l:=l) (s:=s) (fun k hk=>Fh.i k (by have:=HN.i;omega)));have hd:decide ((i:Int)<i)=false:=by simp
   go_wp2;go_ret;exact⟨by rw[UG.i];rfl,HB.i⟩
def Iy(l:List Hl)(s:List UInt8)(well:Bool)(kC fall:Int):List Hl×Bool×Int:=
 if zB l s<0 then(l,false,5)else(l.set (zB l s).e (uN (l.c (zB l s).e kS) well kC fall).1,(uN (l.c (zB l s).e kS) well kC fall).2,0)
theorem aoW{l:List Hl}{s:List UInt8}(h:zB l s = -1)(well:Bool)(kC fall:Int):Iy l s well kC fall=(l,false,5):=by unfold Iy;rw[if_pos (by omega)]
theorem alq{l:List Hl}{s:List UInt8}{k:Nat}(h:zB l s=k){well:Bool}{kC fall:Int}{x:Hl}(hx:x=l.c k kS){q:Hl×Bool}(hq:uN x well kC fall=q):Iy l s well kC fall=(l.set k q.1,q.2,0):=by
 unfold Iy;rw[if_neg (by omega),h,Int.toNat_natCast,<-hx,hq]
def axi(w:ak)(n:Nat)(r:List Hl×Bool×Int)(e:lq)(w':ak):Prop:=
 ∃A c,e=.a (.J #[.a A n c,.e r.2.1,.b .a r.2.2])/\w'.c w.a.j 100 3 (.a A n c) n (wR r.1)/\aL w.a.j w w'
theorem aoX(l:List Hl)(s:List UInt8)(well:Bool)(kC fall:Int)(A:Option aT)(n c:Nat)(w:ak)(hR:RdH w w.a.j A n l)(hg:∀x∈l,arz x)(hn:n<=100000):
 aP ah 74 #[.a A n c,.g (bT s),.e well,.b .a kC,.b .a fall] w (axi w n (Iy l s well kC fall)):=by
 have hen:=UL;have HN:=ab hR.1;have HG:=ab hg;have HR1:=ab (fun ob=>hR.up ob);have BN:=ab (dK.new w #[.g (bT s)] 9);have HB:=ab ((aG w.a.j w).alloc (av _) (.D #[.g (bT s)] 9));clear hR hg;go_enter Tryz.func74,Tryz.ntmps74;go_wp2_with fail;refine(Le l A n c _ (HR1.i _) hn).g ?_;rintro e w1 ⟨A1,c1,rfl,hown,hb1⟩;have HOWN:=ab hown;have BN:=ab (BN.i.go hb1);have HB:=ab (akE HB.i hb1);clear hown hb1;obtain⟨x1,x2,x3,x4⟩:=BN.i.K;have l1:=BN.i.lt;go_wp2_with fail;refine(aiC l s w.a.j A1 n c1 _ (iJ.iQ HN.i HOWN.i) hn l1 (by rw[x1];rfl)).g ?_;rintro e w2 ⟨rfl,hb2⟩;have HOWN:=ab (iI (jA HOWN.i hb2) (base':=w.a.j) (by simp));have HB:=ab (akE HB.i hb2);clear hb2 x1 x2 x3 x4 l1;rcases aeQ l s with hp|⟨k,hp,hk⟩
 ·have HS:=ab (aoW hp well kC fall)
  rw[hp];clear hp;go_wp2_with fail;go_ret3;exact⟨A1,c1,by rw[HS.i];rfl,by rw[HS.i];exact HOWN.i,HB.i⟩
 ·have hkn:k<n:=by rw[<-HN.i];exact hk
  have hki:(k:Int)<n:=by omega
  have HKL:=ab hk;obtain⟨x,hx⟩:=cB (l.c k kS);obtain⟨⟨qx,qt⟩,hq⟩:∃q,uN x well kC fall=q:=⟨_,rfl⟩
  have HS:=ab (alq hp hx hq);have ST:=ab (fun W=>hq ▸ ak6 x well kC fall W (HG.i x (by rw[hx];exact AY kS l k hk)));obtain⟨b,o,hA,hbb,hh,hc,_,_⟩:=(iJ.iQ HN.i HOWN.i).hl hkn;rw[<-hx]at hc;obtain⟨g,rfl⟩:∃g,A1=some ⟨g,0,none⟩:=by
   rcases HOWN.i.2 with⟨hv,_⟩|⟨g,cap,cur,hv,_⟩
   ·injection hv with e1 _ _;rw[e1]at hA;cases hA
   ·injection hv with e1 _ _;exact⟨g,e1⟩
  injection hA with hA
  injection hA with e1 e2
  subst e1 e2;rw[hp];have hnk:decide ((k:Int)<0)=false:=by simp
  rw[bB]at hh hc;clear hx hq hp hk;go_wp2_with fail;refine(ST.i _).g ?_;rintro e w3 ⟨rfl,hb3⟩;have OW:=ab (jA HOWN.i hb3);have hth:w3.M g (k*3) 3:=by
   rcases OW.i.2 with⟨hv,_⟩|⟨g',cap,cur,hv,_,h3,h4,_,h6,_⟩
   ·cases hv
   ·injection hv with e1 _ e3
    injection e1 with e1
    injection e1 with e1
    subst e1;refine dK.M (c:=cur) ⟨_,h3⟩ (k*3) 3 ?_;rw[h6];have:(k+1)*3<=cap*3:=dw 3 (by omega);omega
  have QN:=ab (QH (akE HB.i hb3) g (k*3) qx (HOWN.i.lt g rfl).1);have OF:=ab (Xl qx.ay.a _ _ (k*3) OW.i (by rw[aZ,Hl.G];have:(k+1)*3<=n*3:=dw 3 hkn;omega));clear hh hc hb3 hbb;go_wp2_with fail;go_ret3;refine⟨some ⟨g,0,none⟩,c1,by rw[HS.i];rfl,?_,QN.i⟩;rw[HS.i];have:=OF.i;unfold wR at this;rw[alo Hl.ay 3 Hl.G (by omega) l k HKL.i qx]at this;exact this
theorem Cz:∀(l m:List UInt8)(c:Nat),c<=65535->om c l m<=65535
 | [],m,c,h=>by cases m<;>exact h
 | [a],m,c,h=>by cases m<;>exact h
 | a::b::l,[],c,h=>h
 | a::b::l,[x],c,h=>h
 | a::b::l,x::y::m,c,h=>Cz l m _ (UH _ _ _)
end Go.Proofs.YtkjojjopamaoiaaGreat
