/- Parts. -/
import Derived.WalkSpells
import Derived.WalkLawsBesides
import Derived.Deep.OwnRows
import Derived.Lib.Hide
import Derived.Deep.AppendLies
import Derived.Test.YtkjojjopamaoiaaGreatRows
import Derived.ProofKit
import Derived.OpenShut
import Derived.Lib.ConvBytes
import Derived.Deep.WholeRow
import Derived.Deep.Fields
import Derived.Lib.Bytealg
import Derived.BigQuiet
import Derived.Deep.CutRange
import Derived.Laws.CopyOwn
import Derived.Lib.AppendZerosOnto
import Derived.Lib.Overlaps
import Derived.Deep.RegionHeld3
import Derived.StillTail
import Derived.Sort.Grow
set_option linter.unusedSimpArgs false
set_option linter.unusedVariables false
set_option linter.unusedSectionVars false
set_option maxRecDepth 100000
set_option maxHeartbeats 8000000
open Array renaming getElem?_eq_getElem->eZ,ext_getElem?->dU,getElem?_eq_none->aU,length_toList->aY,getElem?_toList->dD,getElem?_extract->dx,size_extract->jB,getElem?_modify->zA,getElem?_eq_some_iff->bV,foldl_toList->Cq,range->lS,mapM->iA,all_eq_true_iff_forall_mem->fV,ext'->oP,size->Array.j,toList->Array.a,getD->Array.c,setIfInBounds->Array.b
open BitVec renaming ofInt->fT,ofInt_natCast->lQ,toNat_ofNat->nC,ofNat->Gw,toNat->BitVec.e
open Bool renaming eq_iff_iff->bZ,and_eq_true->bf,not_true->nV,or_eq_true->ny,toNat->Bool.e
open ByteArray renaming size->ByteArray.j,toList->ByteArray.a
open Go renaming Addr->aT,World->ak,Value->aB,TypeId->bK,Program->eG,TypeInfo->nJ,run_underlying->dJ,Oper->iV,Act->qQ,Exit->zO,Operand->pG,wpList_plain->sV,Calls->aQ,DataW->yL,MemPlace->rT,cell_of_row->sW,heap_alloc_new->Gc,setRow_heap->rz,Field->nU,Sem->xk,Ending->kZ,run_storeAt_new->yV,run_storeAt_mid->DL,run_equalIn_struct->zq,results_cell_tmp->Kc,run_callFunc_extern->yA,bodyPost_ret->aN,wpQuiet_nil->gW,run_equal_slice_nil->iW,mem_ready->kD,getD_replicate_false->mJ,Frame->yN,Machine->EC,underlying->Go.k
open Go.Addr renaming add->qX,add_mid->iD
open Go.BoundsCode renaming toNat->Go.BoundsCode.e
open Go.Builtin renaming append_->zW,firstCells->tO,copy_->qB,zeroCells->nR
open Go.Calls renaming mono->Go.Calls.g
open Go.DataW renaming trod->lT,slice->Go.DataW.a,agg->Go.DataW.d
open Go.Ending renaming returned->Go.Ending.a
open Go.Field renaming name->Go.Field.E,offset->Go.Field.Z,type->Go.Field.p
open Go.FloatKind renaming f64->jV
open Go.FrameMode renaming run->Go.FrameMode.I
open Go.Func renaming name->Go.Func.E
open Go.Instr renaming loadAt->cu,buildSlice->bI,fill->fu,build->fI,storeAt->eF,sureAddr->yM,slice->Go.Instr.a
open Go.IntKind renaming min->Je,max->Jf,signed->lN,bits->nQ,i64->bR,u64->jo,wrap_u64->jR,wrap->vK,u16->Dk,i64->Go.IntKind.a,u8->Go.IntKind.b,u64->Go.IntKind.c
open Go.Lib renaming hid->ab,compareBytes->iy
open Go.Lit renaming int->Go.Lit.b,bool->Go.Lit.e,string->Go.Lit.g
open Go.Obj renaming cells->Go.Obj.D
open Go.Op renaming eqItems->JX,equalIn->ji,eqFields->wC,bytesLess->bP,slice->Go.Op.a
open Go.Oper renaming wp->nu,dst->Go.Oper.Y,type->Go.Oper.p
open Go.Os renaming mono->Go.Os.g
open Go.Program renaming cellsOf->zY,fieldsOf->jQ,underlying->Go.Program.k,cellsOf->Go.Program.a
open Go.Proofs.Tryz renaming prog->ah,underlying56->cB,underlying4->nM,underlying9->iM,underlying3->gM,underlying100->ra,underlying33->rW,underlying5->lq,underlying62->nY,underlying27->eY,underlying22->qg,underlying30->jd
open Go.Region renaming wanted->fB,ready->fU,binds->qC,lexTailB->xu
open Go.Rest renaming slice->Go.Rest.a
open Go.Result renaming andThen_ok->gH,andThen->iE
open Go.RowKit renaming Below->aM
open Go.RowKit.Below renaming heap_setCell->qV,refl->aG,size->Go.RowKit.Below.j,mono->Go.RowKit.Below.g,setCell->Go.RowKit.Below.F
open Go.RowKit.Hid renaming out->Go.RowKit.Hid.i
open Go.RuntimeTypes renaming string->Go.RuntimeTypes.g
open Go.Sem renaming run_bind->jI,run_pure->oh,run->Ji,run->Go.Sem.I
open Go.SysRet renaming int->Go.SysRet.b
open Go.Tables renaming info?->Go.Tables.l
open Go.Timer renaming name->Go.Timer.E
open Go.TypeDesc renaming slice->Go.TypeDesc.a,int->Go.TypeDesc.b,pointer->Go.TypeDesc.c,tuple->Go.TypeDesc.J,bool->Go.TypeDesc.e,string->Go.TypeDesc.g,struct->Go.TypeDesc.d
open Go.TypeInfo renaming size->Go.TypeInfo.j
open Go.Value renaming int->aI,agg->bY,string->iC,bool->bL,oneCell'->cO,float->vJ,cells->bW,cells->Go.Value.D,slice->Go.Value.a,int->Go.Value.b,pointer->Go.Value.c,agg->Go.Value.d,tuple->Go.Value.J,bool->Go.Value.e,ownBlock->Go.Value.f,oneCell'->Go.Value.h,string->Go.Value.g
open Go.World renaming cell?_alloc_lt->vI,cell?_setCell_other->wu,setCell->gY,cell?->DR,frozen?->sj,setCells->Cr,ownsRow_lit->pW,ownsRow_nil->fE,heap->Go.World.a,cell?->Go.World.b,setCell->Go.World.F,ownsRow->Go.World.c,there->Go.World.O,grownBy->Go.World.d
open Go.World.grownBy renaming size->Go.World.grownBy.j
open Go.World.ownsRow renaming cells->Go.World.ownsRow.D
open Ieee renaming double->vO
open Int renaming lt_or_le->wG,natCast_emod->GX,toNat->Int.e
open List renaming getElem?_eq_getElem->aC,getElem?_drop->je,length_take->bJ,getElem?_eq_none->aS,mem_map->gT,getElem?_map->jA,getD_eq_getElem?_getD->au,eq_nil_of_length_eq_zero->bE,map_map->GY,map_cons->kI,range->dV,foldl_cons->jU,length_cons->bB,take_succ_eq_append_getElem->dP,take_of_length_le->aK,mem_append_left->Am,append_nil->uK,getElem?_toArray->dZ,map_congr_left->BJ,mem_range->eu,zipIdx_cons->Gu,length_set->aV,take_append_drop->iG,ext_getElem?->iJ,flatMap_cons->iK,getElem?_append_left->mO,getElem?_append_right->qZ,length_append->aR,ofFn->Gv,drop_eq_getElem_cons->kS,getElem_mem->dX,getElem?_append->kQ,nil_append->dF,all_eq_true->gF,findIdx?_eq_some_iff_getElem->gV,append_assoc->dB,take_append_of_le_length->gu,drop_of_length_le->iQ,mem_cons->bC,replicate->dS,getElem?_range->wM,set_cons_succ->bG,getElem?_set->fF,pairwise_cons->gI,length->List.a,toArray->List.b,getD->List.c,take->List.d,drop->List.f,flatMap->List.h,below->List.S
open Nat renaming add_assoc->ng,mul_le_mul_right->cZ,lt_or_ge->aZ,eq_zero_or_pos->dW,le_trans->aO,lt_of_lt_of_le->eO,le_refl->av,zero_add->bl,shiftLeft_eq->mF,pow_le_pow_right->nO,min_eq_left->ou,min_eq_right->zX,lt_succ_self->mG,mul_one->gB,succ_mul->Jg,mul_comm->Cu,div_lt_iff_lt_mul->zP,mod_lt->fC,add_zero->nE,two_pow_pos->nG,pow_add->pV,ne_of_gt->uD,le_of_lt_succ->EM,zero_mul->Jh,mod_eq_of_lt->fK,add_comm->uE,min->qj,mul_le_mul->gP,succ_pos->mI,le_succ->Lp,le_of_eq->aX,below->Nat.S
open Ne renaming symm->jl
open Option renaming map_some->mZ,getD_some->jr,toList->Option.a,getD->Option.c
open Option.some renaming injEq->tQ
open Or renaming inl->Or.a,inr->Or.b
open UInt8 renaming ofNat->aJ,toNat_ofNat'->Ct,toNat_inj->lV,lt_iff_toNat_lt->zB,lt_irrefl->kC,lt_trans->sZ,toNat->UInt8.e,toNat_lt->UInt8.a
open Vector renaming ofFn->DK,replicate->bF,toList->Vector.a
namespace Go.Proofs.YtkjojjopamaoiaaGreat
open Go.RowKit
abbrev gU(w:World)(v:Value):Ending->World->Prop:=fun e w'=>e=.returned v/\Below w.heap.size w w'
abbrev aA:Value:=.int .u8 0
abbrev bg:Value:=.int .i64 0
theorem tV{α:Type _}(x:α):∃y,x=y:=⟨_,rfl⟩
theorem dw{α:Type _}(x:α):∃y,y=x:=⟨_,rfl⟩

theorem aoc(a b:Nat):((a:Int)==(b:Int))=(a==b):=by rw[bZ];simp;omega
theorem AL(a:aT)(n:Nat):(a.add n).block=a.block:=by unfold qX;split<;>rfl
theorem abn(a:aT)(i j:Nat):(a.add i).add j=a.add (i+j):=by
 unfold qX;by_cases hi:i=0<;>by_cases hj:j=0<;>simp[hi,hj,ng]
theorem NQ(a:aT):a.add 0=a:=by unfold qX;simp
def Rd(w:ak)(B size:Nat)(A:Option aT)(n:Nat)(xs:List aB):Prop:=
 xs.a=n*size/\(0<n->∃a,A=some a/\a.block<B/\∀j u,xs[j]? = some u->w.b (a.add j)=some u)
section
variable {w w':ak} {B B' size n:Nat} {A:Option aT} {xs:List aB}
theorem Rd.nil:Rd w B size A 0 []:=⟨by simp,fun h=>absurd h (by omega)⟩
theorem Rd.pick{k:Nat}(h:Rd w B 1 A n xs)(hk:k<n):∃a u,A=some a/\a.block<B/\xs[k]? = some u/\w.b (a.add k)=some u:=by
 obtain⟨a,e,hb,hc⟩:=h.2 (by omega);have hl:k<xs.a:=by have:=h.1;omega
 exact⟨a,xs[k],e,hb,aC hl,hc k _ (aC hl)⟩
theorem Rd.keep(h:Rd w B size A n xs)(hk:∀p:aT,p.block<B->w'.b p=w.b p):Rd w' B size A n xs:=
 ⟨h.1,fun hn=>by
  obtain⟨a,e,hb,hc⟩:=h.2 hn;exact⟨a,e,hb,fun j u hu=>(hk _ (by rw[AL];exact hb)).trans (hc j u hu)⟩⟩
theorem Rd.lu(h:Rd w B size A n xs)(hB:B<=B'):Rd w B' size A n xs:=
 ⟨h.1,fun hn=>by
  obtain⟨a,e,hb,hc⟩:=h.2 hn;exact⟨a,e,by omega,hc⟩⟩
theorem Rd.S(h:Rd w B size A n xs)(hb:aM B w w'):Rd w' B size A n xs:=h.keep fun _ hp=>hb.cell hp
theorem Rd.to{C:Nat}(h:Rd w B size A n xs)(hb:aM C w w')(hC:B<=C):Rd w' B size A n xs:=h.keep fun _ hp=>hb.cell (by omega)
theorem Rd.alloc(h:Rd w B size A n xs)(hB:B<=w.a.j)(o:Obj):Rd (w.alloc o) B size A n xs:=h.keep fun p hp=>vI w o p (by omega)
theorem Rd.F(h:Rd w B size A n xs){p:aT}(hB:B<=p.block)(u:aB):Rd (w.F p u) B size A n xs:=
 h.keep fun q hq=>wu w p q u (fun e=>by subst e;omega)
theorem Rd.cut(h:Rd w B size A n xs){k cap:Nat}(hk:k<=n)(hc:n<=cap):
 Rd w B size (if cap=k then A else A.map (·.add (k*size))) (n-k) (xs.f (k*size)):=by
 refine⟨by rw[List.length_drop,h.1,Nat.sub_mul],fun hn=>?_⟩;obtain⟨a,rfl,hb,hcell⟩:=h.2 (by omega);rw[if_neg (by omega)];refine⟨a.add (k*size),rfl,by rw[AL];exact hb,fun j u hu=>?_⟩;rw[abn];exact hcell _ u (by rw[<-hu,je])
theorem Rd.upto(h:Rd w B size A n xs){k:Nat}(hk:k<=n):Rd w B size A k (xs.d (k*size)):=by
 refine⟨by rw[bJ,h.1];have:=cZ size hk;omega,fun hn=>?_⟩;obtain⟨a,rfl,hb,hcell⟩:=h.2 (by omega);refine⟨a,rfl,hb,fun j u hu=>?_⟩;rcases aZ j (k*size)with h1|h1
 ·rw[List.getElem?_take_of_lt h1]at hu
  exact hcell j u hu
 ·rw[aS (by rw[bJ];omega)]at hu;cases hu
theorem Rd.iY{base:Nat}{e:bK}{c:Nat}(h:w.c base e size (.a A n c) n xs):Rd w w.a.j size A n xs:=by
 refine⟨h.1,fun hn=>?_⟩;rcases h.2 with⟨_,h0⟩|⟨g,cap,cur,hv,_,_,_,_,_,_⟩
 ·omega
 ·injection hv with hA _ _
  have hl:=(h.lt g (by rw[hA];rfl)).2;exact⟨⟨g,0,none⟩,hA,hl,h.D (by rw[hA];rfl)⟩
end
def bv(b:UInt8):aB:=.b .b (b.e:Nat)
theorem Jp(l:List UInt8):∀u∈l.map bv,u.h=true:=by
 intro u hu;obtain⟨b,_,rfl⟩:=gT.1 hu;rfl
def fP(w:ak)(B:Nat)(A:Option aT)(n:Nat)(l:List UInt8):Prop:=Rd w B 1 A n (l.map bv)
section
variable {w w':ak} {B B' n:Nat} {A:Option aT} {l:List UInt8}
theorem fP.len(h:fP w B A n l):l.a=n:=by have:=h.1;simpa using this
theorem fP.fD(h:fP w B A n l){k:Nat}(hk:k<n):∃a,A=some a/\a.block<B/\w.b (a.add k)=some (bv (l.c k 0)):=by
 obtain⟨a,u,e,hb,hu,hc⟩:=Rd.pick h hk;refine⟨a,e,hb,?_⟩;rw[hc];have hl:=h.len;rw[jA,aC (by omega)]at hu;simp only[mZ,tQ]at hu;rw[<-hu,au,aC (by omega)];rfl
theorem fP.S(h:fP w B A n l)(hb:aM B w w'):fP w' B A n l:=Rd.S h hb
theorem fP.to{C:Nat}(h:fP w B A n l)(hb:aM C w w')(hC:B<=C):fP w' B A n l:=Rd.to h hb hC
theorem fP.lu(h:fP w B A n l)(hB:B<=B'):fP w B' A n l:=Rd.lu h hB
theorem fP.alloc(h:fP w B A n l)(hB:B<=w.a.j)(o:Obj):fP (w.alloc o) B A n l:=Rd.alloc h hB o
theorem fP.F(h:fP w B A n l){p:aT}(hB:B<=p.block)(u:aB):fP (w.F p u) B A n l:=Rd.F h hB u
end
def bU(l:List UInt8):ByteArray:=⟨l.b⟩
theorem Pn(s:ByteArray):bU s.data.a=s:=by cases s;rfl
theorem Hr{P:eG}{w:ak}{B:Nat}{A:Option aT}{n:Nat}{l:List UInt8}(h:fP w B A n l)(src e dst:bK)
 (hs:P.k src=some (.a e)) (he:P.k e=some (.b .b)) (hd:P.k dst=some .g) (c:Nat) :
 (convert src dst (.a A n c)).I P w=.ok (.g (bU l)) w:=by
 have hlen:=h.len;cases A with
 | none=>
   have h0:n=0:=by
    rcases dW n with h0|h0
    ·exact h0
    ·obtain⟨a,ha,_⟩:=h.2 h0;cases ha
   have hl:l=[]:=bE (by omega);subst hl;rw[run_convert_bytes_nil w src e hs he n c dst hd];rfl
 | some a=>
   have hld:(loadCells a n).I P w=.ok ((l.map fun b=>(b.e:Int)).map (aI .b)).b w:=by
    have hm:(l.map fun b=>(b.e:Int)).map (aI .b)=l.map bv:=by rw[GY];rfl
    rw[hm];have:=run_loadCells_list (P:=P) w a (l.map bv) (fun j v hj=>by
     have hn:0<n:=by
      rcases dW n with h0|h0
      ·have hl:l=[]:=bE (by omega)
       subst hl;simp at hj
      ·exact h0
     obtain⟨a',ha,_,hc⟩:=h.2 hn;injection ha with ha
     subst ha;exact hc j v hj)
    simpa[hlen]using this
   rw[run_convert_bytes_string w src dst e _ n c hs he hd,run_bytesToString w _ n c _ hld,foldl_push_bytes];simp[bU,ByteArray.empty,ByteArray.emptyWithCapacity,GY,Function.comp_def];rfl
theorem Ao{a w:ak}{row:Option Nat}(h:a.d w row):a.d w.drew row:=⟨h.os,h.tape,h.output,h.j,h.block⟩
theorem xM{a w:ak}{g:Nat}(h:a.d w (some g)){p:aT}(hp:p.block=g\/a.a.j<=p.block)(u:aB):a.d (w.F p u) (some g):=
 ⟨h.os,h.tape,h.output,by simpa[gY]using h.j,fun i hi hne=>(qV w p u i (by
  rintro rfl;rcases hp with hp|hp
  ·exact hne (by rw[hp])
  ·omega)).trans (h.block i hi hne)⟩
theorem LC{a b c:ak}{row:Option Nat}(h:a.d b row)(k:b.d c row):a.d c row:=
 ⟨k.os.trans h.os,k.tape.trans h.tape,k.output.trans h.output,aO h.j k.j,fun i hi hne=>(k.block i (eO hi h.j) hne).trans (h.block i hi hne)⟩
theorem tT{B:Nat}{a b c:ak}{g:Nat}(h:aM B a b)(k:b.d c (some g))(hg:B<=g)(hB:B<=b.a.j):aM B a c:=
 h.grown k hB (fun x hx=>by injection hx with hx;omega)
theorem fH{B:Nat}{a w:ak}(h:aM B a w)(n:Nat):aM B a (w.drewN n):=⟨h.os,h.tape,h.output,h.j,h.block⟩
theorem jh{w a b:ak}(h1:aM w.a.j w a)(h2:aM a.a.j a b):aM w.a.j w b:=h1.trans (h2.g h1.j)
theorem dig(n:Nat)(h:n<256):(aJ n).e=n:=by simp[UInt8.toNat_ofNat];omega
theorem jS{w:ak}{base:Nat}{e:bK}{size:Nat}{v:aB}{n:Nat}{xs:List aB}(h:w.c base e size v n xs):∃A cap,v=.a A n cap/\n<=cap/\cap<=maxLen:=by
 rcases h.2 with⟨rfl,rfl⟩|⟨g,cap,cur,rfl,_,_,h1,h2,_,_⟩
 ·exact⟨_,_,rfl,av _,by unfold maxLen;omega⟩
 ·exact⟨_,_,rfl,h1,h2⟩
section
variable {P:eG} (w:ak)
theorem abo(base:Nat)(t ty e:bK)(i:nJ)(size:Nat)(ht:P.k t=some (.a e))(hi:P.l e=some i)
 (v:aB) (n:Nat) (xs:List aB) (hown:w.c base e size v n xs) (c:Nat):(zW #[t,t] ty #[v,.a none 0 c]).I P w=.ok v w:=by
 rcases hown.2 with⟨rfl,rfl⟩|⟨g,cap,cur,rfl,_,_,hnc,_⟩
 ·simp[zW,dJ ht,sizeOf,typeInfo,hi,Builtin.lenOf,tO]
 ·simp[zW,dJ ht,sizeOf,typeInfo,hi,Builtin.lenOf,tO,hnc,storeCells]
theorem ad7(base:Nat)(t ty e:bK)(i:nJ)(z:aB)(size bytes:Nat)(ht:P.k t=some (.a e))(hi:P.l e=some i)(hz:i.zero=some z)
 (hsize:i.j=size) (hby:i.bytes=bytes) (hzs:z.D.j=size) (hsz:0<size)
 (v:aB) (n:Nat) (xs:List aB) (hown:w.c base e size v n xs)
 (B:Nat) (A:Option aT) (m c:Nat) (news:List aB) (hr:Rd w B size A m news) (h1:∀u∈news,u.h=true)
 (h63:n+m<=maxLen) (hbytes:(n+m)*bytes<=140737488355328) (hbase:base<=w.a.j) :
 ∃v' w',(zW #[t,t] ty #[v,.a A m c]).I P w=.ok v' w'/\w'.c base e size v' (n+m) (xs++news)/\w.d w' v.f /\
  (v'.f=v.f\/v'.f=some w.a.j):=by
 rcases A with _|ad
 ·have hm:m=0:=by
   rcases dW m with h0|h0
   ·exact h0
   ·obtain⟨ad,h,_⟩:=hr.2 h0
    cases h
  subst hm;have hn:news=[]:=bE (by simpa using hr.1);subst hn;exact⟨v,w,abo w base t ty e i size ht hi v n xs hown c,by simpa using hown,World.grownBy.refl w _,.a rfl⟩
 ·have hcells:∀j u,news[j]? = some u->w.b (ad.add j)=some u:=by
   intro j u hu;rcases dW m with h0|h0
   ·subst h0
    have hn:news=[]:=bE (by simpa using hr.1);subst hn;simp at hu
   ·obtain⟨ad',h,_,hc⟩:=hr.2 h0
    injection h with h
    subst h;exact hc j u hu
  obtain⟨v',w',hrun,h2,h3,_,h5⟩:=run_append_own_at (P:=P) w base t ty e i z size bytes ht hi hz hsize hby hzs hsz v n xs hown ad m c news hr.1 hcells h1 h63 hbytes hbase;exact⟨v',w',hrun,h2,h3,h5⟩
theorem Jq{o:iV}{a:qQ}{K:qQ->ak->Prop}{Q:zO->qQ->ak->Prop}(s x:pG)(t:bK)
 (ho:o.op=.call {callee:=.builtin .append,args:=#[s,x],argTypes:=#[t,t]})
 (base:Nat) (e:bK) (i:nJ) (z:aB) (size bytes:Nat) (ht:P.k t=some (.a e)) (hi:P.l e=some i) (hz:i.zero=some z)
 (hsize:i.j=size) (hby:i.bytes=bytes) (hzs:z.D.j=size) (hsz:0<size)
 (v:aB) (n:Nat) (xs:List aB) (hs:a.eval s=v) (hown:w.c base e size v n xs)
 (B:Nat) (A:Option aT) (m c:Nat) (news:List aB) (hx:a.eval x=.a A m c) (hr:Rd w B size A m news) (h1:∀u∈news,u.h=true)
 (h63:n+m<=maxLen) (hbytes:(n+m)*bytes<=140737488355328) (hbase:base<=w.a.j)
 (h:∀v' w',w'.c base e size v' (n+m) (xs++news)->w.d w' v.f->(v'.f=v.f\/v'.f=some w.a.j)->K (a.put o.Y v') w'):o.wp P a w K Q:=by
 obtain⟨v',w',hrun,h2,h3,h4⟩:=ad7 (P:=P) w base t o.p e i z size bytes ht hi hz hsize hby hzs hsz v n xs hown B A m c news hr h1 h63 hbytes hbase;unfold nu execOp;simp only[ho,resolve,invoke,builtin,jI,oh,gH,List.map_toArray,kI,List.map_nil,hs,hx,hrun];exact h v' w' h2 h3 h4
theorem jG{ops:Array iV}{rest:List iV}{o:iV}{a:qQ}{Q:zO->qQ->ak->Prop}(hgd:o.guard=none)(s x:pG)(t:bK)
 (ho:o.op=.call {callee:=.builtin .append,args:=#[s,x],argTypes:=#[t,t]})
 (base:Nat) (e:bK) (i:nJ) (z:aB) (size bytes:Nat) (ht:P.k t=some (.a e)) (hi:P.l e=some i) (hz:i.zero=some z)
 (hsize:i.j=size) (hby:i.bytes=bytes) (hzs:z.D.j=size) (hsz:0<size)
 (v:aB) (n:Nat) (xs:List aB) (hs:a.eval s=v) (hown:w.c base e size v n xs)
 (B:Nat) (A:Option aT) (m c:Nat) (news:List aB) (hx:a.eval x=.a A m c) (hr:Rd w B size A m news) (h1:∀u∈news,u.h=true)
 (h63:n+m<=maxLen) (hbytes:(n+m)*bytes<=140737488355328) (hbase:base<=w.a.j)
 (h:∀v' w',w'.c base e size v' (n+m) (xs++news)->w.d w' v.f->(v'.f=v.f\/v'.f=some w.a.j)->wpList P ops Q rest (a.put o.Y v') w'):wpList P ops Q (o::rest) a w:=
 sV hgd fun _ hK=>Jq w s x t ho base e i z size bytes ht hi hz hsize hby hzs hsz v n xs hs hown B A m c news hx hr h1 h63 hbytes hbase fun v' w' h2 h3 h4=>hK _ _ (h v' w' h2 h3 h4)
end
theorem KE:(ah.l 5).map (fun i=>(i.zero,i.j,i.bytes))=some (some (.b .b 0),1,1):=by kernel_rfl
def Ht(n i:Nat):UInt8:=aJ (n/2^(8*i))
def vU(n k:Nat):List UInt8:=(dV k).map (Ht n)
def iN(n k:Nat)(big:Bool):List UInt8:=if big then(vU n k).reverse else vU n k
theorem akf(f:Nat->Int)(k m n i:Nat)(hm:m+k+1=n)(hkm:k<m)(hi:i<n)(x y:Int)(hx:x=f k)(hy:y=f m):
 (if i=m then aI .b x else if i=k then aI .b y else aI .b (if i<k\/n-k<=i then f (n-1-i)else f i)) =
  aI .b (if i<k+1\/n-(k+1)<=i then f (n-1-i)else f i):=by
 subst hx hy;by_cases h1:i=m
 ·subst h1
  rw[if_pos rfl,if_pos (by omega)];congr 2;omega
 ·rw[if_neg h1]
  by_cases h2:i=k
  ·subst h2
   rw[if_pos rfl,if_pos (by omega)];congr 2;omega
  ·rw[if_neg h2]
   by_cases h3:i<k\/n-k<=i
   ·rw[if_pos h3,if_pos (by omega)]
   ·rw[if_neg h3,if_neg (by omega)]
theorem abp(g n c:Nat)(f:Nat->Int)(w:ak)(hb:w.rowIs g 5 n (fun j=>.b .b (f j)))(hn:n<=4611686018427387904):
 aQ ah 255 #[.a (some ⟨g,0,none⟩) n c] w fun e w'=>e=.a (.J #[]) /\
  w'.rowIs g 5 n (fun j=>.b .b (f (n-1-j)))/\w.d w' (some g):=by
 go_enter Tryz.func255,Tryz.ntmps255;go_wp2;go_loopw [2,3] (fun s2 s3 wr=>∃k:Nat,2*k<=n+1/\s2=.b .a k/\s3=.b .a ((n:Int)-1-k)/\wr.rowIs g 5 n (fun j=>.b .b (if j<k\/n-k<=j then f (n-1-j)else f j))/\w.d wr (some g)) (fun _ s3 _=>(intOf s3+1).e)
 case atStart=>exact⟨0,by omega,rfl,by simp,hb.congr (fun i hi=>by rw[if_neg (by omega)]),World.grownBy.refl _ _⟩
 case round=>
  obtain⟨k,hk,rfl,rfl,hrow,hg⟩:=hrel;by_cases hlt:(k:Int)<(n:Int)-1-k
  ·obtain⟨m,hm⟩:∃m:Nat,(n:Int)-1-k=m:=⟨n-1-k,by omega⟩
   have hm1:k<m:=by omega
   have hm2:m+k+1=n:=by omega
   rw[hm]at hlt ⊢;clear hm;have HM:=ab hm2;have c1:=hrow.cell (i:=k) (by omega);have c2:=hrow.cell (i:=m) (by omega);have f1:=hrow.frozen k;have f2:=hrow.frozen m;rw[if_neg (by omega)]at c1 c2;have hb1:(k:Int)<n:=by omega
   have hb2:(m:Int)<n:=by omega
   clear hm2;obtain⟨x,hx⟩:=dw (f k);obtain⟨y,hy⟩:=dw (f m);rw[<-hx]at c1;rw[<-hy]at c2;have HX:=ab hx;have HY:=ab hy;clear hx hy;have HR:=ab hrow;clear hrow;go_wp2;go_region
   all_goals go_wp2
   all_goals go_roundw
   case rel=>
    have hm2:=HM.i;refine⟨k+1,by omega,by go_num,by simp<;>omega,?_,?_⟩
    ·refine(((HR.i.drew.set k _).set m _)).congr (fun i hi=>?_)
     exact akf f k m n i hm2 hm1 hi x y HX.i HY.i
    ·exact xM (xM (Ao hg) (.a rfl) _) (.a rfl) _
   case measure=>simp[intOf]<;>omega
  ·go_wp2
   go_end0;refine⟨rfl,hrow.congr (fun i hi=>?_),hg⟩;by_cases h1:i<k\/n-k<=i
   ·rw[if_pos h1]
   ·rw[if_neg h1]
    have:n-1-i=i:=by omega
    rw[this]
theorem akg(n i:Nat):((Ht n i).e:Int)=(n:Int)/2^(8*i)%256:=by
 unfold Ht;simp[UInt8.toNat_ofNat]
theorem aod(n k:Nat)(hk:k<=8)(hn:n<18446744073709551616)(big:Bool)(w:ak):
 aQ ah 184 #[.b .c n,.b .a k,.e big] w fun e w'=>e=.a (.a (some ⟨w.a.j,0,none⟩) k k) /\
  w'.rowIs w.a.j 5 k (fun j=>bv ((iN n k big).c j 0))/\aM w.a.j w w':=by
 have hmk:=run_make_row' (P:=ah) 56 5 (.b .b 0) 1 cB KE rfl .a .a k (by omega) (by omega);go_enter Tryz.func184,Tryz.ntmps184;go_wp2;go_loopw [15] (fun s15 wr=>∃i:Nat,i<=k/\s15=.b .a i/\wr.rowIs w.a.j 5 k (fun j=>if j<i then bv (Ht n j)else .b .b 0)/\aM w.a.j w wr) (fun s15 _=>k-(intOf s15).e)
 case atStart=>
  refine⟨0,by omega,rfl,?_,(aG _ _).alloc (av _) _⟩;exact(World.rowIs_made w (.b .b 0) k _).congr (fun i hi=>by simp)
 case round=>
  obtain⟨i,hi,rfl,hrow,hb⟩:=hrel;by_cases hlt:i<k
  ·have c1:=hrow.cell hlt
   have f1:=hrow.frozen i;rw[if_neg (by omega)]at c1;have hlb:=akg n i;have HL:=ab hlb;have HR:=ab hrow;have HB:=ab hb;clear hlb hrow hb hmk;go_wp2;go_roundw
   case rel=>
    refine⟨i+1,by omega,by go_num,?_,?_⟩
    ·refine(HR.i.set i _).congr (fun j hj=>?_)
     by_cases e:j=i
     ·subst e
      rw[if_pos rfl,if_pos (by omega)];unfold bv;rw[HL.i]
     ·rw[if_neg e]
      by_cases e2:j<i
      ·rw[if_pos e2,if_pos (by omega)]
      ·rw[if_neg e2,if_neg (by omega)]
    ·exact HB.i.F (av _) _
   case measure=>simp[intOf]<;>omega
  ·obtain rfl:i=k:=by omega
   have HB:=ab hb;clear hb hmk;cases big
   ·have HR:=ab hrow
    clear hrow;go_wp2;go_ret;refine⟨rfl,HR.i.congr (fun j hj=>?_),HB.i⟩;rw[if_pos hj];simp[iN,vU,au,hj]
   ·have hrow2:wr.rowIs w.a.j 5 i (fun j=>.b .b ((Ht n j).e:Nat)):=hrow.congr (fun j hj=>by rw[if_pos hj];rfl)
    have hrev:=fun c=>abp w.a.j i c (fun j=>((Ht n j).e:Nat)) wr hrow2 (by omega)
    clear hrow hrow2;go_wp2_with (go_at_call 255;refine(hrev _).g ?_;rintro e w' ⟨rfl,hr',hg'⟩);go_ret;refine⟨rfl,hr'.congr (fun j hj=>?_),tT HB.i hg' (av _) HB.i.j⟩;simp[iN,vU,au,List.getElem?_reverse,hj,bv]
def oC(l:List UInt8):Nat:=l.foldl (fun a c=>a*256+c.e) 0
theorem Hu(l:List UInt8)(c:UInt8):oC (l++[c])=oC l*256+c.e:=by simp[oC]
theorem Jr(l:List UInt8):oC l<256^l.a:=by
 have key:∀(l:List UInt8)(a k:Nat),a<256^k->l.foldl (fun a c=>a*256+c.e) a<256^(k+l.a):=by
  intro l
  induction l with
  | nil=>intro a k h;simpa using h
  | cons c l ih=>
    intro a k h;have:=ih (a*256+c.e) (k+1) (by rw[Nat.pow_succ];have:=c.a;omega);simp only[jU,bB];rw[show k+(l.a+1)=k+1+l.a by omega];exact this
 have:=key l 0 0 (by simp);rw[bl]at this;exact this
theorem Sm(l:List UInt8)(k:Nat)(h:k<l.a):l.d (k+1)=l.d k++[l.c k 0]:=by
 rw[dP h,au,aC h];rfl
theorem agk(a c:Nat)(ha:a*256<18446744073709551616)(hc:c<256):bits .or .c ((a:Int)*256) (c:Int)=((a*256+c:Nat):Int):=by
 rw[show(a:Int)*256=((a*256:Nat):Int)by omega,bits_or_u64_nat _ _ ha (by omega)];rw[show a*256=a <<< 8 by rw[mF],Nat.shiftLeft_add_eq_or_of_lt (by omega)]
theorem LG(A:Option aT)(n c:Nat)(l:List UInt8)(w:ak)(hnc:n<=c)(hc:c<=9223372036854775807)(hr:fP w w.a.j A n l):
 aQ ah 180 #[.a A n c,.e true] w (gU w (.b .c (oC (l.d 8)))):=by
 have hlen:=hr.len;have hr2:=hr.alloc (av _) (.D #[.b .c 0] 92);obtain⟨m,hm,hm8,hmn⟩:∃m:Nat,(if(8:Int)<(n:Int)then(8:Int)else(n:Int))=m/\m<=8/\m<=n:=⟨min n 8,by split<;>omega,by omega,by omega⟩
 have hmm:m=min n 8:=by split at hm<;>omega
 have HMM:=ab hmm;have hnl:n<=l.a:=by omega
 have HLEN:=ab hlen;clear hlen hmm;go_enter Tryz.func180,Tryz.ntmps180;go_wp2;have HM:=ab hm;clear hm;go_loopw [18] (fun s18 wr=>∃i:Nat,i<=m/\s18=.b .a i/\wr.rowIs w.a.j 92 1 (fun _=>.b .c (oC (l.d i)))/\fP wr w.a.j A n l/\aM w.a.j w wr) (fun s18 _=>m-(intOf s18).e)
 case atStart=>exact⟨0,by omega,rfl,(World.rowIs_alloc w #[.b .c 0] _ _ (fun i hi=>by simp at hi;subst hi;rfl)),hr2,(aG _ _).alloc (av _) _⟩
 case round=>
  obtain⟨i,hi,rfl,hrow,hrd,hb⟩:=hrel;by_cases hlt:i<m
  ·obtain⟨a,rfl,hab,hcell⟩:=hrd.fD (k:=i) (by omega)
   have c1:=hrow.cell (i:=0) (by omega);have f1:=hrow.frozen 0;have hbn:=Jr (l.d i);have hsn:=Hu (l.d i) (l.c i 0);rw[<-Sm l i (by omega)]at hsn;have Xb:oC (l.d i)*256<18446744073709551616:=by
    have h1:(l.d i).a<=7:=by rw[bJ];omega
    have h2:256^(l.d i).a<=256^7:=nO (by omega) h1;omega
   have hor:=agk (oC (l.d i)) (l.c i 0).e Xb (l.c i 0).a;have Dv:=ab hsn;have HR:=ab hrow;have HD:=ab hrd;have HB:=ab hb;have ahy:=(l.c i 0).a;unfold bv at hcell;generalize(l.c i 0).e=ch at hcell hor ahy Dv;generalize oC (l.d i)=nn at c1 Xb hor Dv HR;clear hrow hrd hb hsn hbn hr hr2;go_wp2;go_roundw
   case rel=>
    refine⟨i+1,by omega,by go_num,?_,?_,?_⟩
    ·refine(HR.i.set 0 _).congr (fun j hj=>?_)
     rw[if_pos (by omega),Dv.i];go_num
    ·exact HD.i.F (av _) _
    ·exact HB.i.F (av _) _
   case measure=>simp[intOf]<;>omega
  ·obtain rfl:i=m:=by omega
   have c1:=hrow.cell (i:=0) (by omega);have HB:=ab hb;clear hrow hrd hb hr hr2;go_wp2;go_ret;refine⟨?_,HB.i⟩;have hmm:=HMM.i;have hlen:=HLEN.i;have e:l.d 8=l.d i:=by
    rw[hmm];by_cases h8:n<=8
    ·rw[ou h8,aK (by omega),aK (by omega)]
    ·rw[zX (by omega)]
   rw[e];rfl
section
open Go.ChangeShapes Go.WideShapes Go.ChangeAt Go.RowKit
theorem vC:ownKnob ah.godebug=none:=by kernel_rfl
theorem agl:laidOutB ah=true:=by kernel_rfl
section
variable {H:Type} {enc:bK×aB->H} {P:eG}
theorem Kh(hl:laidOutB P=true){W W':ak}(hb:aM W.a.j W W'):∀{ts:List bK} {vs:List aB} {ds:List (yL H)} {ps:List rT},
 (ts.all fun t=>P.readableRec t&&decide (t<P.types.j))=true->(∀x∈ps,x.block<W.a.j) ->
 DataW.TrodAll enc P W 0 (fun _=>true) true ts vs ds ps->DataW.TrodAll enc P W' 0 (fun b=>decide (b<W.a.j)) true ts vs ds ps
 | [],vs,ds,ps,_,_,h=>by
   obtain⟨rfl,rfl,rfl⟩:=trodAll_nil h;exact trodAll_mk0
 | t::ts,vs,ds,ps,hr,hlt,h=>by
   obtain⟨v,vs',d,ds',p,q,rfl,rfl,rfl,h1,h2⟩:=trodAll_cons h;simp only[List.all_cons,bf,decide_eq_true_eq]at hr;exact trodAll_cons_mk (Below.trod hl hr.1.1 hr.1.2 h1 hb (fun x hx=>hlt x (Am _ hx)))
    (Kh hl hb hr.2 (fun x hx=>hlt x (List.mem_append_right _ hx)) h2)
theorem akh{f:Func}{s:ChangeSpec}(hl:laidOutB P=true){W W':ak}{args:Array aB}{ds gs:List (yL H)}{before:List rT}
 (hvars:s.vars=[]) (hr:(f.params.a.all fun t=>P.readableRec t&&decide (t<P.types.j))=true) (T:bK) (hT:P.k T=some .e) (hres:f.resultTypes = #[T])
 (hW:DataW.Whole enc P f.params.a s.vars false W args.a ds gs before)
 (hs:s.fn H ds={results:=[.lit (.e true)],args:=ds})
 (hb:aM W.a.j W W'):s.post enc P f false true false false W args (.e true) W':=by
 have hlt:∀p∈before,p.block<W.a.j:=fun p hp=>hW.lt p hp
 have hW':=hW;obtain⟨p,q,hA,hV,rfl,hfz,hnd⟩:=hW;rw[hvars]at hV;obtain⟨rfl,rfl⟩:=trodVars_none hV;refine⟨ds,[],p++[],[],p,[],hW',?_,?_,?_,?_,fun h=>by cases h⟩
 ·rw[uK,hs,hres]
  exact trodAll_mk1 (shut_bool hT true)
 ·rw[uK,hs]
  exact Kh hl hb hr (fun x hx=>hlt x (Am _ hx)) hA
 ·rw[uK,hs,hvars]
  rfl
 ·exact hb.frame _
end
end
@[go_sem,simp]theorem Ki(l:List UInt8):(bU l).a=l:=ByteArray.toList_mk l
@[go_sem,simp]theorem Cv(l:List UInt8):(bU l).j=l.a:=by simp[bU,ByteArray.size]
def sD(w:ak)(e:bK)(s:List UInt8):ak:=Lib.bytesWorld w e (bU s)
theorem Gh(w:ak)(e:bK)(s:List UInt8):aM w.a.j w (sD w e s):=
 ⟨rfl,rfl,rfl,by unfold sD;rw[Lib.bytesWorld_size];omega,fun k hk=>Lib.bytesWorld_at_old w e _ k hk⟩
theorem Gi(w:ak)(e:bK)(s:List UInt8):fP (sD w e s) (w.a.j+1) (some ⟨w.a.j,0,none⟩) s.a s:=by
 refine⟨by simp,fun _=>⟨_,rfl,mG _,fun j u hu=>?_⟩⟩;have hj:j<s.a:=by
  rcases aZ j s.a with h1|h1
  ·exact h1
  ·rw[aS (by simpa using h1)]at hu;cases hu
 have e1:(⟨w.a.j,0,none⟩:aT).add j=⟨w.a.j,j,none⟩:=by unfold qX;split<;>simp_all
 rw[e1];unfold sD;rw[Lib.bytesWorld_cell w e _ j (by rw[Cv];exact hj)];rw[jA,aC hj]at hu;simp only[mZ,tQ]at hu;rw[<-hu];simp[bU,bv,au,hj]
theorem Hw{P:eG}(src dst e:bK)(hs:P.k src=some .g)(hd:P.k dst=some (.a e))(he:P.k e=some (.b .b))(s:List UInt8)(w:ak):
 (convert src dst (.g (bU s))).I P w=.ok (.a (some ⟨w.a.j,0,none⟩) s.a (grownCap w s.a 0 e)) (sD w e s):=by
 have:=Lib.run_convert_string_bytes (P:=P) w src dst e (bU s) hs hd he;rw[Cv]at this;exact this
section
open Go.RowKit Go.ChangeShapes Go.WideShapes Go.ChangeAt Go.Deep
def fv(n:Nat):aB:=.float .f64 n
@[go_sem]theorem aE8(n:Nat):fv n=.float .f64 n:=rfl
section
variable {P:eG}
theorem mR(w:ak)(c:Array aB)(t:bK)(j:Nat):(w.alloc (.D c t)).b ⟨w.a.j,j,none⟩=c[j]?:=
 sW _ _ j c t (0,0) (heap_alloc_last w _)
end
def xA(W:ak)(b o n:Nat):Prop:=∀j,j<n->∃v,W.b ⟨b,o+j,none⟩=some v
def dY(W:ak)(b o n:Nat):Array aB:=((dV n).map fun j=>(W.b ⟨b,o+j,none⟩).c undef).b
theorem EP(W:ak)(b o n:Nat):(dY W b o n).j=n:=by simp[dY]
theorem Hy(W:ak)(b o n j:Nat)(hj:j<n):(dY W b o n)[j]? = some ((W.b ⟨b,o+j,none⟩).c undef):=by
 simp[dY,dZ,hj]
theorem wS{W:ak}{b o n:Nat}{c:Array aB}(hn:c.j=n)(h:∀j,j<n->W.b ⟨b,o+j,none⟩=c[j]?):xA W b o n/\dY W b o n=c:=by
 subst hn;constructor
 ·intro j hj
  exact⟨c[j],by rw[h j hj];exact eZ hj⟩
 ·apply dU
  intro j;rcases aZ j c.j with hj|hj
  ·rw[Hy _ _ _ _ _ hj,h j hj,eZ hj];rfl
  ·rw[aU (by rw[EP];exact hj),aU hj]
theorem ER{W W':ak}{b o n:Nat}(h:∀j,j<n->W'.b ⟨b,o+j,none⟩=W.b ⟨b,o+j,none⟩):dY W' b o n=dY W b o n:=by
 unfold dY;congr 1;refine BJ (fun j hj=>?_);rw[h j (eu.1 hj)]
@[go_sem]theorem awe(W:ak)(b o n:Nat):xA W.drew b o n=xA W b o n:=by rw[eq_iff_iff];exact Iff.rfl
@[go_sem]theorem aoe(W:ak)(b o n:Nat):dY W.drew b o n=dY W b o n:=rfl
@[go_sem]theorem avl(W:ak)(k b o n:Nat):xA (W.drewN k) b o n=xA W b o n:=by rw[eq_iff_iff];exact Iff.rfl
@[go_sem]theorem anT(W:ak)(k b o n:Nat):dY (W.drewN k) b o n=dY W b o n:=rfl
@[go_sem]theorem anU(W:ak)(ob:Obj)(b o n:Nat)(hb:b<W.a.j):dY (W.alloc ob) b o n=dY W b o n:=
 ER fun j _=>vI W ob _ hb
@[go_sem]theorem anV(W:ak)(ob:Obj)(b o n:Nat)(hb:b<W.a.j):xA (W.alloc ob) b o n=xA W b o n:=by
 have h:∀j,(W.alloc ob).b ⟨b,o+j,none⟩=W.b ⟨b,o+j,none⟩:=fun j=>vI W ob _ hb
 unfold xA;simp only[h]
theorem YN(w:ak)(c:Array aB)(t:bK)(o n:Nat)(d:Array aB)(hd:d.j=n)(h:∀j,j<n->c[o+j]? = d[j]?):
 xA (w.alloc (.D c t)) w.a.j o n/\dY (w.alloc (.D c t)) w.a.j o n=d:=
 wS hd fun j hj=>by rw[mR];exact h j hj
theorem j5{P:eG}(W:ak)(b o n:Nat)(ty:bK)(d:TypeDesc)(hu:P.k ty=some d)(hd:d.isRow=true)(hi:(P.l ty).map (·.j)=some n)(h:xA W b o n):
 (cu ty (.c (some ⟨b,o,none⟩))).I P W=.ok (.d (dY W b o n)) W:=by
 have hc:W.rangeAt b o (dY W b o n).a:=fun j v hv=>by
  have hj:j<n:=by
   rcases aZ j n with h1|h1
   ·exact h1
   ·rw[aS (by rw[aY,EP];exact h1)]at hv;cases hv
  rw[dD,Hy _ _ _ _ _ hj]at hv;obtain⟨u,hu⟩:=h j hj;rw[hu]at hv ⊢;exact hv
 have:=run_loadAt_mid (P:=P) W b o ty (dY W b o n).a d hc hu hd (by rw[hi,aY,EP]);simpa using this
theorem Po{w W:ak}{b o n B:Nat}(h:w.O b o n)(hb:aM B w W)(hlt:b<B):W.O b o n:=fun j hj=>by
 obtain⟨h1,h2⟩:=h j hj;exact⟨by rw[hb.cell hlt];exact h1,by rw[hb.frozen hlt];exact h2⟩
theorem ahz{w W:ak}{c:Array aB}{t:bK}(hb:aM (w.alloc (.D c t)).a.j (w.alloc (.D c t)) W):∀k,W.b ⟨w.a.j,k,none⟩=c[k]?:=fun k=>by
 rw[hb.cell (p:=⟨w.a.j,k,none⟩) (by simp)];exact mR w c t k
theorem nX(c:Array aB)(o n j:Nat)(hj:j<n)(h:o+n<=c.j):(c.extract o (o+n))[j]? = c[o+j]?:=by
 rw[dx];simp;omega
def eD(c:Array aB):Nat:=c.j
@[go_sem]theorem azK(W:ak)(c:Array aB)(t:bK)(b o n:Nat)(hb:b=W.a.j)(h:o+n<=eD c):xA (W.alloc (.D c t)) b o n=True:=by
 subst hb;unfold eD at h;simp only[eq_iff_iff,iff_true];exact(YN W c t o n (c.extract o (o+n)) (by rw[jB];omega) (fun j hj=>(nX c o n j hj h).symm)).1
@[go_sem]theorem aqP(W:ak)(c:Array aB)(t:bK)(b o n:Nat)(hb:b=W.a.j)(h:o+n<=eD c):dY (W.alloc (.D c t)) b o n=c.extract o (o+n):=by
 subst hb;unfold eD at h;exact(YN W c t o n (c.extract o (o+n)) (by rw[jB];omega) (fun j hj=>(nX c o n j hj h).symm)).2
theorem Sn{W w1:ak}(hb:aM W.a.j W w1):
 (∀b o,b<W.a.j->w1.b ⟨b,o,none⟩=W.b ⟨b,o,none⟩)/\(∀b o,b<W.a.j->w1.frozen? ⟨b,o,none⟩=W.frozen? ⟨b,o,none⟩) /\
 (∀b o n,b<W.a.j->xA w1 b o n=xA W b o n)/\(∀b o n,b<W.a.j->dY w1 b o n=dY W b o n)/\W.a.j<=w1.a.j:=by
 refine⟨fun b o h=>hb.cell (p:=⟨b,o,none⟩) h,fun b o h=>hb.frozen (p:=⟨b,o,none⟩) h,fun b o n h=>?_,fun b o n h=>ER fun j _=>hb.cell (p:=⟨b,o+j,none⟩) h,hb.j⟩;unfold xA;have:∀j,w1.b ⟨b,o+j,none⟩=W.b ⟨b,o+j,none⟩:=fun j=>hb.cell (p:=⟨b,o+j,none⟩) h
 simp only[this]
@[go_sem]theorem azL(W:ak)(p:aT)(v:aB)(b o n:Nat):xA (W.F p v) b o n=xA W b o n:=by
 rw[eq_iff_iff];unfold xA;refine forall_congr' fun j=>forall_congr' fun hj=>?_
 by_cases hp:p=⟨b,o+j,none⟩
 ·subst hp
  cases h:W.b ⟨b,o+j,none⟩with
  | none=>
    have:(W.F ⟨b,o+j,none⟩ v).b ⟨b,o+j,none⟩=none:=by
     cases h2:(W.F ⟨b,o+j,none⟩ v).b ⟨b,o+j,none⟩with
     | none=>rfl
     | some u=>
       exfalso;cases hb:W.a[b]? with
       | none=>simp[DR,gY,zA,hb]at h2
       | some ob=>
         cases ob<;>simp_all[DR,gY,zA]
    simp[this]
  | some u=>simp[World.cell?_setCell_same _ _ _ h]
 ·rw[wu _ _ _ _ hp]
@[go_sem]theorem aqQ(W:ak)(p:aT)(v:aB)(b o n:Nat)(hp:p.block≠b):dY (W.F p v) b o n=dY W b o n:=
 ER fun j _=>wu _ _ _ _ (fun e=>hp (by rw[e]))
def dL(W:ak)(b:Nat)(c:Array aB):Prop:=∃t,W.a[b]? = some (.D c t (0,0))
theorem dL.lt{W:ak}{b:Nat}{c:Array aB}(h:dL W b c):b<W.a.j:=by
 obtain⟨t,h⟩:=h;exact(bV.1 h).1
theorem dL.new(W:ak)(c:Array aB)(t:bK):dL (W.alloc (.D c t)) W.a.j c:=⟨t,Gc W _⟩
theorem dL.Sq(W:ak)(ob:Obj)(c:Array aB)(t:bK):dL ((W.alloc ob).alloc (.D c t)) (W.a.j+1) c:=by
 have:=dL.new (W.alloc ob) c t
 rwa [show(W.alloc ob).a.j=W.a.j+1 by simp]at this
theorem dL.ahA(W:ak)(ob Gj:Obj)(c:Array aB)(t:bK):dL (((W.alloc ob).alloc Gj).alloc (.D c t)) (W.a.j+2) c:=by
 have:=dL.Sq (W.alloc ob) Gj c t
 rwa [show(W.alloc ob).a.j+1=W.a.j+2 by simp]at this
theorem dL.alloc{W:ak}{b:Nat}{c:Array aB}(h:dL W b c)(ob:Obj):dL (W.alloc ob) b c:=by
 have hl:=h.lt;obtain⟨t,h⟩:=h;exact⟨t,by rw[Below.heap_alloc W ob b hl];exact h⟩
theorem dL.drew{W:ak}{b:Nat}{c:Array aB}(h:dL W b c):dL W.drew b c:=h
theorem dL.drewN{W:ak}{b:Nat}{c:Array aB}(h:dL W b c)(n:Nat):dL (W.drewN n) b c:=h
theorem dL.S{W W':ak}{b B:Nat}{c:Array aB}(h:dL W b c)(hb:aM B W W')(hl:b<B):dL W' b c:=by
 obtain⟨t,h⟩:=h;exact⟨t,by rw[hb.block b hl];exact h⟩
theorem dL.grown{W W':ak}{b:Nat}{c:Array aB}{row:Option Nat}(h:dL W b c)(hg:W.d W' row)(hl:some b≠row):dL W' b c:=by
 have hl2:=h.lt;obtain⟨t,h⟩:=h;exact⟨t,by rw[hg.block b hl2 hl];exact h⟩
theorem dL.dM{W:ak}{b:Nat}{c:Array aB}(h:dL W b c)(p:aT)(v:aB)(hp:p.block≠b):dL (W.F p v) b c:=by
 obtain⟨t,h⟩:=h;exact⟨t,by rw[qV W p v b (fun e=>hp e.symm)];exact h⟩
theorem dL.eH{W:ak}{b:Nat}{c:Array aB}(h:dL W b c)(j:Nat)(v:aB):dL (W.F ⟨b,j,none⟩ v) b (c.b j v):=by
 obtain⟨t,h⟩:=h;exact⟨t,by rw[setCell_eq_setRow W b j c t (0,0) v h];exact rz W b c _ t (0,0) h⟩
theorem dL.K{W:ak}{b:Nat}{c:Array aB}(h:dL W b c):
 (∀j,W.b ⟨b,j,none⟩=c[j]?)/\(∀j,W.frozen? ⟨b,j,none⟩=false)/\(∀o n,o+n<=eD c->xA W b o n=True)/\(∀o n,o+n<=eD c->dY W b o n=c.extract o (o+n)):=by
 obtain⟨t,h⟩:=h;have hc:∀j,W.b ⟨b,j,none⟩=c[j]?:=fun j=>sW W b j c t (0,0) h
 refine⟨hc,fun j=>by simp[sj,h],fun o n hn=>?_,fun o n hn=>?_⟩
 ·unfold eD at hn
  simp only[eq_iff_iff,iff_true];exact(wS (c:=c.extract o (o+n)) (by rw[jB];omega) (fun j hj=>by rw[hc,nX c o n j hj hn])).1
 ·unfold eD at hn
  exact(wS (c:=c.extract o (o+n)) (by rw[jB];omega) (fun j hj=>by rw[hc,nX c o n j hj hn])).2
theorem dL.O{W:ak}{b:Nat}{c:Array aB}(h:dL W b c)(o n:Nat)(hn:o+n<=c.j):W.O b o n:=by
 obtain⟨t,h⟩:=h;intro j hj;have hj':o+j<c.j:=by omega
 refine⟨by rw[sW W b (o+j) c t (0,0) h,eZ hj'];rfl,by simp[sj,h]⟩
theorem Kj(l:List aB):∀(k off:Nat)(cells:Array aB)(j:Nat),
 ((l.zipIdx k).foldl (fun cs (x:aB×Nat)=>cs.b (off+x.2) x.1) cells)[j]? = if off+k<=j/\j<off+k+l.a/\j<cells.j then l[j-(off+k)]? else cells[j]?:=by
 induction l with
 | nil=>intro k off cells j;simp;omega
 | cons v l ih=>
   intro k off cells j;rw[Gu,jU,ih (k+1) off];simp only[Array.size_setIfInBounds,bB,Array.getElem?_setIfInBounds];by_cases h1:off+k<=j/\j<off+k+(l.a+1)/\j<cells.j
   ·by_cases h2:off+k=j
    ·subst h2
     have:¬off+(k+1)<=off+k:=by omega
     simp[this,h1.2.2]
    ·have h3:off+(k+1)<=j/\j<off+(k+1)+l.a/\j<cells.j:=by omega
     rw[if_pos h3,if_pos h1,show j-(off+k)=(j-(off+(k+1)))+1 by omega,List.getElem?_cons_succ]
   ·have h3:¬(off+(k+1)<=j/\j<off+(k+1)+l.a/\j<cells.j):=by omega
    rw[if_neg h3,if_neg h1];by_cases h2:off+k=j
    ·subst h2
     have:¬off+k<cells.j:=by simp at h1;omega
     simp[this]
    ·simp[h2]
theorem Sr(v cells:Array aB)(h:v.j=cells.j):Array.foldl (fun cs (x:aB×Nat)=>cs.b (0+x.2) x.1) cells v.zipIdx=v:=by
 apply dU;intro j;have h1:=Kj v.a 0 0 cells j;rw[<-Cq,Array.toList_zipIdx,h1];by_cases hj:j<cells.j
 ·simp[h,hj]
 ·simp[hj];omega
theorem rO{P:eG}(w:ak)(t e:bK)(i:nJ)(z:aB)(size:Nat)(ht:P.k t=some (.a e))(hi:P.l e=some i)(hz:i.zero=some z)(hsize:i.j=size)(hzs:z.D.j=size)(h0:0<size)(h24:size<=16777216)(c:Array aB)(hc:c.j=size):
 (bI t 1 #[(0,.d c)]).I P w=.ok (.a (some ⟨w.a.j,0,none⟩) 1 1) (w.alloc (.D c e)):=by
 have hx:(bY c).D=c:=rfl;have hfw:=Sr c ((lS (1*size)).map (z.D[· % z.D.j]!)) (by simp[hc]);have hne:¬size=0:=by omega
 have aBk:¬16777216<size:=by omega
 simp only[bl,Nat.one_mul,Array.size_zipIdx,hc]at hfw;simp[bI,dJ ht,sizeOf,typeInfo,zeroValue,hi,hz,hsize,hne,aBk,fu,hx,hc,newRow,hfw]
theorem dL.go{W w1:ak}{b:Nat}{c:Array aB}(h:dL W b c)(hb:aM W.a.j W w1):dL w1 b c:=h.S hb h.lt
theorem aki{w W w1:ak}(h:aM w.a.j w W)(hb:aM W.a.j W w1):aM w.a.j w w1:=jh h hb
theorem awf{w W w1:ak}{ob:Obj}(h:aM w.a.j w W)(hb:aM (W.alloc ob).a.j (W.alloc ob) w1):aM w.a.j w w1:=jh (h.alloc h.j ob) hb
def sF(cells:Array aB)(off:Nat)(v:Array aB):Array aB:=v.zipIdx.foldl (fun cs (x:aB×Nat)=>cs.b (off+x.2) x.1) cells
theorem DU(cells v:Array aB)(off j:Nat):(sF cells off v)[j]? = if off<=j/\j<off+v.j/\j<cells.j then v[j-off]? else cells[j]?:=by
 have h:=Kj v.a 0 off cells j;unfold sF;rw[<-Cq,Array.toList_zipIdx,h];simp
theorem DV(place:Nat->Option (Nat×Nat))(cells:Array aB)(i off size:Nat)(v:aB)(rest:List (Nat×aB))(hp:place i=some (off,size))(hs:v.D.j=size)(hf:off+size<=cells.j):
 fu place cells ((i,v)::rest)=fu place (sF cells off v.D) rest:=by
 have h1:(decide (v.D.j≠size)||decide (off+v.D.j>cells.j))=false:=by
  rw[hs];simp;omega
 rw[fu,hp];simp only[h1,sF];rfl
theorem Xc(cells v:Array aB)(off:Nat):(sF cells off v).j=cells.j:=by
 unfold sF;generalize v.zipIdx=l;rw[<-Cq];generalize l.a=l
 induction l generalizing cells with
 | nil=>rfl
 | cons x l ih=>rw[jU,ih];simp
theorem akj(cells:Array aB)(off:Nat)(v:aB):sF cells off #[v]=cells.b off v:=by
 simp[sF]
theorem NR(c:Array aB):(bY c).D=c:=rfl
theorem NT{P:eG}(w:ak)(t:bK)(fs:Array nU)(i:nJ)(z:Array aB)(ps:Array (Nat×aB))(cells:Array aB)(places:Array (Nat×Nat))(ht:P.k t=some (.d fs))(hi:P.l t=some i)(hz:i.zero=some (.d z))
 (hp:(iA (fun f=>Prod.mk f.Z <$> sizeOf f.p) fs:xk (Array (Nat×Nat))).I P w=.ok places w) (hf:fu (places[·]?) z ps.a=some cells):(fI t ps).I P w=.ok (.d cells) w:=by
 simp only[fI,zeroValue,typeInfo,jI,gH,dJ ht];simp[hi,hz,hp,NR,hf]
theorem jq{w w':ak}{base size n:Nat}{e:bK}{v:aB}{xs:List aB}(h:w.c base e size v n xs)(hb:aM w.a.j w w'):w'.c base e size v n xs:=
 ⟨h.1,h.2.imp id fun⟨g,cap,cur,h1,h2,h3,h4⟩=>⟨g,cap,cur,h1,h2,(hb.block g (bV.1 h3).1).trans h3,h4⟩⟩
theorem jK{w:ak}{base size n:Nat}{e:bK}{v:aB}{xs:List aB}(h:w.c base e size v n xs){p:aT}(hp:p.block<base)(u:aB):(w.F p u).c base e size v n xs:=
 ⟨h.1,h.2.imp id fun⟨g,cap,cur,h1,h2,h3,h4⟩=>⟨g,cap,cur,h1,h2,(qV w p u g (by omega)).trans h3,h4⟩⟩
theorem vD{w:ak}{base size n:Nat}{e:bK}{v:aB}{xs:List aB}(h:w.c base e size v n xs)(ob:Obj):(w.alloc ob).c base e size v n xs:=h.alloc ob
theorem iH{w:ak}{base base' size n:Nat}{e:bK}{v:aB}{xs:List aB}(h:w.c base e size v n xs)(hb:base'<=base):w.c base' e size v n xs:=
 ⟨h.1,h.2.imp id fun⟨g,cap,cur,h1,h2,h3,h4⟩=>⟨g,cap,cur,h1,aO hb h2,h3,h4⟩⟩
theorem Rh{w:ak}{base size n g c:Nat}{e:bK}{xs:List aB}(h:w.c base e size (.a (some ⟨g,0,none⟩) n c) n xs)(j:Nat)(hj:j<n*size)(u:aB):
 (w.F ⟨g,j,none⟩ u).c base e size (.a (some ⟨g,0,none⟩) n c) n (xs.set j u):=by
 refine⟨by rw[aV];exact h.1,?_⟩;rcases h.2 with⟨hv,h0⟩|⟨g',cap,cur,hv,h2,h3,h4,h5,h6,h7⟩
 ·cases hv
 ·injection hv with e1 e2 e3
  injection e1 with e1
  injection e1 with e1
  subst e1 e3;refine .b ⟨g,c,cur.b j u,rfl,h2,?_,h4,h5,by rw[Array.size_setIfInBounds];exact h6,?_⟩
  ·rw[setCell_eq_setRow w g j cur e (0,0) u h3];exact rz w g cur _ e (0,0) h3
  ·rw[Array.toList_setIfInBounds,List.take_set,h7]
theorem Kk(b:Nat)(t:bK)(fr:Nat×Nat):∀(vs:List aB)(o:Nat)(c:Array aB)(W:ak),W.a[b]? = some (.D c t fr) ->
 (W.setCells b o vs).a[b]? = some (.D ((vs.zipIdx o).foldl (fun cs (x:aB×Nat)=>cs.b x.2 x.1) c) t fr)
 | [],_,_,_,h=>h
 | v::r,o,c,W,h=>by
   rw[Cr,Gu,jU];exact Kk b t fr r (o+1) _ _ (by rw[setCell_eq_setRow W b o c t fr v h];exact rz W b c _ t fr h)
section
variable {H:Type} {enc:bK×aB->H} {P:eG} {w:ak} {base:Nat} {spare:Nat->Bool} {held:Bool} {fuel:Nat} {t:bK} {cs:List aB} {x:yL H×List rT}
theorem Sv(ht:P.k t=some .g)(h:lT enc P w base spare held fuel t cs=some x):∃l:List UInt8,cs=[.g (bU l)]/\l.a<=9223372036854775807:=by
 obtain⟨s,rfl,_,hs⟩:=DataW.trod_string ht h;refine⟨s.data.a,by rw[Pn],?_⟩;have h2:s.j<=9223372036854775807:=by unfold maxLen at hs;omega
 show s.data.a.a<=_;rw[aY];exact h2
theorem sG(ht:P.k t=some (.b .a))(h:lT enc P w base spare held fuel t cs=some x):∃z:Int,cs=[.b .a z]/\-9223372036854775808<=z/\z<=9223372036854775807:=by
 obtain⟨z,rfl,_,hz⟩:=DataW.trod_int ht h;have : -9223372036854775808<=z/\z<=9223372036854775807:=by simpa[Lit.wf,Je,Jf,lN,nQ]using hz
 exact⟨z,rfl,this⟩
theorem agm(ht:P.k t=some (.b .b))(h:lT enc P w base spare held fuel t cs=some x):∃b:UInt8,cs=[bv b]:=by
 obtain⟨z,rfl,_,hz⟩:=DataW.trod_int ht h;have h2:0<=z/\z<=255:=by simpa[Lit.wf,Je,Jf,lN,nQ]using hz
 refine⟨aJ z.e,?_⟩;unfold bv;congr 2;rw[Ct];omega
theorem abq(ht:P.k t=some (.float .f64))(h:lT enc P w base spare held fuel t cs=some x):∃n:Nat,cs=[fv n]/\n<18446744073709551616:=by
 cases fuel with
 | zero=>simp[lT]at h
 | succ m=>
   unfold lT at h;rw[ht]at h;split at h<;>simp_all;rename_i heq;subst heq;obtain⟨⟨_,hw⟩,_⟩:=h;exact⟨_,rfl,by simpa[Lit.wf]using hw⟩
theorem JY{fs:Array nU}{n:Nat}{xs:List (yL H×List rT)}(hl:xs.a=fs.j)(hf:∀(i:Nat)(f:nU),fs[i]? = some f->lT enc P w base spare held n f.p ((cs.f f.Z).d (P.a f.p))=xs[i]?)
 (j:Nat) (f:nU) (hj:fs[j]? = some f):∃y,lT enc P w base spare held n f.p ((cs.f f.Z).d (P.a f.p))=some y:=by
 have hlt:j<xs.a:=by have:=(bV.1 hj).1;omega
 exact⟨xs[j],(hf j f hj).trans (aC hlt)⟩
theorem tu{α:Type}(l:List α)(o n:Nat):l.f o=(l.f o).d n++l.f (o+n):=by
 rw[<-List.drop_drop];exact(iG n _).symm
theorem LH{k:Nat}{e:bK}(ht:P.k t=some (.array k e))(he:P.k e=some (.b .b))(hc:P.a e=1)(hk:P.a t=k)(h:lT enc P w base spare held fuel t cs=some x):∃v:Vector UInt8 k,cs=v.a.map bv:=by
 obtain⟨xs,m,_,_,hl,hxl,hf⟩:=DataW.trod_array ht h;rw[hk]at hl;have hg:∀i,i<k->∃b:UInt8,cs[i]? = some (bv b):=fun i hi=>by
  have h1:=hf i hi;rw[hc,gB,aC (by omega)]at h1;obtain⟨b,hb⟩:=agm he h1;refine⟨b,?_⟩;rw[take1_drop cs i undef (by omega)]at hb;simp only[List.cons.injEq,and_true]at hb;rw[aC (by omega),<-hb,au,aC (by omega)];rfl
 obtain⟨f,hf⟩:∃f:Nat->UInt8,∀i,i<k->cs[i]? = some (bv (f i)):=by
  refine⟨fun i=>if hi:i<k then(hg i hi).choose else 0,fun i hi=>?_⟩;simp only[hi,dif_pos];exact(hg i hi).choose_spec
 refine⟨DK fun i:Fin k=>f i,?_⟩;apply iJ;intro i;rcases aZ i k with hi|hi
 ·rw[hf i hi]
  simp[hi]
 ·rw[aS (by omega),aS (by simpa using hi)]
end
theorem uN{α:Type}(f:α->Array aB)(size:Nat)(hs:∀x,(f x).j=size)(l:List α)(k j:Nat)(hk:k<l.a)(hj:j<size):(l.h fun x=>(f x).a)[k*size+j]? = (f (l[k]'hk))[j]?:=by
 induction l generalizing k with
 | nil=>simp at hk
 | cons x l ih=>
   rw[iK];rcases k with _|k
   ·rw[mO (by rw[aY,hs];omega),dD]
    simp
   ·rw[qZ (by rw[aY,hs,Jg];omega),aY,hs,show(k+1)*size+j-size=k*size+j by rw[Jg];omega]
    rw[bB]at hk;simpa using ih k (by omega)
theorem tC{α:Type}(f:α->Array aB)(size:Nat)(hs:∀x,(f x).j=size)(l:List α):(l.h fun x=>(f x).a).a=l.a*size:=by
 induction l with
 | nil=>simp
 | cons x l ih=>rw[iK,aR,ih,aY,hs,bB,Jg];omega
section
variable {H:Type} {enc:bK×aB->H} {P:eG} {w:ak} {base:Nat} {held:Bool} {fuel:Nat} {t:bK} {cs:List aB} {x:yL H×List rT}
theorem Js{α:Type}(f:α->Array aB)(GH:α->Prop)(size:Nat)(hfs:∀x,(f x).j=size){e:bK}(ht:P.k t=some (.a e))(hc:P.a e=size)(hpos:0<size)
 (hrd:∀(n:Nat)(cs:List aB)(y:yL H×List rT),lT enc P w base (fun _=>true) held n e cs=some y->∃a,cs=(f a).a/\GH a)
 (h:lT enc P w base (fun _=>true) held fuel t cs=some x) :
 ∃(A:Option aT)(n c:Nat)(l:List α),cs=[.a A n c]/\n<=c/\c<=9223372036854775807/\l.a=n/\Rd w w.a.j size A n (l.h fun x=>(f x).a)/\(∀a,A=some a->0<n->a=⟨a.block,a.off,none⟩)/\∀a∈l,GH a:=by
 rcases open_slice ht h with⟨rfl,_⟩|⟨a,len,cap,m,n,D,Pl,rfl,_,hl,hm,hmm,_,hi⟩
 ·exact⟨none,0,0,[],rfl,av _,by omega,rfl,Rd.nil,(fun a h=>by cases h),by simp⟩
 ·rw[if_pos rfl]at hmm
  have hg:∀i,i<len->∃b:α,GH b/\∀j,j<size->w.b (a.add (i*size+j))=(f b)[j]?:=fun i hlt=>by
   obtain⟨cs',h1,h2⟩:=hi i (by omega);obtain⟨_,hlen,hcell⟩:=World.cells?_some h1;obtain⟨b,hb,hgd⟩:=hrd _ _ _ h2;rw[hc]at hcell;refine⟨b,hgd,fun j hj=>?_⟩;have:=hcell j hj;rw[abn,hb,dD]at this;exact this
  obtain⟨F,hF⟩:∃F:Fin len->α,∀i:Fin len,GH (F i)/\∀j,j<size->w.b (a.add (i*size+j))=(f (F i))[j]?:=
   ⟨fun i=>(hg i i.2).choose,fun i=>(hg i i.2).choose_spec⟩
  have hll:(Gv F).a=len:=List.length_ofFn;have hcl:∀k (hk:k<len) j,j<size->((Gv F).h fun x=>(f x).a)[k*size+j]? = w.b (a.add (k*size+j)):=fun k hk j hj=>by
   rw[uN f size hfs _ k j (by omega) hj,List.getElem_ofFn];exact((hF ⟨k,hk⟩).2 j hj).symm
  refine⟨some a,len,cap,Gv F,rfl,hl,by unfold maxLen at hm;omega,hll,⟨by rw[tC f size hfs,hll],fun h0=>⟨a,rfl,?_,fun j u hu=>?_⟩⟩,fun a' ha h0=>?_,fun b hb=>?_⟩
  ·have h1:=hcl 0 h0 0 hpos
   have h2:=uN f size hfs (Gv F) 0 0 (by omega) hpos;have h3:w.b (a.add (0*size+0))=some ((f ((Gv F)[0]'(by omega)))[0]'(by rw[hfs];exact hpos)):=by rw[<-h1,h2];exact eZ _
   have:=World.block_lt_of_cell? _ _ h3
   rwa [AL]at this
  ·have hj:j<len*size:=by
    rcases aZ j (len*size)with h1|h1
    ·exact h1
    ·rw[aS (by rw[tC f size hfs,hll];exact h1)]at hu;cases hu
   have e1:j=j/size*size+j%size:=by rw[Cu];exact(Nat.div_add_mod j size).symm
   have:=hcl (j/size) ((zP hpos).2 hj) (j%size) (fC _ hpos);rw[<-e1]at this;rw[<-this];exact hu
  ·injection ha with ha
   subst ha;have h1:=hcl 0 h0 0 hpos;have h2:=uN f size hfs (Gv F) 0 0 (by omega) hpos;have h3:w.b (a.add (0*size+0))=some ((f ((Gv F)[0]'(by omega)))[0]'(by rw[hfs];exact hpos)):=by rw[<-h1,h2];exact eZ _
   rw[show 0*size+0=0 by omega,NQ]at h3;have hs:=World.cell?_spot h3;obtain⟨b,o,s⟩:=a;simp at hs;rw[hs]
  ·obtain⟨i,rfl⟩:=List.mem_ofFn.1 hb
   exact(hF i).1
end
section
variable {P:eG}
theorem Kl(d:Nat){e:bK}(he:P.k e=some (.b .b))(l m:List UInt8)(w:ak)(hlm:l.a=m.a):∀(j k:Nat),j+k=l.a ->
 (JX (d+1) e 1 (l.map bv).b (m.map bv).b (List.range' k j)).I P w=.ok (l.f k==m.f k) w
 | 0,k,h=>by
   have h1:l.f k=[]:=List.drop_eq_nil_of_le (by omega);have h2:m.f k=[]:=List.drop_eq_nil_of_le (by omega);simp[JX,h1,h2]
 | j+1,k,h=>by
   have hk:k<l.a:=by omega
   have hk':k<m.a:=by omega
   have hp:P.plainKey e=true:=by simp[Program.plainKey,he]
   have p1:(part e (l.map bv).b (k*1)).I P w=.ok (bv l[k]) w:=run_part_plain w hp (by simp[hk]);have p2:(part e (m.map bv).b (k*1)).I P w=.ok (bv m[k]) w:=run_part_plain w hp (by simp[hk']);have p3:(ji (d+1) e (bv l[k]) (bv m[k])).I P w=.ok (l[k]==m[k]) w:=by
    simp only[bv,ji,jI,dJ he,gH,if_true,oh];congr 1;rw[bZ];simp only[beq_iff_eq];constructor
    ·intro h;exact lV.1 (by omega)
    ·intro h;rw[h]
   rw[List.range'_succ];simp only[JX,jI,p1,p2,p3,gH];have ih:=Kl d he l m w hlm j (k+1) (by omega);have e3:(l.f k==m.f k)=((l[k]==m[k])&&(l.f (k+1)==m.f (k+1))):=by
    rw[kS hk,kS hk'];rfl
   rw[e3];cases(l[k]==m[k])
   ·simp
   ·simpa using ih
theorem Gl(d:Nat){t e:bK}{n:Nat}(hu:P.k t=some (.array n e))(hsz:(P.l e).map (·.j)=some 1)(he:P.k e=some (.b .b))(l m:List UInt8)(hl:l.a=n)(hm:m.a=n)(w:ak):
 (ji (d+2) t (.d (l.map bv).b) (.d (m.map bv).b)).I P w=.ok (l==m) w:=by
 obtain⟨i,hi,hs⟩:∃i,P.l e=some i/\i.j=1:=by
  cases h:P.l e with
  | none=>simp[h]at hsz
  | some i=>exact⟨i,rfl,by simpa[h]using hsz⟩
 rw[run_equalIn_array w (d+1) _ _ hu hi];have hc:P.a e=1:=by simp[zY,hi,hs]
 rw[hc,List.range_eq_range',Kl d he l m w (by omega) n 0 (by omega)];simp
end
theorem agn{n:Nat}(a b:Vector UInt8 n):(a.a==b.a)=decide (a=b):=by
 rw[bZ];simp only[beq_iff_eq,decide_eq_true_eq];constructor
 ·intro h;exact Vector.toList_inj.1 h
 ·intro h;rw[h]
theorem o9{P:eG}{e:bK}(he:(match P.k e with|some (.d _)|some (.array _ _)|none=>false|_=>true)=true){xs:Array aB}{off:Nat}{v:aB}(hx:xs[off]? = some v)(w:ak):(part e xs off).I P w=.ok v w:=by
 cases hu:P.k e with
 | none=>simp[hu]at he
 | some d=>cases d<;>simp[hu]at he<;>simp[part,isAgg,dJ hu,hx]
theorem DW{P:eG}{e:bK}{n:Nat}(he:(match P.k e with|some (.d _)|some (.array _ _)=>true|_=>false)=true)(hs:(P.l e).map (·.j)=some n)(xs:Array aB)(off:Nat)(w:ak):(part e xs off).I P w=.ok (.d (xs.extract off (off+n))) w:=by
 obtain⟨i,hi,hi2⟩:∃i,P.l e=some i/\i.j=n:=by
  cases h:P.l e with
  | none=>simp[h]at hs
  | some i=>exact⟨i,rfl,by simpa[h]using hs⟩
 have hc:P.a e=n:=by simp[zY,hi,hi2]
 cases hu:P.k e with
 | none=>simp[hu]at he
 | some d=>cases d<;>simp[hu]at he<;>simp[part,isAgg,dJ hu,run_sizeOf w hi,hc]
theorem YO(a b:Bool)(d:Nat)(W:ak):(ji (d+1) 4 (.e a) (.e b)).I ah W=.ok (a==b) W:=by
 simp only[ji,jI,dJ nM,gH,oh]
theorem NU(a b:List UInt8)(d:Nat)(W:ak):(ji (d+1) 9 (.g (bU a)) (.g (bU b))).I ah W=.ok (a==b) W:=by
 rw[run_equalIn_string W d _ _ _ iM,Ki,Ki]
theorem ET(a b:Int)(d:Nat)(W:ak):(ji (d+1) 3 (.b .a a) (.b .a b)).I ah W=.ok (a==b) W:=by
 simp only[ji,jI,dJ gM,gH,if_true,oh]
theorem iO{P:eG}(d:Nat)(xs ys:Array aB)(f:nU)(fs:List nU)(h:f.E ≠ "_")(W:ak)(a b:aB)(r r':Bool)
 (p:(part f.p xs f.Z).I P W=.ok a W) (q:(part f.p ys f.Z).I P W=.ok b W) (e:(ji d f.p a b).I P W=.ok r W)
 (rest:(wC d xs ys fs).I P W=.ok r' W):(wC d xs ys (f::fs)).I P W=.ok (r&&r') W:=by
 simp only[wC,h,ne_eq,not_false_eq_true,if_true,jI,p,q,e,gH];cases r
 ·simp
 ·simpa using rest
def iR{α:Type}(f:α->Array aB)(s:Nat)(w:ak)(B:Nat)(A:Option aT)(n:Nat)(l:List α):Prop:=
 l.a=n/\Rd w B s A n (l.h fun x=>(f x).a)/\∀a,A=some a->0<n->a=⟨a.block,a.off,none⟩
section
variable {α:Type} {f:α->Array aB} {s:Nat} {w w':ak} {B B' n:Nat} {A:Option aT} {l:List α}
theorem iR.nil(w:ak)(B:Nat):iR f s w B none 0 []:=⟨rfl,Rd.nil,fun a h _=>by cases h⟩
theorem iR.len(h:iR f s w B A n l):l.a=n:=h.1
theorem iR.S(h:iR f s w B A n l)(hb:aM B w w'):iR f s w' B A n l:=⟨h.1,Rd.S h.2.1 hb,h.2.2⟩
theorem iR.to{C:Nat}(h:iR f s w B A n l)(hb:aM C w w')(hC:B<=C):iR f s w' B A n l:=⟨h.1,Rd.to h.2.1 hb hC,h.2.2⟩
theorem iR.lu(h:iR f s w B A n l)(hB:B<=B'):iR f s w B' A n l:=⟨h.1,Rd.lu h.2.1 hB,h.2.2⟩
theorem iR.alloc(h:iR f s w B A n l)(hB:B<=w.a.j)(o:Obj):iR f s (w.alloc o) B A n l:=⟨h.1,Rd.alloc h.2.1 hB o,h.2.2⟩
theorem iR.up(h:iR f s w w.a.j A n l)(ob:Obj):iR f s (w.alloc ob) (w.alloc ob).a.j A n l:=(h.alloc (av _) ob).lu (by simp)
theorem iR.aqR(h:iR f s w w.a.j A n l):iR f s w.drew w.drew.a.j A n l:=h
theorem iR.go{W w1:ak}(h:iR f s W W.a.j A n l)(hb:aM W.a.j W w1):iR f s w1 w1.a.j A n l:=(h.S hb).lu hb.j
theorem iR.aBl(h:iR f s w B A n l){p:aT}(u:aB)(hp:∀a,A=some a->p.block≠a.block):iR f s (w.F p u) B A n l:=by
 obtain⟨h1,h2,h3⟩:=h;refine⟨h1,⟨h2.1,fun hn=>?_⟩,h3⟩;obtain⟨a,e,hb,hc⟩:=h2.2 hn;refine⟨a,e,hb,fun j u' hu=>?_⟩;rw[wu _ _ _ _ (fun e2=>by have:=hp a e;rw[e2,AL]at this;omega)];exact hc j u' hu
theorem iR.cell(hs:∀x,(f x).j=s)(d:α){k:Nat}(h:iR f s w B A n l)(hk:k<n):∃b o,A=some ⟨b,o,none⟩/\b<B/\∀j,j<s->w.b ⟨b,o+k*s+j,none⟩=(f (l.c k d))[j]?:=by
 obtain⟨h1,h2,h3⟩:=h;obtain⟨a,hA,hb,hc⟩:=h2.2 (by omega);have ha:=h3 a hA (by omega);refine⟨a.block,a.off,by rw[hA,<-ha],hb,fun j hj=>?_⟩;have hk':k<l.a:=by omega
 have hg:=uN f s hs l k j hk' hj;have hx:l.c k d=l[k]:=by rw[au,aC hk'];rfl
 have hs1:(f (l[k]'hk'))[j]? = some ((f (l[k]'hk'))[j]'(by rw[hs];exact hj)):=eZ _;rw[hs1]at hg;rw[hx,hs1];have:=hc _ _ hg;rw[ha,iD]at this;rw[<-this,ng]
theorem iR.fD(hs:∀x,(f x).j=s)(d:α){k:Nat}(h:iR f s w B A n l)(hk:k<n):∃b o,A=some ⟨b,o,none⟩/\b<B/\xA w b (o+k*s) s/\dY w b (o+k*s) s=f (l.c k d):=by
 obtain⟨b,o,hA,hb,hc⟩:=h.cell hs d hk;exact⟨b,o,hA,hb,wS (hs _) hc⟩
theorem iR.one(x:α)(hs:∀x,(f x).j=s)(w:ak)(t:bK):iR f s (w.alloc (.D (f x) t)) (w.alloc (.D (f x) t)).a.j (some ⟨w.a.j,0,none⟩) 1 [x]:=
 ⟨rfl,⟨by simp[hs],fun _=>⟨_,rfl,by simp,by
  intro j v hv;rw[iD,bl];have:=mR w (f x) t j;rw[this];simpa using hv⟩⟩,fun a h _=>by injection h with h;rw[<-h]⟩
end
theorem akk{α:Type}(f:α->Array aB)(s:Nat)(hs:∀x,(f x).j=s)(l:List α):(l.h fun x=>(f x).a).a=l.a*s:=tC f s hs l
theorem ahB{α:Type}(f:α->Array aB)(l:List α)(x:α):(l.h fun x=>(f x).a)++(f x).a=(l++[x]).h fun x=>(f x).a:=by simp
theorem abr{α:Type}(f:α->Array aB)(l m:List α):(l.h fun x=>(f x).a)++(m.h fun x=>(f x).a)=(l++m).h fun x=>(f x).a:=by simp
theorem DX{α:Type}(f:α->Array aB)(h1:∀x,(f x).all (·.h)=true)(l:List α):∀u∈(l.h fun x=>(f x).a),u.h=true:=by
 intro u hu;obtain⟨x,_,hx⟩:=List.mem_flatMap.1 hu;exact fV.1 (h1 x) u (by simpa using hx)
theorem oD{α:Type}(d:α)(l:List α)(i:Nat)(hi:i<l.a):l.d i++[l.c i d]=l.d (i+1):=by
 rw[dP hi,au,aC hi];rfl
theorem AX{α:Type}(d:α)(l:List α)(i:Nat)(hi:i<l.a):l.c i d∈l:=by
 rw[au,aC hi];simp
theorem iR.iY{α:Type}{f:α->Array aB}{s:Nat}{w:ak}{base n:Nat}{e:bK}{l:List α}{A:Option aT}{c:Nat}(hn:l.a=n)(h:w.c base e s (.a A n c) n (l.h fun x=>(f x).a)):iR f s w w.a.j A n l:=
 ⟨hn,Rd.iY h,fun a ha _=>by
  rcases h.2 with⟨hv,h0⟩|⟨g,cap,cur,hv,_⟩
  ·injection hv with e1 _ _
   rw[e1]at ha;cases ha
  ·injection hv with e1 _ _
   rw[e1]at ha;injection ha with ha
   rw[<-ha]⟩
theorem YP(w:ak)(c:Array aB)(s:Nat)(hc:c.j=s)(t:bK):Rd (w.alloc (.D c t)) (w.a.j+1) s (some ⟨w.a.j,0,none⟩) 1 c.a:=
 ⟨by rw[aY,hc,Nat.one_mul],fun _=>⟨_,rfl,mG _,fun j v hv=>by
  rw[iD,bl,mR w c t j];simpa using hv⟩⟩
theorem Sw{w:ak}{base size n:Nat}{e:bK}{v:aB}{xs:List aB}(h:w.c base e size v n xs){p:aT}(hp:v.f≠some p.block)(u:aB):(w.F p u).c base e size v n xs:=by
 refine⟨h.1,?_⟩;rcases h.2 with hn|⟨g,cap,cur,rfl,h2,h3,h4⟩
 ·exact .a hn
 ·exact .b ⟨g,cap,cur,rfl,h2,(qV w p u g (fun e=>hp (by rw[<-e];rfl))).trans h3,h4⟩
theorem Sy{w:ak}{g:Nat}(vs:List aB):∀(o:Nat)(W:ak),w.d W (some g)->w.d (W.setCells g o vs) (some g):=by
 induction vs with
 | nil=>exact fun _ _ h=>h
 | cons v vs ih=>
   intro o W h;rw[Cr];refine ih (o+1) _ ⟨h.os,h.tape,h.output,by simpa[gY]using h.j,fun k hk hne=>?_⟩;rw[qV W _ v k (fun e=>hne (by rw[e]))];exact h.block k hk hne
theorem xO{w:ak}{B g:Nat}(hg:B<=g)(vs:List aB):∀(o:Nat)(W:ak),aM B w W->aM B w (W.setCells g o vs):=by
 induction vs with
 | nil=>exact fun _ _ h=>h
 | cons v vs ih=>intro o W h;rw[Cr];exact ih (o+1) _ (h.F hg v)
theorem nb{x:Option Nat}{a b c:Nat}(h:x=some a\/x=some b)(h1:c≠a)(h2:c≠b):x≠some c:=by
 rcases h with rfl|rfl<;>(intro e;injection e with e;omega)
theorem Sz(b:Nat)(t:bK)(vs:List aB)(o:Nat)(c:Array aB)(W:ak)(h:W.a[b]? = some (.D c t (0,0))):(W.setCells b o vs).a[b]? = some (.D (sF c o vs.b) t (0,0)):=by
 have:=Kk b t (0,0) vs o c W h;rw[this];unfold sF;congr 2;rw[<-Cq,Array.toList_zipIdx];have:∀(vs:List aB)(k:Nat)(c:Array aB),(List.foldl (fun cs (x:aB×Nat)=>cs.b x.2 x.1) c (vs.zipIdx (o+k)))=List.foldl (fun cs (x:aB×Nat)=>cs.b (o+x.2) x.1) c (vs.zipIdx k):=by
  intro vs
  induction vs with
  | nil=>intros;rfl
  | cons v vs ih=>intro k c;rw[Gu,Gu,jU,jU,ng,ih]
 have h2:=this vs 0 c;simpa using h2
theorem dL.akl{W:ak}{b:Nat}{c:Array aB}(h:dL W b c)(d:Array aB)(hc:d.j=c.j):dL (W.setCells b 0 d.a) b d:=by
 obtain⟨t,h⟩:=h;refine⟨t,?_⟩;have h1:=Sz b t d.a 0 c W h;rw[h1];congr 2;exact Sr d c hc
end
section
open Go.RowKit Go.ChangeShapes Go.WideShapes Go.ChangeAt Go.Deep
def txA(s:List UInt8):Array aB:=#[.g (bU s)]
theorem akm(s:List UInt8):(txA s).j=1:=rfl
abbrev RdT:=iR txA 1
theorem iR.text{W:ak}{B n:Nat}{A:Option aT}{l:List (List UInt8)}{k:Nat}(h:RdT W B A n l)(hk:k<n):∃b o,A=some ⟨b,o,none⟩/\b<B/\W.b ⟨b,o+k,none⟩=some (.g (bU (l.c k []))):=by
 obtain⟨b,o,hA,hb,hc⟩:=iR.cell akm [] h hk;refine⟨b,o,hA,hb,?_⟩;have:=hc 0 (by omega);rw[gB,nE]at this;exact this
def vV(l:List (List UInt8)):List aB:=l.h fun x=>(txA x).a
theorem Pp(l:List (List UInt8))(s:List UInt8):vV l++[.g (bU s)]=vV (l++[s]):=by simp[vV,txA]
theorem YQ:∃i:nJ,ah.l 9=some i/\i.zero=some (.g ⟨#[]⟩)/\i.j=1/\i.bytes<=400:=by
 cases h:ah.l 9 with
 | none=>exact absurd h (by have:(ah.l 9).isSome=true:=by kernel_rfl
                            intro e;rw[e]at this;cases this)
 | some i=>
   have h1:(ah.l 9).map (·.j)=some 1:=by kernel_rfl
   have h2:(ah.l 9).map (fun i=>decide (i.bytes<=400))=some true:=by kernel_rfl
   have h3:(ah.l 9).map (·.zero)=some (some (.g ⟨#[]⟩)):=by kernel_rfl
   rw[h]at h1 h2 h3;simp at h1 h2 h3;exact⟨i,rfl,h3,h1,h2⟩
def TxP(w:ak)(m:List (List UInt8))(e:kZ)(w':ak):Prop:=
 ∃A n c,e=.a (.a A n c)/\m.a=n/\w'.c w.a.j 9 1 (.a A n c) n (vV m)/\aM w.a.j w w'
end
section
open Go.RowKit Go.ChangeShapes Go.WideShapes Go.ChangeAt Go.Deep
structure Hl where
 E:List UInt8
 down:Bool
 I:Int
deriving DecidableEq
def Hl.ay(x:Hl):Array aB:=#[iC (bU x.E),bL x.down,aI .a x.I]
theorem Hl.G(x:Hl):x.ay.j=3:=by simp[Hl.ay]
@[go_sem]theorem Hl.eD(x:Hl):eD x.ay=3:=Hl.G x
@[go_sem]theorem Hl.pX(x:Hl):x.ay[0]? = some (.g (bU x.E)):=rfl
@[go_sem]theorem Hl.DY(x:Hl):x.ay[1]? = some (.e x.down):=rfl
@[go_sem]theorem Hl.Xd(x:Hl):x.ay[2]? = some (.b .a x.I):=rfl
theorem Hl.cK(x:Hl):x.ay.all (·.h)=true:=by simp[Hl.ay,cO]
@[go_sem]theorem Hl.jC(x:Hl):x.ay.extract 0 3=x.ay:=by
 have:=Hl.G x;rw[<-this];simp
def lC:Hl:=⟨[],false,0⟩
@[go_sem]theorem awg:bY #[iC {data:=#[]},bL false,aI bR 0]=bY lC.ay:=rfl
@[go_sem]theorem asl:Obj.cells #[iC {data:=#[]},bL false,aI bR 0] 100=Obj.cells lC.ay 100:=rfl
def akn(v:aB):xk aB:=cu 100 v
def YR(v x:aB):xk Unit:=eF 100 v x
@[go_sem ↓]theorem avm(v:aB):cu 100 v=akn v:=rfl
@[go_sem ↓]theorem asn(v x:aB):eF 100 v x=YR v x:=rfl
@[go_sem]theorem azM(W:ak)(b o:Nat)(h:xA W b o 3):(akn (.c (some ⟨b,o,none⟩))).I ah W=.ok (.d (dY W b o 3)) W:=
 j5 W b o 3 _ _ ra rfl (by kernel_rfl) h
@[go_sem]theorem aof(W:ak)(c:Array aB)(x:Hl)(b:Nat)(hb:b=W.a.j)(hc:eD c=3):
 (YR (.c (some ⟨b,0,none⟩)) (.d x.ay)).I ah (W.alloc (.D c 100))=.ok () (W.alloc (.D x.ay 100)):=by
 subst hb;exact yV W _ c x.ay (by rw[Hl.G];kernel_rfl) (by rw[Hl.G];exact hc) (Hl.cK x)
def SA(W:ak)(b o:Nat)(x:Hl):ak:=W.setCells b o x.ay.a
@[go_sem]theorem awh(W:ak)(b o:Nat)(x:Hl)(h:W.O b o 3):(YR (.c (some ⟨b,o,none⟩)) (.d x.ay)).I ah W=.ok () (SA W b o x):=
 DL W b o _ x.ay (by rw[Hl.G];exact h) (by rw[Hl.G];kernel_rfl) (Hl.cK x)
theorem dL.awi{W:ak}{b:Nat}{c:Array aB}(h:dL W b c)(hc:c.j=3)(x:Hl):dL (SA W b 0 x) b x.ay:=h.akl x.ay (by rw[Hl.G,hc])
theorem Pq{w W:ak}{B:Nat}(h:aM B w W)(b o:Nat)(x:Hl)(hb:B<=b):aM B w (SA W b o x):=xO hb _ o W h
def ahC(x y:Hl):Bool:=(x.E==y.E)&&((x.down==y.down)&&((x.I==y.I)&&true))
theorem agq(x y:Hl):ahC x y=decide (x=y):=by
 rw[bZ];cases x;cases y;simp[ahC]
theorem ahD:ah.k 100=some (.d (ah.fieldsOf 100)):=by
 simp only[jQ,ra]
theorem aog:∃f1 f2 f3:nU,(ah.fieldsOf 100).a=[f1,f2,f3]/\(f1.E ≠ "_" /\ f2.E ≠ "_" /\ f3.E ≠ "_")/\(f1.p=9/\f1.Z=0)/\(f2.p=4/\f2.Z=1)/\(f3.p=3/\f3.Z=2):=by
 refine⟨_,_,_,by simp only[jQ,ra];rfl,⟨?_,?_,?_⟩,⟨rfl,rfl⟩,⟨rfl,rfl⟩,⟨rfl,rfl⟩⟩<;>decide
theorem ahE(x y:Hl)(d:Nat)(W:ak):(ji (d+2) 100 (.d x.ay) (.d y.ay)).I ah W=.ok (ahC x y) W:=by
 rw[zq W (d+1) _ _ _ ahD Tryz.stoodInHeld100];obtain⟨f1,f2,f3,hl,⟨n1,n2,n3⟩,⟨t1,o1⟩,⟨t2,o2⟩,⟨t3,o3⟩⟩:=aog;rw[hl];have p1:∀z:Hl,(part f1.p z.ay f1.Z).I ah W=.ok (.g (bU z.E)) W:=fun z=>by
  rw[t1,o1];exact o9 (by simp only[iM]) (Hl.pX z) W
 have p2:∀z:Hl,(part f2.p z.ay f2.Z).I ah W=.ok (.e z.down) W:=fun z=>by
  rw[t2,o2];exact o9 (by simp only[nM]) (Hl.DY z) W
 have p3:∀z:Hl,(part f3.p z.ay f3.Z).I ah W=.ok (.b .a z.I) W:=fun z=>by
  rw[t3,o3];exact o9 (by simp only[gM]) (Hl.Xd z) W
 exact(iO _ _ _ _ _ n1 W _ _ _ _ (p1 x) (p1 y) (by rw[t1];exact NU _ _ _ W) (iO _ _ _ _ _ n2 W _ _ _ _ (p2 x) (p2 y) (by rw[t2];exact YO _ _ _ W) (iO _ _ _ _ _ n3 W _ _ _ _ (p3 x) (p3 y) (by rw[t3];exact ET _ _ _ W) (by simp[wC]))))
@[go_sem ↓]theorem aE'(x y:Hl)(W:ak):(ji 10000 100 (.d x.ay) (.d y.ay)).I ah W=.ok (ahC x y) W:=ahE x y 9998 W
theorem NV:∃i:nJ,ah.l 100=some i/\i.zero=some (.d lC.ay)/\i.j=3/\i.bytes<=400:=by
 cases h:ah.l 100 with
 | none=>exact absurd h (by have:(ah.l 100).isSome=true:=by kernel_rfl
                            intro e;rw[e]at this;cases this)
 | some i=>
   have h1:(ah.l 100).map (·.j)=some 3:=by kernel_rfl
   have h2:(ah.l 100).map (fun i=>decide (i.bytes<=400))=some true:=by kernel_rfl
   have h3:(ah.l 100).map (·.zero)=some (some (.d lC.ay)):=by kernel_rfl
   rw[h]at h1 h2 h3;simp at h1 h2 h3;exact⟨i,rfl,h3,h1,h2⟩
def awj(ps:Array (Nat×aB)):xk aB:=fI 100 ps
@[go_sem ↓]theorem azN(ps:Array (Nat×aB)):fI 100 ps=awj ps:=rfl
theorem ahF(w:ak)(fs:Array nU)(h:ah.k 100=some (.d fs)):(iA (fun f=>Prod.mk f.Z <$> sizeOf f.p) fs:xk (Array (Nat×Nat))).I ah w=.ok #[(0,1),(1,1),(2,1)] w:=by
 have e:=ra;rw[h]at e;cases e;show _=_
 kernel_rfl
@[go_sem]theorem aso(w:ak)(u0:List UInt8):(awj #[(0,.g (bU u0))]).I ah w=.ok (.d (Hl.mk u0 false 0).ay) w:=by
 obtain⟨i0,hi0,hz0,_,_⟩:=NV;exact NT w _ _ i0 lC.ay _ _ _ ra hi0 hz0 (ahF w _ ra) rfl
def agr(n:Nat)(ps:Array (Nat×aB)):xk aB:=bI 33 n ps
@[go_sem ↓]theorem awk(n:Nat)(ps:Array (Nat×aB)):bI 33 n ps=agr n ps:=rfl
@[go_sem]theorem avn(w:ak)(x:Hl):(agr 1 #[(0,.d x.ay)]).I ah w=.ok (.a (some ⟨w.a.j,0,none⟩) 1 1) (w.alloc (.D x.ay 100)):=by
 obtain⟨i0,hi0,hz0,hz1,hzb⟩:=NV;exact rO w _ _ i0 (.d lC.ay) 3 rW hi0 hz0 hz1 (Hl.G lC) (by omega) (by omega) x.ay (Hl.G x)
@[go_sem]theorem asq(w:ak):(agr 0 #[]).I ah w=.ok (.a (some ⟨w.a.j,0,none⟩) 0 0) (w.alloc (.D #[] 100)):=by
 obtain⟨i0,hi0,hz0,hz1,hzb⟩:=NV;have hne:¬i0.j=0:=by omega
 simp[agr,bI,dJ rW,sizeOf,typeInfo,zeroValue,hi0,hz0,hz1,fu,newRow,hne];rw[show(lS 0)=(#[]:Array Nat)by simp[lS],Array.map_empty]
theorem Dw{fn:Func}{p u:Tmp}(h:fn.results = #[.cell p 100,.tmp u])(tmps:Array aB)(W:ak)(b o:Nat)(hp:tmps.c p undef=.c (some ⟨b,o,none⟩))(hh:xA W b o 3):
 (results fn tmps).I ah W=.ok (.J #[.d (dY W b o 3),tmps.c u undef]) W:=by
 have hl:=j5 W b o 3 _ _ ra rfl (by kernel_rfl) hh;simp only[cu,yM,jI,oh,gH]at hl;rw[Kc h,hp];simp[asAddr,iE,hl]
end
def YS(c:UInt8):Bool:=(decide (97<=c.e)&&decide (c.e<=122))||(decide (48<=c.e)&&decide (c.e<=57))||decide (c.e=45)||decide (c.e=46)
def uO(s:List UInt8):Bool:=s.all YS&&decide (1<=s.a)&&decide (s.a<=24)
theorem Wo(l:List UInt8)(p:UInt8->Bool)(i:Nat)(hi:i<l.a):(l.d (i+1)).all p=((l.d i).all p&&p (l.c i 0)):=by
 rw[dP hi,List.all_append,au,aC hi];simp
theorem YT(l:List UInt8)(p:UInt8->Bool)(i:Nat)(hi:i<l.a)(h:p (l.c i 0)=false):l.all p=false:=by
 rw[List.all_eq_false];refine⟨l.c i 0,?_,by rw[h];simp⟩;rw[au,aC hi];exact dX hi
theorem SC(s:List UInt8)(w:ak)(hs:s.a<=9223372036854775807):
 aQ ah 116 #[.g (bU s)] w (gU w (.e (uO s))):=by
 have hcv:=Hw (P:=ah) 9 56 5 iM cB lq s;have hb:=Gh w 5 s;have hr:=Gi w 5 s;have HB:=ab hb;have HR:=ab hr;clear hb hr;go_enter Tryz.func116,Tryz.ntmps116;go_wp2;clear hcv;generalize sD w 5 s=W at HB HR ⊢;generalize grownCap w s.a 0 5=cp;go_loop [8] (fun s8=>∃i:Nat,i<=s.a/\s8=.b .a i/\(s.d i).all YS=true) (fun s8=>s.a-(intOf s8).e)
 case atStart=>exact⟨0,by omega,rfl,rfl⟩
 case round=>
  obtain⟨i,hi,rfl,hall⟩:=hrel;have HA:=ab hall;clear hall;by_cases hlt:i<s.a
  ·have hin:(i:Int)<s.a:=by omega
   obtain⟨a,ha,hab,hcell⟩:=HR.i.fD hlt;injection ha with ha
   subst ha;have e1:(⟨w.a.j,0,none⟩:aT).add i=⟨w.a.j,i,none⟩:=by unfold qX;split<;>simp_all
   rw[e1]at hcell;clear e1;have hsn:=Wo s YS i hlt;have hno:=YT s YS i hlt;have HS:=ab hsn;have HN:=ab hno;clear hsn hno;unfold bv at hcell;have hc:YS (s.c i 0)=YS (s.c i 0):=rfl;have ahy:=(s.c i 0).a;obtain⟨c,hcc⟩:=dw (s.c i 0);rw[<-hcc]at hcell HS HN ahy;clear hcc hc;have hok:YS c=((decide (97<=c.e)&&decide (c.e<=122))||(decide (48<=c.e)&&decide (c.e<=57))||decide (c.e=45)||decide (c.e=46)):=rfl;have Jt:=ab hok;clear hok;generalize c.e=n at hcell ahy Jt;rcases(show n<45\/n=45\/n=46\/n=47\/(48<=n/\n<=57)\/(57<n/\n<97)\/(97<=n/\n<=122)\/122<n by omega)with h|rfl|rfl|rfl|⟨h,h'⟩|⟨h,h'⟩|⟨h,h'⟩|h
   all_goals
    try(have h45:((n:Int) != 45)=true:=by rw[bne_iff_ne];omega)
    try(have h46:((n:Int) != 46)=true:=by rw[bne_iff_ne];omega)
   all_goals
    first
     | (have hk:YS c=true:=by rw[Jt.i];simp<;>omega
        have HK:=ab hk;clear hk;go_wp2;go_round
        case rel=>exact⟨i+1,by omega,by go_num,by rw[HS.i,HA.i,HK.i];rfl⟩
        case measure=>simp[intOf]<;>omega
        done)
     | (have hk:YS c=false:=by rw[Jt.i];simp<;>omega
        have HK:=ab hk;clear hk;go_wp2;go_ret;exact⟨by simp[uO,HN.i HK.i],HB.i⟩)
  ·obtain rfl:i=s.a:=by omega
   have hall:=HA.i;rw[aK (av _)]at hall;have HL:=ab hall;clear hall;have hok:uO s=(decide (1<=s.a)&&decide (s.a<=24)):=by simp[uO,HL.i]
   have HK:=ab hok;clear hok;by_cases h1:1<=s.a
   ·by_cases h2:s.a<=24
    all_goals
     go_wp2;go_ret;exact⟨by rw[HK.i];simp[h1,h2]<;>omega,HB.i⟩
   ·have h1':¬(1:Int)<=s.a:=by omega
    go_wp2;go_ret;exact⟨by rw[HK.i];simp[h1],HB.i⟩
structure fq where
 h:Bool
 b:Vector UInt8 16
deriving DecidableEq
structure Bk where
 E:List UInt8
 h:fq
 Y:Int
 Cg:Vector UInt8 6
 w:Nat
 drain:Bool
deriving DecidableEq
def fq.ay(a:fq):Array aB:=(bL a.h::a.b.a.map bv).b
def Bk.ay(x:Bk):Array aB:=(iC (bU x.E)::bL x.h.h::(x.h.b.a.map bv++aI .a x.Y::(x.Cg.a.map bv++[fv x.w,bL x.drain]))).b
theorem fq.G(a:fq):a.ay.j=17:=by simp[fq.ay]
theorem Bk.G(x:Bk):x.ay.j=27:=by simp[Bk.ay]
@[go_sem]theorem fq.pX(a:fq):a.ay[0]? = some (.e a.h):=rfl
theorem fq.DZ(a:fq)(i:Nat)(hi:i<16):a.ay[i+1]? = some (bv (a.b.a.c i 0)):=by
 simp[fq.ay,dZ,hi,au]
@[go_sem]theorem Bk.pX(x:Bk):x.ay[0]? = some (.g (bU x.E)):=rfl
@[go_sem]theorem Bk.DY(x:Bk):x.ay[1]? = some (.e x.h.h):=rfl
theorem Bk.DZ(x:Bk)(i:Nat)(hi:i<16):x.ay[i+2]? = some (bv (x.h.b.a.c i 0)):=by
 simp[Bk.ay,dZ,kQ,hi,au]
@[go_sem]theorem Bk.ako(x:Bk):x.ay[18]? = some (.b .a x.Y):=by simp[Bk.ay,dZ,kQ]
theorem Bk.awl(x:Bk)(i:Nat)(hi:i<6):x.ay[i+19]? = some (bv (x.Cg.a.c i 0)):=by
 simp[Bk.ay,dZ,kQ,hi,au]
@[go_sem]theorem Bk.ad9(x:Bk):x.ay[25]? = some (fv x.w):=by simp[Bk.ay,dZ,kQ]
@[go_sem]theorem Bk.aea(x:Bk):x.ay[26]? = some (.e x.drain):=by simp[Bk.ay,dZ,kQ]
theorem fq.cK(a:fq):a.ay.all (·.h)=true:=by
 rw[fV];intro v hv;simp[fq.ay]at hv;rcases hv with rfl|⟨b,_,rfl⟩<;>rfl
theorem Bk.cK(x:Bk):x.ay.all (·.h)=true:=by
 rw[fV];intro v hv;simp[Bk.ay]at hv;rcases hv with rfl|rfl|⟨b,_,rfl⟩|rfl|⟨b,_,rfl⟩|rfl|rfl<;>rfl
theorem Bk.abt(x:Bk)(j:Nat)(hj:j<17):x.ay[j+1]? = x.h.ay[j]?:=by
 rcases j with _|j
 ·rfl
 ·rw[show j+1+1=j+2 from rfl,Bk.DZ x j (by omega),fq.DZ x.h j (by omega)]
@[go_sem]theorem SG(w:ak)(x:Bk)(t:bK):xA (w.alloc (.D x.ay t)) w.a.j 0 27=True:=by
 simp only[eq_iff_iff,iff_true];exact(YN w x.ay t 0 27 x.ay (Bk.G x) (fun j _=>by rw[bl])).1
@[go_sem]theorem Hz(w:ak)(x:Bk)(t:bK):dY (w.alloc (.D x.ay t)) w.a.j 0 27=x.ay:=
 (YN w x.ay t 0 27 x.ay (Bk.G x) (fun j _=>by rw[bl])).2
def rD(v:aB):xk aB:=cu 27 v
def SH(v:aB):xk aB:=cu 62 v
def Ju(v x:aB):xk Unit:=eF 62 v x
@[go_sem ↓]theorem asr(v:aB):cu 27 v=rD v:=rfl
@[go_sem ↓]theorem avo(v:aB):cu 62 v=SH v:=rfl
@[go_sem ↓]theorem asu(v x:aB):eF 62 v x=Ju v x:=rfl
@[go_sem]theorem aoh(W:ak)(b o:Nat)(h:xA W b o 27):(SH (.c (some ⟨b,o,none⟩))).I ah W=.ok (.d (dY W b o 27)) W:=
 j5 W b o 27 _ _ nY rfl (by kernel_rfl) h
@[go_sem]theorem LJ(W:ak)(b o:Nat)(h:xA W b o 17):(rD (.c (some ⟨b,o,none⟩))).I ah W=.ok (.d (dY W b o 17)) W:=
 j5 W b o 17 _ _ eY rfl (by kernel_rfl) h
@[go_sem]theorem LK(w:ak)(c:Array aB)(x:Bk)(hc:c.j=27):
 (Ju (.c (some ⟨w.a.j,0,none⟩)) (.d x.ay)).I ah (w.alloc (.D c 62))=.ok () (w.alloc (.D x.ay 62)):=
 yV w _ c x.ay (by rw[Bk.G];kernel_rfl) (by rw[Bk.G];exact hc) (Bk.cK x)
def jk:Bk:=⟨[],⟨false,bF 16 0⟩,0,bF 6 0,0,false⟩
@[go_sem]theorem awm:bY #[iC {data:=#[]},bL false,aA,aA,aA,aA,aA,aA,aA,aA,aA,aA,aA,aA,aA,aA,aA,aA,bg,aA,aA,aA,aA,aA,aA,vJ jV 0,bL false]=bY jk.ay:=rfl
@[go_sem]theorem asv:Obj.cells #[iC {data:=#[]},bL false,aA,aA,aA,aA,aA,aA,aA,aA,aA,aA,aA,aA,aA,aA,aA,aA,bg,aA,aA,aA,aA,aA,aA,vJ jV 0,bL false] 62=Obj.cells jk.ay 62:=rfl
theorem akp{fn:Func}{p u:Tmp}(h:fn.results = #[.cell p 62,.tmp u])(tmps:Array aB)(W:ak)(b o:Nat)(hp:tmps.c p undef=.c (some ⟨b,o,none⟩))(hh:xA W b o 27):
 (results fn tmps).I ah W=.ok (.J #[.d (dY W b o 27),tmps.c u undef]) W:=by
 have hl:=j5 W b o 27 _ _ nY rfl (by kernel_rfl) hh;simp only[cu,yM,jI,oh,gH]at hl;rw[Kc h,hp];simp[asAddr,iE,hl]
def SI(W:ak)(b o:Nat)(x:Bk):ak:=W.setCells b o x.ay.a
@[go_sem]theorem awn(W:ak)(b o:Nat)(x:Bk)(h:W.O b o 27):(Ju (.c (some ⟨b,o,none⟩)) (.d x.ay)).I ah W=.ok () (SI W b o x):=
 DL W b o _ x.ay (by rw[Bk.G];exact h) (by rw[Bk.G];kernel_rfl) (Bk.cK x)
theorem aeb(W:ak)(b o:Nat)(x:Bk)(h:W.O b o 27):∀j,j<27->(SI W b o x).b ⟨b,o+j,none⟩=x.ay[j]?:=fun j hj=>by
 have hs:=Bk.G x;have:=World.cell?_setCells_in b x.ay.a o W (fun i hi=>(h i (by simpa[hs]using hi)).1) j (by simpa[hs]using hj);rw[SI,this,Array.getElem_toList,eZ (by rw[hs];exact hj)]
theorem LM(W:ak)(b o:Nat)(x:Bk)(h:W.O b o 27):xA (SI W b o x) b o 27/\dY (SI W b o x) b o 27=x.ay:=
 wS (Bk.G x) (aeb W b o x h)
theorem Pv{w W:ak}{B:Nat}(h:aM B w W)(b o:Nat)(x:Bk)(hb:B<=b):aM B w (SI W b o x):=by
 unfold SI;generalize x.ay.a=l
 induction l generalizing W o with
 | nil=>exact h
 | cons v l ih=>rw[Cr];exact ih (h.F hb v) (o+1)
@[go_sem]theorem Wp(w:ak)(x y:Bk):
 (Ju (.c (some ⟨w.a.j,0,none⟩)) (.d x.ay)).I ah (w.alloc (.D y.ay 62))=.ok () (w.alloc (.D x.ay 62)):=
 LK w y.ay x (Bk.G y)
theorem Xe(w:ak)(c:Array aB)(t:bK)(hc:c.j=27):(w.alloc (.D c t)).O w.a.j 0 27:=fun j hj=>by
 have hj':j<c.j:=by omega
 refine⟨by rw[bl,mR,eZ hj'];rfl,?_⟩;simp
namespace Fl
open Ieee
theorem H9:double.binade=4503599627370496:=by decide
theorem YU:double.signWeight=9223372036854775808:=by decide
theorem abu:double.infRung=9218868437227405312:=by decide
theorem LP:double.leastPlace = -1074:=by decide
theorem asw:double.fractionBits=52:=rfl
def mag(r:Nat):Nat:=if r<4503599627370496 then r else 4503599627370496+r%4503599627370496
def pl(r:Nat):Nat:=r/4503599627370496-1
def V(r:Nat):Nat:=mag r*2^pl r
theorem asx(r:Nat):mag r<9007199254740992:=by unfold mag;split<;>omega
theorem Ia{x:Nat}(h:x<9218868437227405312):double.read x=.number false (mag x) ((pl x:Int)-1074):=by
 unfold Format.read;simp only[YU,H9,abu,LP];have h1:x/9223372036854775808=0:=by omega
 have h2:x%9223372036854775808=x:=by omega
 rw[h1,h2];simp only[mag,pl];by_cases h3:x<4503599627370496
 ·have:x/4503599627370496=0:=by omega
  simp[this,h3]
 ·rw[if_neg h3,if_pos h,if_neg h3]
  congr 1
theorem akq{x:Nat}(h:x<9218868437227405312):double.read (9223372036854775808+x)=.number true (mag x) ((pl x:Int)-1074):=by
 unfold Format.read;simp only[YU,H9,abu,LP];have h1:(9223372036854775808+x)/9223372036854775808=1:=by omega
 have h2:(9223372036854775808+x)%9223372036854775808=x:=by omega
 rw[h1,h2];simp only[mag,pl];by_cases h3:x<4503599627370496
 ·have:x/4503599627370496=0:=by omega
  simp[this,h3]
 ·rw[if_neg h3,if_pos h,if_neg h3]
  congr 1
theorem akr:double.read 9218868437227405312=.infinity false:=by decide +kernel
theorem ahG:double.read 18442240474082181120=.infinity true:=by decide +kernel
theorem aks{x:Nat}(h:9218868437227405312<x)(h':x<9223372036854775808):double.read x=.nan false (x-9218868437227405312):=by
 unfold Format.read;simp only[YU,H9,abu,LP];have h1:x/9223372036854775808=0:=by omega
 have h2:x%9223372036854775808=x:=by omega
 rw[h1,h2,if_neg (by omega),if_neg (by omega),if_neg (by omega)];rfl
theorem ahH{x:Nat}(h:18442240474082181120<x)(h':x<18446744073709551616):double.read x=.nan true (x-18442240474082181120):=by
 unfold Format.read;simp only[YU,H9,abu,LP];have h1:x/9223372036854775808=1:=by omega
 have h2:x%9223372036854775808=x-9223372036854775808:=by omega
 rw[h1,h2,if_neg (by omega),if_neg (by omega),if_neg (by omega)];simp;omega
theorem akt(r:Nat):V (r+1)=V r+2^pl r:=by
 unfold V mag pl;by_cases h:r+1<4503599627370496
 ·have h1:r/4503599627370496=0:=by omega
  have h2:(r+1)/4503599627370496=0:=by omega
  rw[if_pos h,if_pos (by omega),h1,h2];simp
 ·rw[if_neg h]
  by_cases h3:(r+1)%4503599627370496=0
  ·
   have h4:r%4503599627370496=4503599627370495:=by omega
   have h5:(r+1)/4503599627370496=r/4503599627370496+1:=by omega
   rw[h3,h5];by_cases h6:r<4503599627370496
   ·have h7:r/4503599627370496=0:=by omega
    rw[if_pos h6,h7];simp;omega
   ·have h7:r/4503599627370496=(r/4503599627370496-1)+1:=by omega
    rw[if_neg h6,h4];have e:r/4503599627370496+1-1=(r/4503599627370496-1)+1:=by omega
    rw[e,Nat.pow_succ];generalize 2^(r/4503599627370496-1)=z;omega
  ·have h5:(r+1)/4503599627370496=r/4503599627370496:=by omega
   have h6:(r+1)%4503599627370496=r%4503599627370496+1:=by omega
   rw[h5,h6,if_neg (by omega)];generalize 2^(r/4503599627370496-1)=z;rw[show 4503599627370496+(r%4503599627370496+1)=(4503599627370496+r%4503599627370496)+1 from rfl,Jg]
theorem YV{r s:Nat}(h:r<=s):V r<=V s:=by
 induction h with
 | refl=>exact av _
 | step _ ih=>rw[akt];exact aO ih (Nat.le_add_right _ _)
theorem aBm{r s:Nat}(h:r<s):V r<V s:=by
 have h1:=akt r;have h2:=YV (show r+1<=s from h);have h3:0<2^pl r:=nG _;omega
theorem SK{r s:Nat}:V r<=V s↔r<=s:=⟨fun h=>by
 by_cases hc:r<=s
 ·exact hc
 ·have:=aBm (show s<r by omega);omega,YV⟩
theorem aec:V 0=0:=by decide
theorem abv(a b:Int)(z:Nat)(hz:0<z):compare (a*z) (b*z)=compare a b:=by
 simp only[compare,compareOfLessAndEq];have a1:(a*(z:Int)<b*z)↔a<b:=Int.mul_lt_mul_right (by omega);have a2:(a*(z:Int)=b*z)↔a=b:=Int.mul_eq_mul_right_iff (by omega);simp only[a1,a2]
theorem SX(s:Bool)(m k d:Nat):signed s m (k+d)=signed s m k*(2^d:Nat):=by
 unfold signed;simp only[mF,pV];cases s
 ·simp[Int.mul_assoc]
 ·simp[Int.mul_assoc,Int.neg_mul]
theorem ahI(s t:Bool)(m n i j:Nat):Datum.order (.number s m ((i:Int)-1074)) (.number t n ((j:Int)-1074))=some (compare (signed s m i) (signed t n j)):=by
 simp only[Datum.order];congr 1;obtain⟨b,hb⟩:∃b:Nat,b=min i j:=⟨_,rfl⟩
 have e0:min ((i:Int)-1074) ((j:Int)-1074)=(b:Int)-1074:=by omega
 rw[e0];have e1:signed s m i=signed s m ((i:Int)-1074-((b:Int)-1074)).e*(2^b:Nat):=by
  rw[<-SX];congr 1;omega
 have e2:signed t n j=signed t n ((j:Int)-1074-((b:Int)-1074)).e*(2^b:Nat):=by
  rw[<-SX];congr 1;omega
 rw[e1,e2];exact(abv _ _ _ (nG _)).symm
def fin(x:Nat):Prop:=x<9218868437227405312\/(9223372036854775808<=x/\x<18442240474082181120)
def SV(x:Nat):Int:=if x<9223372036854775808 then(V x:Int)else -(V (x-9223372036854775808):Int)
theorem LQ{x:Nat}(h:fin x):∃(s:Bool)(m i:Nat),double.read x=.number s m ((i:Int)-1074)/\signed s m i=SV x:=by
 rcases h with h|⟨h,h'⟩
 ·exact⟨_,_,_,Ia h,by unfold SV;rw[if_pos (by omega)];simp[signed,V,mF]⟩
 ·have:=akq (x:=x-9223372036854775808) (by omega)
  rw[show 9223372036854775808+(x-9223372036854775808)=x by omega]at this;exact⟨_,_,_,this,by unfold SV;rw[if_neg (by omega)];simp[signed,V,mF]⟩
theorem ags{x y:Nat}(hx:fin x)(hy:fin y):double.order x y=some (compare (SV x) (SV y)):=by
 obtain⟨s,m,i,h1,h2⟩:=LQ hx;obtain⟨t,n,j,h3,h4⟩:=LQ hy;unfold Format.order;rw[h1,h3,ahI,h2,h4]
theorem aoi{x:Nat}(hx:x<18446744073709551616)(h:¬fin x):x=9218868437227405312\/x=18442240474082181120\/(∃s f,double.read x=.nan s f):=by
 unfold fin at h;by_cases h1:x=9218868437227405312
 ·exact .a h1
 by_cases h2:x=18442240474082181120
 ·exact .b (.a h2)
 by_cases h3:x<9223372036854775808
 ·exact .b (.b ⟨_,_,aks (by omega) h3⟩)
 ·exact .b (.b ⟨_,_,ahH (by omega) hx⟩)
theorem Xf{x y:Nat}{s f}(h:double.read x=.nan s f):double.order x y=none:=by
 unfold Format.order;rw[h];rfl
theorem Xg{y:Nat}(hy:fin y):double.order 9218868437227405312 y=some .gt:=by
 obtain⟨t,n,j,h3,h4⟩:=LQ hy;unfold Format.order;rw[h3,akr];rfl
theorem S9{y:Nat}(hy:fin y):double.order 18442240474082181120 y=some .lt:=by
 obtain⟨t,n,j,h3,h4⟩:=LQ hy;unfold Format.order;rw[h3,ahG];rfl
theorem abx(k t:Nat)(hk:0<k):(k*2^t).log2=k.log2+t:=by
 have h0:k*2^t≠0:=uD (Nat.mul_pos hk (nG _));have h1:2^k.log2<=k:=Nat.log2_self_le (by omega);have h2:k<2^(k.log2+1):=Nat.lt_log2_self;refine Nat.le_antisymm ?_ ?_
 ·refine EM ((Nat.log2_lt h0).2 ?_)
  rw[show Nat.succ (k.log2+t)=(k.log2+1)+t by omega,pV];exact(Nat.mul_lt_mul_right (nG _)).2 h2
 ·refine(Nat.le_log2 h0).2 ?_
  rw[pV];exact cZ _ h1
theorem aku(way:Toward)(neg:Bool)(n:Nat):way.cut neg n 0=n:=by
 unfold Toward.cut;cases way<;>simp[Nat.mod_one]
theorem ahJ(neg:Bool)(k t:Nat)(hk:0<k):Toward.even.cut neg (k*2^t) t=k:=by
 unfold Toward.cut;have h0:min t ((k*2^t).log2+2)=t:=by rw[abx _ _ hk];omega
 have h1:(1 <<< t)=2^t:=by rw[mF,Nat.one_mul]
 have hp:0<2^t:=nG _;simp only[h0,h1,Nat.mul_div_cancel _ hp,Nat.mul_mod_left];simp
theorem aby(n t:Nat):Toward.down.cut false n t=n/2^t:=by
 unfold Toward.cut;simp only[Bool.false_and,Bool.toNat_false,nE];have h1:∀d,(1 <<< d)=2^d:=fun d=>by rw[mF,Nat.one_mul]
 rw[h1];by_cases h:t<=n.log2+2
 ·rw[ou h]
 ·rw[zX (by omega)]
  have h2:n<2^(n.log2+1):=Nat.lt_log2_self;have h3:2^(n.log2+1)<=2^(n.log2+2):=nO (by omega) (by omega);have h4:2^(n.log2+2)<=2^t:=nO (by omega) (by omega);rw[Nat.div_eq_of_lt (by omega),Nat.div_eq_of_lt (by omega)]
theorem ahK(neg:Bool)(n t:Nat):Toward.zero.cut neg n t=n/2^t:=by
 have:=aby n t;unfold Toward.cut at this ⊢;simpa using this
theorem Km(neg:Bool)(k t s:Nat)(p:Int)(hp:p+t=(s:Int)-1074)(hk0:0<k)(hk:k<9007199254740992)(hs:s+k.log2<=2097):
 ∃r,r<9218868437227405312/\double.nearest neg (k*2^t) p=double.word neg r/\V r=k*2^s:=by
 have awo:k.log2<=52:=EM ((Nat.log2_lt (by omega)).2 (by simpa using hk));have h1:2^k.log2<=k:=Nat.log2_self_le (by omega);have h2:k<2^(k.log2+1):=Nat.lt_log2_self;have hne:k*2^t≠0:=uD (Nat.mul_pos hk0 (nG _));obtain⟨l,hl⟩:∃l:Nat,l=s+k.log2-52:=⟨_,rfl⟩
 have hlast:max (p+((k*2^t).log2:Int)-52) (-1074)=(l:Int)-1074:=by rw[abx _ _ hk0];omega
 have hkept:Toward.even.cut neg ((k*2^t) <<< (p-((l:Int)-1074)).e) (((l:Int)-1074)-p).e=k*2^(s-l):=by
  rw[mF];by_cases hc:(l:Int)-1074<=p
  ·rw[show(((l:Int)-1074)-p).e=0 by omega,aku,Nat.mul_assoc,<-pV]
   congr 2;omega
  ·rw[show(p-((l:Int)-1074)).e=0 by omega,Nat.pow_zero,gB]
   obtain⟨d,hd⟩:∃d:Nat,d=(((l:Int)-1074)-p).e:=⟨_,rfl⟩
   rw[<-hd,show k*2^t=(k*2^(s-l))*2^d by rw[Nat.mul_assoc,<-pV];congr 2;omega];exact ahJ _ _ _ (Nat.mul_pos hk0 (nG _))
 have hrun:double.nearest neg (k*2^t) p=double.word neg (min (l*4503599627370496+k*2^(s-l)) 9218868437227405312):=by
  unfold Format.nearest;simp only[if_neg hne,asw,LP,H9,abu];rw[show((52:Nat):Int)=52 from rfl,hlast,hkept];congr 4;omega
 by_cases hl0:l=0
 ·subst hl0
  have hb:k*2^s<9007199254740992:=by
   have h5:k*2^s<2^(k.log2+1)*2^s:=(Nat.mul_lt_mul_right (nG _)).2 h2;rw[<-pV]at h5;have h6:2^(k.log2+1+s)<=2^53:=nO (by omega) (by omega);omega
  refine⟨k*2^s,by omega,?_,?_⟩
  ·rw[hrun,Jh,bl,Nat.sub_zero,ou (by omega)]
  ·generalize k*2^s=z at hb
   unfold V mag pl;split
   ·rename_i h7;rw[show z/4503599627370496=0 by omega];simp
   ·rename_i h7;rw[show z/4503599627370496=1 by omega];simp;omega
 ·have hb1:4503599627370496<=k*2^(s-l):=by
   have h5:2^k.log2*2^(s-l)<=k*2^(s-l):=cZ _ h1;rw[<-pV,show k.log2+(s-l)=52 by omega]at h5;exact h5
  have hb2:k*2^(s-l)<9007199254740992:=by
   have h5:k*2^(s-l)<2^(k.log2+1)*2^(s-l):=(Nat.mul_lt_mul_right (nG _)).2 h2;rw[<-pV,show k.log2+1+(s-l)=53 by omega]at h5;exact h5
  have hv:k*2^s=k*2^(s-l)*2^l:=by rw[Nat.mul_assoc,<-pV];congr 2;omega
  rw[hv];generalize k*2^(s-l)=z at hb1 hb2 hrun;refine⟨l*4503599627370496+z,by omega,?_,?_⟩
  ·rw[hrun,ou (by omega)]
  ·unfold V mag pl
   rw[if_neg (by omega),show(l*4503599627370496+z)/4503599627370496=l+1 by omega,show(l*4503599627370496+z)%4503599627370496=z-4503599627370496 by omega];rw[show 4503599627370496+(z-4503599627370496)=z by omega];rfl
def top:Nat:=1074
theorem aed:top=1074:=rfl
def U:Nat:=2^top
theorem akv{p:Nat}(h:p<=top):U=2^(top-p)*2^p:=by
 have h1:2^(top-p+p)=2^(top-p)*2^p:=pV 2 (top-p) p;rw[Nat.sub_add_cancel h]at h1;exact h1
theorem aok{p:Nat}(h:p<=1074):U=2^(1074-p)*2^p:=by
 have h1:=akv (p:=p) (by rw[aed];exact h);rw[h1,show top-p=1074-p from congrArg (fun z=>z-p) aed]
theorem aBn:∃s:Nat,s=1074/\U=2^s:=⟨top,aed,rfl⟩
theorem akw:0<U:=nG _
theorem ahL:double.read 4652218415073722368=.number false 4503599627370496 (-42):=by decide +kernel
theorem akx:V 4652007308841189376=1000*U:=by decide +kernel
theorem EU(r:Nat):double.word false r=r:=rfl
theorem YW(x t s:Nat)(p:Int)(hp:p+t=(s:Int)-1074)(hs:s<=2045):
 ∃r,r<9218868437227405312/\double.write (.number false (mag x*2^t) p)=r/\V r=mag x*2^s:=by
 unfold Format.write;by_cases h0:mag x=0
 ·rw[h0,Jh]
  exact⟨0,by decide,by simp[Format.nearest,EU],by simp[aec]⟩
 ·have hm:=asx x
  have awo:(mag x).log2<=52:=EM ((Nat.log2_lt h0).2 (by simpa using hm));obtain⟨r,a,b,c⟩:=Km false (mag x) t s p hp (by omega) hm (by omega);exact⟨r,a,b.trans (EU r),c⟩
theorem aky{x:Nat}(h:x<=4652007308841189376):∃r,r<9218868437227405312/\double.mul x 4652218415073722368=some r/\V r=V x*1024:=by
 unfold Format.mul;rw[Ia (x:=x) (by omega),ahL];obtain⟨r,a,b,c⟩:=YW x 52 (pl x+10) ((pl x:Int)-1074 + -42) (by omega) (by unfold pl;omega);refine⟨r,a,?_,?_⟩
 ·simp only[Datum.product,Option.map]
  rw[show(4503599627370496:Nat)=2^52 from rfl];exact congrArg some b
 ·rw[c,V,pV,Nat.mul_assoc]
theorem abz:double.mul 9223372036854775808 4652218415073722368=some 9223372036854775808:=by decide +kernel
theorem Te{r c:Nat}(h:V r<=V c):pl r<=pl c:=by
 have:=SK.1 h;unfold pl;have:=Nat.div_le_div_right (c:=4503599627370496) this;omega
theorem aqS{r:Nat}(h:pl r<=1074):mag r/2^(1074-pl r)=V r/U:=by
 unfold V;rw[aok h,Nat.mul_div_mul_right _ _ (nG _)]
theorem Wq{r:Nat}(hr:r<9218868437227405312)(h:pl r<=1074):(double.read r).integral .down=.number false (V r/U) 0:=by
 rw[Ia hr];simp only[Datum.integral];rw[show((pl r:Int)-1074).e=0 by omega,show(-((pl r:Int)-1074)).e=1074-pl r by omega,Nat.shiftLeft_zero,aby,aqS h]
theorem Wr{r:Nat}(hr:r<9218868437227405312)(h:pl r<=1074):(double.read r).integral .zero=.number false (V r/U) 0:=by
 rw[Ia hr];simp only[Datum.integral];rw[show((pl r:Int)-1074).e=0 by omega,show(-((pl r:Int)-1074)).e=1074-pl r by omega,Nat.shiftLeft_zero,ahK,aqS h]
theorem abA(q:Nat)(hq:q<9007199254740992):∃r,r<9218868437227405312/\double.write (.number false q 0)=r/\V r=q*U:=by
 unfold Format.write;by_cases h0:q=0
 ·subst h0
  exact⟨0,by decide,by simp[Format.nearest,EU],by simp[aec]⟩
 ·have awo:q.log2<=52:=EM ((Nat.log2_lt h0).2 (by simpa using hq))
  obtain⟨u,hu,hU⟩:=aBn;obtain⟨r,a,b,c⟩:=Km false q 0 u 0 (by omega) (by omega) hq (by omega);rw[Nat.pow_zero,gB]at b;rw[<-hU]at c;exact⟨r,a,b.trans (EU r),c⟩
theorem akz:V 4697254411347427328=1048576*U:=by decide +kernel
theorem akA{r q:Nat}(hv:V r=q*U)(hq:q<=1048576):pl r<=1074:=by
 have h1:V r<=V 4697254411347427328:=by rw[hv,akz];exact cZ _ hq
 have h2:=Te h1;have h3:pl 4697254411347427328=1042:=by decide +kernel
 omega
def uP(x:Nat):Nat:=V x*1024/U
theorem abB{x y:Nat}(h:x<=y):uP x<=uP y:=Nat.div_le_div_right (cZ _ (YV h))
theorem abC:uP 4652007308841189376=1024000:=by
 unfold uP;rw[akx,Nat.mul_right_comm,Nat.mul_div_cancel _ akw]
theorem ahM{x:Nat}(h:x<=4652007308841189376):uP x<=1024000:=abC ▸ abB h
end Fl
theorem NW(x:Nat)(w:ak):(callFunc 198 #[.float .f64 x]).I ah w=.ok (.value (.b .c x)) w:=by
 rw[yA Tryz.func198 (by kernel_rfl) (by kernel_rfl) (by kernel_rfl) (e:=Extern.MathFloatBits.float64bits) (by kernel_rfl)];rfl
def ord(x y:Nat):Option Ordering:=jV.format.order x y
def akB(x:Nat):Bool:=ord x x != some .eq
theorem ahN(x:Nat)(w:ak):aQ ah 261 #[.float .f64 x] w fun e w'=>e=.a (.e (akB x))/\w=w':=by
 go_enter Tryz.func261,Tryz.ntmps261;go_wp2;go_ret;exact⟨rfl,rfl⟩
def Tf(x:Nat):Nat:=if akB x then 9221120237041090560 else x
theorem akC(x:Nat)(w:ak):aQ ah 192 #[.float .f64 x] w fun e w'=>e=.a (.b .c (Tf x))/\w=w':=by
 have h1:=NW x;cases hn:akB x
 all_goals
  go_enter Tryz.func192,Tryz.ntmps192;go_wp2_with (first|(go_at_call 261;refine(ahN _ _).g ?_;rintro e w' ⟨rfl,rfl⟩));go_ret;exact⟨by simp[Tf,hn],rfl⟩
def D6(x y:Nat):Bool:=Tf x==Tf y
theorem abD(x y:Nat)(w:ak):aQ ah 112 #[.float .f64 x,.float .f64 y] w fun e w'=>e=.a (.e (D6 x y))/\w=w':=by
 go_enter Tryz.func112,Tryz.ntmps112;go_wp2_with (first|(go_at_call 192;refine(akC _ _).g ?_;rintro e w' ⟨rfl,rfl⟩));go_ret;exact⟨by simp[D6,aoc],rfl⟩
def NY(x:Nat):Bool:=(ord x 0==some .gt||ord x 0==some .eq)&&(ord x 4652007308841189376==some .lt||ord x 4652007308841189376==some .eq)
theorem Jv(x:Nat)(w:ak):aQ ah 170 #[.float .f64 x] w fun e w'=>e=.a (.e (NY x))/\w=w':=by
 cases h0:(jV.format.order x 0==some .gt||jV.format.order x 0==some .eq)
 all_goals
  go_enter Tryz.func170,Tryz.ntmps170;go_wp2;go_ret;exact⟨by simp[NY,ord,h0],rfl⟩
def j6(x:Nat):Nat:=if ord x 0==some .eq then 0 else x
theorem yZ(x:Nat)(w:ak):aQ ah 113 #[.float .f64 x] w fun e w'=>e=.a (.float .f64 (j6 x))/\w=w':=by
 cases h0:(jV.format.order x 0==some .eq)
 all_goals
  go_enter Tryz.func113,Tryz.ntmps113;go_wp2;go_ret;exact⟨by simp[j6,ord,h0],rfl⟩
def Ws(x:Nat):Bool:=decide (x<=4652007308841189376)||x==9223372036854775808
theorem Jw{x:Nat}(hx:x<18446744073709551616):NY x=Ws x:=by
 have f0:Fl.fin 0:=by unfold Fl.fin;omega
 have f1:Fl.fin 4652007308841189376:=by unfold Fl.fin;omega
 have s0:Fl.SV 0=0:=by decide +kernel
 have s1:Fl.SV 4652007308841189376=(Fl.V 4652007308841189376:Int):=by unfold Fl.SV;rw[if_pos (by omega)]
 have aBo:∀a b,ord a b=vO.order a b:=fun _ _=>rfl
 unfold NY Ws;rw[bZ];simp only[aBo];by_cases hf:Fl.fin x
 ·rw[Fl.ags hf f0,Fl.ags hf f1,s0,s1]
  have e1:∀a b:Int,(some (compare a b)==some Ordering.gt||some (compare a b)==some Ordering.eq)=decide (b<=a):=by
   intro a b;rw[bZ];simp[Int.compare_eq_gt,Int.compare_eq_eq];omega
  have e2:∀a b:Int,(some (compare a b)==some Ordering.lt||some (compare a b)==some Ordering.eq)=decide (a<=b):=by
   intro a b;rw[bZ];simp[Int.compare_eq_lt,Int.compare_eq_eq];omega
  rw[e1,e2];unfold Fl.SV;split
  ·rename_i h1
   have:=@Fl.SK x 4652007308841189376;simp;omega
  ·rename_i h1
   have:=@Fl.SK (x-9223372036854775808) 0;have hz:=Fl.aec;simp;omega
 ·have hno:¬x<=4652007308841189376:=fun h=>hf (by unfold Fl.fin;omega)
  have hno':¬x=9223372036854775808:=fun h=>hf (by unfold Fl.fin;omega)
  rcases Fl.aoi hx hf with rfl|rfl|⟨s,f,h⟩
  ·rw[Fl.Xg f0,Fl.Xg f1];decide
  ·rw[Fl.S9 f0,Fl.S9 f1];decide
  ·rw[Fl.Xf h,Fl.Xf h]
   simp;omega
def wQ(x:Nat):Nat:=if Ws x then Fl.uP (x%9223372036854775808)else 0
theorem aqT(x:Nat):wQ x<=1024000:=by
 unfold wQ;split
 ·rename_i h
  simp[Ws]at h;refine Fl.ahM ?_;omega
 ·omega
theorem Ti(x:Nat)(d:Ieee.Datum)(h:vO.read x=d)(hn:d.isNaN=false)(w:ak):
 (callFunc 244 #[.float .f64 x]).I ah w=.ok (.value (.float .f64 (vO.write (d.integral .down)))) w:=by
 rw[yA Tryz.func244 (by kernel_rfl) (by kernel_rfl) (by kernel_rfl) (e:=Extern.MathFloor.toIntegral (Tryz.f244.E) .down) (by kernel_rfl)];have e:jV.decode x=d:=h;have hrun:Ji ah (Extern.MathFloor.toIntegral (Tryz.f244.E) .down #[.float .f64 x]) w=.ok (.float .f64 (vO.write (d.integral .down))) w:=by
  change Ji ah ((match jV.decode x with
   | .nan s t=>
     if jV.format.quiet t=t then pure (vJ .f64 x)else do
     let kept<-choose _
     pure (vJ .f64 (if kept==1 then x else jV.encode (.nan s (jV.format.quiet t))))
   | d=>pure (vJ .f64 (jV.encode (d.integral .down)))):xk aB) w=_
  rw[e];cases d with
  | nan s f=>simp[Ieee.Datum.isNaN]at hn
  | infinity s=>rfl
  | number s m i=>rfl
 rw[hrun];rfl
theorem ahO(x:Nat)(h:Ws x=true)(w:ak):aQ ah 86 #[.float .f64 x] w fun e w'=>e=.a (.J #[.b .a (wQ x),.e true])/\w=w':=by
 have hx:x<18446744073709551616:=by simp[Ws]at h;omega
 have hr:NY x=true:=by rw[Jw hx,h]
 obtain⟨r,r2,e1,e2,e3,e4⟩:∃r r2,vO.mul x 4652218415073722368=some r/\(vO.read r).isNaN=false/\vO.write ((vO.read r).integral .down)=r2/\floatToIntVal .f64 r2 .a=some (wQ x:Int):=by
  by_cases hm:x=9223372036854775808
  ·subst hm
   exact⟨_,_,Fl.abz,by decide +kernel,rfl,by decide +kernel⟩
  ·have hle:x<=4652007308841189376:=by simp[Ws]at h;omega
   have hq:wQ x=Fl.uP x:=by unfold wQ;rw[if_pos h,fK (by omega)]
   obtain⟨r,a,b,c⟩:=Fl.aky hle;have aHx:=aqT x;have hV:Fl.V r<1048576*Fl.U:=by
    have h1:=Fl.YV hle;rw[Fl.akx]at h1;have:=Fl.akw;rw[c];generalize Fl.V x=y at h1;generalize Fl.U=u at h1 this;omega
   have hpl:Fl.pl r<=1074:=by
    have h1:Fl.V r<=Fl.V 4697254411347427328:=by rw[Fl.akz];exact Nat.le_of_lt hV
    have h2:=Fl.Te h1;have h3:Fl.pl 4697254411347427328=1042:=by decide +kernel
    omega
   have hi:=Fl.Wq a hpl;have hqq:Fl.V r/Fl.U=wQ x:=by rw[hq,c];rfl
   rw[hqq]at hi;obtain⟨r2,a2,b2,c2⟩:=Fl.abA (wQ x) (by omega);have hz:=Fl.Wr a2 (Fl.akA c2 (by omega));rw[c2,Nat.mul_div_cancel _ Fl.akw]at hz;refine⟨r,r2,b,?_,?_,?_⟩
   ·rw[Fl.Ia a];rfl
   ·rw[hi];exact b2
   ·unfold floatToIntVal
    have:(jV.decode r2).toInt .zero=some (wQ x:Int):=by
     show(vO.read r2).toInt .zero=_;unfold Ieee.Datum.toInt;rw[hz];simp[Ieee.signed]
    rw[this];simp[Je,Jf,lN,nQ];omega
 have h1:=fun w=>run_float_arith (P:=ah) w .mul 60 .f64 x 4652218415073722368 r e1
 have h2:=Ti r _ rfl e2;rw[e3]at h2;have h3:=fun w=>run_convert_float_int (P:=ah) w 60 3 .f64 .a r2 _ (by kernel_rfl) gM e4
 clear e1 e2 e3 e4;go_enter Tryz.func86,Tryz.ntmps86;go_wp2_with (first|(go_at_call 170;refine(Jv _ _).g ?_;rintro e w' ⟨rfl,rfl⟩)|(go_at_call 171;go_in));go_ret2;exact⟨rfl,rfl⟩
theorem ahP(x:Nat)(hx:x<18446744073709551616)(h:Ws x=false)(w:ak):aQ ah 86 #[.float .f64 x] w fun e w'=>e=.a (.J #[.b .a (wQ x),.e false])/\w=w':=by
 have hr:NY x=false:=by rw[Jw hx,h]
 have hq:wQ x=0:=by unfold wQ;rw[h];rfl
 go_enter Tryz.func86,Tryz.ntmps86;go_wp2_with (first|(go_at_call 170;refine(Jv _ _).g ?_;rintro e w' ⟨rfl,rfl⟩));go_ret2;exact⟨by simp[hq],rfl⟩
theorem aee(x:Nat)(hx:x<18446744073709551616)(w:ak):aQ ah 86 #[.float .f64 x] w fun e w'=>e=.a (.J #[.b .a (wQ x),.e (Ws x)])/\w=w':=by
 cases h:Ws x
 ·exact ahP x hx h w
 ·exact ahO x h w
theorem abE{x:Nat}(hx:x<18446744073709551616):Tf x<18446744073709551616:=by unfold Tf;split<;>omega
def aef(x:Nat):List UInt8:=iN (Tf x) 8 true
theorem EX{w:ak}{A:Option aT}{n:Nat}{l:List UInt8}(h:fP w w.a.j A n l)(c:Nat):
 (∀W,aM w.a.j w W->(convert 56 9 (.a A n c)).I ah W=.ok (.g (bU l)) W) /\
  (convert 56 9 (.a A n c)).I ah w=.ok (.g (bU l)) w:=
 ⟨fun W hW=>Hr (P:=ah) (h.S hW) _ _ _ cB lq iM c,
  Hr (P:=ah) h _ _ _ cB lq iM c⟩
theorem abF{n m:Nat}(k:Nat)(h:∀i,i<k->Ht n i=Ht m i):n%2^(8*k)=m%2^(8*k):=by
 induction k with
 | zero=>simp[Nat.mod_one]
 | succ k ih=>
   have h1:=ih (fun i hi=>h i (by omega));have h2:=congrArg UInt8.toNat (h k (by omega));simp only[Ht,Ct]at h2;have e:2^(8*(k+1))=2^(8*k)*256:=by rw[show 8*(k+1)=8*k+8 by omega,pV]
   rw[e,Nat.mod_mul,Nat.mod_mul,h1,h2]
theorem aeg{n m:Nat}(hn:n<18446744073709551616)(hm:m<18446744073709551616)(h:iN n 8 true=iN m 8 true):n=m:=by
 have h1:vU n 8=vU m 8:=by
  have:=congrArg List.reverse h;simpa[iN]using this
 have h2:∀i,i<8->Ht n i=Ht m i:=fun i hi=>by
  have:=congrArg (fun l:List UInt8=>l[i]?) h1;simpa[vU,hi]using this
 have h3:=abF 8 h2;rw[fK (by omega),fK (by omega)]at h3;exact h3
theorem Qs(l:List UInt8):vU (oC l) l.a=l.reverse:=by
 have key:∀(k:Nat)(l:List UInt8),l.a=k->vU (oC l) k=l.reverse:=by
  intro k
  induction k with
  | zero=>intro l hl;rw[bE hl];rfl
  | succ k ih=>
    intro l hl;obtain⟨r,c,rfl⟩:∃r c,l=r++[c]:=⟨l.dropLast,l.getLast (by intro h;simp[h]at hl),(List.dropLast_concat_getLast _).symm⟩
    have hr:r.a=k:=by simpa using hl
    have:=ih r hr;rw[Hu];unfold vU at this ⊢;rw[List.range_succ_eq_map,kI,GY,List.reverse_append];simp only[List.reverse_cons,List.reverse_nil,dF,List.singleton_append,List.cons.injEq];constructor
    ·unfold Ht
     apply lV.1;have:=c.a;simp[Ct]
    ·rw[<-this]
     refine BJ (fun i hi=>?_);simp only[Function.comp,Ht];have e:(oC r*256+c.e)/2^(8*(i+1))=oC r/2^(8*i):=by
      rw[show 8*(i+1)=8+8*i by omega,pV,<-Nat.div_div_eq_div_mul];congr 1;have:=c.a;omega
     rw[show Nat.succ i=i+1 from rfl,e]
 exact key _ l rfl
def fq.mK(a:fq):Bool:=(a.b.a.f 4).all (fun c=>c==0)
theorem fq.awp(a:fq):a.b.a.a=16:=a.b.size_toArray
def Bk.AY(x:Bk):Bool:=(x.h.h||x.h.mK)&&uO x.E&&decide (1<=x.Y)&&decide (x.Y<=65535)&&Ws x.w
def fq.fD(a:fq)(i:Nat):UInt8:=a.b.a.c i 0
theorem fq.Jy(a:fq):a.mK=true↔∀i,4<=i->i<16->a.fD i=0:=by
 unfold fq.mK fq.fD;rw[gF];have hl:=a.awp;constructor
 ·intro h i h4 h16
  have:a.b.a.c i 0∈a.b.a.f 4:=by
   rw[au,aC (by omega)];exact List.mem_drop_iff_getElem.2 ⟨i-4,by omega,by simp[show 4+(i-4)=i by omega]⟩
  simpa using h _ this
 ·intro h x hx
  obtain⟨j,hj,rfl⟩:=List.mem_drop_iff_getElem.1 hx;have:=h (4+j) (by omega) (by omega);rw[au,aC (by omega)]at this;simpa using this
theorem fq.Tj{a:fq}{i:Nat}(h4:4<=i)(h16:i<16)(h:a.fD i≠0):a.mK=false:=by
 cases hs:a.mK
 ·rfl
 ·exact absurd (a.Jy.1 hs i h4 h16) h
theorem ahQ(a:fq)(w:ak):aQ ah 133 #[.d a.ay] w (gU w (.e (a.mK && !a.h))):=by
 go_enter Tryz.func133,Tryz.ntmps133;go_wp2;have hb:aM w.a.j w (w.alloc (.D a.ay 27)):=(aG _ _).alloc (av _) _;have HB:=ab hb;clear hb;go_loop [3] (fun s3=>∃i:Nat,i<=16/\4<=i/\s3=.b .a i/\∀j,4<=j->j<i->a.fD j=0) (fun s3=>16-(intOf s3).e)
 case atStart=>exact⟨4,by omega,by omega,rfl,fun j h1 h2=>by omega⟩
 case round=>
  obtain⟨i,hi,hi4,rfl,hall⟩:=hrel;have HA:=ab hall;clear hall;by_cases hlt:i<16
  ·have hin:(i:Int)<16:=by omega
   have hcell:(w.alloc (.D a.ay 27)).b ⟨w.a.j,1+i,none⟩=some (.b .b ((a.fD i).e:Nat)):=by
    rw[mR,uE];exact fq.DZ a i hlt
   have hz:((a.fD i).e:Int)=0↔a.fD i=0:=by
    constructor
    ·intro h;apply lV.1;have:(0:UInt8).e=0:=rfl;omega
    ·intro h;rw[h];rfl
   have HZ:=ab hz;clear hz;obtain⟨n,hn⟩:∃n:Nat,n=(a.fD i).e:=⟨_,rfl⟩
   rw[<-hn]at hcell HZ;clear hn;by_cases h0:n=0
   ·have h1:((n:Int) != 0)=false:=by rw[h0];rfl
    have hz0:a.fD i=0:=HZ.i.1 (by omega);have HZ0:=ab hz0;clear hz0 h0;go_wp2;go_round
    case rel=>exact⟨i+1,by omega,by omega,by go_num,fun j h1 h2=>by
     by_cases hji:j=i
     ·rw[hji];exact HZ0.i
     ·exact HA.i j h1 (by omega)⟩
    case measure=>simp[intOf]<;>omega
   ·have h1:((n:Int) != 0)=true:=by rw[bne_iff_ne];omega
    have hno:a.mK=false:=fq.Tj hi4 hlt (fun h=>h0 (by have:=HZ.i.2 h;omega));have EZ:=ab hno;clear hno h0;go_wp2;go_ret;exact⟨by rw[EZ.i];rfl,HB.i⟩
  ·obtain rfl:i=16:=by omega
   have hs:a.mK=true:=a.Jy.2 HA.i;have HS:=ab hs;clear hs;go_wp2;go_ret;exact⟨by rw[HS.i];rfl,HB.i⟩
theorem Pw(c:Nat)(w:ak):aQ ah 191 #[.b .b c] w fun e w'=>e=.a (.e ((c:Int) != 0))/\w=w':=by
 go_enter Tryz.func191,Tryz.ntmps191;go_wp2;go_ret;exact⟨rfl,rfl⟩
theorem Wt(args:Array aB)(w:ak):(callFunc 191 args).I ah w=.ok (.enter 191 args) w:=by kernel_rfl
theorem abG(a:fq)(b o c:Nat)(w:ak)(hc:∀j,j<12->w.b ⟨b,o+j,none⟩=some (.b .b ((a.fD (4+j)).e:Nat))):
 aQ ah 260 #[.a (some ⟨b,o,none⟩) 12 c,.func (.func 191) #[] #[]] w fun e w'=>∃r:Int,e=.a (.b .a r)/\(decide (0<=r) = !a.mK)/\w=w':=by
 have hen:=Wt;have HC:=ab hc;clear hc;go_enter Tryz.func260,Tryz.ntmps260;go_wp2;go_loop [8] (fun s8=>∃i:Nat,i<=12/\s8=.b .a i/\∀j,4<=j->j<4+i->a.fD j=0) (fun s8=>12-(intOf s8).e)
 case atStart=>exact⟨0,by omega,rfl,fun j h1 h2=>by omega⟩
 case round=>
  obtain⟨i,hi,rfl,hall⟩:=hrel;have HA:=ab hall;clear hall;by_cases hlt:i<12
  ·have hin:(i:Int)<12:=by omega
   have hcell:=HC.i i hlt;have hz:((a.fD (4+i)).e:Int)=0↔a.fD (4+i)=0:=by
    constructor
    ·intro h;apply lV.1;have:(0:UInt8).e=0:=rfl;omega
    ·intro h;rw[h];rfl
   have HZ:=ab hz;clear hz;obtain⟨n,hn⟩:∃n:Nat,n=(a.fD (4+i)).e:=⟨_,rfl⟩
   rw[<-hn]at hcell HZ;clear hn;by_cases h0:n=0
   ·have h1:((n:Int) != 0)=false:=by rw[h0];rfl
    have hz0:a.fD (4+i)=0:=HZ.i.1 (by omega);have HZ0:=ab hz0;clear hz0 h0;go_wp2_with (go_at_call 191;refine(Pw n _).g ?_;rintro e w' ⟨rfl,rfl⟩);go_round
    case rel=>exact⟨i+1,by omega,by go_num,fun j h1 h2=>by
     by_cases hji:j=4+i
     ·rw[hji];exact HZ0.i
     ·exact HA.i j h1 (by omega)⟩
    case measure=>simp[intOf]<;>omega
   ·have h1:((n:Int) != 0)=true:=by rw[bne_iff_ne];omega
    have hno:a.mK=false:=fq.Tj (i:=4+i) (by omega) (by omega) (fun h=>h0 (by have:=HZ.i.2 h;omega));have EZ:=ab hno;clear hno h0;go_wp2_with (go_at_call 191;refine(Pw n _).g ?_;rintro e w' ⟨rfl,rfl⟩);go_ret;exact⟨_,rfl,by rw[EZ.i];simp,rfl⟩
  ·obtain rfl:i=12:=by omega
   have hs:a.mK=true:=a.Jy.2 HA.i;have HS:=ab hs;clear hs;go_wp2;go_ret;exact⟨_,rfl,by rw[HS.i];simp,rfl⟩
theorem Px(a:fq)(b o c:Nat)(w:ak)(hc:∀j,j<12->w.b ⟨b,o+j,none⟩=some (.b .b ((a.fD (4+j)).e:Nat))):
 aQ ah 189 #[.a (some ⟨b,o,none⟩) 12 c,.func (.func 191) #[] #[]] w fun e w'=>e=.a (.e (!a.mK))/\w=w':=by
 have HC:=ab hc;clear hc;go_enter Tryz.func189,Tryz.ntmps189;go_wp2_with (go_at_call 260;refine(abG a b o c _ HC.i).g ?_;rintro e w' ⟨r,rfl,hr,rfl⟩);go_ret;exact⟨by simp,rfl⟩
theorem aeh(w:ak)(x:Bk)(t:bK):∀j,j<12->(w.alloc (.D x.ay t)).b ⟨w.a.j,6+j,none⟩=some (.b .b ((x.h.fD (4+j)).e:Nat)):=fun j hj=>by
 rw[mR,show 6+j=(4+j)+2 by omega];exact Bk.DZ x (4+j) (by omega)
theorem abH(x:Bk)(w:ak)(hn:x.E.a<=9223372036854775807)(hw:x.w<18446744073709551616):
 aQ ah 111 #[.d x.ay] w (gU w (.e x.AY)):=by
 have ht:=aeh w x 62;have HT:=ab ht;clear ht;have hr:=Jw hw;have HR:=ab hr;clear hr;have hf:x.AY=((x.h.h||x.h.mK)&&uO x.E&&decide (1<=x.Y)&&decide (x.Y<=65535)&&Ws x.w):=rfl;have HF:=ab hf;clear hf;have hb0:aM w.a.j w (w.alloc (.D x.ay 62)):=(aG _ _).alloc (av _) _;have HB0:=ab hb0;clear hb0;cases hs:(x.h.h||x.h.mK)
 ·have h6:x.h.h=false:=by cases h:x.h.h<;>simp_all
  have hsh:x.h.mK=false:=by cases h:x.h.mK<;>simp_all
  have HS:=ab hs;clear hs;go_enter Tryz.func111,Tryz.ntmps111;go_wp2_with fail;refine(Px x.h _ 6 _ _ HT.i).g ?_;rintro e w' ⟨rfl,rfl⟩;rw[hsh];go_wp2_with fail;go_ret;exact⟨by rw[HF.i,HS.i];rfl,HB0.i⟩
 ·have HS:=ab hs
  have hk:uO x.E=true\/uO x.E=false:=by cases uO x.E<;>simp
  clear hs;have main:∀(K:Bool),uO x.E=K->x.h.h=true\/(x.h.h=false/\x.h.mK=true) ->
   aQ ah 111 #[.d x.ay] w fun e w'=>e=.a (.e x.AY)/\aM w.a.j w w':=by
   intro K hK h6;have HK:=ab hK;clear hK hk;rcases h6 with h6|⟨h6,hsh⟩
   all_goals
    go_enter Tryz.func111,Tryz.ntmps111;go_wp2_with fail
    try(refine(Px x.h _ 6 _ _ HT.i).g ?_;rintro e w' ⟨rfl,rfl⟩;rw[hsh];go_wp2_with fail)
    refine(SC _ _ hn).g ?_;rintro e w1 ⟨rfl,hb1⟩;rw[HK.i];have hcl:=ahz hb1;have hB1:aM w.a.j w w1:=HB0.i.trans (hb1.g (by simp));have HB1:=ab hB1;clear hb1 hB1;cases K
    ·go_wp2_with fail
     go_ret;exact⟨by rw[HF.i,HS.i,HK.i];rfl,HB1.i⟩
    ·by_cases p1:1<=x.Y
     ·by_cases p2:x.Y<=65535
      ·go_wp2_with fail
       refine(Jv _ _).g ?_;rintro e w' ⟨rfl,rfl⟩;rw[HR.i];go_wp2_with fail;go_ret;exact⟨by rw[HF.i,HS.i,HK.i];simp[p1,p2]<;>intros<;>omega,HB1.i⟩
      ·go_wp2_with fail
       go_ret;exact⟨by rw[HF.i,HS.i,HK.i];simp[p1,p2]<;>intros<;>omega,HB1.i⟩
     ·go_wp2_with fail
      go_ret;exact⟨by rw[HF.i,HS.i,HK.i];simp[p1]<;>intros<;>omega,HB1.i⟩
  refine main _ rfl ?_;have:=HS.i;cases h:x.h.h
  ·right;rw[h]at this;exact⟨rfl,by simpa using this⟩
  ·left;rfl
def dG(l:List Bk):List aB:=l.h (·.ay.a)
theorem jy(l:List Bk):(dG l).a=l.a*27:=by
 induction l with
 | nil=>rfl
 | cons x l ih=>
   have hx:=Bk.G x;rw[dG,iK,aR,aY,hx,bB];rw[dG]at ih;rw[ih];omega
theorem Ib(l:List Bk)(k j:Nat)(hk:k<l.a)(hj:j<27):(dG l)[k*27+j]? = (l.c k jk).ay[j]?:=by
 induction l generalizing k with
 | nil=>simp at hk
 | cons x l ih=>
   have hx:=Bk.G x;rw[dG,iK];rcases k with _|k
   ·rw[mO (by rw[aY,hx];omega),dD]
    simp
   ·rw[qZ (by rw[aY,hx];omega),aY,hx,show(k+1)*27+j-27=k*27+j by omega]
    rw[bB]at hk;rw[List.getD_cons_succ];exact ih k (by omega)
def Fa(w:ak)(B:Nat)(A:Option aT)(n:Nat)(l:List Bk):Prop:=
 l.a=n/\Rd w B 27 A n (dG l)/\∀a,A=some a->0<n->a=⟨a.block,a.off,none⟩
section
variable {w w':ak} {B B' n:Nat} {A:Option aT} {l:List Bk}
theorem Fa.S(h:Fa w B A n l)(hb:aM B w w'):Fa w' B A n l:=⟨h.1,Rd.S h.2.1 hb,h.2.2⟩
theorem Fa.lu(h:Fa w B A n l)(hB:B<=B'):Fa w B' A n l:=⟨h.1,Rd.lu h.2.1 hB,h.2.2⟩
theorem Fa.alloc(h:Fa w B A n l)(hB:B<=w.a.j)(o:Obj):Fa (w.alloc o) B A n l:=⟨h.1,Rd.alloc h.2.1 hB o,h.2.2⟩
theorem Fa.cell{k:Nat}(h:Fa w B A n l)(hk:k<n):∃b o,A=some ⟨b,o,none⟩/\b<B/\∀j,j<27->w.b ⟨b,o+k*27+j,none⟩=(l.c k jk).ay[j]?:=by
 obtain⟨h1,h2,h3⟩:=h;obtain⟨a,hA,hb,hc⟩:=h2.2 (by omega);have:=h3 a hA (by omega);refine⟨a.block,a.off,by rw[hA,<-this],hb,fun j hj=>?_⟩;have hg:=Ib l k j (by omega) hj;have hs:((l.c k jk).ay)[j]? = some ((l.c k jk).ay[j]'(by rw[Bk.G];exact hj)):=eZ _;rw[hs]at hg ⊢;have:=hc _ _ hg;rw[h3 a hA (by omega),iD]at this;rw[<-this,ng]
theorem Fa.fD{k:Nat}(h:Fa w B A n l)(hk:k<n):∃b o,A=some ⟨b,o,none⟩/\b<B/\xA w b (o+k*27) 27/\dY w b (o+k*27) 27=(l.c k jk).ay:=by
 obtain⟨b,o,hA,hb,hc⟩:=h.cell hk;exact⟨b,o,hA,hb,wS (Bk.G _) hc⟩
end
def mo(a b:List UInt8):Int:=iy a b
theorem aei(a b:List UInt8):mo a b = -1\/mo a b=0\/mo a b=1:=by
 unfold mo
 induction a generalizing b with
 | nil=>cases b<;>simp[iy]
 | cons x a ih=>
   cases b with
   | nil=>simp[iy]
   | cons y b=>
     unfold iy;split
     ·simp
     ·split
      ·simp
      ·exact ih b
theorem NZ(x y:UInt8):x<y\/x=y\/y<x:=by
 rcases Nat.lt_trichotomy x.e y.e with h|h|h
 ·exact Or.inl (zB.2 h)
 ·exact Or.inr (Or.inl (lV.1 h))
 ·exact Or.inr (Or.inr (zB.2 h))
theorem D7{a b:List UInt8}:mo a b=0↔a=b:=by
 unfold mo
 induction a generalizing b with
 | nil=>cases b<;>simp[iy]
 | cons x a ih=>
   cases b with
   | nil=>simp[iy]
   | cons y b=>
     unfold iy;rcases NZ x y with h|rfl|h
     ·have:x≠y:=fun e=>by subst e;exact kC x h
      simp[h,this]
     ·have:=kC x
      simp[this,ih]
     ·have h1:¬x<y:=fun h2=>kC x (sZ h2 h)
      have:x≠y:=fun e=>by subst e;exact kC x h
      simp[h,h1,this]
theorem ahR(a b:List UInt8):mo b a = - mo a b:=by
 unfold mo
 induction a generalizing b with
 | nil=>cases b<;>simp[iy]
 | cons x a ih=>
   cases b with
   | nil=>simp[iy]
   | cons y b=>
     unfold iy;rcases NZ x y with h|rfl|h
     ·have h1:¬y<x:=fun h2=>kC x (sZ h h2)
      simp[h,h1]
     ·have:=kC x
      simp[this,ih]
     ·have h1:¬x<y:=fun h2=>kC x (sZ h2 h)
      simp[h,h1]
theorem Fb{a b c:List UInt8}(h1:mo a b<0)(h2:mo b c<0):mo a c<0:=by
 unfold mo at *
 induction a generalizing b c with
 | nil=>
   cases c with
   | nil=>cases b<;>simp[iy]at h1 h2
   | cons z c=>simp[iy]
 | cons x a ih=>
   cases b with
   | nil=>simp[iy]at h1
   | cons y b=>
     cases c with
     | nil=>simp[iy]at h2
     | cons z c=>
       unfold iy at h1 h2 ⊢;rcases NZ x y with h|rfl|h
       ·rcases NZ y z with k|rfl|k
        ·have:=sZ h k
         simp[this]
        ·simp[h]
        ·have k1:¬y<z:=fun k2=>kC z (sZ k k2)
         simp[k,k1]at h2
       ·have hx:=kC x
        rcases NZ x z with k|rfl|k
        ·simp[k]
        ·simp[hx]at h1 h2 ⊢
         exact ih h1 h2
        ·have k1:¬x<z:=fun k2=>kC z (sZ k k2)
         simp[k,k1]at h2
       ·have h3:¬x<y:=fun k2=>kC y (sZ h k2)
        simp[h,h3]at h1
theorem xP(a b:List UInt8):bP a b=decide (mo a b<0):=by
 unfold mo
 induction a generalizing b with
 | nil=>cases b<;>simp[iy,bP]
 | cons x a ih=>
   cases b with
   | nil=>simp[iy,bP]
   | cons y b=>
     unfold iy bP;rcases NZ x y with h|rfl|h
     ·simp[h]
     ·have:=kC x
      simp[this,ih]
     ·have h1:¬x<y:=fun h2=>kC x (sZ h2 h)
      have:x≠y:=fun e=>by subst e;exact kC x h
      simp[h,h1,this]
def DN(l:List Bk):Prop:=l.Pairwise fun x y=>mo x.E y.E<0
def nm(l:List Bk)(i:Nat):List UInt8:=(l.c i jk).E
theorem DN.lt{l:List Bk}(h:DN l){i j:Nat}(hij:i<j)(hj:j<l.a):mo (nm l i) (nm l j)<0:=by
 have:=List.pairwise_iff_getElem.1 h i j (by omega) hj hij;unfold nm;rw[au,au,aC hj,aC (by omega:i<l.a)];exact this
theorem DN.down{l:List Bk}(h:DN l){i j:Nat}(s:List UInt8)(hij:i<=j)(hj:j<l.a)(hs:mo (nm l j) s<0):mo (nm l i) s<0:=by
 rcases aZ i j with h1|h1
 ·exact Fb (h.lt h1 hj) hs
 ·obtain rfl:i=j:=by omega
  exact hs
theorem DN.up{l:List Bk}(h:DN l){i j:Nat}(s:List UInt8)(hij:i<=j)(hj:j<l.a)(hs:¬mo (nm l i) s<0):¬mo (nm l j) s<0:=fun h1=>hs (h.down s hij hj h1)
def kE(l:List Bk)(s:List UInt8):Nat:=(l.takeWhile fun x=>decide (mo x.E s<0)).a
theorem agt{l:List Bk}{s:List UInt8}{k:Nat}(hk:k<=l.a)(h1:∀i,i<k->mo (nm l i) s<0)(h2:k<l.a->¬mo (nm l k) s<0):kE l s=k:=by
 unfold kE
 induction l generalizing k with
 | nil=>simp at hk⊢;omega
 | cons x l ih=>
   rcases k with _|k
   ·have:¬mo x.E s<0:=h2 (by simp)
    simp[this]
   ·have h0:mo x.E s<0:=h1 0 (by omega)
    rw[List.takeWhile_cons];simp only[h0,decide_true,if_true,bB];rw[ih (k:=k) (by simpa using hk) (fun i hi=>h1 (i+1) (by omega)) (fun hi=>h2 (by simpa using hi))]
theorem Tm(a b:List UInt8)(w:ak):(callFunc 302 #[.g (bU a),.g (bU b)]).I ah w=.ok (.value (.b .a (mo a b))) w:=by
 rw[yA Tryz.func302 (by kernel_rfl) (by kernel_rfl) (by kernel_rfl) (e:=Extern.BytealgCompare.compare) (by kernel_rfl),Lib.run_compareString];rfl
theorem LU(a b:List UInt8)(w:ak):aQ ah 240 #[.g (bU a),.g (bU b)] w fun e w'=>e=.a (.b .a (mo a b))/\w=w':=by
 have h:=Tm a b;go_enter Tryz.func240,Tryz.ntmps240;go_wp2;go_ret;exact⟨rfl,rfl⟩
theorem Py(a b:List UInt8)(w:ak):aQ ah 166 #[.g (bU a),.g (bU b)] w fun e w'=>e=.a (.b .a (mo a b))/\w=w':=by
 go_enter Tryz.func166,Tryz.ntmps166;go_wp2_with (go_at_call 240;refine(LU _ _ _).g ?_;rintro e w' ⟨rfl,rfl⟩);go_ret;exact⟨rfl,rfl⟩
theorem Ri(x:Bk)(s:List UInt8)(w:ak):aQ ah 179 #[.d x.ay,.g (bU s)] w (gU w (.b .a (mo x.E s))):=by
 have hb0:aM w.a.j w (w.alloc (.D x.ay 62)):=(aG _ _).alloc (av _) _;have HB0:=ab hb0;clear hb0;go_enter Tryz.func179,Tryz.ntmps179;go_wp2_with (go_at_call 166;refine(Py _ _ _).g ?_;rintro e w' ⟨rfl,rfl⟩);go_ret;exact⟨rfl,HB0.i⟩
def rP(l:List Bk)(s:List UInt8):Bool:=decide (kE l s<l.a)&&decide (mo (nm l (kE l s)) s=0)
def pO(l:List Bk)(s:List UInt8):Bk:=if rP l s then l.c (kE l s) jk else jk
theorem aol{l:List Bk}{s:List UInt8}(h:rP l s=false):pO l s=jk:=by simp[pO,h]
theorem D8{l:List Bk}{s:List UInt8}(h:rP l s=true):pO l s=l.c (kE l s) jk:=by simp[pO,h]
theorem ahS(args:Array aB)(w:ak):(callFunc 179 args).I ah w=.ok (.enter 179 args) w:=by kernel_rfl
theorem aej(l:List Bk)(hs:DN l)(s:List UInt8)(A:Option aT)(c:Nat)(w:ak)(hR:Fa w w.a.j A l.a l)(hn:l.a<4611686018427387904):
 aQ ah 178 #[.a A l.a c,.g (bU s),.func (.func 179) #[] #[]] w
  (gU w (.J #[.b .a (kE l s),.e (rP l s)])):=by
 have hen:=ahS;have HR:=ab hR;clear hR;have HS:=ab hs;clear hs;obtain⟨n,hnl⟩:=dw l.a;rw[<-hnl]at HR hn ⊢;have HN:=ab hnl;clear hnl;go_enter Tryz.func178,Tryz.ntmps178;go_wp2;go_loopw [9,10] (fun s9 s10 wr=>∃i j:Nat,i<=j/\j<=n/\s9=.b .a i/\s10=.b .a j/\(∀k,k<i->mo (nm l k) s<0)/\(∀k,j<=k->k<n->¬mo (nm l k) s<0)/\aM w.a.j w wr) (fun s9 s10 _=>(intOf s10-intOf s9).e)
 case atStart=>exact⟨0,n,by omega,av _,rfl,rfl,fun k hk=>by omega,fun k h1 h2=>by omega,aG _ _⟩
 case round=>
  obtain⟨i,j,hij,hjn,rfl,rfl,hlo,hhi,hb⟩:=hrel;have HLO:=ab hlo;have HHI:=ab hhi;have HB:=ab hb;clear hlo hhi hb;by_cases hlt:i<j
  ·have hin:(i:Int)<j:=by omega
   have hmn:(i+j)/2<n:=by omega
   have hR1:=HR.i.S HB.i;obtain⟨b,o,rfl,hbb,hh,hc⟩:=hR1.fD hmn;have GI:=ab hbb;clear hR1 hbb;have hdn:∀k,k<=(i+j)/2->mo (nm l ((i+j)/2)) s<0->mo (nm l k) s<0:=fun k hk h=>HS.i.down s hk (by have:=HN.i;omega) h
   have hup:∀k,(i+j)/2<=k->k<n->¬mo (nm l ((i+j)/2)) s<0->¬mo (nm l k) s<0:=fun k hk hkn h=>HS.i.up s hk (by have:=HN.i;omega) h
   have HDN:=ab hdn;have HUP:=ab hup;clear hdn hup;unfold nm at HDN HUP;obtain⟨x,hx⟩:=dw (l.c ((i+j)/2) jk);rw[<-hx]at hc HDN HUP;clear hx;by_cases ht:mo x.E s<0
   ·have hd:decide (mo x.E s<0)=true:=by simpa using ht
    go_wp2_with (go_at_call 179;refine(Ri x s _).g ?_;rintro e w1 ⟨rfl,hb1⟩;clear hh hc;have HB1:=ab hb1;clear hb1);go_roundw
    case rel=>exact⟨(i+j)/2+1,j,by omega,by omega,by go_num,by go_num,fun k hk=>HDN.i k (by omega) ht,fun k h1 h2=>by have:=HHI.i k h1 h2;omega,jh HB.i HB1.i⟩
    case measure=>simp[intOf]<;>omega
   ·have hd:decide (mo x.E s<0)=false:=by simpa using ht
    go_wp2_with (go_at_call 179;refine(Ri x s _).g ?_;rintro e w1 ⟨rfl,hb1⟩;clear hh hc;have HB1:=ab hb1;clear hb1);go_roundw
    case rel=>exact⟨i,(i+j)/2,by omega,by omega,by go_num,by go_num,HLO.i,fun k h1 h2=>by have:=HUP.i k h1 h2 ht;unfold nm;omega,jh HB.i HB1.i⟩
    case measure=>simp[intOf]<;>omega
  ·obtain rfl:i=j:=by omega
   have hlo:kE l s=i:=agt (by have:=HN.i;omega) HLO.i (fun h=>by have:=HHI.i i (av _) (by have:=HN.i;omega);omega);have akD:=ab hlo;clear hlo;by_cases hlt2:i<n
   ·have hin:(i:Int)<n:=by omega
    have hR1:=HR.i.S HB.i;obtain⟨b,o,rfl,hbb,hh,hc⟩:=hR1.fD hlt2;clear hR1 hbb;have hf:rP l s=decide (mo (l.c i jk).E s=0):=by
     have h1:=akD.i;have h2:=HN.i;unfold rP nm;rw[h1];simp[show i<l.a by omega]
    have HF:=ab hf;clear hf;obtain⟨x,hx⟩:=dw (l.c i jk);rw[<-hx]at hc HF;clear hx;by_cases ht:mo x.E s=0
    ·have hd:(mo x.E s==0)=true:=by simpa using ht
     go_wp2_with (go_at_call 179;refine(Ri x s _).g ?_;rintro e w1 ⟨rfl,hb1⟩;clear hh hc;have HB1:=ab hb1;clear hb1);go_ret2;exact⟨by rw[akD.i,HF.i];simp[ht],jh HB.i HB1.i⟩
    ·have hd:(mo x.E s==0)=false:=by simpa using ht
     go_wp2_with (go_at_call 179;refine(Ri x s _).g ?_;rintro e w1 ⟨rfl,hb1⟩;clear hh hc;have HB1:=ab hb1;clear hb1);go_ret2;exact⟨by rw[akD.i,HF.i];simp[ht],jh HB.i HB1.i⟩
   ·have hf:rP l s=false:=by
     have h1:=akD.i;have h2:=HN.i;unfold rP;rw[h1];simp[show¬i<l.a by omega]
    have HF:=ab hf;clear hf;have hd:decide ((i:Int)<n)=false:=by simpa using hlt2
    go_wp2;go_ret2;exact⟨by rw[akD.i,HF.i];rfl,HB.i⟩
theorem KI(l:List Bk)(hs:DN l)(s:List UInt8)(v:Int)(A:Option aT)(c:Nat)(w:ak)(hR:Fa w w.a.j A l.a l)(hn:l.a<4611686018427387904):
 aQ ah 96 #[.d #[.b .a v,.a A l.a c],.g (bU s)] w (gU w (.J #[.b .a (kE l s),.e (rP l s)])):=by
 have hb0:∀ob,aM w.a.j w (w.alloc ob):=fun ob=>(aG _ _).alloc (av _) _
 have HB0:=ab hb0;clear hb0;have HR1:=ab (fun ob=>(hR.alloc (av _) ob).lu (B':=(w.alloc ob).a.j) (by simp));clear hR;go_enter Tryz.func96,Tryz.ntmps96;go_wp2_with (go_at_call 178;refine(aej l hs s A c _ (HR1.i _) hn).g ?_;rintro e w1 ⟨rfl,hb1⟩;have HB1:=ab hb1;clear hb1);go_ret2;exact⟨rfl,jh (HB0.i _) HB1.i⟩
theorem AZ(l:List Bk)(hs:DN l)(s:List UInt8)(v:Int)(A:Option aT)(c:Nat)(w:ak)(hR:Fa w w.a.j A l.a l)(hn:l.a<4611686018427387904):
 aQ ah 33 #[.d #[.b .a v,.a A l.a c],.g (bU s)] w (gU w (.J #[.d (pO l s).ay,.e (rP l s)])):=by
 have hb0:∀ob tZ,aM w.a.j w ((w.alloc ob).alloc tZ):=fun ob tZ=>((aG _ _).alloc (av _) _).alloc (by simp) _
 have HB0:=ab hb0;clear hb0;have HR1:=ab (fun ob tZ=>((hR.alloc (av _) ob).alloc (by simp) tZ).lu (B':=((w.alloc ob).alloc tZ).a.j) (by simp;omega));have HRB:=ab hR;clear hR;obtain⟨K,hK⟩:=tV (rP l s);have HK:=ab hK;clear hK;cases K
 ·go_enter Tryz.func33,Tryz.ntmps33
  go_wp2_with fail;refine(KI l hs s v A c _ (HR1.i _ _) hn).g ?_;rintro e w1 ⟨rfl,hb1⟩;rw[HK.i];have hth:=Po (Xe (w.alloc (.D #[.b .a v,.a A l.a c] 32)) jk.ay 62 (Bk.G _)) hb1 (by simp);rw[show∀ob,(w.alloc ob).a.j=w.a.j+1 from fun ob=>by simp]at hth;have hB:=HB0.i (.D #[.b .a v,.a A l.a c] 32) (.D jk.ay 62);have HB1:=ab (hB.trans (hb1.g (by simp;omega)));have HT:=ab hth;clear hb1 hB;go_wp2_with fail
  (try simp only[Exit.inBlock,Exit.then])
  refine aN (akp rfl _ _ _ _ rfl (LM _ _ _ _ HT.i).1) rfl ⟨?_,Pv HB1.i _ _ _ (by omega)⟩;rw[(LM _ _ _ _ HT.i).2,aol HK.i]
  try rw[HK.i]
  rfl
 ·have hlt:kE l s<l.a:=by
   have:=HK.i;unfold rP at this;simp at this;exact this.1
  have hin:((kE l s:Nat):Int)<(l.a:Nat):=by omega
  go_enter Tryz.func33,Tryz.ntmps33;go_wp2_with fail;refine(KI l hs s v A c _ (HR1.i _ _) hn).g ?_;rintro e w1 ⟨rfl,hb1⟩;rw[HK.i];have hcl:w1.b ⟨w.a.j,1,none⟩=some (.a A l.a c):=by
   rw[hb1.cell (by simp;omega)];go_simp
  have hth:=Po (Xe (w.alloc (.D #[.b .a v,.a A l.a c] 32)) jk.ay 62 (Bk.G _)) hb1 (by simp);rw[show∀ob,(w.alloc ob).a.j=w.a.j+1 from fun ob=>by simp]at hth;have hB:=HB0.i (.D #[.b .a v,.a A l.a c] 32) (.D jk.ay 62);have hB1:=hB.trans (hb1.g (by simp;omega));have HB1:=ab hB1;have hR1:=HRB.i.S hB1;have HT:=ab hth;clear hb1 hB hB1;obtain⟨b,o,rfl,hbb,hh,hc⟩:=hR1.fD hlt;clear hbb hR1;obtain⟨x,hx⟩:=dw (l.c (kE l s) jk);rw[<-hx]at hc;have HX:=ab hx;clear hx;go_wp2_with fail
  (try simp only[Exit.inBlock,Exit.then])
  refine aN (akp rfl _ _ _ _ rfl (LM _ _ _ _ HT.i).1) rfl ⟨?_,Pv HB1.i _ _ _ (by omega)⟩;rw[(LM _ _ _ _ HT.i).2,D8 HK.i,<-HX.i]
  try rw[HK.i]
  rfl
theorem pE{P:eG}{T:Type}(f:T->ak){id:Nat}{Q:zO->qQ->ak->Prop}{a:qQ}{w:ak}{l:List iV}(hm:P.follows .mixedOrders=true)(hB:Region.lexB .any l.b=true)
 (n0:T) (h0:f n0=w.drew)
 (h:wpQuiet P l.b (fun w'=>∃n,w'=f n) (fun a'=>∀w',(∃n,w'=f n)->Q .normal a' w') l a):(Code.region id l.b true).wp P Q a w:=
 wp_region_quiet (C:=fun w'=>∃n,w'=f n) hm hB ⟨n0,h0.symm⟩ (by simpa using h)
theorem Ic(S:ak->Prop)(w:ak)(h:S w.drew):∃(T:Type)(f:T->ak)(n0:T),f n0=w.drew/\(∀n,S (f n))/\(∀W,S W->∃n,W=f n):=
 ⟨{W // S W},Subtype.val,⟨w.drew,h⟩,rfl,fun n=>n.2,fun W hW=>⟨⟨W,hW⟩,rfl⟩⟩
theorem ahT(x:Nat):D6 x x=true:=by simp[D6]
def Wu(x:Nat):Bool:=D6 x (j6 x)
def Bk.rE(x:Bk):Prop:=x.E.a<=9223372036854775807/\x.w<18446744073709551616
def JZ(l:List Bk)(i:Nat):Bool:=(l.c i jk).AY&&Wu (l.c i jk).w&&(decide (i=0)||decide (mo (nm l (i-1)) (nm l i)<0))
def xQ(v:Int)(l:List Bk):Bool:=decide (0<=v)&&decide (v<=1099511627776)&&decide (l.a<=1024)&&(dV l.a).all (JZ l)
theorem Ie(p:Nat->Bool)(i:Nat):(dV (i+1)).all p=((dV i).all p&&p i):=by
 rw[List.range_succ,List.all_append];simp
theorem jc(p:Nat->Bool)(i n:Nat)(h:i<n)(hp:p i=false):(dV n).all p=false:=by
 rw[List.all_eq_false];exact⟨i,eu.2 h,by rw[hp];simp⟩
def SR(n4:Nat)(x:Bk)(hp:Nat)(sl:aB)(b o:Nat)(pn:List UInt8)(W:ak):Prop:=
 n4<W.a.j/\hp<W.a.j/\b<W.a.j/\xA W n4 0 27/\dY W n4 0 27=x.ay/\W.b ⟨n4,0,none⟩=some (.g (bU x.E))/\W.b ⟨n4,25,none⟩=some (fv x.w)/\W.b ⟨hp,1,none⟩=some sl/\W.b ⟨b,o,none⟩=some (.g (bU pn))
theorem SR.S{n4 hp b o:Nat}{x:Bk}{sl:aB}{pn:List UInt8}{W W1:ak}(h:SR n4 x hp sl b o pn W)(hb:aM W.a.j W W1):SR n4 x hp sl b o pn W1:=by
 obtain⟨h1,h2,h3,h4,h5,h6,h7,h8,h9⟩:=h;have hz:=hb.j;refine⟨by omega,by omega,by omega,fun j hj=>?_,?_,by rw[hb.cell h1];exact h6,by rw[hb.cell h1];exact h7,by rw[hb.cell h2];exact h8,by rw[hb.cell h3];exact h9⟩
 ·obtain⟨v,hv⟩:=h4 j hj
  exact⟨v,by rw[hb.cell h1];exact hv⟩
 ·rw[<-h5];exact ER fun j _=>hb.cell h1
theorem SR.load{n4 hp b o:Nat}{x:Bk}{sl:aB}{pn:List UInt8}{W:ak}(h:SR n4 x hp sl b o pn W):(SH (.c (some ⟨n4,0,none⟩))).I ah W=.ok (.d x.ay) W:=by
 rw[aoh W n4 0 h.2.2.2.1,h.2.2.2.2.1]
theorem Wv(l:List Bk)(hf:∀x∈l,x.rE)(v:Int)(A:Option aT)(c:Nat)(w:ak)(hR:Fa w w.a.j A l.a l)(hn:l.a<4611686018427387904):
 aQ ah 45 #[.d #[.b .a v,.a A l.a c]] w (gU w (.e (xQ v l))):=by
 have hb0:∀ob,aM w.a.j w (w.alloc ob):=fun ob=>(aG _ _).alloc (av _) _
 have HB0:=ab hb0;clear hb0;have HR:=ab hR;have HF:=ab hf;clear hR hf;have hp:xQ v l=(decide (0<=v)&&decide (v<=1099511627776)&&decide (l.a<=1024)&&(dV l.a).all (JZ l)):=rfl;have HP:=ab hp;clear hp;by_cases h1:0<=v;rotate_left
 ·have h1':v<0:=by omega
  go_enter Tryz.func45,Tryz.ntmps45;go_wp2;go_ret;exact⟨by rw[HP.i];simp<;>intros<;>omega,HB0.i _⟩
 by_cases h2:v<=1099511627776;rotate_left
 ·go_enter Tryz.func45,Tryz.ntmps45
  go_wp2;go_ret;exact⟨by rw[HP.i];simp<;>intros<;>omega,HB0.i _⟩
 by_cases h3:l.a<=1024;rotate_left
 ·go_enter Tryz.func45,Tryz.ntmps45
  go_wp2;go_ret;exact⟨by rw[HP.i];simp<;>intros<;>omega,HB0.i _⟩
 obtain⟨n,hnl⟩:=dw l.a;rw[<-hnl]at HR hn h3 ⊢;have HN:=ab hnl;clear hnl;go_enter Tryz.func45,Tryz.ntmps45;go_wp2;go_loopw [22] (fun s22 wr=>∃i:Nat,i<=n/\s22=.b .a i/\(dV i).all (JZ l)=true/\aM (w.a.j+1) (w.alloc (.D #[.b .a v,.a A n c] 32)) wr) (fun s22 _=>n-(intOf s22).e)
 case atStart=>exact⟨0,by omega,rfl,rfl,by simpa using aG _ _⟩
 case round=>
  obtain⟨i,hin,rfl,hall,hb⟩:=hrel;have HA:=ab hall;have hB:=(HB0.i (.D #[.b .a v,.a A n c] 32)).trans (hb.g (by simp));have hcl:wr.b ⟨w.a.j,1,none⟩=some (.a A n c):=by
   rw[hb.cell (by simp)];go_simp
  have HB:=ab hb;have HBW:=ab hB;have hsz:=hb.j;clear hall hb hB;by_cases hlt:i<n
  ·have hi:(i:Int)<n:=by omega
   have hR1:=HR.i.S HBW.i;obtain⟨b,o,rfl,hbb,hh,hc⟩:=hR1.fD hlt;have hbs:b<wr.a.j:=by simp at hsz;omega
   have hmem:l.c i jk∈l:=by
    have:=HN.i;rw[au,aC (by omega)];simp
   obtain⟨hx1,hx2⟩:=HF.i _ hmem;have hok:JZ l i=((l.c i jk).AY&&Wu (l.c i jk).w&&(decide (i=0)||decide (mo (nm l (i-1)) (nm l i)<0))):=rfl;have hnm:nm l i=(l.c i jk).E:=rfl;rw[hnm]at hok;obtain⟨x,hx⟩:=dw (l.c i jk);rw[<-hx]at hc hx1 hx2 hok;have Jt:=ab hok;clear hx hok hnm hmem;obtain⟨K1,hK1⟩:∃K,x.AY=K:=⟨_,rfl⟩
   obtain⟨K2,hK2⟩:∃K,D6 x.w (j6 x.w)=K:=⟨_,rfl⟩
   have hn4:wr.a.j<(wr.alloc (.D x.ay 62)).a.j:=by simp
   have hS:∀b' o' pn,b'<wr.a.j->wr.b ⟨b',o',none⟩=some (.g (bU pn))->SR wr.a.j x w.a.j (.a (some ⟨b,o,none⟩) n c) b' o' pn (wr.alloc (.D x.ay 62)):=by
    intro b' o' pn h1 h2;refine⟨by simp,by simp at hsz⊢;omega,by simp;omega,?_,?_,?_,?_,?_,?_⟩
    ·rw[SG];trivial
    ·exact Hz _ _ _
    ·rw[mR];exact Bk.pX x
    ·rw[mR];exact Bk.ad9 x
    ·rw[vI _ _ _ (by simp at hsz⊢;omega)];exact hcl
    ·rw[vI _ _ _ (by simpa using h1)];exact h2
   have hpn:∃pn,(0<i->wr.b ⟨b,o+(i-1)*27,none⟩=some (.g (bU pn))/\nm l (i-1)=pn):=by
    refine⟨nm l (i-1),fun h0=>⟨?_,rfl⟩⟩;obtain⟨b',o',YX,_,hcc⟩:=hR1.cell (k:=i-1) (by omega);injection YX with YX
    injection YX with e1 e2
    subst e1 e2;have:=hcc 0 (by omega);rw[Bk.pX]at this;simpa[nm]using this
   have hn0:wr.b ⟨b,o+i*27,none⟩=some (.g (bU x.E)):=by
    have:=hh 0 (by omega);obtain⟨u,hu⟩:=this;have hg:=Hy wr b (o+i*27) 27 0 (by omega);rw[hc,Bk.pX]at hg;rw[hu]at hg;simp at hg hu;rw[hu,<-hg]
   have Ww:∀b' o' pn,b'<wr.a.j->wr.b ⟨b',o',none⟩=some (.g (bU pn))->∃(T:Type)(f:T->ak)(n0:T),f n0=(wr.alloc (.D x.ay 62)).drew/\(∀m W1,aM (f m).a.j (f m) W1->∃m',W1=f m')/\(∀m,aM (w.a.j+1) (w.alloc (.D #[.b .a v,.a (some ⟨b,o,none⟩) n c] 32)) (f m)) /\
    (∀m,(SH (.c (some ⟨wr.a.j,0,none⟩))).I ah (f m)=.ok (.d x.ay) (f m))/\(∀m,(f m).b ⟨wr.a.j,0,none⟩=some (.g (bU x.E)))/\(∀m,(f m).b ⟨wr.a.j,25,none⟩=some (.float .f64 x.w)) /\
     (∀m,(f m).b ⟨w.a.j,1,none⟩=some (.a (some ⟨b,o,none⟩) n c))/\(∀m,(f m).b ⟨b',o',none⟩=some (.g (bU pn))):=by
    intro b' o' pn h1 h2;obtain⟨T,f,n0,e0,eS,eT⟩:=Ic (fun W=>SR wr.a.j x w.a.j (.a (some ⟨b,o,none⟩) n c) b' o' pn W/\aM (w.a.j+1) (w.alloc (.D #[.b .a v,.a (some ⟨b,o,none⟩) n c] 32)) W)
     (wr.alloc (.D x.ay 62)) ⟨hS _ _ _ h1 h2,(HB.i.alloc (by simp at hsz;omega) _).drew⟩
    refine⟨T,f,n0,e0,?_,fun m=>(eS m).2,fun m=>(eS m).1.load,fun m=>(eS m).1.2.2.2.2.2.1,fun m=>(eS m).1.2.2.2.2.2.2.1,fun m=>(eS m).1.2.2.2.2.2.2.2.1,fun m=>(eS m).1.2.2.2.2.2.2.2.2⟩;intro m W1 hb;have:=(eS m).2.j;exact eT _ ⟨(eS m).1.S hb,(eS m).2.trans (hb.g (by simpa using this))⟩
   have zu:∀K,x.AY=K->∀W,aQ ah 111 #[.d x.ay] W fun e w'=>e=.a (.e K)/\aM W.a.j W w':=fun K h W=>by
    have:=abH x W hx1 hx2;rw[h]at this;exact this
   have sH:∀K,D6 x.w (j6 x.w)=K->∀W,aQ ah 112 #[.float .f64 x.w,.float .f64 (j6 x.w)] W fun e w'=>e=.a (.e K)/\W=w':=fun K h W=>by
    have:=abD x.w (j6 x.w) W;rw[h]at this;exact this
   cases K1
   ·have hno:JZ l i=false:=by rw[Jt.i,hK1];rfl
    have abI:=jc (JZ l) i n hlt hno;have hPF:xQ v l=false:=by rw[HP.i,<-HN.i,abI];simp
    have HPF:=ab hPF;have HRI:=ab (zu _ hK1);have Xh:=ab (sH _ hK2);clear hK1 hK2 hpn hno abI hPF zu sH;obtain⟨T,f,n0,e0,es,ew,r1,r2,r3,r4,r5⟩:=Ww _ _ _ hbs hn0;have hne:Nonempty T:=⟨n0⟩
    have E0:=ab e0;have ES:=ab es;have EW:=ab ew;clear hS Ww e0 es ew;go_upto_region 6 with fail
    refine pE f (by kernel_rfl) (by kernel_rfl) n0 E0.i ?_
    repeat(go_big_quiet_step ((first
     | (go_at_call 111;refine(HRI.i _).g ?_;rintro e w1 ⟨rfl,hb1⟩;exact⟨rfl,ES.i _ _ hb1⟩)
     | (go_at_call 113;refine(yZ _ _).g ?_;rintro e w1 ⟨rfl,rfl⟩;exact⟨rfl,_,rfl⟩)
     | (go_at_call 112;refine(Xh.i _).g ?_;rintro e w1 ⟨rfl,rfl⟩;exact⟨rfl,_,rfl⟩))))
    refine gW ?_;rintro _ ⟨m,rfl⟩;go_wp2;go_ret;exact⟨by rw[HPF.i];rfl,(HB0.i _).trans ((EW.i _).g (by simp))⟩
   ·cases K2
    ·have hno:JZ l i=false:=by rw[Jt.i];unfold Wu;rw[hK2];simp
     have abI:=jc (JZ l) i n hlt hno;have hPF:xQ v l=false:=by rw[HP.i,<-HN.i,abI];simp
     have HPF:=ab hPF;have HRI:=ab (zu _ hK1);have Xh:=ab (sH _ hK2);clear hK1 hK2 hpn hno abI hPF zu sH;obtain⟨T,f,n0,e0,es,ew,r1,r2,r3,r4,r5⟩:=Ww _ _ _ hbs hn0;have hne:Nonempty T:=⟨n0⟩
     have E0:=ab e0;have ES:=ab es;have EW:=ab ew;clear hS Ww e0 es ew;go_upto_region 6 with fail
     refine pE f (by kernel_rfl) (by kernel_rfl) n0 E0.i ?_
     repeat(go_big_quiet_step ((first
      | (go_at_call 111;refine(HRI.i _).g ?_;rintro e w1 ⟨rfl,hb1⟩;exact⟨rfl,ES.i _ _ hb1⟩)
      | (go_at_call 113;refine(yZ _ _).g ?_;rintro e w1 ⟨rfl,rfl⟩;exact⟨rfl,_,rfl⟩)
      | (go_at_call 112;refine(Xh.i _).g ?_;rintro e w1 ⟨rfl,rfl⟩;exact⟨rfl,_,rfl⟩))))
     refine gW ?_;rintro _ ⟨m,rfl⟩;go_wp2;go_ret;exact⟨by rw[HPF.i];rfl,(HB0.i _).trans ((EW.i _).g (by simp))⟩
    ·rcases i with _|i
     ·simp only[Jh,nE]at hh hc hn0
      have hyes:(dV (0+1)).all (JZ l)=(dV 0).all (JZ l):=by
       rw[Ie,Jt.i];unfold Wu;rw[hK1,hK2];simp
      have HY:=ab hyes;have HRI:=ab (zu _ hK1);have Xh:=ab (sH _ hK2);clear hK1 hK2 hpn hyes zu sH;obtain⟨T,f,n0,e0,es,ew,r1,r2,r3,r4,r5⟩:=Ww _ _ _ hbs hn0;have hne:Nonempty T:=⟨n0⟩
      have E0:=ab e0;have ES:=ab es;have EW:=ab ew;clear hS Ww e0 es ew;go_upto_region 6 with fail
      refine pE f (by kernel_rfl) (by kernel_rfl) n0 E0.i ?_
      repeat(go_big_quiet_step ((first
       | (go_at_call 111;refine(HRI.i _).g ?_;rintro e w1 ⟨rfl,hb1⟩;exact⟨rfl,ES.i _ _ hb1⟩)
       | (go_at_call 113;refine(yZ _ _).g ?_;rintro e w1 ⟨rfl,rfl⟩;exact⟨rfl,_,rfl⟩)
       | (go_at_call 112;refine(Xh.i _).g ?_;rintro e w1 ⟨rfl,rfl⟩;exact⟨rfl,_,rfl⟩))))
      refine gW ?_;rintro _ ⟨m,rfl⟩;go_wp2;go_roundw
      case rel=>exact⟨0+1,by omega,by go_num,by rw[HY.i];exact HA.i,EW.i _⟩
      case measure=>simp[intOf]<;>omega
     ·obtain⟨pn,hpn⟩:=hpn
      obtain⟨hp1,hp2⟩:=hpn (by omega);clear hpn;simp only[Nat.add_sub_cancel]at hp1 hp2;have hok2:JZ l (i+1)=(x.AY&&Wu x.w&&(decide (i+1=0)||decide (mo pn x.E<0))):=by rw[Jt.i,Nat.add_sub_cancel,hp2]
      have hbl:=xP pn x.E;by_cases ht:mo pn x.E<0
      ·have hbt:bP pn x.E=true:=by rw[hbl];simpa using ht
       have hyes:(dV (i+1+1)).all (JZ l)=(dV (i+1)).all (JZ l):=by
        rw[Ie,hok2];unfold Wu;rw[hK1,hK2];simp[ht]
       have HY:=ab hyes;have HRI:=ab (zu _ hK1);have Xh:=ab (sH _ hK2);clear hK1 hK2 hyes zu sH hok2 hbl hp2 ht;obtain⟨T,f,n0,e0,es,ew,r1,r2,r3,r4,r5⟩:=Ww _ _ _ hbs hp1;have hne:Nonempty T:=⟨n0⟩
       have E0:=ab e0;have ES:=ab es;have EW:=ab ew;clear hS Ww e0 es ew;go_upto_region 6 with fail
       refine pE f (by kernel_rfl) (by kernel_rfl) n0 E0.i ?_
       repeat(go_big_quiet_step ((first
        | (go_at_call 111;refine(HRI.i _).g ?_;rintro e w1 ⟨rfl,hb1⟩;exact⟨rfl,ES.i _ _ hb1⟩)
        | (go_at_call 113;refine(yZ _ _).g ?_;rintro e w1 ⟨rfl,rfl⟩;exact⟨rfl,_,rfl⟩)
        | (go_at_call 112;refine(Xh.i _).g ?_;rintro e w1 ⟨rfl,rfl⟩;exact⟨rfl,_,rfl⟩))))
       refine gW ?_;rintro _ ⟨m,rfl⟩;go_wp2;go_roundw
       case rel=>exact⟨i+1+1,by omega,by go_num,by rw[HY.i];exact HA.i,EW.i _⟩
       case measure=>simp[intOf]<;>omega
      ·have hbt:bP pn x.E=false:=by rw[hbl];simpa using ht
       have hno:JZ l (i+1)=false:=by rw[hok2];simp[ht]
       have abI:=jc (JZ l) (i+1) n hlt hno;have hPF:xQ v l=false:=by rw[HP.i,<-HN.i,abI];simp
       have HPF:=ab hPF;have HRI:=ab (zu _ hK1);have Xh:=ab (sH _ hK2);clear hK1 hK2 hno abI hPF zu sH hok2 hbl hp2 ht;obtain⟨T,f,n0,e0,es,ew,r1,r2,r3,r4,r5⟩:=Ww _ _ _ hbs hp1;have hne:Nonempty T:=⟨n0⟩
       have E0:=ab e0;have ES:=ab es;have EW:=ab ew;clear hS Ww e0 es ew;go_upto_region 6 with fail
       refine pE f (by kernel_rfl) (by kernel_rfl) n0 E0.i ?_
       repeat(go_big_quiet_step ((first
        | (go_at_call 111;refine(HRI.i _).g ?_;rintro e w1 ⟨rfl,hb1⟩;exact⟨rfl,ES.i _ _ hb1⟩)
        | (go_at_call 113;refine(yZ _ _).g ?_;rintro e w1 ⟨rfl,rfl⟩;exact⟨rfl,_,rfl⟩)
        | (go_at_call 112;refine(Xh.i _).g ?_;rintro e w1 ⟨rfl,rfl⟩;exact⟨rfl,_,rfl⟩))))
       refine gW ?_;rintro _ ⟨m,rfl⟩;go_wp2;go_ret;exact⟨by rw[HPF.i];rfl,(HB0.i _).trans ((EW.i _).g (by simp))⟩
  ·obtain rfl:i=n:=by omega
   have hPT:xQ v l=true:=by rw[HP.i,<-HN.i,HA.i];simp[h1,h2,h3]<;>omega
   have HPT:=ab hPT;clear hPT;have hd:decide ((i:Int)<i)=false:=by simp
   go_wp2;go_ret;exact⟨by rw[HPT.i];rfl,HBW.i⟩
structure Tu where
 h:fq
 Y:fq
 aP:Int
 kT:Int
 jP:Int
deriving DecidableEq
structure Fw where
 key:Tu
 E:List UInt8
 vN:Int
 seen:Int
 no:Int
deriving DecidableEq
structure oM where
 mQ:Int
 rZ:List Bk
 h:List Hl
 G:List Fw
 gL:Int
 no:Int
 Y:Vector Int 11
deriving DecidableEq
def mY:fq:=⟨false,bF 16 0⟩
def ael:Tu:=⟨mY,mY,0,0,0⟩
def kN:Fw:=⟨ael,[],0,0,0⟩
def xB:oM:=⟨0,[],[],[],0,0,bF 11 0⟩
abbrev RS:=Option (List UInt8)
def Gm(k:Nat):RS->List UInt8×RS
 | some l=>if k<=l.a then(l.d k,some (l.f k))else([],none)
 | none=>([],none)
def abJ(k:Nat)(s:RS):Nat×RS:=(oC (Gm k s).1,(Gm k s).2)
def pY(n:Nat)(l:List UInt8):Vector UInt8 n:=DK fun i=>l.c i 0
def tuO(s:RS):(Tu×Bool)×RS:=
 let a1:=abJ 1 s
 let a2:=Gm 16 a1.2
 let a3:=Gm 16 a2.2
 let a4:=abJ 1 a3.2
 let a5:=abJ 2 a4.2
 let a6:=abJ 2 a5.2
 ((⟨⟨a1.1==6,pY 16 a2.1⟩,⟨a1.1==6,pY 16 a3.1⟩,a4.1,a5.1,a6.1⟩,(a1.1==6)||(a1.1==4)),a6.2)
def Lv(t:Tu):List UInt8:=[if t.h.h then 6 else 4]++(t.h.b.a++(t.Y.b.a++([aJ t.aP.e]++(iN t.kT.e 2 true++iN t.jP.e 2 true))))
def Wx(n m:Int):Bool:=decide (0<=n)&&decide (n<=m)
def qG(a:fq):Bool:=a.h||(a.b.a.f 4).all (· == 0)
def Fe(t:Tu):Bool:=decide (t.h.h=t.Y.h)&&qG t.h&&qG t.Y&&Wx t.aP 255&&Wx t.kT 65535&&Wx t.jP 65535
def zR(x:Fw):Bool:=Fe x.key&&uO x.E&&decide (1<=x.vN)&&decide (x.vN<=5)&&Wx x.seen 1099511627776&&Wx x.no 1152921504606846976
theorem aem(a b:Vector UInt8 6)(d:Nat)(W:ak):(ji (d+2) 25 (.d (a.a.map bv).b) (.d (b.a.map bv).b)).I ah W=.ok (decide (a=b)) W:=by
 rw[Gl d Tryz.underlying25 (by kernel_rfl) lq _ _ (by simp) (by simp),agn]
theorem ahU(a b:Vector UInt8 16)(d:Nat)(W:ak):(ji (d+2) 22 (.d (a.a.map bv).b) (.d (b.a.map bv).b)).I ah W=.ok (decide (a=b)) W:=by
 rw[Gl d qg (by kernel_rfl) lq _ _ (by simp) (by simp),agn]
theorem fq.ahV(a:fq):a.ay.extract 1 (1+16)=(a.b.a.map bv).b:=by
 apply oP;simp[fq.ay];exact aK (by simp)
theorem aen:ah.k 27=some (.d (ah.fieldsOf 27)):=by
 simp only[jQ,eY]
theorem Xi(c:fq)(W:ak):(part 4 c.ay 0).I ah W=.ok (.e c.h) W:=
 o9 (P:=ah) (e:=4) (by simp only[nM]) (fq.pX c) W
theorem agu(c:fq)(W:ak):(part 22 c.ay 1).I ah W=.ok (.d (c.b.a.map bv).b) W:=by
 rw[DW (P:=ah) (e:=22) (n:=16) (by simp only[qg]) (by kernel_rfl) c.ay 1 W,fq.ahV]
theorem akG:∃f1 f2:nU,(ah.fieldsOf 27).a=[f1,f2]/\f1.E ≠ "_" /\ f2.E ≠ "_" /\ f1.p=4/\f1.Z=0/\f2.p=22/\f2.Z=1:=by
 refine⟨_,_,by simp only[jQ,eY];rfl,?_,?_,rfl,rfl,rfl,rfl⟩<;>decide
theorem YZ{P:eG}(d:Nat)(xs ys:Array aB)(f1 f2:nU)(h1:f1.E ≠ "_")(h2:f2.E ≠ "_")(W:ak)(a1 b1 a2 b2:aB)(r1 r2:Bool)
 (p1:(part f1.p xs f1.Z).I P W=.ok a1 W) (q1:(part f1.p ys f1.Z).I P W=.ok b1 W) (e1:(ji d f1.p a1 b1).I P W=.ok r1 W)
 (p2:(part f2.p xs f2.Z).I P W=.ok a2 W) (q2:(part f2.p ys f2.Z).I P W=.ok b2 W) (e2:(ji d f2.p a2 b2).I P W=.ok r2 W) :
 (wC d xs ys [f1,f2]).I P W=.ok (r1&&r2) W:=by
 simp only[wC,h1,h2,ne_eq,not_false_eq_true,if_true,jI,p1,q1,e1,gH];cases r1
 ·simp
 ·simp only[nV,Bool.false_eq_true,if_false,jI,p2,q2,e2,gH]
  cases r2<;>simp
theorem Fg(a b:fq)(d:Nat)(W:ak):(ji (d+3) 27 (.d a.ay) (.d b.ay)).I ah W=.ok (decide (a=b)) W:=by
 rw[zq W (d+2) _ _ _ aen Tryz.stoodInHeld27];obtain⟨f1,f2,hl,n1,n2,t1,o1,t2,o2⟩:=akG;rw[hl,YZ (d+2) a.ay b.ay f1 f2 n1 n2 W _ _ _ _ _ _ (by rw[t1,o1];exact Xi a W) (by rw[t1,o1];exact Xi b W) (by rw[t1];exact YO _ _ _ W)
  (by rw[t2,o2];exact agu a W) (by rw[t2,o2];exact agu b W) (by rw[t2];exact ahU _ _ d W)]
 obtain⟨s1,v1⟩:=a;obtain⟨s2,v2⟩:=b;congr 1;rw[bZ];simp
@[go_sem ↓]theorem aBu(a b:fq)(W:ak):(ji 10000 27 (.d a.ay) (.d b.ay)).I ah W=.ok (decide (a=b)) W:=Fg a b 9997 W
theorem Bk.aom(x:Bk):x.ay.extract 1 (1+17)=x.h.ay:=by
 apply dU;intro j;have hs:=Bk.G x;have ha:=fq.G x.h;rw[dx];by_cases hj:j<17
 ·rw[if_pos (by rw[hs];omega),uE]
  exact Bk.abt x j hj
 ·rw[if_neg (by rw[hs];omega),aU (by rw[ha];omega)]
theorem Bk.agv(x:Bk):x.ay.extract 19 (19+6)=(x.Cg.a.map bv).b:=by
 apply dU;intro j;have hs:=Bk.G x;have hm:x.Cg.a.a=6:=by simp
 rw[dx];by_cases hj:j<6
 ·rw[if_pos (by rw[hs];omega),uE,Bk.awl x j hj]
  simp[hj,dZ]
 ·rw[if_neg (by rw[hs];omega),aU (by simp;omega)]
theorem akH(a b:Nat)(d:Nat)(W:ak):(ji (d+1) 60 (fv a) (fv b)).I ah W=.ok (Op.floatEq .f64 a b) W:=by
 simp only[fv,ji,jI,dJ Tryz.underlying60,gH,if_true,oh]
theorem ahW:ah.k 62=some (.d (ah.fieldsOf 62)):=by
 simp only[jQ,nY]
theorem aon:∃f1 f2 f3 f4 f5 f6:nU,(ah.fieldsOf 62).a=[f1,f2,f3,f4,f5,f6]/\(f1.E ≠ "_" /\ f2.E ≠ "_" /\ f3.E ≠ "_" /\ f4.E ≠ "_" /\ f5.E ≠ "_" /\ f6.E ≠ "_") /\
 (f1.p=9/\f1.Z=0)/\(f2.p=27/\f2.Z=1)/\(f3.p=3/\f3.Z=18)/\(f4.p=25/\f4.Z=19)/\(f5.p=60/\f5.Z=25)/\(f6.p=4/\f6.Z=26):=by
 refine⟨_,_,_,_,_,_,by simp only[jQ,nY];rfl,⟨?_,?_,?_,?_,?_,?_⟩,⟨rfl,rfl⟩,⟨rfl,rfl⟩,⟨rfl,rfl⟩,⟨rfl,rfl⟩,⟨rfl,rfl⟩,⟨rfl,rfl⟩⟩<;>decide
def akI(x y:Bk):Bool:=(x.E==y.E)&&(decide (x.h=y.h)&&((x.Y==y.Y)&&(decide (x.Cg=y.Cg)&&(Op.floatEq .f64 x.w y.w&&((x.drain==y.drain)&&true)))))
theorem ahX(x y:Bk)(d:Nat)(W:ak):(ji (d+4) 62 (.d x.ay) (.d y.ay)).I ah W=.ok (akI x y) W:=by
 rw[zq W (d+3) _ _ _ ahW Tryz.stoodInHeld62];obtain⟨f1,f2,f3,f4,f5,f6,hl,⟨n1,n2,n3,n4,n5,n6⟩,⟨t1,o1⟩,⟨t2,o2⟩,⟨t3,o3⟩,⟨t4,o4⟩,⟨t5,o5⟩,⟨t6,o6⟩⟩:=aon;rw[hl];have p1:∀z:Bk,(part f1.p z.ay f1.Z).I ah W=.ok (.g (bU z.E)) W:=fun z=>by
  rw[t1,o1];exact o9 (by simp only[iM]) (Bk.pX z) W
 have p2:∀z:Bk,(part f2.p z.ay f2.Z).I ah W=.ok (.d z.h.ay) W:=fun z=>by
  rw[t2,o2,DW (n:=17) (by simp only[eY]) (by kernel_rfl) z.ay 1 W,Bk.aom]
 have p3:∀z:Bk,(part f3.p z.ay f3.Z).I ah W=.ok (.b .a z.Y) W:=fun z=>by
  rw[t3,o3];exact o9 (by simp only[gM]) (Bk.ako z) W
 have p4:∀z:Bk,(part f4.p z.ay f4.Z).I ah W=.ok (.d (z.Cg.a.map bv).b) W:=fun z=>by
  rw[t4,o4,DW (n:=6) (by simp only[Tryz.underlying25]) (by kernel_rfl) z.ay 19 W,Bk.agv]
 have p5:∀z:Bk,(part f5.p z.ay f5.Z).I ah W=.ok (fv z.w) W:=fun z=>by
  rw[t5,o5];exact o9 (by simp only[Tryz.underlying60]) (Bk.ad9 z) W
 have p6:∀z:Bk,(part f6.p z.ay f6.Z).I ah W=.ok (.e z.drain) W:=fun z=>by
  rw[t6,o6];exact o9 (by simp only[nM]) (Bk.aea z) W
 exact iO _ _ _ _ _ n1 W _ _ _ _ (p1 x) (p1 y) (by rw[t1];exact NU _ _ _ W)
  (iO _ _ _ _ _ n2 W _ _ _ _ (p2 x) (p2 y) (by rw[t2];exact Fg _ _ d W)
  (iO _ _ _ _ _ n3 W _ _ _ _ (p3 x) (p3 y) (by rw[t3];exact ET _ _ _ W)
  (iO _ _ _ _ _ n4 W _ _ _ _ (p4 x) (p4 y) (by rw[t4];exact aem _ _ _ W)
  (iO _ _ _ _ _ n5 W _ _ _ _ (p5 x) (p5 y) (by rw[t5];exact akH _ _ _ W)
  (iO _ _ _ _ _ n6 W _ _ _ _ (p6 x) (p6 y) (by rw[t6];exact YO _ _ _ W) (by simp[wC]))))))
@[go_sem ↓]theorem aFc(x y:Bk)(W:ak):(ji 10000 62 (.d x.ay) (.d y.ay)).I ah W=.ok (akI x y) W:=ahX x y 9996 W
def Cw(v:aB):xk aB:=cu 25 v
@[go_sem ↓]theorem asz(v:aB):cu 25 v=Cw v:=rfl
@[go_sem]theorem azO(w:ak)(ob:Obj)(x:Bk)(t:bK):xA ((w.alloc ob).alloc (.D x.ay t)) (w.a.j+1) 0 27=True:=by
 have:=SG (w.alloc ob) x t
 rwa [show(w.alloc ob).a.j=w.a.j+1 by simp]at this
@[go_sem]theorem aqW(w:ak)(ob:Obj)(x:Bk)(t:bK):dY ((w.alloc ob).alloc (.D x.ay t)) (w.a.j+1) 0 27=x.ay:=by
 have:=Hz (w.alloc ob) x t
 rwa [show(w.alloc ob).a.j=w.a.j+1 by simp]at this
def Rj(x y:Bk):Bool:=(x.E==y.E)&&decide (x.h=y.h)&&(x.Y==y.Y)&&decide (x.Cg=y.Cg)&&(x.drain==y.drain)&&decide (aef x.w=aef y.w)
def Bk.LV(x:Bk)(v:Nat):Bk:={x with w:=v}
def Bk.toD(x:Bk)(d:Bool):Bk:={x with drain:=d}
@[go_sem]theorem Bk.awr(x:Bk)(v:Nat):x.ay.b 25 (.float .f64 v)=(x.LV v).ay:=by
 apply oP;simp[Bk.ay,Bk.LV,List.set_append,fv]
@[go_sem]theorem Bk.aqX(x:Bk)(d:Bool):x.ay.b 26 (.e d)=(x.toD d).ay:=by
 apply oP;simp[Bk.ay,Bk.toD,List.set_append]
@[go_sem]theorem aqY{P:eG}{w:ak}{a:aT}{m:Mode}(k:FloatKind)(n:Nat):(store a (.float k n) m).I P w=stored P w a (.float k n) m:=run_store P w a _ m rfl
def PE(x y:Bk):Bool:=D6 x.w y.w&&akI (x.LV 0) (y.LV 0)
theorem ahZ(x y:Bk)(w:ak):
 aQ ah 124 #[.d x.ay,.d y.ay] w (gU w (.e (PE x y))):=by
 have hb0:∀ob tZ,aM w.a.j w ((w.alloc ob).alloc tZ):=fun ob tZ=>((aG _ _).alloc (av _) _).alloc (by simp) _
 have HB0:=ab hb0;clear hb0;have hs:PE x y=(D6 x.w y.w&&akI (x.LV 0) (y.LV 0)):=rfl;have HS:=ab hs;clear hs;have sH:∀K,D6 x.w y.w=K->∀W,aQ ah 112 #[.float .f64 x.w,.float .f64 y.w] W fun e w'=>e=.a (.e K)/\W=w':=fun K h W=>by
  have:=abD x.w y.w W;rw[h]at this;exact this
 cases k:D6 x.w y.w
 ·have HK:=ab k
  have Xh:=ab (sH _ k);clear k sH;go_enter Tryz.func124,Tryz.ntmps124;go_wp2_with (go_at_call 112;refine(Xh.i _).g ?_;rintro e w' ⟨rfl,rfl⟩);go_ret;exact⟨by rw[HS.i,HK.i];rfl,HB0.i _ _⟩
 ·have HK:=ab k
  have Xh:=ab (sH _ k);clear k sH;go_enter Tryz.func124,Tryz.ntmps124;go_wp2_with (go_at_call 112;refine(Xh.i _).g ?_;rintro e w' ⟨rfl,rfl⟩);go_ret;exact⟨by rw[HS.i,HK.i];rfl,HB0.i _ _⟩
theorem Cx(l:List Bk):∀u∈dG l,u.h=true:=by
 intro u hu;obtain⟨x,_,hx⟩:=List.mem_flatMap.1 hu;exact fV.1 (Bk.cK x) u (by simpa using hx)
theorem N7:∃i:nJ,ah.l 62=some i/\i.zero=some (.d jk.ay)/\i.j=27/\i.bytes<=200:=by
 cases h:ah.l 62 with
 | none=>exact absurd h (by have:(ah.l 62).isSome=true:=by kernel_rfl
                            intro e;rw[e]at this;cases this)
 | some i=>
   have h1:(ah.l 62).map (·.j)=some 27:=by kernel_rfl
   have h2:(ah.l 62).map (fun i=>decide (i.bytes<=200))=some true:=by kernel_rfl
   have h3:(ah.l 62).map (·.zero)=some (some (.d jk.ay)):=by kernel_rfl
   rw[h]at h1 h2 h3;simp at h1 h2 h3;exact⟨i,rfl,h3,h1,h2⟩
def uQ(n:Int):Int:=if n<1 then 1 else if 100<n then 100 else n
theorem Xj(n:Int):1<=uQ n/\uQ n<=100:=by unfold uQ;split<;>(try split)<;>omega
theorem Xk(n:Int)(w:ak):aQ ah 216 #[.b .a n] w fun e w'=>e=.a (.b .a (uQ n))/\w=w':=by
 rcases(show n<1\/(1<=n/\n<=100)\/100<n by omega)with h|⟨h1,h2⟩|h
 ·have hb:=ab (show uQ n=1 by simp[uQ,h])
  go_enter Tryz.func216,Tryz.ntmps216;go_wp2;go_ret;exact⟨by rw[hb.i];rfl,rfl⟩
 ·have hb:=ab (show uQ n=n by unfold uQ;rw[if_neg (by omega),if_neg (by omega)])
  go_enter Tryz.func216,Tryz.ntmps216;go_wp2;go_ret;exact⟨by rw[hb.i];rfl,rfl⟩
 ·have hb:=ab (show uQ n=100 by unfold uQ;rw[if_neg (by omega),if_pos h])
  go_enter Tryz.func216,Tryz.ntmps216;go_wp2;go_ret;exact⟨by rw[hb.i];rfl,rfl⟩
def uR(h:Hl)(well:Bool)(kg fall:Int):Hl×Bool:=
 if well != h.down then({h with I:=0},false)
 else if uQ (if h.down then kg else fall)-1<=max h.I 0 then(⟨h.E,!h.down,0⟩,true)
 else({h with I:=max h.I 0+1},false)
def aqZ(w:ak)(r:Hl×Bool)(e:kZ)(w':ak):Prop:=e=.a (.J #[.d r.1.ay,.e r.2])/\aM w.a.j w w'
theorem wD{w W:ak}{x:Hl}{r:Bool}{h:Hl}{well:Bool}{kg fall:Int}(hs:uR h well kg fall=(x,r))(hb:aM w.a.j w W):
 aqZ w (uR h well kg fall) (.a (.J #[.d x.ay,.e r])) W:=by rw[hs];exact⟨rfl,hb⟩
theorem Rk{h:Hl}{well:Bool}{kg fall k m:Int}(hw:well=h.down)(hk:uQ (if h.down then kg else fall)=k)(hm:max h.I 0=m)(hle:k-1<=m):uR h well kg fall=(⟨h.E,!h.down,0⟩,true):=by
 unfold uR;rw[if_neg (by simp[hw]),hk,hm,if_pos hle]
theorem Rl{h:Hl}{well:Bool}{kg fall k m:Int}(hw:well=h.down)(hk:uQ (if h.down then kg else fall)=k)(hm:max h.I 0=m)(hlt:m<k-1):uR h well kg fall=(⟨h.E,h.down,m+1⟩,false):=by
 unfold uR;rw[if_neg (by simp[hw]),hk,hm,if_neg (by omega)]
theorem KJ{w W1:ak}{nm:List UInt8}{dn:Bool}{rn:Int}(b1:dL W1 w.a.j (Hl.mk nm dn rn).ay)(b2:dL W1 (w.a.j+1) lC.ay)(hb:aM w.a.j w W1)(v:Int):
 dL (W1.F ⟨w.a.j,2,none⟩ (.b .a v)) w.a.j (Hl.mk nm dn v).ay/\dL (W1.F ⟨w.a.j,2,none⟩ (.b .a v)) (w.a.j+1) lC.ay/\Hid (aM w.a.j w (SA (W1.F ⟨w.a.j,2,none⟩ (.b .a v)) (w.a.j+1) 0 (Hl.mk nm dn v)))/\Hid (dL (SA (W1.F ⟨w.a.j,2,none⟩ (.b .a v)) (w.a.j+1) 0 (Hl.mk nm dn v)) (w.a.j+1) (Hl.mk nm dn v).ay):=by
 have c2:dL (W1.F ⟨w.a.j,2,none⟩ (.b .a v)) (w.a.j+1) lC.ay:=b2.dM ⟨w.a.j,2,none⟩ (.b .a v) (by simp);exact⟨b1.eH 2 (.b .a v),c2,Pq (hb.F (p:=⟨w.a.j,2,none⟩) (av _) (.b .a v)) (w.a.j+1) 0 (Hl.mk nm dn v) (by omega),c2.awi (Hl.G _) (Hl.mk nm dn v)⟩
theorem Rm{w W1:ak}{nm:List UInt8}{dn:Bool}{rn:Int}(b1:dL W1 w.a.j (Hl.mk nm dn rn).ay)(b2:dL W1 (w.a.j+1) lC.ay)(hb:aM w.a.j w W1)(d:Bool):
 dL ((W1.F ⟨w.a.j,1,none⟩ (.e d)).F ⟨w.a.j,2,none⟩ (.b .a 0)) w.a.j (Hl.mk nm d 0).ay/\dL ((W1.F ⟨w.a.j,1,none⟩ (.e d)).F ⟨w.a.j,2,none⟩ (.b .a 0)) (w.a.j+1) lC.ay/\Hid (aM w.a.j w (SA ((W1.F ⟨w.a.j,1,none⟩ (.e d)).F ⟨w.a.j,2,none⟩ (.b .a 0)) (w.a.j+1) 0 (Hl.mk nm d 0)))/\Hid (dL (SA ((W1.F ⟨w.a.j,1,none⟩ (.e d)).F ⟨w.a.j,2,none⟩ (.b .a 0)) (w.a.j+1) 0 (Hl.mk nm d 0)) (w.a.j+1) (Hl.mk nm d 0).ay):=
 KJ (b1.eH 1 (.e d)) (b2.dM ⟨w.a.j,1,none⟩ (.e d) (by simp)) (hb.F (p:=⟨w.a.j,1,none⟩) (av _) (.e d)) 0
theorem akJ(h:Hl)(well:Bool)(kg fall:Int)(w:ak)(hh : -9223372036854775808<=h.I/\h.I<=9223372036854775807):
 aQ ah 149 #[.d h.ay,.e well,.b .a kg,.b .a fall] w (aqZ w (uR h well kg fall)):=by
 obtain⟨nm,dn,rn⟩:=h;obtain⟨hh1,hh2⟩:=hh;have B1:=ab (fun(ob:Obj)=>(dL.new w (Hl.mk nm dn rn).ay 100).alloc ob);have B2:=ab (fun(ob:Obj)=>dL.Sq w ob lC.ay 100);have HB:=ab (fun(ob tZ:Obj)=>((aG w.a.j w).alloc (av _) ob).alloc (by simp) tZ);go_enter Tryz.func149,Tryz.ntmps149;go_wp2_with fail;refine(Xk _ _).g ?_;rintro e wz ⟨rfl,rfl⟩;have B1:=ab (B1.i (.D lC.ay 100));have B2:=ab (B2.i (.D (Hl.mk nm dn rn).ay 100));have HB:=ab (HB.i (.D (Hl.mk nm dn rn).ay 100) (.D lC.ay 100));obtain⟨W1,hW1⟩:=dw ((w.alloc (.D (Hl.mk nm dn rn).ay 100)).alloc (.D lC.ay 100));rw[<-hW1]at B1 B2 HB ⊢;clear hW1;obtain⟨x1,x2,x3,x4⟩:=B1.i.K;have l1:=B1.i.lt;have l2:=B2.i.lt;cases dn
 ·have kb:=Xj fall
  obtain⟨k,hk⟩:=tV (uQ fall);rw[hk]at kb ⊢;have HK:=ab hk;clear hk;obtain⟨kb1,kb2⟩:=kb;cases well
  ·rcases wG rn 0 with hrn|hrn
   ·have HM:=ab (show max rn 0=0 by omega)
    rcases wG (0:Int) (k-1)with hlt|hle
    ·have hne:decide (k-1<=0)=false:=by simp;omega
     obtain⟨c1,c2,PG,CF⟩:=KJ B1.i B2.i HB.i (1);obtain⟨y1,y2,y3,y4⟩:=c1.K;have th:=c2.O 0 3 (by rw[Hl.G];omega);clear c1 c2;have hs:=ab (Rl (h:=⟨nm,false,rn⟩) (well:=false) (kg:=kg) (fall:=fall) rfl HK.i HM.i hlt);go_wp2_with fail;refine aN (Dw rfl _ _ _ _ rfl (by rw[CF.i.K.2.2.1 0 3 (av _)];trivial)) rfl ?_;rw[CF.i.K.2.2.2 0 3 (av _),Hl.jC];exact wD hs.i PG.i
    ·have hye:decide (k-1<=0)=true:=by simp;omega
     obtain⟨c1,c2,PG,CF⟩:=Rm B1.i B2.i HB.i true;obtain⟨y1,y2,y3,y4⟩:=c1.K;have th:=c2.O 0 3 (by rw[Hl.G];omega);obtain⟨z1,z2,z3,z4⟩:=(B1.i.eH 1 (.e true)).K;clear c1 c2;have hs:=ab (Rk (h:=⟨nm,false,rn⟩) (well:=false) (kg:=kg) (fall:=fall) rfl HK.i HM.i hle);go_wp2_with fail;refine aN (Dw rfl _ _ _ _ rfl (by rw[CF.i.K.2.2.1 0 3 (av _)];trivial)) rfl ?_;rw[CF.i.K.2.2.2 0 3 (av _),Hl.jC];exact wD hs.i PG.i
   ·have HM:=ab (show max rn 0=rn by omega)
    rcases wG rn (k-1)with hlt|hle
    ·have hne:decide (k-1<=rn)=false:=by simp;omega
     obtain⟨c1,c2,PG,CF⟩:=KJ B1.i B2.i HB.i (rn+1);obtain⟨y1,y2,y3,y4⟩:=c1.K;have th:=c2.O 0 3 (by rw[Hl.G];omega);clear c1 c2;have hs:=ab (Rl (h:=⟨nm,false,rn⟩) (well:=false) (kg:=kg) (fall:=fall) rfl HK.i HM.i hlt);go_wp2_with fail;refine aN (Dw rfl _ _ _ _ rfl (by rw[CF.i.K.2.2.1 0 3 (av _)];trivial)) rfl ?_;rw[CF.i.K.2.2.2 0 3 (av _),Hl.jC];exact wD hs.i PG.i
    ·have hye:decide (k-1<=rn)=true:=by simp;omega
     obtain⟨c1,c2,PG,CF⟩:=Rm B1.i B2.i HB.i true;obtain⟨y1,y2,y3,y4⟩:=c1.K;have th:=c2.O 0 3 (by rw[Hl.G];omega);obtain⟨z1,z2,z3,z4⟩:=(B1.i.eH 1 (.e true)).K;clear c1 c2;have hs:=ab (Rk (h:=⟨nm,false,rn⟩) (well:=false) (kg:=kg) (fall:=fall) rfl HK.i HM.i hle);go_wp2_with fail;refine aN (Dw rfl _ _ _ _ rfl (by rw[CF.i.K.2.2.1 0 3 (av _)];trivial)) rfl ?_;rw[CF.i.K.2.2.2 0 3 (av _),Hl.jC];exact wD hs.i PG.i
  ·have hbn:((true:Bool) != false)=true:=rfl
   rcases wG rn 0 with hrn|hrn
   all_goals
    skip;obtain⟨c1,c2,PG,CF⟩:=KJ B1.i B2.i HB.i 0;obtain⟨y1,y2,y3,y4⟩:=c1.K;have th:=c2.O 0 3 (by rw[Hl.G];omega);clear c1 c2;have hs:=ab (show uR ⟨nm,false,rn⟩ true kg fall=(⟨nm,false,0⟩,false)from rfl);go_wp2_with fail;refine aN (Dw rfl _ _ _ _ rfl (by rw[CF.i.K.2.2.1 0 3 (av _)];trivial)) rfl ?_;rw[CF.i.K.2.2.2 0 3 (av _),Hl.jC];exact wD hs.i PG.i
 ·have kb:=Xj kg
  obtain⟨k,hk⟩:=tV (uQ kg);go_wp2_with fail;refine(Xk _ _).g ?_;rintro e wz ⟨rfl,rfl⟩;rw[hk]at kb ⊢;have HK:=ab hk;clear hk;obtain⟨kb1,kb2⟩:=kb;cases well
  ·have hbn:((false:Bool) != true)=true:=rfl
   rcases wG rn 0 with hrn|hrn
   all_goals
    skip;obtain⟨c1,c2,PG,CF⟩:=KJ B1.i B2.i HB.i 0;obtain⟨y1,y2,y3,y4⟩:=c1.K;have th:=c2.O 0 3 (by rw[Hl.G];omega);clear c1 c2;have hs:=ab (show uR ⟨nm,true,rn⟩ false kg fall=(⟨nm,true,0⟩,false)from rfl);go_wp2_with fail;refine aN (Dw rfl _ _ _ _ rfl (by rw[CF.i.K.2.2.1 0 3 (av _)];trivial)) rfl ?_;rw[CF.i.K.2.2.2 0 3 (av _),Hl.jC];exact wD hs.i PG.i
  ·rcases wG rn 0 with hrn|hrn
   ·have HM:=ab (show max rn 0=0 by omega)
    rcases wG (0:Int) (k-1)with hlt|hle
    ·have hne:decide (k-1<=0)=false:=by simp;omega
     obtain⟨c1,c2,PG,CF⟩:=KJ B1.i B2.i HB.i (1);obtain⟨y1,y2,y3,y4⟩:=c1.K;have th:=c2.O 0 3 (by rw[Hl.G];omega);clear c1 c2;have hs:=ab (Rl (h:=⟨nm,true,rn⟩) (well:=true) (kg:=kg) (fall:=fall) rfl HK.i HM.i hlt);go_wp2_with fail;refine aN (Dw rfl _ _ _ _ rfl (by rw[CF.i.K.2.2.1 0 3 (av _)];trivial)) rfl ?_;rw[CF.i.K.2.2.2 0 3 (av _),Hl.jC];exact wD hs.i PG.i
    ·have hye:decide (k-1<=0)=true:=by simp;omega
     obtain⟨c1,c2,PG,CF⟩:=Rm B1.i B2.i HB.i false;obtain⟨y1,y2,y3,y4⟩:=c1.K;have th:=c2.O 0 3 (by rw[Hl.G];omega);obtain⟨z1,z2,z3,z4⟩:=(B1.i.eH 1 (.e false)).K;clear c1 c2;have hs:=ab (Rk (h:=⟨nm,true,rn⟩) (well:=true) (kg:=kg) (fall:=fall) rfl HK.i HM.i hle);go_wp2_with fail;refine aN (Dw rfl _ _ _ _ rfl (by rw[CF.i.K.2.2.1 0 3 (av _)];trivial)) rfl ?_;rw[CF.i.K.2.2.2 0 3 (av _),Hl.jC];exact wD hs.i PG.i
   ·have HM:=ab (show max rn 0=rn by omega)
    rcases wG rn (k-1)with hlt|hle
    ·have hne:decide (k-1<=rn)=false:=by simp;omega
     obtain⟨c1,c2,PG,CF⟩:=KJ B1.i B2.i HB.i (rn+1);obtain⟨y1,y2,y3,y4⟩:=c1.K;have th:=c2.O 0 3 (by rw[Hl.G];omega);clear c1 c2;have hs:=ab (Rl (h:=⟨nm,true,rn⟩) (well:=true) (kg:=kg) (fall:=fall) rfl HK.i HM.i hlt);go_wp2_with fail;refine aN (Dw rfl _ _ _ _ rfl (by rw[CF.i.K.2.2.1 0 3 (av _)];trivial)) rfl ?_;rw[CF.i.K.2.2.2 0 3 (av _),Hl.jC];exact wD hs.i PG.i
    ·have hye:decide (k-1<=rn)=true:=by simp;omega
     obtain⟨c1,c2,PG,CF⟩:=Rm B1.i B2.i HB.i false;obtain⟨y1,y2,y3,y4⟩:=c1.K;have th:=c2.O 0 3 (by rw[Hl.G];omega);obtain⟨z1,z2,z3,z4⟩:=(B1.i.eH 1 (.e false)).K;clear c1 c2;have hs:=ab (Rk (h:=⟨nm,true,rn⟩) (well:=true) (kg:=kg) (fall:=fall) rfl HK.i HM.i hle);go_wp2_with fail;refine aN (Dw rfl _ _ _ _ rfl (by rw[CF.i.K.2.2.1 0 3 (av _)];trivial)) rfl ?_;rw[CF.i.K.2.2.2 0 3 (av _),Hl.jC];exact wD hs.i PG.i
abbrev RdH:=iR Hl.ay 3
theorem iR.hl{W:ak}{B n:Nat}{A:Option aT}{l:List Hl}{k:Nat}(h:RdH W B A n l)(hk:k<n):∃b o,A=some ⟨b,o,none⟩/\b<B/\xA W b (o+k*3) 3/\dY W b (o+k*3) 3=(l.c k lC).ay /\
 W.b ⟨b,o+k*3,none⟩=some (.g (bU (l.c k lC).E))/\W.b ⟨b,o+k*3+1,none⟩=some (.e (l.c k lC).down):=by
 obtain⟨b,o,hA,hb,hc⟩:=iR.cell Hl.G lC h hk;obtain⟨h1,h2⟩:=wS (Hl.G _) hc;exact⟨b,o,hA,hb,h1,h2,by have:=hc 0 (by omega);rw[nE]at this;exact this,hc 1 (by omega)⟩
def zC(l:List Hl)(s:List UInt8):Int:=match l.findIdx? (fun x=>x.E==s)with|some i=>(i:Nat)|none=>-1
theorem aoo{l:List Hl}{s:List UInt8}{i:Nat}(hi:i<l.a)(h:(l.c i lC).E=s)(hno:∀k,k<i->(l.c k lC).E≠s):zC l s=i:=by
 have:l.findIdx? (fun x=>x.E==s)=some i:=by
  rw[gV];refine⟨hi,?_,fun j hj=>?_⟩
  ·rw[au,aC hi]at h
   simpa using h
  ·have:=hno j hj
   rw[au,aC (by omega)]at this;simpa using this
 unfold zC;rw[this]
theorem aop{l:List Hl}{s:List UInt8}(hno:∀k,k<l.a->(l.c k lC).E≠s):zC l s = -1:=by
 have:l.findIdx? (fun x=>x.E==s)=none:=by
  rw[List.findIdx?_eq_none_iff];intro x hx;obtain⟨k,hk,rfl⟩:=List.getElem_of_mem hx;have:=hno k hk;rw[au,aC hk]at this;simpa using this
 unfold zC;rw[this]
theorem aoq(l:List Hl)(s:List UInt8):zC l s<l.a:=by
 unfold zC;split
 ·rename_i i h
  have:=(gV.1 h).1;omega
 ·omega
theorem aeo(l:List Hl)(s:List UInt8):zC l s = -1\/∃i:Nat,zC l s=i/\i<l.a:=by
 have:=aoq l s;unfold zC at this ⊢;split
 ·rename_i i h;rw[h]at this;exact .b ⟨i,rfl,by simpa using this⟩
 ·exact .a rfl
section
variable {P:eG}
theorem Kn(w:ak)(dT sT ty elem:bK)(size g o dLen dCap:Nat)(a:aT)(sLen sCap:Nat)(cur:Array aB)(t:bK)(cs:List aB)(m:Nat)
 (hu:P.k dT=some (.a elem)) (hs:(P.l elem).map (·.j)=some size)
 (hg:w.a[g]? = some (.D cur t (0,0))) (hm:m=qj sLen dLen) (hn:cs.a=m*size)
 (hsrc:∀j v,cs[j]? = some v->w.b (a.add j)=some v) (hfit:o+cs.a<=cur.j) (h1:∀v∈cs,v.h=true) :
 (qB #[dT,sT] ty #[.a (some ⟨g,o,none⟩) dLen dCap,.a (some a) sLen sCap]).I P w =
  .ok (goInt m) (w.setRow g (splice cur.a o cs).b):=by
 have hl:=run_loadCells_list (P:=P) w a cs hsrc;have hst:=run_storeCells_at P g o t cs 0 cur w hg (by simpa using hfit) h1;cases hq:P.l elem with
 | none=>simp[hq]at hs
 | some i=>
   have hi:i.j=size:=by simpa[hq]using hs
   subst hm;simp[qB,dJ hu,Builtin.lenOf,tO,sizeOf,typeInfo,hq,hi,<-hn,hl,hst,splice]
theorem Ea{w:ak}{ops:Array iV}{rest:List iV}{o:iV}{a:qQ}{Q:zO->qQ->ak->Prop}(hgd:o.guard=none)(d s:pG)(dT sT:bK)
 (ho:o.op=.call {callee:=.builtin .copy,args:=#[d,s],argTypes:=#[dT,sT]}) (elem:bK) (size:Nat) (hu:P.k dT=some (.a elem)) (hsz:(P.l elem).map (·.j)=some size)
 (g off dLen dCap:Nat) (ad:aT) (sLen sCap:Nat) (hd:a.eval d=.a (some ⟨g,off,none⟩) dLen dCap) (hs:a.eval s=.a (some ad) sLen sCap)
 (cur:Array aB) (t:bK) (hg:w.a[g]? = some (.D cur t (0,0))) (cs:List aB) (m:Nat) (hm:m=qj sLen dLen) (hn:cs.a=m*size)
 (hsrc:∀j v,cs[j]? = some v->w.b (ad.add j)=some v) (hfit:off+cs.a<=cur.j) (h1:∀v∈cs,v.h=true)
 (h:∀w',w'=w.setRow g (splice cur.a off cs).b->wpList P ops Q rest (a.put o.Y (goInt m)) w'):wpList P ops Q (o::rest) a w:=by
 refine sV hgd fun K hK=>?_
 have hrun:=Kn (P:=P) w dT sT o.p elem size g off dLen dCap ad sLen sCap cur t cs m hu hsz hg hm hn hsrc hfit h1;unfold nu;simp[execOp,ho,resolve,invoke,builtin,hd,hs,hrun,iE];exact hK _ _ (h _ rfl)
theorem Ig{ops:Array iV}{o:iV}{a:qQ}{w:ak}{K:qQ->ak->Prop}{Q:zO->qQ->ak->Prop}{E:Prop}(hgd:o.guard=none)(d s:pG)(dT sT:bK)
 (ho:o.op=.call {callee:=.builtin .copy,args:=#[d,s],argTypes:=#[dT,sT]}) (elem:bK) (size:Nat) (hu:P.k dT=some (.a elem)) (hsz:(P.l elem).map (·.j)=some size)
 (g off dLen dCap:Nat) (ad:aT) (sLen sCap:Nat) (hd:a.eval d=.a (some ⟨g,off,none⟩) dLen dCap) (hs:a.eval s=.a (some ad) sLen sCap)
 (cur:Array aB) (t:bK) (hg:w.a[g]? = some (.D cur t (0,0))) (cs:List aB) (m:Nat) (hm:m=qj sLen dLen) (hn:cs.a=m*size)
 (hsrc:∀j v,cs[j]? = some v->w.b (ad.add j)=some v) (hfit:off+cs.a<=cur.j) (h1:∀v∈cs,v.h=true)
 (h:∀w',w'=w.setRow g (splice cur.a off cs).b->K (a.put o.Y (goInt m)) w') :
 if fB o (yielded ops a.tmps)=true then nu P o a w K Q else E:=by
 have hw:fB o (yielded ops a.tmps)=true:=by simp[fB,hgd]
 rw[if_pos hw];have hrun:=Kn (P:=P) w dT sT o.p elem size g off dLen dCap ad sLen sCap cur t cs m hu hsz hg hm hn hsrc hfit h1;unfold nu;simp[execOp,ho,resolve,invoke,builtin,hd,hs,hrun,iE];exact h _ rfl
theorem Od{w:ak}{ops:Array iV}{rest:List iV}{o:iV}{a:qQ}{Q:zO->qQ->ak->Prop}(hgd:o.guard=none)(s x:pG)(t tn:bK)
 (ho:o.op=.call {callee:=.builtin .append,args:=#[s,x],argTypes:=#[t,tn]}) (e:bK) (i:nJ) (z:aB) (size:Nat) (kq kn:IntKind) (ht:P.k t=some (.a e)) (htn:P.k tn=some (.b kn)) (hi:P.l e=some i) (hz:i.zero=some z)
 (hsize:i.j=size) (hzs:z.D.j=size)
 (ad:aT) (sLen sCap:Nat) (hs:a.eval s=.a (some ad) sLen sCap) (k:Nat) (hx:a.eval x=.b kq k)
 (olds:List aB) (hlo:olds.a=sLen*size) (hold:∀j u,olds[j]? = some u->w.b (ad.add j)=some u)
 (h0:0<k) (hsz:0<size) (hg:sCap<sLen+k) (h63:sLen+k<=maxLen) (hb:(sLen+k)*i.bytes<=140737488355328)
 (h:∀c' cur w',sLen+k<=c'->c'<=maxLen->cur.j=c'*size->cur.a.d (sLen*size)=olds->w'.a[w.a.j]? = some (.D cur e (0,0))->aM w.a.j w w' ->
  wpList P ops Q rest (a.put o.Y (.a (some ⟨w.a.j,0,none⟩) (sLen+k) c')) w'):wpList P ops Q (o::rest) a w:=by
 subst hsize;refine sV hgd fun K hK=>?_
 have hl:(tO i.j sLen (.a (some ad) sLen sCap)).I P w.drew=.ok olds.b w.drew:=by
  have:=run_loadCells_list (P:=P) w.drew ad olds (fun j v hj=>by simpa using hold j v hj);rw[hlo]at this;simpa[tO]using this
 have h63':((sLen+k:Nat):Int)<=9223372036854775807:=by unfold maxLen at h63;omega
 have h48:k*i.bytes<=281474976710656:=aO (cZ _ (by omega:k<=sLen+k)) (by omega);have hrun:=Lib.run_append_grow_zeros (P:=P) w t tn o.p e i z kq kn ht htn hi hz (some ad) sLen sCap olds hl k h0 hsz hg h63' h48 (growslice_fits hg hb);have hge:=grownCap_ge w (sLen+k) sCap e;have:=h (grownCap w (sLen+k) sCap e) _ _ hge (grownCap_le_maxLen w (sLen+k) sCap e h63)
  (by simp only[Array.size_append,List.size_toArray,size_zeroCells,hzs,hlo,<-Nat.add_mul];congr 1;omega)
  (by simp only[Array.toList_append,dB];rw[<-hlo];exact List.take_left)
  (Gc w.drew (.D (olds.b++nR z.D k++nR z.D (grownCap w (sLen+k) sCap e-(sLen+k))) e))
  (((aG w.a.j w).drew).alloc (av _) _)
 unfold nu;simp[execOp,ho,resolve,invoke,builtin,hs,hx,hrun,iE];exact hK _ _ (by simpa using this)
theorem Ko{ops:Array iV}{o:iV}{a:qQ}{w:ak}{K:qQ->ak->Prop}{Q:zO->qQ->ak->Prop}{E:Prop}(hgd:o.guard=none)(s x:pG)(t:bK)
 (ho:o.op=.call {callee:=.builtin .append,args:=#[s,x],argTypes:=#[t,t]}) (e:bK) (i:nJ) (size:Nat) (ht:P.k t=some (.a e)) (hi:P.l e=some i) (hsize:i.j=size)
 (g sLen sCap:Nat) (ad:aT) (m c:Nat) (hs:a.eval s=.a (some ⟨g,0,none⟩) sLen sCap) (hx:a.eval x=.a (some ad) m c)
 (cur:Array aB) (hg:w.a[g]? = some (.D cur e (0,0))) (news:List aB) (hl:news.a=m*size) (hnews:∀j u,news[j]? = some u->w.b (ad.add j)=some u) (h1:∀u∈news,u.h=true)
 (hroom:sLen+m<=sCap) (hfit:sLen*size+news.a<=cur.j)
 (h:∀w',w'=w.setRow g (splice cur.a (sLen*size) news).b->K (a.put o.Y (.a (some ⟨g,0,none⟩) (sLen+m) sCap)) w') :
 if fB o (yielded ops a.tmps)=true then nu P o a w K Q else E:=by
 subst hsize;have hw:fB o (yielded ops a.tmps)=true:=by simp[fB,hgd]
 rw[if_pos hw];have hrun:=run_append_room (P:=P) w t o.p e i ht hi g sLen sCap cur hg ad m c news hl hnews h1 hroom hfit;unfold nu;simp[execOp,ho,resolve,invoke,builtin,hs,hx,hrun,iE];exact h _ (by simp[splice])
theorem Eb{w:ak}{ops:Array iV}{rest:List iV}{o:iV}{a:qQ}{Q:zO->qQ->ak->Prop}(hgd:o.guard=none)(s:pG)(t:bK)
 (ho:o.op=.call {callee:=.builtin .clear,args:=#[s],argTypes:=#[t]}) (e:bK) (i:nJ) (z:aB) (size:Nat) (ht:P.k t=some (.a e)) (hi:P.l e=some i) (hz:i.zero=some z) (hzs:z.D.j=size) (h1:z.D.all (·.h)=true)
 (g off n c:Nat) (hs:a.eval s=.a (some ⟨g,off,none⟩) n c) (h0:0<n) (cur:Array aB) (tt:bK) (hg:w.a[g]? = some (.D cur tt (0,0))) (hfit:off+n*size<=cur.j)
 (h:∀w' zs,zs.a=n*size->w'=w.setRow g (splice cur.a off zs).b->wpList P ops Q rest (a.put o.Y (.J #[])) w'):wpList P ops Q (o::rest) a w:=by
 refine sV hgd fun K hK=>?_
 have hzl:(nR z.D n).a.a=n*size:=by rw[aY,size_zeroCells,hzs]
 have hst:=run_storeCells_at P g off tt (nR z.D n).a 0 cur w hg (by rw[hzl];omega) (fun v hv=>by
  have hv':v∈nR z.D n:=by simpa using hv
  unfold nR at hv';obtain⟨j,hj,rfl⟩:=Array.mem_map.1 hv';have hj':j<n*z.D.j:=by simpa using hj
  have hpos:0<z.D.j:=by
   rcases dW z.D.j with h2|h2
   ·rw[h2]at hj';omega
   ·exact h2
  have hm:j%z.D.j<z.D.j:=fC _ hpos;rw[getElem!_pos z.D _ hm];exact fV.1 h1 _ (Array.getElem_mem hm))
 have hrun:(Builtin.clear_ #[t] o.p #[.a (some ⟨g,off,none⟩) n c]).I P w=.ok (.J #[]) (w.setRow g (splice cur.a off (nR z.D n).a).b):=by
  obtain⟨n',rfl⟩:∃n',n=n'+1:=⟨n-1,by omega⟩
  simp[Builtin.clear_,dJ ht,zeroValue,typeInfo,hi,hz,hst,splice]
 unfold nu;simp[execOp,ho,resolve,invoke,builtin,hs,hrun,iE];exact hK _ _ (h _ _ hzl rfl)
end
theorem ah0{α:Type}(cur xs ys:List α)(k s:Nat)(hx:cur.d xs.a=xs)(hk:k<=xs.a)(hy:ys.a=s)(hfit:xs.a+s<=cur.a):
 (splice (splice cur (k+s) (xs.f k)) k ys).d (xs.a+s)=xs.d k++ys++xs.f k:=by
 have hc:cur=xs++cur.f xs.a:=by
  conv=>lhs;rw[<-iG xs.a cur]
  rw[hx]
 generalize cur.f xs.a=r at hc;subst hc;have hr:s<=r.a:=by simp at hfit;omega
 unfold splice;have e1:((xs++r).d (k+s)++(xs.f k++(xs++r).f (k+s+(xs.f k).a))).d k=xs.d k:=by
  rw[gu (by simp;omega),List.take_take,ou (by omega),gu hk]
 have e2:((xs++r).d (k+s)++(xs.f k++(xs++r).f (k+s+(xs.f k).a))).f (k+ys.a)=xs.f k++(xs++r).f (k+s+(xs.f k).a):=by
  rw[hy];have:(List.take (k+s) (xs++r)).a=k+s:=by simp;omega
  rw[List.drop_append_of_le_length (by omega),iQ (by omega),dF]
 rw[e1,e2,<-dB,<-dB,gu (by simp;omega)];exact aK (by simp;omega)
theorem aor{α:Type}(cur xs ys:List α)(k s:Nat)(hx:cur.d k=xs.d k)(hk:k<=xs.a)(hy:ys.a=s)(hfit:xs.a+s<=cur.a):
 (splice (splice cur k ys) (k+s) (xs.f k)).d (xs.a+s)=xs.d k++ys++xs.f k:=by
 unfold splice;rw[hx];have e1:(xs.d k++(ys++cur.f (k+ys.a))).d (k+s)=xs.d k++ys:=by
  rw[<-dB,gu (by simp;omega)];exact aK (by simp;omega)
 rw[e1,<-dB,gu (by simp;omega)];exact aK (by simp;omega)
theorem Xl{α:Type}(cur xs:List α)(k s:Nat)(hx:cur.d xs.a=xs)(hk:k+s<=xs.a):
 (splice cur k (xs.f (k+s))).d (xs.a-s)=xs.d k++xs.f (k+s):=by
 have hc:cur=xs++cur.f xs.a:=by
  conv=>lhs;rw[<-iG xs.a cur]
  rw[hx]
 generalize cur.f xs.a=r at hc;subst hc;unfold splice;have e1:(xs++r).d k=xs.d k:=gu (by omega);rw[e1,<-dB,gu (by simp;omega)];exact aK (by simp;omega)
@[go_sem]theorem akL(w:ak)(ob:Obj)(x y:Bk):
 (Ju (.c (some ⟨w.a.j+1,0,none⟩)) (.d x.ay)).I ah ((w.alloc ob).alloc (.D y.ay 62))=.ok () ((w.alloc ob).alloc (.D x.ay 62)):=by
 have:=Wp (w.alloc ob) x y
 rwa [show(w.alloc ob).a.j=w.a.j+1 by simp]at this
def Ih(l m:List Bk)(i:Nat):Bool:=PE (l.c i jk) (m.c i jk)
def Ii(l m:List Bk):Bool:=decide (l.a=m.a)&&(dV l.a).all (Ih l m)
theorem abK(args:Array aB)(w:ak):(callFunc 124 args).I ah w=.ok (.enter 124 args) w:=by kernel_rfl
theorem Wz(p:Nat->Bool)(i:Nat):(dV (i+1)).all p=((dV i).all p&&p i):=by
 rw[List.range_succ,List.all_append];simp
theorem abL(p:Nat->Bool)(i n:Nat)(h:i<n)(hp:p i=false):(dV n).all p=false:=by
 rw[List.all_eq_false];exact⟨i,eu.2 h,by rw[hp];simp⟩
theorem WA(l m:List Bk)(A B:Option aT)(c d:Nat)(w:ak)(hR:Fa w w.a.j A l.a l)(hT:Fa w w.a.j B m.a m)(hn:l.a<4611686018427387904)(hm:m.a<4611686018427387904):
 aQ ah 123 #[.a A l.a c,.a B m.a d,.func (.func 124) #[] #[]] w
  (gU w (.e (Ii l m))):=by
 have hen:=abK;have HR:=ab hR;have HT:=ab hT;clear hR hT;have he:Ii l m=(decide (l.a=m.a)&&(dV l.a).all (Ih l m)):=rfl;have HE:=ab he;clear he;by_cases hlm:l.a=m.a;rotate_left
 ·have aHB:((l.a:Int) != (m.a:Int))=true:=by rw[bne_iff_ne];omega
  have hf:Ii l m=false:=by rw[HE.i];simp[hlm]
  have HF:=ab hf;clear hf hlm;go_enter Tryz.func123,Tryz.ntmps123;go_wp2;go_ret;exact⟨by rw[HF.i];rfl,aG _ _⟩
 have HLM:=ab hlm;rw[<-hlm]at HT hm ⊢;clear hlm;obtain⟨n,hnl⟩:=dw l.a;rw[<-hnl]at HR HT hn ⊢;have HN:=ab hnl;clear hnl hm;have hbn:((n:Int) != (n:Int))=false:=by simp
 go_enter Tryz.func123,Tryz.ntmps123;go_wp2;go_loopw [17] (fun s17 wr=>∃i:Nat,i<=n/\s17=.b .a i/\(dV i).all (Ih l m)=true/\aM w.a.j w wr) (fun s17 _=>n-(intOf s17).e)
 case atStart=>exact⟨0,by omega,rfl,rfl,aG _ _⟩
 case round=>
  obtain⟨i,hin,rfl,hall,hb⟩:=hrel;have HA:=ab hall;have HB:=ab hb;have hsz:=hb.j;clear hall hb;by_cases hlt:i<n
  ·have hi:(i:Int)<n:=by omega
   obtain⟨b,o,rfl,hbb,hh,hc⟩:=(HR.i.S HB.i).fD hlt;obtain⟨b2,o2,rfl,abM,hh2,hc2⟩:=(HT.i.S HB.i).fD hlt;have hbs:b<wr.a.j:=by omega
   have J3:b2<wr.a.j:=by omega
   have hp:Ih l m i=PE (l.c i jk) (m.c i jk):=rfl;obtain⟨x,hx⟩:=dw (l.c i jk);obtain⟨y,hy⟩:=dw (m.c i jk);rw[<-hx]at hc hp;rw[<-hy]at hc2 hp;have HP:=ab hp;clear hx hy hp hbb abM;have sH:∀K,PE x y=K->∀W,aQ ah 124 #[.d x.ay,.d y.ay] W fun e w'=>e=.a (.e K)/\aM W.a.j W w':=fun K h W=>by
    have:=ahZ x y W;rw[h]at this;exact this
   have hb2:∀ob tZ,aM wr.a.j wr ((wr.alloc ob).alloc tZ):=fun ob tZ=>((aG _ _).alloc (av _) _).alloc (by simp) _
   have HB2:=ab hb2;clear hb2;cases k:PE x y
   ·have hf:Ii l m=false:=by
     rw[HE.i,<-HN.i,abL (Ih l m) i n hlt (by rw[HP.i,k])];simp
    have HF:=ab hf;have Xh:=ab (sH _ k);clear k sH hf;go_wp2_with (go_at_call 124;refine(Xh.i _).g ?_;rintro e w1 ⟨rfl,hb1⟩;clear hh hc hh2 hc2;have HB1:=ab hb1;clear hb1);go_ret;exact⟨by rw[HF.i];rfl,jh HB.i ((HB2.i _ _).trans (HB1.i.g (by simp;omega)))⟩
   ·have hy':(dV (i+1)).all (Ih l m)=true:=by rw[Wz,HA.i,HP.i,k];rfl
    have HY:=ab hy';have Xh:=ab (sH _ k);clear k sH hy';go_wp2_with (go_at_call 124;refine(Xh.i _).g ?_;rintro e w1 ⟨rfl,hb1⟩;clear hh hc hh2 hc2;have HB1:=ab hb1;clear hb1);go_roundw
    case rel=>exact⟨i+1,by omega,by go_num,HY.i,jh HB.i ((HB2.i _ _).trans (HB1.i.g (by simp;omega)))⟩
    case measure=>simp[intOf]<;>omega
  ·obtain rfl:i=n:=by omega
   have ht:Ii l m=true:=by rw[HE.i,<-HN.i,HA.i];have:=HLM.i;have:=HN.i;simp;omega
   have HTR:=ab ht;clear ht;have hd:decide ((i:Int)<i)=false:=by simp
   go_wp2;go_ret;exact⟨by rw[HTR.i];rfl,HB.i⟩
def Y0(v:Int)(l:List Bk)(v':Int)(m:List Bk):Bool:=(v==v')&&Ii l m
theorem Y1(l m:List Bk)(v v':Int)(A B:Option aT)(c d:Nat)(w:ak)(hR:Fa w w.a.j A l.a l)(hT:Fa w w.a.j B m.a m)(hn:l.a<4611686018427387904)(hm:m.a<4611686018427387904):
 aQ ah 53 #[.d #[.b .a v,.a A l.a c],.d #[.b .a v',.a B m.a d]] w
  (gU w (.e (Y0 v l v' m))):=by
 have hb0:∀ob tZ,aM w.a.j w ((w.alloc ob).alloc tZ):=fun ob tZ=>((aG _ _).alloc (av _) _).alloc (by simp) _
 have HB0:=ab hb0;clear hb0;have HR:=ab (fun ob tZ=>((hR.alloc (av _) ob).alloc (by simp) tZ).lu (B':=((w.alloc ob).alloc tZ).a.j) (by simp;omega));have HT:=ab (fun ob tZ=>((hT.alloc (av _) ob).alloc (by simp) tZ).lu (B':=((w.alloc ob).alloc tZ).a.j) (by simp;omega));clear hR hT;have he:Y0 v l v' m=((v==v')&&Ii l m):=rfl;have HE:=ab he;clear he;cases k:v==v'
 ·have HK:=ab k
  go_enter Tryz.func53,Tryz.ntmps53;go_wp2;go_ret;exact⟨by rw[HE.i,HK.i];rfl,HB0.i _ _⟩
 ·have HK:=ab k
  go_enter Tryz.func53,Tryz.ntmps53;go_wp2_with (go_at_call 123;refine(WA l m A B c d _ (HR.i _ _) (HT.i _ _) hn hm).g ?_;rintro e w1 ⟨rfl,hb1⟩;have HB1:=ab hb1;clear hb1);go_ret;exact⟨by rw[HE.i,HK.i];rfl,(HB0.i _ _).trans (HB1.i.g (by simp;omega))⟩
theorem abN(l:List Bk)(a:aT)(c:Nat)(w:ak)(hR:Fa w w.a.j (some a) l.a l)(hn:l.a<=100000000000):
 aQ ah 61 #[.a (some a) l.a c] w fun e w'=>∃A' c',e=.a (.a A' l.a c')/\w'.c w.a.j 62 27 (.a A' l.a c') l.a (dG l)/\aM w.a.j w w':=by
 have hnil:∀W:ak,(binOp .eql 30 (.a (some a) l.a c) (.a none 0 0)).I ah W=.ok (.e false) W:=fun W=>by
  simp only[binOp];simp[iW,jd]
 obtain⟨i0,hi0,hz0,hz1,hzb⟩:=N7;have hz2:(bY jk.ay).D.j=27:=by simp[bW,Bk.G]
 have o1:(w.alloc (.D #[] 62)).c w.a.j 62 27 (.a (some ⟨w.a.j,0,none⟩) 0 0) 0 []:=
  pW w #[] 0 (av _) (by unfold maxLen;omega) rfl
 have O1:=ab o1;have O2:=ab (hR.alloc (av _) (.D #[] 62)).2.1;have Rn:=ab (show 0+l.a<=maxLen by unfold maxLen;omega);have Ro:=ab (show(0+l.a)*i0.bytes<=140737488355328 from aO (gP (show 0+l.a<=100000000000 by omega) hzb) (by omega));have O3:=ab (show w.a.j<=(w.alloc (.D #[] 62)).a.j by simp);clear o1 hR;go_enter Tryz.func61,Tryz.ntmps61;go_wp2_with (at_builtin;refine jG _ rfl (.tmp 5) (.tmp 6) _ rfl w.a.j 62 i0 (.d jk.ay) 27 i0.bytes jd hi0 hz0 hz1 rfl hz2 (mI _) (.a (some ⟨w.a.j,0,none⟩) 0 0) 0 [] rfl O1.i w.a.j (some a) l.a c (dG l) rfl O2.i (Cx l) Rn.i Ro.i O3.i ?_;intro v1 w1 hown1 hg1 xJ);obtain⟨A',c',hv,_,_⟩:=jS hown1;subst hv;simp only[bl,dF]at hown1;have hb:=tT ((aG w.a.j w).alloc (av _) (.D #[] 62)) hg1 (av _) O3.i;go_wp2;go_ret;exact⟨A',c',by simp,hown1,hb⟩
theorem agw{l:List Bk}(hs:DN l){s:List UInt8}{i:Nat}(hi:i<l.a)(h:nm l i=s):kE l s=i/\rP l s=true:=by
 have h0:mo (nm l i) s=0:=D7.2 h;have hl:kE l s=i:=agt (by omega) (fun k hk=>by rw[<-h];exact hs.lt hk hi) (fun _=>by omega);refine⟨hl,?_⟩;unfold rP;rw[hl];simp[hi,h0]
def Y8(l m:List Bk)(i:Nat):Bool:=Rj (l.c i jk) (m.c i jk)
def Tp(v:Int)(l:List Bk)(v':Int)(m:List Bk):Bool:=(v==v')&&decide (l.a=m.a)&&(dV l.a).all (Y8 l m)
theorem ah1{x y:Nat}(hx:x<18446744073709551616)(hy:y<18446744073709551616):D6 x y=decide (aef x=aef y):=by
 rw[bZ];simp only[D6,beq_iff_eq,decide_eq_true_eq];constructor
 ·intro h;simp only[aef,h]
 ·intro h;exact aeg (abE hx) (abE hy) h
theorem aep:Op.floatEq .f64 0 0=true:=by decide +kernel
theorem akM{x y:Bk}(hx:x.w<18446744073709551616)(hy:y.w<18446744073709551616):PE x y=Rj x y:=by
 unfold PE Rj akI Bk.LV;rw[aep,ah1 hx hy];cases(decide (aef x.w=aef y.w))<;>cases(x.E==y.E)<;>cases(decide (x.h=y.h))<;>cases(x.Y==y.Y)<;>cases(decide (x.Cg=y.Cg))<;>cases(x.drain==y.drain)<;>rfl
theorem ah2{l m:List Bk}(v v':Int)(hf:∀x∈l,x.rE)(hg:∀x∈m,x.rE):Y0 v l v' m=Tp v l v' m:=by
 unfold Y0 Tp Ii;rw[Bool.and_assoc];congr 1;by_cases hlm:l.a=m.a
 ·congr 1
  rw[bZ,gF,gF];have key:∀i,i∈dV l.a->Ih l m i=Y8 l m i:=fun i hi=>by
   have hi:=eu.1 hi;unfold Ih Y8;have h1:l.c i jk∈l:=by rw[au,aC hi];simp
   have h2:m.c i jk∈m:=by rw[au,aC (by omega)];simp
   exact akM (hf _ h1).2 (hg _ h2).2
  constructor
  ·intro h i hi;rw[<-key i hi];exact h i hi
  ·intro h i hi;rw[key i hi];exact h i hi
 ·simp[hlm]
theorem aer(v:Int)(l:List Bk):Tp v l v l=true:=by
 unfold Tp Y8 Rj;simp
def Tq(f w:Nat):Bool:=decide (f/w%2=1)
theorem akN(f w:Nat)(hf:f<64)(hw:w∈[1,2,4,16]):(bits .and .a (f:Int) (w:Int) != 0)=Tq f w:=
 (by decide +kernel:∀f:Fin 64,∀w∈([1,2,4,16]:List Nat),(bits .and .a ((f.val:Nat):Int) (w:Int) != 0)=Tq f.val w) ⟨f,hf⟩ w hw
def Y9(f:Nat):Bool:=Tq f 2 && !Tq f 16
def Tt(p:Int)(f:Nat):Int:=if p=17 then 5 else if p=6 then(if Tq f 4 then 4 else if Tq f 1 then 3 else if Y9 f then 1 else 2)else 0
def abO(s:Int)(f:Nat):Int:=if s=5 then 5 else if s<1\/5<s then 0 else if Tq f 4 then 4 else if s=4 then(if Y9 f then 1 else 4)else if Tq f 1 then 3 else if s=1/\(Tq f 16 && !Tq f 2)=true then 2 else s
def Ij(n:Int):Int:=if n<0 then 0 else if 1099511627776<n then 1099511627776 else n
section
variable (f w:Nat) (p s n:Int) (W:ak)
theorem Zd(hf:f<64)(hw:w∈[1,2,4,16]):aQ ah 208 #[.b .a f,.b .a w] W fun e W'=>e=.a (.e (Tq f w))/\W=W':=by
 have h:=akN f w hf hw;go_enter Tryz.func208,Tryz.ntmps208;go_wp2;go_ret;exact⟨by rw[<-h];rfl,rfl⟩
theorem Xm(hf:f<64):aQ ah 209 #[.b .a f] W fun e W'=>e=.a (.e (Y9 f))/\W=W':=by
 go_enter Tryz.func209,Tryz.ntmps209;go_wp2_with (go_at_call 208;refine(Zd f _ _ hf (by simp)).g ?_;rintro e w' ⟨rfl,rfl⟩)
 all_goals(go_ret;refine⟨?_,rfl⟩;simp_all[Y9])
theorem ah3(hf:f<64):aQ ah 138 #[.b .a p,.b .a f] W fun e W'=>e=.a (.b .a (Tt p f))/\W=W':=by
 go_enter Tryz.func138,Tryz.ntmps138;go_wp2_with (first|(go_at_call 208;refine(Zd f _ _ hf (by simp)).g ?_;rintro e w' ⟨rfl,rfl⟩)|(go_at_call 209;refine(Xm f _ hf).g ?_;rintro e w' ⟨rfl,rfl⟩))
 all_goals(go_ret;refine⟨?_,rfl⟩;simp_all[Tt])
theorem akO(hf:f<64):aQ ah 139 #[.b .a s,.b .a f] W fun e W'=>e=.a (.b .a (abO s f))/\W=W':=by
 go_enter Tryz.func139,Tryz.ntmps139;go_wp2_with (first|(go_at_call 208;refine(Zd f _ _ hf (by simp)).g ?_;rintro e w' ⟨rfl,rfl⟩)|(go_at_call 209;refine(Xm f _ hf).g ?_;rintro e w' ⟨rfl,rfl⟩))
 all_goals(go_ret;refine⟨?_,rfl⟩;simp_all[abO]<;>omega)
theorem abP:aQ ah 217 #[.b .a n] W fun e W'=>e=.a (.b .a (Ij n))/\W=W':=by
 go_enter Tryz.func217,Tryz.ntmps217;go_wp2
 all_goals(go_ret;refine⟨?_,rfl⟩;simp_all[Ij]<;>(repeat' split)<;>omega)
end
def lG(n:Nat):Bool:=decide (2<=n)&&(dV n).all fun d=>decide (d<2)||decide (n<d*d)||decide (n%d≠0)
theorem Jz{n:Nat}(h:lG n=true){d:Nat}(h2:2<=d)(hd:d*d<=n):n%d≠0:=by
 unfold lG at h;simp only[bf,gF,eu,ny,decide_eq_true_eq]at h;have hlt:d<n:=by have:=cZ d h2;omega
 rcases h.2 d hlt with(h|h)|h<;>omega
theorem wT{n:Nat}(h:lG n=true):2<=n:=by
 unfold lG at h;simp at h;exact h.1
theorem aes{n g:Nat}(h:lG n=true)(hg:g∣n)(h2:2<=g):g=n:=by
 obtain⟨q,rfl⟩:=hg;rcases aZ q 2 with hq|hq
 ·rcases q with _|_|q
  ·have:=wT h;omega
  ·omega
  ·omega
 ·exfalso
  rcases Nat.le_total g q with hle|hle
  ·exact Jz h h2 (Nat.mul_le_mul_left g hle) (Nat.mul_mod_right g q)
  ·exact Jz h hq (cZ q hle) (Nat.mul_mod_left g q)
theorem Tv{n s:Nat}(h:lG n=true)(h1:1<=s)(h2:s<n):Nat.Coprime n s:=by
 have hg:=Nat.gcd_dvd_left n s;have hs:=Nat.gcd_dvd_right n s;have hpos:0<Nat.gcd n s:=Nat.gcd_pos_of_pos_right n h1;rcases aZ (Nat.gcd n s) 2 with hc|hc
 ·show Nat.gcd n s=1;omega
 ·have:=aes h hg hc
  have:=Nat.le_of_dvd h1 hs;omega
def re(o s n i:Nat):Nat:=(o+i*s)%n
theorem aeu{o s n i j:Nat}(h:lG n=true)(h1:1<=s)(h2:s<n)(hi:i<j)(hj:j<n)(e:re o s n i=re o s n j):False:=by
 unfold re at e;have hd:n∣(j-i)*s:=by
  have:n∣(o+j*s)-(o+i*s):=Nat.dvd_of_mod_eq_zero (Nat.sub_mod_eq_zero_of_mod_eq e.symm)
  rwa [Nat.add_sub_add_left,<-Nat.mul_sub_right_distrib]at this
 have:=(Tv h h1 h2).dvd_of_dvd_mul_right hd;have:=Nat.le_of_dvd (by omega) this;omega
theorem abQ:∀(l m:List Nat),l.Nodup->(∀x∈l,x∈m)->l.a<=m.a
 | [],m,_,_=>Nat.zero_le _
 | x::l,m,hn,hs=>by
   have hx:=hs x (by simp);rw[List.nodup_cons]at hn;have:=abQ l (m.erase x) hn.2 (fun y hy=>(List.mem_erase_of_ne (fun e=>hn.1 (by rw[<-e];exact hy))).2 (hs y (by simp[hy])));rw[List.length_erase_of_mem hx]at this;have:=List.length_pos_of_mem hx;simp;omega
theorem Tw{o s n:Nat}(h:lG n=true)(h1:1<=s)(h2:s<n){j:Nat}(hj:j<n):∃i,i<n/\re o s n i=j:=by
 have hn:0<n:=by omega
 by_cases hc:j∈(dV n).map (re o s n)
 ·obtain⟨i,hi,e⟩:=gT.1 hc
  exact⟨i,eu.1 hi,e⟩
 ·exfalso
  have hnd:((dV n).map (re o s n)).Nodup:=by
   rw[List.Nodup,List.pairwise_map];refine List.Pairwise.imp_of_mem ?_ (List.pairwise_lt_range (n:=n));intro a b ha hb hab e;exact aeu h h1 h2 hab (eu.1 hb) e
  have:=abQ (j::(dV n).map (re o s n)) (dV n) (List.nodup_cons.2 ⟨hc,hnd⟩) (by
   intro x hx;rcases bC.1 hx with rfl|hx
   ·exact eu.2 hj
   ·obtain⟨i,_,rfl⟩:=gT.1 hx
    exact eu.2 (fC _ hn))
  simp at this;omega
theorem Oe{o s n i:Nat}(h:0<n):re o s n i<n:=fC _ h
structure Mg where
 cr:List Nat
 sl:List Int
 left:Nat
def rQ(sl:List Int)(j:Nat):Bool:=decide (sl.c j 0 = -1)
def ff(sl:List Int)(ch:Nat->Nat)(n:Nat):Nat:=((dV n).find? fun k=>rQ sl (ch k)).c 0
def sI(g n:Nat)(q:List Nat)(ch:Nat->Nat->Nat)(m:Mg)(i:Nat):Mg:=
 if m.cr.c i 0+q.c i 0<g then{m with cr:=m.cr.set i (m.cr.c i 0+q.c i 0)}
 else⟨m.cr.set i (m.cr.c i 0+q.c i 0-g),m.sl.set (ch i (ff m.sl (ch i) n)) i,m.left-1⟩
def jL(g n:Nat)(q:List Nat)(ch:Nat->Nat->Nat):Nat->Mg
 | 0=>⟨q.map fun _=>0,dS n (-1),n⟩
 | j+1=>sI g n q ch (jL g n q ch j) (j%q.a)
def Ik(sl:List Int):Nat:=sl.countP fun x=>decide (x = -1)
theorem aq0{sl:List Int}{ch:Nat->Nat}{n:Nat}(h:∃k,k<n/\rQ sl (ch k)=true):ff sl ch n<n/\rQ sl (ch (ff sl ch n))=true/\∀k,k<ff sl ch n->rQ sl (ch k)=false:=by
 unfold ff;cases hf:(dV n).find? fun k=>rQ sl (ch k)with
 | none=>
   obtain⟨k,hk,hk2⟩:=h;rw[List.find?_eq_none]at hf;exact absurd hk2 (hf k (eu.2 hk))
 | some k=>
   obtain⟨h1,u1,bs,h2,h3⟩:=List.find?_eq_some_iff_append.1 hf;have hk:u1.a=k/\k<n:=by
    have e1:(dV n)[u1.a]? = some k:=by rw[h2];simp
    rw[wM]at e1
    ·have hl:u1.a<n:=by have:=congrArg List.length h2;simp at this;omega
     simp at e1;omega
    ·have:=congrArg List.length h2;simp at this;omega
   refine⟨hk.2,h1,fun j hj=>?_⟩;simp only[jr]at hj;have e1:(dV n)[j]? = some j:=by rw[wM (by omega)]
   rw[h2,mO (by omega)]at e1;have:=h3 j (List.mem_of_getElem? e1);simpa using this
theorem Og:∀(sl:List Int)(j:Nat)(v:Int),rQ sl j=true->j<sl.a->v≠-1->Ik (sl.set j v)+1=Ik sl
 | [],j,v,_,h,_=>by simp at h
 | a::sl,0,v,h,_,hv=>by
   have:a = -1:=by simpa[rQ]using h
   subst this;simp[Ik,hv]
 | a::sl,j+1,v,h,hj,hv=>by
   have:=Og sl j v (by simpa[rQ]using h) (by simpa using hj) hv;simp only[Ik,bG,List.countP_cons]at this ⊢;omega
theorem Xn:∀(sl:List Int),0<Ik sl->∃j,j<sl.a/\rQ sl j=true
 | [],h=>by simp[Ik]at h
 | a::sl,h=>by
   by_cases ha:a = -1
   ·exact⟨0,by simp,by simp[rQ,ha]⟩
   ·obtain⟨j,h1,h2⟩:=Xn sl (by simpa[Ik,List.countP_cons,ha]using h)
    exact⟨j+1,by simpa using h1,by simpa[rQ]using h2⟩
structure aev(n:Nat)(q:List Nat)(m:Mg):Prop where
 crl:m.cr.a=q.a
 sll:m.sl.a=n
 fr:Ik m.sl=m.left
 rng:∀j,j<n->m.sl.c j 0 = -1\/∃i,i<q.a/\m.sl.c j 0=(i:Int)
def abR(n k:Nat)(ch:Nat->Nat->Nat):Prop:=∀i,i<k->(∀t,ch i t<n)/\∀j,j<n->∃t,t<n/\ch i t=j
theorem aev.free{n:Nat}{q:List Nat}{ch:Nat->Nat->Nat}{m:Mg}(h:aev n q m)(hf:abR n q.a ch)(hl:m.left≠0){i:Nat}(hi:i<q.a):∃k,k<n/\rQ m.sl (ch i k)=true:=by
 obtain⟨j,hj,hj2⟩:=Xn m.sl (by rw[h.fr];omega);obtain⟨t,ht,e⟩:=(hf i hi).2 j (by rw[<-h.sll];exact hj);exact⟨t,ht,by rw[e];exact hj2⟩
theorem aev.abS{g n:Nat}{q:List Nat}{ch:Nat->Nat->Nat}{m:Mg}(h:aev n q m)(hf:abR n q.a ch)(hl:m.left≠0){i:Nat}(hi:i<q.a):aev n q (sI g n q ch m i):=by
 unfold sI;split
 ·exact⟨by simpa using h.crl,h.sll,h.fr,h.rng⟩
 ·obtain⟨h1,h2,h3⟩:=aq0 (h.free hf hl hi)
  have hlt:=(hf i hi).1 (ff m.sl (ch i) n);have hll:=h.sll;refine⟨by simpa using h.crl,by simpa using h.sll,?_,fun j hj=>?_⟩
  ·have:=Og m.sl _ (i:Int) h2 (by omega) (by omega)
   have:=h.fr;show Ik (m.sl.set _ _)=m.left-1;omega
  ·simp only[au,fF]
   split
   ·rename_i e
    rw[if_pos (by omega)];exact .b ⟨i,hi,rfl⟩
   ·have:=h.rng j hj
    simpa[au]using this
theorem abT{g n:Nat}{q:List Nat}{ch:Nat->Nat->Nat}(m:Mg)(i:Nat):(sI g n q ch m i).left<=m.left:=by
 unfold sI;split
 ·exact av _
 ·exact Nat.sub_le _ _
theorem Ze{g n:Nat}{q:List Nat}{ch:Nat->Nat->Nat}(j:Nat):∀d,(jL g n q ch (j+d)).left<=(jL g n q ch j).left
 | 0=>av _
 | d+1=>aO (abT _ _) (Ze j d)
theorem Zf{g n:Nat}{q:List Nat}{ch:Nat->Nat->Nat}{i0:Nat}(hi:i0<q.a)(hg:q.c i0 0=g)(m:Nat):(jL g n q ch ((m+1)*q.a)).left<=(jL g n q ch (m*q.a)).left-1:=by
 have h1:(jL g n q ch (m*q.a+i0+1)).left<=(jL g n q ch (m*q.a+i0)).left-1:=by
  have e:(m*q.a+i0)%q.a=i0:=by rw[Cu,Nat.mul_add_mod,fK hi]
  show(sI g n q ch _ ((m*q.a+i0)%q.a)).left<=_;rw[e];unfold sI;rw[if_neg (by omega)];exact av _
 have h2:=Ze (g:=g) (n:=n) (q:=q) (ch:=ch) (m*q.a) i0;have h3:=Ze (g:=g) (n:=n) (q:=q) (ch:=ch) (m*q.a+i0+1) (q.a-i0-1);rw[show m*q.a+i0+1+(q.a-i0-1)=(m+1)*q.a by rw[Nat.add_mul];omega]at h3;omega
theorem aos{g n:Nat}{q:List Nat}{ch:Nat->Nat->Nat}{i0:Nat}(hi:i0<q.a)(hg:q.c i0 0=g):∃K,(jL g n q ch K).left=0/\∀j,j<K->(jL g n q ch j).left≠0:=by
 have h:∀m,(jL g n q ch (m*q.a)).left<=n-m:=by
  intro m
  induction m with
  | zero=>simp[jL]
  | succ m ih=>have:=Zf (n:=n) (ch:=ch) hi hg m;omega
 have hk:(jL g n q ch (n*q.a)).left=0:=by have:=h n;omega
 have:∀k,(∃j,j<=k/\(jL g n q ch j).left=0)->∃K,(jL g n q ch K).left=0/\∀j,j<K->(jL g n q ch j).left≠0:=by
  intro k
  induction k with
  | zero=>rintro⟨j,hj,h0⟩;obtain rfl:j=0:=by omega
          exact⟨0,h0,fun j h=>by omega⟩
  | succ k ih=>
    rintro⟨j,hj,h0⟩;by_cases hc:∃j,j<=k/\(jL g n q ch j).left=0
    ·exact ih hc
    ·exact⟨j,h0,fun t ht e=>hc ⟨t,by omega,e⟩⟩
 exact this _ ⟨_,av _,hk⟩
theorem akP{g n:Nat}{q:List Nat}{ch:Nat->Nat->Nat}(hq:0<q.a)(hf:abR n q.a ch):∀j,(∀t,t<j->(jL g n q ch t).left≠0)->aev n q (jL g n q ch j)
 | 0,_=>⟨by simp[jL],by simp[jL],by simp[jL,Ik,List.countP_replicate],fun j hj=>.a (by simp[jL,au,hj])⟩
 | j+1,h=>(akP hq hf j fun t ht=>h t (by omega)).abS hf (h j (by omega)) (fC _ hq)
theorem abU(n:Int):0<=Ij n/\Ij n<=1099511627776:=by unfold Ij;(repeat' split)<;>omega
theorem akQ{P:eG}{f:FuncId}{args:Array aB}{w:ak}{n:Nat}{v:aB}(h:aQ P f args (w.drewN n) fun e w'=>e=.a v/\w.drewN n=w'):aQ P f args (w.drewN n) fun e w''=>e=.a v/\∃m,w''=w.drewN m:=
 h.g fun _ _ ⟨he,hm⟩=>⟨he,n,hm.symm⟩
def J4(v:Vector Int 6):Array aB:=(v.a.map fun n=>.b .a n).b
def Dx(s seen now:Int)(v:Vector Int 6):Bool:=decide (s<1\/5<s\/v.a.c s.e 0<Ij now-Ij seen)
theorem Zg(v:Vector Int 6)(k:Nat)(hk:k<6):(J4 v)[k]? = some (.b .a (v.a.c k 0)):=by
 simp[J4,au,hk]
theorem aBy(a b:Nat)(ha:a<9223372036854775808):wrap64 ((a:Int)/(b:Int))=((a/b:Nat):Int):=by
 have:=Nat.div_le_self a b;rw[<-Int.natCast_ediv];generalize a/b=q at *;unfold wrap64;omega
section
variable (s seen now:Int) (v:Vector Int 6) (W:ak)
theorem ah4:aQ ah 150 #[.b .a s,.b .a seen,.b .a now,.d (J4 v)] W (gU W (.e (Dx s seen now v))):=by
 have HB:=ab ((aG W.a.j W).alloc (av _) (.D (J4 v) 24));have t1:=ab (abU now);have t2:=ab (abU seen);have C1:=fun W=>abP now W
 have C2:=fun W=>abP seen W
 by_cases hs:s<1\/5<s
 ·have H:=ab (show Dx s seen now v=true by simp[Dx];omega)
  go_enter Tryz.func150,Tryz.ntmps150;go_wp2
  all_goals first|(go_ret;exact⟨by rw[H.i];rfl,HB.i⟩)|(exfalso;simp_all)
 ·obtain⟨k,rfl⟩:∃k:Nat,s=k:=⟨s.e,by omega⟩
  have h1:¬(k:Int)<1:=by omega
  have h2:¬(5:Int)<k:=by omega
  have hg:=Zg v k (by omega);have hk:(k:Int)<6:=by omega
  have H:=ab (show Dx k seen now v=decide (v.a.c k 0<Ij now-Ij seen)from decide_eq_decide.2 ⟨fun h=>(h.resolve_left h1).resolve_left h2,fun h=>.b (.b h)⟩);generalize Ij now=p at *;generalize Ij seen=q at *;generalize v.a.c k 0=z at *;have hpq:wrap64 (p-q)=p-q:=by have:=t1.i;have:=t2.i;unfold wrap64;omega
  clear hs;go_enter Tryz.func150,Tryz.ntmps150;go_wp2_with fail;go_quiet (first|(go_at_call 217;with_reducible refine akQ (C1 _))|(go_at_call 217;with_reducible refine akQ (C2 _)));go_wp2;go_ret;exact⟨by rw[H.i];rfl,fH HB.i _⟩
theorem Tx{n:Nat}(h:2<=n)(hall:∀e,2<=e->e*e<=n->n%e≠0):lG n=true:=by
 unfold lG;simp only[bf,gF,eu,ny,decide_eq_true_eq];refine⟨h,fun d _=>?_⟩;by_cases h1:d<2
 ·exact .a (.a h1)
 ·by_cases h2:n<d*d
  ·exact .a (.b h2)
  ·exact .b (hall d (by omega) (by omega))
theorem Xo(n:Nat)(hn:n<=65537):aQ ah 81 #[.b .a n] W fun e W'=>e=.a (.e (lG n))/\W=W':=by
 go_enter Tryz.func81,Tryz.ntmps81;by_cases h2:n<2
 ·have h2':(n:Int)<2:=by omega
  have hp:=ab (show lG n=false by simp[lG];omega);go_wp2;go_ret;exact⟨by rw[hp.i];rfl,rfl⟩
 have h2':¬(n:Int)<2:=by omega
 go_wp2;go_loop [3] (fun s3=>∃d:Nat,2<=d/\d<=n+1/\s3=.b .a d/\∀e,2<=e->e<d->n%e≠0) (fun s3=>n+1-(intOf s3).e)
 case atStart=>exact⟨2,by omega,by omega,rfl,fun e h1 h2=>by omega⟩
 case round=>
  obtain⟨d,hd,hdn,rfl,hall⟩:=hrel;have HA:=ab hall;clear hall;have hd0:¬(d:Int)=0:=by omega
  have hq:=aBy n d (by omega);by_cases hle:d*d<=n
  ·have hle2:(d:Int)<=((n/d:Nat):Int):=by have:=(Nat.le_div_iff_mul_le (show 0<d by omega)).2 hle;omega
   by_cases hm:n%d=0
   ·have hm2:((n:Int)%(d:Int)==0)=true:=by rw[<-GX,hm];rfl
    have H:=ab (show lG n=false by cases hp:lG n with
     | false=>rfl
     | true=>exact absurd hm (Jz hp hd hle))
    clear hle hm;go_wp2;go_ret;exact⟨by rw[H.i];rfl,rfl⟩
   ·have hm2:((n:Int)%(d:Int)==0)=false:=by rw[<-GX,beq_eq_false_iff_ne];omega
    have HL:=ab (show d<n+1 by have:=Nat.le_mul_self d;omega);have HM:=ab hm;clear hle hm;go_wp2;go_round
    case rel=>exact⟨d+1,by omega,by have:=HL.i;omega,by go_num,fun e h1 h2=>by
     rcases aZ e d with h|h
     ·exact HA.i e h1 h
     ·rw[show e=d by omega];exact HM.i⟩
    case measure=>have:=HL.i;simp[intOf]<;>omega
  ·have hle2:¬(d:Int)<=((n/d:Nat):Int):=by have:=mt (Nat.le_div_iff_mul_le (show 0<d by omega)).1 hle;omega
   have H:=ab (show lG n=true from Tx (by omega) fun e h1 h2=>HA.i e h1 (by
    rcases aZ e d with h|h
    ·exact h
    ·have:=gP h h;omega))
   clear hle;go_wp2;go_ret;exact⟨by rw[H.i];rfl,rfl⟩
theorem Zh(n:Nat)(hn:n<=65537):aQ ah 69 #[.b .a n] W fun e W'=>e=.a (.e (lG n))/\W=W':=by
 go_enter Tryz.func69,Tryz.ntmps69;by_cases h2:n<2
 ·have h2':(n:Int)<2:=by omega
  have hp:=ab (show lG n=false by simp[lG];omega);go_wp2;go_ret;exact⟨by rw[hp.i];rfl,rfl⟩
 have h2':¬(n:Int)<2:=by omega
 go_wp2;go_loop [3] (fun s3=>∃d:Nat,2<=d/\d<=n+1/\s3=.b .a d/\∀e,2<=e->e<d->n%e≠0) (fun s3=>n+1-(intOf s3).e)
 case atStart=>exact⟨2,by omega,by omega,rfl,fun e h1 h2=>by omega⟩
 case round=>
  obtain⟨d,hd,hdn,rfl,hall⟩:=hrel;have HA:=ab hall;clear hall;have hd0:¬(d:Int)=0:=by omega
  have hq:wrap64 ((d:Int)*(d:Int))=((d*d:Nat):Int):=by
   have h1:d*d<=4295229444:=aO (gP (show d<=65538 by omega) (show d<=65538 by omega)) (by decide);rw[<-Int.natCast_mul];generalize d*d=q at h1 ⊢;unfold wrap64;omega
  by_cases hle:d*d<=n
  ·have hle2:((d*d:Nat):Int)<=(n:Int):=by omega
   by_cases hm:n%d=0
   ·have hm2:((n:Int)%(d:Int)==0)=true:=by rw[<-GX,hm];rfl
    have H:=ab (show lG n=false by cases hp:lG n with
     | false=>rfl
     | true=>exact absurd hm (Jz hp hd hle))
    clear hle hm;go_wp2;go_ret;exact⟨by rw[H.i];rfl,rfl⟩
   ·have hm2:((n:Int)%(d:Int)==0)=false:=by rw[<-GX,beq_eq_false_iff_ne];omega
    have HL:=ab (show d<n+1 by have:=Nat.le_mul_self d;omega);have HM:=ab hm;clear hle hm;go_wp2;go_round
    case rel=>exact⟨d+1,by omega,by have:=HL.i;omega,by go_num,fun e h1 h2=>by
     rcases aZ e d with h|h
     ·exact HA.i e h1 h
     ·rw[show e=d by omega];exact HM.i⟩
    case measure=>have:=HL.i;simp[intOf]<;>omega
  ·have hle2:¬((d*d:Nat):Int)<=(n:Int):=by omega
   have H:=ab (show lG n=true from Tx (by omega) fun e h1 h2=>HA.i e h1 (by
    rcases aZ e d with h|h
    ·exact h
    ·have:=gP h h;omega))
   clear hle;go_wp2;go_ret;exact⟨by rw[H.i];rfl,rfl⟩
end
section
variable {α κ:Type} [DecidableEq κ] (kf:α->κ) (hm:κ->Nat)
def yC(N z c:Nat):Nat:=(z+c)%N
theorem Bf{N z c:Nat}(h:0<N):yC N z c<N:=fC _ h
theorem wI{N a:Nat}(h:a<2*N):a%N=if a<N then a else a-N:=by
 split
 ·exact fK ‹_›
 ·rw[Nat.mod_eq_sub_mod (by omega),fK (by omega)]
theorem KL{N z c:Nat}(hz:z<N)(hc:c<N):yC N z c=if z+c<N then z+c else z+c-N:=wI (by omega)
def yD(N z i:Nat):Nat:=if z<=i then i-z else i+N-z
theorem Bg{N z i:Nat}(hz:z<N)(hi:i<N):yD N z i<N:=by unfold yD;split<;>omega
theorem wJ{N z i:Nat}(hz:z<N)(hi:i<N):yC N z (yD N z i)=i:=by
 rw[KL hz (Bg hz hi)];unfold yD;split<;>split<;>omega
theorem LW{N z c:Nat}(hz:z<N)(hc:c<N):yD N z (yC N z c)=c:=by
 rw[KL hz hc];unfold yD;split<;>split<;>omega
theorem JA{N z c d:Nat}(hz:z<N)(hc:c<N)(hd:d<N)(h:yC N z c=yC N z d):c=d:=by
 rw[<-LW hz hc,<-LW hz hd,h]
def fD(s:List (Option α))(i:Nat):Option α:=s.c i none
theorem Fh(s:List (Option α))(i j:Nat)(v:Option α)(hi:i<s.a):fD (s.set i v) j=if i=j then v else fD s j:=by
 unfold fD;rw[au,au,fF];by_cases h:i=j
 ·subst h;simp[hi]
 ·simp[h]
def Lin(s:List (Option α))(z:Nat):Prop:=∀c x,c<s.a->fD s (yC s.a z c)=some x ->
 yD s.a z (hm (kf x))<=c/\∀q,yD s.a z (hm (kf x))<=q->q<c->fD s (yC s.a z q)≠none
structure Tab(s:List (Option α)):Prop where
 hom:∀k,hm k<s.a
 lin:∃z,z<s.a/\fD s z=none/\Lin kf hm s z
 uni:∀i j x y,i<s.a->j<s.a->fD s i=some x->fD s j=some y->kf x=kf y->i=j
def stops(s:List (Option α))(k:κ)(i:Nat):Bool:=match fD s i with|none=>true|some x=>decide (kf x=k)
variable {kf hm} {s:List (Option α)}
theorem Lin.asA(h0:∀k,hm k<s.a){z z':Nat}(hz:z<s.a)(hf:fD s z=none)(h:Lin kf hm s z)(hz':z'<s.a)(hf':fD s z'=none):Lin kf hm s z':=by
 intro c x hc hx;have hi:=Bf (N:=s.a) (z:=z') (c:=c) (by omega);generalize hI:yC s.a z' c=i at hx hi;have hc2:c=yD s.a z' i:=by rw[<-hI,LW hz' hc]
 subst hc2;have hh:=h0 (kf x);obtain⟨h1,h2⟩:=h (yD s.a z i) x (Bg hz hi) (by rw[wJ hz hi];exact hx);have hne:i≠z':=by rintro rfl;rw[hf']at hx;cases hx
 have hno:¬(yD s.a z (hm (kf x))<=yD s.a z z'/\yD s.a z z'<yD s.a z i):=fun⟨a,b⟩=>
  h2 _ a b (by rw[wJ hz hz'];exact hf')
 have hne2:i≠z:=by rintro rfl;rw[hf]at hx;cases hx
 generalize hm (kf x)=y at *;have e1:yD s.a z' y<=yD s.a z' i:=by
  revert hno h1
  unfold yD
  repeat' split
  all_goals omega
 refine⟨e1,fun q hq1 hq2=>?_⟩;have hqN:q<s.a:=Nat.lt_trans hq2 (Bg hz' hi);have hj:=Bf (N:=s.a) (z:=z') (c:=q) (by omega);generalize hJ:yC s.a z' q=j at hj;have hq3:q=yD s.a z' j:=by rw[<-hJ,LW hz' hqN]
 subst hq3
 have:=h2 (yD s.a z j) (by revert hno h1 hq1 hq2;unfold yD;repeat' split
                           all_goals omega) (by revert hno h1 hq1 hq2;unfold yD;repeat' split
                                                all_goals omega)
 rwa [wJ hz hj]at this
def Found(hm:κ->Nat)(kf:α->κ)(s:List (Option α))(k:κ)(d:Nat):Prop:=d<s.a/\stops (kf:=kf) s k ((hm k+d)%s.a)=true/\∀t,t<d->stops (kf:=kf) s k ((hm k+t)%s.a)=false
theorem LX{N z y q:Nat}(hz:z<N)(hy:y<N)(h1:yD N z y<=q)(hq:q<N):yC N z q=(y+(q-yD N z y))%N:=by
 rw[KL hz hq,wI (by unfold yD at *;split at h1<;>omega)];unfold yD at *
 repeat' split
 all_goals(try split at h1)
 all_goals omega
theorem Tab.Zi(h:Tab kf hm s){k:κ}{j:Nat}{x:α}(hj:j<s.a)(hx:fD s j=some x)(hk:kf x=k):∃d,Found hm kf s k d/\(hm k+d)%s.a=j:=by
 obtain⟨z,hz,hf,hl⟩:=h.lin;obtain⟨h1,h2⟩:=hl (yD s.a z j) x (Bg hz hj) (by rw[wJ hz hj];exact hx);rw[hk]at h1 h2;have hy:=h.hom k;have hcj:=Bg hz hj;have ej:(hm k+(yD s.a z j-yD s.a z (hm k)))%s.a=j:=by rw[<-LX hz hy h1 hcj,wJ hz hj]
 refine⟨yD s.a z j-yD s.a z (hm k),⟨by omega,?_,fun t ht=>?_⟩,ej⟩
 ·rw[ej];simp[stops,hx,hk]
 ·have hq:yD s.a z (hm k)+t<yD s.a z j:=by omega
  have:=h2 (yD s.a z (hm k)+t) (by omega) hq;have e:=LX hz hy (q:=yD s.a z (hm k)+t) (by omega) (by omega);rw[show yD s.a z (hm k)+t-yD s.a z (hm k)=t by omega]at e;rw[e]at this;cases hw:fD s ((hm k+t)%s.a)with
  | none=>exact absurd hw this
  | some y=>
    simp only[stops,hw,decide_eq_false_iff_not];intro hky;have hlt:(hm k+t)%s.a<s.a:=fC _ (by omega);have:=h.uni _ _ _ _ hlt hj hw hx (by rw[hky,hk]);rw[<-e,<-wJ hz hj]at this;have:=JA hz (by omega) hcj this;omega
theorem Tab.agx(h:Tab kf hm s){k:κ}(hno:∀j x,j<s.a->fD s j=some x->kf x≠k):∃d,Found hm kf s k d/\fD s ((hm k+d)%s.a)=none:=by
 obtain⟨z,hz,hf,hl⟩:=h.lin;have hy:=h.hom k;have hN:0<s.a:=by omega
 have st:∀i,i<s.a->(stops (kf:=kf) s k i=true↔fD s i=none):=by
  intro i hi;unfold stops;cases hw:fD s i with
  | none=>simp
  | some x=>simpa using hno i x hi hw
 have ex:∃d,d<s.a/\stops (kf:=kf) s k ((hm k+d)%s.a)=true:=by
  have hd:(hm k+(if hm k<=z then z-hm k else z+s.a-hm k))%s.a=z:=by
   rw[wI (by split<;>omega)];repeat' split
   all_goals omega
  refine⟨if hm k<=z then z-hm k else z+s.a-hm k,by split<;>omega,?_⟩;rw[hd,st z hz];exact hf
 have least:∀n,(∃d,d<n/\d<s.a/\stops (kf:=kf) s k ((hm k+d)%s.a)=true)->∃d,d<s.a/\stops (kf:=kf) s k ((hm k+d)%s.a)=true/\∀t,t<d->stops (kf:=kf) s k ((hm k+t)%s.a)=false:=by
  intro n
  induction n with
  | zero=>rintro⟨d,hd,_⟩;omega
  | succ n ih=>
    rintro⟨d,hd,hd2,hd3⟩;by_cases hc:∃d,d<n/\d<s.a/\stops (kf:=kf) s k ((hm k+d)%s.a)=true
    ·exact ih hc
    ·refine⟨d,hd2,hd3,fun t ht=>?_⟩
     cases hs:stops (kf:=kf) s k ((hm k+t)%s.a)with
     | false=>rfl
     | true=>exact absurd ⟨t,by omega,by omega,hs⟩ hc
 obtain⟨d,hd⟩:=ex;obtain⟨e,e1,e2,e3⟩:=least s.a ⟨d,hd.1,hd.1,hd.2⟩;exact⟨e,⟨e1,e2,e3⟩,(st _ (fC _ hN)).1 e2⟩
theorem Found.GJ{k:κ}{d e:Nat}(h:Found hm kf s k d)(g:Found hm kf s k e):d=e:=by
 rcases Nat.lt_trichotomy d e with h1|h1|h1
 ·have:=g.2.2 d h1;rw[h.2.1]at this;cases this
 ·exact h1
 ·have:=h.2.2 e h1;rw[g.2.1]at this;cases this
theorem Tab.found(h:Tab kf hm s)(k:κ):∃d,Found hm kf s k d:=by
 by_cases hc:∃j x,j<s.a/\fD s j=some x/\kf x=k
 ·obtain⟨j,x,h1,h2,h3⟩:=hc
  obtain⟨d,hd,_⟩:=h.Zi h1 h2 h3;exact⟨d,hd⟩
 ·obtain⟨d,hd,_⟩:=h.agx (k:=k) (fun j x h1 h2 h3=>hc ⟨j,x,h1,h2,h3⟩)
  exact⟨d,hd⟩
theorem Tab.put(h:Tab kf hm s){x:α}{d:Nat}(hd:Found hm kf s (kf x) d){z':Nat}(hz':z'<s.a)(hfree:fD s z'=none)(hne:z'≠(hm (kf x)+d)%s.a):
 Tab kf hm (s.set ((hm (kf x)+d)%s.a) (some x)):=by
 obtain⟨z,hz,hf,hl⟩:=h.lin;have hl:=hl.asA h.hom hz hf hz' hfree;have hy:=h.hom (kf x);have hN:0<s.a:=by omega
 have hj:(hm (kf x)+d)%s.a<s.a:=fC _ hN;have hstop:=hd.2.1;have hbef:=hd.2.2;have hdl:=hd.1;generalize hJ:(hm (kf x)+d)%s.a=j at *;refine⟨by simpa using h.hom,⟨z',by simpa using hz',by rw[Fh _ _ _ _ hj,if_neg (jl hne)];exact hfree,?_⟩,?_⟩
 ·intro c y hc hyc
  simp only[aV]at hc hyc ⊢;have hkeep:∀q,fD s (yC s.a z' q)≠none->fD (s.set j (some x)) (yC s.a z' q)≠none:=by
   intro q hq;rw[Fh _ _ _ _ hj];split
   ·simp
   ·exact hq
  rw[Fh _ _ _ _ hj]at hyc;split at hyc
  ·rename_i hjc
   injection hyc with hyc;subst hyc
   have hcj:c=yD s.a z' j:=by rw[hjc,LW hz' hc]
   have aq2:∀t,t<d->fD s ((hm (kf x)+t)%s.a)≠none:=by
    intro t ht hn;have:=hbef t ht;simp[stops,hn]at this
   have hzd:∀t,t<=d->(hm (kf x)+t)%s.a≠z':=by
    intro t ht e;rcases aZ t d with h1|h1
    ·exact aq2 t h1 (by rw[e];exact hfree)
    ·have:t=d:=by omega
     subst this;rw[hJ]at e;exact hne e.symm
   have hle:yD s.a z' (hm (kf x))+d<s.a:=by
    rcases aZ (yD s.a z' (hm (kf x))+d) s.a with h1|h1
    ·exact h1
    ·exfalso
     have hlt:=Bg hz' hy;refine hzd (s.a-yD s.a z' (hm (kf x))) (by omega) ?_;rw[wI (by omega)];unfold yD at *
     repeat' split
     all_goals(repeat' split at *)
     all_goals omega
   have e1:yC s.a z' (yD s.a z' (hm (kf x))+d)=j:=by
    rw[LX hz' hy (by omega) hle,<-hJ];congr 2;omega
   have e2:c=yD s.a z' (hm (kf x))+d:=JA hz' hc hle (by rw[e1,<-hjc]);refine⟨by omega,fun q h1 h2=>hkeep q ?_⟩;rw[LX hz' hy h1 (by omega)];exact aq2 _ (by omega)
  ·obtain⟨a,b⟩:=hl c y hc hyc
   exact⟨a,fun q h1 h2=>hkeep q (b q h1 h2)⟩
 ·intro i k y w hi hk hyi hwk he
  simp only[aV]at hi hk;rw[Fh _ _ _ _ hj]at hyi hwk;have key:∀k w,k<s.a->fD s k=some w->kf w=kf x->k=j:=by
   intro k w hk hw he;obtain⟨e,he1,he2⟩:=h.Zi hk hw he;have:=he1.GJ hd;subst this;rw[<-he2,hJ]
  split at hyi<;>split at hwk
  ·omega
  ·injection hyi with hyi;subst hyi
   have:=key k w hk hwk he.symm;omega
  ·injection hwk with hwk;subst hwk
   have:=key i y hi hyi he;omega
  ·exact h.uni i k y w hi hk hyi hwk he
def iq(s:List (Option α)):List α:=s.filterMap id
theorem ze(s:List (Option α)):∀(i:Nat)(x:α),i<s.a->(iq (s.set i (some x))).Perm (x::iq (s.set i none)):=by
 induction s with
 | nil=>intro i x h;simp at h
 | cons a s ih=>
   intro i x h;cases i with
   | zero=>simp[iq]
   | succ i=>
     have:=ih i x (by simpa using h);cases a with
     | none=>simpa[iq]using this
     | some a=>
       simp only[iq,bG,List.filterMap_cons,id]at this ⊢;exact(this.cons a).trans (List.Perm.swap x a _)
theorem abV(s:List (Option α))(i:Nat)(hi:i<s.a):s.set i (fD s i)=s:=by
 apply iJ;intro j;rw[fF];split
 ·rename_i h;subst h;simp[hi,fD]
 ·rfl
theorem Oh(s:List (Option α))(i:Nat)(x:α)(hi:i<s.a)(hx:fD s i=some x):(iq s).Perm (x::iq (s.set i none)):=by
 have:=ze s i x hi
 rwa [<-hx,abV s i hi]at this
theorem KO(s:List (Option α))(i:Nat)(x:α)(hi:i<s.a)(hx:fD s i=none):(iq (s.set i (some x))).Perm (x::iq s):=by
 have:=ze s i x hi
 rwa [<-hx,abV s i hi]at this
theorem Oi{s:List (Option α)}{x:α}:x∈iq s↔∃i,i<s.a/\fD s i=some x:=by
 simp only[iq,List.mem_filterMap,id];constructor
 ·rintro⟨a,h1,rfl⟩
  obtain⟨i,hi,he⟩:=List.mem_iff_getElem.1 h1;exact⟨i,hi,by simp[fD,au,hi,he]⟩
 ·rintro⟨i,hi,he⟩
  refine⟨some x,?_,rfl⟩;rw[<-he];simp only[fD,au,aC hi,jr];exact dX hi
theorem akR(s:List (Option α)):(iq s).a<=s.a:=List.length_filterMap_le _ _
theorem KQ(s:List (Option α)):(iq s).a<s.a↔∃i,i<s.a/\fD s i=none:=by
 induction s with
 | nil=>simp[iq]
 | cons a s ih=>
   cases a with
   | none=>exact⟨fun _=>⟨0,by simp,by simp[fD]⟩,fun _=>by have:=akR s;simp[iq]at this⊢;omega⟩
   | some a=>
     have:(iq (some a::s)).a=(iq s).a+1:=by simp[iq]
     rw[this,bB];constructor
     ·intro h
      obtain⟨i,h1,h2⟩:=ih.1 (by omega);exact⟨i+1,by omega,by simpa[fD]using h2⟩
     ·rintro⟨i,h1,h2⟩
      cases i with
      | zero=>simp[fD]at h2
      | succ i=>
        have:=ih.2 ⟨i,by omega,by simpa[fD]using h2⟩;omega
structure WC(kf:α->κ)(hm:κ->Nat)(z:Nat)(s:List (Option α))(a c:Nat)(L:List α):Prop where
 hom:∀k,hm k<s.a
 hz:z<s.a
 free:fD s z=none
 a0:0<a
 ac:a<c
 cN:c<=s.a
 lin:∀e x,e<s.a->e≠a->fD s (yC s.a z e)=some x->yD s.a z (hm (kf x))<=e/\∀q,yD s.a z (hm (kf x))<=q->q<e->(q≠a->fD s (yC s.a z q)≠none)/\(q=a->c<=e)
 abW:∀q,a<q->q<c->fD s (yC s.a z q)≠none
 uni:∀d e x y,d<s.a->e<s.a->d≠a->e≠a->fD s (yC s.a z d)=some x->fD s (yC s.a z e)=some y->kf x=kf y->d=e
 Oj:(iq (s.set (yC s.a z a) none)).Perm L
theorem Tab.aBz(h:Tab kf hm s){j:Nat}{x:α}(hj:j<s.a)(hx:fD s j=some x):∃z a,WC kf hm z s a (a+1) (iq (s.set j none))/\yC s.a z a=j:=by
 obtain⟨z,hz,hf,hl⟩:=h.lin;have hne:j≠z:=by rintro rfl;rw[hf]at hx;cases hx
 have hlt:=Bg hz hj;have ej:=wJ hz hj;refine⟨z,yD s.a z j,⟨h.hom,hz,hf,?_,by omega,by omega,?_,fun q h1 h2=>absurd h1 (by omega),?_,?_⟩,ej⟩
 ·unfold yD;split<;>omega
 ·intro e y he hea hy
  obtain⟨h1,h2⟩:=hl e y he hy;exact⟨h1,fun q h3 h4=>⟨fun _=>h2 q h3 h4,fun h5=>by omega⟩⟩
 ·intro d e y w hd he hda hea hy hw hk
  exact JA hz hd he (h.uni _ _ y w (Bf (by omega)) (Bf (by omega)) hy hw hk)
 ·rw[ej]
theorem TD{s:List (Option α)}{z a e:Nat}(hz:z<s.a)(ha:a<s.a)(he:e<s.a)(v:Option α):fD (s.set (yC s.a z a) v) (yC s.a z e)=if a=e then v else fD s (yC s.a z e):=by
 rw[Fh _ _ _ _ (Bf (by omega))];by_cases h:a=e
 ·subst h;simp
 ·rw[if_neg h,if_neg (fun e2=>h (JA hz ha he e2))]
theorem WC.aBA{z a c:Nat}{L:List α}{x:α}(h:WC kf hm z s a c L)(hc:c<s.a)(hx:fD s (yC s.a z c)=some x)(hlt:a<yD s.a z (hm (kf x))):WC kf hm z s a (c+1) L:=by
 refine⟨h.hom,h.hz,h.free,h.a0,by have:=h.ac;omega,by omega,?_,?_,h.uni,h.Oj⟩
 ·intro e y he hea hy
  obtain⟨h1,h2⟩:=h.lin e y he hea hy;refine⟨h1,fun q h3 h4=>⟨(h2 q h3 h4).1,fun h5=>?_⟩⟩;have:=(h2 q h3 h4).2 h5;rcases aZ c e with h6|h6
  ·omega
  ·have:e=c:=by omega
   subst this;rw[hx]at hy;injection hy with hy;subst hy
   omega
 ·intro q h1 h2
  rcases aZ q c with h3|h3
  ·exact h.abW q h1 h3
  ·have:q=c:=by omega
   subst this;rw[hx];simp
theorem WC.move{z a c:Nat}{L:List α}{x:α}(h:WC kf hm z s a c L)(hc:c<s.a)(hx:fD s (yC s.a z c)=some x)(hle:yD s.a z (hm (kf x))<=a):WC kf hm z (s.set (yC s.a z a) (some x)) c (c+1) L:=by
 have ha:a<s.a:=by have:=h.ac;omega
 have hac:=h.ac;have hz:=h.hz;have ca:∀e,e<s.a->∀v:Option α,fD (s.set (yC s.a z a) v) (yC s.a z e)=if a=e then v else fD s (yC s.a z e):=fun e he v=>TD hz ha he v
 have z0:yC s.a z 0=z:=by rw[KL hz (by omega)];split<;>omega
 refine⟨by simpa using h.hom,by simpa using hz,?_,by omega,by omega,by simp;omega,?_,?_,?_,?_⟩
 ·have:=ca 0 (by omega) (some x)
  rw[z0,if_neg (by have:=h.a0;omega)]at this;rw[this];exact h.free
 ·intro e y he hec hy
  simp only[aV]at he hy ⊢;rw[ca e he]at hy;split at hy
  ·rename_i hae
   injection hy with hy;subst hy;subst hae
   refine⟨hle,fun q h3 h4=>⟨fun h5=>?_,fun h5=>by omega⟩⟩;rw[ca q (by omega),if_neg (by omega)];exact((h.lin c x hc (by omega) hx).2 q h3 (by omega)).1 (by omega)
  ·rename_i hae
   obtain⟨h1,h2⟩:=h.lin e y he (jl hae) hy;refine⟨h1,fun q h3 h4=>⟨fun h5=>?_,fun h5=>by omega⟩⟩;rw[ca q (by omega)];split
   ·simp
   ·exact(h2 q h3 h4).1 (by omega)
 ·intro q h1 h2;omega
 ·intro d e y w hd he hda hea hy hw hk
  simp only[aV]at hd he hy hw;rw[ca d hd]at hy;rw[ca e he]at hw;split at hy<;>split at hw
  ·omega
  ·injection hy with hy;subst hy
   have:=h.uni c e x w hc he (by omega) (by omega) hx hw hk;omega
  ·injection hw with hw;subst hw
   have:=h.uni d c y x hd hc (by omega) (by omega) hy hx hk;omega
  ·exact h.uni d e y w hd he (by omega) (by omega) hy hw hk
 ·have h1:=h.Oj
  have hci:=Bf (N:=s.a) (z:=z) (c:=c) (by omega);have hai:=Bf (N:=s.a) (z:=z) (c:=a) (by omega);have hne:yC s.a z a≠yC s.a z c:=fun e=>by have:=JA hz ha hc e;omega
  simp only[aV];rw[List.set_comm _ _ hne];refine List.Perm.trans (ze _ _ x (by simpa using hai)) ?_;rw[List.set_comm _ _ (jl hne)];refine List.Perm.trans (List.Perm.symm (Oh (s.set (yC s.a z a) none) _ x (by simpa using hci) ?_)) h1;rw[ca c hc,if_neg (by omega)];exact hx
theorem WC.done{z a c:Nat}{L:List α}(h:WC kf hm z s a c L)(hc:fD s (yC s.a z c)=none):Tab kf hm (s.set (yC s.a z a) none)/\(iq (s.set (yC s.a z a) none)).Perm L:=by
 have hcN:=h.cN;have hac:=h.ac;have ha:a<s.a:=by omega
 have hz:=h.hz;have ca:∀e,e<s.a->∀v:Option α,fD (s.set (yC s.a z a) v) (yC s.a z e)=if a=e then v else fD s (yC s.a z e):=fun e he v=>TD hz ha he v
 have z0:yC s.a z 0=z:=by rw[KL hz (by omega)];split<;>omega
 refine⟨⟨by simpa using h.hom,⟨z,by simpa using hz,?_,?_⟩,?_⟩,h.Oj⟩
 ·have:=ca 0 (by omega) none
  rw[z0]at this;rw[this];split
  ·rfl
  ·exact h.free
 ·intro e y he hy
  simp only[aV]at he hy ⊢;rw[ca e he]at hy;split at hy
  ·cases hy
  ·rename_i hae
   obtain⟨h1,h2⟩:=h.lin e y he (jl hae) hy;refine⟨h1,fun q h3 h4=>?_⟩;rw[ca q (by omega)];have hqa:a≠q:=by
    intro hq;have h5:=(h2 q h3 h4).2 hq.symm;rcases aZ c e with h6|h6
    ·exact(h2 c (by omega) h6).1 (by omega) hc
    ·have:e=c:=by omega
     subst this;rw[hc]at hy;cases hy
   rw[if_neg hqa];exact(h2 q h3 h4).1 (jl hqa)
 ·intro i k y w hi hk hy hw he
  simp only[aV]at hi hk;rw[<-wJ hz hi,ca _ (Bg hz hi)]at hy;rw[<-wJ hz hk,ca _ (Bg hz hk)]at hw;split at hy
  ·cases hy
  ·split at hw
   ·cases hw
   ·have:=h.uni _ _ y w (Bg hz hi) (Bg hz hk) (by omega) (by omega) hy hw he
    rw[<-wJ hz hi,<-wJ hz hk,this]
theorem abX{N z c d:Nat}(hz:z<N)(hd:d<=c)(hc:c<N):(yC N z c+N-yC N z d)%N=c-d:=by
 have h1:=Bf (N:=N) (z:=z) (c:=c) (by omega);have h2:=Bf (N:=N) (z:=z) (c:=d) (by omega);rw[wI (by omega)];rw[KL hz hc,KL hz (by omega)]
 repeat' split
 all_goals omega
theorem ah5{N z c y:Nat}(hz:z<N)(hy:y<N)(hd:yD N z y<=c)(hc:c<N):(yC N z c+N-y)%N=c-yD N z y:=by
 have:=abX hz hd hc
 rwa [wJ hz hy]at this
theorem abY{N z c:Nat}(hz:z<N)(hc:c<N):(yC N z c+1)%N=yC N z (c+1):=by unfold yC;rw[Nat.mod_add_mod,ng]
theorem Tab.new{N:Nat}(hN:0<N)(h:∀k,hm k<N):Tab kf hm (dS N (none:Option α)):=by
 have e:∀i,fD (dS N (none:Option α)) i=none:=by
  intro i;unfold fD;rw[au,List.getElem?_replicate];split<;>rfl
 refine⟨by simpa using h,⟨0,by simpa using hN,e 0,fun c x _ hx=>?_⟩,fun i j x y _ _ hx=>?_⟩<;>(rw[e]at hx;cases hx)
theorem TJ(N:Nat):iq (dS N (none:Option α))=[]:=by induction N<;>simp_all[iq,List.replicate_succ]
end
section
variable {α:Type} (lt:α->α->Bool)
def Zj(l:List α):Prop:=l.Pairwise fun x y=>lt x y=true
structure Il:Prop where
 irr:∀x,lt x x=false
 tr:∀x y z,lt x y=true->lt y z=true->lt x z=true
variable {lt}
theorem Il.asy(h:Il lt){x y:α}(h1:lt x y=true):lt y x=false:=by
 cases h2:lt y x with
 | false=>rfl
 | true=>have:=h.tr _ _ _ h1 h2;rw[h.irr]at this;cases this
theorem Zj.eq(h:Il lt):∀{l m:List α},Zj lt l->Zj lt m->l.Perm m->l=m
 | [],m,_,_,p=>(List.Perm.nil_eq p)
 | x::l,[],_,_,p=>by simp at p
 | x::l,y::m,hl,hm,p=>by
   obtain⟨a1,a2⟩:=gI.1 hl;obtain⟨b1,b2⟩:=gI.1 hm;have hx:x∈y::m:=p.subset (by simp);have hy:y∈x::l:=p.symm.subset (by simp);have e:x=y:=by
    rcases bC.1 hx with hx|hx
    ·exact hx
    ·rcases bC.1 hy with hy|hy
     ·exact hy.symm
     ·have:=h.asy (a1 y hy);rw[b1 x hx]at this;cases this
   subst e;rw[Zj.eq h a2 b2 (List.Perm.cons_inv p)]
def ins(lt:α->α->Bool)(f:α):List α->List α
 | []=>[f]
 | x::l=>if lt f x then f::x::l else x::ins lt f l
theorem Bh(f:α):∀l:List α,(ins lt f l).Perm (f::l)
 | []=>.refl _
 | x::l=>by
   unfold ins;split
   ·exact .refl _
   ·exact((Bh f l).cons x).trans (.swap f x l)
theorem agy(h:Il lt){f:α}:∀{l:List α},Zj lt l->(∀x∈l,lt f x=true\/lt x f=true)->Zj lt (ins lt f l)
 | [],_,_=>by simp[ins,Zj]
 | x::l,hl,ht=>by
   obtain⟨a1,a2⟩:=gI.1 hl;unfold ins;split
   ·rename_i hfx
    exact gI.2 ⟨fun y hy=>by
     rcases bC.1 hy with rfl|hy
     ·exact hfx
     ·exact h.tr _ _ _ hfx (a1 y hy),hl⟩
   ·rename_i hfx
    have hxf:lt x f=true:=(ht x (by simp)).resolve_left hfx;refine gI.2 ⟨fun y hy=>?_,agy h a2 fun y hy=>ht y (by simp[hy])⟩;rcases bC.1 ((Bh f l).subset hy)with rfl|hy
    ·exact hxf
    ·exact a1 y hy
theorem abZ{f:α}:∀{l:List α},(∀x∈l,lt f x=false)->ins lt f l=l++[f]
 | [],_=>rfl
 | x::l,h=>by
   unfold ins;rw[if_neg (by rw[h x (by simp)];exact Bool.false_ne_true),abZ fun y hy=>h y (by simp[hy])];rfl
theorem Zj.sub{l m:List α}(h:Zj lt l)(hs:m.Sublist l):Zj lt m:=List.Pairwise.sublist hs h
theorem Zj.aou{x:α}{l:List α}(h:Zj lt (x::l)){y:α}(hy:y∈l):lt x y=true:=(gI.1 h).1 y hy
def least(lt:α->α->Bool)(b:Option α)(x:α):Option α:=match b with|none=>some x|some y=>if lt x y then some x else some y
theorem ab0(h:Il lt){m:α}:∀(l:List α)(b:Option α),(m∈l\/b=some m)->(∀x∈l,x=m\/lt m x=true)->(∀y,b=some y->y=m\/lt m y=true)->l.foldl (least lt) b=some m
 | [],b,h1,_,_=>by simpa using h1
 | x::l,b,h1,h2,h3=>by
   rw[jU];refine ab0 h l _ ?_ (fun y hy=>h2 y (by simp[hy])) ?_
   ·rcases h1 with h1|rfl
    ·rcases bC.1 h1 with rfl|h1
     ·right
      cases b with
      | none=>rfl
      | some y=>
        unfold least;rcases h3 y rfl with rfl|h4
        ·simp
        ·simp[h4]
     ·exact .a h1
    ·right
     unfold least;rcases h2 x (by simp)with rfl|h4
     ·simp
     ·simp[h.asy h4]
   ·intro y hy
    cases b with
    | none=>injection hy with hy;subst hy;exact h2 x (by simp)
    | some z=>
      simp only[least]at hy;split at hy<;>(injection hy with hy;subst hy)
      ·exact h2 x (by simp)
      ·exact h3 z rfl
end
def KR(x k:Nat):Nat:=x*2^k%18446744073709551616 ||| x/2^(64-k)
theorem aww(a b:Nat)(ha:a<18446744073709551616)(hb:b<18446744073709551616):a ||| b<18446744073709551616:=Nat.or_lt_two_pow (n:=64) ha hb
theorem xR(a b:Nat)(ha:a<18446744073709551616)(hb:b<18446744073709551616):a ^^^ b<18446744073709551616:=Nat.xor_lt_two_pow (n:=64) ha hb
theorem aov(x k:Nat)(hx:x<18446744073709551616):KR x k<18446744073709551616:=aww _ _ (fC _ (by decide)) (Nat.lt_of_le_of_lt (Nat.div_le_self _ _) hx)
theorem ab1(n:Nat):jo.wrap (n:Int)=((n%18446744073709551616:Nat):Int):=by
 rw[jR];omega
theorem ah6(x k:Nat)(hx:x<18446744073709551616):bits .or .c (jo.wrap ((x:Int)*2^k)) ((x:Int)/2^(64-k))=((KR x k:Nat):Int):=by
 have h1:(x:Int)*2^k=((x*2^k:Nat):Int):=by simp
 have h2:(x:Int)/2^(64-k)=((x/2^(64-k):Nat):Int):=by simp
 rw[h1,h2,ab1,bits_or_u64_nat _ _ (fC _ (by decide)) (Nat.lt_of_le_of_lt (Nat.div_le_self _ _) hx)];rfl
theorem Ec(x k:Nat)(hx:x<18446744073709551616)(hk:k∈[13,16,17,21,32])(W:ak):aQ ah 254 #[.b .c x,.b .a k] W fun e W'=>e=.a (.b .c (KR x k:Nat))/\W=W':=by
 have h:=ah6 x k hx;have H1:bits .and .c (k:Int) 63=(k:Int):=(by decide +kernel:∀k∈([13,16,17,21,32]:List Nat),bits .and .c (k:Int) 63=(k:Int)) k hk;have H2:jo.wrap (64-(k:Int))=((64-k:Nat):Int):=(by decide +kernel:∀k∈([13,16,17,21,32]:List Nat),jo.wrap (64-(k:Int))=((64-k:Nat):Int)) k hk;have hk1:(k:Int)<64:=by simp at hk;omega
 have hk2:0<k:=by simp at hk;omega
 go_enter Tryz.func254,Tryz.ntmps254;go_wp2;go_ret;exact⟨by rw[<-h];rfl,rfl⟩
structure S4 where
 a:Nat
 b:Nat
 c:Nat
 d:Nat
def S4.ay(s:S4):Array aB:=#[.b .c s.a,.b .c s.b,.b .c s.c,.b .c s.d]
@[go_sem]theorem S4.pX(s:S4):s.ay[0]? = some (.b .c s.a):=rfl
@[go_sem]theorem S4.DY(s:S4):s.ay[1]? = some (.b .c s.b):=rfl
@[go_sem]theorem S4.Xd(s:S4):s.ay[2]? = some (.b .c s.c):=rfl
@[go_sem]theorem S4.agz(s:S4):s.ay[3]? = some (.b .c s.d):=rfl
def S4.ok(s:S4):Prop:=s.a<18446744073709551616/\s.b<18446744073709551616/\s.c<18446744073709551616/\s.d<18446744073709551616
def addN(a b:Nat):Nat:=(a+b)%18446744073709551616
def J5(s:S4):S4:=
 let a:=addN s.a s.b
 let b:=KR s.b 13 ^^^ a
 let a:=KR a 32
 let c:=addN s.c s.d
 let d:=KR s.d 16 ^^^ c
 let a:=addN a d
 let d:=KR d 21 ^^^ a
 let c:=addN c b
 let b:=KR b 17 ^^^ c
 ⟨a,b,KR c 32,d⟩
theorem aow(a b:Nat):addN a b<18446744073709551616:=fC _ (by decide)
theorem Fj(a b:Nat):jo.wrap ((a:Int)+(b:Int))=((addN a b:Nat):Int):=by rw[<-Int.natCast_add,ab1];rfl
theorem pJ(a b:Nat)(ha:a<18446744073709551616)(hb:b<18446744073709551616):bits .xor .c (a:Int) (b:Int)=((a ^^^ b:Nat):Int):=bits_xor_u64_nat _ _ ha hb
theorem Xp(s:S4)(h:s.ok):∃a1 b1 a2 c1 d1 a3 d2 c2 b2 c3 r13 r16 r21 r17:Nat,J5 s=⟨a3,b2,c3,d2⟩ /\
 jo.wrap ((s.a:Int)+(s.b:Int))=(a1:Int)/\a1<18446744073709551616/\KR s.b 13=r13/\bits .xor .c (r13:Int) (a1:Int)=(b1:Int)/\b1<18446744073709551616/\KR a1 32=a2/\a2<18446744073709551616 /\
 jo.wrap ((s.c:Int)+(s.d:Int))=(c1:Int)/\c1<18446744073709551616/\KR s.d 16=r16/\bits .xor .c (r16:Int) (c1:Int)=(d1:Int)/\d1<18446744073709551616 /\
 jo.wrap ((a2:Int)+(d1:Int))=(a3:Int)/\a3<18446744073709551616/\KR d1 21=r21/\bits .xor .c (r21:Int) (a3:Int)=(d2:Int)/\d2<18446744073709551616 /\
 jo.wrap ((c1:Int)+(b1:Int))=(c2:Int)/\c2<18446744073709551616/\KR b1 17=r17/\bits .xor .c (r17:Int) (c2:Int)=(b2:Int)/\b2<18446744073709551616/\KR c2 32=c3/\c3<18446744073709551616:=by
 obtain⟨h1,h2,h3,h4⟩:=h;have R:=aov;have A:=aow;have X:=xR;refine⟨_,_,_,_,_,_,_,_,_,_,_,_,_,_,rfl,Fj _ _,A _ _,rfl,pJ _ _ (R _ _ h2) (A _ _),X _ _ (R _ _ h2) (A _ _),rfl,R _ _ (A _ _),Fj _ _,A _ _,rfl,pJ _ _ (R _ _ h4) (A _ _),X _ _ (R _ _ h4) (A _ _),Fj _ _,A _ _,rfl,
  pJ _ _ (R _ _ (X _ _ (R _ _ h4) (A _ _))) (A _ _),X _ _ (R _ _ (X _ _ (R _ _ h4) (A _ _))) (A _ _),Fj _ _,A _ _,rfl,pJ _ _ (R _ _ (X _ _ (R _ _ h2) (A _ _))) (A _ _),X _ _ (R _ _ (X _ _ (R _ _ h2) (A _ _))) (A _ _),rfl,R _ _ (A _ _)⟩
theorem dL.num{W:ak}{p:Nat}{s:S4}(h:dL W p s.ay):W.b ⟨p,0,none⟩=some (.b .c s.a)/\W.b ⟨p,1,none⟩=some (.b .c s.b)/\W.b ⟨p,2,none⟩=some (.b .c s.c)/\W.b ⟨p,3,none⟩=some (.b .c s.d)/\(∀j,W.frozen? ⟨p,j,none⟩=false):=by
 obtain⟨h1,h2,_⟩:=h.K;exact⟨h1 0,h1 1,h1 2,h1 3,h2⟩
def zD{α:Type}(f:α->α):Nat->α->α
 | 0,s=>s
 | n+1,s=>zD f n (f s)
theorem agA{α:Type}(f:α->α)(n:Nat)(s:α):zD f (n+1) s=zD f n (f s):=rfl
theorem agB{α:Type}(f:α->α)(s:α):zD f 0 s=s:=rfl
theorem agC(s:S4)(h:s.ok):(J5 s).ok:=by
 obtain⟨a1,b1,a2,c1,d1,a3,d2,c2,b2,c3,r13,r16,r21,r17,h0,e1,l1,e2,e3,l3,e4,l4,e5,l5,e6,e7,l7,e8,l8,e9,e10,l10,e11,l11,e12,e13,l13,e14,l14⟩:=Xp s h;rw[h0];exact⟨l8,l13,l14,l10⟩
theorem agD(w:ak)(row:Option Nat):w.d w row:=⟨rfl,rfl,rfl,av _,fun _ _ _=>rfl⟩
theorem dL.p0{W:ak}{p a b c d:Nat}(h:dL W p (S4.mk a b c d).ay)(x:Nat):dL (W.F ⟨p,0,none⟩ (.b .c x)) p (S4.mk x b c d).ay:=h.eH 0 _
theorem dL.p1{W:ak}{p a b c d:Nat}(h:dL W p (S4.mk a b c d).ay)(x:Nat):dL (W.F ⟨p,1,none⟩ (.b .c x)) p (S4.mk a x c d).ay:=h.eH 1 _
theorem dL.p2{W:ak}{p a b c d:Nat}(h:dL W p (S4.mk a b c d).ay)(x:Nat):dL (W.F ⟨p,2,none⟩ (.b .c x)) p (S4.mk a b x d).ay:=h.eH 2 _
theorem dL.p3{W:ak}{p a b c d:Nat}(h:dL W p (S4.mk a b c d).ay)(x:Nat):dL (W.F ⟨p,3,none⟩ (.b .c x)) p (S4.mk a b c x).ay:=h.eH 3 _
theorem aew(n:Nat)(hn:n<=4)(p:Nat)(s:S4)(hs:s.ok)(W:ak)(hb:dL W p s.ay):aQ ah 183 #[.c (some ⟨p,0,none⟩),.b .a n] W fun e W'=>e=.a (.J #[])/\dL W' p (zD J5 n s).ay/\W.d W' (some p):=by
 have HB:=ab hb;clear hb;go_enter Tryz.func183,Tryz.ntmps183;go_wp2;go_loopw [5] (fun s5 wr=>∃(k:Nat)(x:S4),k<=n/\s5=.b .a k/\x.ok/\dL wr p x.ay/\W.d wr (some p)/\zD J5 n s=zD J5 (n-k) x) (fun s5 _=>n-(intOf s5).e)
 case atStart=>exact⟨0,s,by omega,rfl,hs,HB.i,agD _ _,by rw[Nat.sub_zero]⟩
 case round=>
  obtain⟨k,x,hk,rfl,hx,hbx,hg,xS⟩:=hrel;have HI:=ab xS;have HG:=ab hg;have HX:=ab hbx;clear hg xS hbx;by_cases hlt:k<n
  ·obtain⟨a1,b1,a2,c1,d1,a3,d2,c2,b2,c3,r13,r16,r21,r17,h0,e1,l1,e2,e3,l3,e4,l4,e5,l5,e6,e7,l7,e8,l8,e9,e10,l10,e11,l11,e12,e13,l13,e14,l14⟩:=Xp x hx
   have HE:=ab (show zD J5 n s=zD J5 (n-(k+1)) (J5 x)by rw[HI.i,show n-k=n-(k+1)+1 by omega,agA]);rw[h0]at HE;have OK:=ab (show(S4.mk a3 b2 c3 d2).ok by rw[<-h0];exact agC x hx);obtain⟨a,b,c,d⟩:=x;obtain⟨y1,y2,y3,y4,y5⟩:=HX.i.num;obtain⟨k1,k2,k3,k4⟩:=hx;simp only at e1 e2 e3 e4 e5 e6 e7 e8 e9 e10 e11 e12 e13 e14 y1 y2 y3 y4 k1 k2 k3 k4;have hlt2:(k:Int)<n:=by omega
   clear h0 HI;go_wp2_with fail;go_region;have X0:=ab ((HX.i.p0 a1).drew);have G0:=ab (Ao (xM HG.i (p:=⟨p,0,none⟩) (.a rfl) (.b .c (a1:Nat))));generalize(wr.F ⟨p,0,none⟩ (.b .c (a1:Nat))).drew=w0 at X0 G0 ⊢;clear y1 y2 y3 y4 y5 HX HG;obtain⟨y1,y2,y3,y4,y5⟩:=X0.i.num;simp only at y1 y2 y3 y4;have C:=ab (fun W=>e2 ▸ Ec b 13 k2 (by simp) W);go_wp2_with fail;go_cut []from 18 to 30 (fun wx=>dL wx p (S4.mk a1 b1 c d).ay/\W.d wx (some p))
   case first=>
    go_region_law (first|(go_simp;(go_at_call 254;refine(C.i _).g ?_;rintro e w' ⟨rfl,rfl⟩)))
    all_goals
     go_wp2_with fail;go_meet
     case rel=>exact⟨(X0.i.p1 b1).drew,Ao (xM G0.i (p:=⟨p,1,none⟩) (.a rfl) (.b .c (b1:Nat)))⟩
   obtain⟨X1,G1⟩:=hcut;have X1:=ab X1;have G1:=ab G1;generalize wc=w1 at X1 G1 ⊢;clear y1 y2 y3 y4 y5 X0 G0;obtain⟨y1,y2,y3,y4,y5⟩:=X1.i.num;simp only at y1 y2 y3 y4;have C:=ab (fun W=>e4 ▸ Ec a1 32 l1 (by simp) W);go_wp2_with (go_at_call 254;refine(C.i _).g ?_;rintro e w' ⟨rfl,rfl⟩);have X2:=ab ((X1.i.p0 a2));have G2:=ab ((xM G1.i (p:=⟨p,0,none⟩) (.a rfl) (.b .c (a2:Nat))));generalize(w1.F ⟨p,0,none⟩ (.b .c (a2:Nat)))=w2 at X2 G2 ⊢;clear y1 y2 y3 y4 y5 X1 G1;obtain⟨y1,y2,y3,y4,y5⟩:=X2.i.num;simp only at y1 y2 y3 y4;go_wp2_with fail;go_region;have X3:=ab ((X2.i.p2 c1).drew);have G3:=ab (Ao (xM G2.i (p:=⟨p,2,none⟩) (.a rfl) (.b .c (c1:Nat))));generalize(w2.F ⟨p,2,none⟩ (.b .c (c1:Nat))).drew=w3 at X3 G3 ⊢;clear y1 y2 y3 y4 y5 X2 G2;obtain⟨y1,y2,y3,y4,y5⟩:=X3.i.num;simp only at y1 y2 y3 y4;have C:=ab (fun W=>e6 ▸ Ec d 16 k4 (by simp) W);go_wp2_with fail;go_cut []from 50 to 62 (fun wx=>dL wx p (S4.mk a2 b1 c1 d1).ay/\W.d wx (some p))
   case first=>
    go_region_law (first|(go_simp;(go_at_call 254;refine(C.i _).g ?_;rintro e w' ⟨rfl,rfl⟩)))
    all_goals
     go_wp2_with fail;go_meet
     case rel=>exact⟨(X3.i.p3 d1).drew,Ao (xM G3.i (p:=⟨p,3,none⟩) (.a rfl) (.b .c (d1:Nat)))⟩
   obtain⟨X4,G4⟩:=hcut;have X4:=ab X4;have G4:=ab G4;generalize wc=w4 at X4 G4 ⊢;clear y1 y2 y3 y4 y5 X3 G3;obtain⟨y1,y2,y3,y4,y5⟩:=X4.i.num;simp only at y1 y2 y3 y4;go_wp2_with fail;go_region;have X5:=ab ((X4.i.p0 a3).drew);have G5:=ab (Ao (xM G4.i (p:=⟨p,0,none⟩) (.a rfl) (.b .c (a3:Nat))));generalize(w4.F ⟨p,0,none⟩ (.b .c (a3:Nat))).drew=w5 at X5 G5 ⊢;clear y1 y2 y3 y4 y5 X4 G4;obtain⟨y1,y2,y3,y4,y5⟩:=X5.i.num;simp only at y1 y2 y3 y4;have C:=ab (fun W=>e9 ▸ Ec d1 21 l7 (by simp) W);go_wp2_with fail;go_cut []from 74 to 86 (fun wx=>dL wx p (S4.mk a3 b1 c1 d2).ay/\W.d wx (some p))
   case first=>
    go_region_law (first|(go_simp;(go_at_call 254;refine(C.i _).g ?_;rintro e w' ⟨rfl,rfl⟩)))
    all_goals
     go_wp2_with fail;go_meet
     case rel=>exact⟨(X5.i.p3 d2).drew,Ao (xM G5.i (p:=⟨p,3,none⟩) (.a rfl) (.b .c (d2:Nat)))⟩
   obtain⟨X6,G6⟩:=hcut;have X6:=ab X6;have G6:=ab G6;generalize wc=w6 at X6 G6 ⊢;clear y1 y2 y3 y4 y5 X5 G5;obtain⟨y1,y2,y3,y4,y5⟩:=X6.i.num;simp only at y1 y2 y3 y4;go_wp2_with fail;go_region;have X7:=ab ((X6.i.p2 c2).drew);have G7:=ab (Ao (xM G6.i (p:=⟨p,2,none⟩) (.a rfl) (.b .c (c2:Nat))));generalize(w6.F ⟨p,2,none⟩ (.b .c (c2:Nat))).drew=w7 at X7 G7 ⊢;clear y1 y2 y3 y4 y5 X6 G6;obtain⟨y1,y2,y3,y4,y5⟩:=X7.i.num;simp only at y1 y2 y3 y4;have C:=ab (fun W=>e12 ▸ Ec b1 17 l3 (by simp) W);go_wp2_with fail;go_cut []from 98 to 110 (fun wx=>dL wx p (S4.mk a3 b2 c2 d2).ay/\W.d wx (some p))
   case first=>
    go_region_law (first|(go_simp;(go_at_call 254;refine(C.i _).g ?_;rintro e w' ⟨rfl,rfl⟩)))
    all_goals
     go_wp2_with fail;go_meet
     case rel=>exact⟨(X7.i.p1 b2).drew,Ao (xM G7.i (p:=⟨p,1,none⟩) (.a rfl) (.b .c (b2:Nat)))⟩
   obtain⟨X8,G8⟩:=hcut;have X8:=ab X8;have G8:=ab G8;generalize wc=w8 at X8 G8 ⊢;clear y1 y2 y3 y4 y5 X7 G7;obtain⟨y1,y2,y3,y4,y5⟩:=X8.i.num;simp only at y1 y2 y3 y4;have C:=ab (fun W=>e14 ▸ Ec c2 32 l11 (by simp) W);go_wp2_with (go_at_call 254;refine(C.i _).g ?_;rintro e w' ⟨rfl,rfl⟩);have X9:=ab ((X8.i.p2 c3));have G9:=ab ((xM G8.i (p:=⟨p,2,none⟩) (.a rfl) (.b .c (c3:Nat))));generalize(w8.F ⟨p,2,none⟩ (.b .c (c3:Nat)))=w9 at X9 G9 ⊢;clear y1 y2 y3 y4 y5 X8 G8;go_wp2;go_roundw
   case rel=>exact⟨k+1,_,by omega,by go_num,OK.i,X9.i,G9.i,HE.i⟩
   case measure=>simp[intOf]<;>omega
  ·have hlt2:¬(k:Int)<n:=by omega
   obtain rfl:k=n:=by omega
   have HI:=ab (show zD J5 k s=x by rw[HI.i,Nat.sub_self,agB]);go_wp2;go_end0;exact⟨rfl,by rw[HI.i];exact HX.i,HG.i⟩
def leN(l:List UInt8):Nat:=oC l.reverse
theorem aex(l:List UInt8):leN l<256^l.a:=by have:=Jr l.reverse;rwa [List.length_reverse]at this
theorem JB(l:List UInt8)(h:l.a<=8):leN l<18446744073709551616:=eO (aex l) (nO (by decide) h:256^l.a<=256^8)
def Ol:Nat->List UInt8->Nat->List Nat
 | 0,l,e=>[leN l+e*72057594037927936]
 | k+1,l,e=>leN (l.d 8)::Ol k (l.f 8) e
def asC(s:S4)(n:Nat):S4:=⟨s.a ^^^ n,s.b,s.c,s.d⟩
def akS(s:S4)(n:Nat):S4:=⟨s.a,s.b,s.c,s.d ^^^ n⟩
def akT(s:S4)(n:Nat):S4:=⟨s.a,s.b,s.c ^^^ n,s.d⟩
def asD(s:S4):Nat:=s.a ^^^ s.b ^^^ s.c ^^^ s.d
def TL(s:S4)(n:Nat):S4:=asC (zD J5 2 (akS s n)) n
def aox(k:Vector UInt8 16):S4:=⟨leN (k.a.d 8) ^^^ 8317987319222330741,leN (k.a.f 8) ^^^ 7237128888997146477,leN (k.a.d 8) ^^^ 7816392313619706465,leN (k.a.f 8) ^^^ 8387220255154660723⟩
def akU(s:S4):Nat:=asD (zD J5 4 (akT s 255))
def xU(k:Vector UInt8 16)(l:List UInt8):Nat:=akU ((Ol (l.a/8) l (l.a%256)).foldl TL (aox k))
theorem LZ(n:Nat):∀s:S4,s.ok->(zD J5 n s).ok:=by
 induction n with
 | zero=>intro s h;rw[agB];exact h
 | succ n ih=>intro s h;rw[agA];exact ih _ (agC s h)
theorem aoy{s:S4}(h:s.ok){n:Nat}(hn:n<18446744073709551616):(asC s n).ok:=⟨xR _ _ h.1 hn,h.2.1,h.2.2.1,h.2.2.2⟩
theorem agE{s:S4}(h:s.ok){n:Nat}(hn:n<18446744073709551616):(akS s n).ok:=⟨h.1,h.2.1,h.2.2.1,xR _ _ h.2.2.2 hn⟩
theorem Zk{s:S4}(h:s.ok){n:Nat}(hn:n<18446744073709551616):(akT s n).ok:=⟨h.1,h.2.1,xR _ _ h.2.2.1 hn,h.2.2.2⟩
theorem aoz{s:S4}(h:s.ok):asD s<18446744073709551616:=xR _ _ (xR _ _ (xR _ _ h.1 h.2.1) h.2.2.1) h.2.2.2
theorem Zl{s:S4}(h:s.ok){n:Nat}(hn:n<18446744073709551616):(TL s n).ok:=aoy (LZ 2 _ (agE h hn)) hn
theorem agF(k:Vector UInt8 16):(aox k).ok:=by
 have h1:=JB (k.a.d 8) (by simp);have h2:=JB (k.a.f 8) (by simp);exact⟨xR _ _ h1 (by decide),xR _ _ h2 (by decide),xR _ _ h1 (by decide),xR _ _ h2 (by decide)⟩
theorem Xq:∀(k:Nat)(l:List UInt8)(e:Nat),l.a/8=k->e<256->∀n∈Ol k l e,n<18446744073709551616
 | 0,l,e,h,he,n,hn=>by
   have h1:=aex l;have h2:256^l.a<=256^7:=nO (by decide) (by omega);simp only[Ol,List.mem_singleton]at hn;omega
 | k+1,l,e,h,he,n,hn=>by
   rcases bC.1 hn with rfl|hn
   ·exact JB _ (by simp;omega)
   ·exact Xq k (l.f 8) e (by simp;omega) he n hn
def Zm(w:ak)(B:Nat)(A:Option aT)(n:Nat)(ls:List (List UInt8)):Prop:=Rd w B 1 A n (ls.map fun s=>.g (bU s))
theorem Zm.len{w:ak}{B n:Nat}{A:Option aT}{ls:List (List UInt8)}(h:Zm w B A n ls):ls.a=n:=by have:=h.1;simpa using this
theorem Zm.fD{w:ak}{B n:Nat}{A:Option aT}{ls:List (List UInt8)}(h:Zm w B A n ls){k:Nat}(hk:k<n):∃a,A=some a/\a.block<B/\w.b (a.add k)=some (.g (bU (ls.c k []))):=by
 obtain⟨a,u,e,hb,hu,hc⟩:=Rd.pick h hk;refine⟨a,e,hb,?_⟩;rw[hc];have hl:=h.len;rw[jA,aC (by omega)]at hu;simp only[mZ,tQ]at hu;rw[<-hu,au,aC (by omega)];rfl
def sJ(ls:List (List UInt8))(s:List UInt8):Bool:=(dV ls.a).any fun i=>ls.c i []==s
theorem akV{ls:List (List UInt8)}{s:List UInt8}{i:Nat}(hi:i<ls.a)(h:ls.c i []=s):sJ ls s=true:=by
 unfold sJ;rw[List.any_eq_true];exact⟨i,eu.2 hi,by rw[h];simp⟩
theorem akW{ls:List (List UInt8)}{s:List UInt8}(h:∀i,i<ls.a->ls.c i []≠s):sJ ls s=false:=by
 unfold sJ;rw[List.any_eq_false];intro i hi;simpa using h i (eu.1 hi)
theorem aey(ls:List (List UInt8))(s:List UInt8)(A:Option aT)(c:Nat)(w:ak)(hR:Zm w w.a.j A ls.a ls)(hn:ls.a<4611686018427387904):
 aQ ah 172 #[.a A ls.a c,.g (bU s)] w fun e w'=>∃r:Int,e=.a (.b .a r)/\decide (0<=r)=sJ ls s/\w=w':=by
 have HR:=ab hR;clear hR;obtain⟨n,hnl⟩:=dw ls.a;rw[<-hnl]at HR hn ⊢;have HN:=ab hnl;clear hnl;go_enter Tryz.func172,Tryz.ntmps172;go_wp2;go_loop [8] (fun s8=>∃i:Nat,i<=n/\s8=.b .a i/\∀k,k<i->ls.c k []≠s) (fun s8=>n-(intOf s8).e)
 case atStart=>exact⟨0,by omega,rfl,fun k hk=>by omega⟩
 case round=>
  obtain⟨i,hin,rfl,hno⟩:=hrel;have EZ:=ab hno;clear hno;by_cases hlt:i<n
  ·have hi:(i:Int)<n:=by omega
   obtain⟨a,rfl,hbb,hc⟩:=HR.i.fD hlt;clear hbb;obtain⟨pn,hp⟩:=dw (ls.c i []);rw[<-hp]at hc;have HP:=ab hp;clear hp;by_cases hq:pn=s
   ·have hbq:(s==pn)=true:=by rw[hq];simp
    have hpos:sJ ls s=true:=akV (i:=i) (by have:=HN.i;omega) (by rw[<-HP.i,hq]);have TM:=ab hpos;clear hpos hq;go_wp2;go_ret;exact⟨_,rfl,by rw[TM.i];simp,rfl⟩
   ·have hbq:(s==pn)=false:=by simpa using(fun h:s=pn=>hq h.symm)
    have HQ:=ab hq;clear hq;go_wp2;go_round
    case rel=>exact⟨i+1,by omega,by go_num,fun k hk=>by
     by_cases hki:k=i
     ·rw[hki,<-HP.i];exact HQ.i
     ·exact EZ.i k (by omega)⟩
    case measure=>simp[intOf]<;>omega
  ·obtain rfl:i=n:=by omega
   have hpos:sJ ls s=false:=akW (fun k hk=>EZ.i k (by have:=HN.i;omega));have TM:=ab hpos;clear hpos;have hd:decide ((i:Int)<i)=false:=by simp
   go_wp2;go_ret;exact⟨_,rfl,by rw[TM.i];simp,rfl⟩
theorem Ma(ls:List (List UInt8))(s:List UInt8)(A:Option aT)(c:Nat)(w:ak)(hR:Zm w w.a.j A ls.a ls)(hn:ls.a<4611686018427387904):
 aQ ah 87 #[.a A ls.a c,.g (bU s)] w fun e w'=>e=.a (.e (sJ ls s))/\w=w':=by
 have HR:=ab hR;clear hR;go_enter Tryz.func87,Tryz.ntmps87;go_wp2_with (go_at_call 172;refine(aey ls s A c _ HR.i hn).g ?_;rintro e w' ⟨r,rfl,hr,rfl⟩;have HD:=ab hr;clear hr);go_ret;exact⟨by rw[<-HD.i];rfl,rfl⟩
def vE(a b:Nat):Nat:=if a+b>65535 then a+b-65535 else a+b
theorem Fp{a b:Nat}(h:a<=65535)(g:b<=65535):vE a b<=65535:=by unfold vE;split<;>omega
def words:List UInt8->List Nat
 | []=>[]
 | [a]=>[256*a.e]
 | a::b::l=>(256*a.e+b.e)::words l
def Mc(n:Nat)(l:List UInt8):Nat:=(words l).foldl vE n
def wU(l:List UInt8):Nat:=65535-Mc 0 l
def inS(s:Nat×Bool)(c:UInt8):Nat×Bool:=(vE s.1 (if s.2 then c.e else 256*c.e),!s.2)
theorem akX(n a b:Nat)(hn:n<=65535)(ha:a<256)(hb:b<256):vE (vE n (256*a)) b=vE n (256*a+b):=by
 unfold vE;repeat' split
 all_goals omega
theorem Xr:∀(l:List UInt8)(n:Nat),n<=65535->l.foldl inS (n,false)=(Mc n l,decide (l.a%2=1))
 | [],n,_=>rfl
 | [a],n,h=>by simp[inS,Mc,words]
 | a::b::l,n,h=>by
   have ha:=a.a;have hb:=b.a;have:=Xr l (vE n (256*a.e+b.e)) (Fp h (by omega));simp only[jU,inS,if_neg Bool.false_ne_true,Bool.not_false,if_pos,nV,if_true,bB,akX n _ _ h ha hb,this,Prod.mk.injEq];refine⟨by simp[Mc,words],by congr 1;rw[eq_iff_iff];omega⟩
theorem Zn:∀(l:List UInt8)(n:Nat),n<=65535->Mc n l<=65535
 | [],n,h=>h
 | [a],n,h=>by have:=a.a;exact Fp h (by omega)
 | a::b::l,n,h=>by
   have ha:=a.a;have hb:=b.a;exact Zn l (vE n (256*a.e+b.e)) (Fp h (by omega))
theorem asE(l:List UInt8):∀s:Nat×Bool,s.1<=65535->(l.foldl inS s).1<=65535:=by
 induction l with
 | nil=>exact fun s h=>h
 | cons c l ih=>
   intro s h;have:=c.a;exact ih _ (Fp h (by split<;>omega))
def Fq(c m n:Nat):Nat:=65535-vE (vE (65535-c) (65535-m)) n
def om:Nat->List UInt8->List UInt8->Nat
 | c,a::b::l,x::y::m=>om (Fq c (256*a.e+b.e) (256*x.e+y.e)) l m
 | c,_,_=>c
theorem TN(c m n:Nat):Fq c m n<=65535:=by unfold Fq;omega
theorem awx(x:Nat)(hx:x<4294967296):bits .and .u32 (x:Int) 65535=((x%65536:Nat):Int):=by
 have h1:(fT 32 (x:Int)).e=x:=by
  rw[lQ,nC];exact fK (by omega)
 show IntKind.u32.wrap ((fT 32 (x:Int) &&& fT 32 65535).e:Int)=_;rw[BitVec.toNat_and,h1,show(fT 32 65535).e=2^16-1 by decide,Nat.and_two_pow_sub_one_eq_mod];simp[vK,nQ,lN];omega
theorem agH(x:Nat)(hx:x<=65535):bits .xor .u16 Dk.max (x:Int)=((65535-x:Nat):Int):=by
 have h1:fT 16 (x:Int)=Gw 16 x:=lQ _ _;show Dk.wrap ((fT 16 65535 ^^^ fT 16 (x:Int)).e:Int)=_;rw[h1,show fT 16 65535=BitVec.allOnes 16 by decide,BitVec.allOnes_xor,BitVec.toNat_not,nC,fK (by omega)];simp[vK,nQ,lN];omega
theorem awy(a c:Nat)(ha:a<256)(hc:c<256):bits .or .u16 (256*(a:Int)) (c:Int)=((256*a+c:Nat):Int):=by
 have h1:fT 16 (256*(a:Int))=Gw 16 (256*a):=by rw[show(256*(a:Int))=((256*a:Nat):Int)by omega];exact lQ _ _
 have h2:fT 16 (c:Int)=Gw 16 c:=lQ _ _;show Dk.wrap ((fT 16 (256*(a:Int)) ||| fT 16 (c:Int)).e:Int)=_;rw[h1,h2,BitVec.toNat_or,nC,nC,fK (by omega),fK (by omega),show 256*a=a <<< 8 by rw[mF];omega,<-Nat.shiftLeft_add_eq_or_of_lt (by omega)];rw[mF];simp[vK,nQ,lN];omega
section
variable (a b c m n:Nat) (W:ak)
theorem Md(ha:a<=65535)(hb:b<=65535):aQ ah 369 #[.b .u32 a,.b .u32 b] W fun e W'=>e=.a (.b .u32 (vE a b:Nat))/\W=W':=by
 have h:=awx (a+b) (by omega);rw[Int.natCast_add]at h;have H:=ab (show((a:Int)+(b:Int))%65536+((a:Int)+(b:Int))/65536=(vE a b:Nat)by unfold vE;split<;>omega);go_enter Tryz.func369,Tryz.ntmps369;go_wp2;go_ret;exact⟨by rw[<-H.i];rfl,rfl⟩
theorem ab2(ha:a<=65535)(hb:b<=65535):aQ ah 258 #[.b .a a,.b .a b] W fun e W'=>e=.a (.b .a (vE a b:Nat))/\W=W':=by
 go_enter Tryz.func258,Tryz.ntmps258;go_wp2
 all_goals(go_ret;refine⟨?_,rfl⟩;simp_all[vE]<;>(repeat' split)<;>omega)
theorem aez(hc:c<=65535)(hm:m<=65535)(hn:n<=65535):aQ ah 352 #[.b .u16 c,.b .u16 m,.b .u16 n] W fun e W'=>e=.a (.b .u16 (Fq c m n:Nat))/\W=W':=by
 have h1:=agH c hc;have h2:=agH m hm;have l1:=Fp (show 65535-c<=65535 by omega) (show 65535-m<=65535 by omega);have l2:=Fp l1 hn;have h3:=agH _ l2;have C1:=ab (fun W=>Md (65535-c) (65535-m) W (by omega) (by omega));have C2:=ab (fun W=>Md (vE (65535-c) (65535-m)) n W l1 hn);have H:=ab (show Fq c m n=65535-vE (vE (65535-c) (65535-m)) n from rfl);generalize vE (vE (65535-c) (65535-m)) n=z at *;generalize vE (65535-c) (65535-m)=y at *;have hz:Dk.wrap (z:Int)=z:=by simp[vK,nQ,lN];omega
 have q1:((65535-c:Nat):Int)%4294967296=((65535-c:Nat):Int):=by omega
 have q2:((65535-m:Nat):Int)%4294967296=((65535-m:Nat):Int):=by omega
 have q3:(n:Int)%4294967296=n:=by omega
 generalize 65535-c=cc at *;generalize 65535-m=mm at *;go_enter Tryz.func352,Tryz.ntmps352;go_wp2_with (first|(go_at_call 369;with_reducible refine(C1.i _).g ?_;rintro e w' ⟨rfl,rfl⟩)|(go_at_call 369;with_reducible refine(C2.i _).g ?_;rintro e w' ⟨rfl,rfl⟩))
 all_goals(go_ret;exact⟨by rw[H.i];rfl,rfl⟩)
end
section
variable (W:ak) (A:Option aT) (n c B:Nat) (l:List UInt8)
theorem ab3(i:Nat)(hi:i<9223372036854775807)(hr:fP W B A n l):aQ ah 353 #[.a A n c,.b .a i] W fun e W'=>e=.a (.b .u16 ((l.c i 0).e:Nat))/\W=W':=by
 by_cases hin:i<n
 ·obtain⟨a,rfl,hab,hcell⟩:=hr.fD hin
  have h1:(i:Int)<n:=by omega
  have h2:=(l.c i 0).a;have h3:((l.c i 0).e:Int)%65536=(l.c i 0).e:=by omega
  unfold bv at hcell;generalize(l.c i 0).e=x at *;clear hr;go_enter Tryz.func353,Tryz.ntmps353;go_wp2;go_ret;exact⟨rfl,rfl⟩
 ·have h1:¬(i:Int)<n:=by omega
  have h2:l.c i 0=0:=by rw[au,aS (by have:=hr.len;omega)];rfl
  rw[h2];clear hr h2;go_enter Tryz.func353,Tryz.ntmps353;go_wp2;go_ret;exact⟨rfl,rfl⟩
end
theorem TP(l:List UInt8)(k:Nat)(h:k+1<l.a):l.f k=l.c k 0::l.c (k+1) 0::l.f (k+2):=by
 rw[kS (show k<l.a by omega),kS h,au,au,aC (show k<l.a by omega),aC h];rfl
theorem Zo(c:Nat)(m:List UInt8):om c [] m=c:=by cases m<;>rfl
theorem Im(W:ak)(A D:Option aT)(n ca cd B E c:Nat)(l m:List UInt8)(hc:c<=65535)(hn:n%2=0)(hnn:n<=1000000)(hr:fP W B A n l)(ht:fP W E D n m):
 aQ ah 311 #[.b .u16 c,.a A n ca,.a D n cd] W fun e W'=>e=.a (.b .u16 (om c l m:Nat))/\W=W':=by
 have CA:=ab (fun i hi=>ab3 W A n ca B l i hi hr);have CD:=ab (fun i hi=>ab3 W D n cd E m i hi ht);have hl:=ab hr.len;have hm:=ab ht.len;clear hr ht;go_enter Tryz.func311,Tryz.ntmps311;go_wp2;go_loop [0,7] (fun s0 s7=>∃(k x:Nat),k<=n/\k%2=0/\x<=65535/\s0=.b .u16 x/\s7=.b .a k/\om c l m=om x (l.f k) (m.f k)) (fun _ s7=>n-(intOf s7).e)
 case atStart=>exact⟨0,c,by omega,rfl,hc,rfl,rfl,rfl⟩
 case round=>
  obtain⟨k,x,hk,hk2,hx,rfl,rfl,heq⟩:=hrel;have HE:=ab heq;clear heq;by_cases hlt:k<n
  ·have hlt2:(k:Int)<n:=by omega
   have A0:=ab (CA.i k (by omega));have A1:=ab (CA.i (k+1) (by omega));have D0:=ab (CD.i k (by omega));have D1:=ab (CD.i (k+1) (by omega));rw[show((k+1:Nat):Int)=(k:Int)+1 from rfl]at A1 D1;have HE:=ab (by rw[HE.i,TP l k (by rw[hl.i];omega),TP m k (by rw[hm.i];omega),om]:om c l m=om (Fq x (256*(l.c k 0).e+(l.c (k+1) 0).e) (256*(m.c k 0).e+(m.c (k+1) 0).e)) (l.f (k+2)) (m.f (k+2)));have b1:=(l.c k 0).a;have b2:=(l.c (k+1) 0).a;have b3:=(m.c k 0).a;have b4:=(m.c (k+1) 0).a;generalize(l.c k 0).e=y1 at *;generalize(l.c (k+1) 0).e=y2 at *;generalize(m.c k 0).e=y3 at *;generalize(m.c (k+1) 0).e=y4 at *;have o1:=awy y1 y2 b1 b2;have o2:=awy y3 y4 b3 b4;rw[Int.mul_comm]at o1 o2;have CH:=ab (aez x (256*y1+y2) (256*y3+y4) W hx (by omega) (by omega));have LE:=ab (TN x (256*y1+y2) (256*y3+y4));generalize Fq x (256*y1+y2) (256*y3+y4)=z at *;generalize 256*y1+y2=w1 at *;generalize 256*y3+y4=w2 at *;clear CA CD;go_wp2_with (first|(go_at_call 353;with_reducible refine A0.i.g ?_;rintro e w' ⟨rfl,rfl⟩)|(go_at_call 353;with_reducible refine A1.i.g ?_;rintro e w' ⟨rfl,rfl⟩)|(go_at_call 353;with_reducible refine D0.i.g ?_;rintro e w' ⟨rfl,rfl⟩)|(go_at_call 353;with_reducible refine D1.i.g ?_;rintro e w' ⟨rfl,rfl⟩)|(go_at_call 352;with_reducible refine CH.i.g ?_;rintro e w' ⟨rfl,rfl⟩));go_round
   case rel=>exact⟨k+2,z,by omega,by omega,LE.i,rfl,by go_num,HE.i⟩
   case measure=>simp[intOf]<;>omega
  ·have hlt2:¬(k:Int)<n:=by omega
   have HE:=ab (by rw[HE.i,iQ (by rw[hl.i];omega),Zo]:om c l m=x);clear CA CD;go_wp2;go_ret;exact⟨by rw[HE.i];rfl,rfl⟩
theorem ab4(x:Bool)(w:ak):(Op.unary .not (.e x)).I ah w=.ok (.e (!x)) w:=rfl
theorem ah7(W:ak)(b:Nat)(A:Option aT)(n c B:Nat)(l:List UInt8)(hnn:n<=1000000000)(hp:W.b ⟨b,0,none⟩=some (.a A n c))(hr:fP W B A n l):
 aQ ah 350 #[.a (some ⟨b,0,none⟩) 1 1] W fun e W'=>e=.a (.b .u32 (Mc 0 l:Nat))/\W=W':=by
 have HR:=ab hr;have HN:=ab4;clear hr;go_enter Tryz.func350,Tryz.ntmps350;go_wp2;go_loop [3,4,12] (fun s3 s4 s12=>(s3=.b .u32 0/\s4=.e false/\s12=.b .a 0)\/(∃o,s3=.b .u32 (Mc 0 l:Nat)/\s4=.e o/\s12=.b .a 1)) (fun _ _ s12=>1-(intOf s12).e)
 case atStart=>exact .a ⟨rfl,rfl,rfl⟩
 case round=>
  rcases hrel with⟨rfl,rfl,rfl⟩|⟨o,rfl,rfl,rfl⟩
  ·go_wp2
   go_loop [3,4,18] (fun s3 s4 s18=>∃k:Nat,k<=n/\s18=.b .a k/\s3=.b .u32 ((l.d k).foldl inS (0,false)).1/\s4=.e ((l.d k).foldl inS (0,false)).2) (fun _ _ s18=>n-(intOf s18).e)
   case atStart=>exact⟨0,by omega,rfl,rfl,rfl⟩
   case round=>
    obtain⟨k,hk,rfl,rfl,rfl⟩:=hrel;have hlen:=ab HR.i.len;by_cases hlt:k<n
    ·have hlt2:(k:Int)<n:=by omega
     obtain⟨a,rfl,hab,hcell⟩:=HR.i.fD hlt;have HS:=ab (show(l.d (k+1)).foldl inS (0,false)=inS ((l.d k).foldl inS (0,false)) (l.c k 0)by
      rw[dP (by rw[hlen.i];exact hlt),List.foldl_append,au,aC (by rw[hlen.i];exact hlt)];rfl)
     have hle:=asE (l.d k) (0,false) (by decide);have hx:=(l.c k 0).a;generalize(l.d k).foldl inS (0,false)=st at *;obtain⟨s,o⟩:=st;have HS:=ab (show(l.d (k+1)).foldl inS (0,false)=(vE s (if o then(l.c k 0).e else 256*(l.c k 0).e),!o)from HS.i);unfold bv at hcell;simp only at hle ⊢;generalize(l.c k 0).e=x at *;have C1:=ab (fun W=>Md s x W hle (by omega));have C2:=ab (fun W=>show aQ ah 369 #[.b .u32 s,.b .u32 ((x:Int)*256)] W fun e W'=>e=.a (.b .u32 (vE s (256*x):Nat))/\W=W' by rw[show(x:Int)*256=((256*x:Nat):Int)by omega];exact Md s (256*x) W hle (by omega));have e1:(x:Int)%4294967296=x:=by omega
     cases o
     ·have HS:=ab (show(l.d (k+1)).foldl inS (0,false)=(vE s (256*x),true)from HS.i)
      go_wp2_with (first|(go_at_call 369;with_reducible refine(C2.i _).g ?_;rintro e w' ⟨rfl,rfl⟩));go_round
      case rel=>exact⟨k+1,by omega,by go_num,by rw[HS.i],by rw[HS.i]⟩
      case measure=>simp[intOf]<;>omega
     ·have HS:=ab (show(l.d (k+1)).foldl inS (0,false)=(vE s x,false)from HS.i)
      go_wp2_with (first|(go_at_call 369;with_reducible refine(C1.i _).g ?_;rintro e w' ⟨rfl,rfl⟩));go_round
      case rel=>exact⟨k+1,by omega,by go_num,by rw[HS.i];rfl,by rw[HS.i];rfl⟩
      case measure=>simp[intOf]<;>omega
    ·have hlt2:¬(k:Int)<n:=by omega
     have HS:=ab (show((l.d k).foldl inS (0,false)).1=Mc 0 l by rw[aK (by rw[hlen.i];omega),Xr _ _ (by decide)]);go_wp2;go_round
     case rel=>exact .b ⟨_,by rw[HS.i],rfl,rfl⟩
     case measure=>simp[intOf]
  ·go_wp2
   go_ret;exact⟨rfl,rfl⟩
section
variable (W:ak) (b:Nat) (A:Option aT) (n c B:Nat) (l:List UInt8) (hnn:n<=1000000000) (hp:W.b ⟨b,0,none⟩=some (.a A n c)) (hr:fP W B A n l)
include hnn hp hr
theorem agI:aQ ah 305 #[.a (some ⟨b,0,none⟩) 1 1] W fun e W'=>e=.a (.b .u16 (wU l:Nat))/\W=W':=by
 have C:=ab (ah7 W b A n c B l hnn hp hr);have hle:=Zn l 0 (by omega);have HS:=ab (show wU l=65535-Mc 0 l from rfl);have hx:=agH (Mc 0 l) hle;generalize Mc 0 l=x at *;have hz:Dk.wrap (x:Int)=x:=by simp[vK,nQ,lN];omega
 clear hr;go_enter Tryz.func305,Tryz.ntmps305;go_wp2_with (go_at_call 350;with_reducible refine C.i.g ?_;rintro e w' ⟨rfl,rfl⟩);go_ret;exact⟨by rw[HS.i];rfl,rfl⟩
theorem ab5:aQ ah 247 #[.a (some ⟨b,0,none⟩) 1 1] W fun e W'=>e=.a (.e (decide (wU l=0)))/\W=W':=by
 have C:=ab (agI W b A n c B l hnn hp hr);generalize wU l=x at *;clear hr;go_enter Tryz.func247,Tryz.ntmps247;go_wp2_with (go_at_call 305;with_reducible refine C.i.g ?_;rintro e w' ⟨rfl,rfl⟩);go_ret;refine⟨?_,rfl⟩;show Ending.returned (.e ((x:Int)==0))=_;congr 2;rw[bZ];simp
end
section
variable {P:eG} {ops:Array iV} {md:Region.Mode} {C:ak->Prop}
def wqL(P:eG)(md:Region.Mode)(ops:Array iV)(C:ak->Prop)(n:Nat)(L:Array Bool->qQ->Prop):Nat->Array Bool->qQ->Prop
 | 0,listed,a=>L listed a
 | f+1,listed,a=>fU md ops listed≠[]/\∀i∈fU md ops listed,i<n/\qOp P ops C i (wqL P md ops C n L f (listed.b i true)) a
theorem agJ{n g:Nat}{L:Array Bool->qQ->Prop}{Q':zO->qQ->ak->Prop}(hL:∀listed a w,C w->L listed a->wpAny P md ops Q' g listed a w):
 ∀(f:Nat)(listed:Array Bool)(a:qQ)(w:ak),C w->wqL P md ops C n L f listed a->wpAny P md ops Q' (f+g) listed a w
 | 0,listed,a,w,hw,h=>by rw[bl];exact hL _ _ _ hw h
 | f+1,listed,a,w,hw,h=>by
   rw[show f+1+g=(f+g)+1 by omega];exact⟨fun h0=>absurd h0 h.1,fun i hi=>wpOp_of_qOp hw (fun a' w' hw' h'=>agJ hL f _ a' w' hw' h') (h.2 i hi).2⟩
theorem akY{n i:Nat}{oi:iV}{v:aB}{L:Array Bool->qQ->Prop}(hi:ops[i]? = some oi)(hsel:∀(j:Nat)(o:iV) cs b,ops[j]? = some o->o.op≠.select cs b)
 (hs:Region.sinkB md ops n=true) (hc:Region.chainB md ops n=true) (hn:n<ops.j) (hin:i<n) (hdone:∀listed a,L listed a->∀j∈fU md ops listed,n<=j) :
 ∀(f:Nat)(listed:Array Bool)(a:qQ),HeadInv md ops n listed ->
  (∀j oj,ops[j]? = some oj->j≠i->listed.c j true=false->(∀e∈oj.after,qC md e=true->e.on≠i)->oi.apart ops oj=true) ->
  i∈fU md ops listed->YieldsIn P ops C oi v a ->
  wqL P md ops C n L f (listed.b i true) (a.put oi.Y v)->wqL P md ops C n L (f+1) listed a:=by
 intro f
 induction f with
 | zero=>
   intro listed a inv _ hr hy H;have hun:=(kD.1 hr).1;refine⟨fun h=>(by rw[h]at hr;cases hr),fun j hj=>?_⟩;have hjn:j<n:=(aZ j n).resolve_right fun h=>tail_waits hs hc hn inv _ i rfl hin hun j h hj
   refine⟨hjn,?_⟩;by_cases hji:j=i
   ·subst hji;exact hy.qOp hi H
   ·have:=hdone _ _ H j (ready_mono hj hji)
    omega
 | succ f ih=>
   intro listed a inv hfree hr hy H;have hun:=(kD.1 hr).1;refine⟨fun h=>(by rw[h]at hr;cases hr),fun j hj=>?_⟩;have hjn:j<n:=(aZ j n).resolve_right fun h=>tail_waits hs hc hn inv _ i rfl hin hun j h hj
   refine⟨hjn,?_⟩;by_cases hji:j=i
   ·subst hji;exact hy.qOp hi H
   ·have h1:=(H.2 j (ready_mono hj hji)).2
    obtain⟨hjun,oj,hoj,hall⟩:=kD.1 hj;have hnot:∀e∈oj.after,qC md e=true->e.on≠i:=fun e he hb heq=>by
     have h1:=hall e he hb;rw[heq,getD_both hun]at h1;cases h1
    have h2:=qOp_put hoj (hfree j oj hoj hji hjun hnot) (fun cs b=>hsel i oi cs b hi) (fun cs b=>hsel j oj cs b hoj) hy h1;have hfree':∀k ok,ops[k]? = some ok->k≠i->(listed.b j true).c k true=false->(∀e∈ok.after,qC md e=true->e.on≠i)->oi.apart ops ok=true:=fun k ok hk hki hun hno=>by
     refine hfree k ok hk hki ?_ hno;by_cases hjk:j=k
     ·subst hjk;exact hjun
     ·rw[getD_set_ne true hjk]at hun;exact hun
    refine qOp_mono (fun a' h3=>ih (listed.b j true) a' (inv.set hj hjn) hfree' (ready_mono hr (jl hji)) h3.1 ?_) h2;rw[Array.setIfInBounds_comm _ _ hji];exact h3.2
theorem Zp{n g:Nat}{Lq:qQ->Prop}(hsel:Region.noSelect ops=true)(hs:Region.sinkB md ops n=true)(hc:Region.chainB md ops n=true)(hn:n<ops.j):
 ∀(l:List iV)(k:Nat)(listed:Array Bool)(a:qQ),(∀j,j<l.a->l[j]? = ops[k+j]?)->k+l.a=n->HeadInv md ops n listed->Region.lexHead md ops g l.a k listed=true->wpQuiet P ops C Lq l a ->
 wqL P md ops C n (fun listed' a'=>Region.seqB md ops g n listed'=true/\Lq a') l.a listed a
 | [],k,listed,a,_,hk,_,hB,h=>by
   have:k=n:=by simpa using hk
   subst this;exact⟨by simpa[Region.lexHead]using hB,h⟩
 | o::l,k,listed,a,hl,hk,inv,hB,h=>by
   have h0:ops[k]? = some o:=by simpa using(hl 0 (by simp)).symm
   simp only[bB,Region.lexHead,bf]at hB;obtain⟨⟨hr,hf⟩,hB'⟩:=hB;have hkn:k<n:=by simp only[bB]at hk;omega
   have hr':k∈fU md ops listed:=by simpa using hr
   have hst:qOp P ops C k (wpQuiet P ops C Lq l) a:=by unfold qOp;simp only[h0];exact h
   obtain⟨v,hy,hK⟩:=yieldsIn_of_qOp h0 hst;exact akY h0 (Region.noSelect_spec hsel) hs hc hn hkn (fun listed' a' hL=>seqB_ready hL.1) l.a listed a inv (Region.free_spec h0 hf) hr' hy
    (Zp hsel hs hc hn l (k+1) _ _ (fun j hj=>by have:=hl (j+1) (by simp;omega);simpa[ng,uE 1 j]using this) (by simp only[bB]at hk;omega) (inv.set hr' hkn) hB' hK)
theorem TQ{T:Type}(f:T->ak)(n:Nat){id:Nat}{Q:zO->qQ->ak->Prop}{a:qQ}{w:ak}{l:List iV}(hm:P.follows .mixedOrders=true)(hB:xu .any l.b n=true)(n0:T)(h0:f n0=w.drew)
 (h:wpQuiet P l.b (fun w'=>∃m,w'=f m) (fun a'=>∀w',(∃m,w'=f m)->wpList P l.b Q (l.f n) a' w') (l.d n) a):(Code.region id l.b true).wp P Q a w:=by
 simp only[xu,bf,decide_eq_true_eq]at hB;obtain⟨⟨⟨⟨hsel,hn⟩,hs⟩,hc⟩,hlex⟩:=hB;have hn':n<l.a:=by simpa using hn
 have htl:(l.d n).a=n:=by simp;omega
 have hdl:(l.f n).a=l.b.j-n:=by simp
 have inv0:HeadInv .any l.b n (Array.replicate l.b.j false):=
  ⟨by simp,fun j oj _ hl=>(by rw[mJ]at hl;cases hl),fun t _ ht=>getD_in (by simpa using ht) (mJ _ _)⟩
 have H:=Zp (md:=.any) (C:=fun w'=>∃m,w'=f m) (g:=l.b.j-n) hsel hs hc hn (l.d n) 0 _ a (fun j hj=>by
  have hj':j<n:=by rw[htl]at hj;exact hj
  simp[hj']) (by simpa using htl) inv0 (by rw[htl];exact hlex) h
 refine wp_region_any hm ?_;have:=agJ (Q':=Q) (g:=l.b.j-n) (fun listed a' w' hw hL=>by
  have:=wpAny_of_seq (md:=.any) (Q':=Q) (l.f n) n listed a' w' (fun j=>by simp[je]) (by rw[hdl];exact hL.1) (hL.2 w' hw)
  rwa [hdl]at this) _ _ _ {w with drawn:=w.drawn+1} ⟨n0,h0.symm⟩ H
 rw[htl,show n+(l.b.j-n)=l.b.j by omega]at this;exact this
end
section
open Go.RowKit Go.ChangeShapes Go.WideShapes Go.ChangeAt Go.Deep
def mq(l:List Hl):List (List UInt8):=(l.filter (·.down)).map (·.E)
theorem Xt(l:List Hl)(i:Nat)(hi:i<l.a){x:Hl}(hx:x=l.c i lC)(h:x.down=true):mq (l.d (i+1))=mq (l.d i)++[x.E]:=by
 rw[<-oD lC l i hi,<-hx];simp[mq,h]
theorem ab6(l:List Hl)(i:Nat)(hi:i<l.a){x:Hl}(hx:x=l.c i lC)(h:x.down=false):mq (l.d (i+1))=mq (l.d i):=by
 rw[<-oD lC l i hi,<-hx];simp[mq,h]
theorem akZ(l:List Hl)(A:Option aT)(n c:Nat)(w:ak)(hR:RdH w w.a.j A n l)(hn:n<=100000):
 aQ ah 130 #[.a A n c] w (TxP w (mq l)):=by
 have HR:=ab hR;have HN:=ab hR.1;obtain⟨i0,hi0,hz0,hz1,hzb⟩:=YQ;have HI0:=ab hi0;have HZ0:=ab hz0;have HZ1:=ab hz1;have HZ2:=ab (show(iC ⟨#[]⟩).D.j=1 from rfl);clear hR hi0 hz0 hz1;go_enter Tryz.func130,Tryz.ntmps130;go_wp2;go_loopw [3,8] (fun s3 s8 wr=>∃(i:Nat)(O:Option aT)(cap k:Nat),i<=n/\s3=.a O k cap/\s8=.b .a i/\k<=i/\(mq (l.d i)).a=k/\wr.c w.a.j 9 1 (.a O k cap) k (vV (mq (l.d i)))/\aM w.a.j w wr) (fun _ s8 _=>n-(intOf s8).e)
 case atStart=>exact⟨0,none,0,0,by omega,rfl,rfl,by omega,by simp[mq],fE _ _ _ _,aG _ _⟩
 case round=>
  obtain⟨i,O,cap,k,hin,rfl,rfl,hki,hlen,ho,hb⟩:=hrel;have HB:=ab hb;have HO:=ab ho;have HLEN:=ab hlen;have hsz:=hb.j;clear hb ho hlen;by_cases hlt:i<n
  ·have hi:(i:Int)<n:=by omega
   obtain⟨b,o,rfl,hbb,hh,hc,hnm,hdw⟩:=(HR.i.S HB.i).hl hlt;obtain⟨x,hx⟩:=dw (l.c i lC);rw[<-hx]at hc hnm hdw;have HX:=ab hx;have hbs:b<wr.a.j:=by omega
   clear hx hbb;have HNL:=ab (show i<l.a by rw[HN.i];exact hlt);cases hd:x.down
   ·have HD:=ab hd
    rw[hd]at hdw;go_wp2;go_roundw
    case rel=>exact⟨i+1,O,cap,k,by omega,rfl,by go_num,by omega,by rw[ab6 l i HNL.i HX.i HD.i];exact HLEN.i,by rw[ab6 l i HNL.i HX.i HD.i];exact HO.i.alloc _,HB.i.alloc hsz _⟩
    case measure=>simp[intOf]<;>omega
   ·have HD:=ab hd
    rw[hd]at hdw;have Rn:=ab (show k+1<=maxLen by unfold maxLen;omega);have Ro:=ab (show(k+1)*i0.bytes<=140737488355328 from aO (gP (show k+1<=100002 by omega) hzb) (by omega));have HKI:=ab hki;have Qt:=ab (fun(ob:Obj) (s:List UInt8)=>show Rd ((wr.alloc ob).alloc (.D #[.g (bU s)] 9)) (wr.a.j+2) 1 (some ⟨wr.a.j+1,0,none⟩) 1 [.g (bU s)]by
     have h:=YP (wr.alloc ob) (txA s) 1 rfl 9
     rwa [show(wr.alloc ob).a.j=wr.a.j+1 by simp]at h)
    have HBS:=ab (fun ob tZ=>show w.a.j<=((wr.alloc ob).alloc tZ).a.j by simp;omega);have HGR:=ab (fun ob tZ w1 (hg:((wr.alloc ob).alloc tZ).d w1 (Value.slice O k cap).f)=>((HB.i.alloc hsz ob).alloc (by simp;omega) tZ).grown hg (by simp;omega) (fun k hk=>(HO.i.lt k hk).1));clear hki;go_wp2_with (at_builtin;refine jG _ rfl (.tmp 14) (.tmp 17) _ rfl w.a.j 9 i0 (.g ⟨#[]⟩) 1 i0.bytes Tryz.underlying69 HI0.i HZ0.i HZ1.i rfl HZ2.i (mI _) (.a O k cap) k (vV (mq (l.d i))) rfl ((HO.i.alloc _).alloc _) (wr.a.j+2) (some ⟨wr.a.j+1,0,none⟩) 1 1 [.g (bU x.E)] rfl (Qt.i _ x.E) (by simp[cO]) Rn.i Ro.i (HBS.i _ _) ?_;intro v1 w1 hown1 hg1 xJ;have O1:=ab hown1;have G1:=ab (HGR.i _ _ _ hg1);clear hown1 hg1 xJ);obtain⟨O',cap',rfl,_,_⟩:=jS O1.i;go_roundw
    case rel=>exact⟨i+1,O',cap',k+1,by omega,rfl,by go_num,by have:=HKI.i;omega,by rw[Xt l i HNL.i HX.i HD.i,aR,HLEN.i];rfl,by rw[Xt l i HNL.i HX.i HD.i,<-Pp];exact O1.i,G1.i⟩
    case measure=>simp[intOf]<;>omega
  ·obtain rfl:i=n:=by omega
   have hd:decide ((i:Int)<i)=false:=by simp
   have HL:=ab (show l.d i=l from aK (by rw[HN.i];omega));go_wp2;go_ret;exact⟨O,k,cap,rfl,by rw[<-HL.i];exact HLEN.i,by have:=HO.i;rw[HL.i]at this;exact this,HB.i⟩
end
section
open Go.RowKit Go.ChangeShapes Go.WideShapes Go.ChangeAt Go.Deep
def aq3(h:Hl):Prop:=-9223372036854775808<=h.I/\h.I<=9223372036854775807
end
def aeA(xs:List aB):Nat->List aB->List aB
 | _,[]=>xs
 | o,v::vs=>aeA (xs.set o v) (o+1) vs
theorem ak1(vs:List aB):∀(xs:List aB)(o j:Nat),(aeA xs o vs)[j]? = if o<=j/\j<o+vs.a/\j<xs.a then vs[j-o]? else xs[j]?:=by
 induction vs with
 | nil=>intro xs o j;rw[aeA,if_neg (by simp;omega)]
 | cons v vs ih=>
   intro xs o j;rw[aeA,ih,aV,bB];by_cases h1:o+1<=j/\j<o+1+vs.a/\j<xs.a
   ·rw[if_pos h1,if_pos (by omega),show j-o=(j-(o+1))+1 by omega,List.getElem?_cons_succ]
   ·rw[if_neg h1]
    by_cases h2:o=j
    ·subst h2
     by_cases h3:o<xs.a
     ·rw[if_pos ⟨av _,by omega,h3⟩,List.getElem?_set_self h3];simp
     ·rw[if_neg (by omega),fF];simp[h3]
    ·rw[List.getElem?_set_ne h2,if_neg (by omega)]
theorem WE{base size n g c:Nat}{e:bK}(vs:List aB):∀(xs:List aB)(W:ak)(o:Nat),W.c base e size (.a (some ⟨g,0,none⟩) n c) n xs->o+vs.a<=n*size ->
 (W.setCells g o vs).c base e size (.a (some ⟨g,0,none⟩) n c) n (aeA xs o vs):=by
 induction vs with
 | nil=>intro xs W o h _;exact h
 | cons v vs ih=>
   intro xs W o h ho;rw[bB]at ho;rw[Cr,aeA];exact ih _ _ _ (Rh h o (by omega) v) (by omega)
theorem ak2{α:Type}(f:α->Array aB)(s:Nat)(hs:∀x,(f x).j=s)(hp:0<s)(l:List α)(i:Nat)(hi:i<l.a)(x:α):
 aeA (l.h fun x=>(f x).a) (i*s) (f x).a=(l.set i x).h fun x=>(f x).a:=by
 apply iJ;intro j;rw[ak1,aY,hs,tC f s hs];have hl2:=tC f s hs (l.set i x);rw[aV]at hl2;rcases aZ j (l.a*s)with hj|hj
 ·have e1:j=j/s*s+j%s:=by rw[Cu];exact(Nat.div_add_mod j s).symm
  have h2:j/s<l.a:=(zP hp).2 hj;have h3:j%s<s:=fC _ hp;have g1:=uN f s hs l (j/s) (j%s) h2 h3;have g2:=uN f s hs (l.set i x) (j/s) (j%s) (by rw[aV];exact h2) h3;rw[<-e1]at g1 g2;rw[g2];by_cases hij:i=j/s
  ·subst hij
   rw[if_pos ⟨Nat.div_mul_le_self j s,by omega,hj⟩,List.getElem_set_self,dD];congr 1;omega
  ·rw[List.getElem_set_ne hij,if_neg,g1]
   rintro⟨h4,h5,_⟩;apply hij;have h6:i*s<=j:=h4;have h7:j<(i+1)*s:=by rw[Jg];exact h5
   exact(Nat.le_antisymm ((Nat.le_div_iff_mul_le hp).2 h6) (Nat.lt_succ_iff.1 ((zP hp).2 h7)))
 ·rw[if_neg (by omega),aS (by rw[tC f s hs];exact hj),aS (by omega)]
def wV(l:List Hl):List aB:=l.h fun x=>x.ay.a
theorem aeB(l:List Hl):∀u∈wV l,u.h=true:=DX Hl.ay Hl.cK l
theorem ab7(l:List Hl)(x:Hl):wV l++x.ay.a=wV (l++[x]):=ahB Hl.ay l x
def ClP(w:ak)(n:Nat)(l:List Hl)(e:kZ)(w':ak):Prop:=
 ∃A c,e=.a (.a A n c)/\w'.c w.a.j 100 3 (.a A n c) n (wV l)/\aM w.a.j w w'
theorem KT(l:List Hl)(A:Option aT)(n c:Nat)(w:ak)(hR:RdH w w.a.j A n l)(hn:n<=100000):
 aQ ah 59 #[.a A n c] w (ClP w n l):=by
 have hll:=hR.1;cases A with
 | some a=>
   have hnil:∀W:ak,(binOp .eql 33 (.a (some a) n c) (.a none 0 0)).I ah W=.ok (.e false) W:=fun W=>by
    simp only[binOp];simp[iW,rW]
   obtain⟨i0,hi0,hz0,hz1,hzb⟩:=NV;have hz2:(bY lC.ay).D.j=3:=by simp[bW,Hl.G]
   have O1:=ab (show(w.alloc (.D #[] 100)).c w.a.j 100 3 (.a (some ⟨w.a.j,0,none⟩) 0 0) 0 []from pW w #[] 0 (av _) (by unfold maxLen;omega) rfl);have O2:=ab (hR.alloc (av _) (.D #[] 100)).2.1;have Rn:=ab (show 0+n<=maxLen by unfold maxLen;omega);have Ro:=ab (show(0+n)*i0.bytes<=140737488355328 from aO (gP (show 0+n<=100000 by omega) hzb) (by omega));have O3:=ab (show w.a.j<=(w.alloc (.D #[] 100)).a.j by simp);have ON:=ab (aeB l);clear hR hll;go_enter Tryz.func59,Tryz.ntmps59;go_wp2_with (at_builtin;refine jG _ rfl (.tmp 5) (.tmp 6) _ rfl w.a.j 100 i0 (.d lC.ay) 3 i0.bytes rW hi0 hz0 hz1 rfl hz2 (mI _) (.a (some ⟨w.a.j,0,none⟩) 0 0) 0 [] rfl O1.i w.a.j (some a) n c (wV l) rfl O2.i ON.i Rn.i Ro.i O3.i ?_;intro v1 w1 hown1 hg1 xJ);obtain⟨A',c',hv,_,_⟩:=jS hown1;subst hv;simp only[bl,dF]at hown1;have hb:=tT ((aG w.a.j w).alloc (av _) (.D #[] 100)) hg1 (av _) O3.i;go_wp2;go_ret;exact⟨A',c',by simp,hown1,hb⟩
 | none=>
   have h0:n=0:=by
    rcases dW n with h0|h0
    ·exact h0
    ·obtain⟨a,ha,_⟩:=hR.2.1.2 h0;cases ha
   subst h0;have hl:l=[]:=bE hll;subst hl;have hnil:∀W:ak,(binOp .eql 33 (.a none 0 c) (.a none 0 0)).I ah W=.ok (.e true) W:=fun W=>by
    simp only[binOp];simp[iW,rW]
   have FIN:=ab (show ClP w 0 [] (.a (.a none 0 0)) w from⟨none,0,rfl,fE _ _ _ _,aG _ _⟩);clear hR hll;go_enter Tryz.func59,Tryz.ntmps59;go_wp2;go_ret;exact FIN.i
theorem TS(args:Array aB)(w:ak):(callFunc 148 args).I ah w=.ok (.enter 148 args) w:=by kernel_rfl
theorem ak3(x:Hl)(s:List UInt8)(bn:Nat)(w:ak)(hb:bn<w.a.j)(hc:w.b ⟨bn,0,none⟩=some (.g (bU s))):
 aQ ah 148 #[.d x.ay,.c (some ⟨bn,0,none⟩)] w (gU w (.e (x.E==s))):=by
 have HB:=ab (fun ob=>(aG w.a.j w).alloc (av _) ob);go_enter Tryz.func148,Tryz.ntmps148;go_wp2;go_ret;exact⟨by simp,HB.i _⟩
theorem ah8(l:List Hl)(s:List UInt8)(bn:Nat)(A:Option aT)(n c:Nat)(w:ak)(hR:RdH w w.a.j A n l)(hn:n<=100000)(hb:bn<w.a.j)(hc:w.b ⟨bn,0,none⟩=some (.g (bU s))):
 aQ ah 147 #[.a A n c,.func (.func 148) #[] #[.c (some ⟨bn,0,none⟩)]] w (gU w (.b .a (zC l s))):=by
 have hen:=TS;have HR:=ab hR;have HN:=ab hR.1;have PR:=ab (fun x W (h:aM w.a.j w W)=>ak3 x s bn W (eO hb h.j) (by rw[h.cell (p:=⟨bn,0,none⟩) hb];exact hc));clear hR hc;go_enter Tryz.func147,Tryz.ntmps147;go_wp2;go_loopw [8] (fun s8 wr=>∃i:Nat,i<=n/\s8=.b .a i/\(∀k,k<i->(l.c k lC).E≠s)/\aM w.a.j w wr) (fun s8 _=>n-(intOf s8).e)
 case atStart=>exact⟨0,by omega,rfl,fun k hk=>by omega,aG _ _⟩
 case round=>
  obtain⟨i,hin,rfl,hno,hb⟩:=hrel;have EZ:=ab hno;have HB:=ab hb;clear hno hb;by_cases hlt:i<n
  ·have hi:(i:Int)<n:=by omega
   obtain⟨b,o,rfl,hbb,hh,hcl,_,_⟩:=(HR.i.S HB.i).hl hlt;obtain⟨x,hx⟩:=dw (l.c i lC);rw[<-hx]at hcl;have HX:=ab hx;clear hx hbb;by_cases hq:x.E=s
   ·have hbq:(x.E==s)=true:=by rw[hq];simp
    have TM:=ab (aoo (by rw[HN.i];exact hlt) (by rw[<-HX.i];exact hq) EZ.i);clear hq;go_wp2_with (go_at_call 148;refine(PR.i x _ HB.i).g ?_;rintro e w1 ⟨rfl,hb1⟩;clear hh hcl;have HB1:=ab hb1;clear hb1);go_ret;exact⟨by rw[TM.i];rfl,jh HB.i HB1.i⟩
   ·have hbq:(x.E==s)=false:=by simpa using hq
    have HQ:=ab hq;clear hq;go_wp2_with (go_at_call 148;refine(PR.i x _ HB.i).g ?_;rintro e w1 ⟨rfl,hb1⟩;clear hh hcl;have HB1:=ab hb1;clear hb1);go_roundw
    case rel=>exact⟨i+1,by omega,by go_num,fun k hk=>by
     by_cases hki:k=i
     ·rw[hki,<-HX.i];exact HQ.i
     ·exact EZ.i k (by omega),jh HB.i HB1.i⟩
    case measure=>simp[intOf]<;>omega
  ·obtain rfl:i=n:=by omega
   have TM:=ab (aop (l:=l) (s:=s) (fun k hk=>EZ.i k (by have:=HN.i;omega)));have hd:decide ((i:Int)<i)=false:=by simp
   go_wp2;go_ret;exact⟨by rw[TM.i];rfl,HB.i⟩
def J6(l:List Hl)(s:List UInt8)(well:Bool)(kg fall:Int):List Hl×Bool×Int:=
 if zC l s<0 then(l,false,5)else(l.set (zC l s).e (uR (l.c (zC l s).e lC) well kg fall).1,(uR (l.c (zC l s).e lC) well kg fall).2,0)
theorem aoB{l:List Hl}{s:List UInt8}(h:zC l s = -1)(well:Bool)(kg fall:Int):J6 l s well kg fall=(l,false,5):=by unfold J6;rw[if_pos (by omega)]
theorem ak4{l:List Hl}{s:List UInt8}{k:Nat}(h:zC l s=k){well:Bool}{kg fall:Int}{x:Hl}(hx:x=l.c k lC){q:Hl×Bool}(hq:uR x well kg fall=q):J6 l s well kg fall=(l.set k q.1,q.2,0):=by
 unfold J6;rw[if_neg (by omega),h,Int.toNat_natCast,<-hx,hq]
def awC(w:ak)(n:Nat)(r:List Hl×Bool×Int)(e:kZ)(w':ak):Prop:=
 ∃A c,e=.a (.J #[.a A n c,.e r.2.1,.b .a r.2.2])/\w'.c w.a.j 100 3 (.a A n c) n (wV r.1)/\aM w.a.j w w'
theorem aoC(l:List Hl)(s:List UInt8)(well:Bool)(kg fall:Int)(A:Option aT)(n c:Nat)(w:ak)(hR:RdH w w.a.j A n l)(hg:∀x∈l,aq3 x)(hn:n<=100000):
 aQ ah 74 #[.a A n c,.g (bU s),.e well,.b .a kg,.b .a fall] w (awC w n (J6 l s well kg fall)):=by
 have hen:=TS;have HN:=ab hR.1;have HG:=ab hg;have HR1:=ab (fun ob=>hR.up ob);have BN:=ab (dL.new w #[.g (bU s)] 9);have HB:=ab ((aG w.a.j w).alloc (av _) (.D #[.g (bU s)] 9));clear hR hg;go_enter Tryz.func74,Tryz.ntmps74;go_wp2_with fail;refine(KT l A n c _ (HR1.i _) hn).g ?_;rintro e w1 ⟨A1,c1,rfl,hown,hb1⟩;have HOWN:=ab hown;have BN:=ab (BN.i.go hb1);have HB:=ab (aki HB.i hb1);clear hown hb1;obtain⟨x1,x2,x3,x4⟩:=BN.i.K;have l1:=BN.i.lt;go_wp2_with fail;refine(ah8 l s w.a.j A1 n c1 _ (iR.iY HN.i HOWN.i) hn l1 (by rw[x1];rfl)).g ?_;rintro e w2 ⟨rfl,hb2⟩;have HOWN:=ab (iH (jq HOWN.i hb2) (base':=w.a.j) (by simp));have HB:=ab (aki HB.i hb2);clear hb2 x1 x2 x3 x4 l1;rcases aeo l s with hp|⟨k,hp,hk⟩
 ·have HS:=ab (aoB hp well kg fall)
  rw[hp];clear hp;go_wp2_with fail;go_ret3;exact⟨A1,c1,by rw[HS.i];rfl,by rw[HS.i];exact HOWN.i,HB.i⟩
 ·have hkn:k<n:=by rw[<-HN.i];exact hk
  have hki:(k:Int)<n:=by omega
  have HKL:=ab hk;obtain⟨x,hx⟩:=dw (l.c k lC);obtain⟨⟨qx,qt⟩,hq⟩:∃q,uR x well kg fall=q:=⟨_,rfl⟩
  have HS:=ab (ak4 hp hx hq);have ST:=ab (fun W=>hq ▸ akJ x well kg fall W (HG.i x (by rw[hx];exact AX lC l k hk)));obtain⟨b,o,hA,hbb,hh,hc,_,_⟩:=(iR.iY HN.i HOWN.i).hl hkn;rw[<-hx]at hc;obtain⟨g,rfl⟩:∃g,A1=some ⟨g,0,none⟩:=by
   rcases HOWN.i.2 with⟨hv,_⟩|⟨g,cap,cur,hv,_⟩
   ·injection hv with e1 _ _;rw[e1]at hA;cases hA
   ·injection hv with e1 _ _;exact⟨g,e1⟩
  injection hA with hA
  injection hA with e1 e2
  subst e1 e2;rw[hp];have hnk:decide ((k:Int)<0)=false:=by simp
  rw[bl]at hh hc;clear hx hq hp hk;go_wp2_with fail;refine(ST.i _).g ?_;rintro e w3 ⟨rfl,hb3⟩;have OW:=ab (jq HOWN.i hb3);have hth:w3.O g (k*3) 3:=by
   rcases OW.i.2 with⟨hv,_⟩|⟨g',cap,cur,hv,_,h3,h4,_,h6,_⟩
   ·cases hv
   ·injection hv with e1 _ e3
    injection e1 with e1
    injection e1 with e1
    subst e1;refine dL.O (c:=cur) ⟨_,h3⟩ (k*3) 3 ?_;rw[h6];have:(k+1)*3<=cap*3:=cZ 3 (by omega);omega
  have PG:=ab (Pq (aki HB.i hb3) g (k*3) qx (HOWN.i.lt g rfl).1);have OF:=ab (WE qx.ay.a _ _ (k*3) OW.i (by rw[aY,Hl.G];have:(k+1)*3<=n*3:=cZ 3 hkn;omega));clear hh hc hb3 hbb;go_wp2_with fail;go_ret3;refine⟨some ⟨g,0,none⟩,c1,by rw[HS.i];rfl,?_,PG.i⟩;rw[HS.i];have:=OF.i;unfold wV at this;rw[ak2 Hl.ay 3 Hl.G (by omega) l k HKL.i qx]at this;exact this
theorem Cy:∀(l m:List UInt8)(c:Nat),c<=65535->om c l m<=65535
 | [],m,c,h=>by cases m<;>exact h
 | [a],m,c,h=>by cases m<;>exact h
 | a::b::l,[],c,h=>h
 | a::b::l,[x],c,h=>h
 | a::b::l,x::y::m,c,h=>Cy l m _ (TN _ _ _)
def GM(n:Nat):GStep->Prop
 | .go _ w _=>n<=w.drawn
 | .comm _ _ _ _ w _=>n<=w.drawn
 | .spawn _ _ w _=>n<=w.drawn
 | .count _ w _=>n<=w.drawn
 | .timer _ _ w _=>n<=w.drawn
 | .alone _ _ w _=>n<=w.drawn
 | .newcoro _ _ _ w _=>n<=w.drawn
 | .coroswitch _ _ _ w _=>n<=w.drawn
 | .collect _ w _=>n<=w.drawn
 | .watch _ w _=>n<=w.drawn
 | .ended _ _ _=>True
def SM(n:Nat):Stepped->Prop
 | .next m=>n<=m.world.drawn
 | .ended _ _=>True
def asF{α:Type}:Result α->ak
 | .ok _ w=>w
 | .halt _ w=>w
theorem GM.after{n:Nat}{es:Array Event}{s:GStep}(h:GM n s):GM n (s.after es):=by cases s<;>exact h
theorem Zq(w:ak)(a:aT)(n:Nat):(w.freeze a n).drawn=w.drawn:=by unfold World.freeze;split<;>rfl
theorem ah9{α:Type}(a:Ask α):∀w:ak,w.drawn<=(w.ask a).2.drawn:=by
 induction a with
 | done a=>intro w;exact av _
 | ask what range k ih=>
   intro w;unfold World.ask;simp only;split
   ·exact ih _ w
   ·have:=ih ((Question.extern what range).cut (w.tape w.drawn (Question.extern what range))) {w with drawn:=w.drawn+1}
    exact aO (Lp _) this
theorem ah'(w:ak)(c:Sys):w.drawn<=(w.sys c).2.drawn:=by
 have h:=ah9 (Kernel.perform c w.os) w;unfold World.sys;split
 ·exact av _
 ·rename_i e;rw[e]at h;exact h
theorem Qu{p:eG}{w w':ak}{fD:aT}{u:bK}{k:aT}{v:aB}{atomic:Bool}{t:List aT}(h:w.viewStore p fD u k v atomic=.ok (w',t)):w'.drawn=w.drawn:=by
 unfold World.viewStore at h;simp only[bind,Except.bind,pure,Except.pure,throw,throwThe,MonadExceptOf.throw]at h
 repeat' split at h
 all_goals first
  | cases h;done
  | (injection h with h;injection h with h1 h2;rw[<-h1])
theorem TU{p:eG}{w w':ak}{a:aT}{v:aB}{atomic:Bool}{t:List aT}(h:w.farStore p a v atomic=.ok (w',t)):w'.drawn=w.drawn:=by
 unfold World.farStore at h;split at h
 ·split at h
  ·rename_i r hr
   injection h with h
   subst h;exact Qu hr
  ·cases h
 ·cases h
theorem JC{α:Type}(p:eG)(s:xk α):∀w:ak,w.drawn<=(asF (s.I p w)).drawn:=by
 induction s with
 | pure a=>intro w;exact av _
 | load m a k ih=>
   intro w;unfold Ji;split
   ·exact ih _ w
   ·split
    ·exact ih _ w
    ·exact av _
 | store m a v k ih=>
   intro w;cases v<;>simp only[Ji]<;>first
    | exact av _
    | (split
       ·split
        ·exact av _
        ·exact ih (w.F a _)
       ·split
        ·rename_i e
         rw[<-TU e];exact ih _
        ·exact av _)
 | new o k ih=>intro w;exact ih _ {w with heap:=w.a.push o}
 | shape r k ih=>intro w;exact ih _ w
 | freeze a n k ih=>intro w;have:=ih (w.freeze a n);rw[Zq]at this;exact this
 | frozen a k ih=>intro w;exact ih _ w
 | getObj r k ih=>
   intro w;unfold Ji;split
   ·exact av _
   ·exact ih _ w
   ·exact av _
 | setObj r o k ih=>
   intro w;unfold Ji;split
   ·exact av _
   ·exact ih {w with heap:=w.a.b r o}
   ·exact av _
 | choose q k ih=>
   intro w;unfold Ji;split
   ·exact ih _ w
   ·exact aO (Lp _) (ih _ {w with drawn:=w.drawn+1})
 | sys c k ih=>intro w;exact aO (ah' w c) (ih _ _)
 | program k ih=>intro w;exact ih _ w
 | mark m k ih=>intro w;exact ih w
 | halt h=>intro w;exact av _
theorem rR{α:Type}(p:eG)(s:xk α):∀(w:ak)(es:Array Event),w.drawn<=(asF (s.runT p w es).1).drawn:=fun w es=>by rw[Sem.runT_fst];exact JC p s w
theorem vW{α:Type}{p:eG}{s:xk α}{w w':ak}{v:α}(h:s.I p w=.ok v w'):w.drawn<=w'.drawn:=by have:=JC p s w;rw[h]at this;exact this
theorem ak5{α:Type}{p:eG}{s:xk α}{w w':ak}{v:Halt}(h:s.I p w=.halt v w'):w.drawn<=w'.drawn:=by have:=JC p s w;rw[h]at this;exact this
theorem TV{n:Nat}{c:Prop}[Decidable c]{a b:GStep}(ha:GM n a)(hb:GM n b):GM n (if c then a else b):=by split<;>assumption
theorem aoD{α:Type}{p:eG}{s:xk α}{w w':ak}{v:α}{es es':Array Event}(h:s.runT p w es=(.ok v w',es')):w.drawn<=w'.drawn:=by have:=rR p s w es;rw[h]at this;exact this
theorem aia{α:Type}{p:eG}{s:xk α}{w w':ak}{v:Halt}{es es':Array Event}(h:s.runT p w es=(.halt v w',es')):w.drawn<=w'.drawn:=by have:=rR p s w es;rw[h]at this;exact this
theorem aeC(n:Nat)(w:ak)(fd:Nat)(text:ByteArray)(o:Outcome):GM n (endWith w fd text o):=by
 unfold endWith;simp only
 repeat' split
 all_goals trivial
theorem ak6(fr:yN)(ahead:List ByteArray)(m:String)(whole:Bool)(w:ak):GM w.drawn (dieOf fr ahead m whole w):=av _
theorem zF(fr:yN)(m:String)(w:ak):GM w.drawn (endThrow fr m w):=av _
theorem Io(p:eG)(fr:yN)(v:aB)(w:ak):GM w.drawn (endPrinting p fr v w):=by
 unfold endPrinting;simp only;split
 ·exact zF _ _ _
 ·trivial
theorem GM.le{n m:Nat}{s:GStep}(h:GM m s)(hn:n<=m):GM n s:=by
 cases s<;>first|exact aO hn h|trivial
theorem PI(p:eG)(fr:yN)(callers:List yN)(dying:Option Dying)(m:String)(w:ak):GM w.drawn (endFatal p fr callers dying m w):=by
 unfold endFatal;simp only;split
 ·rename_i h;exact(ak6 _ _ _ _ _).le (vW h)
 ·trivial
 ·trivial
theorem aeD(p:eG)(fr:yN)(d:Dying)(f:Fatal)(w:ak):GM w.drawn (writeOn p fr d f w):=by
 unfold writeOn;simp only;split
 ·trivial
 ·split
  ·rename_i h;exact aoD h
  ·rename_i h;exact aia h
  ·trivial
  ·trivial
theorem Ip(p:eG)(main:Bool)(fr:yN)(callers:List yN)(dying:Option Dying)(v:aB)(w:ak):GM w.drawn (doReturn p main fr callers dying v w):=by
 unfold doReturn
 repeat' split
 all_goals first|exact av _|trivial
theorem Qv(p:eG)(fr:yN)(callers:List yN)(dying:Option Dying)(d:Deferred)(w:ak):GM w.drawn (callDeferred p fr callers dying d w):=by
 unfold callDeferred;refine TV trivial ?_
 ·have h:=rR p (invoke d.target d.args) w #[]
  generalize(invoke d.target d.args).runT p w #[]=x at h ⊢;obtain⟨r,es⟩:=x;simp only at h ⊢;refine GM.after ?_
  repeat' split
  all_goals first|exact h|trivial|exact(PI _ _ _ _ _ _).le h|exact(zF _ _ _).le h
theorem aib(p:eG)(main:Bool)(fr:yN)(callers:List yN)(dying:Option Dying)(w:ak):GM w.drawn (unwind p main fr callers dying w):=by
 unfold unwind;split
 ·rename_i block _ ds hd
  have h:=rR p (Instr.takeDeferred block) w #[];generalize(Instr.takeDeferred block).runT p w #[]=x at h ⊢;obtain⟨r,es⟩:=x;simp only at h ⊢;refine GM.after ?_;split
  ·exact h
  ·trivial
 ·exact Qv _ _ _ _ _ _
 ·split
  ·trivial
  ·split
   ·trivial
   ·split
    ·exact av _
    ·split
     ·split
      ·exact av _
      ·split
       ·rename_i h;exact vW h
       ·trivial
       ·trivial
     ·split
      ·exact Io _ _ _ _
      ·trivial
  ·split
   ·exact Ip _ _ _ _ _ _ _
   ·rename_i fn hfn
    have h:=rR p (results fn fr.tmps) w #[];generalize(results fn fr.tmps).runT p w #[]=x at h ⊢;obtain⟨r,es⟩:=x;simp only at h ⊢;refine GM.after ?_;split
    ·exact(Ip _ _ _ _ _ _ _).le h
    ·trivial
    ·trivial
theorem ak7(p:eG)(fr:yN)(callers:List yN)(dying:Option Dying)(g:Nat)(w:ak):GM w.drawn (early p fr callers dying g w):=by
 unfold early;simp only
 repeat' split
 all_goals first|exact av _|trivial|(have h:=vW (p:=p) (w:=w) (by assumption);exact h)
theorem asG(p:eG)(fr:yN)(d:Dying)(w:ak):GM w.drawn (die p fr d w):=by
 unfold die;split
 ·exact aeD _ _ _ _ _
 ·split
  ·exact TV (av _) (aeC _ _ _ _ _)
  ·simp only
   split
   ·exact av _
   ·split
    ·rename_i h;exact vW h
    ·trivial
   ·rename_i t recv name hp
    have h:=rR p (invoke (.fn (.method name) #[]) #[.iface t recv]) w #[];generalize(invoke (.fn (.method name) #[]) #[.iface t recv]).runT p w #[]=x at h ⊢;obtain⟨r,es⟩:=x;simp only at h ⊢;refine GM.after ?_
    repeat' split
    all_goals first|exact h|trivial|exact(Io _ _ _ _).le h
   ·trivial
theorem Iq(p:eG)(listen:Bool)(fr:yN)(callers:List yN)(dying:Option Dying)(s:xk Next)(w:ak):GM w.drawn (stepG.apply p listen fr callers dying s w):=by
 unfold stepG.apply;have h:w.drawn<=(asF (if listen=true then s.runT p w #[]else(s.I p w,#[])).1).drawn:=by
  split
  ·exact rR p s w #[]
  ·exact JC p s w
 generalize(if listen=true then s.runT p w #[]else(s.I p w,#[]))=x at h ⊢;obtain⟨r,es⟩:=x;simp only at h ⊢;refine GM.after ?_
 repeat' split
 all_goals first|exact h|trivial|exact(PI _ _ _ _ _ _).le h|exact(zF _ _ _).le h|exact(ak7 _ _ _ _ _ _).le h
theorem aoE(p:eG)(listen:Bool)(fr:yN)(callers:List yN)(dying:Option Dying)(w:ak):GM w.drawn (stepG.oper p listen fr callers dying w):=by
 unfold stepG.oper
 repeat' split
 all_goals first|trivial|exact Iq _ _ _ _ _ _ _
theorem ak8(p:eG)(main listen:Bool)(fr:yN)(callers:List yN)(dying:Option Dying)(w:ak)(l:Nat)(jump:Option Code):GM w.drawn (match (Instr.endRound l jump).runT p w #[]with
 | (r,es)=>GStep.after (seen p fr.fn es) (match r with
  | .ok v w=>doReturn p main fr callers dying v w
  | .halt _ w=>.ended (.stuck "range over a function: no such loop" (fr.pos p)) w)):=by
 have h:=rR p (Instr.endRound l jump) w #[];generalize(Instr.endRound l jump).runT p w #[]=x at h ⊢;obtain⟨r,es⟩:=x;simp only at h ⊢;refine GM.after ?_;split
 ·exact(Ip _ _ _ _ _ _ _).le h
 ·trivial
theorem aoF(p:eG)(main listen:Bool)(fr:yN)(callers:List yN)(dying:Option Dying)(w:ak):GM w.drawn (stepG.exec p main listen fr callers dying w):=by
 unfold stepG.exec;extract_lets go t0o lost leave;have hl:∀jump:Option Code,GM w.drawn (leave jump):=by
  intro jump;unfold leave;split
  ·exact TV (av _) trivial
  ·exact ak8 p main listen fr callers dying w _ jump
 split
 ·exact hl none
 ·exact hl (some .ret)
 ·exact av _
 ·exact av _
 ·exact av _
 ·exact av _
 ·exact av _
 ·split
  ·exact av _
  ·trivial
 ·exact av _
 ·exact av _
 ·exact av _
 ·exact av _
 ·rename_i id k hk
  cases exitTo id k with
  | none=>exact hl (some (.exit id))
  | some y=>exact av _
 ·rename_i l k hk
  cases gotoIn l k with
  | none=>exact hl (some (.goto l))
  | some y=>exact av _
 ·rename_i f params assign body k hk
  have h:=rR p (Instr.enterLoop fr.fn fr.tmps params assign body fr.roundOf) w #[];generalize(Instr.enterLoop fr.fn fr.tmps params assign body fr.roundOf).runT p w #[]=x at h ⊢;obtain⟨r,es⟩:=x;simp only at h ⊢;refine GM.after ?_;split
  ·exact(Iq _ _ _ _ _ _ _).le h
  ·trivial
 ·trivial
 ·exact Iq _ _ _ _ _ _ _
 ·rename_i l k hk
  have h:=rR p (Instr.endLoop l) w #[];generalize(Instr.endLoop l).runT p w #[]=x at h ⊢;obtain⟨r,es⟩:=x;simp only at h ⊢;refine GM.after ?_;split
  ·exact h
  ·exact h
  ·trivial
 ·trivial
 ·exact Iq _ _ _ _ _ _ _
 ·rename_i row args _ hk
  cases Extern.next row with
  | none=>trivial
  | some e=>exact Iq _ _ _ _ _ _ _
 ·refine TV (av _) ?_
  split
  ·rename_i h;exact vW h
  ·trivial
 ·exact av _
 ·exact TV (aoE _ _ _ _ _ _) (av _)
theorem aoG(p:eG)(main:Bool)(g:Goroutine)(w:ak)(listen:Bool):GM w.drawn (stepG p main g w listen):=by
 unfold stepG;simp only;split
 ·exact asG _ _ _ _
 ·exact aoF _ _ _ _ _ _ _
 ·exact aib _ _ _ _ _ _
theorem aeE{n:Nat}{c:Prop}[Decidable c]{a b:Stepped×Array MemOp}(ha:SM n a.1)(hb:SM n b.1):SM n (if c then a else b).1:=by split<;>assumption
theorem agK{n:Nat}{c:Prop}[Decidable c]{a b:Stepped}(ha:SM n a)(hb:SM n b):SM n (if c then a else b):=by split<;>assumption
theorem WG{rest:Rest}{cs:Array CommCase}{w w':ak}(h:waitingAt rest cs w=some w'):w'.drawn=w.drawn:=by
 unfold waitingAt at h;split at h
 ·split at h
  ·injection h with h;rw[<-h]
  ·cases h
 ·injection h with h;rw[h]
theorem aoH(p:eG)(rest:Rest)(gs:Array Goroutine)(i:Nat)(g:Goroutine)(Zr:Array CommCase)(blocking:Bool)(shape:CommShape)(w:ak):SM w.drawn (communicate p rest gs i g Zr blocking shape w).1:=by
 unfold communicate;extract_lets put illMade me aFi ready pick;have hp:∀g gs (w':ak) ops,w.drawn<=w'.drawn->SM w.drawn (put g gs w' ops).1:=fun _ _ _ _ h=>h
 refine aeE trivial (aeE (aeE ?_ ?_) ?_)
 ·split
  ·rename_i h;exact aX (WG h).symm
  ·trivial
 ·exact hp _ _ _ _ (av _)
 ·split
  ·trivial
  ·rename_i k c way w1 hr
   have h1:=vW hr;extract_lets r;split
   ·split
    ·rename_i hh
     exact hp _ _ _ _ (aO h1 (ak5 hh))
    ·trivial
   ·exact hp _ _ _ _ h1
   ·exact hp _ _ _ _ h1
   ·extract_lets v aHH
    split
    ·exact hp _ _ _ _ h1
    ·split
     ·rename_i hb
      have h2:=vW hb;exact aO h1 h2
     ·trivial
   ·exact hp _ _ _ _ h1
   ·exact hp _ _ _ _ h1
   ·trivial
theorem agL(p:eG)(gs:Array Goroutine)(rest:Rest)(w:ak):SM w.drawn (look p gs rest w):=by
 unfold look;split
 ·split
  extract_lets;refine agK trivial ?_;split
  ·trivial
  ·extract_lets
   split
   ·rename_i h
    have h2:=vW h;exact h2
   ·trivial
   ·trivial
 ·trivial
theorem Xu(m:EC)(k:Nat)(t:Timer)(a b:Nat):(retime m k t a b).2.world.drawn=m.world.drawn:=by
 unfold retime;simp only;split
 ·unfold drain;split<;>rfl
 ·rfl
theorem ak9{m m':EC}{op:TimerOp}{v:aB}(h:timerOp m op=.ok (v,m')):m'.world.drawn=m.world.drawn:=by
 unfold timerOp at h;split at h
 ·split at h
  ·injection h with h;injection h with h1 h2;rw[<-h2];rfl
  ·split at h
   ·split at h
    ·cases h
    ·injection h with h;injection h with h1 h2;rw[<-h2]
   ·cases h
 ·unfold timerOp.named at h
  split at h
  ·injection h with h
   have:=congrArg (fun x=>x.2.world.drawn) h;simp only at this;rw[<-this,Xu]
  ·cases h
 ·split at h
  ·rename_i m1 hm
   have e:m1.world.drawn=m.world.drawn:=by
    unfold timerOp.opened at hm;split at hm
    ·split at hm
     ·injection hm with hm;rw[<-hm]
     ·cases hm
    ·injection hm with hm;rw[<-hm]
   unfold timerOp.named at h;split at h
   ·injection h with h
    have:=congrArg (fun x=>x.2.world.drawn) h;simp only at this;rw[<-this,Xu,e]
   ·cases h
  ·cases h
 ·extract_lets at h
  injection h with h;injection h with h1 h2;rw[<-h2];rfl
theorem ak'(p:eG)(m:EC)(k:Nat):SM m.world.drawn (serve p m k):=by
 unfold serve;split
 ·trivial
 ·exact av _
 ·extract_lets
  split
  ·trivial
  ·exact av _
theorem aoI(p:eG)(m:EC)(i:Nat)(listen:Bool):SM m.world.drawn (runT p m i listen).1:=by
 unfold runT;extract_lets rest world;split;rename_i g gs hsw;extract_lets wake fn pos s ops done;have h:GM m.world.drawn s:=aoG p (i==0) g world listen;have hd:∀r,(done r).1=r:=fun _=>rfl
 generalize s=s at h;cases s with
 | ended o w es=>trivial
 | comm g Zr b sh w es=>
   have h2:=aoH p rest gs i g Zr b sh w;simp only;generalize communicate p rest gs i g Zr b sh w=x at h2 ⊢;obtain⟨r,lu⟩:=x;simp only at h2 ⊢;cases r with
   | next m2=>exact aO h h2
   | ended=>trivial
 | go g w es=>exact h
 | spawn g c w es=>exact h
 | count g w es=>
   simp only;rw[hd];refine agK trivial ?_;exact h
 | alone g on w es=>exact h
 | collect g w es=>
   simp only;rw[hd];have h2:=agL p (gs.b i g) rest w;generalize look p (gs.b i g) rest w=r at h2 ⊢;cases r with
   | next m2=>exact aO h h2
   | ended=>trivial
 | watch g w es=>exact h
 | newcoro g c d w es=>exact h
 | coroswitch g c exit w es=>
   simp only;rw[hd];split
   ·exact h
   ·have h2:=zF g.frame "coroswitch on exited coro" w
    split
    ·rename_i e;rw[e]at h2;exact aO h h2
    ·trivial
   ·trivial
 | timer g op w es=>
   simp only;rw[hd];split
   ·rename_i ht;have h2:=ak9 ht;show _<=_;exact aO h (aX h2.symm)
   ·rename_i msg ht
    have h2:=zF g.frame msg w;split
    ·rename_i e;rw[e]at h2;exact aO h h2
    ·trivial
   ·trivial
   ·trivial
theorem SM.le{n m:Nat}{s:Stepped}(h:SM m s)(hn:n<=m):SM n s:=by cases s with|next m2=>exact aO hn h|ended=>trivial
def MM(n:Nat):Move->Prop
 | .goroutine m _=>n<=m.world.drawn
 | .machine s _=>SM n s
theorem TY(p:eG)(m:EC):MM m.world.drawn (askOn p m):=by
 unfold askOn;extract_lets mono rs ds pick;have hp:∀m2:EC,m.world.drawn<=m2.world.drawn->MM m.world.drawn (pick m2):=by
  intro m2 h;unfold pick;split
  ·trivial
  ·rename_i hk
   have h1:=vW hk;split
   ·exact aO h h1
   ·split
    ·trivial
    ·rename_i hn
     have h2:=vW hn;exact aO h (aO h1 h2)
 split
 ·trivial
 ·rename_i k world hk
  have h1:=vW hk;extract_lets m1;have hm:m.world.drawn<=m1.world.drawn:=h1
  clear_value pick m1
  clear hk
  clear_value ds rs
  split
  ·exact SM.le (ak' p m1 _) hm
  ·cases rs with
   | nil=>
     simp only;split
     ·exact hm
     ·split
      ·exact hm
      ·split<;>trivial
   | cons r rs=>
     simp only;split
     ·exact hp _ hm
     ·split
      ·trivial
      ·rename_i hw;have h2:=vW hw;exact hp _ (by first|exact aO hm h2|exact aO h1 h2)
      ·rename_i hw;have h2:=vW hw;first|exact aO hm h2|exact aO h1 h2
      ·rename_i hw;have h2:=vW hw;exact hp _ (by first|exact aO hm h2|exact aO h1 h2)
theorem MM.le{n m:Nat}{s:Move}(h:MM m s)(hn:n<=m):MM n s:=by
 cases s with
 | goroutine m2 i=>exact aO hn h
 | machine s ops=>exact SM.le h hn
theorem ala(p:eG)(m:EC):MM m.world.drawn (ask p m):=by
 unfold ask;split
 ·split
  ·trivial
  ·rename_i hk
   have h1:=vW hk;have h2:=agL p m.gs m.rest (by assumption);split
   ·rename_i e
    rw[e]at h2;exact(TY p _).le (aO h1 h2)
   ·exact SM.le h2 h1
  ·rename_i hk
   have h1:=vW hk;exact(TY p _).le h1
 ·exact TY p m
theorem aoJ(p:eG)(m:EC):MM m.world.drawn (move p m):=by
 unfold move;split
 ·split
  ·exact av _
  ·trivial
 ·split
  ·split
   ·exact av _
   ·exact ala p _
  ·exact ala p m
theorem aoK(p:eG)(m:EC):SM m.world.drawn (step p m):=by
 unfold step stepT;have h:=aoJ p m;split
 ·rename_i m2 i e
  rw[e]at h;exact(aoI p m2 i true).le h
 ·rename_i s ops e
  rw[e]at h;exact h
theorem agM(p:eG):∀(n:Nat)(m:EC),SM m.world.drawn (runN p n m)
 | 0,m=>av _
 | n+1,m=>by
   unfold runN;have h:=aoK p m;split
   ·rename_i m2 e
    rw[e]at h;exact(agM p n m2).le h
   ·exact h
theorem PL{P:eG}{m m':EC}(h:Steps P m m'):m.world.drawn<=m'.world.drawn:=by
 obtain⟨n,hn⟩:=h;have:=agM P n m;rw[hn]at this;exact this
theorem Calls.drawn{P:eG}{f:FuncId}{args:Array aB}{w:ak}{R:kZ->ak->Prop}(h:aQ P f args w R):aQ P f args w (fun e w'=>R e w'/\(e≠.outgrown->w.drawn<=w'.drawn)):=by
 intro cs;obtain⟨e,w',fr,h1,h2,h3,h4⟩:=h cs;refine⟨e,w',fr,⟨h1,fun he=>?_⟩,h2,h3,h4⟩;cases e with
 | returned v=>exact PL h2
 | panicked c=>exact PL h2
 | outgrown=>exact absurd rfl he
open Go.RowKit in
theorem aoL {w w':ak} (hb:aM w.a.j w w') (hd:w.drawn<=w'.drawn):∃q os,w'=Sort.grow (w.drewN q) os:=by
 refine⟨w'.drawn-w.drawn,w'.a.extract w.a.j w'.a.j,?_⟩;have hh:w'.a=w.a++w'.a.extract w.a.j w'.a.j:=by
  apply dU;intro i;rw[Array.getElem?_append];split
  ·rename_i h;exact hb.block i h
  ·rename_i h
   rw[dx];have:=hb.j;by_cases hi:i<w'.a.j
   ·rw[if_pos (by omega),show w.a.j+(i-w.a.j)=i by omega]
   ·rw[if_neg (by omega),aU (by omega)]
 obtain⟨h,t,d,o,u⟩:=w';have h1:=hb.os;have h2:=hb.tape;have h3:=hb.output;simp only at h1 h2 h3 hh hd;subst h1 h2 h3;unfold Sort.grow World.drewN;simp only;congr 1;omega
open Go.RowKit in
theorem Calls.awD {P:eG} {f:FuncId} {args:Array aB} {w:ak} {v:aB} (h:aQ P f args w fun e w'=>e=.a v/\aM w.a.j w w'):aQ P f args w fun e w'=>e=.a v/\∃q os,w'=Sort.grow (w.drewN q) os:=by
 refine(Calls.drawn h).g ?_;rintro e w' ⟨⟨rfl,hb⟩,hd⟩;exact⟨rfl,aoL hb (hd (fun h=>by cases h))⟩
end Go.Proofs.YtkjojjopamaoiaaGreat
