/- Parts. -/
import Derived.WalkSpells
import Derived.WalkLawsBesides
import Derived.Deep.OwnRows
import Derived.Lib.Hide
import Derived.Deep.AppendLies
import Derived.Test.YtkjojjopamaoiaaGreatRows
import Derived.ProofKit
import Derived.OpenShut
import Derived.Lib.ConvBytes
import Derived.Deep.WholeRow
import Derived.Deep.Fields
import Derived.Lib.Bytealg
import Derived.BigQuiet
import Derived.Deep.CutRange
import Derived.Laws.CopyOwn
import Derived.Lib.AppendZerosOnto
import Derived.Lib.Overlaps
import Derived.Deep.RegionHeld3
import Derived.StillTail
import Derived.Sort.Grow
set_option linter.unusedSimpArgs false
set_option linter.unusedVariables false
set_option linter.unusedSectionVars false
set_option maxRecDepth 100000
set_option maxHeartbeats 8000000
open Array renaming getElem?_eq_getElem->fH,ext_getElem?->dZ,getElem?_eq_none->aW,length_toList->aY,getElem?_toList->dH,getElem?_extract->cu,size_extract->jA,getElem?_modify->Az,getElem?_eq_some_iff->bY,foldl_toList->DW,range->mK,mapM->iI,all_eq_true_iff_forall_mem->gK,ext'->pU,size->Array.j,toList->Array.a,getD->Array.b,setIfInBounds->Array.c
open BitVec renaming ofInt->gI,ofInt_natCast->mI,toNat_ofNat->nW,ofNat->Iw,toNat->BitVec.e
open Bool renaming eq_iff_iff->dG,and_eq_true->bf,not_true->vJ,or_eq_true->kR,toNat->Bool.e
open ByteArray renaming size->ByteArray.j,toList->ByteArray.a
open Go renaming Addr->aV,World->ak,Value->aB,TypeId->bL,Program->fB,TypeInfo->oh,run_underlying->dK,Oper->ji,Act->rO,Exit->Bn,Operand->ql,wpList_plain->uq,Calls->aR,DataW->Ay,MemPlace->uw,cell_of_row->uy,heap_alloc_new->Ia,setRow_heap->su,Field->oz,Sem->yA,Ending->lJ,run_storeAt_new->Ad,run_storeAt_mid->ER,run_equalIn_struct->wF,results_cell_tmp->Lj,run_callFunc_extern->zN,bodyPost_ret->aO,wpQuiet_nil->iw,run_equal_slice_nil->jk,mem_ready->kN,getD_replicate_false->nH,Frame->zV,Machine->Gd,underlying->Go.k
open Go.Addr renaming add->rU,add_mid->iL
open Go.BoundsCode renaming toNat->Go.BoundsCode.e
open Go.Builtin renaming append_->By,firstCells->uM,copy_->qZ,zeroCells->oI
open Go.Calls renaming mono->Go.Calls.g
open Go.DataW renaming trod->mM,slice->Go.DataW.a,agg->Go.DataW.d
open Go.Ending renaming returned->Go.Ending.a
open Go.Field renaming name->Go.Field.F,type->Go.Field.p
open Go.FloatKind renaming f64->j5
open Go.FrameMode renaming run->Go.FrameMode.O
open Go.Func renaming name->Go.Func.F
open Go.Instr renaming loadAt->dw,buildSlice->bJ,fill->fJ,build->fU,storeAt->eY,sureAddr->zU,slice->Go.Instr.a
open Go.IntKind renaming min->J4,max->J5,signed->mH,bits->oH,i64->bT,u64->jG,wrap_u64->jZ,wrap->wP,u16->El,i64->Go.IntKind.a,u8->Go.IntKind.b,u64->Go.IntKind.c
open Go.Lib renaming hid->ab,compareBytes->iF
open Go.Lit renaming int->Go.Lit.b,bool->Go.Lit.e,string->Go.Lit.g
open Go.Obj renaming cells->Go.Obj.D
open Go.Op renaming eqItems->KZ,equalIn->je,eqFields->vw,bytesLess->bU,slice->Go.Op.a
open Go.Oper renaming wp->nV,type->Go.Oper.p
open Go.Os renaming mono->Go.Os.g
open Go.Program renaming cellsOf->BD,fieldsOf->jr,underlying->Go.Program.k,cellsOf->Go.Program.a
open Go.Proofs.Tryz renaming prog->ah,underlying56->dD,underlying4->om,underlying9->iZ,underlying3->fI,underlying100->rV,underlying33->tq,underlying5->lX,underlying62->oN,underlying27->fG,underlying22->qK,underlying30->jy
open Go.Region renaming wanted->fK,ready->gJ,binds->ra,lexTailB->yC
open Go.Rest renaming slice->Go.Rest.a
open Go.Result renaming andThen_ok->gW,andThen->iM
open Go.RowKit renaming Below->aM
open Go.RowKit.Below renaming heap_setCell->rQ,refl->aG,size->Go.RowKit.Below.j,mono->Go.RowKit.Below.g,setCell->Go.RowKit.Below.I
open Go.RowKit.Hid renaming out->Go.RowKit.Hid.i
open Go.RuntimeTypes renaming string->Go.RuntimeTypes.g
open Go.Sem renaming run_bind->jS,run_pure->oU,run->J8,run->Go.Sem.O
open Go.SysRet renaming int->Go.SysRet.b
open Go.Tables renaming info?->Go.Tables.l
open Go.Timer renaming name->Go.Timer.F
open Go.TypeDesc renaming slice->Go.TypeDesc.a,int->Go.TypeDesc.b,pointer->Go.TypeDesc.c,tuple->Go.TypeDesc.K,bool->Go.TypeDesc.e,string->Go.TypeDesc.g,struct->Go.TypeDesc.d
open Go.TypeInfo renaming size->Go.TypeInfo.j
open Go.Value renaming int->aI,agg->cO,string->iK,bool->bP,oneCell'->dA,float->wO,cells->dz,cells->Go.Value.D,slice->Go.Value.a,int->Go.Value.b,pointer->Go.Value.c,agg->Go.Value.d,tuple->Go.Value.K,bool->Go.Value.e,ownBlock->Go.Value.f,oneCell'->Go.Value.h,string->Go.Value.g
open Go.World renaming cell?_alloc_lt->wM,cell?_setCell_other->xC,setCell->iA,cell?->ET,frozen?->tF,setCells->DX,ownsRow_lit->qD,ownsRow_nil->fQ,heap->Go.World.a,cell?->Go.World.b,setCell->Go.World.I,ownsRow->Go.World.c,there->Go.World.S,grownBy->Go.World.d
open Go.World.grownBy renaming size->Go.World.grownBy.j
open Go.World.ownsRow renaming cells->Go.World.ownsRow.D
open Ieee renaming double->wX
open Int renaming lt_or_le->xP,natCast_emod->IU,toNat->Int.e
open List renaming getElem?_eq_getElem->aC,getElem?_drop->iY,length_take->bE,getElem?_eq_none->aT,mem_map->jf,getElem?_map->jM,getD_eq_getElem?_getD->au,eq_nil_of_length_eq_zero->bF,map_map->IX,map_cons->kV,range->eu,foldl_cons->j4,length_cons->bl,take_succ_eq_append_getElem->dU,take_of_length_le->aK,mem_append_left->BZ,append_nil->vI,getElem?_toArray->eO,map_congr_left->Dz,mem_range->fq,zipIdx_cons->Ir,length_set->aS,take_append_drop->iQ,ext_getElem?->iC,flatMap_cons->iW,getElem?_append_left->lF,getElem?_append_right->mQ,length_append->aQ,ofFn->Iu,drop_eq_getElem_cons->lG,getElem_mem->eZ,getElem?_append->ko,nil_append->dJ,all_eq_true->gq,findIdx?_eq_some_iff_getElem->fT,append_assoc->bM,take_append_of_le_length->fV,drop_of_length_le->jg,mem_cons->bD,replicate->dY,getElem?_range->xX,set_cons_succ->bH,getElem?_set->fu,pairwise_cons->gX,cons_append->gQ,length->List.a,take->List.E,getD->List.b,toArray->List.c,drop->List.G,flatMap->List.d,below->List.Y
open Nat renaming add_assoc->kY,mul_le_mul_right->dB,lt_or_ge->aZ,eq_zero_or_pos->eB,le_trans->aP,lt_of_lt_of_le->fE,le_refl->av,zero_add->bC,shiftLeft_eq->nC,pow_le_pow_right->ou,min_eq_left->lU,min_eq_right->Bz,lt_succ_self->nD,mul_one->gP,succ_mul->J6,mul_comm->DY,div_lt_iff_lt_mul->Br,mod_lt->fP,add_zero->kQ,two_pow_pos->nX,pow_add->qC,ne_of_gt->tH,le_of_lt_succ->Gq,zero_mul->J7,mod_eq_of_lt->gy,add_comm->vB,min->qO,mul_le_mul->iq,succ_pos->nG,le_succ->MQ,le_of_eq->aU,below->Nat.Y
open Ne renaming symm->jE
open Option renaming map_some->nS,getD_some->jJ,toList->Option.a,getD->Option.b
open Option.some renaming injEq->uN
open Or renaming inr->Or.a,inl->Or.b
open UInt8 renaming ofNat->aJ,toNat_ofNat'->jB,toNat_inj->mR,lt_iff_toNat_lt->AA,lt_irrefl->kL,lt_trans->uz,toNat->UInt8.e,toNat_lt->UInt8.a
open Vector renaming ofFn->EP,replicate->bG,toList->Vector.a
namespace Go.Proofs.YtkjojjopamaoiaaGreat
open Go.RowKit
abbrev gY(w:World)(v:Value):Ending->World->Prop:=fun e w'=>e=.returned v/\Below w.heap.size w w'
abbrev aA:Value:=.int .u8 0
abbrev bg:Value:=.int .i64 0
theorem uP{α:Type _}(x:α):∃y,x=y:=⟨_,rfl⟩
theorem cB{α:Type _}(x:α):∃y,y=x:=⟨_,rfl⟩

theorem apf(a b:Nat):((a:Int)==(b:Int))=(a==b):=by rw[dG];simp;omega
theorem Cq(a:aV)(n:Nat):(a.add n).block=a.block:=by unfold rU;split<;>rfl
theorem acj(a:aV)(i j:Nat):(a.add i).add j=a.add (i+j):=by
 unfold rU;by_cases hi:i=0<;>by_cases hj:j=0<;>simp[hi,hj,kY]
theorem Ph(a:aV):a.add 0=a:=by unfold rU;simp
def Rd(w:ak)(B size:Nat)(A:Option aV)(n:Nat)(xs:List aB):Prop:=
 xs.a=n*size/\(0<n->∃a,A=some a/\a.block<B/\∀j u,xs[j]? = some u->w.b (a.add j)=some u)
section
variable {w w':ak} {B B' size n:Nat} {A:Option aV} {xs:List aB}
theorem Rd.nil:Rd w B size A 0 []:=⟨by simp,fun h=>absurd h (by omega)⟩
theorem Rd.pick{k:Nat}(h:Rd w B 1 A n xs)(hk:k<n):∃a u,A=some a/\a.block<B/\xs[k]? = some u/\w.b (a.add k)=some u:=by
 obtain⟨a,e,hb,hc⟩:=h.2 (by omega);have hl:k<xs.a:=by have:=h.1;omega
 exact⟨a,xs[k],e,hb,aC hl,hc k _ (aC hl)⟩
theorem Rd.keep(h:Rd w B size A n xs)(hk:∀p:aV,p.block<B->w'.b p=w.b p):Rd w' B size A n xs:=
 ⟨h.1,fun hn=>by
  obtain⟨a,e,hb,hc⟩:=h.2 hn;exact⟨a,e,hb,fun j u hu=>(hk _ (by rw[Cq];exact hb)).trans (hc j u hu)⟩⟩
theorem Rd.lD(h:Rd w B size A n xs)(hB:B<=B'):Rd w B' size A n xs:=
 ⟨h.1,fun hn=>by
  obtain⟨a,e,hb,hc⟩:=h.2 hn;exact⟨a,e,by omega,hc⟩⟩
theorem Rd.Y(h:Rd w B size A n xs)(hb:aM B w w'):Rd w' B size A n xs:=h.keep fun _ hp=>hb.cell hp
theorem Rd.to{C:Nat}(h:Rd w B size A n xs)(hb:aM C w w')(hC:B<=C):Rd w' B size A n xs:=h.keep fun _ hp=>hb.cell (by omega)
theorem Rd.alloc(h:Rd w B size A n xs)(hB:B<=w.a.j)(o:Obj):Rd (w.alloc o) B size A n xs:=h.keep fun p hp=>wM w o p (by omega)
theorem Rd.I(h:Rd w B size A n xs){p:aV}(hB:B<=p.block)(u:aB):Rd (w.I p u) B size A n xs:=
 h.keep fun q hq=>xC w p q u (fun e=>by subst e;omega)
theorem Rd.cut(h:Rd w B size A n xs){k cap:Nat}(hk:k<=n)(hc:n<=cap):
 Rd w B size (if cap=k then A else A.map (·.add (k*size))) (n-k) (xs.G (k*size)):=by
 refine⟨by rw[List.length_drop,h.1,Nat.sub_mul],fun hn=>?_⟩;obtain⟨a,rfl,hb,hcell⟩:=h.2 (by omega);rw[if_neg (by omega)];refine⟨a.add (k*size),rfl,by rw[Cq];exact hb,fun j u hu=>?_⟩;rw[acj];exact hcell _ u (by rw[<-hu,iY])
theorem Rd.upto(h:Rd w B size A n xs){k:Nat}(hk:k<=n):Rd w B size A k (xs.E (k*size)):=by
 refine⟨by rw[bE,h.1];have:=dB size hk;omega,fun hn=>?_⟩;obtain⟨a,rfl,hb,hcell⟩:=h.2 (by omega);refine⟨a,rfl,hb,fun j u hu=>?_⟩;rcases aZ j (k*size)with h1|h1
 ·rw[List.getElem?_take_of_lt h1]at hu
  exact hcell j u hu
 ·rw[aT (by rw[bE];omega)]at hu;cases hu
theorem Rd.jh{base:Nat}{e:bL}{c:Nat}(h:w.c base e size (.a A n c) n xs):Rd w w.a.j size A n xs:=by
 refine⟨h.1,fun hn=>?_⟩;rcases h.2 with⟨_,h0⟩|⟨g,cap,cur,hv,_,_,_,_,_,_⟩
 ·omega
 ·injection hv with hA _ _
  have hl:=(h.lt g (by rw[hA];rfl)).2;exact⟨⟨g,0,none⟩,hA,hl,h.D (by rw[hA];rfl)⟩
end
def bv(b:UInt8):aB:=.b .b (b.e:Nat)
theorem Ki(l:List UInt8):∀u∈l.map bv,u.h=true:=by
 intro u hu;obtain⟨b,_,rfl⟩:=jf.1 hu;rfl
def gG(w:ak)(B:Nat)(A:Option aV)(n:Nat)(l:List UInt8):Prop:=Rd w B 1 A n (l.map bv)
section
variable {w w':ak} {B B' n:Nat} {A:Option aV} {l:List UInt8}
theorem gG.len(h:gG w B A n l):l.a=n:=by have:=h.1;simpa using this
theorem gG.dW(h:gG w B A n l){k:Nat}(hk:k<n):∃a,A=some a/\a.block<B/\w.b (a.add k)=some (bv (l.b k 0)):=by
 obtain⟨a,u,e,hb,hu,hc⟩:=Rd.pick h hk;refine⟨a,e,hb,?_⟩;rw[hc];have hl:=h.len;rw[jM,aC (by omega)]at hu;simp only[nS,uN]at hu;rw[<-hu,au,aC (by omega)];rfl
theorem gG.Y(h:gG w B A n l)(hb:aM B w w'):gG w' B A n l:=Rd.Y h hb
theorem gG.to{C:Nat}(h:gG w B A n l)(hb:aM C w w')(hC:B<=C):gG w' B A n l:=Rd.to h hb hC
theorem gG.lD(h:gG w B A n l)(hB:B<=B'):gG w B' A n l:=Rd.lD h hB
theorem gG.alloc(h:gG w B A n l)(hB:B<=w.a.j)(o:Obj):gG (w.alloc o) B A n l:=Rd.alloc h hB o
theorem gG.I(h:gG w B A n l){p:aV}(hB:B<=p.block)(u:aB):gG (w.I p u) B A n l:=Rd.I h hB u
end
def bK(l:List UInt8):ByteArray:=⟨l.c⟩
theorem QD(s:ByteArray):bK s.data.a=s:=by cases s;rfl
theorem I8{P:fB}{w:ak}{B:Nat}{A:Option aV}{n:Nat}{l:List UInt8}(h:gG w B A n l)(src e dst:bL)
 (hs:P.k src=some (.a e)) (he:P.k e=some (.b .b)) (hd:P.k dst=some .g) (c:Nat) :
 (convert src dst (.a A n c)).O P w=.ok (.g (bK l)) w:=by
 have hlen:=h.len;cases A with
 | none=>
   have h0:n=0:=by
    rcases eB n with h0|h0
    ·exact h0
    ·obtain⟨a,ha,_⟩:=h.2 h0;cases ha
   have hl:l=[]:=bF (by omega);subst hl;rw[run_convert_bytes_nil w src e hs he n c dst hd];rfl
 | some a=>
   have hld:(loadCells a n).O P w=.ok ((l.map fun b=>(b.e:Int)).map (aI .b)).c w:=by
    have hm:(l.map fun b=>(b.e:Int)).map (aI .b)=l.map bv:=by rw[IX];rfl
    rw[hm];have:=run_loadCells_list (P:=P) w a (l.map bv) (fun j v hj=>by
     have hn:0<n:=by
      rcases eB n with h0|h0
      ·have hl:l=[]:=bF (by omega)
       subst hl;simp at hj
      ·exact h0
     obtain⟨a',ha,_,hc⟩:=h.2 hn;injection ha with ha
     subst ha;exact hc j v hj)
    simpa[hlen]using this
   rw[run_convert_bytes_string w src dst e _ n c hs he hd,run_bytesToString w _ n c _ hld,foldl_push_bytes];simp[bK,ByteArray.empty,ByteArray.emptyWithCapacity,IX,Function.comp_def];rfl
theorem Cb{a w:ak}{row:Option Nat}(h:a.d w row):a.d w.drew row:=⟨h.os,h.tape,h.output,h.j,h.block⟩
theorem yX{a w:ak}{g:Nat}(h:a.d w (some g)){p:aV}(hp:p.block=g\/a.a.j<=p.block)(u:aB):a.d (w.I p u) (some g):=
 ⟨h.os,h.tape,h.output,by simpa[iA]using h.j,fun i hi hne=>(rQ w p u i (by
  rintro rfl;rcases hp with hp|hp
  ·exact hne (by rw[hp])
  ·omega)).trans (h.block i hi hne)⟩
theorem M8{a b c:ak}{row:Option Nat}(h:a.d b row)(k:b.d c row):a.d c row:=
 ⟨k.os.trans h.os,k.tape.trans h.tape,k.output.trans h.output,aP h.j k.j,fun i hi hne=>(k.block i (fE hi h.j) hne).trans (h.block i hi hne)⟩
theorem uO{B:Nat}{a b c:ak}{g:Nat}(h:aM B a b)(k:b.d c (some g))(hg:B<=g)(hB:B<=b.a.j):aM B a c:=
 h.grown k hB (fun x hx=>by injection hx with hx;omega)
theorem eD{B:Nat}{a w:ak}(h:aM B a w)(n:Nat):aM B a (w.drewN n):=⟨h.os,h.tape,h.output,h.j,h.block⟩
theorem jD{w a b:ak}(h1:aM w.a.j w a)(h2:aM a.a.j a b):aM w.a.j w b:=h1.trans (h2.g h1.j)
theorem dig(n:Nat)(h:n<256):(aJ n).e=n:=by simp[UInt8.toNat_ofNat];omega
theorem j3{w:ak}{base:Nat}{e:bL}{size:Nat}{v:aB}{n:Nat}{xs:List aB}(h:w.c base e size v n xs):∃A cap,v=.a A n cap/\n<=cap/\cap<=maxLen:=by
 rcases h.2 with⟨rfl,rfl⟩|⟨g,cap,cur,rfl,_,_,h1,h2,_,_⟩
 ·exact⟨_,_,rfl,av _,by unfold maxLen;omega⟩
 ·exact⟨_,_,rfl,h1,h2⟩
section
variable {P:fB} (w:ak)
theorem acn(base:Nat)(t ty e:bL)(i:oh)(size:Nat)(ht:P.k t=some (.a e))(hi:P.l e=some i)
 (v:aB) (n:Nat) (xs:List aB) (hown:w.c base e size v n xs) (c:Nat):(By #[t,t] ty #[v,.a none 0 c]).O P w=.ok v w:=by
 rcases hown.2 with⟨rfl,rfl⟩|⟨g,cap,cur,rfl,_,_,hnc,_⟩
 ·simp[By,dK ht,sizeOf,typeInfo,hi,Builtin.lenOf,uM]
 ·simp[By,dK ht,sizeOf,typeInfo,hi,Builtin.lenOf,uM,hnc,storeCells]
theorem aeX(base:Nat)(t ty e:bL)(i:oh)(z:aB)(size bytes:Nat)(ht:P.k t=some (.a e))(hi:P.l e=some i)(hz:i.zero=some z)
 (hsize:i.j=size) (hby:i.bytes=bytes) (hzs:z.D.j=size) (hsz:0<size)
 (v:aB) (n:Nat) (xs:List aB) (hown:w.c base e size v n xs)
 (B:Nat) (A:Option aV) (m c:Nat) (news:List aB) (hr:Rd w B size A m news) (h1:∀u∈news,u.h=true)
 (h63:n+m<=maxLen) (hbytes:(n+m)*bytes<=140737488355328) (hbase:base<=w.a.j) :
 ∃v' w',(By #[t,t] ty #[v,.a A m c]).O P w=.ok v' w'/\w'.c base e size v' (n+m) (xs++news)/\w.d w' v.f /\
  (v'.f=v.f\/v'.f=some w.a.j):=by
 rcases A with _|ad
 ·have hm:m=0:=by
   rcases eB m with h0|h0
   ·exact h0
   ·obtain⟨ad,h,_⟩:=hr.2 h0
    cases h
  subst hm;have hn:news=[]:=bF (by simpa using hr.1);subst hn;exact⟨v,w,acn w base t ty e i size ht hi v n xs hown c,by simpa using hown,World.grownBy.refl w _,.b rfl⟩
 ·have hcells:∀j u,news[j]? = some u->w.b (ad.add j)=some u:=by
   intro j u hu;rcases eB m with h0|h0
   ·subst h0
    have hn:news=[]:=bF (by simpa using hr.1);subst hn;simp at hu
   ·obtain⟨ad',h,_,hc⟩:=hr.2 h0
    injection h with h
    subst h;exact hc j u hu
  obtain⟨v',w',hrun,h2,h3,_,h5⟩:=run_append_own_at (P:=P) w base t ty e i z size bytes ht hi hz hsize hby hzs hsz v n xs hown ad m c news hr.1 hcells h1 h63 hbytes hbase;exact⟨v',w',hrun,h2,h3,h5⟩
theorem Kj{o:ji}{a:rO}{K:rO->ak->Prop}{Q:Bn->rO->ak->Prop}(s x:ql)(t:bL)
 (ho:o.op=.call {callee:=.builtin .append,args:=#[s,x],argTypes:=#[t,t]})
 (base:Nat) (e:bL) (i:oh) (z:aB) (size bytes:Nat) (ht:P.k t=some (.a e)) (hi:P.l e=some i) (hz:i.zero=some z)
 (hsize:i.j=size) (hby:i.bytes=bytes) (hzs:z.D.j=size) (hsz:0<size)
 (v:aB) (n:Nat) (xs:List aB) (hs:a.eval s=v) (hown:w.c base e size v n xs)
 (B:Nat) (A:Option aV) (m c:Nat) (news:List aB) (hx:a.eval x=.a A m c) (hr:Rd w B size A m news) (h1:∀u∈news,u.h=true)
 (h63:n+m<=maxLen) (hbytes:(n+m)*bytes<=140737488355328) (hbase:base<=w.a.j)
 (h:∀v' w',w'.c base e size v' (n+m) (xs++news)->w.d w' v.f->(v'.f=v.f\/v'.f=some w.a.j)->K (a.put o.dst v') w'):o.wp P a w K Q:=by
 obtain⟨v',w',hrun,h2,h3,h4⟩:=aeX (P:=P) w base t o.p e i z size bytes ht hi hz hsize hby hzs hsz v n xs hown B A m c news hr h1 h63 hbytes hbase;unfold nV execOp;simp only[ho,resolve,invoke,builtin,jS,oU,gW,List.map_toArray,kV,List.map_nil,hs,hx,hrun];exact h v' w' h2 h3 h4
theorem jQ{ops:Array ji}{rest:List ji}{o:ji}{a:rO}{Q:Bn->rO->ak->Prop}(hgd:o.guard=none)(s x:ql)(t:bL)
 (ho:o.op=.call {callee:=.builtin .append,args:=#[s,x],argTypes:=#[t,t]})
 (base:Nat) (e:bL) (i:oh) (z:aB) (size bytes:Nat) (ht:P.k t=some (.a e)) (hi:P.l e=some i) (hz:i.zero=some z)
 (hsize:i.j=size) (hby:i.bytes=bytes) (hzs:z.D.j=size) (hsz:0<size)
 (v:aB) (n:Nat) (xs:List aB) (hs:a.eval s=v) (hown:w.c base e size v n xs)
 (B:Nat) (A:Option aV) (m c:Nat) (news:List aB) (hx:a.eval x=.a A m c) (hr:Rd w B size A m news) (h1:∀u∈news,u.h=true)
 (h63:n+m<=maxLen) (hbytes:(n+m)*bytes<=140737488355328) (hbase:base<=w.a.j)
 (h:∀v' w',w'.c base e size v' (n+m) (xs++news)->w.d w' v.f->(v'.f=v.f\/v'.f=some w.a.j)->wpList P ops Q rest (a.put o.dst v') w'):wpList P ops Q (o::rest) a w:=
 uq hgd fun _ hK=>Kj w s x t ho base e i z size bytes ht hi hz hsize hby hzs hsz v n xs hs hown B A m c news hx hr h1 h63 hbytes hbase fun v' w' h2 h3 h4=>hK _ _ (h v' w' h2 h3 h4)
end
theorem LZ:(ah.l 5).map (fun i=>(i.zero,i.j,i.bytes))=some (some (.b .b 0),1,1):=by kernel_rfl
def I9(n i:Nat):UInt8:=aJ (n/2^(8*i))
def xk(n k:Nat):List UInt8:=(eu k).map (I9 n)
def jd(n k:Nat)(big:Bool):List UInt8:=if big then(xk n k).reverse else xk n k
theorem alf(f:Nat->Int)(k m n i:Nat)(hm:m+k+1=n)(hkm:k<m)(hi:i<n)(x y:Int)(hx:x=f k)(hy:y=f m):
 (if i=m then aI .b x else if i=k then aI .b y else aI .b (if i<k\/n-k<=i then f (n-1-i)else f i)) =
  aI .b (if i<k+1\/n-(k+1)<=i then f (n-1-i)else f i):=by
 subst hx hy;by_cases h1:i=m
 ·subst h1
  rw[if_pos rfl,if_pos (by omega)];congr 2;omega
 ·rw[if_neg h1]
  by_cases h2:i=k
  ·subst h2
   rw[if_pos rfl,if_pos (by omega)];congr 2;omega
  ·rw[if_neg h2]
   by_cases h3:i<k\/n-k<=i
   ·rw[if_pos h3,if_pos (by omega)]
   ·rw[if_neg h3,if_neg (by omega)]
theorem aco(g n c:Nat)(f:Nat->Int)(w:ak)(hb:w.rowIs g 5 n (fun j=>.b .b (f j)))(hn:n<=4611686018427387904):
 aR ah 255 #[.a (some ⟨g,0,none⟩) n c] w fun e w'=>e=.a (.K #[]) /\
  w'.rowIs g 5 n (fun j=>.b .b (f (n-1-j)))/\w.d w' (some g):=by
 go_enter Tryz.func255,Tryz.ntmps255;go_wp2;go_loopw [2,3] (fun s2 s3 wr=>∃k:Nat,2*k<=n+1/\s2=.b .a k/\s3=.b .a ((n:Int)-1-k)/\wr.rowIs g 5 n (fun j=>.b .b (if j<k\/n-k<=j then f (n-1-j)else f j))/\w.d wr (some g)) (fun _ s3 _=>(intOf s3+1).e)
 case atStart=>exact⟨0,by omega,rfl,by simp,hb.congr (fun i hi=>by rw[if_neg (by omega)]),World.grownBy.refl _ _⟩
 case round=>
  obtain⟨k,hk,rfl,rfl,hrow,hg⟩:=hrel;by_cases hlt:(k:Int)<(n:Int)-1-k
  ·obtain⟨m,hm⟩:∃m:Nat,(n:Int)-1-k=m:=⟨n-1-k,by omega⟩
   have hm1:k<m:=by omega
   have hm2:m+k+1=n:=by omega
   rw[hm]at hlt ⊢;clear hm;have HM:=ab hm2;have c1:=hrow.cell (i:=k) (by omega);have c2:=hrow.cell (i:=m) (by omega);have f1:=hrow.frozen k;have f2:=hrow.frozen m;rw[if_neg (by omega)]at c1 c2;have hb1:(k:Int)<n:=by omega
   have hb2:(m:Int)<n:=by omega
   clear hm2;obtain⟨x,hx⟩:=cB (f k);obtain⟨y,hy⟩:=cB (f m);rw[<-hx]at c1;rw[<-hy]at c2;have HX:=ab hx;have HY:=ab hy;clear hx hy;have HR:=ab hrow;clear hrow;go_wp2;go_region
   all_goals go_wp2
   all_goals go_roundw
   case rel=>
    have hm2:=HM.i;refine⟨k+1,by omega,by go_num,by simp<;>omega,?_,?_⟩
    ·refine(((HR.i.drew.set k _).set m _)).congr (fun i hi=>?_)
     exact alf f k m n i hm2 hm1 hi x y HX.i HY.i
    ·exact yX (yX (Cb hg) (.b rfl) _) (.b rfl) _
   case measure=>simp[intOf]<;>omega
  ·go_wp2
   go_end0;refine⟨rfl,hrow.congr (fun i hi=>?_),hg⟩;by_cases h1:i<k\/n-k<=i
   ·rw[if_pos h1]
   ·rw[if_neg h1]
    have:n-1-i=i:=by omega
    rw[this]
theorem alg(n i:Nat):((I9 n i).e:Int)=(n:Int)/2^(8*i)%256:=by
 unfold I9;simp[UInt8.toNat_ofNat]
theorem apg(n k:Nat)(hk:k<=8)(hn:n<18446744073709551616)(big:Bool)(w:ak):
 aR ah 184 #[.b .c n,.b .a k,.e big] w fun e w'=>e=.a (.a (some ⟨w.a.j,0,none⟩) k k) /\
  w'.rowIs w.a.j 5 k (fun j=>bv ((jd n k big).b j 0))/\aM w.a.j w w':=by
 have hmk:=run_make_row' (P:=ah) 56 5 (.b .b 0) 1 dD LZ rfl .a .a k (by omega) (by omega);go_enter Tryz.func184,Tryz.ntmps184;go_wp2;go_loopw [15] (fun s15 wr=>∃i:Nat,i<=k/\s15=.b .a i/\wr.rowIs w.a.j 5 k (fun j=>if j<i then bv (I9 n j)else .b .b 0)/\aM w.a.j w wr) (fun s15 _=>k-(intOf s15).e)
 case atStart=>
  refine⟨0,by omega,rfl,?_,(aG _ _).alloc (av _) _⟩;exact(World.rowIs_made w (.b .b 0) k _).congr (fun i hi=>by simp)
 case round=>
  obtain⟨i,hi,rfl,hrow,hb⟩:=hrel;by_cases hlt:i<k
  ·have c1:=hrow.cell hlt
   have f1:=hrow.frozen i;rw[if_neg (by omega)]at c1;have hlb:=alg n i;have HL:=ab hlb;have HR:=ab hrow;have HB:=ab hb;clear hlb hrow hb hmk;go_wp2;go_roundw
   case rel=>
    refine⟨i+1,by omega,by go_num,?_,?_⟩
    ·refine(HR.i.set i _).congr (fun j hj=>?_)
     by_cases e:j=i
     ·subst e
      rw[if_pos rfl,if_pos (by omega)];unfold bv;rw[HL.i]
     ·rw[if_neg e]
      by_cases e2:j<i
      ·rw[if_pos e2,if_pos (by omega)]
      ·rw[if_neg e2,if_neg (by omega)]
    ·exact HB.i.I (av _) _
   case measure=>simp[intOf]<;>omega
  ·obtain rfl:i=k:=by omega
   have HB:=ab hb;clear hb hmk;cases big
   ·have HR:=ab hrow
    clear hrow;go_wp2;go_ret;refine⟨rfl,HR.i.congr (fun j hj=>?_),HB.i⟩;rw[if_pos hj];simp[jd,xk,au,hj]
   ·have hrow2:wr.rowIs w.a.j 5 i (fun j=>.b .b ((I9 n j).e:Nat)):=hrow.congr (fun j hj=>by rw[if_pos hj];rfl)
    have hrev:=fun c=>aco w.a.j i c (fun j=>((I9 n j).e:Nat)) wr hrow2 (by omega)
    clear hrow hrow2;go_wp2_with (go_at_call 255;refine(hrev _).g ?_;rintro e w' ⟨rfl,hr',hg'⟩);go_ret;refine⟨rfl,hr'.congr (fun j hj=>?_),uO HB.i hg' (av _) HB.i.j⟩;simp[jd,xk,au,List.getElem?_reverse,hj,bv]
def o9(l:List UInt8):Nat:=l.foldl (fun a c=>a*256+c.e) 0
theorem Ja(l:List UInt8)(c:UInt8):o9 (l++[c])=o9 l*256+c.e:=by simp[o9]
theorem Kk(l:List UInt8):o9 l<256^l.a:=by
 have key:∀(l:List UInt8)(a k:Nat),a<256^k->l.foldl (fun a c=>a*256+c.e) a<256^(k+l.a):=by
  intro l
  induction l with
  | nil=>intro a k h;simpa using h
  | cons c l ih=>
    intro a k h;have:=ih (a*256+c.e) (k+1) (by rw[Nat.pow_succ];have:=c.a;omega);simp only[j4,bl];rw[show k+(l.a+1)=k+1+l.a by omega];exact this
 have:=key l 0 0 (by simp);rw[bC]at this;exact this
theorem Uq(l:List UInt8)(k:Nat)(h:k<l.a):l.E (k+1)=l.E k++[l.b k 0]:=by
 rw[dU h,au,aC h];rfl
theorem aha(a c:Nat)(ha:a*256<18446744073709551616)(hc:c<256):bits .or .c ((a:Int)*256) (c:Int)=((a*256+c:Nat):Int):=by
 rw[show(a:Int)*256=((a*256:Nat):Int)by omega,bits_or_u64_nat _ _ ha (by omega)];rw[show a*256=a <<< 8 by rw[nC],Nat.shiftLeft_add_eq_or_of_lt (by omega)]
theorem Na(A:Option aV)(n c:Nat)(l:List UInt8)(w:ak)(hnc:n<=c)(hc:c<=9223372036854775807)(hr:gG w w.a.j A n l):
 aR ah 180 #[.a A n c,.e true] w (gY w (.b .c (o9 (l.E 8)))):=by
 have hlen:=hr.len;have hr2:=hr.alloc (av _) (.D #[.b .c 0] 92);obtain⟨m,hm,hm8,hmn⟩:∃m:Nat,(if(8:Int)<(n:Int)then(8:Int)else(n:Int))=m/\m<=8/\m<=n:=⟨min n 8,by split<;>omega,by omega,by omega⟩
 have hmm:m=min n 8:=by split at hm<;>omega
 have HMM:=ab hmm;have hnl:n<=l.a:=by omega
 have HLEN:=ab hlen;clear hlen hmm;go_enter Tryz.func180,Tryz.ntmps180;go_wp2;have HM:=ab hm;clear hm;go_loopw [18] (fun s18 wr=>∃i:Nat,i<=m/\s18=.b .a i/\wr.rowIs w.a.j 92 1 (fun _=>.b .c (o9 (l.E i)))/\gG wr w.a.j A n l/\aM w.a.j w wr) (fun s18 _=>m-(intOf s18).e)
 case atStart=>exact⟨0,by omega,rfl,(World.rowIs_alloc w #[.b .c 0] _ _ (fun i hi=>by simp at hi;subst hi;rfl)),hr2,(aG _ _).alloc (av _) _⟩
 case round=>
  obtain⟨i,hi,rfl,hrow,hrd,hb⟩:=hrel;by_cases hlt:i<m
  ·obtain⟨a,rfl,hab,hcell⟩:=hrd.dW (k:=i) (by omega)
   have c1:=hrow.cell (i:=0) (by omega);have f1:=hrow.frozen 0;have hbn:=Kk (l.E i);have hsn:=Ja (l.E i) (l.b i 0);rw[<-Uq l i (by omega)]at hsn;have Tm:o9 (l.E i)*256<18446744073709551616:=by
    have h1:(l.E i).a<=7:=by rw[bE];omega
    have h2:256^(l.E i).a<=256^7:=ou (by omega) h1;omega
   have hor:=aha (o9 (l.E i)) (l.b i 0).e Tm (l.b i 0).a;have Ew:=ab hsn;have HR:=ab hrow;have HD:=ab hrd;have HB:=ab hb;have aiB:=(l.b i 0).a;unfold bv at hcell;generalize(l.b i 0).e=ch at hcell hor aiB Ew;generalize o9 (l.E i)=nn at c1 Tm hor Ew HR;clear hrow hrd hb hsn hbn hr hr2;go_wp2;go_roundw
   case rel=>
    refine⟨i+1,by omega,by go_num,?_,?_,?_⟩
    ·refine(HR.i.set 0 _).congr (fun j hj=>?_)
     rw[if_pos (by omega),Ew.i];go_num
    ·exact HD.i.I (av _) _
    ·exact HB.i.I (av _) _
   case measure=>simp[intOf]<;>omega
  ·obtain rfl:i=m:=by omega
   have c1:=hrow.cell (i:=0) (by omega);have HB:=ab hb;clear hrow hrd hb hr hr2;go_wp2;go_ret;refine⟨?_,HB.i⟩;have hmm:=HMM.i;have hlen:=HLEN.i;have e:l.E 8=l.E i:=by
    rw[hmm];by_cases h8:n<=8
    ·rw[lU h8,aK (by omega),aK (by omega)]
    ·rw[Bz (by omega)]
   rw[e];rfl
section
open Go.ChangeShapes Go.WideShapes Go.ChangeAt Go.RowKit
theorem vM:ownKnob ah.godebug=none:=by kernel_rfl
theorem ahb:laidOutB ah=true:=by kernel_rfl
section
variable {H:Type} {enc:bL×aB->H} {P:fB}
theorem Lm(hl:laidOutB P=true){W W':ak}(hb:aM W.a.j W W'):∀{ts:List bL} {vs:List aB} {ds:List (Ay H)} {ps:List uw},
 (ts.all fun t=>P.readableRec t&&decide (t<P.types.j))=true->(∀x∈ps,x.block<W.a.j) ->
 DataW.TrodAll enc P W 0 (fun _=>true) true ts vs ds ps->DataW.TrodAll enc P W' 0 (fun b=>decide (b<W.a.j)) true ts vs ds ps
 | [],vs,ds,ps,_,_,h=>by
   obtain⟨rfl,rfl,rfl⟩:=trodAll_nil h;exact trodAll_mk0
 | t::ts,vs,ds,ps,hr,hlt,h=>by
   obtain⟨v,vs',d,ds',p,q,rfl,rfl,rfl,h1,h2⟩:=trodAll_cons h;simp only[List.all_cons,bf,decide_eq_true_eq]at hr;exact trodAll_cons_mk (Below.trod hl hr.1.1 hr.1.2 h1 hb (fun x hx=>hlt x (BZ _ hx)))
    (Lm hl hb hr.2 (fun x hx=>hlt x (List.mem_append_right _ hx)) h2)
theorem alh{f:Func}{s:ChangeSpec}(hl:laidOutB P=true){W W':ak}{args:Array aB}{ds gs:List (Ay H)}{before:List uw}
 (hvars:s.vars=[]) (hr:(f.params.a.all fun t=>P.readableRec t&&decide (t<P.types.j))=true) (T:bL) (hT:P.k T=some .e) (hres:f.resultTypes = #[T])
 (hW:DataW.Whole enc P f.params.a s.vars false W args.a ds gs before)
 (hs:s.fn H ds={results:=[.lit (.e true)],args:=ds})
 (hb:aM W.a.j W W'):s.post enc P f false true false false W args (.e true) W':=by
 have hlt:∀p∈before,p.block<W.a.j:=fun p hp=>hW.lt p hp
 have hW':=hW;obtain⟨p,q,hA,hV,rfl,hfz,hnd⟩:=hW;rw[hvars]at hV;obtain⟨rfl,rfl⟩:=trodVars_none hV;refine⟨ds,[],p++[],[],p,[],hW',?_,?_,?_,?_,fun h=>by cases h⟩
 ·rw[vI,hs,hres]
  exact trodAll_mk1 (shut_bool hT true)
 ·rw[vI,hs]
  exact Lm hl hb hr (fun x hx=>hlt x (BZ _ hx)) hA
 ·rw[vI,hs,hvars]
  rfl
 ·exact hb.frame _
end
end
@[go_sem,simp]theorem Lp(l:List UInt8):(bK l).a=l:=ByteArray.toList_mk l
@[go_sem,simp]theorem DZ(l:List UInt8):(bK l).j=l.a:=by simp[bK,ByteArray.size]
def tL(w:ak)(e:bL)(s:List UInt8):ak:=Lib.bytesWorld w e (bK s)
theorem Ie(w:ak)(e:bL)(s:List UInt8):aM w.a.j w (tL w e s):=
 ⟨rfl,rfl,rfl,by unfold tL;rw[Lib.bytesWorld_size];omega,fun k hk=>Lib.bytesWorld_at_old w e _ k hk⟩
theorem Ig(w:ak)(e:bL)(s:List UInt8):gG (tL w e s) (w.a.j+1) (some ⟨w.a.j,0,none⟩) s.a s:=by
 refine⟨by simp,fun _=>⟨_,rfl,nD _,fun j u hu=>?_⟩⟩;have hj:j<s.a:=by
  rcases aZ j s.a with h1|h1
  ·exact h1
  ·rw[aT (by simpa using h1)]at hu;cases hu
 have e1:(⟨w.a.j,0,none⟩:aV).add j=⟨w.a.j,j,none⟩:=by unfold rU;split<;>simp_all
 rw[e1];unfold tL;rw[Lib.bytesWorld_cell w e _ j (by rw[DZ];exact hj)];rw[jM,aC hj]at hu;simp only[nS,uN]at hu;rw[<-hu];simp[bK,bv,au,hj]
theorem Jb{P:fB}(src dst e:bL)(hs:P.k src=some .g)(hd:P.k dst=some (.a e))(he:P.k e=some (.b .b))(s:List UInt8)(w:ak):
 (convert src dst (.g (bK s))).O P w=.ok (.a (some ⟨w.a.j,0,none⟩) s.a (grownCap w s.a 0 e)) (tL w e s):=by
 have:=Lib.run_convert_string_bytes (P:=P) w src dst e (bK s) hs hd he;rw[DZ]at this;exact this
section
open Go.RowKit Go.ChangeShapes Go.WideShapes Go.ChangeAt Go.Deep
def fv(n:Nat):aB:=.float .f64 n
@[go_sem]theorem aGs(n:Nat):fv n=.float .f64 n:=rfl
section
variable {P:fB}
theorem nK(w:ak)(c:Array aB)(t:bL)(j:Nat):(w.alloc (.D c t)).b ⟨w.a.j,j,none⟩=c[j]?:=
 uy _ _ j c t (0,0) (heap_alloc_last w _)
end
def yE(W:ak)(b o n:Nat):Prop:=∀j,j<n->∃v,W.b ⟨b,o+j,none⟩=some v
def eH(W:ak)(b o n:Nat):Array aB:=((eu n).map fun j=>(W.b ⟨b,o+j,none⟩).b undef).c
theorem Gt(W:ak)(b o n:Nat):(eH W b o n).j=n:=by simp[eH]
theorem Jc(W:ak)(b o n j:Nat)(hj:j<n):(eH W b o n)[j]? = some ((W.b ⟨b,o+j,none⟩).b undef):=by
 simp[eH,eO,hj]
theorem vN{W:ak}{b o n:Nat}{c:Array aB}(hn:c.j=n)(h:∀j,j<n->W.b ⟨b,o+j,none⟩=c[j]?):yE W b o n/\eH W b o n=c:=by
 subst hn;constructor
 ·intro j hj
  exact⟨c[j],by rw[h j hj];exact fH hj⟩
 ·apply dZ
  intro j;rcases aZ j c.j with hj|hj
  ·rw[Jc _ _ _ _ _ hj,h j hj,fH hj];rfl
  ·rw[aW (by rw[Gt];exact hj),aW hj]
theorem Gu{W W':ak}{b o n:Nat}(h:∀j,j<n->W'.b ⟨b,o+j,none⟩=W.b ⟨b,o+j,none⟩):eH W' b o n=eH W b o n:=by
 unfold eH;congr 1;refine Dz (fun j hj=>?_);rw[h j (fq.1 hj)]
@[go_sem]theorem axL(W:ak)(b o n:Nat):yE W.drew b o n=yE W b o n:=by rw[eq_iff_iff];exact Iff.rfl
@[go_sem]theorem aph(W:ak)(b o n:Nat):eH W.drew b o n=eH W b o n:=rfl
@[go_sem]theorem awC(W:ak)(k b o n:Nat):yE (W.drewN k) b o n=yE W b o n:=by rw[eq_iff_iff];exact Iff.rfl
@[go_sem]theorem aoT(W:ak)(k b o n:Nat):eH (W.drewN k) b o n=eH W b o n:=rfl
@[go_sem]theorem aoU(W:ak)(ob:Obj)(b o n:Nat)(hb:b<W.a.j):eH (W.alloc ob) b o n=eH W b o n:=
 Gu fun j _=>wM W ob _ hb
@[go_sem]theorem aoV(W:ak)(ob:Obj)(b o n:Nat)(hb:b<W.a.j):yE (W.alloc ob) b o n=yE W b o n:=by
 have h:∀j,(W.alloc ob).b ⟨b,o+j,none⟩=W.b ⟨b,o+j,none⟩:=fun j=>wM W ob _ hb
 unfold yE;simp only[h]
theorem ZJ(w:ak)(c:Array aB)(t:bL)(o n:Nat)(d:Array aB)(hd:d.j=n)(h:∀j,j<n->c[o+j]? = d[j]?):
 yE (w.alloc (.D c t)) w.a.j o n/\eH (w.alloc (.D c t)) w.a.j o n=d:=
 vN hd fun j hj=>by rw[nK];exact h j hj
theorem kH{P:fB}(W:ak)(b o n:Nat)(ty:bL)(d:TypeDesc)(hu:P.k ty=some d)(hd:d.isRow=true)(hi:(P.l ty).map (·.j)=some n)(h:yE W b o n):
 (dw ty (.c (some ⟨b,o,none⟩))).O P W=.ok (.d (eH W b o n)) W:=by
 have hc:W.rangeAt b o (eH W b o n).a:=fun j v hv=>by
  have hj:j<n:=by
   rcases aZ j n with h1|h1
   ·exact h1
   ·rw[aT (by rw[aY,Gt];exact h1)]at hv;cases hv
  rw[dH,Jc _ _ _ _ _ hj]at hv;obtain⟨u,hu⟩:=h j hj;rw[hu]at hv ⊢;exact hv
 have:=run_loadAt_mid (P:=P) W b o ty (eH W b o n).a d hc hu hd (by rw[hi,aY,Gt]);simpa using this
theorem QE{w W:ak}{b o n B:Nat}(h:w.S b o n)(hb:aM B w W)(hlt:b<B):W.S b o n:=fun j hj=>by
 obtain⟨h1,h2⟩:=h j hj;exact⟨by rw[hb.cell hlt];exact h1,by rw[hb.frozen hlt];exact h2⟩
theorem aiC{w W:ak}{c:Array aB}{t:bL}(hb:aM (w.alloc (.D c t)).a.j (w.alloc (.D c t)) W):∀k,W.b ⟨w.a.j,k,none⟩=c[k]?:=fun k=>by
 rw[hb.cell (p:=⟨w.a.j,k,none⟩) (by simp)];exact nK w c t k
theorem oL(c:Array aB)(o n j:Nat)(hj:j<n)(h:o+n<=c.j):(c.extract o (o+n))[j]? = c[o+j]?:=by
 rw[cu];simp;omega
def eU(c:Array aB):Nat:=c.j
@[go_sem]theorem aA1(W:ak)(c:Array aB)(t:bL)(b o n:Nat)(hb:b=W.a.j)(h:o+n<=eU c):yE (W.alloc (.D c t)) b o n=True:=by
 subst hb;unfold eU at h;simp only[eq_iff_iff,iff_true];exact(ZJ W c t o n (c.extract o (o+n)) (by rw[jA];omega) (fun j hj=>(oL c o n j hj h).symm)).1
@[go_sem]theorem ar1(W:ak)(c:Array aB)(t:bL)(b o n:Nat)(hb:b=W.a.j)(h:o+n<=eU c):eH (W.alloc (.D c t)) b o n=c.extract o (o+n):=by
 subst hb;unfold eU at h;exact(ZJ W c t o n (c.extract o (o+n)) (by rw[jA];omega) (fun j hj=>(oL c o n j hj h).symm)).2
theorem Ur{W w1:ak}(hb:aM W.a.j W w1):
 (∀b o,b<W.a.j->w1.b ⟨b,o,none⟩=W.b ⟨b,o,none⟩)/\(∀b o,b<W.a.j->w1.frozen? ⟨b,o,none⟩=W.frozen? ⟨b,o,none⟩) /\
 (∀b o n,b<W.a.j->yE w1 b o n=yE W b o n)/\(∀b o n,b<W.a.j->eH w1 b o n=eH W b o n)/\W.a.j<=w1.a.j:=by
 refine⟨fun b o h=>hb.cell (p:=⟨b,o,none⟩) h,fun b o h=>hb.frozen (p:=⟨b,o,none⟩) h,fun b o n h=>?_,fun b o n h=>Gu fun j _=>hb.cell (p:=⟨b,o+j,none⟩) h,hb.j⟩;unfold yE;have:∀j,w1.b ⟨b,o+j,none⟩=W.b ⟨b,o+j,none⟩:=fun j=>hb.cell (p:=⟨b,o+j,none⟩) h
 simp only[this]
@[go_sem]theorem aA2(W:ak)(p:aV)(v:aB)(b o n:Nat):yE (W.I p v) b o n=yE W b o n:=by
 rw[eq_iff_iff];unfold yE;refine forall_congr' fun j=>forall_congr' fun hj=>?_
 by_cases hp:p=⟨b,o+j,none⟩
 ·subst hp
  cases h:W.b ⟨b,o+j,none⟩with
  | none=>
    have:(W.I ⟨b,o+j,none⟩ v).b ⟨b,o+j,none⟩=none:=by
     cases h2:(W.I ⟨b,o+j,none⟩ v).b ⟨b,o+j,none⟩with
     | none=>rfl
     | some u=>
       exfalso;cases hb:W.a[b]? with
       | none=>simp[ET,iA,Az,hb]at h2
       | some ob=>
         cases ob<;>simp_all[ET,iA,Az]
    simp[this]
  | some u=>simp[World.cell?_setCell_same _ _ _ h]
 ·rw[xC _ _ _ _ hp]
@[go_sem]theorem ar2(W:ak)(p:aV)(v:aB)(b o n:Nat)(hp:p.block≠b):eH (W.I p v) b o n=eH W b o n:=
 Gu fun j _=>xC _ _ _ _ (fun e=>hp (by rw[e]))
def dP(W:ak)(b:Nat)(c:Array aB):Prop:=∃t,W.a[b]? = some (.D c t (0,0))
theorem dP.lt{W:ak}{b:Nat}{c:Array aB}(h:dP W b c):b<W.a.j:=by
 obtain⟨t,h⟩:=h;exact(bY.1 h).1
theorem dP.new(W:ak)(c:Array aB)(t:bL):dP (W.alloc (.D c t)) W.a.j c:=⟨t,Ia W _⟩
theorem dP.Us(W:ak)(ob:Obj)(c:Array aB)(t:bL):dP ((W.alloc ob).alloc (.D c t)) (W.a.j+1) c:=by
 have:=dP.new (W.alloc ob) c t
 rwa [show(W.alloc ob).a.j=W.a.j+1 by simp]at this
theorem dP.aiD(W:ak)(ob Ih:Obj)(c:Array aB)(t:bL):dP (((W.alloc ob).alloc Ih).alloc (.D c t)) (W.a.j+2) c:=by
 have:=dP.Us (W.alloc ob) Ih c t
 rwa [show(W.alloc ob).a.j+1=W.a.j+2 by simp]at this
theorem dP.alloc{W:ak}{b:Nat}{c:Array aB}(h:dP W b c)(ob:Obj):dP (W.alloc ob) b c:=by
 have hl:=h.lt;obtain⟨t,h⟩:=h;exact⟨t,by rw[Below.heap_alloc W ob b hl];exact h⟩
theorem dP.drew{W:ak}{b:Nat}{c:Array aB}(h:dP W b c):dP W.drew b c:=h
theorem dP.drewN{W:ak}{b:Nat}{c:Array aB}(h:dP W b c)(n:Nat):dP (W.drewN n) b c:=h
theorem dP.Y{W W':ak}{b B:Nat}{c:Array aB}(h:dP W b c)(hb:aM B W W')(hl:b<B):dP W' b c:=by
 obtain⟨t,h⟩:=h;exact⟨t,by rw[hb.block b hl];exact h⟩
theorem dP.grown{W W':ak}{b:Nat}{c:Array aB}{row:Option Nat}(h:dP W b c)(hg:W.d W' row)(hl:some b≠row):dP W' b c:=by
 have hl2:=h.lt;obtain⟨t,h⟩:=h;exact⟨t,by rw[hg.block b hl2 hl];exact h⟩
theorem dP.dQ{W:ak}{b:Nat}{c:Array aB}(h:dP W b c)(p:aV)(v:aB)(hp:p.block≠b):dP (W.I p v) b c:=by
 obtain⟨t,h⟩:=h;exact⟨t,by rw[rQ W p v b (fun e=>hp e.symm)];exact h⟩
theorem dP.fC{W:ak}{b:Nat}{c:Array aB}(h:dP W b c)(j:Nat)(v:aB):dP (W.I ⟨b,j,none⟩ v) b (c.c j v):=by
 obtain⟨t,h⟩:=h;exact⟨t,by rw[setCell_eq_setRow W b j c t (0,0) v h];exact su W b c _ t (0,0) h⟩
theorem dP.R{W:ak}{b:Nat}{c:Array aB}(h:dP W b c):
 (∀j,W.b ⟨b,j,none⟩=c[j]?)/\(∀j,W.frozen? ⟨b,j,none⟩=false)/\(∀o n,o+n<=eU c->yE W b o n=True)/\(∀o n,o+n<=eU c->eH W b o n=c.extract o (o+n)):=by
 obtain⟨t,h⟩:=h;have hc:∀j,W.b ⟨b,j,none⟩=c[j]?:=fun j=>uy W b j c t (0,0) h
 refine⟨hc,fun j=>by simp[tF,h],fun o n hn=>?_,fun o n hn=>?_⟩
 ·unfold eU at hn
  simp only[eq_iff_iff,iff_true];exact(vN (c:=c.extract o (o+n)) (by rw[jA];omega) (fun j hj=>by rw[hc,oL c o n j hj hn])).1
 ·unfold eU at hn
  exact(vN (c:=c.extract o (o+n)) (by rw[jA];omega) (fun j hj=>by rw[hc,oL c o n j hj hn])).2
theorem dP.S{W:ak}{b:Nat}{c:Array aB}(h:dP W b c)(o n:Nat)(hn:o+n<=c.j):W.S b o n:=by
 obtain⟨t,h⟩:=h;intro j hj;have hj':o+j<c.j:=by omega
 refine⟨by rw[uy W b (o+j) c t (0,0) h,fH hj'];rfl,by simp[tF,h]⟩
theorem Lr(l:List aB):∀(k off:Nat)(cells:Array aB)(j:Nat),
 ((l.zipIdx k).foldl (fun cs (x:aB×Nat)=>cs.c (off+x.2) x.1) cells)[j]? = if off+k<=j/\j<off+k+l.a/\j<cells.j then l[j-(off+k)]? else cells[j]?:=by
 induction l with
 | nil=>intro k off cells j;simp;omega
 | cons v l ih=>
   intro k off cells j;rw[Ir,j4,ih (k+1) off];simp only[Array.size_setIfInBounds,bl,Array.getElem?_setIfInBounds];by_cases h1:off+k<=j/\j<off+k+(l.a+1)/\j<cells.j
   ·by_cases h2:off+k=j
    ·subst h2
     have:¬off+(k+1)<=off+k:=by omega
     simp[this,h1.2.2]
    ·have h3:off+(k+1)<=j/\j<off+(k+1)+l.a/\j<cells.j:=by omega
     rw[if_pos h3,if_pos h1,show j-(off+k)=(j-(off+(k+1)))+1 by omega,List.getElem?_cons_succ]
   ·have h3:¬(off+(k+1)<=j/\j<off+(k+1)+l.a/\j<cells.j):=by omega
    rw[if_neg h3,if_neg h1];by_cases h2:off+k=j
    ·subst h2
     have:¬off+k<cells.j:=by simp at h1;omega
     simp[this]
    ·simp[h2]
theorem Ut(v cells:Array aB)(h:v.j=cells.j):Array.foldl (fun cs (x:aB×Nat)=>cs.c (0+x.2) x.1) cells v.zipIdx=v:=by
 apply dZ;intro j;have h1:=Lr v.a 0 0 cells j;rw[<-DW,Array.toList_zipIdx,h1];by_cases hj:j<cells.j
 ·simp[h,hj]
 ·simp[hj];omega
theorem sM{P:fB}(w:ak)(t e:bL)(i:oh)(z:aB)(size:Nat)(ht:P.k t=some (.a e))(hi:P.l e=some i)(hz:i.zero=some z)(hsize:i.j=size)(hzs:z.D.j=size)(h0:0<size)(h24:size<=16777216)(c:Array aB)(hc:c.j=size):
 (bJ t 1 #[(0,.d c)]).O P w=.ok (.a (some ⟨w.a.j,0,none⟩) 1 1) (w.alloc (.D c e)):=by
 have hx:(cO c).D=c:=rfl;have hfw:=Ut c ((mK (1*size)).map (z.D[· % z.D.j]!)) (by simp[hc]);have hne:¬size=0:=by omega
 have aCB:¬16777216<size:=by omega
 simp only[bC,Nat.one_mul,Array.size_zipIdx,hc]at hfw;simp[bJ,dK ht,sizeOf,typeInfo,zeroValue,hi,hz,hsize,hne,aCB,fJ,hx,hc,newRow,hfw]
theorem dP.go{W w1:ak}{b:Nat}{c:Array aB}(h:dP W b c)(hb:aM W.a.j W w1):dP w1 b c:=h.Y hb h.lt
theorem ali{w W w1:ak}(h:aM w.a.j w W)(hb:aM W.a.j W w1):aM w.a.j w w1:=jD h hb
theorem axM{w W w1:ak}{ob:Obj}(h:aM w.a.j w W)(hb:aM (W.alloc ob).a.j (W.alloc ob) w1):aM w.a.j w w1:=jD (h.alloc h.j ob) hb
def tC(cells:Array aB)(off:Nat)(v:Array aB):Array aB:=v.zipIdx.foldl (fun cs (x:aB×Nat)=>cs.c (off+x.2) x.1) cells
theorem EX(cells v:Array aB)(off j:Nat):(tC cells off v)[j]? = if off<=j/\j<off+v.j/\j<cells.j then v[j-off]? else cells[j]?:=by
 have h:=Lr v.a 0 off cells j;unfold tC;rw[<-DW,Array.toList_zipIdx,h];simp
theorem EZ(place:Nat->Option (Nat×Nat))(cells:Array aB)(i off size:Nat)(v:aB)(rest:List (Nat×aB))(hp:place i=some (off,size))(hs:v.D.j=size)(hf:off+size<=cells.j):
 fJ place cells ((i,v)::rest)=fJ place (tC cells off v.D) rest:=by
 have h1:(decide (v.D.j≠size)||decide (off+v.D.j>cells.j))=false:=by
  rw[hs];simp;omega
 rw[fJ,hp];simp only[h1,tC];rfl
theorem XZ(cells v:Array aB)(off:Nat):(tC cells off v).j=cells.j:=by
 unfold tC;generalize v.zipIdx=l;rw[<-DW];generalize l.a=l
 induction l generalizing cells with
 | nil=>rfl
 | cons x l ih=>rw[j4,ih];simp
theorem alj(cells:Array aB)(off:Nat)(v:aB):tC cells off #[v]=cells.c off v:=by
 simp[tC]
theorem Pj(c:Array aB):(cO c).D=c:=rfl
theorem Pm{P:fB}(w:ak)(t:bL)(fs:Array oz)(i:oh)(z:Array aB)(ps:Array (Nat×aB))(cells:Array aB)(places:Array (Nat×Nat))(ht:P.k t=some (.d fs))(hi:P.l t=some i)(hz:i.zero=some (.d z))
 (hp:(iI (fun f=>Prod.mk f.offset <$> sizeOf f.p) fs:yA (Array (Nat×Nat))).O P w=.ok places w) (hf:fJ (places[·]?) z ps.a=some cells):(fU t ps).O P w=.ok (.d cells) w:=by
 simp only[fU,zeroValue,typeInfo,jS,gW,dK ht];simp[hi,hz,hp,Pj,hf]
theorem jH{w w':ak}{base size n:Nat}{e:bL}{v:aB}{xs:List aB}(h:w.c base e size v n xs)(hb:aM w.a.j w w'):w'.c base e size v n xs:=
 ⟨h.1,h.2.imp id fun⟨g,cap,cur,h1,h2,h3,h4⟩=>⟨g,cap,cur,h1,h2,(hb.block g (bY.1 h3).1).trans h3,h4⟩⟩
theorem jT{w:ak}{base size n:Nat}{e:bL}{v:aB}{xs:List aB}(h:w.c base e size v n xs){p:aV}(hp:p.block<base)(u:aB):(w.I p u).c base e size v n xs:=
 ⟨h.1,h.2.imp id fun⟨g,cap,cur,h1,h2,h3,h4⟩=>⟨g,cap,cur,h1,h2,(rQ w p u g (by omega)).trans h3,h4⟩⟩
theorem wJ{w:ak}{base size n:Nat}{e:bL}{v:aB}{xs:List aB}(h:w.c base e size v n xs)(ob:Obj):(w.alloc ob).c base e size v n xs:=h.alloc ob
theorem iU{w:ak}{base base' size n:Nat}{e:bL}{v:aB}{xs:List aB}(h:w.c base e size v n xs)(hb:base'<=base):w.c base' e size v n xs:=
 ⟨h.1,h.2.imp id fun⟨g,cap,cur,h1,h2,h3,h4⟩=>⟨g,cap,cur,h1,aP hb h2,h3,h4⟩⟩
theorem Tp{w:ak}{base size n g c:Nat}{e:bL}{xs:List aB}(h:w.c base e size (.a (some ⟨g,0,none⟩) n c) n xs)(j:Nat)(hj:j<n*size)(u:aB):
 (w.I ⟨g,j,none⟩ u).c base e size (.a (some ⟨g,0,none⟩) n c) n (xs.set j u):=by
 refine⟨by rw[aS];exact h.1,?_⟩;rcases h.2 with⟨hv,h0⟩|⟨g',cap,cur,hv,h2,h3,h4,h5,h6,h7⟩
 ·cases hv
 ·injection hv with e1 e2 e3
  injection e1 with e1
  injection e1 with e1
  subst e1 e3;refine .a ⟨g,c,cur.c j u,rfl,h2,?_,h4,h5,by rw[Array.size_setIfInBounds];exact h6,?_⟩
  ·rw[setCell_eq_setRow w g j cur e (0,0) u h3];exact su w g cur _ e (0,0) h3
  ·rw[Array.toList_setIfInBounds,List.take_set,h7]
theorem Ls(b:Nat)(t:bL)(fr:Nat×Nat):∀(vs:List aB)(o:Nat)(c:Array aB)(W:ak),W.a[b]? = some (.D c t fr) ->
 (W.setCells b o vs).a[b]? = some (.D ((vs.zipIdx o).foldl (fun cs (x:aB×Nat)=>cs.c x.2 x.1) c) t fr)
 | [],_,_,_,h=>h
 | v::r,o,c,W,h=>by
   rw[DX,Ir,j4];exact Ls b t fr r (o+1) _ _ (by rw[setCell_eq_setRow W b o c t fr v h];exact su W b c _ t fr h)
section
variable {H:Type} {enc:bL×aB->H} {P:fB} {w:ak} {base:Nat} {spare:Nat->Bool} {held:Bool} {fuel:Nat} {t:bL} {cs:List aB} {x:Ay H×List uw}
theorem Uu(ht:P.k t=some .g)(h:mM enc P w base spare held fuel t cs=some x):∃l:List UInt8,cs=[.g (bK l)]/\l.a<=9223372036854775807:=by
 obtain⟨s,rfl,_,hs⟩:=DataW.trod_string ht h;refine⟨s.data.a,by rw[QD],?_⟩;have h2:s.j<=9223372036854775807:=by unfold maxLen at hs;omega
 show s.data.a.a<=_;rw[aY];exact h2
theorem tN(ht:P.k t=some (.b .a))(h:mM enc P w base spare held fuel t cs=some x):∃z:Int,cs=[.b .a z]/\-9223372036854775808<=z/\z<=9223372036854775807:=by
 obtain⟨z,rfl,_,hz⟩:=DataW.trod_int ht h;have : -9223372036854775808<=z/\z<=9223372036854775807:=by simpa[Lit.wf,J4,J5,mH,oH]using hz
 exact⟨z,rfl,this⟩
theorem ahc(ht:P.k t=some (.b .b))(h:mM enc P w base spare held fuel t cs=some x):∃b:UInt8,cs=[bv b]:=by
 obtain⟨z,rfl,_,hz⟩:=DataW.trod_int ht h;have h2:0<=z/\z<=255:=by simpa[Lit.wf,J4,J5,mH,oH]using hz
 refine⟨aJ z.e,?_⟩;unfold bv;congr 2;rw[jB];omega
theorem acp(ht:P.k t=some (.float .f64))(h:mM enc P w base spare held fuel t cs=some x):∃n:Nat,cs=[fv n]/\n<18446744073709551616:=by
 cases fuel with
 | zero=>simp[mM]at h
 | succ m=>
   unfold mM at h;rw[ht]at h;split at h<;>simp_all;rename_i heq;subst heq;obtain⟨⟨_,hw⟩,_⟩:=h;exact⟨_,rfl,by simpa[Lit.wf]using hw⟩
theorem K6{fs:Array oz}{n:Nat}{xs:List (Ay H×List uw)}(hl:xs.a=fs.j)(hf:∀(i:Nat)(f:oz),fs[i]? = some f->mM enc P w base spare held n f.p ((cs.G f.offset).E (P.a f.p))=xs[i]?)
 (j:Nat) (f:oz) (hj:fs[j]? = some f):∃y,mM enc P w base spare held n f.p ((cs.G f.offset).E (P.a f.p))=some y:=by
 have hlt:j<xs.a:=by have:=(bY.1 hj).1;omega
 exact⟨xs[j],(hf j f hj).trans (aC hlt)⟩
theorem ru{α:Type}(l:List α)(o n:Nat):l.G o=(l.G o).E n++l.G (o+n):=by
 rw[<-List.drop_drop];exact(iQ n _).symm
theorem Nb{k:Nat}{e:bL}(ht:P.k t=some (.array k e))(he:P.k e=some (.b .b))(hc:P.a e=1)(hk:P.a t=k)(h:mM enc P w base spare held fuel t cs=some x):∃v:Vector UInt8 k,cs=v.a.map bv:=by
 obtain⟨xs,m,_,_,hl,hxl,hf⟩:=DataW.trod_array ht h;rw[hk]at hl;have hg:∀i,i<k->∃b:UInt8,cs[i]? = some (bv b):=fun i hi=>by
  have h1:=hf i hi;rw[hc,gP,aC (by omega)]at h1;obtain⟨b,hb⟩:=ahc he h1;refine⟨b,?_⟩;rw[take1_drop cs i undef (by omega)]at hb;simp only[List.cons.injEq,and_true]at hb;rw[aC (by omega),<-hb,au,aC (by omega)];rfl
 obtain⟨f,hf⟩:∃f:Nat->UInt8,∀i,i<k->cs[i]? = some (bv (f i)):=by
  refine⟨fun i=>if hi:i<k then(hg i hi).choose else 0,fun i hi=>?_⟩;simp only[hi,dif_pos];exact(hg i hi).choose_spec
 refine⟨EP fun i:Fin k=>f i,?_⟩;apply iC;intro i;rcases aZ i k with hi|hi
 ·rw[hf i hi]
  simp[hi]
 ·rw[aT (by omega),aT (by simpa using hi)]
end
theorem vO{α:Type}(f:α->Array aB)(size:Nat)(hs:∀x,(f x).j=size)(l:List α)(k j:Nat)(hk:k<l.a)(hj:j<size):(l.d fun x=>(f x).a)[k*size+j]? = (f (l[k]'hk))[j]?:=by
 induction l generalizing k with
 | nil=>simp at hk
 | cons x l ih=>
   rw[iW];rcases k with _|k
   ·rw[lF (by rw[aY,hs];omega),dH]
    simp
   ·rw[mQ (by rw[aY,hs,J6];omega),aY,hs,show(k+1)*size+j-size=k*size+j by rw[J6];omega]
    rw[bl]at hk;simpa using ih k (by omega)
theorem uE{α:Type}(f:α->Array aB)(size:Nat)(hs:∀x,(f x).j=size)(l:List α):(l.d fun x=>(f x).a).a=l.a*size:=by
 induction l with
 | nil=>simp
 | cons x l ih=>rw[iW,aQ,ih,aY,hs,bl,J6];omega
section
variable {H:Type} {enc:bL×aB->H} {P:fB} {w:ak} {base:Nat} {held:Bool} {fuel:Nat} {t:bL} {cs:List aB} {x:Ay H×List uw}
theorem Pn{α:Type}(f:α->Array aB)(Po:α->Prop)(size:Nat)(hfs:∀x,(f x).j=size){e:bL}(ht:P.k t=some (.a e))(hc:P.a e=size)(hpos:0<size)
 (hrd:∀(n:Nat)(cs:List aB)(y:Ay H×List uw),mM enc P w base (fun _=>true) held n e cs=some y->∃a,cs=(f a).a/\Po a)
 (h:mM enc P w base (fun _=>true) held fuel t cs=some x) :
 ∃(A:Option aV)(n c:Nat)(l:List α),cs=[.a A n c]/\n<=c/\c<=9223372036854775807/\l.a=n/\Rd w w.a.j size A n (l.d fun x=>(f x).a)/\(∀a,A=some a->0<n->a=⟨a.block,a.off,none⟩)/\∀a∈l,Po a:=by
 rcases open_slice ht h with⟨rfl,_⟩|⟨a,len,cap,m,n,D,Pl,rfl,_,hl,hm,hmm,_,hi⟩
 ·exact⟨none,0,0,[],rfl,av _,by omega,rfl,Rd.nil,(fun a h=>by cases h),by simp⟩
 ·rw[if_pos rfl]at hmm
  have hg:∀i,i<len->∃b:α,Po b/\∀j,j<size->w.b (a.add (i*size+j))=(f b)[j]?:=fun i hlt=>by
   obtain⟨cs',h1,h2⟩:=hi i (by omega);obtain⟨_,hlen,hcell⟩:=World.cells?_some h1;obtain⟨b,hb,hgd⟩:=hrd _ _ _ h2;rw[hc]at hcell;refine⟨b,hgd,fun j hj=>?_⟩;have:=hcell j hj;rw[acj,hb,dH]at this;exact this
  obtain⟨F,hF⟩:∃F:Fin len->α,∀i:Fin len,Po (F i)/\∀j,j<size->w.b (a.add (i*size+j))=(f (F i))[j]?:=
   ⟨fun i=>(hg i i.2).choose,fun i=>(hg i i.2).choose_spec⟩
  have hll:(Iu F).a=len:=List.length_ofFn;have hcl:∀k (hk:k<len) j,j<size->((Iu F).d fun x=>(f x).a)[k*size+j]? = w.b (a.add (k*size+j)):=fun k hk j hj=>by
   rw[vO f size hfs _ k j (by omega) hj,List.getElem_ofFn];exact((hF ⟨k,hk⟩).2 j hj).symm
  refine⟨some a,len,cap,Iu F,rfl,hl,by unfold maxLen at hm;omega,hll,⟨by rw[uE f size hfs,hll],fun h0=>⟨a,rfl,?_,fun j u hu=>?_⟩⟩,fun a' ha h0=>?_,fun b hb=>?_⟩
  ·have h1:=hcl 0 h0 0 hpos
   have h2:=vO f size hfs (Iu F) 0 0 (by omega) hpos;have h3:w.b (a.add (0*size+0))=some ((f ((Iu F)[0]'(by omega)))[0]'(by rw[hfs];exact hpos)):=by rw[<-h1,h2];exact fH _
   have:=World.block_lt_of_cell? _ _ h3
   rwa [Cq]at this
  ·have hj:j<len*size:=by
    rcases aZ j (len*size)with h1|h1
    ·exact h1
    ·rw[aT (by rw[uE f size hfs,hll];exact h1)]at hu;cases hu
   have e1:j=j/size*size+j%size:=by rw[DY];exact(Nat.div_add_mod j size).symm
   have:=hcl (j/size) ((Br hpos).2 hj) (j%size) (fP _ hpos);rw[<-e1]at this;rw[<-this];exact hu
  ·injection ha with ha
   subst ha;have h1:=hcl 0 h0 0 hpos;have h2:=vO f size hfs (Iu F) 0 0 (by omega) hpos;have h3:w.b (a.add (0*size+0))=some ((f ((Iu F)[0]'(by omega)))[0]'(by rw[hfs];exact hpos)):=by rw[<-h1,h2];exact fH _
   rw[show 0*size+0=0 by omega,Ph]at h3;have hs:=World.cell?_spot h3;obtain⟨b,o,s⟩:=a;simp at hs;rw[hs]
  ·obtain⟨i,rfl⟩:=List.mem_ofFn.1 hb
   exact(hF i).1
end
section
variable {P:fB}
theorem Lu(d:Nat){e:bL}(he:P.k e=some (.b .b))(l m:List UInt8)(w:ak)(hlm:l.a=m.a):∀(j k:Nat),j+k=l.a ->
 (KZ (d+1) e 1 (l.map bv).c (m.map bv).c (List.range' k j)).O P w=.ok (l.G k==m.G k) w
 | 0,k,h=>by
   have h1:l.G k=[]:=List.drop_eq_nil_of_le (by omega);have h2:m.G k=[]:=List.drop_eq_nil_of_le (by omega);simp[KZ,h1,h2]
 | j+1,k,h=>by
   have hk:k<l.a:=by omega
   have hk':k<m.a:=by omega
   have hp:P.plainKey e=true:=by simp[Program.plainKey,he]
   have p1:(part e (l.map bv).c (k*1)).O P w=.ok (bv l[k]) w:=run_part_plain w hp (by simp[hk]);have p2:(part e (m.map bv).c (k*1)).O P w=.ok (bv m[k]) w:=run_part_plain w hp (by simp[hk']);have p3:(je (d+1) e (bv l[k]) (bv m[k])).O P w=.ok (l[k]==m[k]) w:=by
    simp only[bv,je,jS,dK he,gW,if_true,oU];congr 1;rw[dG];simp only[beq_iff_eq];constructor
    ·intro h;exact mR.1 (by omega)
    ·intro h;rw[h]
   rw[List.range'_succ];simp only[KZ,jS,p1,p2,p3,gW];have ih:=Lu d he l m w hlm j (k+1) (by omega);have e3:(l.G k==m.G k)=((l[k]==m[k])&&(l.G (k+1)==m.G (k+1))):=by
    rw[lG hk,lG hk'];rfl
   rw[e3];cases(l[k]==m[k])
   ·simp
   ·simpa using ih
theorem Ii(d:Nat){t e:bL}{n:Nat}(hu:P.k t=some (.array n e))(hsz:(P.l e).map (·.j)=some 1)(he:P.k e=some (.b .b))(l m:List UInt8)(hl:l.a=n)(hm:m.a=n)(w:ak):
 (je (d+2) t (.d (l.map bv).c) (.d (m.map bv).c)).O P w=.ok (l==m) w:=by
 obtain⟨i,hi,hs⟩:∃i,P.l e=some i/\i.j=1:=by
  cases h:P.l e with
  | none=>simp[h]at hsz
  | some i=>exact⟨i,rfl,by simpa[h]using hsz⟩
 rw[run_equalIn_array w (d+1) _ _ hu hi];have hc:P.a e=1:=by simp[BD,hi,hs]
 rw[hc,List.range_eq_range',Lu d he l m w (by omega) n 0 (by omega)];simp
end
theorem ahd{n:Nat}(a b:Vector UInt8 n):(a.a==b.a)=decide (a=b):=by
 rw[dG];simp only[beq_iff_eq,decide_eq_true_eq];constructor
 ·intro h;exact Vector.toList_inj.1 h
 ·intro h;rw[h]
theorem ng{P:fB}{e:bL}(he:(match P.k e with|some (.d _)|some (.array _ _)|none=>false|_=>true)=true){xs:Array aB}{off:Nat}{v:aB}(hx:xs[off]? = some v)(w:ak):(part e xs off).O P w=.ok v w:=by
 cases hu:P.k e with
 | none=>simp[hu]at he
 | some d=>cases d<;>simp[hu]at he<;>simp[part,isAgg,dK hu,hx]
theorem Cy{P:fB}{e:bL}{n:Nat}(he:(match P.k e with|some (.d _)|some (.array _ _)=>true|_=>false)=true)(hs:(P.l e).map (·.j)=some n)(xs:Array aB)(off:Nat)(w:ak):(part e xs off).O P w=.ok (.d (xs.extract off (off+n))) w:=by
 obtain⟨i,hi,hi2⟩:∃i,P.l e=some i/\i.j=n:=by
  cases h:P.l e with
  | none=>simp[h]at hs
  | some i=>exact⟨i,rfl,by simpa[h]using hs⟩
 have hc:P.a e=n:=by simp[BD,hi,hi2]
 cases hu:P.k e with
 | none=>simp[hu]at he
 | some d=>cases d<;>simp[hu]at he<;>simp[part,isAgg,dK hu,run_sizeOf w hi,hc]
theorem ZL(a b:Bool)(d:Nat)(W:ak):(je (d+1) 4 (.e a) (.e b)).O ah W=.ok (a==b) W:=by
 simp only[je,jS,dK om,gW,oU]
theorem Pp(a b:List UInt8)(d:Nat)(W:ak):(je (d+1) 9 (.g (bK a)) (.g (bK b))).O ah W=.ok (a==b) W:=by
 rw[run_equalIn_string W d _ _ _ iZ,Lp,Lp]
theorem yY(a b:Int)(d:Nat)(W:ak):(je (d+1) 3 (.b .a a) (.b .a b)).O ah W=.ok (a==b) W:=by
 simp only[je,jS,dK fI,gW,if_true,oU]
theorem gB{P:fB}(d:Nat)(xs ys:Array aB)(f:oz)(fs:List oz)(h:f.F ≠ "_")(W:ak)(a b:aB)(r r':Bool)
 (p:(part f.p xs f.offset).O P W=.ok a W) (q:(part f.p ys f.offset).O P W=.ok b W) (e:(je d f.p a b).O P W=.ok r W)
 (rest:(vw d xs ys fs).O P W=.ok r' W):(vw d xs ys (f::fs)).O P W=.ok (r&&r') W:=by
 simp only[vw,h,ne_eq,not_false_eq_true,if_true,jS,p,q,e,gW];cases r
 ·simp
 ·simpa using rest
def iT{α:Type}(f:α->Array aB)(s:Nat)(w:ak)(B:Nat)(A:Option aV)(n:Nat)(l:List α):Prop:=
 l.a=n/\Rd w B s A n (l.d fun x=>(f x).a)/\∀a,A=some a->0<n->a=⟨a.block,a.off,none⟩
section
variable {α:Type} {f:α->Array aB} {s:Nat} {w w':ak} {B B' n:Nat} {A:Option aV} {l:List α}
theorem iT.nil(w:ak)(B:Nat):iT f s w B none 0 []:=⟨rfl,Rd.nil,fun a h _=>by cases h⟩
theorem iT.len(h:iT f s w B A n l):l.a=n:=h.1
theorem iT.Y(h:iT f s w B A n l)(hb:aM B w w'):iT f s w' B A n l:=⟨h.1,Rd.Y h.2.1 hb,h.2.2⟩
theorem iT.to{C:Nat}(h:iT f s w B A n l)(hb:aM C w w')(hC:B<=C):iT f s w' B A n l:=⟨h.1,Rd.to h.2.1 hb hC,h.2.2⟩
theorem iT.lD(h:iT f s w B A n l)(hB:B<=B'):iT f s w B' A n l:=⟨h.1,Rd.lD h.2.1 hB,h.2.2⟩
theorem iT.drew(h:iT f s w B A n l):iT f s w.drew B A n l:=h
theorem iT.alloc(h:iT f s w B A n l)(hB:B<=w.a.j)(o:Obj):iT f s (w.alloc o) B A n l:=⟨h.1,Rd.alloc h.2.1 hB o,h.2.2⟩
theorem iT.up(h:iT f s w w.a.j A n l)(ob:Obj):iT f s (w.alloc ob) (w.alloc ob).a.j A n l:=(h.alloc (av _) ob).lD (by simp)
theorem iT.ar3(h:iT f s w w.a.j A n l):iT f s w.drew w.drew.a.j A n l:=h
theorem iT.go{W w1:ak}(h:iT f s W W.a.j A n l)(hb:aM W.a.j W w1):iT f s w1 w1.a.j A n l:=(h.Y hb).lD hb.j
theorem iT.aCC(h:iT f s w B A n l){p:aV}(u:aB)(hp:∀a,A=some a->p.block≠a.block):iT f s (w.I p u) B A n l:=by
 obtain⟨h1,h2,h3⟩:=h;refine⟨h1,⟨h2.1,fun hn=>?_⟩,h3⟩;obtain⟨a,e,hb,hc⟩:=h2.2 hn;refine⟨a,e,hb,fun j u' hu=>?_⟩;rw[xC _ _ _ _ (fun e2=>by have:=hp a e;rw[e2,Cq]at this;omega)];exact hc j u' hu
theorem iT.cell(hs:∀x,(f x).j=s)(d:α){k:Nat}(h:iT f s w B A n l)(hk:k<n):∃b o,A=some ⟨b,o,none⟩/\b<B/\∀j,j<s->w.b ⟨b,o+k*s+j,none⟩=(f (l.b k d))[j]?:=by
 obtain⟨h1,h2,h3⟩:=h;obtain⟨a,hA,hb,hc⟩:=h2.2 (by omega);have ha:=h3 a hA (by omega);refine⟨a.block,a.off,by rw[hA,<-ha],hb,fun j hj=>?_⟩;have hk':k<l.a:=by omega
 have hg:=vO f s hs l k j hk' hj;have hx:l.b k d=l[k]:=by rw[au,aC hk'];rfl
 have hs1:(f (l[k]'hk'))[j]? = some ((f (l[k]'hk'))[j]'(by rw[hs];exact hj)):=fH _;rw[hs1]at hg;rw[hx,hs1];have:=hc _ _ hg;rw[ha,iL]at this;rw[<-this,kY]
theorem iT.dW(hs:∀x,(f x).j=s)(d:α){k:Nat}(h:iT f s w B A n l)(hk:k<n):∃b o,A=some ⟨b,o,none⟩/\b<B/\yE w b (o+k*s) s/\eH w b (o+k*s) s=f (l.b k d):=by
 obtain⟨b,o,hA,hb,hc⟩:=h.cell hs d hk;exact⟨b,o,hA,hb,vN (hs _) hc⟩
theorem iT.one(x:α)(hs:∀x,(f x).j=s)(w:ak)(t:bL):iT f s (w.alloc (.D (f x) t)) (w.alloc (.D (f x) t)).a.j (some ⟨w.a.j,0,none⟩) 1 [x]:=
 ⟨rfl,⟨by simp[hs],fun _=>⟨_,rfl,by simp,by
  intro j v hv;rw[iL,bC];have:=nK w (f x) t j;rw[this];simpa using hv⟩⟩,fun a h _=>by injection h with h;rw[<-h]⟩
end
theorem alk{α:Type}(f:α->Array aB)(s:Nat)(hs:∀x,(f x).j=s)(l:List α):(l.d fun x=>(f x).a).a=l.a*s:=uE f s hs l
theorem aiE{α:Type}(f:α->Array aB)(l:List α)(x:α):(l.d fun x=>(f x).a)++(f x).a=(l++[x]).d fun x=>(f x).a:=by simp
theorem acr{α:Type}(f:α->Array aB)(l m:List α):(l.d fun x=>(f x).a)++(m.d fun x=>(f x).a)=(l++m).d fun x=>(f x).a:=by simp
theorem Fa{α:Type}(f:α->Array aB)(h1:∀x,(f x).all (·.h)=true)(l:List α):∀u∈(l.d fun x=>(f x).a),u.h=true:=by
 intro u hu;obtain⟨x,_,hx⟩:=List.mem_flatMap.1 hu;exact gK.1 (h1 x) u (by simpa using hx)
theorem pE{α:Type}(d:α)(l:List α)(i:Nat)(hi:i<l.a):l.E i++[l.b i d]=l.E (i+1):=by
 rw[dU hi,au,aC hi];rfl
theorem Fb{α:Type}(d:α)(l:List α)(i:Nat)(hi:i<l.a):l.b i d∈l:=by
 rw[au,aC hi];simp
theorem iT.jh{α:Type}{f:α->Array aB}{s:Nat}{w:ak}{base n:Nat}{e:bL}{l:List α}{A:Option aV}{c:Nat}(hn:l.a=n)(h:w.c base e s (.a A n c) n (l.d fun x=>(f x).a)):iT f s w w.a.j A n l:=
 ⟨hn,Rd.jh h,fun a ha _=>by
  rcases h.2 with⟨hv,h0⟩|⟨g,cap,cur,hv,_⟩
  ·injection hv with e1 _ _
   rw[e1]at ha;cases ha
  ·injection hv with e1 _ _
   rw[e1]at ha;injection ha with ha
   rw[<-ha]⟩
theorem ZO(w:ak)(c:Array aB)(s:Nat)(hc:c.j=s)(t:bL):Rd (w.alloc (.D c t)) (w.a.j+1) s (some ⟨w.a.j,0,none⟩) 1 c.a:=
 ⟨by rw[aY,hc,Nat.one_mul],fun _=>⟨_,rfl,nD _,fun j v hv=>by
  rw[iL,bC,nK w c t j];simpa using hv⟩⟩
theorem Uv{w:ak}{base size n:Nat}{e:bL}{v:aB}{xs:List aB}(h:w.c base e size v n xs){p:aV}(hp:v.f≠some p.block)(u:aB):(w.I p u).c base e size v n xs:=by
 refine⟨h.1,?_⟩;rcases h.2 with hn|⟨g,cap,cur,rfl,h2,h3,h4⟩
 ·exact .b hn
 ·exact .a ⟨g,cap,cur,rfl,h2,(rQ w p u g (fun e=>hp (by rw[<-e];rfl))).trans h3,h4⟩
theorem Uw{w:ak}{g:Nat}(vs:List aB):∀(o:Nat)(W:ak),w.d W (some g)->w.d (W.setCells g o vs) (some g):=by
 induction vs with
 | nil=>exact fun _ _ h=>h
 | cons v vs ih=>
   intro o W h;rw[DX];refine ih (o+1) _ ⟨h.os,h.tape,h.output,by simpa[iA]using h.j,fun k hk hne=>?_⟩;rw[rQ W _ v k (fun e=>hne (by rw[e]))];exact h.block k hk hne
theorem yZ{w:ak}{B g:Nat}(hg:B<=g)(vs:List aB):∀(o:Nat)(W:ak),aM B w W->aM B w (W.setCells g o vs):=by
 induction vs with
 | nil=>exact fun _ _ h=>h
 | cons v vs ih=>intro o W h;rw[DX];exact ih (o+1) _ (h.I hg v)
theorem nb{x:Option Nat}{a b c:Nat}(h:x=some a\/x=some b)(h1:c≠a)(h2:c≠b):x≠some c:=by
 rcases h with rfl|rfl<;>(intro e;injection e with e;omega)
theorem Ux(b:Nat)(t:bL)(vs:List aB)(o:Nat)(c:Array aB)(W:ak)(h:W.a[b]? = some (.D c t (0,0))):(W.setCells b o vs).a[b]? = some (.D (tC c o vs.c) t (0,0)):=by
 have:=Ls b t (0,0) vs o c W h;rw[this];unfold tC;congr 2;rw[<-DW,Array.toList_zipIdx];have:∀(vs:List aB)(k:Nat)(c:Array aB),(List.foldl (fun cs (x:aB×Nat)=>cs.c x.2 x.1) c (vs.zipIdx (o+k)))=List.foldl (fun cs (x:aB×Nat)=>cs.c (o+x.2) x.1) c (vs.zipIdx k):=by
  intro vs
  induction vs with
  | nil=>intros;rfl
  | cons v vs ih=>intro k c;rw[Ir,Ir,j4,j4,kY,ih]
 have h2:=this vs 0 c;simpa using h2
theorem dP.alm{W:ak}{b:Nat}{c:Array aB}(h:dP W b c)(d:Array aB)(hc:d.j=c.j):dP (W.setCells b 0 d.a) b d:=by
 obtain⟨t,h⟩:=h;refine⟨t,?_⟩;have h1:=Ux b t d.a 0 c W h;rw[h1];congr 2;exact Ut d c hc
end
section
open Go.RowKit Go.ChangeShapes Go.WideShapes Go.ChangeAt Go.Deep
def txA(s:List UInt8):Array aB:=#[.g (bK s)]
theorem aln(s:List UInt8):(txA s).j=1:=rfl
abbrev RdT:=iT txA 1
theorem iT.text{W:ak}{B n:Nat}{A:Option aV}{l:List (List UInt8)}{k:Nat}(h:RdT W B A n l)(hk:k<n):∃b o,A=some ⟨b,o,none⟩/\b<B/\W.b ⟨b,o+k,none⟩=some (.g (bK (l.b k []))):=by
 obtain⟨b,o,hA,hb,hc⟩:=iT.cell aln [] h hk;refine⟨b,o,hA,hb,?_⟩;have:=hc 0 (by omega);rw[gP,kQ]at this;exact this
def xq(l:List (List UInt8)):List aB:=l.d fun x=>(txA x).a
theorem QF(l:List (List UInt8))(s:List UInt8):xq l++[.g (bK s)]=xq (l++[s]):=by simp[xq,txA]
theorem ZU:∃i:oh,ah.l 9=some i/\i.zero=some (.g ⟨#[]⟩)/\i.j=1/\i.bytes<=400:=by
 cases h:ah.l 9 with
 | none=>exact absurd h (by have:(ah.l 9).isSome=true:=by kernel_rfl
                            intro e;rw[e]at this;cases this)
 | some i=>
   have h1:(ah.l 9).map (·.j)=some 1:=by kernel_rfl
   have h2:(ah.l 9).map (fun i=>decide (i.bytes<=400))=some true:=by kernel_rfl
   have h3:(ah.l 9).map (·.zero)=some (some (.g ⟨#[]⟩)):=by kernel_rfl
   rw[h]at h1 h2 h3;simp at h1 h2 h3;exact⟨i,rfl,h3,h1,h2⟩
def TxP(w:ak)(m:List (List UInt8))(e:lJ)(w':ak):Prop:=
 ∃A n c,e=.a (.a A n c)/\m.a=n/\w'.c w.a.j 9 1 (.a A n c) n (xq m)/\aM w.a.j w w'
end
section
open Go.RowKit Go.ChangeShapes Go.WideShapes Go.ChangeAt Go.Deep
structure Hl where
 F:List UInt8
 down:Bool
 O:Int
deriving DecidableEq
def Hl.ay(x:Hl):Array aB:=#[iK (bK x.F),bP x.down,aI .a x.O]
theorem Hl.J(x:Hl):x.ay.j=3:=by simp[Hl.ay]
@[go_sem]theorem Hl.eU(x:Hl):eU x.ay=3:=Hl.J x
@[go_sem]theorem Hl.qW(x:Hl):x.ay[0]? = some (.g (bK x.F)):=rfl
@[go_sem]theorem Hl.Ij(x:Hl):x.ay[1]? = some (.e x.down):=rfl
@[go_sem]theorem Hl.Ya(x:Hl):x.ay[2]? = some (.b .a x.O):=rfl
theorem Hl.dx(x:Hl):x.ay.all (·.h)=true:=by simp[Hl.ay,dA]
@[go_sem]theorem Hl.kG(x:Hl):x.ay.extract 0 3=x.ay:=by
 have:=Hl.J x;rw[<-this];simp
def lY:Hl:=⟨[],false,0⟩
@[go_sem]theorem axN:cO #[iK {data:=#[]},bP false,aI bT 0]=cO lY.ay:=rfl
@[go_sem]theorem aty:Obj.cells #[iK {data:=#[]},bP false,aI bT 0] 100=Obj.cells lY.ay 100:=rfl
def alo(v:aB):yA aB:=dw 100 v
def ZV(v x:aB):yA Unit:=eY 100 v x
@[go_sem ↓]theorem awD(v:aB):dw 100 v=alo v:=rfl
@[go_sem ↓]theorem atz(v x:aB):eY 100 v x=ZV v x:=rfl
@[go_sem]theorem aA3(W:ak)(b o:Nat)(h:yE W b o 3):(alo (.c (some ⟨b,o,none⟩))).O ah W=.ok (.d (eH W b o 3)) W:=
 kH W b o 3 _ _ rV rfl (by kernel_rfl) h
@[go_sem]theorem apj(W:ak)(c:Array aB)(x:Hl)(b:Nat)(hb:b=W.a.j)(hc:eU c=3):
 (ZV (.c (some ⟨b,0,none⟩)) (.d x.ay)).O ah (W.alloc (.D c 100))=.ok () (W.alloc (.D x.ay 100)):=by
 subst hb;exact Ad W _ c x.ay (by rw[Hl.J];kernel_rfl) (by rw[Hl.J];exact hc) (Hl.dx x)
def Uy(W:ak)(b o:Nat)(x:Hl):ak:=W.setCells b o x.ay.a
@[go_sem]theorem axO(W:ak)(b o:Nat)(x:Hl)(h:W.S b o 3):(ZV (.c (some ⟨b,o,none⟩)) (.d x.ay)).O ah W=.ok () (Uy W b o x):=
 ER W b o _ x.ay (by rw[Hl.J];exact h) (by rw[Hl.J];kernel_rfl) (Hl.dx x)
theorem dP.axP{W:ak}{b:Nat}{c:Array aB}(h:dP W b c)(hc:c.j=3)(x:Hl):dP (Uy W b 0 x) b x.ay:=h.alm x.ay (by rw[Hl.J,hc])
theorem QG{w W:ak}{B:Nat}(h:aM B w W)(b o:Nat)(x:Hl)(hb:B<=b):aM B w (Uy W b o x):=yZ hb _ o W h
def aiF(x y:Hl):Bool:=(x.F==y.F)&&((x.down==y.down)&&((x.O==y.O)&&true))
theorem ahf(x y:Hl):aiF x y=decide (x=y):=by
 rw[dG];cases x;cases y;simp[aiF]
theorem aiG:ah.k 100=some (.d (ah.fieldsOf 100)):=by
 simp only[jr,rV]
theorem apk:∃f1 f2 f3:oz,(ah.fieldsOf 100).a=[f1,f2,f3]/\(f1.F ≠ "_" /\ f2.F ≠ "_" /\ f3.F ≠ "_")/\(f1.p=9/\f1.offset=0)/\(f2.p=4/\f2.offset=1)/\(f3.p=3/\f3.offset=2):=by
 refine⟨_,_,_,by simp only[jr,rV];rfl,⟨?_,?_,?_⟩,⟨rfl,rfl⟩,⟨rfl,rfl⟩,⟨rfl,rfl⟩⟩<;>decide
theorem aiH(x y:Hl)(d:Nat)(W:ak):(je (d+2) 100 (.d x.ay) (.d y.ay)).O ah W=.ok (aiF x y) W:=by
 rw[wF W (d+1) _ _ _ aiG Tryz.stoodInHeld100];obtain⟨f1,f2,f3,hl,⟨n1,n2,n3⟩,⟨t1,o1⟩,⟨t2,o2⟩,⟨t3,o3⟩⟩:=apk;rw[hl];have p1:∀z:Hl,(part f1.p z.ay f1.offset).O ah W=.ok (.g (bK z.F)) W:=fun z=>by
  rw[t1,o1];exact ng (by simp only[iZ]) (Hl.qW z) W
 have p2:∀z:Hl,(part f2.p z.ay f2.offset).O ah W=.ok (.e z.down) W:=fun z=>by
  rw[t2,o2];exact ng (by simp only[om]) (Hl.Ij z) W
 have p3:∀z:Hl,(part f3.p z.ay f3.offset).O ah W=.ok (.b .a z.O) W:=fun z=>by
  rw[t3,o3];exact ng (by simp only[fI]) (Hl.Ya z) W
 exact(gB _ _ _ _ _ n1 W _ _ _ _ (p1 x) (p1 y) (by rw[t1];exact Pp _ _ _ W) (gB _ _ _ _ _ n2 W _ _ _ _ (p2 x) (p2 y) (by rw[t2];exact ZL _ _ _ W) (gB _ _ _ _ _ n3 W _ _ _ _ (p3 x) (p3 y) (by rw[t3];exact yY _ _ _ W) (by simp[vw]))))
@[go_sem ↓]theorem aGu(x y:Hl)(W:ak):(je 10000 100 (.d x.ay) (.d y.ay)).O ah W=.ok (aiF x y) W:=aiH x y 9998 W
theorem Pq:∃i:oh,ah.l 100=some i/\i.zero=some (.d lY.ay)/\i.j=3/\i.bytes<=400:=by
 cases h:ah.l 100 with
 | none=>exact absurd h (by have:(ah.l 100).isSome=true:=by kernel_rfl
                            intro e;rw[e]at this;cases this)
 | some i=>
   have h1:(ah.l 100).map (·.j)=some 3:=by kernel_rfl
   have h2:(ah.l 100).map (fun i=>decide (i.bytes<=400))=some true:=by kernel_rfl
   have h3:(ah.l 100).map (·.zero)=some (some (.d lY.ay)):=by kernel_rfl
   rw[h]at h1 h2 h3;simp at h1 h2 h3;exact⟨i,rfl,h3,h1,h2⟩
def axQ(ps:Array (Nat×aB)):yA aB:=fU 100 ps
@[go_sem ↓]theorem aA4(ps:Array (Nat×aB)):fU 100 ps=axQ ps:=rfl
theorem aiI(w:ak)(fs:Array oz)(h:ah.k 100=some (.d fs)):(iI (fun f=>Prod.mk f.offset <$> sizeOf f.p) fs:yA (Array (Nat×Nat))).O ah w=.ok #[(0,1),(1,1),(2,1)] w:=by
 have e:=rV;rw[h]at e;cases e;show _=_
 kernel_rfl
@[go_sem]theorem atA(w:ak)(u0:List UInt8):(axQ #[(0,.g (bK u0))]).O ah w=.ok (.d (Hl.mk u0 false 0).ay) w:=by
 obtain⟨i0,hi0,hz0,_,_⟩:=Pq;exact Pm w _ _ i0 lY.ay _ _ _ rV hi0 hz0 (aiI w _ rV) rfl
def ahg(n:Nat)(ps:Array (Nat×aB)):yA aB:=bJ 33 n ps
@[go_sem ↓]theorem axR(n:Nat)(ps:Array (Nat×aB)):bJ 33 n ps=ahg n ps:=rfl
@[go_sem]theorem awE(w:ak)(x:Hl):(ahg 1 #[(0,.d x.ay)]).O ah w=.ok (.a (some ⟨w.a.j,0,none⟩) 1 1) (w.alloc (.D x.ay 100)):=by
 obtain⟨i0,hi0,hz0,hz1,hzb⟩:=Pq;exact sM w _ _ i0 (.d lY.ay) 3 tq hi0 hz0 hz1 (Hl.J lY) (by omega) (by omega) x.ay (Hl.J x)
@[go_sem]theorem atB(w:ak):(ahg 0 #[]).O ah w=.ok (.a (some ⟨w.a.j,0,none⟩) 0 0) (w.alloc (.D #[] 100)):=by
 obtain⟨i0,hi0,hz0,hz1,hzb⟩:=Pq;have hne:¬i0.j=0:=by omega
 simp[ahg,bJ,dK tq,sizeOf,typeInfo,zeroValue,hi0,hz0,hz1,fJ,newRow,hne];rw[show(mK 0)=(#[]:Array Nat)by simp[mK],Array.map_empty]
theorem Ey{fn:Func}{p u:Tmp}(h:fn.results = #[.cell p 100,.tmp u])(tmps:Array aB)(W:ak)(b o:Nat)(hp:tmps.b p undef=.c (some ⟨b,o,none⟩))(hh:yE W b o 3):
 (results fn tmps).O ah W=.ok (.K #[.d (eH W b o 3),tmps.b u undef]) W:=by
 have hl:=kH W b o 3 _ _ rV rfl (by kernel_rfl) hh;simp only[dw,zU,jS,oU,gW]at hl;rw[Lj h,hp];simp[asAddr,iM,hl]
end
def ZW(c:UInt8):Bool:=(decide (97<=c.e)&&decide (c.e<=122))||(decide (48<=c.e)&&decide (c.e<=57))||decide (c.e=45)||decide (c.e=46)
def xu(s:List UInt8):Bool:=s.all ZW&&decide (1<=s.a)&&decide (s.a<=24)
theorem Xi(l:List UInt8)(p:UInt8->Bool)(i:Nat)(hi:i<l.a):(l.E (i+1)).all p=((l.E i).all p&&p (l.b i 0)):=by
 rw[dU hi,List.all_append,au,aC hi];simp
theorem aac(l:List UInt8)(p:UInt8->Bool)(i:Nat)(hi:i<l.a)(h:p (l.b i 0)=false):l.all p=false:=by
 rw[List.all_eq_false];refine⟨l.b i 0,?_,by rw[h];simp⟩;rw[au,aC hi];exact eZ hi
theorem Uz(s:List UInt8)(w:ak)(hs:s.a<=9223372036854775807):
 aR ah 116 #[.g (bK s)] w (gY w (.e (xu s))):=by
 have hcv:=Jb (P:=ah) 9 56 5 iZ dD lX s;have hb:=Ie w 5 s;have hr:=Ig w 5 s;have HB:=ab hb;have HR:=ab hr;clear hb hr;go_enter Tryz.func116,Tryz.ntmps116;go_wp2;clear hcv;generalize tL w 5 s=W at HB HR ⊢;generalize grownCap w s.a 0 5=cp;go_loop [8] (fun s8=>∃i:Nat,i<=s.a/\s8=.b .a i/\(s.E i).all ZW=true) (fun s8=>s.a-(intOf s8).e)
 case atStart=>exact⟨0,by omega,rfl,rfl⟩
 case round=>
  obtain⟨i,hi,rfl,hall⟩:=hrel;have HA:=ab hall;clear hall;by_cases hlt:i<s.a
  ·have hin:(i:Int)<s.a:=by omega
   obtain⟨a,ha,hab,hcell⟩:=HR.i.dW hlt;injection ha with ha
   subst ha;have e1:(⟨w.a.j,0,none⟩:aV).add i=⟨w.a.j,i,none⟩:=by unfold rU;split<;>simp_all
   rw[e1]at hcell;clear e1;have hsn:=Xi s ZW i hlt;have hno:=aac s ZW i hlt;have HS:=ab hsn;have HN:=ab hno;clear hsn hno;unfold bv at hcell;have hc:ZW (s.b i 0)=ZW (s.b i 0):=rfl;have aiB:=(s.b i 0).a;obtain⟨c,hcc⟩:=cB (s.b i 0);rw[<-hcc]at hcell HS HN aiB;clear hcc hc;have hok:ZW c=((decide (97<=c.e)&&decide (c.e<=122))||(decide (48<=c.e)&&decide (c.e<=57))||decide (c.e=45)||decide (c.e=46)):=rfl;have Kl:=ab hok;clear hok;generalize c.e=n at hcell aiB Kl;rcases(show n<45\/n=45\/n=46\/n=47\/(48<=n/\n<=57)\/(57<n/\n<97)\/(97<=n/\n<=122)\/122<n by omega)with h|rfl|rfl|rfl|⟨h,h'⟩|⟨h,h'⟩|⟨h,h'⟩|h
   all_goals
    try(have h45:((n:Int) != 45)=true:=by rw[bne_iff_ne];omega)
    try(have h46:((n:Int) != 46)=true:=by rw[bne_iff_ne];omega)
   all_goals
    first
     | (have hk:ZW c=true:=by rw[Kl.i];simp<;>omega
        have HK:=ab hk;clear hk;go_wp2;go_round
        case rel=>exact⟨i+1,by omega,by go_num,by rw[HS.i,HA.i,HK.i];rfl⟩
        case measure=>simp[intOf]<;>omega
        done)
     | (have hk:ZW c=false:=by rw[Kl.i];simp<;>omega
        have HK:=ab hk;clear hk;go_wp2;go_ret;exact⟨by simp[xu,HN.i HK.i],HB.i⟩)
  ·obtain rfl:i=s.a:=by omega
   have hall:=HA.i;rw[aK (av _)]at hall;have HL:=ab hall;clear hall;have hok:xu s=(decide (1<=s.a)&&decide (s.a<=24)):=by simp[xu,HL.i]
   have HK:=ab hok;clear hok;by_cases h1:1<=s.a
   ·by_cases h2:s.a<=24
    all_goals
     go_wp2;go_ret;exact⟨by rw[HK.i];simp[h1,h2]<;>omega,HB.i⟩
   ·have h1':¬(1:Int)<=s.a:=by omega
    go_wp2;go_ret;exact⟨by rw[HK.i];simp[h1],HB.i⟩
structure fD where
 h:Bool
 b:Vector UInt8 16
deriving DecidableEq
structure Bk where
 F:List UInt8
 h:fD
 ni:Int
 xQ:Vector UInt8 6
 w:Nat
 drain:Bool
deriving DecidableEq
def fD.ay(a:fD):Array aB:=(bP a.h::a.b.a.map bv).c
def Bk.ay(x:Bk):Array aB:=(iK (bK x.F)::bP x.h.h::(x.h.b.a.map bv++aI .a x.ni::(x.xQ.a.map bv++[fv x.w,bP x.drain]))).c
theorem fD.J(a:fD):a.ay.j=17:=by simp[fD.ay]
theorem Bk.J(x:Bk):x.ay.j=27:=by simp[Bk.ay]
@[go_sem]theorem fD.qW(a:fD):a.ay[0]? = some (.e a.h):=rfl
theorem fD.Fe(a:fD)(i:Nat)(hi:i<16):a.ay[i+1]? = some (bv (a.b.a.b i 0)):=by
 simp[fD.ay,eO,hi,au]
@[go_sem]theorem Bk.qW(x:Bk):x.ay[0]? = some (.g (bK x.F)):=rfl
@[go_sem]theorem Bk.Ij(x:Bk):x.ay[1]? = some (.e x.h.h):=rfl
theorem Bk.Fe(x:Bk)(i:Nat)(hi:i<16):x.ay[i+2]? = some (bv (x.h.b.a.b i 0)):=by
 simp[Bk.ay,eO,ko,hi,au]
@[go_sem]theorem Bk.aeZ(x:Bk):x.ay[18]? = some (.b .a x.ni):=by simp[Bk.ay,eO,ko]
theorem Bk.axS(x:Bk)(i:Nat)(hi:i<6):x.ay[i+19]? = some (bv (x.xQ.a.b i 0)):=by
 simp[Bk.ay,eO,ko,hi,au]
@[go_sem]theorem Bk.ae0(x:Bk):x.ay[25]? = some (fv x.w):=by simp[Bk.ay,eO,ko]
@[go_sem]theorem Bk.ae1(x:Bk):x.ay[26]? = some (.e x.drain):=by simp[Bk.ay,eO,ko]
theorem fD.dx(a:fD):a.ay.all (·.h)=true:=by
 rw[gK];intro v hv;simp[fD.ay]at hv;rcases hv with rfl|⟨b,_,rfl⟩<;>rfl
theorem Bk.dx(x:Bk):x.ay.all (·.h)=true:=by
 rw[gK];intro v hv;simp[Bk.ay]at hv;rcases hv with rfl|rfl|⟨b,_,rfl⟩|rfl|⟨b,_,rfl⟩|rfl|rfl<;>rfl
theorem Bk.acs(x:Bk)(j:Nat)(hj:j<17):x.ay[j+1]? = x.h.ay[j]?:=by
 rcases j with _|j
 ·rfl
 ·rw[show j+1+1=j+2 from rfl,Bk.Fe x j (by omega),fD.Fe x.h j (by omega)]
@[go_sem]theorem UA(w:ak)(x:Bk)(t:bL):yE (w.alloc (.D x.ay t)) w.a.j 0 27=True:=by
 simp only[eq_iff_iff,iff_true];exact(ZJ w x.ay t 0 27 x.ay (Bk.J x) (fun j _=>by rw[bC])).1
@[go_sem]theorem Jd(w:ak)(x:Bk)(t:bL):eH (w.alloc (.D x.ay t)) w.a.j 0 27=x.ay:=
 (ZJ w x.ay t 0 27 x.ay (Bk.J x) (fun j _=>by rw[bC])).2
def sw(v:aB):yA aB:=dw 27 v
def UC(v:aB):yA aB:=dw 62 v
def Km(v x:aB):yA Unit:=eY 62 v x
@[go_sem ↓]theorem atC(v:aB):dw 27 v=sw v:=rfl
@[go_sem ↓]theorem awG(v:aB):dw 62 v=UC v:=rfl
@[go_sem ↓]theorem atD(v x:aB):eY 62 v x=Km v x:=rfl
@[go_sem]theorem apl(W:ak)(b o:Nat)(h:yE W b o 27):(UC (.c (some ⟨b,o,none⟩))).O ah W=.ok (.d (eH W b o 27)) W:=
 kH W b o 27 _ _ oN rfl (by kernel_rfl) h
@[go_sem]theorem Nc(W:ak)(b o:Nat)(h:yE W b o 17):(sw (.c (some ⟨b,o,none⟩))).O ah W=.ok (.d (eH W b o 17)) W:=
 kH W b o 17 _ _ fG rfl (by kernel_rfl) h
@[go_sem]theorem Nf(w:ak)(c:Array aB)(x:Bk)(hc:c.j=27):
 (Km (.c (some ⟨w.a.j,0,none⟩)) (.d x.ay)).O ah (w.alloc (.D c 62))=.ok () (w.alloc (.D x.ay 62)):=
 Ad w _ c x.ay (by rw[Bk.J];kernel_rfl) (by rw[Bk.J];exact hc) (Bk.dx x)
def jq:Bk:=⟨[],⟨false,bG 16 0⟩,0,bG 6 0,0,false⟩
@[go_sem]theorem axT:cO #[iK {data:=#[]},bP false,aA,aA,aA,aA,aA,aA,aA,aA,aA,aA,aA,aA,aA,aA,aA,aA,bg,aA,aA,aA,aA,aA,aA,wO j5 0,bP false]=cO jq.ay:=rfl
@[go_sem]theorem atE:Obj.cells #[iK {data:=#[]},bP false,aA,aA,aA,aA,aA,aA,aA,aA,aA,aA,aA,aA,aA,aA,aA,aA,bg,aA,aA,aA,aA,aA,aA,wO j5 0,bP false] 62=Obj.cells jq.ay 62:=rfl
theorem alp{fn:Func}{p u:Tmp}(h:fn.results = #[.cell p 62,.tmp u])(tmps:Array aB)(W:ak)(b o:Nat)(hp:tmps.b p undef=.c (some ⟨b,o,none⟩))(hh:yE W b o 27):
 (results fn tmps).O ah W=.ok (.K #[.d (eH W b o 27),tmps.b u undef]) W:=by
 have hl:=kH W b o 27 _ _ oN rfl (by kernel_rfl) hh;simp only[dw,zU,jS,oU,gW]at hl;rw[Lj h,hp];simp[asAddr,iM,hl]
def UD(W:ak)(b o:Nat)(x:Bk):ak:=W.setCells b o x.ay.a
@[go_sem]theorem axU(W:ak)(b o:Nat)(x:Bk)(h:W.S b o 27):(Km (.c (some ⟨b,o,none⟩)) (.d x.ay)).O ah W=.ok () (UD W b o x):=
 ER W b o _ x.ay (by rw[Bk.J];exact h) (by rw[Bk.J];kernel_rfl) (Bk.dx x)
theorem ae2(W:ak)(b o:Nat)(x:Bk)(h:W.S b o 27):∀j,j<27->(UD W b o x).b ⟨b,o+j,none⟩=x.ay[j]?:=fun j hj=>by
 have hs:=Bk.J x;have:=World.cell?_setCells_in b x.ay.a o W (fun i hi=>(h i (by simpa[hs]using hi)).1) j (by simpa[hs]using hj);rw[UD,this,Array.getElem_toList,fH (by rw[hs];exact hj)]
theorem Ng(W:ak)(b o:Nat)(x:Bk)(h:W.S b o 27):yE (UD W b o x) b o 27/\eH (UD W b o x) b o 27=x.ay:=
 vN (Bk.J x) (ae2 W b o x h)
theorem QH{w W:ak}{B:Nat}(h:aM B w W)(b o:Nat)(x:Bk)(hb:B<=b):aM B w (UD W b o x):=by
 unfold UD;generalize x.ay.a=l
 induction l generalizing W o with
 | nil=>exact h
 | cons v l ih=>rw[DX];exact ih (h.I hb v) (o+1)
@[go_sem]theorem Xj(w:ak)(x y:Bk):
 (Km (.c (some ⟨w.a.j,0,none⟩)) (.d x.ay)).O ah (w.alloc (.D y.ay 62))=.ok () (w.alloc (.D x.ay 62)):=
 Nf w y.ay x (Bk.J y)
theorem Yb(w:ak)(c:Array aB)(t:bL)(hc:c.j=27):(w.alloc (.D c t)).S w.a.j 0 27:=fun j hj=>by
 have hj':j<c.j:=by omega
 refine⟨by rw[bC,nK,fH hj'];rfl,?_⟩;simp
namespace Fl
open Ieee
theorem Je:double.binade=4503599627370496:=by decide
theorem aad:double.signWeight=9223372036854775808:=by decide
theorem acu:double.infRung=9218868437227405312:=by decide
theorem Nh:double.leastPlace = -1074:=by decide
theorem atF:double.fractionBits=52:=rfl
def mag(r:Nat):Nat:=if r<4503599627370496 then r else 4503599627370496+r%4503599627370496
def pl(r:Nat):Nat:=r/4503599627370496-1
def V(r:Nat):Nat:=mag r*2^pl r
theorem atG(r:Nat):mag r<9007199254740992:=by unfold mag;split<;>omega
theorem Jf{x:Nat}(h:x<9218868437227405312):double.read x=.number false (mag x) ((pl x:Int)-1074):=by
 unfold Format.read;simp only[aad,Je,acu,Nh];have h1:x/9223372036854775808=0:=by omega
 have h2:x%9223372036854775808=x:=by omega
 rw[h1,h2];simp only[mag,pl];by_cases h3:x<4503599627370496
 ·have:x/4503599627370496=0:=by omega
  simp[this,h3]
 ·rw[if_neg h3,if_pos h,if_neg h3]
  congr 1
theorem alq{x:Nat}(h:x<9218868437227405312):double.read (9223372036854775808+x)=.number true (mag x) ((pl x:Int)-1074):=by
 unfold Format.read;simp only[aad,Je,acu,Nh];have h1:(9223372036854775808+x)/9223372036854775808=1:=by omega
 have h2:(9223372036854775808+x)%9223372036854775808=x:=by omega
 rw[h1,h2];simp only[mag,pl];by_cases h3:x<4503599627370496
 ·have:x/4503599627370496=0:=by omega
  simp[this,h3]
 ·rw[if_neg h3,if_pos h,if_neg h3]
  congr 1
theorem alr:double.read 9218868437227405312=.infinity false:=by decide +kernel
theorem aiJ:double.read 18442240474082181120=.infinity true:=by decide +kernel
theorem als{x:Nat}(h:9218868437227405312<x)(h':x<9223372036854775808):double.read x=.nan false (x-9218868437227405312):=by
 unfold Format.read;simp only[aad,Je,acu,Nh];have h1:x/9223372036854775808=0:=by omega
 have h2:x%9223372036854775808=x:=by omega
 rw[h1,h2,if_neg (by omega),if_neg (by omega),if_neg (by omega)];rfl
theorem aiK{x:Nat}(h:18442240474082181120<x)(h':x<18446744073709551616):double.read x=.nan true (x-18442240474082181120):=by
 unfold Format.read;simp only[aad,Je,acu,Nh];have h1:x/9223372036854775808=1:=by omega
 have h2:x%9223372036854775808=x-9223372036854775808:=by omega
 rw[h1,h2,if_neg (by omega),if_neg (by omega),if_neg (by omega)];simp;omega
theorem alu(r:Nat):V (r+1)=V r+2^pl r:=by
 unfold V mag pl;by_cases h:r+1<4503599627370496
 ·have h1:r/4503599627370496=0:=by omega
  have h2:(r+1)/4503599627370496=0:=by omega
  rw[if_pos h,if_pos (by omega),h1,h2];simp
 ·rw[if_neg h]
  by_cases h3:(r+1)%4503599627370496=0
  ·
   have h4:r%4503599627370496=4503599627370495:=by omega
   have h5:(r+1)/4503599627370496=r/4503599627370496+1:=by omega
   rw[h3,h5];by_cases h6:r<4503599627370496
   ·have h7:r/4503599627370496=0:=by omega
    rw[if_pos h6,h7];simp;omega
   ·have h7:r/4503599627370496=(r/4503599627370496-1)+1:=by omega
    rw[if_neg h6,h4];have e:r/4503599627370496+1-1=(r/4503599627370496-1)+1:=by omega
    rw[e,Nat.pow_succ];generalize 2^(r/4503599627370496-1)=z;omega
  ·have h5:(r+1)/4503599627370496=r/4503599627370496:=by omega
   have h6:(r+1)%4503599627370496=r%4503599627370496+1:=by omega
   rw[h5,h6,if_neg (by omega)];generalize 2^(r/4503599627370496-1)=z;rw[show 4503599627370496+(r%4503599627370496+1)=(4503599627370496+r%4503599627370496)+1 from rfl,J6]
theorem aae{r s:Nat}(h:r<=s):V r<=V s:=by
 induction h with
 | refl=>exact av _
 | step _ ih=>rw[alu];exact aP ih (Nat.le_add_right _ _)
theorem aCD{r s:Nat}(h:r<s):V r<V s:=by
 have h1:=alu r;have h2:=aae (show r+1<=s from h);have h3:0<2^pl r:=nX _;omega
theorem UE{r s:Nat}:V r<=V s↔r<=s:=⟨fun h=>by
 by_cases hc:r<=s
 ·exact hc
 ·have:=aCD (show s<r by omega);omega,aae⟩
theorem ae3:V 0=0:=by decide
theorem acv(a b:Int)(z:Nat)(hz:0<z):compare (a*z) (b*z)=compare a b:=by
 simp only[compare,compareOfLessAndEq];have a1:(a*(z:Int)<b*z)↔a<b:=Int.mul_lt_mul_right (by omega);have a2:(a*(z:Int)=b*z)↔a=b:=Int.mul_eq_mul_right_iff (by omega);simp only[a1,a2]
theorem UF(s:Bool)(m k d:Nat):signed s m (k+d)=signed s m k*(2^d:Nat):=by
 unfold signed;simp only[nC,qC];cases s
 ·simp[Int.mul_assoc]
 ·simp[Int.mul_assoc,Int.neg_mul]
theorem aiL(s t:Bool)(m n i j:Nat):Datum.order (.number s m ((i:Int)-1074)) (.number t n ((j:Int)-1074))=some (compare (signed s m i) (signed t n j)):=by
 simp only[Datum.order];congr 1;obtain⟨b,hb⟩:∃b:Nat,b=min i j:=⟨_,rfl⟩
 have e0:min ((i:Int)-1074) ((j:Int)-1074)=(b:Int)-1074:=by omega
 rw[e0];have e1:signed s m i=signed s m ((i:Int)-1074-((b:Int)-1074)).e*(2^b:Nat):=by
  rw[<-UF];congr 1;omega
 have e2:signed t n j=signed t n ((j:Int)-1074-((b:Int)-1074)).e*(2^b:Nat):=by
  rw[<-UF];congr 1;omega
 rw[e1,e2];exact(acv _ _ _ (nX _)).symm
def fin(x:Nat):Prop:=x<9218868437227405312\/(9223372036854775808<=x/\x<18442240474082181120)
def SV(x:Nat):Int:=if x<9223372036854775808 then(V x:Int)else -(V (x-9223372036854775808):Int)
theorem Ni{x:Nat}(h:fin x):∃(s:Bool)(m i:Nat),double.read x=.number s m ((i:Int)-1074)/\signed s m i=SV x:=by
 rcases h with h|⟨h,h'⟩
 ·exact⟨_,_,_,Jf h,by unfold SV;rw[if_pos (by omega)];simp[signed,V,nC]⟩
 ·have:=alq (x:=x-9223372036854775808) (by omega)
  rw[show 9223372036854775808+(x-9223372036854775808)=x by omega]at this;exact⟨_,_,_,this,by unfold SV;rw[if_neg (by omega)];simp[signed,V,nC]⟩
theorem ahh{x y:Nat}(hx:fin x)(hy:fin y):double.order x y=some (compare (SV x) (SV y)):=by
 obtain⟨s,m,i,h1,h2⟩:=Ni hx;obtain⟨t,n,j,h3,h4⟩:=Ni hy;unfold Format.order;rw[h1,h3,aiL,h2,h4]
theorem apm{x:Nat}(hx:x<18446744073709551616)(h:¬fin x):x=9218868437227405312\/x=18442240474082181120\/(∃s f,double.read x=.nan s f):=by
 unfold fin at h;by_cases h1:x=9218868437227405312
 ·exact .b h1
 by_cases h2:x=18442240474082181120
 ·exact .a (.b h2)
 by_cases h3:x<9223372036854775808
 ·exact .a (.a ⟨_,_,als (by omega) h3⟩)
 ·exact .a (.a ⟨_,_,aiK (by omega) hx⟩)
theorem Yc{x y:Nat}{s f}(h:double.read x=.nan s f):double.order x y=none:=by
 unfold Format.order;rw[h];rfl
theorem Yd{y:Nat}(hy:fin y):double.order 9218868437227405312 y=some .gt:=by
 obtain⟨t,n,j,h3,h4⟩:=Ni hy;unfold Format.order;rw[h3,alr];rfl
theorem UG{y:Nat}(hy:fin y):double.order 18442240474082181120 y=some .lt:=by
 obtain⟨t,n,j,h3,h4⟩:=Ni hy;unfold Format.order;rw[h3,aiJ];rfl
theorem acw(k t:Nat)(hk:0<k):(k*2^t).log2=k.log2+t:=by
 have h0:k*2^t≠0:=tH (Nat.mul_pos hk (nX _));have h1:2^k.log2<=k:=Nat.log2_self_le (by omega);have h2:k<2^(k.log2+1):=Nat.lt_log2_self;refine Nat.le_antisymm ?_ ?_
 ·refine Gq ((Nat.log2_lt h0).2 ?_)
  rw[show Nat.succ (k.log2+t)=(k.log2+1)+t by omega,qC];exact(Nat.mul_lt_mul_right (nX _)).2 h2
 ·refine(Nat.le_log2 h0).2 ?_
  rw[qC];exact dB _ h1
theorem alv(way:Toward)(neg:Bool)(n:Nat):way.cut neg n 0=n:=by
 unfold Toward.cut;cases way<;>simp[Nat.mod_one]
theorem aiM(neg:Bool)(k t:Nat)(hk:0<k):Toward.even.cut neg (k*2^t) t=k:=by
 unfold Toward.cut;have h0:min t ((k*2^t).log2+2)=t:=by rw[acw _ _ hk];omega
 have h1:(1 <<< t)=2^t:=by rw[nC,Nat.one_mul]
 have hp:0<2^t:=nX _;simp only[h0,h1,Nat.mul_div_cancel _ hp,Nat.mul_mod_left];simp
theorem acy(n t:Nat):Toward.down.cut false n t=n/2^t:=by
 unfold Toward.cut;simp only[Bool.false_and,Bool.toNat_false,kQ];have h1:∀d,(1 <<< d)=2^d:=fun d=>by rw[nC,Nat.one_mul]
 rw[h1];by_cases h:t<=n.log2+2
 ·rw[lU h]
 ·rw[Bz (by omega)]
  have h2:n<2^(n.log2+1):=Nat.lt_log2_self;have h3:2^(n.log2+1)<=2^(n.log2+2):=ou (by omega) (by omega);have h4:2^(n.log2+2)<=2^t:=ou (by omega) (by omega);rw[Nat.div_eq_of_lt (by omega),Nat.div_eq_of_lt (by omega)]
theorem aiN(neg:Bool)(n t:Nat):Toward.zero.cut neg n t=n/2^t:=by
 have:=acy n t;unfold Toward.cut at this ⊢;simpa using this
theorem Lv(neg:Bool)(k t s:Nat)(p:Int)(hp:p+t=(s:Int)-1074)(hk0:0<k)(hk:k<9007199254740992)(hs:s+k.log2<=2097):
 ∃r,r<9218868437227405312/\double.nearest neg (k*2^t) p=double.word neg r/\V r=k*2^s:=by
 have axV:k.log2<=52:=Gq ((Nat.log2_lt (by omega)).2 (by simpa using hk));have h1:2^k.log2<=k:=Nat.log2_self_le (by omega);have h2:k<2^(k.log2+1):=Nat.lt_log2_self;have hne:k*2^t≠0:=tH (Nat.mul_pos hk0 (nX _));obtain⟨l,hl⟩:∃l:Nat,l=s+k.log2-52:=⟨_,rfl⟩
 have hlast:max (p+((k*2^t).log2:Int)-52) (-1074)=(l:Int)-1074:=by rw[acw _ _ hk0];omega
 have hkept:Toward.even.cut neg ((k*2^t) <<< (p-((l:Int)-1074)).e) (((l:Int)-1074)-p).e=k*2^(s-l):=by
  rw[nC];by_cases hc:(l:Int)-1074<=p
  ·rw[show(((l:Int)-1074)-p).e=0 by omega,alv,Nat.mul_assoc,<-qC]
   congr 2;omega
  ·rw[show(p-((l:Int)-1074)).e=0 by omega,Nat.pow_zero,gP]
   obtain⟨d,hd⟩:∃d:Nat,d=(((l:Int)-1074)-p).e:=⟨_,rfl⟩
   rw[<-hd,show k*2^t=(k*2^(s-l))*2^d by rw[Nat.mul_assoc,<-qC];congr 2;omega];exact aiM _ _ _ (Nat.mul_pos hk0 (nX _))
 have hrun:double.nearest neg (k*2^t) p=double.word neg (min (l*4503599627370496+k*2^(s-l)) 9218868437227405312):=by
  unfold Format.nearest;simp only[if_neg hne,atF,Nh,Je,acu];rw[show((52:Nat):Int)=52 from rfl,hlast,hkept];congr 4;omega
 by_cases hl0:l=0
 ·subst hl0
  have hb:k*2^s<9007199254740992:=by
   have h5:k*2^s<2^(k.log2+1)*2^s:=(Nat.mul_lt_mul_right (nX _)).2 h2;rw[<-qC]at h5;have h6:2^(k.log2+1+s)<=2^53:=ou (by omega) (by omega);omega
  refine⟨k*2^s,by omega,?_,?_⟩
  ·rw[hrun,J7,bC,Nat.sub_zero,lU (by omega)]
  ·generalize k*2^s=z at hb
   unfold V mag pl;split
   ·rename_i h7;rw[show z/4503599627370496=0 by omega];simp
   ·rename_i h7;rw[show z/4503599627370496=1 by omega];simp;omega
 ·have hb1:4503599627370496<=k*2^(s-l):=by
   have h5:2^k.log2*2^(s-l)<=k*2^(s-l):=dB _ h1;rw[<-qC,show k.log2+(s-l)=52 by omega]at h5;exact h5
  have hb2:k*2^(s-l)<9007199254740992:=by
   have h5:k*2^(s-l)<2^(k.log2+1)*2^(s-l):=(Nat.mul_lt_mul_right (nX _)).2 h2;rw[<-qC,show k.log2+1+(s-l)=53 by omega]at h5;exact h5
  have hv:k*2^s=k*2^(s-l)*2^l:=by rw[Nat.mul_assoc,<-qC];congr 2;omega
  rw[hv];generalize k*2^(s-l)=z at hb1 hb2 hrun;refine⟨l*4503599627370496+z,by omega,?_,?_⟩
  ·rw[hrun,lU (by omega)]
  ·unfold V mag pl
   rw[if_neg (by omega),show(l*4503599627370496+z)/4503599627370496=l+1 by omega,show(l*4503599627370496+z)%4503599627370496=z-4503599627370496 by omega];rw[show 4503599627370496+(z-4503599627370496)=z by omega];rfl
def top:Nat:=1074
theorem ae4:top=1074:=rfl
def U:Nat:=2^top
theorem alx{p:Nat}(h:p<=top):U=2^(top-p)*2^p:=by
 have h1:2^(top-p+p)=2^(top-p)*2^p:=qC 2 (top-p) p;rw[Nat.sub_add_cancel h]at h1;exact h1
theorem apo{p:Nat}(h:p<=1074):U=2^(1074-p)*2^p:=by
 have h1:=alx (p:=p) (by rw[ae4];exact h);rw[h1,show top-p=1074-p from congrArg (fun z=>z-p) ae4]
theorem aCE:∃s:Nat,s=1074/\U=2^s:=⟨top,ae4,rfl⟩
theorem aly:0<U:=nX _
theorem aiO:double.read 4652218415073722368=.number false 4503599627370496 (-42):=by decide +kernel
theorem alz:V 4652007308841189376=1000*U:=by decide +kernel
theorem Gv(r:Nat):double.word false r=r:=rfl
theorem aag(x t s:Nat)(p:Int)(hp:p+t=(s:Int)-1074)(hs:s<=2045):
 ∃r,r<9218868437227405312/\double.write (.number false (mag x*2^t) p)=r/\V r=mag x*2^s:=by
 unfold Format.write;by_cases h0:mag x=0
 ·rw[h0,J7]
  exact⟨0,by decide,by simp[Format.nearest,Gv],by simp[ae3]⟩
 ·have hm:=atG x
  have axV:(mag x).log2<=52:=Gq ((Nat.log2_lt h0).2 (by simpa using hm));obtain⟨r,a,b,c⟩:=Lv false (mag x) t s p hp (by omega) hm (by omega);exact⟨r,a,b.trans (Gv r),c⟩
theorem alA{x:Nat}(h:x<=4652007308841189376):∃r,r<9218868437227405312/\double.mul x 4652218415073722368=some r/\V r=V x*1024:=by
 unfold Format.mul;rw[Jf (x:=x) (by omega),aiO];obtain⟨r,a,b,c⟩:=aag x 52 (pl x+10) ((pl x:Int)-1074 + -42) (by omega) (by unfold pl;omega);refine⟨r,a,?_,?_⟩
 ·simp only[Datum.product,Option.map]
  rw[show(4503599627370496:Nat)=2^52 from rfl];exact congrArg some b
 ·rw[c,V,qC,Nat.mul_assoc]
theorem acz:double.mul 9223372036854775808 4652218415073722368=some 9223372036854775808:=by decide +kernel
theorem UH{r c:Nat}(h:V r<=V c):pl r<=pl c:=by
 have:=UE.1 h;unfold pl;have:=Nat.div_le_div_right (c:=4503599627370496) this;omega
theorem ar4{r:Nat}(h:pl r<=1074):mag r/2^(1074-pl r)=V r/U:=by
 unfold V;rw[apo h,Nat.mul_div_mul_right _ _ (nX _)]
theorem Xk{r:Nat}(hr:r<9218868437227405312)(h:pl r<=1074):(double.read r).integral .down=.number false (V r/U) 0:=by
 rw[Jf hr];simp only[Datum.integral];rw[show((pl r:Int)-1074).e=0 by omega,show(-((pl r:Int)-1074)).e=1074-pl r by omega,Nat.shiftLeft_zero,acy,ar4 h]
theorem Xl{r:Nat}(hr:r<9218868437227405312)(h:pl r<=1074):(double.read r).integral .zero=.number false (V r/U) 0:=by
 rw[Jf hr];simp only[Datum.integral];rw[show((pl r:Int)-1074).e=0 by omega,show(-((pl r:Int)-1074)).e=1074-pl r by omega,Nat.shiftLeft_zero,aiN,ar4 h]
theorem acB(q:Nat)(hq:q<9007199254740992):∃r,r<9218868437227405312/\double.write (.number false q 0)=r/\V r=q*U:=by
 unfold Format.write;by_cases h0:q=0
 ·subst h0
  exact⟨0,by decide,by simp[Format.nearest,Gv],by simp[ae3]⟩
 ·have axV:q.log2<=52:=Gq ((Nat.log2_lt h0).2 (by simpa using hq))
  obtain⟨u,hu,hU⟩:=aCE;obtain⟨r,a,b,c⟩:=Lv false q 0 u 0 (by omega) (by omega) hq (by omega);rw[Nat.pow_zero,gP]at b;rw[<-hU]at c;exact⟨r,a,b.trans (Gv r),c⟩
theorem alB:V 4697254411347427328=1048576*U:=by decide +kernel
theorem alC{r q:Nat}(hv:V r=q*U)(hq:q<=1048576):pl r<=1074:=by
 have h1:V r<=V 4697254411347427328:=by rw[hv,alB];exact dB _ hq
 have h2:=UH h1;have h3:pl 4697254411347427328=1042:=by decide +kernel
 omega
def vP(x:Nat):Nat:=V x*1024/U
theorem acC{x y:Nat}(h:x<=y):vP x<=vP y:=Nat.div_le_div_right (dB _ (aae h))
theorem acD:vP 4652007308841189376=1024000:=by
 unfold vP;rw[alz,Nat.mul_right_comm,Nat.mul_div_cancel _ aly]
theorem aiP{x:Nat}(h:x<=4652007308841189376):vP x<=1024000:=acD ▸ acC h
end Fl
theorem Pv(x:Nat)(w:ak):(callFunc 198 #[.float .f64 x]).O ah w=.ok (.value (.b .c x)) w:=by
 rw[zN Tryz.func198 (by kernel_rfl) (by kernel_rfl) (by kernel_rfl) (e:=Extern.MathFloatBits.float64bits) (by kernel_rfl)];rfl
def ord(x y:Nat):Option Ordering:=j5.format.order x y
def alD(x:Nat):Bool:=ord x x != some .eq
theorem aiQ(x:Nat)(w:ak):aR ah 261 #[.float .f64 x] w fun e w'=>e=.a (.e (alD x))/\w=w':=by
 go_enter Tryz.func261,Tryz.ntmps261;go_wp2;go_ret;exact⟨rfl,rfl⟩
def UJ(x:Nat):Nat:=if alD x then 9221120237041090560 else x
theorem alE(x:Nat)(w:ak):aR ah 192 #[.float .f64 x] w fun e w'=>e=.a (.b .c (UJ x))/\w=w':=by
 have h1:=Pv x;cases hn:alD x
 all_goals
  go_enter Tryz.func192,Tryz.ntmps192;go_wp2_with (first|(go_at_call 261;refine(aiQ _ _).g ?_;rintro e w' ⟨rfl,rfl⟩));go_ret;exact⟨by simp[UJ,hn],rfl⟩
def Fg(x y:Nat):Bool:=UJ x==UJ y
theorem acE(x y:Nat)(w:ak):aR ah 112 #[.float .f64 x,.float .f64 y] w fun e w'=>e=.a (.e (Fg x y))/\w=w':=by
 go_enter Tryz.func112,Tryz.ntmps112;go_wp2_with (first|(go_at_call 192;refine(alE _ _).g ?_;rintro e w' ⟨rfl,rfl⟩));go_ret;exact⟨by simp[Fg,apf],rfl⟩
def Pw(x:Nat):Bool:=(ord x 0==some .gt||ord x 0==some .eq)&&(ord x 4652007308841189376==some .lt||ord x 4652007308841189376==some .eq)
theorem Kn(x:Nat)(w:ak):aR ah 170 #[.float .f64 x] w fun e w'=>e=.a (.e (Pw x))/\w=w':=by
 cases h0:(j5.format.order x 0==some .gt||j5.format.order x 0==some .eq)
 all_goals
  go_enter Tryz.func170,Tryz.ntmps170;go_wp2;go_ret;exact⟨by simp[Pw,ord,h0],rfl⟩
def kS(x:Nat):Nat:=if ord x 0==some .eq then 0 else x
theorem Ag(x:Nat)(w:ak):aR ah 113 #[.float .f64 x] w fun e w'=>e=.a (.float .f64 (kS x))/\w=w':=by
 cases h0:(j5.format.order x 0==some .eq)
 all_goals
  go_enter Tryz.func113,Tryz.ntmps113;go_wp2;go_ret;exact⟨by simp[kS,ord,h0],rfl⟩
def Xm(x:Nat):Bool:=decide (x<=4652007308841189376)||x==9223372036854775808
theorem Ko{x:Nat}(hx:x<18446744073709551616):Pw x=Xm x:=by
 have f0:Fl.fin 0:=by unfold Fl.fin;omega
 have f1:Fl.fin 4652007308841189376:=by unfold Fl.fin;omega
 have s0:Fl.SV 0=0:=by decide +kernel
 have s1:Fl.SV 4652007308841189376=(Fl.V 4652007308841189376:Int):=by unfold Fl.SV;rw[if_pos (by omega)]
 have aCF:∀a b,ord a b=wX.order a b:=fun _ _=>rfl
 unfold Pw Xm;rw[dG];simp only[aCF];by_cases hf:Fl.fin x
 ·rw[Fl.ahh hf f0,Fl.ahh hf f1,s0,s1]
  have e1:∀a b:Int,(some (compare a b)==some Ordering.gt||some (compare a b)==some Ordering.eq)=decide (b<=a):=by
   intro a b;rw[dG];simp[Int.compare_eq_gt,Int.compare_eq_eq];omega
  have e2:∀a b:Int,(some (compare a b)==some Ordering.lt||some (compare a b)==some Ordering.eq)=decide (a<=b):=by
   intro a b;rw[dG];simp[Int.compare_eq_lt,Int.compare_eq_eq];omega
  rw[e1,e2];unfold Fl.SV;split
  ·rename_i h1
   have:=@Fl.UE x 4652007308841189376;simp;omega
  ·rename_i h1
   have:=@Fl.UE (x-9223372036854775808) 0;have hz:=Fl.ae3;simp;omega
 ·have hno:¬x<=4652007308841189376:=fun h=>hf (by unfold Fl.fin;omega)
  have hno':¬x=9223372036854775808:=fun h=>hf (by unfold Fl.fin;omega)
  rcases Fl.apm hx hf with rfl|rfl|⟨s,f,h⟩
  ·rw[Fl.Yd f0,Fl.Yd f1];decide
  ·rw[Fl.UG f0,Fl.UG f1];decide
  ·rw[Fl.Yc h,Fl.Yc h]
   simp;omega
def wQ(x:Nat):Nat:=if Xm x then Fl.vP (x%9223372036854775808)else 0
theorem ar5(x:Nat):wQ x<=1024000:=by
 unfold wQ;split
 ·rename_i h
  simp[Xm]at h;refine Fl.aiP ?_;omega
 ·omega
theorem UK(x:Nat)(d:Ieee.Datum)(h:wX.read x=d)(hn:d.isNaN=false)(w:ak):
 (callFunc 244 #[.float .f64 x]).O ah w=.ok (.value (.float .f64 (wX.write (d.integral .down)))) w:=by
 rw[zN Tryz.func244 (by kernel_rfl) (by kernel_rfl) (by kernel_rfl) (e:=Extern.MathFloor.toIntegral (Tryz.f244.F) .down) (by kernel_rfl)];have e:j5.decode x=d:=h;have hrun:J8 ah (Extern.MathFloor.toIntegral (Tryz.f244.F) .down #[.float .f64 x]) w=.ok (.float .f64 (wX.write (d.integral .down))) w:=by
  change J8 ah ((match j5.decode x with
   | .nan s t=>
     if j5.format.quiet t=t then pure (wO .f64 x)else do
     let kept<-choose _
     pure (wO .f64 (if kept==1 then x else j5.encode (.nan s (j5.format.quiet t))))
   | d=>pure (wO .f64 (j5.encode (d.integral .down)))):yA aB) w=_
  rw[e];cases d with
  | nan s f=>simp[Ieee.Datum.isNaN]at hn
  | infinity s=>rfl
  | number s m i=>rfl
 rw[hrun];rfl
theorem aiR(x:Nat)(h:Xm x=true)(w:ak):aR ah 86 #[.float .f64 x] w fun e w'=>e=.a (.K #[.b .a (wQ x),.e true])/\w=w':=by
 have hx:x<18446744073709551616:=by simp[Xm]at h;omega
 have hr:Pw x=true:=by rw[Ko hx,h]
 obtain⟨r,r2,e1,e2,e3,e4⟩:∃r r2,wX.mul x 4652218415073722368=some r/\(wX.read r).isNaN=false/\wX.write ((wX.read r).integral .down)=r2/\floatToIntVal .f64 r2 .a=some (wQ x:Int):=by
  by_cases hm:x=9223372036854775808
  ·subst hm
   exact⟨_,_,Fl.acz,by decide +kernel,rfl,by decide +kernel⟩
  ·have hle:x<=4652007308841189376:=by simp[Xm]at h;omega
   have hq:wQ x=Fl.vP x:=by unfold wQ;rw[if_pos h,gy (by omega)]
   obtain⟨r,a,b,c⟩:=Fl.alA hle;have aIS:=ar5 x;have hV:Fl.V r<1048576*Fl.U:=by
    have h1:=Fl.aae hle;rw[Fl.alz]at h1;have:=Fl.aly;rw[c];generalize Fl.V x=y at h1;generalize Fl.U=u at h1 this;omega
   have hpl:Fl.pl r<=1074:=by
    have h1:Fl.V r<=Fl.V 4697254411347427328:=by rw[Fl.alB];exact Nat.le_of_lt hV
    have h2:=Fl.UH h1;have h3:Fl.pl 4697254411347427328=1042:=by decide +kernel
    omega
   have hi:=Fl.Xk a hpl;have hqq:Fl.V r/Fl.U=wQ x:=by rw[hq,c];rfl
   rw[hqq]at hi;obtain⟨r2,a2,b2,c2⟩:=Fl.acB (wQ x) (by omega);have hz:=Fl.Xl a2 (Fl.alC c2 (by omega));rw[c2,Nat.mul_div_cancel _ Fl.aly]at hz;refine⟨r,r2,b,?_,?_,?_⟩
   ·rw[Fl.Jf a];rfl
   ·rw[hi];exact b2
   ·unfold floatToIntVal
    have:(j5.decode r2).toInt .zero=some (wQ x:Int):=by
     show(wX.read r2).toInt .zero=_;unfold Ieee.Datum.toInt;rw[hz];simp[Ieee.signed]
    rw[this];simp[J4,J5,mH,oH];omega
 have h1:=fun w=>run_float_arith (P:=ah) w .mul 60 .f64 x 4652218415073722368 r e1
 have h2:=UK r _ rfl e2;rw[e3]at h2;have h3:=fun w=>run_convert_float_int (P:=ah) w 60 3 .f64 .a r2 _ (by kernel_rfl) fI e4
 clear e1 e2 e3 e4;go_enter Tryz.func86,Tryz.ntmps86;go_wp2_with (first|(go_at_call 170;refine(Kn _ _).g ?_;rintro e w' ⟨rfl,rfl⟩)|(go_at_call 171;go_in));go_ret2;exact⟨rfl,rfl⟩
theorem aiS(x:Nat)(hx:x<18446744073709551616)(h:Xm x=false)(w:ak):aR ah 86 #[.float .f64 x] w fun e w'=>e=.a (.K #[.b .a (wQ x),.e false])/\w=w':=by
 have hr:Pw x=false:=by rw[Ko hx,h]
 have hq:wQ x=0:=by unfold wQ;rw[h];rfl
 go_enter Tryz.func86,Tryz.ntmps86;go_wp2_with (first|(go_at_call 170;refine(Kn _ _).g ?_;rintro e w' ⟨rfl,rfl⟩));go_ret2;exact⟨by simp[hq],rfl⟩
theorem ae5(x:Nat)(hx:x<18446744073709551616)(w:ak):aR ah 86 #[.float .f64 x] w fun e w'=>e=.a (.K #[.b .a (wQ x),.e (Xm x)])/\w=w':=by
 cases h:Xm x
 ·exact aiS x hx h w
 ·exact aiR x h w
theorem acG{x:Nat}(hx:x<18446744073709551616):UJ x<18446744073709551616:=by unfold UJ;split<;>omega
def ae6(x:Nat):List UInt8:=jd (UJ x) 8 true
theorem vQ{w:ak}{A:Option aV}{n:Nat}{l:List UInt8}(h:gG w w.a.j A n l)(c:Nat):
 (∀W,aM w.a.j w W->(convert 56 9 (.a A n c)).O ah W=.ok (.g (bK l)) W) /\
  (convert 56 9 (.a A n c)).O ah w=.ok (.g (bK l)) w:=
 ⟨fun W hW=>I8 (P:=ah) (h.Y hW) _ _ _ dD lX iZ c,
  I8 (P:=ah) h _ _ _ dD lX iZ c⟩
theorem acI{n m:Nat}(k:Nat)(h:∀i,i<k->I9 n i=I9 m i):n%2^(8*k)=m%2^(8*k):=by
 induction k with
 | zero=>simp[Nat.mod_one]
 | succ k ih=>
   have h1:=ih (fun i hi=>h i (by omega));have h2:=congrArg UInt8.toNat (h k (by omega));simp only[I9,jB]at h2;have e:2^(8*(k+1))=2^(8*k)*256:=by rw[show 8*(k+1)=8*k+8 by omega,qC]
   rw[e,Nat.mod_mul,Nat.mod_mul,h1,h2]
theorem ae7{n m:Nat}(hn:n<18446744073709551616)(hm:m<18446744073709551616)(h:jd n 8 true=jd m 8 true):n=m:=by
 have h1:xk n 8=xk m 8:=by
  have:=congrArg List.reverse h;simpa[jd]using this
 have h2:∀i,i<8->I9 n i=I9 m i:=fun i hi=>by
  have:=congrArg (fun l:List UInt8=>l[i]?) h1;simpa[xk,hi]using this
 have h3:=acI 8 h2;rw[gy (by omega),gy (by omega)]at h3;exact h3
theorem Rw(l:List UInt8):xk (o9 l) l.a=l.reverse:=by
 have key:∀(k:Nat)(l:List UInt8),l.a=k->xk (o9 l) k=l.reverse:=by
  intro k
  induction k with
  | zero=>intro l hl;rw[bF hl];rfl
  | succ k ih=>
    intro l hl;obtain⟨r,c,rfl⟩:∃r c,l=r++[c]:=⟨l.dropLast,l.getLast (by intro h;simp[h]at hl),(List.dropLast_concat_getLast _).symm⟩
    have hr:r.a=k:=by simpa using hl
    have:=ih r hr;rw[Ja];unfold xk at this ⊢;rw[List.range_succ_eq_map,kV,IX,List.reverse_append];simp only[List.reverse_cons,List.reverse_nil,dJ,List.singleton_append,List.cons.injEq];constructor
    ·unfold I9
     apply mR.1;have:=c.a;simp[jB]
    ·rw[<-this]
     refine Dz (fun i hi=>?_);simp only[Function.comp,I9];have e:(o9 r*256+c.e)/2^(8*(i+1))=o9 r/2^(8*i):=by
      rw[show 8*(i+1)=8+8*i by omega,qC,<-Nat.div_div_eq_div_mul];congr 1;have:=c.a;omega
     rw[show Nat.succ i=i+1 from rfl,e]
 exact key _ l rfl
def fD.mO(a:fD):Bool:=(a.b.a.G 4).all (fun c=>c==0)
theorem fD.axW(a:fD):a.b.a.a=16:=a.b.size_toArray
def Bk.Cz(x:Bk):Bool:=(x.h.h||x.h.mO)&&xu x.F&&decide (1<=x.ni)&&decide (x.ni<=65535)&&Xm x.w
def fD.dW(a:fD)(i:Nat):UInt8:=a.b.a.b i 0
theorem fD.Kq(a:fD):a.mO=true↔∀i,4<=i->i<16->a.dW i=0:=by
 unfold fD.mO fD.dW;rw[gq];have hl:=a.axW;constructor
 ·intro h i h4 h16
  have:a.b.a.b i 0∈a.b.a.G 4:=by
   rw[au,aC (by omega)];exact List.mem_drop_iff_getElem.2 ⟨i-4,by omega,by simp[show 4+(i-4)=i by omega]⟩
  simpa using h _ this
 ·intro h x hx
  obtain⟨j,hj,rfl⟩:=List.mem_drop_iff_getElem.1 hx;have:=h (4+j) (by omega) (by omega);rw[au,aC (by omega)]at this;simpa using this
theorem fD.UL{a:fD}{i:Nat}(h4:4<=i)(h16:i<16)(h:a.dW i≠0):a.mO=false:=by
 cases hs:a.mO
 ·rfl
 ·exact absurd (a.Kq.1 hs i h4 h16) h
theorem aiT(a:fD)(w:ak):aR ah 133 #[.d a.ay] w (gY w (.e (a.mO && !a.h))):=by
 go_enter Tryz.func133,Tryz.ntmps133;go_wp2;have hb:aM w.a.j w (w.alloc (.D a.ay 27)):=(aG _ _).alloc (av _) _;have HB:=ab hb;clear hb;go_loop [3] (fun s3=>∃i:Nat,i<=16/\4<=i/\s3=.b .a i/\∀j,4<=j->j<i->a.dW j=0) (fun s3=>16-(intOf s3).e)
 case atStart=>exact⟨4,by omega,by omega,rfl,fun j h1 h2=>by omega⟩
 case round=>
  obtain⟨i,hi,hi4,rfl,hall⟩:=hrel;have HA:=ab hall;clear hall;by_cases hlt:i<16
  ·have hin:(i:Int)<16:=by omega
   have hcell:(w.alloc (.D a.ay 27)).b ⟨w.a.j,1+i,none⟩=some (.b .b ((a.dW i).e:Nat)):=by
    rw[nK,vB];exact fD.Fe a i hlt
   have hz:((a.dW i).e:Int)=0↔a.dW i=0:=by
    constructor
    ·intro h;apply mR.1;have:(0:UInt8).e=0:=rfl;omega
    ·intro h;rw[h];rfl
   have HZ:=ab hz;clear hz;obtain⟨n,hn⟩:∃n:Nat,n=(a.dW i).e:=⟨_,rfl⟩
   rw[<-hn]at hcell HZ;clear hn;by_cases h0:n=0
   ·have h1:((n:Int) != 0)=false:=by rw[h0];rfl
    have hz0:a.dW i=0:=HZ.i.1 (by omega);have HZ0:=ab hz0;clear hz0 h0;go_wp2;go_round
    case rel=>exact⟨i+1,by omega,by omega,by go_num,fun j h1 h2=>by
     by_cases hji:j=i
     ·rw[hji];exact HZ0.i
     ·exact HA.i j h1 (by omega)⟩
    case measure=>simp[intOf]<;>omega
   ·have h1:((n:Int) != 0)=true:=by rw[bne_iff_ne];omega
    have hno:a.mO=false:=fD.UL hi4 hlt (fun h=>h0 (by have:=HZ.i.2 h;omega));have Ez:=ab hno;clear hno h0;go_wp2;go_ret;exact⟨by rw[Ez.i];rfl,HB.i⟩
  ·obtain rfl:i=16:=by omega
   have hs:a.mO=true:=a.Kq.2 HA.i;have HS:=ab hs;clear hs;go_wp2;go_ret;exact⟨by rw[HS.i];rfl,HB.i⟩
theorem QI(c:Nat)(w:ak):aR ah 191 #[.b .b c] w fun e w'=>e=.a (.e ((c:Int) != 0))/\w=w':=by
 go_enter Tryz.func191,Tryz.ntmps191;go_wp2;go_ret;exact⟨rfl,rfl⟩
theorem Xn(args:Array aB)(w:ak):(callFunc 191 args).O ah w=.ok (.enter 191 args) w:=by kernel_rfl
theorem acJ(a:fD)(b o c:Nat)(w:ak)(hc:∀j,j<12->w.b ⟨b,o+j,none⟩=some (.b .b ((a.dW (4+j)).e:Nat))):
 aR ah 260 #[.a (some ⟨b,o,none⟩) 12 c,.func (.func 191) #[] #[]] w fun e w'=>∃r:Int,e=.a (.b .a r)/\(decide (0<=r) = !a.mO)/\w=w':=by
 have hen:=Xn;have HC:=ab hc;clear hc;go_enter Tryz.func260,Tryz.ntmps260;go_wp2;go_loop [8] (fun s8=>∃i:Nat,i<=12/\s8=.b .a i/\∀j,4<=j->j<4+i->a.dW j=0) (fun s8=>12-(intOf s8).e)
 case atStart=>exact⟨0,by omega,rfl,fun j h1 h2=>by omega⟩
 case round=>
  obtain⟨i,hi,rfl,hall⟩:=hrel;have HA:=ab hall;clear hall;by_cases hlt:i<12
  ·have hin:(i:Int)<12:=by omega
   have hcell:=HC.i i hlt;have hz:((a.dW (4+i)).e:Int)=0↔a.dW (4+i)=0:=by
    constructor
    ·intro h;apply mR.1;have:(0:UInt8).e=0:=rfl;omega
    ·intro h;rw[h];rfl
   have HZ:=ab hz;clear hz;obtain⟨n,hn⟩:∃n:Nat,n=(a.dW (4+i)).e:=⟨_,rfl⟩
   rw[<-hn]at hcell HZ;clear hn;by_cases h0:n=0
   ·have h1:((n:Int) != 0)=false:=by rw[h0];rfl
    have hz0:a.dW (4+i)=0:=HZ.i.1 (by omega);have HZ0:=ab hz0;clear hz0 h0;go_wp2_with (go_at_call 191;refine(QI n _).g ?_;rintro e w' ⟨rfl,rfl⟩);go_round
    case rel=>exact⟨i+1,by omega,by go_num,fun j h1 h2=>by
     by_cases hji:j=4+i
     ·rw[hji];exact HZ0.i
     ·exact HA.i j h1 (by omega)⟩
    case measure=>simp[intOf]<;>omega
   ·have h1:((n:Int) != 0)=true:=by rw[bne_iff_ne];omega
    have hno:a.mO=false:=fD.UL (i:=4+i) (by omega) (by omega) (fun h=>h0 (by have:=HZ.i.2 h;omega));have Ez:=ab hno;clear hno h0;go_wp2_with (go_at_call 191;refine(QI n _).g ?_;rintro e w' ⟨rfl,rfl⟩);go_ret;exact⟨_,rfl,by rw[Ez.i];simp,rfl⟩
  ·obtain rfl:i=12:=by omega
   have hs:a.mO=true:=a.Kq.2 HA.i;have HS:=ab hs;clear hs;go_wp2;go_ret;exact⟨_,rfl,by rw[HS.i];simp,rfl⟩
theorem QJ(a:fD)(b o c:Nat)(w:ak)(hc:∀j,j<12->w.b ⟨b,o+j,none⟩=some (.b .b ((a.dW (4+j)).e:Nat))):
 aR ah 189 #[.a (some ⟨b,o,none⟩) 12 c,.func (.func 191) #[] #[]] w fun e w'=>e=.a (.e (!a.mO))/\w=w':=by
 have HC:=ab hc;clear hc;go_enter Tryz.func189,Tryz.ntmps189;go_wp2_with (go_at_call 260;refine(acJ a b o c _ HC.i).g ?_;rintro e w' ⟨r,rfl,hr,rfl⟩);go_ret;exact⟨by simp,rfl⟩
theorem ae8(w:ak)(x:Bk)(t:bL):∀j,j<12->(w.alloc (.D x.ay t)).b ⟨w.a.j,6+j,none⟩=some (.b .b ((x.h.dW (4+j)).e:Nat)):=fun j hj=>by
 rw[nK,show 6+j=(4+j)+2 by omega];exact Bk.Fe x (4+j) (by omega)
theorem acL(x:Bk)(w:ak)(hn:x.F.a<=9223372036854775807)(hw:x.w<18446744073709551616):
 aR ah 111 #[.d x.ay] w (gY w (.e x.Cz)):=by
 have ht:=ae8 w x 62;have HT:=ab ht;clear ht;have hr:=Ko hw;have HR:=ab hr;clear hr;have hf:x.Cz=((x.h.h||x.h.mO)&&xu x.F&&decide (1<=x.ni)&&decide (x.ni<=65535)&&Xm x.w):=rfl;have HF:=ab hf;clear hf;have hb0:aM w.a.j w (w.alloc (.D x.ay 62)):=(aG _ _).alloc (av _) _;have HB0:=ab hb0;clear hb0;cases hs:(x.h.h||x.h.mO)
 ·have h6:x.h.h=false:=by cases h:x.h.h<;>simp_all
  have hsh:x.h.mO=false:=by cases h:x.h.mO<;>simp_all
  have HS:=ab hs;clear hs;go_enter Tryz.func111,Tryz.ntmps111;go_wp2_with fail;refine(QJ x.h _ 6 _ _ HT.i).g ?_;rintro e w' ⟨rfl,rfl⟩;rw[hsh];go_wp2_with fail;go_ret;exact⟨by rw[HF.i,HS.i];rfl,HB0.i⟩
 ·have HS:=ab hs
  have hk:xu x.F=true\/xu x.F=false:=by cases xu x.F<;>simp
  clear hs;have main:∀(K:Bool),xu x.F=K->x.h.h=true\/(x.h.h=false/\x.h.mO=true) ->
   aR ah 111 #[.d x.ay] w fun e w'=>e=.a (.e x.Cz)/\aM w.a.j w w':=by
   intro K hK h6;have HK:=ab hK;clear hK hk;rcases h6 with h6|⟨h6,hsh⟩
   all_goals
    go_enter Tryz.func111,Tryz.ntmps111;go_wp2_with fail
    try(refine(QJ x.h _ 6 _ _ HT.i).g ?_;rintro e w' ⟨rfl,rfl⟩;rw[hsh];go_wp2_with fail)
    refine(Uz _ _ hn).g ?_;rintro e w1 ⟨rfl,hb1⟩;rw[HK.i];have hcl:=aiC hb1;have hB1:aM w.a.j w w1:=HB0.i.trans (hb1.g (by simp));have HB1:=ab hB1;clear hb1 hB1;cases K
    ·go_wp2_with fail
     go_ret;exact⟨by rw[HF.i,HS.i,HK.i];rfl,HB1.i⟩
    ·by_cases p1:1<=x.ni
     ·by_cases p2:x.ni<=65535
      ·go_wp2_with fail
       refine(Kn _ _).g ?_;rintro e w' ⟨rfl,rfl⟩;rw[HR.i];go_wp2_with fail;go_ret;exact⟨by rw[HF.i,HS.i,HK.i];simp[p1,p2]<;>intros<;>omega,HB1.i⟩
      ·go_wp2_with fail
       go_ret;exact⟨by rw[HF.i,HS.i,HK.i];simp[p1,p2]<;>intros<;>omega,HB1.i⟩
     ·go_wp2_with fail
      go_ret;exact⟨by rw[HF.i,HS.i,HK.i];simp[p1]<;>intros<;>omega,HB1.i⟩
  refine main _ rfl ?_;have:=HS.i;cases h:x.h.h
  ·right;rw[h]at this;exact⟨rfl,by simpa using this⟩
  ·left;rfl
def dL(l:List Bk):List aB:=l.d (·.ay.a)
theorem jL(l:List Bk):(dL l).a=l.a*27:=by
 induction l with
 | nil=>rfl
 | cons x l ih=>
   have hx:=Bk.J x;rw[dL,iW,aQ,aY,hx,bl];rw[dL]at ih;rw[ih];omega
theorem Jg(l:List Bk)(k j:Nat)(hk:k<l.a)(hj:j<27):(dL l)[k*27+j]? = (l.b k jq).ay[j]?:=by
 induction l generalizing k with
 | nil=>simp at hk
 | cons x l ih=>
   have hx:=Bk.J x;rw[dL,iW];rcases k with _|k
   ·rw[lF (by rw[aY,hx];omega),dH]
    simp
   ·rw[mQ (by rw[aY,hx];omega),aY,hx,show(k+1)*27+j-27=k*27+j by omega]
    rw[bl]at hk;rw[List.getD_cons_succ];exact ih k (by omega)
def Gw(w:ak)(B:Nat)(A:Option aV)(n:Nat)(l:List Bk):Prop:=
 l.a=n/\Rd w B 27 A n (dL l)/\∀a,A=some a->0<n->a=⟨a.block,a.off,none⟩
section
variable {w w':ak} {B B' n:Nat} {A:Option aV} {l:List Bk}
theorem Gw.Y(h:Gw w B A n l)(hb:aM B w w'):Gw w' B A n l:=⟨h.1,Rd.Y h.2.1 hb,h.2.2⟩
theorem Gw.lD(h:Gw w B A n l)(hB:B<=B'):Gw w B' A n l:=⟨h.1,Rd.lD h.2.1 hB,h.2.2⟩
theorem Gw.alloc(h:Gw w B A n l)(hB:B<=w.a.j)(o:Obj):Gw (w.alloc o) B A n l:=⟨h.1,Rd.alloc h.2.1 hB o,h.2.2⟩
theorem Gw.cell{k:Nat}(h:Gw w B A n l)(hk:k<n):∃b o,A=some ⟨b,o,none⟩/\b<B/\∀j,j<27->w.b ⟨b,o+k*27+j,none⟩=(l.b k jq).ay[j]?:=by
 obtain⟨h1,h2,h3⟩:=h;obtain⟨a,hA,hb,hc⟩:=h2.2 (by omega);have:=h3 a hA (by omega);refine⟨a.block,a.off,by rw[hA,<-this],hb,fun j hj=>?_⟩;have hg:=Jg l k j (by omega) hj;have hs:((l.b k jq).ay)[j]? = some ((l.b k jq).ay[j]'(by rw[Bk.J];exact hj)):=fH _;rw[hs]at hg ⊢;have:=hc _ _ hg;rw[h3 a hA (by omega),iL]at this;rw[<-this,kY]
theorem Gw.dW{k:Nat}(h:Gw w B A n l)(hk:k<n):∃b o,A=some ⟨b,o,none⟩/\b<B/\yE w b (o+k*27) 27/\eH w b (o+k*27) 27=(l.b k jq).ay:=by
 obtain⟨b,o,hA,hb,hc⟩:=h.cell hk;exact⟨b,o,hA,hb,vN (Bk.J _) hc⟩
end
def nu(a b:List UInt8):Int:=iF a b
theorem ae9(a b:List UInt8):nu a b = -1\/nu a b=0\/nu a b=1:=by
 unfold nu
 induction a generalizing b with
 | nil=>cases b<;>simp[iF]
 | cons x a ih=>
   cases b with
   | nil=>simp[iF]
   | cons y b=>
     unfold iF;split
     ·simp
     ·split
      ·simp
      ·exact ih b
theorem Px(x y:UInt8):x<y\/x=y\/y<x:=by
 rcases Nat.lt_trichotomy x.e y.e with h|h|h
 ·exact Or.inl (AA.2 h)
 ·exact Or.inr (Or.inl (mR.1 h))
 ·exact Or.inr (Or.inr (AA.2 h))
theorem Fh{a b:List UInt8}:nu a b=0↔a=b:=by
 unfold nu
 induction a generalizing b with
 | nil=>cases b<;>simp[iF]
 | cons x a ih=>
   cases b with
   | nil=>simp[iF]
   | cons y b=>
     unfold iF;rcases Px x y with h|rfl|h
     ·have:x≠y:=fun e=>by subst e;exact kL x h
      simp[h,this]
     ·have:=kL x
      simp[this,ih]
     ·have h1:¬x<y:=fun h2=>kL x (uz h2 h)
      have:x≠y:=fun e=>by subst e;exact kL x h
      simp[h,h1,this]
theorem aiU(a b:List UInt8):nu b a = - nu a b:=by
 unfold nu
 induction a generalizing b with
 | nil=>cases b<;>simp[iF]
 | cons x a ih=>
   cases b with
   | nil=>simp[iF]
   | cons y b=>
     unfold iF;rcases Px x y with h|rfl|h
     ·have h1:¬y<x:=fun h2=>kL x (uz h h2)
      simp[h,h1]
     ·have:=kL x
      simp[this,ih]
     ·have h1:¬x<y:=fun h2=>kL x (uz h2 h)
      simp[h,h1]
theorem Gy{a b c:List UInt8}(h1:nu a b<0)(h2:nu b c<0):nu a c<0:=by
 unfold nu at *
 induction a generalizing b c with
 | nil=>
   cases c with
   | nil=>cases b<;>simp[iF]at h1 h2
   | cons z c=>simp[iF]
 | cons x a ih=>
   cases b with
   | nil=>simp[iF]at h1
   | cons y b=>
     cases c with
     | nil=>simp[iF]at h2
     | cons z c=>
       unfold iF at h1 h2 ⊢;rcases Px x y with h|rfl|h
       ·rcases Px y z with k|rfl|k
        ·have:=uz h k
         simp[this]
        ·simp[h]
        ·have k1:¬y<z:=fun k2=>kL z (uz k k2)
         simp[k,k1]at h2
       ·have hx:=kL x
        rcases Px x z with k|rfl|k
        ·simp[k]
        ·simp[hx]at h1 h2 ⊢
         exact ih h1 h2
        ·have k1:¬x<z:=fun k2=>kL z (uz k k2)
         simp[k,k1]at h2
       ·have h3:¬x<y:=fun k2=>kL y (uz h k2)
        simp[h,h3]at h1
theorem ze(a b:List UInt8):bU a b=decide (nu a b<0):=by
 unfold nu
 induction a generalizing b with
 | nil=>cases b<;>simp[iF,bU]
 | cons x a ih=>
   cases b with
   | nil=>simp[iF,bU]
   | cons y b=>
     unfold iF bU;rcases Px x y with h|rfl|h
     ·simp[h]
     ·have:=kL x
      simp[this,ih]
     ·have h1:¬x<y:=fun h2=>kL x (uz h2 h)
      have:x≠y:=fun e=>by subst e;exact kL x h
      simp[h,h1,this]
def Fj(l:List Bk):Prop:=l.Pairwise fun x y=>nu x.F y.F<0
def nm(l:List Bk)(i:Nat):List UInt8:=(l.b i jq).F
theorem Fj.lt{l:List Bk}(h:Fj l){i j:Nat}(hij:i<j)(hj:j<l.a):nu (nm l i) (nm l j)<0:=by
 have:=List.pairwise_iff_getElem.1 h i j (by omega) hj hij;unfold nm;rw[au,au,aC hj,aC (by omega:i<l.a)];exact this
theorem Fj.down{l:List Bk}(h:Fj l){i j:Nat}(s:List UInt8)(hij:i<=j)(hj:j<l.a)(hs:nu (nm l j) s<0):nu (nm l i) s<0:=by
 rcases aZ i j with h1|h1
 ·exact Gy (h.lt h1 hj) hs
 ·obtain rfl:i=j:=by omega
  exact hs
theorem Fj.up{l:List Bk}(h:Fj l){i j:Nat}(s:List UInt8)(hij:i<=j)(hj:j<l.a)(hs:¬nu (nm l i) s<0):¬nu (nm l j) s<0:=fun h1=>hs (h.down s hij hj h1)
def kP(l:List Bk)(s:List UInt8):Nat:=(l.takeWhile fun x=>decide (nu x.F s<0)).a
theorem ahi{l:List Bk}{s:List UInt8}{k:Nat}(hk:k<=l.a)(h1:∀i,i<k->nu (nm l i) s<0)(h2:k<l.a->¬nu (nm l k) s<0):kP l s=k:=by
 unfold kP
 induction l generalizing k with
 | nil=>simp at hk⊢;omega
 | cons x l ih=>
   rcases k with _|k
   ·have:¬nu x.F s<0:=h2 (by simp)
    simp[this]
   ·have h0:nu x.F s<0:=h1 0 (by omega)
    rw[List.takeWhile_cons];simp only[h0,decide_true,if_true,bl];rw[ih (k:=k) (by simpa using hk) (fun i hi=>h1 (i+1) (by omega)) (fun hi=>h2 (by simpa using hi))]
theorem UM(a b:List UInt8)(w:ak):(callFunc 302 #[.g (bK a),.g (bK b)]).O ah w=.ok (.value (.b .a (nu a b))) w:=by
 rw[zN Tryz.func302 (by kernel_rfl) (by kernel_rfl) (by kernel_rfl) (e:=Extern.BytealgCompare.compare) (by kernel_rfl),Lib.run_compareString];rfl
theorem Nj(a b:List UInt8)(w:ak):aR ah 240 #[.g (bK a),.g (bK b)] w fun e w'=>e=.a (.b .a (nu a b))/\w=w':=by
 have h:=UM a b;go_enter Tryz.func240,Tryz.ntmps240;go_wp2;go_ret;exact⟨rfl,rfl⟩
theorem QK(a b:List UInt8)(w:ak):aR ah 166 #[.g (bK a),.g (bK b)] w fun e w'=>e=.a (.b .a (nu a b))/\w=w':=by
 go_enter Tryz.func166,Tryz.ntmps166;go_wp2_with (go_at_call 240;refine(Nj _ _ _).g ?_;rintro e w' ⟨rfl,rfl⟩);go_ret;exact⟨rfl,rfl⟩
theorem Tq(x:Bk)(s:List UInt8)(w:ak):aR ah 179 #[.d x.ay,.g (bK s)] w (gY w (.b .a (nu x.F s))):=by
 have hb0:aM w.a.j w (w.alloc (.D x.ay 62)):=(aG _ _).alloc (av _) _;have HB0:=ab hb0;clear hb0;go_enter Tryz.func179,Tryz.ntmps179;go_wp2_with (go_at_call 166;refine(QK _ _ _).g ?_;rintro e w' ⟨rfl,rfl⟩);go_ret;exact⟨rfl,HB0.i⟩
def rX(l:List Bk)(s:List UInt8):Bool:=decide (kP l s<l.a)&&decide (nu (nm l (kP l s)) s=0)
def qg(l:List Bk)(s:List UInt8):Bk:=if rX l s then l.b (kP l s) jq else jq
theorem apq{l:List Bk}{s:List UInt8}(h:rX l s=false):qg l s=jq:=by simp[qg,h]
theorem Fp{l:List Bk}{s:List UInt8}(h:rX l s=true):qg l s=l.b (kP l s) jq:=by simp[qg,h]
theorem aiV(args:Array aB)(w:ak):(callFunc 179 args).O ah w=.ok (.enter 179 args) w:=by kernel_rfl
theorem ae'(l:List Bk)(hs:Fj l)(s:List UInt8)(A:Option aV)(c:Nat)(w:ak)(hR:Gw w w.a.j A l.a l)(hn:l.a<4611686018427387904):
 aR ah 178 #[.a A l.a c,.g (bK s),.func (.func 179) #[] #[]] w
  (gY w (.K #[.b .a (kP l s),.e (rX l s)])):=by
 have hen:=aiV;have HR:=ab hR;clear hR;have HS:=ab hs;clear hs;obtain⟨n,hnl⟩:=cB l.a;rw[<-hnl]at HR hn ⊢;have HN:=ab hnl;clear hnl;go_enter Tryz.func178,Tryz.ntmps178;go_wp2;go_loopw [9,10] (fun s9 s10 wr=>∃i j:Nat,i<=j/\j<=n/\s9=.b .a i/\s10=.b .a j/\(∀k,k<i->nu (nm l k) s<0)/\(∀k,j<=k->k<n->¬nu (nm l k) s<0)/\aM w.a.j w wr) (fun s9 s10 _=>(intOf s10-intOf s9).e)
 case atStart=>exact⟨0,n,by omega,av _,rfl,rfl,fun k hk=>by omega,fun k h1 h2=>by omega,aG _ _⟩
 case round=>
  obtain⟨i,j,hij,hjn,rfl,rfl,hlo,hhi,hb⟩:=hrel;have HLO:=ab hlo;have HHI:=ab hhi;have HB:=ab hb;clear hlo hhi hb;by_cases hlt:i<j
  ·have hin:(i:Int)<j:=by omega
   have hmn:(i+j)/2<n:=by omega
   have hR1:=HR.i.Y HB.i;obtain⟨b,o,rfl,hbb,hh,hc⟩:=hR1.dW hmn;have IC:=ab hbb;clear hR1 hbb;have hdn:∀k,k<=(i+j)/2->nu (nm l ((i+j)/2)) s<0->nu (nm l k) s<0:=fun k hk h=>HS.i.down s hk (by have:=HN.i;omega) h
   have hup:∀k,(i+j)/2<=k->k<n->¬nu (nm l ((i+j)/2)) s<0->¬nu (nm l k) s<0:=fun k hk hkn h=>HS.i.up s hk (by have:=HN.i;omega) h
   have HDN:=ab hdn;have HUP:=ab hup;clear hdn hup;unfold nm at HDN HUP;obtain⟨x,hx⟩:=cB (l.b ((i+j)/2) jq);rw[<-hx]at hc HDN HUP;clear hx;by_cases ht:nu x.F s<0
   ·have hd:decide (nu x.F s<0)=true:=by simpa using ht
    go_wp2_with (go_at_call 179;refine(Tq x s _).g ?_;rintro e w1 ⟨rfl,hb1⟩;clear hh hc;have HB1:=ab hb1;clear hb1);go_roundw
    case rel=>exact⟨(i+j)/2+1,j,by omega,by omega,by go_num,by go_num,fun k hk=>HDN.i k (by omega) ht,fun k h1 h2=>by have:=HHI.i k h1 h2;omega,jD HB.i HB1.i⟩
    case measure=>simp[intOf]<;>omega
   ·have hd:decide (nu x.F s<0)=false:=by simpa using ht
    go_wp2_with (go_at_call 179;refine(Tq x s _).g ?_;rintro e w1 ⟨rfl,hb1⟩;clear hh hc;have HB1:=ab hb1;clear hb1);go_roundw
    case rel=>exact⟨i,(i+j)/2,by omega,by omega,by go_num,by go_num,HLO.i,fun k h1 h2=>by have:=HUP.i k h1 h2 ht;unfold nm;omega,jD HB.i HB1.i⟩
    case measure=>simp[intOf]<;>omega
  ·obtain rfl:i=j:=by omega
   have hlo:kP l s=i:=ahi (by have:=HN.i;omega) HLO.i (fun h=>by have:=HHI.i i (av _) (by have:=HN.i;omega);omega);have alF:=ab hlo;clear hlo;by_cases hlt2:i<n
   ·have hin:(i:Int)<n:=by omega
    have hR1:=HR.i.Y HB.i;obtain⟨b,o,rfl,hbb,hh,hc⟩:=hR1.dW hlt2;clear hR1 hbb;have hf:rX l s=decide (nu (l.b i jq).F s=0):=by
     have h1:=alF.i;have h2:=HN.i;unfold rX nm;rw[h1];simp[show i<l.a by omega]
    have HF:=ab hf;clear hf;obtain⟨x,hx⟩:=cB (l.b i jq);rw[<-hx]at hc HF;clear hx;by_cases ht:nu x.F s=0
    ·have hd:(nu x.F s==0)=true:=by simpa using ht
     go_wp2_with (go_at_call 179;refine(Tq x s _).g ?_;rintro e w1 ⟨rfl,hb1⟩;clear hh hc;have HB1:=ab hb1;clear hb1);go_ret2;exact⟨by rw[alF.i,HF.i];simp[ht],jD HB.i HB1.i⟩
    ·have hd:(nu x.F s==0)=false:=by simpa using ht
     go_wp2_with (go_at_call 179;refine(Tq x s _).g ?_;rintro e w1 ⟨rfl,hb1⟩;clear hh hc;have HB1:=ab hb1;clear hb1);go_ret2;exact⟨by rw[alF.i,HF.i];simp[ht],jD HB.i HB1.i⟩
   ·have hf:rX l s=false:=by
     have h1:=alF.i;have h2:=HN.i;unfold rX;rw[h1];simp[show¬i<l.a by omega]
    have HF:=ab hf;clear hf;have hd:decide ((i:Int)<n)=false:=by simpa using hlt2
    go_wp2;go_ret2;exact⟨by rw[alF.i,HF.i];rfl,HB.i⟩
theorem Ma(l:List Bk)(hs:Fj l)(s:List UInt8)(v:Int)(A:Option aV)(c:Nat)(w:ak)(hR:Gw w w.a.j A l.a l)(hn:l.a<4611686018427387904):
 aR ah 96 #[.d #[.b .a v,.a A l.a c],.g (bK s)] w (gY w (.K #[.b .a (kP l s),.e (rX l s)])):=by
 have hb0:∀ob,aM w.a.j w (w.alloc ob):=fun ob=>(aG _ _).alloc (av _) _
 have HB0:=ab hb0;clear hb0;have HR1:=ab (fun ob=>(hR.alloc (av _) ob).lD (B':=(w.alloc ob).a.j) (by simp));clear hR;go_enter Tryz.func96,Tryz.ntmps96;go_wp2_with (go_at_call 178;refine(ae' l hs s A c _ (HR1.i _) hn).g ?_;rintro e w1 ⟨rfl,hb1⟩;have HB1:=ab hb1;clear hb1);go_ret2;exact⟨rfl,jD (HB0.i _) HB1.i⟩
theorem AJ(l:List Bk)(hs:Fj l)(s:List UInt8)(v:Int)(A:Option aV)(c:Nat)(w:ak)(hR:Gw w w.a.j A l.a l)(hn:l.a<4611686018427387904):
 aR ah 33 #[.d #[.b .a v,.a A l.a c],.g (bK s)] w (gY w (.K #[.d (qg l s).ay,.e (rX l s)])):=by
 have hb0:∀ob uS,aM w.a.j w ((w.alloc ob).alloc uS):=fun ob uS=>((aG _ _).alloc (av _) _).alloc (by simp) _
 have HB0:=ab hb0;clear hb0;have HR1:=ab (fun ob uS=>((hR.alloc (av _) ob).alloc (by simp) uS).lD (B':=((w.alloc ob).alloc uS).a.j) (by simp;omega));have HRB:=ab hR;clear hR;obtain⟨K,hK⟩:=uP (rX l s);have HK:=ab hK;clear hK;cases K
 ·go_enter Tryz.func33,Tryz.ntmps33
  go_wp2_with fail;refine(Ma l hs s v A c _ (HR1.i _ _) hn).g ?_;rintro e w1 ⟨rfl,hb1⟩;rw[HK.i];have hth:=QE (Yb (w.alloc (.D #[.b .a v,.a A l.a c] 32)) jq.ay 62 (Bk.J _)) hb1 (by simp);rw[show∀ob,(w.alloc ob).a.j=w.a.j+1 from fun ob=>by simp]at hth;have hB:=HB0.i (.D #[.b .a v,.a A l.a c] 32) (.D jq.ay 62);have HB1:=ab (hB.trans (hb1.g (by simp;omega)));have HT:=ab hth;clear hb1 hB;go_wp2_with fail
  (try simp only[Exit.inBlock,Exit.then])
  refine aO (alp rfl _ _ _ _ rfl (Ng _ _ _ _ HT.i).1) rfl ⟨?_,QH HB1.i _ _ _ (by omega)⟩;rw[(Ng _ _ _ _ HT.i).2,apq HK.i]
  try rw[HK.i]
  rfl
 ·have hlt:kP l s<l.a:=by
   have:=HK.i;unfold rX at this;simp at this;exact this.1
  have hin:((kP l s:Nat):Int)<(l.a:Nat):=by omega
  go_enter Tryz.func33,Tryz.ntmps33;go_wp2_with fail;refine(Ma l hs s v A c _ (HR1.i _ _) hn).g ?_;rintro e w1 ⟨rfl,hb1⟩;rw[HK.i];have hcl:w1.b ⟨w.a.j,1,none⟩=some (.a A l.a c):=by
   rw[hb1.cell (by simp;omega)];go_simp
  have hth:=QE (Yb (w.alloc (.D #[.b .a v,.a A l.a c] 32)) jq.ay 62 (Bk.J _)) hb1 (by simp);rw[show∀ob,(w.alloc ob).a.j=w.a.j+1 from fun ob=>by simp]at hth;have hB:=HB0.i (.D #[.b .a v,.a A l.a c] 32) (.D jq.ay 62);have hB1:=hB.trans (hb1.g (by simp;omega));have HB1:=ab hB1;have hR1:=HRB.i.Y hB1;have HT:=ab hth;clear hb1 hB hB1;obtain⟨b,o,rfl,hbb,hh,hc⟩:=hR1.dW hlt;clear hbb hR1;obtain⟨x,hx⟩:=cB (l.b (kP l s) jq);rw[<-hx]at hc;have HX:=ab hx;clear hx;go_wp2_with fail
  (try simp only[Exit.inBlock,Exit.then])
  refine aO (alp rfl _ _ _ _ rfl (Ng _ _ _ _ HT.i).1) rfl ⟨?_,QH HB1.i _ _ _ (by omega)⟩;rw[(Ng _ _ _ _ HT.i).2,Fp HK.i,<-HX.i]
  try rw[HK.i]
  rfl
theorem qh{P:fB}{T:Type}(f:T->ak){id:Nat}{Q:Bn->rO->ak->Prop}{a:rO}{w:ak}{l:List ji}(hm:P.follows .mixedOrders=true)(hB:Region.lexB .any l.c=true)
 (n0:T) (h0:f n0=w.drew)
 (h:wpQuiet P l.c (fun w'=>∃n,w'=f n) (fun a'=>∀w',(∃n,w'=f n)->Q .normal a' w') l a):(Code.region id l.c true).wp P Q a w:=
 wp_region_quiet (C:=fun w'=>∃n,w'=f n) hm hB ⟨n0,h0.symm⟩ (by simpa using h)
theorem Jh(S:ak->Prop)(w:ak)(h:S w.drew):∃(T:Type)(f:T->ak)(n0:T),f n0=w.drew/\(∀n,S (f n))/\(∀W,S W->∃n,W=f n):=
 ⟨{W // S W},Subtype.val,⟨w.drew,h⟩,rfl,fun n=>n.2,fun W hW=>⟨⟨W,hW⟩,rfl⟩⟩
theorem aiW(x:Nat):Fg x x=true:=by simp[Fg]
def Xo(x:Nat):Bool:=Fg x (kS x)
def Bk.sD(x:Bk):Prop:=x.F.a<=9223372036854775807/\x.w<18446744073709551616
def K7(l:List Bk)(i:Nat):Bool:=(l.b i jq).Cz&&Xo (l.b i jq).w&&(decide (i=0)||decide (nu (nm l (i-1)) (nm l i)<0))
def zf(v:Int)(l:List Bk):Bool:=decide (0<=v)&&decide (v<=1099511627776)&&decide (l.a<=1024)&&(eu l.a).all (K7 l)
theorem Ji(p:Nat->Bool)(i:Nat):(eu (i+1)).all p=((eu i).all p&&p i):=by
 rw[List.range_succ,List.all_append];simp
theorem jw(p:Nat->Bool)(i n:Nat)(h:i<n)(hp:p i=false):(eu n).all p=false:=by
 rw[List.all_eq_false];exact⟨i,fq.2 h,by rw[hp];simp⟩
def SR(n4:Nat)(x:Bk)(hp:Nat)(sl:aB)(b o:Nat)(pn:List UInt8)(W:ak):Prop:=
 n4<W.a.j/\hp<W.a.j/\b<W.a.j/\yE W n4 0 27/\eH W n4 0 27=x.ay/\W.b ⟨n4,0,none⟩=some (.g (bK x.F))/\W.b ⟨n4,25,none⟩=some (fv x.w)/\W.b ⟨hp,1,none⟩=some sl/\W.b ⟨b,o,none⟩=some (.g (bK pn))
theorem SR.Y{n4 hp b o:Nat}{x:Bk}{sl:aB}{pn:List UInt8}{W W1:ak}(h:SR n4 x hp sl b o pn W)(hb:aM W.a.j W W1):SR n4 x hp sl b o pn W1:=by
 obtain⟨h1,h2,h3,h4,h5,h6,h7,h8,h9⟩:=h;have hz:=hb.j;refine⟨by omega,by omega,by omega,fun j hj=>?_,?_,by rw[hb.cell h1];exact h6,by rw[hb.cell h1];exact h7,by rw[hb.cell h2];exact h8,by rw[hb.cell h3];exact h9⟩
 ·obtain⟨v,hv⟩:=h4 j hj
  exact⟨v,by rw[hb.cell h1];exact hv⟩
 ·rw[<-h5];exact Gu fun j _=>hb.cell h1
theorem SR.load{n4 hp b o:Nat}{x:Bk}{sl:aB}{pn:List UInt8}{W:ak}(h:SR n4 x hp sl b o pn W):(UC (.c (some ⟨n4,0,none⟩))).O ah W=.ok (.d x.ay) W:=by
 rw[apl W n4 0 h.2.2.2.1,h.2.2.2.2.1]
theorem Xp(l:List Bk)(hf:∀x∈l,x.sD)(v:Int)(A:Option aV)(c:Nat)(w:ak)(hR:Gw w w.a.j A l.a l)(hn:l.a<4611686018427387904):
 aR ah 45 #[.d #[.b .a v,.a A l.a c]] w (gY w (.e (zf v l))):=by
 have hb0:∀ob,aM w.a.j w (w.alloc ob):=fun ob=>(aG _ _).alloc (av _) _
 have HB0:=ab hb0;clear hb0;have HR:=ab hR;have HF:=ab hf;clear hR hf;have hp:zf v l=(decide (0<=v)&&decide (v<=1099511627776)&&decide (l.a<=1024)&&(eu l.a).all (K7 l)):=rfl;have HP:=ab hp;clear hp;by_cases h1:0<=v;rotate_left
 ·have h1':v<0:=by omega
  go_enter Tryz.func45,Tryz.ntmps45;go_wp2;go_ret;exact⟨by rw[HP.i];simp<;>intros<;>omega,HB0.i _⟩
 by_cases h2:v<=1099511627776;rotate_left
 ·go_enter Tryz.func45,Tryz.ntmps45
  go_wp2;go_ret;exact⟨by rw[HP.i];simp<;>intros<;>omega,HB0.i _⟩
 by_cases h3:l.a<=1024;rotate_left
 ·go_enter Tryz.func45,Tryz.ntmps45
  go_wp2;go_ret;exact⟨by rw[HP.i];simp<;>intros<;>omega,HB0.i _⟩
 obtain⟨n,hnl⟩:=cB l.a;rw[<-hnl]at HR hn h3 ⊢;have HN:=ab hnl;clear hnl;go_enter Tryz.func45,Tryz.ntmps45;go_wp2;go_loopw [22] (fun s22 wr=>∃i:Nat,i<=n/\s22=.b .a i/\(eu i).all (K7 l)=true/\aM (w.a.j+1) (w.alloc (.D #[.b .a v,.a A n c] 32)) wr) (fun s22 _=>n-(intOf s22).e)
 case atStart=>exact⟨0,by omega,rfl,rfl,by simpa using aG _ _⟩
 case round=>
  obtain⟨i,hin,rfl,hall,hb⟩:=hrel;have HA:=ab hall;have hB:=(HB0.i (.D #[.b .a v,.a A n c] 32)).trans (hb.g (by simp));have hcl:wr.b ⟨w.a.j,1,none⟩=some (.a A n c):=by
   rw[hb.cell (by simp)];go_simp
  have HB:=ab hb;have HBW:=ab hB;have hsz:=hb.j;clear hall hb hB;by_cases hlt:i<n
  ·have hi:(i:Int)<n:=by omega
   have hR1:=HR.i.Y HBW.i;obtain⟨b,o,rfl,hbb,hh,hc⟩:=hR1.dW hlt;have hbs:b<wr.a.j:=by simp at hsz;omega
   have hmem:l.b i jq∈l:=by
    have:=HN.i;rw[au,aC (by omega)];simp
   obtain⟨hx1,hx2⟩:=HF.i _ hmem;have hok:K7 l i=((l.b i jq).Cz&&Xo (l.b i jq).w&&(decide (i=0)||decide (nu (nm l (i-1)) (nm l i)<0))):=rfl;have hnm:nm l i=(l.b i jq).F:=rfl;rw[hnm]at hok;obtain⟨x,hx⟩:=cB (l.b i jq);rw[<-hx]at hc hx1 hx2 hok;have Kl:=ab hok;clear hx hok hnm hmem;obtain⟨K1,hK1⟩:∃K,x.Cz=K:=⟨_,rfl⟩
   obtain⟨K2,hK2⟩:∃K,Fg x.w (kS x.w)=K:=⟨_,rfl⟩
   have hn4:wr.a.j<(wr.alloc (.D x.ay 62)).a.j:=by simp
   have hS:∀b' o' pn,b'<wr.a.j->wr.b ⟨b',o',none⟩=some (.g (bK pn))->SR wr.a.j x w.a.j (.a (some ⟨b,o,none⟩) n c) b' o' pn (wr.alloc (.D x.ay 62)):=by
    intro b' o' pn h1 h2;refine⟨by simp,by simp at hsz⊢;omega,by simp;omega,?_,?_,?_,?_,?_,?_⟩
    ·rw[UA];trivial
    ·exact Jd _ _ _
    ·rw[nK];exact Bk.qW x
    ·rw[nK];exact Bk.ae0 x
    ·rw[wM _ _ _ (by simp at hsz⊢;omega)];exact hcl
    ·rw[wM _ _ _ (by simpa using h1)];exact h2
   have hpn:∃pn,(0<i->wr.b ⟨b,o+(i-1)*27,none⟩=some (.g (bK pn))/\nm l (i-1)=pn):=by
    refine⟨nm l (i-1),fun h0=>⟨?_,rfl⟩⟩;obtain⟨b',o',hbo,_,hcc⟩:=hR1.cell (k:=i-1) (by omega);injection hbo with hbo
    injection hbo with e1 e2
    subst e1 e2;have:=hcc 0 (by omega);rw[Bk.qW]at this;simpa[nm]using this
   have hn0:wr.b ⟨b,o+i*27,none⟩=some (.g (bK x.F)):=by
    have:=hh 0 (by omega);obtain⟨u,hu⟩:=this;have hg:=Jc wr b (o+i*27) 27 0 (by omega);rw[hc,Bk.qW]at hg;rw[hu]at hg;simp at hg hu;rw[hu,<-hg]
   have Xq:∀b' o' pn,b'<wr.a.j->wr.b ⟨b',o',none⟩=some (.g (bK pn))->∃(T:Type)(f:T->ak)(n0:T),f n0=(wr.alloc (.D x.ay 62)).drew/\(∀m W1,aM (f m).a.j (f m) W1->∃m',W1=f m')/\(∀m,aM (w.a.j+1) (w.alloc (.D #[.b .a v,.a (some ⟨b,o,none⟩) n c] 32)) (f m)) /\
    (∀m,(UC (.c (some ⟨wr.a.j,0,none⟩))).O ah (f m)=.ok (.d x.ay) (f m))/\(∀m,(f m).b ⟨wr.a.j,0,none⟩=some (.g (bK x.F)))/\(∀m,(f m).b ⟨wr.a.j,25,none⟩=some (.float .f64 x.w)) /\
     (∀m,(f m).b ⟨w.a.j,1,none⟩=some (.a (some ⟨b,o,none⟩) n c))/\(∀m,(f m).b ⟨b',o',none⟩=some (.g (bK pn))):=by
    intro b' o' pn h1 h2;obtain⟨T,f,n0,e0,eS,eT⟩:=Jh (fun W=>SR wr.a.j x w.a.j (.a (some ⟨b,o,none⟩) n c) b' o' pn W/\aM (w.a.j+1) (w.alloc (.D #[.b .a v,.a (some ⟨b,o,none⟩) n c] 32)) W)
     (wr.alloc (.D x.ay 62)) ⟨hS _ _ _ h1 h2,(HB.i.alloc (by simp at hsz;omega) _).drew⟩
    refine⟨T,f,n0,e0,?_,fun m=>(eS m).2,fun m=>(eS m).1.load,fun m=>(eS m).1.2.2.2.2.2.1,fun m=>(eS m).1.2.2.2.2.2.2.1,fun m=>(eS m).1.2.2.2.2.2.2.2.1,fun m=>(eS m).1.2.2.2.2.2.2.2.2⟩;intro m W1 hb;have:=(eS m).2.j;exact eT _ ⟨(eS m).1.Y hb,(eS m).2.trans (hb.g (by simpa using this))⟩
   have Ar:∀K,x.Cz=K->∀W,aR ah 111 #[.d x.ay] W fun e w'=>e=.a (.e K)/\aM W.a.j W w':=fun K h W=>by
    have:=acL x W hx1 hx2;rw[h]at this;exact this
   have tO:∀K,Fg x.w (kS x.w)=K->∀W,aR ah 112 #[.float .f64 x.w,.float .f64 (kS x.w)] W fun e w'=>e=.a (.e K)/\W=w':=fun K h W=>by
    have:=acE x.w (kS x.w) W;rw[h]at this;exact this
   cases K1
   ·have hno:K7 l i=false:=by rw[Kl.i,hK1];rfl
    have acM:=jw (K7 l) i n hlt hno;have hPF:zf v l=false:=by rw[HP.i,<-HN.i,acM];simp
    have HPF:=ab hPF;have HRI:=ab (Ar _ hK1);have Ye:=ab (tO _ hK2);clear hK1 hK2 hpn hno acM hPF Ar tO;obtain⟨T,f,n0,e0,es,ew,r1,r2,r3,r4,r5⟩:=Xq _ _ _ hbs hn0;have hne:Nonempty T:=⟨n0⟩
    have E0:=ab e0;have ES:=ab es;have EW:=ab ew;clear hS Xq e0 es ew;go_upto_region 6 with fail
    refine qh f (by kernel_rfl) (by kernel_rfl) n0 E0.i ?_
    repeat(go_big_quiet_step ((first
     | (go_at_call 111;refine(HRI.i _).g ?_;rintro e w1 ⟨rfl,hb1⟩;exact⟨rfl,ES.i _ _ hb1⟩)
     | (go_at_call 113;refine(Ag _ _).g ?_;rintro e w1 ⟨rfl,rfl⟩;exact⟨rfl,_,rfl⟩)
     | (go_at_call 112;refine(Ye.i _).g ?_;rintro e w1 ⟨rfl,rfl⟩;exact⟨rfl,_,rfl⟩))))
    refine iw ?_;rintro _ ⟨m,rfl⟩;go_wp2;go_ret;exact⟨by rw[HPF.i];rfl,(HB0.i _).trans ((EW.i _).g (by simp))⟩
   ·cases K2
    ·have hno:K7 l i=false:=by rw[Kl.i];unfold Xo;rw[hK2];simp
     have acM:=jw (K7 l) i n hlt hno;have hPF:zf v l=false:=by rw[HP.i,<-HN.i,acM];simp
     have HPF:=ab hPF;have HRI:=ab (Ar _ hK1);have Ye:=ab (tO _ hK2);clear hK1 hK2 hpn hno acM hPF Ar tO;obtain⟨T,f,n0,e0,es,ew,r1,r2,r3,r4,r5⟩:=Xq _ _ _ hbs hn0;have hne:Nonempty T:=⟨n0⟩
     have E0:=ab e0;have ES:=ab es;have EW:=ab ew;clear hS Xq e0 es ew;go_upto_region 6 with fail
     refine qh f (by kernel_rfl) (by kernel_rfl) n0 E0.i ?_
     repeat(go_big_quiet_step ((first
      | (go_at_call 111;refine(HRI.i _).g ?_;rintro e w1 ⟨rfl,hb1⟩;exact⟨rfl,ES.i _ _ hb1⟩)
      | (go_at_call 113;refine(Ag _ _).g ?_;rintro e w1 ⟨rfl,rfl⟩;exact⟨rfl,_,rfl⟩)
      | (go_at_call 112;refine(Ye.i _).g ?_;rintro e w1 ⟨rfl,rfl⟩;exact⟨rfl,_,rfl⟩))))
     refine iw ?_;rintro _ ⟨m,rfl⟩;go_wp2;go_ret;exact⟨by rw[HPF.i];rfl,(HB0.i _).trans ((EW.i _).g (by simp))⟩
    ·rcases i with _|i
     ·simp only[J7,kQ]at hh hc hn0
      have hyes:(eu (0+1)).all (K7 l)=(eu 0).all (K7 l):=by
       rw[Ji,Kl.i];unfold Xo;rw[hK1,hK2];simp
      have HY:=ab hyes;have HRI:=ab (Ar _ hK1);have Ye:=ab (tO _ hK2);clear hK1 hK2 hpn hyes Ar tO;obtain⟨T,f,n0,e0,es,ew,r1,r2,r3,r4,r5⟩:=Xq _ _ _ hbs hn0;have hne:Nonempty T:=⟨n0⟩
      have E0:=ab e0;have ES:=ab es;have EW:=ab ew;clear hS Xq e0 es ew;go_upto_region 6 with fail
      refine qh f (by kernel_rfl) (by kernel_rfl) n0 E0.i ?_
      repeat(go_big_quiet_step ((first
       | (go_at_call 111;refine(HRI.i _).g ?_;rintro e w1 ⟨rfl,hb1⟩;exact⟨rfl,ES.i _ _ hb1⟩)
       | (go_at_call 113;refine(Ag _ _).g ?_;rintro e w1 ⟨rfl,rfl⟩;exact⟨rfl,_,rfl⟩)
       | (go_at_call 112;refine(Ye.i _).g ?_;rintro e w1 ⟨rfl,rfl⟩;exact⟨rfl,_,rfl⟩))))
      refine iw ?_;rintro _ ⟨m,rfl⟩;go_wp2;go_roundw
      case rel=>exact⟨0+1,by omega,by go_num,by rw[HY.i];exact HA.i,EW.i _⟩
      case measure=>simp[intOf]<;>omega
     ·obtain⟨pn,hpn⟩:=hpn
      obtain⟨hp1,hp2⟩:=hpn (by omega);clear hpn;simp only[Nat.add_sub_cancel]at hp1 hp2;have hok2:K7 l (i+1)=(x.Cz&&Xo x.w&&(decide (i+1=0)||decide (nu pn x.F<0))):=by rw[Kl.i,Nat.add_sub_cancel,hp2]
      have hbl:=ze pn x.F;by_cases ht:nu pn x.F<0
      ·have hbt:bU pn x.F=true:=by rw[hbl];simpa using ht
       have hyes:(eu (i+1+1)).all (K7 l)=(eu (i+1)).all (K7 l):=by
        rw[Ji,hok2];unfold Xo;rw[hK1,hK2];simp[ht]
       have HY:=ab hyes;have HRI:=ab (Ar _ hK1);have Ye:=ab (tO _ hK2);clear hK1 hK2 hyes Ar tO hok2 hbl hp2 ht;obtain⟨T,f,n0,e0,es,ew,r1,r2,r3,r4,r5⟩:=Xq _ _ _ hbs hp1;have hne:Nonempty T:=⟨n0⟩
       have E0:=ab e0;have ES:=ab es;have EW:=ab ew;clear hS Xq e0 es ew;go_upto_region 6 with fail
       refine qh f (by kernel_rfl) (by kernel_rfl) n0 E0.i ?_
       repeat(go_big_quiet_step ((first
        | (go_at_call 111;refine(HRI.i _).g ?_;rintro e w1 ⟨rfl,hb1⟩;exact⟨rfl,ES.i _ _ hb1⟩)
        | (go_at_call 113;refine(Ag _ _).g ?_;rintro e w1 ⟨rfl,rfl⟩;exact⟨rfl,_,rfl⟩)
        | (go_at_call 112;refine(Ye.i _).g ?_;rintro e w1 ⟨rfl,rfl⟩;exact⟨rfl,_,rfl⟩))))
       refine iw ?_;rintro _ ⟨m,rfl⟩;go_wp2;go_roundw
       case rel=>exact⟨i+1+1,by omega,by go_num,by rw[HY.i];exact HA.i,EW.i _⟩
       case measure=>simp[intOf]<;>omega
      ·have hbt:bU pn x.F=false:=by rw[hbl];simpa using ht
       have hno:K7 l (i+1)=false:=by rw[hok2];simp[ht]
       have acM:=jw (K7 l) (i+1) n hlt hno;have hPF:zf v l=false:=by rw[HP.i,<-HN.i,acM];simp
       have HPF:=ab hPF;have HRI:=ab (Ar _ hK1);have Ye:=ab (tO _ hK2);clear hK1 hK2 hno acM hPF Ar tO hok2 hbl hp2 ht;obtain⟨T,f,n0,e0,es,ew,r1,r2,r3,r4,r5⟩:=Xq _ _ _ hbs hp1;have hne:Nonempty T:=⟨n0⟩
       have E0:=ab e0;have ES:=ab es;have EW:=ab ew;clear hS Xq e0 es ew;go_upto_region 6 with fail
       refine qh f (by kernel_rfl) (by kernel_rfl) n0 E0.i ?_
       repeat(go_big_quiet_step ((first
        | (go_at_call 111;refine(HRI.i _).g ?_;rintro e w1 ⟨rfl,hb1⟩;exact⟨rfl,ES.i _ _ hb1⟩)
        | (go_at_call 113;refine(Ag _ _).g ?_;rintro e w1 ⟨rfl,rfl⟩;exact⟨rfl,_,rfl⟩)
        | (go_at_call 112;refine(Ye.i _).g ?_;rintro e w1 ⟨rfl,rfl⟩;exact⟨rfl,_,rfl⟩))))
       refine iw ?_;rintro _ ⟨m,rfl⟩;go_wp2;go_ret;exact⟨by rw[HPF.i];rfl,(HB0.i _).trans ((EW.i _).g (by simp))⟩
  ·obtain rfl:i=n:=by omega
   have hPT:zf v l=true:=by rw[HP.i,<-HN.i,HA.i];simp[h1,h2,h3]<;>omega
   have HPT:=ab hPT;clear hPT;have hd:decide ((i:Int)<i)=false:=by simp
   go_wp2;go_ret;exact⟨by rw[HPT.i];rfl,HBW.i⟩
structure Tu where
 h:fD
 dst:fD
 aN:Int
 kg:Int
 iG:Int
deriving DecidableEq
structure Fw where
 key:Tu
 F:List UInt8
 yF:Int
 seen:Int
 no:Int
deriving DecidableEq
structure qE where
 nP:Int
 h:List Bk
 J:List Hl
 tQ:List Fw
 ig:Int
 no:Int
 mV:Vector Int 11
deriving DecidableEq
def nQ:fD:=⟨false,bG 16 0⟩
def afb:Tu:=⟨nQ,nQ,0,0,0⟩
def lu:Fw:=⟨afb,[],0,0,0⟩
def wT:qE:=⟨0,[],[],[],0,0,bG 11 0⟩
abbrev RS:=Option (List UInt8)
def Ik(k:Nat):RS->List UInt8×RS
 | some l=>if k<=l.a then(l.E k,some (l.G k))else([],none)
 | none=>([],none)
def acN(k:Nat)(s:RS):Nat×RS:=(o9 (Ik k s).1,(Ik k s).2)
def lZ(n:Nat)(l:List UInt8):Vector UInt8 n:=EP fun i=>l.b i 0
def tuO(s:RS):(Tu×Bool)×RS:=
 let a1:=acN 1 s
 let a2:=Ik 16 a1.2
 let a3:=Ik 16 a2.2
 let a4:=acN 1 a3.2
 let a5:=acN 2 a4.2
 let a6:=acN 2 a5.2
 ((⟨⟨a1.1==6,lZ 16 a2.1⟩,⟨a1.1==6,lZ 16 a3.1⟩,a4.1,a5.1,a6.1⟩,(a1.1==6)||(a1.1==4)),a6.2)
def MX(t:Tu):List UInt8:=[if t.h.h then 6 else 4]++(t.h.b.a++(t.dst.b.a++([aJ t.aN.e]++(jd t.kg.e 2 true++jd t.iG.e 2 true))))
def Yf(n m:Int):Bool:=decide (0<=n)&&decide (n<=m)
def rz(a:fD):Bool:=a.h||(a.b.a.G 4).all (· == 0)
def Gz(t:Tu):Bool:=decide (t.h.h=t.dst.h)&&rz t.h&&rz t.dst&&Yf t.aN 255&&Yf t.kg 65535&&Yf t.iG 65535
def EA(x:Fw):Bool:=Gz x.key&&xu x.F&&decide (1<=x.yF)&&decide (x.yF<=5)&&Yf x.seen 1099511627776&&Yf x.no 1152921504606846976
theorem afc(a b:Vector UInt8 6)(d:Nat)(W:ak):(je (d+2) 25 (.d (a.a.map bv).c) (.d (b.a.map bv).c)).O ah W=.ok (decide (a=b)) W:=by
 rw[Ii d Tryz.underlying25 (by kernel_rfl) lX _ _ (by simp) (by simp),ahd]
theorem aiX(a b:Vector UInt8 16)(d:Nat)(W:ak):(je (d+2) 22 (.d (a.a.map bv).c) (.d (b.a.map bv).c)).O ah W=.ok (decide (a=b)) W:=by
 rw[Ii d qK (by kernel_rfl) lX _ _ (by simp) (by simp),ahd]
theorem fD.aiY(a:fD):a.ay.extract 1 (1+16)=(a.b.a.map bv).c:=by
 apply pU;simp[fD.ay];exact aK (by simp)
theorem afd:ah.k 27=some (.d (ah.fieldsOf 27)):=by
 simp only[jr,fG]
theorem Yg(c:fD)(W:ak):(part 4 c.ay 0).O ah W=.ok (.e c.h) W:=
 ng (P:=ah) (e:=4) (by simp only[om]) (fD.qW c) W
theorem ahj(c:fD)(W:ak):(part 22 c.ay 1).O ah W=.ok (.d (c.b.a.map bv).c) W:=by
 rw[Cy (P:=ah) (e:=22) (n:=16) (by simp only[qK]) (by kernel_rfl) c.ay 1 W,fD.aiY]
theorem alI:∃f1 f2:oz,(ah.fieldsOf 27).a=[f1,f2]/\f1.F ≠ "_" /\ f2.F ≠ "_" /\ f1.p=4/\f1.offset=0/\f2.p=22/\f2.offset=1:=by
 refine⟨_,_,by simp only[jr,fG];rfl,?_,?_,rfl,rfl,rfl,rfl⟩<;>decide
theorem aai{P:fB}(d:Nat)(xs ys:Array aB)(f1 f2:oz)(h1:f1.F ≠ "_")(h2:f2.F ≠ "_")(W:ak)(a1 b1 a2 b2:aB)(r1 r2:Bool)
 (p1:(part f1.p xs f1.offset).O P W=.ok a1 W) (q1:(part f1.p ys f1.offset).O P W=.ok b1 W) (e1:(je d f1.p a1 b1).O P W=.ok r1 W)
 (p2:(part f2.p xs f2.offset).O P W=.ok a2 W) (q2:(part f2.p ys f2.offset).O P W=.ok b2 W) (e2:(je d f2.p a2 b2).O P W=.ok r2 W) :
 (vw d xs ys [f1,f2]).O P W=.ok (r1&&r2) W:=by
 simp only[vw,h1,h2,ne_eq,not_false_eq_true,if_true,jS,p1,q1,e1,gW];cases r1
 ·simp
 ·simp only[vJ,Bool.false_eq_true,if_false,jS,p2,q2,e2,gW]
  cases r2<;>simp
theorem GD(a b:fD)(d:Nat)(W:ak):(je (d+3) 27 (.d a.ay) (.d b.ay)).O ah W=.ok (decide (a=b)) W:=by
 rw[wF W (d+2) _ _ _ afd Tryz.stoodInHeld27];obtain⟨f1,f2,hl,n1,n2,t1,o1,t2,o2⟩:=alI;rw[hl,aai (d+2) a.ay b.ay f1 f2 n1 n2 W _ _ _ _ _ _ (by rw[t1,o1];exact Yg a W) (by rw[t1,o1];exact Yg b W) (by rw[t1];exact ZL _ _ _ W)
  (by rw[t2,o2];exact ahj a W) (by rw[t2,o2];exact ahj b W) (by rw[t2];exact aiX _ _ d W)]
 obtain⟨s1,v1⟩:=a;obtain⟨s2,v2⟩:=b;congr 1;rw[dG];simp
@[go_sem ↓]theorem aCL(a b:fD)(W:ak):(je 10000 27 (.d a.ay) (.d b.ay)).O ah W=.ok (decide (a=b)) W:=GD a b 9997 W
theorem Bk.ahk(x:Bk):x.ay.extract 1 (1+17)=x.h.ay:=by
 apply dZ;intro j;have hs:=Bk.J x;have ha:=fD.J x.h;rw[cu];by_cases hj:j<17
 ·rw[if_pos (by rw[hs];omega),vB]
  exact Bk.acs x j hj
 ·rw[if_neg (by rw[hs];omega),aW (by rw[ha];omega)]
theorem Bk.aaj(x:Bk):x.ay.extract 19 (19+6)=(x.xQ.a.map bv).c:=by
 apply dZ;intro j;have hs:=Bk.J x;have hm:x.xQ.a.a=6:=by simp
 rw[cu];by_cases hj:j<6
 ·rw[if_pos (by rw[hs];omega),vB,Bk.axS x j hj]
  simp[hj,eO]
 ·rw[if_neg (by rw[hs];omega),aW (by simp;omega)]
theorem alJ(a b:Nat)(d:Nat)(W:ak):(je (d+1) 60 (fv a) (fv b)).O ah W=.ok (Op.floatEq .f64 a b) W:=by
 simp only[fv,je,jS,dK Tryz.underlying60,gW,if_true,oU]
theorem aiZ:ah.k 62=some (.d (ah.fieldsOf 62)):=by
 simp only[jr,oN]
theorem apr:∃f1 f2 f3 f4 f5 f6:oz,(ah.fieldsOf 62).a=[f1,f2,f3,f4,f5,f6]/\(f1.F ≠ "_" /\ f2.F ≠ "_" /\ f3.F ≠ "_" /\ f4.F ≠ "_" /\ f5.F ≠ "_" /\ f6.F ≠ "_") /\
 (f1.p=9/\f1.offset=0)/\(f2.p=27/\f2.offset=1)/\(f3.p=3/\f3.offset=18)/\(f4.p=25/\f4.offset=19)/\(f5.p=60/\f5.offset=25)/\(f6.p=4/\f6.offset=26):=by
 refine⟨_,_,_,_,_,_,by simp only[jr,oN];rfl,⟨?_,?_,?_,?_,?_,?_⟩,⟨rfl,rfl⟩,⟨rfl,rfl⟩,⟨rfl,rfl⟩,⟨rfl,rfl⟩,⟨rfl,rfl⟩,⟨rfl,rfl⟩⟩<;>decide
def alK(x y:Bk):Bool:=(x.F==y.F)&&(decide (x.h=y.h)&&((x.ni==y.ni)&&(decide (x.xQ=y.xQ)&&(Op.floatEq .f64 x.w y.w&&((x.drain==y.drain)&&true)))))
theorem ai0(x y:Bk)(d:Nat)(W:ak):(je (d+4) 62 (.d x.ay) (.d y.ay)).O ah W=.ok (alK x y) W:=by
 rw[wF W (d+3) _ _ _ aiZ Tryz.stoodInHeld62];obtain⟨f1,f2,f3,f4,f5,f6,hl,⟨n1,n2,n3,n4,n5,n6⟩,⟨t1,o1⟩,⟨t2,o2⟩,⟨t3,o3⟩,⟨t4,o4⟩,⟨t5,o5⟩,⟨t6,o6⟩⟩:=apr;rw[hl];have p1:∀z:Bk,(part f1.p z.ay f1.offset).O ah W=.ok (.g (bK z.F)) W:=fun z=>by
  rw[t1,o1];exact ng (by simp only[iZ]) (Bk.qW z) W
 have p2:∀z:Bk,(part f2.p z.ay f2.offset).O ah W=.ok (.d z.h.ay) W:=fun z=>by
  rw[t2,o2,Cy (n:=17) (by simp only[fG]) (by kernel_rfl) z.ay 1 W,Bk.ahk]
 have p3:∀z:Bk,(part f3.p z.ay f3.offset).O ah W=.ok (.b .a z.ni) W:=fun z=>by
  rw[t3,o3];exact ng (by simp only[fI]) (Bk.aeZ z) W
 have p4:∀z:Bk,(part f4.p z.ay f4.offset).O ah W=.ok (.d (z.xQ.a.map bv).c) W:=fun z=>by
  rw[t4,o4,Cy (n:=6) (by simp only[Tryz.underlying25]) (by kernel_rfl) z.ay 19 W,Bk.aaj]
 have p5:∀z:Bk,(part f5.p z.ay f5.offset).O ah W=.ok (fv z.w) W:=fun z=>by
  rw[t5,o5];exact ng (by simp only[Tryz.underlying60]) (Bk.ae0 z) W
 have p6:∀z:Bk,(part f6.p z.ay f6.offset).O ah W=.ok (.e z.drain) W:=fun z=>by
  rw[t6,o6];exact ng (by simp only[om]) (Bk.ae1 z) W
 exact gB _ _ _ _ _ n1 W _ _ _ _ (p1 x) (p1 y) (by rw[t1];exact Pp _ _ _ W)
  (gB _ _ _ _ _ n2 W _ _ _ _ (p2 x) (p2 y) (by rw[t2];exact GD _ _ d W)
  (gB _ _ _ _ _ n3 W _ _ _ _ (p3 x) (p3 y) (by rw[t3];exact yY _ _ _ W)
  (gB _ _ _ _ _ n4 W _ _ _ _ (p4 x) (p4 y) (by rw[t4];exact afc _ _ _ W)
  (gB _ _ _ _ _ n5 W _ _ _ _ (p5 x) (p5 y) (by rw[t5];exact alJ _ _ _ W)
  (gB _ _ _ _ _ n6 W _ _ _ _ (p6 x) (p6 y) (by rw[t6];exact ZL _ _ _ W) (by simp[vw]))))))
@[go_sem ↓]theorem aGx(x y:Bk)(W:ak):(je 10000 62 (.d x.ay) (.d y.ay)).O ah W=.ok (alK x y) W:=ai0 x y 9996 W
def D6(v:aB):yA aB:=dw 25 v
@[go_sem ↓]theorem atH(v:aB):dw 25 v=D6 v:=rfl
@[go_sem]theorem aA5(w:ak)(ob:Obj)(x:Bk)(t:bL):yE ((w.alloc ob).alloc (.D x.ay t)) (w.a.j+1) 0 27=True:=by
 have:=UA (w.alloc ob) x t
 rwa [show(w.alloc ob).a.j=w.a.j+1 by simp]at this
@[go_sem]theorem ar8(w:ak)(ob:Obj)(x:Bk)(t:bL):eH ((w.alloc ob).alloc (.D x.ay t)) (w.a.j+1) 0 27=x.ay:=by
 have:=Jd (w.alloc ob) x t
 rwa [show(w.alloc ob).a.j=w.a.j+1 by simp]at this
def Tt(x y:Bk):Bool:=(x.F==y.F)&&decide (x.h=y.h)&&(x.ni==y.ni)&&decide (x.xQ=y.xQ)&&(x.drain==y.drain)&&decide (ae6 x.w=ae6 y.w)
def Bk.OY(x:Bk)(v:Nat):Bk:={x with w:=v}
def Bk.toD(x:Bk)(d:Bool):Bk:={x with drain:=d}
@[go_sem]theorem Bk.axY(x:Bk)(v:Nat):x.ay.c 25 (.float .f64 v)=(x.OY v).ay:=by
 apply pU;simp[Bk.ay,Bk.OY,List.set_append,fv]
@[go_sem]theorem Bk.ar9(x:Bk)(d:Bool):x.ay.c 26 (.e d)=(x.toD d).ay:=by
 apply pU;simp[Bk.ay,Bk.toD,List.set_append]
@[go_sem]theorem ar'{P:fB}{w:ak}{a:aV}{m:Mode}(k:FloatKind)(n:Nat):(store a (.float k n) m).O P w=stored P w a (.float k n) m:=run_store P w a _ m rfl
def QL(x y:Bk):Bool:=Fg x.w y.w&&alK (x.OY 0) (y.OY 0)
theorem ai1(x y:Bk)(w:ak):
 aR ah 124 #[.d x.ay,.d y.ay] w (gY w (.e (QL x y))):=by
 have hb0:∀ob uS,aM w.a.j w ((w.alloc ob).alloc uS):=fun ob uS=>((aG _ _).alloc (av _) _).alloc (by simp) _
 have HB0:=ab hb0;clear hb0;have hs:QL x y=(Fg x.w y.w&&alK (x.OY 0) (y.OY 0)):=rfl;have HS:=ab hs;clear hs;have tO:∀K,Fg x.w y.w=K->∀W,aR ah 112 #[.float .f64 x.w,.float .f64 y.w] W fun e w'=>e=.a (.e K)/\W=w':=fun K h W=>by
  have:=acE x.w y.w W;rw[h]at this;exact this
 cases k:Fg x.w y.w
 ·have HK:=ab k
  have Ye:=ab (tO _ k);clear k tO;go_enter Tryz.func124,Tryz.ntmps124;go_wp2_with (go_at_call 112;refine(Ye.i _).g ?_;rintro e w' ⟨rfl,rfl⟩);go_ret;exact⟨by rw[HS.i,HK.i];rfl,HB0.i _ _⟩
 ·have HK:=ab k
  have Ye:=ab (tO _ k);clear k tO;go_enter Tryz.func124,Tryz.ntmps124;go_wp2_with (go_at_call 112;refine(Ye.i _).g ?_;rintro e w' ⟨rfl,rfl⟩);go_ret;exact⟨by rw[HS.i,HK.i];rfl,HB0.i _ _⟩
theorem D7(l:List Bk):∀u∈dL l,u.h=true:=by
 intro u hu;obtain⟨x,_,hx⟩:=List.mem_flatMap.1 hu;exact gK.1 (Bk.dx x) u (by simpa using hx)
theorem Py:∃i:oh,ah.l 62=some i/\i.zero=some (.d jq.ay)/\i.j=27/\i.bytes<=200:=by
 cases h:ah.l 62 with
 | none=>exact absurd h (by have:(ah.l 62).isSome=true:=by kernel_rfl
                            intro e;rw[e]at this;cases this)
 | some i=>
   have h1:(ah.l 62).map (·.j)=some 27:=by kernel_rfl
   have h2:(ah.l 62).map (fun i=>decide (i.bytes<=200))=some true:=by kernel_rfl
   have h3:(ah.l 62).map (·.zero)=some (some (.d jq.ay)):=by kernel_rfl
   rw[h]at h1 h2 h3;simp at h1 h2 h3;exact⟨i,rfl,h3,h1,h2⟩
def vR(n:Int):Int:=if n<1 then 1 else if 100<n then 100 else n
theorem Yh(n:Int):1<=vR n/\vR n<=100:=by unfold vR;split<;>(try split)<;>omega
theorem Yi(n:Int)(w:ak):aR ah 216 #[.b .a n] w fun e w'=>e=.a (.b .a (vR n))/\w=w':=by
 rcases(show n<1\/(1<=n/\n<=100)\/100<n by omega)with h|⟨h1,h2⟩|h
 ·have hb:=ab (show vR n=1 by simp[vR,h])
  go_enter Tryz.func216,Tryz.ntmps216;go_wp2;go_ret;exact⟨by rw[hb.i];rfl,rfl⟩
 ·have hb:=ab (show vR n=n by unfold vR;rw[if_neg (by omega),if_neg (by omega)])
  go_enter Tryz.func216,Tryz.ntmps216;go_wp2;go_ret;exact⟨by rw[hb.i];rfl,rfl⟩
 ·have hb:=ab (show vR n=100 by unfold vR;rw[if_neg (by omega),if_pos h])
  go_enter Tryz.func216,Tryz.ntmps216;go_wp2;go_ret;exact⟨by rw[hb.i];rfl,rfl⟩
def vS(h:Hl)(well:Bool)(kI fall:Int):Hl×Bool:=
 if well != h.down then({h with O:=0},false)
 else if vR (if h.down then kI else fall)-1<=max h.O 0 then(⟨h.F,!h.down,0⟩,true)
 else({h with O:=max h.O 0+1},false)
def asa(w:ak)(r:Hl×Bool)(e:lJ)(w':ak):Prop:=e=.a (.K #[.d r.1.ay,.e r.2])/\aM w.a.j w w'
theorem xE{w W:ak}{x:Hl}{r:Bool}{h:Hl}{well:Bool}{kI fall:Int}(hs:vS h well kI fall=(x,r))(hb:aM w.a.j w W):
 asa w (vS h well kI fall) (.a (.K #[.d x.ay,.e r])) W:=by rw[hs];exact⟨rfl,hb⟩
theorem Tv{h:Hl}{well:Bool}{kI fall k m:Int}(hw:well=h.down)(hk:vR (if h.down then kI else fall)=k)(hm:max h.O 0=m)(hle:k-1<=m):vS h well kI fall=(⟨h.F,!h.down,0⟩,true):=by
 unfold vS;rw[if_neg (by simp[hw]),hk,hm,if_pos hle]
theorem Tw{h:Hl}{well:Bool}{kI fall k m:Int}(hw:well=h.down)(hk:vR (if h.down then kI else fall)=k)(hm:max h.O 0=m)(hlt:m<k-1):vS h well kI fall=(⟨h.F,h.down,m+1⟩,false):=by
 unfold vS;rw[if_neg (by simp[hw]),hk,hm,if_neg (by omega)]
theorem Mc{w W1:ak}{nm:List UInt8}{dn:Bool}{rn:Int}(b1:dP W1 w.a.j (Hl.mk nm dn rn).ay)(b2:dP W1 (w.a.j+1) lY.ay)(hb:aM w.a.j w W1)(v:Int):
 dP (W1.I ⟨w.a.j,2,none⟩ (.b .a v)) w.a.j (Hl.mk nm dn v).ay/\dP (W1.I ⟨w.a.j,2,none⟩ (.b .a v)) (w.a.j+1) lY.ay/\Hid (aM w.a.j w (Uy (W1.I ⟨w.a.j,2,none⟩ (.b .a v)) (w.a.j+1) 0 (Hl.mk nm dn v)))/\Hid (dP (Uy (W1.I ⟨w.a.j,2,none⟩ (.b .a v)) (w.a.j+1) 0 (Hl.mk nm dn v)) (w.a.j+1) (Hl.mk nm dn v).ay):=by
 have c2:dP (W1.I ⟨w.a.j,2,none⟩ (.b .a v)) (w.a.j+1) lY.ay:=b2.dQ ⟨w.a.j,2,none⟩ (.b .a v) (by simp);exact⟨b1.fC 2 (.b .a v),c2,QG (hb.I (p:=⟨w.a.j,2,none⟩) (av _) (.b .a v)) (w.a.j+1) 0 (Hl.mk nm dn v) (by omega),c2.axP (Hl.J _) (Hl.mk nm dn v)⟩
theorem Tx{w W1:ak}{nm:List UInt8}{dn:Bool}{rn:Int}(b1:dP W1 w.a.j (Hl.mk nm dn rn).ay)(b2:dP W1 (w.a.j+1) lY.ay)(hb:aM w.a.j w W1)(d:Bool):
 dP ((W1.I ⟨w.a.j,1,none⟩ (.e d)).I ⟨w.a.j,2,none⟩ (.b .a 0)) w.a.j (Hl.mk nm d 0).ay/\dP ((W1.I ⟨w.a.j,1,none⟩ (.e d)).I ⟨w.a.j,2,none⟩ (.b .a 0)) (w.a.j+1) lY.ay/\Hid (aM w.a.j w (Uy ((W1.I ⟨w.a.j,1,none⟩ (.e d)).I ⟨w.a.j,2,none⟩ (.b .a 0)) (w.a.j+1) 0 (Hl.mk nm d 0)))/\Hid (dP (Uy ((W1.I ⟨w.a.j,1,none⟩ (.e d)).I ⟨w.a.j,2,none⟩ (.b .a 0)) (w.a.j+1) 0 (Hl.mk nm d 0)) (w.a.j+1) (Hl.mk nm d 0).ay):=
 Mc (b1.fC 1 (.e d)) (b2.dQ ⟨w.a.j,1,none⟩ (.e d) (by simp)) (hb.I (p:=⟨w.a.j,1,none⟩) (av _) (.e d)) 0
theorem alL(h:Hl)(well:Bool)(kI fall:Int)(w:ak)(hh : -9223372036854775808<=h.O/\h.O<=9223372036854775807):
 aR ah 149 #[.d h.ay,.e well,.b .a kI,.b .a fall] w (asa w (vS h well kI fall)):=by
 obtain⟨nm,dn,rn⟩:=h;obtain⟨hh1,hh2⟩:=hh;have B1:=ab (fun(ob:Obj)=>(dP.new w (Hl.mk nm dn rn).ay 100).alloc ob);have B2:=ab (fun(ob:Obj)=>dP.Us w ob lY.ay 100);have HB:=ab (fun(ob uS:Obj)=>((aG w.a.j w).alloc (av _) ob).alloc (by simp) uS);go_enter Tryz.func149,Tryz.ntmps149;go_wp2_with fail;refine(Yi _ _).g ?_;rintro e wz ⟨rfl,rfl⟩;have B1:=ab (B1.i (.D lY.ay 100));have B2:=ab (B2.i (.D (Hl.mk nm dn rn).ay 100));have HB:=ab (HB.i (.D (Hl.mk nm dn rn).ay 100) (.D lY.ay 100));obtain⟨W1,hW1⟩:=cB ((w.alloc (.D (Hl.mk nm dn rn).ay 100)).alloc (.D lY.ay 100));rw[<-hW1]at B1 B2 HB ⊢;clear hW1;obtain⟨x1,x2,x3,x4⟩:=B1.i.R;have l1:=B1.i.lt;have l2:=B2.i.lt;cases dn
 ·have kb:=Yh fall
  obtain⟨k,hk⟩:=uP (vR fall);rw[hk]at kb ⊢;have HK:=ab hk;clear hk;obtain⟨kb1,kb2⟩:=kb;cases well
  ·rcases xP rn 0 with hrn|hrn
   ·have HM:=ab (show max rn 0=0 by omega)
    rcases xP (0:Int) (k-1)with hlt|hle
    ·have hne:decide (k-1<=0)=false:=by simp;omega
     obtain⟨c1,c2,QM,CF⟩:=Mc B1.i B2.i HB.i (1);obtain⟨y1,y2,y3,y4⟩:=c1.R;have th:=c2.S 0 3 (by rw[Hl.J];omega);clear c1 c2;have hs:=ab (Tw (h:=⟨nm,false,rn⟩) (well:=false) (kI:=kI) (fall:=fall) rfl HK.i HM.i hlt);go_wp2_with fail;refine aO (Ey rfl _ _ _ _ rfl (by rw[CF.i.R.2.2.1 0 3 (av _)];trivial)) rfl ?_;rw[CF.i.R.2.2.2 0 3 (av _),Hl.kG];exact xE hs.i QM.i
    ·have hye:decide (k-1<=0)=true:=by simp;omega
     obtain⟨c1,c2,QM,CF⟩:=Tx B1.i B2.i HB.i true;obtain⟨y1,y2,y3,y4⟩:=c1.R;have th:=c2.S 0 3 (by rw[Hl.J];omega);obtain⟨z1,z2,z3,z4⟩:=(B1.i.fC 1 (.e true)).R;clear c1 c2;have hs:=ab (Tv (h:=⟨nm,false,rn⟩) (well:=false) (kI:=kI) (fall:=fall) rfl HK.i HM.i hle);go_wp2_with fail;refine aO (Ey rfl _ _ _ _ rfl (by rw[CF.i.R.2.2.1 0 3 (av _)];trivial)) rfl ?_;rw[CF.i.R.2.2.2 0 3 (av _),Hl.kG];exact xE hs.i QM.i
   ·have HM:=ab (show max rn 0=rn by omega)
    rcases xP rn (k-1)with hlt|hle
    ·have hne:decide (k-1<=rn)=false:=by simp;omega
     obtain⟨c1,c2,QM,CF⟩:=Mc B1.i B2.i HB.i (rn+1);obtain⟨y1,y2,y3,y4⟩:=c1.R;have th:=c2.S 0 3 (by rw[Hl.J];omega);clear c1 c2;have hs:=ab (Tw (h:=⟨nm,false,rn⟩) (well:=false) (kI:=kI) (fall:=fall) rfl HK.i HM.i hlt);go_wp2_with fail;refine aO (Ey rfl _ _ _ _ rfl (by rw[CF.i.R.2.2.1 0 3 (av _)];trivial)) rfl ?_;rw[CF.i.R.2.2.2 0 3 (av _),Hl.kG];exact xE hs.i QM.i
    ·have hye:decide (k-1<=rn)=true:=by simp;omega
     obtain⟨c1,c2,QM,CF⟩:=Tx B1.i B2.i HB.i true;obtain⟨y1,y2,y3,y4⟩:=c1.R;have th:=c2.S 0 3 (by rw[Hl.J];omega);obtain⟨z1,z2,z3,z4⟩:=(B1.i.fC 1 (.e true)).R;clear c1 c2;have hs:=ab (Tv (h:=⟨nm,false,rn⟩) (well:=false) (kI:=kI) (fall:=fall) rfl HK.i HM.i hle);go_wp2_with fail;refine aO (Ey rfl _ _ _ _ rfl (by rw[CF.i.R.2.2.1 0 3 (av _)];trivial)) rfl ?_;rw[CF.i.R.2.2.2 0 3 (av _),Hl.kG];exact xE hs.i QM.i
  ·have hbn:((true:Bool) != false)=true:=rfl
   rcases xP rn 0 with hrn|hrn
   all_goals
    skip;obtain⟨c1,c2,QM,CF⟩:=Mc B1.i B2.i HB.i 0;obtain⟨y1,y2,y3,y4⟩:=c1.R;have th:=c2.S 0 3 (by rw[Hl.J];omega);clear c1 c2;have hs:=ab (show vS ⟨nm,false,rn⟩ true kI fall=(⟨nm,false,0⟩,false)from rfl);go_wp2_with fail;refine aO (Ey rfl _ _ _ _ rfl (by rw[CF.i.R.2.2.1 0 3 (av _)];trivial)) rfl ?_;rw[CF.i.R.2.2.2 0 3 (av _),Hl.kG];exact xE hs.i QM.i
 ·have kb:=Yh kI
  obtain⟨k,hk⟩:=uP (vR kI);go_wp2_with fail;refine(Yi _ _).g ?_;rintro e wz ⟨rfl,rfl⟩;rw[hk]at kb ⊢;have HK:=ab hk;clear hk;obtain⟨kb1,kb2⟩:=kb;cases well
  ·have hbn:((false:Bool) != true)=true:=rfl
   rcases xP rn 0 with hrn|hrn
   all_goals
    skip;obtain⟨c1,c2,QM,CF⟩:=Mc B1.i B2.i HB.i 0;obtain⟨y1,y2,y3,y4⟩:=c1.R;have th:=c2.S 0 3 (by rw[Hl.J];omega);clear c1 c2;have hs:=ab (show vS ⟨nm,true,rn⟩ false kI fall=(⟨nm,true,0⟩,false)from rfl);go_wp2_with fail;refine aO (Ey rfl _ _ _ _ rfl (by rw[CF.i.R.2.2.1 0 3 (av _)];trivial)) rfl ?_;rw[CF.i.R.2.2.2 0 3 (av _),Hl.kG];exact xE hs.i QM.i
  ·rcases xP rn 0 with hrn|hrn
   ·have HM:=ab (show max rn 0=0 by omega)
    rcases xP (0:Int) (k-1)with hlt|hle
    ·have hne:decide (k-1<=0)=false:=by simp;omega
     obtain⟨c1,c2,QM,CF⟩:=Mc B1.i B2.i HB.i (1);obtain⟨y1,y2,y3,y4⟩:=c1.R;have th:=c2.S 0 3 (by rw[Hl.J];omega);clear c1 c2;have hs:=ab (Tw (h:=⟨nm,true,rn⟩) (well:=true) (kI:=kI) (fall:=fall) rfl HK.i HM.i hlt);go_wp2_with fail;refine aO (Ey rfl _ _ _ _ rfl (by rw[CF.i.R.2.2.1 0 3 (av _)];trivial)) rfl ?_;rw[CF.i.R.2.2.2 0 3 (av _),Hl.kG];exact xE hs.i QM.i
    ·have hye:decide (k-1<=0)=true:=by simp;omega
     obtain⟨c1,c2,QM,CF⟩:=Tx B1.i B2.i HB.i false;obtain⟨y1,y2,y3,y4⟩:=c1.R;have th:=c2.S 0 3 (by rw[Hl.J];omega);obtain⟨z1,z2,z3,z4⟩:=(B1.i.fC 1 (.e false)).R;clear c1 c2;have hs:=ab (Tv (h:=⟨nm,true,rn⟩) (well:=true) (kI:=kI) (fall:=fall) rfl HK.i HM.i hle);go_wp2_with fail;refine aO (Ey rfl _ _ _ _ rfl (by rw[CF.i.R.2.2.1 0 3 (av _)];trivial)) rfl ?_;rw[CF.i.R.2.2.2 0 3 (av _),Hl.kG];exact xE hs.i QM.i
   ·have HM:=ab (show max rn 0=rn by omega)
    rcases xP rn (k-1)with hlt|hle
    ·have hne:decide (k-1<=rn)=false:=by simp;omega
     obtain⟨c1,c2,QM,CF⟩:=Mc B1.i B2.i HB.i (rn+1);obtain⟨y1,y2,y3,y4⟩:=c1.R;have th:=c2.S 0 3 (by rw[Hl.J];omega);clear c1 c2;have hs:=ab (Tw (h:=⟨nm,true,rn⟩) (well:=true) (kI:=kI) (fall:=fall) rfl HK.i HM.i hlt);go_wp2_with fail;refine aO (Ey rfl _ _ _ _ rfl (by rw[CF.i.R.2.2.1 0 3 (av _)];trivial)) rfl ?_;rw[CF.i.R.2.2.2 0 3 (av _),Hl.kG];exact xE hs.i QM.i
    ·have hye:decide (k-1<=rn)=true:=by simp;omega
     obtain⟨c1,c2,QM,CF⟩:=Tx B1.i B2.i HB.i false;obtain⟨y1,y2,y3,y4⟩:=c1.R;have th:=c2.S 0 3 (by rw[Hl.J];omega);obtain⟨z1,z2,z3,z4⟩:=(B1.i.fC 1 (.e false)).R;clear c1 c2;have hs:=ab (Tv (h:=⟨nm,true,rn⟩) (well:=true) (kI:=kI) (fall:=fall) rfl HK.i HM.i hle);go_wp2_with fail;refine aO (Ey rfl _ _ _ _ rfl (by rw[CF.i.R.2.2.1 0 3 (av _)];trivial)) rfl ?_;rw[CF.i.R.2.2.2 0 3 (av _),Hl.kG];exact xE hs.i QM.i
abbrev RdH:=iT Hl.ay 3
theorem iT.hl{W:ak}{B n:Nat}{A:Option aV}{l:List Hl}{k:Nat}(h:RdH W B A n l)(hk:k<n):∃b o,A=some ⟨b,o,none⟩/\b<B/\yE W b (o+k*3) 3/\eH W b (o+k*3) 3=(l.b k lY).ay /\
 W.b ⟨b,o+k*3,none⟩=some (.g (bK (l.b k lY).F))/\W.b ⟨b,o+k*3+1,none⟩=some (.e (l.b k lY).down):=by
 obtain⟨b,o,hA,hb,hc⟩:=iT.cell Hl.J lY h hk;obtain⟨h1,h2⟩:=vN (Hl.J _) hc;exact⟨b,o,hA,hb,h1,h2,by have:=hc 0 (by omega);rw[kQ]at this;exact this,hc 1 (by omega)⟩
def AL(l:List Hl)(s:List UInt8):Int:=match l.findIdx? (fun x=>x.F==s)with|some i=>(i:Nat)|none=>-1
theorem aps{l:List Hl}{s:List UInt8}{i:Nat}(hi:i<l.a)(h:(l.b i lY).F=s)(hno:∀k,k<i->(l.b k lY).F≠s):AL l s=i:=by
 have:l.findIdx? (fun x=>x.F==s)=some i:=by
  rw[fT];refine⟨hi,?_,fun j hj=>?_⟩
  ·rw[au,aC hi]at h
   simpa using h
  ·have:=hno j hj
   rw[au,aC (by omega)]at this;simpa using this
 unfold AL;rw[this]
theorem apt{l:List Hl}{s:List UInt8}(hno:∀k,k<l.a->(l.b k lY).F≠s):AL l s = -1:=by
 have:l.findIdx? (fun x=>x.F==s)=none:=by
  rw[List.findIdx?_eq_none_iff];intro x hx;obtain⟨k,hk,rfl⟩:=List.getElem_of_mem hx;have:=hno k hk;rw[au,aC hk]at this;simpa using this
 unfold AL;rw[this]
theorem apu(l:List Hl)(s:List UInt8):AL l s<l.a:=by
 unfold AL;split
 ·rename_i i h
  have:=(fT.1 h).1;omega
 ·omega
theorem afe(l:List Hl)(s:List UInt8):AL l s = -1\/∃i:Nat,AL l s=i/\i<l.a:=by
 have:=apu l s;unfold AL at this ⊢;split
 ·rename_i i h;rw[h]at this;exact .a ⟨i,rfl,by simpa using this⟩
 ·exact .b rfl
section
variable {P:fB}
theorem Lx(w:ak)(dT sT ty elem:bL)(size g o dLen dCap:Nat)(a:aV)(sLen sCap:Nat)(cur:Array aB)(t:bL)(cs:List aB)(m:Nat)
 (hu:P.k dT=some (.a elem)) (hs:(P.l elem).map (·.j)=some size)
 (hg:w.a[g]? = some (.D cur t (0,0))) (hm:m=qO sLen dLen) (hn:cs.a=m*size)
 (hsrc:∀j v,cs[j]? = some v->w.b (a.add j)=some v) (hfit:o+cs.a<=cur.j) (h1:∀v∈cs,v.h=true) :
 (qZ #[dT,sT] ty #[.a (some ⟨g,o,none⟩) dLen dCap,.a (some a) sLen sCap]).O P w =
  .ok (goInt m) (w.setRow g (splice cur.a o cs).c):=by
 have hl:=run_loadCells_list (P:=P) w a cs hsrc;have hst:=run_storeCells_at P g o t cs 0 cur w hg (by simpa using hfit) h1;cases hq:P.l elem with
 | none=>simp[hq]at hs
 | some i=>
   have hi:i.j=size:=by simpa[hq]using hs
   subst hm;simp[qZ,dK hu,Builtin.lenOf,uM,sizeOf,typeInfo,hq,hi,<-hn,hl,hst,splice]
theorem Fq{w:ak}{ops:Array ji}{rest:List ji}{o:ji}{a:rO}{Q:Bn->rO->ak->Prop}(hgd:o.guard=none)(d s:ql)(dT sT:bL)
 (ho:o.op=.call {callee:=.builtin .copy,args:=#[d,s],argTypes:=#[dT,sT]}) (elem:bL) (size:Nat) (hu:P.k dT=some (.a elem)) (hsz:(P.l elem).map (·.j)=some size)
 (g off dLen dCap:Nat) (ad:aV) (sLen sCap:Nat) (hd:a.eval d=.a (some ⟨g,off,none⟩) dLen dCap) (hs:a.eval s=.a (some ad) sLen sCap)
 (cur:Array aB) (t:bL) (hg:w.a[g]? = some (.D cur t (0,0))) (cs:List aB) (m:Nat) (hm:m=qO sLen dLen) (hn:cs.a=m*size)
 (hsrc:∀j v,cs[j]? = some v->w.b (ad.add j)=some v) (hfit:off+cs.a<=cur.j) (h1:∀v∈cs,v.h=true)
 (h:∀w',w'=w.setRow g (splice cur.a off cs).c->wpList P ops Q rest (a.put o.dst (goInt m)) w'):wpList P ops Q (o::rest) a w:=by
 refine uq hgd fun K hK=>?_
 have hrun:=Lx (P:=P) w dT sT o.p elem size g off dLen dCap ad sLen sCap cur t cs m hu hsz hg hm hn hsrc hfit h1;unfold nV;simp[execOp,ho,resolve,invoke,builtin,hd,hs,hrun,iM];exact hK _ _ (h _ rfl)
theorem Jj{ops:Array ji}{o:ji}{a:rO}{w:ak}{K:rO->ak->Prop}{Q:Bn->rO->ak->Prop}{E:Prop}(hgd:o.guard=none)(d s:ql)(dT sT:bL)
 (ho:o.op=.call {callee:=.builtin .copy,args:=#[d,s],argTypes:=#[dT,sT]}) (elem:bL) (size:Nat) (hu:P.k dT=some (.a elem)) (hsz:(P.l elem).map (·.j)=some size)
 (g off dLen dCap:Nat) (ad:aV) (sLen sCap:Nat) (hd:a.eval d=.a (some ⟨g,off,none⟩) dLen dCap) (hs:a.eval s=.a (some ad) sLen sCap)
 (cur:Array aB) (t:bL) (hg:w.a[g]? = some (.D cur t (0,0))) (cs:List aB) (m:Nat) (hm:m=qO sLen dLen) (hn:cs.a=m*size)
 (hsrc:∀j v,cs[j]? = some v->w.b (ad.add j)=some v) (hfit:off+cs.a<=cur.j) (h1:∀v∈cs,v.h=true)
 (h:∀w',w'=w.setRow g (splice cur.a off cs).c->K (a.put o.dst (goInt m)) w') :
 if fK o (yielded ops a.tmps)=true then nV P o a w K Q else E:=by
 have hw:fK o (yielded ops a.tmps)=true:=by simp[fK,hgd]
 rw[if_pos hw];have hrun:=Lx (P:=P) w dT sT o.p elem size g off dLen dCap ad sLen sCap cur t cs m hu hsz hg hm hn hsrc hfit h1;unfold nV;simp[execOp,ho,resolve,invoke,builtin,hd,hs,hrun,iM];exact h _ rfl
theorem PE{w:ak}{ops:Array ji}{rest:List ji}{o:ji}{a:rO}{Q:Bn->rO->ak->Prop}(hgd:o.guard=none)(s x:ql)(t tn:bL)
 (ho:o.op=.call {callee:=.builtin .append,args:=#[s,x],argTypes:=#[t,tn]}) (e:bL) (i:oh) (z:aB) (size:Nat) (kq kn:IntKind) (ht:P.k t=some (.a e)) (htn:P.k tn=some (.b kn)) (hi:P.l e=some i) (hz:i.zero=some z)
 (hsize:i.j=size) (hzs:z.D.j=size)
 (ad:aV) (sLen sCap:Nat) (hs:a.eval s=.a (some ad) sLen sCap) (k:Nat) (hx:a.eval x=.b kq k)
 (olds:List aB) (hlo:olds.a=sLen*size) (hold:∀j u,olds[j]? = some u->w.b (ad.add j)=some u)
 (h0:0<k) (hsz:0<size) (hg:sCap<sLen+k) (h63:sLen+k<=maxLen) (hb:(sLen+k)*i.bytes<=140737488355328)
 (h:∀c' cur w',sLen+k<=c'->c'<=maxLen->cur.j=c'*size->cur.a.E (sLen*size)=olds->w'.a[w.a.j]? = some (.D cur e (0,0))->aM w.a.j w w' ->
  wpList P ops Q rest (a.put o.dst (.a (some ⟨w.a.j,0,none⟩) (sLen+k) c')) w'):wpList P ops Q (o::rest) a w:=by
 subst hsize;refine uq hgd fun K hK=>?_
 have hl:(uM i.j sLen (.a (some ad) sLen sCap)).O P w.drew=.ok olds.c w.drew:=by
  have:=run_loadCells_list (P:=P) w.drew ad olds (fun j v hj=>by simpa using hold j v hj);rw[hlo]at this;simpa[uM]using this
 have h63':((sLen+k:Nat):Int)<=9223372036854775807:=by unfold maxLen at h63;omega
 have h48:k*i.bytes<=281474976710656:=aP (dB _ (by omega:k<=sLen+k)) (by omega);have hrun:=Lib.run_append_grow_zeros (P:=P) w t tn o.p e i z kq kn ht htn hi hz (some ad) sLen sCap olds hl k h0 hsz hg h63' h48 (growslice_fits hg hb);have hge:=grownCap_ge w (sLen+k) sCap e;have:=h (grownCap w (sLen+k) sCap e) _ _ hge (grownCap_le_maxLen w (sLen+k) sCap e h63)
  (by simp only[Array.size_append,List.size_toArray,size_zeroCells,hzs,hlo,<-Nat.add_mul];congr 1;omega)
  (by simp only[Array.toList_append,bM];rw[<-hlo];exact List.take_left)
  (Ia w.drew (.D (olds.c++oI z.D k++oI z.D (grownCap w (sLen+k) sCap e-(sLen+k))) e))
  (((aG w.a.j w).drew).alloc (av _) _)
 unfold nV;simp[execOp,ho,resolve,invoke,builtin,hs,hx,hrun,iM];exact hK _ _ (by simpa using this)
theorem LA{ops:Array ji}{o:ji}{a:rO}{w:ak}{K:rO->ak->Prop}{Q:Bn->rO->ak->Prop}{E:Prop}(hgd:o.guard=none)(s x:ql)(t:bL)
 (ho:o.op=.call {callee:=.builtin .append,args:=#[s,x],argTypes:=#[t,t]}) (e:bL) (i:oh) (size:Nat) (ht:P.k t=some (.a e)) (hi:P.l e=some i) (hsize:i.j=size)
 (g sLen sCap:Nat) (ad:aV) (m c:Nat) (hs:a.eval s=.a (some ⟨g,0,none⟩) sLen sCap) (hx:a.eval x=.a (some ad) m c)
 (cur:Array aB) (hg:w.a[g]? = some (.D cur e (0,0))) (news:List aB) (hl:news.a=m*size) (hnews:∀j u,news[j]? = some u->w.b (ad.add j)=some u) (h1:∀u∈news,u.h=true)
 (hroom:sLen+m<=sCap) (hfit:sLen*size+news.a<=cur.j)
 (h:∀w',w'=w.setRow g (splice cur.a (sLen*size) news).c->K (a.put o.dst (.a (some ⟨g,0,none⟩) (sLen+m) sCap)) w') :
 if fK o (yielded ops a.tmps)=true then nV P o a w K Q else E:=by
 subst hsize;have hw:fK o (yielded ops a.tmps)=true:=by simp[fK,hgd]
 rw[if_pos hw];have hrun:=run_append_room (P:=P) w t o.p e i ht hi g sLen sCap cur hg ad m c news hl hnews h1 hroom hfit;unfold nV;simp[execOp,ho,resolve,invoke,builtin,hs,hx,hrun,iM];exact h _ (by simp[splice])
theorem Fu{w:ak}{ops:Array ji}{rest:List ji}{o:ji}{a:rO}{Q:Bn->rO->ak->Prop}(hgd:o.guard=none)(s:ql)(t:bL)
 (ho:o.op=.call {callee:=.builtin .clear,args:=#[s],argTypes:=#[t]}) (e:bL) (i:oh) (z:aB) (size:Nat) (ht:P.k t=some (.a e)) (hi:P.l e=some i) (hz:i.zero=some z) (hzs:z.D.j=size) (h1:z.D.all (·.h)=true)
 (g off n c:Nat) (hs:a.eval s=.a (some ⟨g,off,none⟩) n c) (h0:0<n) (cur:Array aB) (tt:bL) (hg:w.a[g]? = some (.D cur tt (0,0))) (hfit:off+n*size<=cur.j)
 (h:∀w' zs,zs.a=n*size->w'=w.setRow g (splice cur.a off zs).c->wpList P ops Q rest (a.put o.dst (.K #[])) w'):wpList P ops Q (o::rest) a w:=by
 refine uq hgd fun K hK=>?_
 have hzl:(oI z.D n).a.a=n*size:=by rw[aY,size_zeroCells,hzs]
 have hst:=run_storeCells_at P g off tt (oI z.D n).a 0 cur w hg (by rw[hzl];omega) (fun v hv=>by
  have hv':v∈oI z.D n:=by simpa using hv
  unfold oI at hv';obtain⟨j,hj,rfl⟩:=Array.mem_map.1 hv';have hj':j<n*z.D.j:=by simpa using hj
  have hpos:0<z.D.j:=by
   rcases eB z.D.j with h2|h2
   ·rw[h2]at hj';omega
   ·exact h2
  have hm:j%z.D.j<z.D.j:=fP _ hpos;rw[getElem!_pos z.D _ hm];exact gK.1 h1 _ (Array.getElem_mem hm))
 have hrun:(Builtin.clear_ #[t] o.p #[.a (some ⟨g,off,none⟩) n c]).O P w=.ok (.K #[]) (w.setRow g (splice cur.a off (oI z.D n).a).c):=by
  obtain⟨n',rfl⟩:∃n',n=n'+1:=⟨n-1,by omega⟩
  simp[Builtin.clear_,dK ht,zeroValue,typeInfo,hi,hz,hst,splice]
 unfold nV;simp[execOp,ho,resolve,invoke,builtin,hs,hrun,iM];exact hK _ _ (h _ _ hzl rfl)
end
theorem ai2{α:Type}(cur xs ys:List α)(k s:Nat)(hx:cur.E xs.a=xs)(hk:k<=xs.a)(hy:ys.a=s)(hfit:xs.a+s<=cur.a):
 (splice (splice cur (k+s) (xs.G k)) k ys).E (xs.a+s)=xs.E k++ys++xs.G k:=by
 have hc:cur=xs++cur.G xs.a:=by
  conv=>lhs;rw[<-iQ xs.a cur]
  rw[hx]
 generalize cur.G xs.a=r at hc;subst hc;have hr:s<=r.a:=by simp at hfit;omega
 unfold splice;have e1:((xs++r).E (k+s)++(xs.G k++(xs++r).G (k+s+(xs.G k).a))).E k=xs.E k:=by
  rw[fV (by simp;omega),List.take_take,lU (by omega),fV hk]
 have e2:((xs++r).E (k+s)++(xs.G k++(xs++r).G (k+s+(xs.G k).a))).G (k+ys.a)=xs.G k++(xs++r).G (k+s+(xs.G k).a):=by
  rw[hy];have:(List.take (k+s) (xs++r)).a=k+s:=by simp;omega
  rw[List.drop_append_of_le_length (by omega),jg (by omega),dJ]
 rw[e1,e2,<-bM,<-bM,fV (by simp;omega)];exact aK (by simp;omega)
theorem apv{α:Type}(cur xs ys:List α)(k s:Nat)(hx:cur.E k=xs.E k)(hk:k<=xs.a)(hy:ys.a=s)(hfit:xs.a+s<=cur.a):
 (splice (splice cur k ys) (k+s) (xs.G k)).E (xs.a+s)=xs.E k++ys++xs.G k:=by
 unfold splice;rw[hx];have e1:(xs.E k++(ys++cur.G (k+ys.a))).E (k+s)=xs.E k++ys:=by
  rw[<-bM,fV (by simp;omega)];exact aK (by simp;omega)
 rw[e1,<-bM,fV (by simp;omega)];exact aK (by simp;omega)
theorem Yj{α:Type}(cur xs:List α)(k s:Nat)(hx:cur.E xs.a=xs)(hk:k+s<=xs.a):
 (splice cur k (xs.G (k+s))).E (xs.a-s)=xs.E k++xs.G (k+s):=by
 have hc:cur=xs++cur.G xs.a:=by
  conv=>lhs;rw[<-iQ xs.a cur]
  rw[hx]
 generalize cur.G xs.a=r at hc;subst hc;unfold splice;have e1:(xs++r).E k=xs.E k:=fV (by omega);rw[e1,<-bM,fV (by simp;omega)];exact aK (by simp;omega)
@[go_sem]theorem alN(w:ak)(ob:Obj)(x y:Bk):
 (Km (.c (some ⟨w.a.j+1,0,none⟩)) (.d x.ay)).O ah ((w.alloc ob).alloc (.D y.ay 62))=.ok () ((w.alloc ob).alloc (.D x.ay 62)):=by
 have:=Xj (w.alloc ob) x y
 rwa [show(w.alloc ob).a.j=w.a.j+1 by simp]at this
def Jk(l m:List Bk)(i:Nat):Bool:=QL (l.b i jq) (m.b i jq)
def Jl(l m:List Bk):Bool:=decide (l.a=m.a)&&(eu l.a).all (Jk l m)
theorem acO(args:Array aB)(w:ak):(callFunc 124 args).O ah w=.ok (.enter 124 args) w:=by kernel_rfl
theorem Xr(p:Nat->Bool)(i:Nat):(eu (i+1)).all p=((eu i).all p&&p i):=by
 rw[List.range_succ,List.all_append];simp
theorem acP(p:Nat->Bool)(i n:Nat)(h:i<n)(hp:p i=false):(eu n).all p=false:=by
 rw[List.all_eq_false];exact⟨i,fq.2 h,by rw[hp];simp⟩
theorem Xt(l m:List Bk)(A B:Option aV)(c d:Nat)(w:ak)(hR:Gw w w.a.j A l.a l)(hT:Gw w w.a.j B m.a m)(hn:l.a<4611686018427387904)(hm:m.a<4611686018427387904):
 aR ah 123 #[.a A l.a c,.a B m.a d,.func (.func 124) #[] #[]] w
  (gY w (.e (Jl l m))):=by
 have hen:=acO;have HR:=ab hR;have HT:=ab hT;clear hR hT;have he:Jl l m=(decide (l.a=m.a)&&(eu l.a).all (Jk l m)):=rfl;have HE:=ab he;clear he;by_cases hlm:l.a=m.a;rotate_left
 ·have aIW:((l.a:Int) != (m.a:Int))=true:=by rw[bne_iff_ne];omega
  have hf:Jl l m=false:=by rw[HE.i];simp[hlm]
  have HF:=ab hf;clear hf hlm;go_enter Tryz.func123,Tryz.ntmps123;go_wp2;go_ret;exact⟨by rw[HF.i];rfl,aG _ _⟩
 have HLM:=ab hlm;rw[<-hlm]at HT hm ⊢;clear hlm;obtain⟨n,hnl⟩:=cB l.a;rw[<-hnl]at HR HT hn ⊢;have HN:=ab hnl;clear hnl hm;have hbn:((n:Int) != (n:Int))=false:=by simp
 go_enter Tryz.func123,Tryz.ntmps123;go_wp2;go_loopw [17] (fun s17 wr=>∃i:Nat,i<=n/\s17=.b .a i/\(eu i).all (Jk l m)=true/\aM w.a.j w wr) (fun s17 _=>n-(intOf s17).e)
 case atStart=>exact⟨0,by omega,rfl,rfl,aG _ _⟩
 case round=>
  obtain⟨i,hin,rfl,hall,hb⟩:=hrel;have HA:=ab hall;have HB:=ab hb;have hsz:=hb.j;clear hall hb;by_cases hlt:i<n
  ·have hi:(i:Int)<n:=by omega
   obtain⟨b,o,rfl,hbb,hh,hc⟩:=(HR.i.Y HB.i).dW hlt;obtain⟨b2,o2,rfl,acQ,hh2,hc2⟩:=(HT.i.Y HB.i).dW hlt;have hbs:b<wr.a.j:=by omega
   have K8:b2<wr.a.j:=by omega
   have hp:Jk l m i=QL (l.b i jq) (m.b i jq):=rfl;obtain⟨x,hx⟩:=cB (l.b i jq);obtain⟨y,hy⟩:=cB (m.b i jq);rw[<-hx]at hc hp;rw[<-hy]at hc2 hp;have HP:=ab hp;clear hx hy hp hbb acQ;have tO:∀K,QL x y=K->∀W,aR ah 124 #[.d x.ay,.d y.ay] W fun e w'=>e=.a (.e K)/\aM W.a.j W w':=fun K h W=>by
    have:=ai1 x y W;rw[h]at this;exact this
   have hb2:∀ob uS,aM wr.a.j wr ((wr.alloc ob).alloc uS):=fun ob uS=>((aG _ _).alloc (av _) _).alloc (by simp) _
   have HB2:=ab hb2;clear hb2;cases k:QL x y
   ·have hf:Jl l m=false:=by
     rw[HE.i,<-HN.i,acP (Jk l m) i n hlt (by rw[HP.i,k])];simp
    have HF:=ab hf;have Ye:=ab (tO _ k);clear k tO hf;go_wp2_with (go_at_call 124;refine(Ye.i _).g ?_;rintro e w1 ⟨rfl,hb1⟩;clear hh hc hh2 hc2;have HB1:=ab hb1;clear hb1);go_ret;exact⟨by rw[HF.i];rfl,jD HB.i ((HB2.i _ _).trans (HB1.i.g (by simp;omega)))⟩
   ·have hy':(eu (i+1)).all (Jk l m)=true:=by rw[Xr,HA.i,HP.i,k];rfl
    have HY:=ab hy';have Ye:=ab (tO _ k);clear k tO hy';go_wp2_with (go_at_call 124;refine(Ye.i _).g ?_;rintro e w1 ⟨rfl,hb1⟩;clear hh hc hh2 hc2;have HB1:=ab hb1;clear hb1);go_roundw
    case rel=>exact⟨i+1,by omega,by go_num,HY.i,jD HB.i ((HB2.i _ _).trans (HB1.i.g (by simp;omega)))⟩
    case measure=>simp[intOf]<;>omega
  ·obtain rfl:i=n:=by omega
   have ht:Jl l m=true:=by rw[HE.i,<-HN.i,HA.i];have:=HLM.i;have:=HN.i;simp;omega
   have HTR:=ab ht;clear ht;have hd:decide ((i:Int)<i)=false:=by simp
   go_wp2;go_ret;exact⟨by rw[HTR.i];rfl,HB.i⟩
def aak(v:Int)(l:List Bk)(v':Int)(m:List Bk):Bool:=(v==v')&&Jl l m
theorem aal(l m:List Bk)(v v':Int)(A B:Option aV)(c d:Nat)(w:ak)(hR:Gw w w.a.j A l.a l)(hT:Gw w w.a.j B m.a m)(hn:l.a<4611686018427387904)(hm:m.a<4611686018427387904):
 aR ah 53 #[.d #[.b .a v,.a A l.a c],.d #[.b .a v',.a B m.a d]] w
  (gY w (.e (aak v l v' m))):=by
 have hb0:∀ob uS,aM w.a.j w ((w.alloc ob).alloc uS):=fun ob uS=>((aG _ _).alloc (av _) _).alloc (by simp) _
 have HB0:=ab hb0;clear hb0;have HR:=ab (fun ob uS=>((hR.alloc (av _) ob).alloc (by simp) uS).lD (B':=((w.alloc ob).alloc uS).a.j) (by simp;omega));have HT:=ab (fun ob uS=>((hT.alloc (av _) ob).alloc (by simp) uS).lD (B':=((w.alloc ob).alloc uS).a.j) (by simp;omega));clear hR hT;have he:aak v l v' m=((v==v')&&Jl l m):=rfl;have HE:=ab he;clear he;cases k:v==v'
 ·have HK:=ab k
  go_enter Tryz.func53,Tryz.ntmps53;go_wp2;go_ret;exact⟨by rw[HE.i,HK.i];rfl,HB0.i _ _⟩
 ·have HK:=ab k
  go_enter Tryz.func53,Tryz.ntmps53;go_wp2_with (go_at_call 123;refine(Xt l m A B c d _ (HR.i _ _) (HT.i _ _) hn hm).g ?_;rintro e w1 ⟨rfl,hb1⟩;have HB1:=ab hb1;clear hb1);go_ret;exact⟨by rw[HE.i,HK.i];rfl,(HB0.i _ _).trans (HB1.i.g (by simp;omega))⟩
theorem acR(l:List Bk)(a:aV)(c:Nat)(w:ak)(hR:Gw w w.a.j (some a) l.a l)(hn:l.a<=100000000000):
 aR ah 61 #[.a (some a) l.a c] w fun e w'=>∃A' c',e=.a (.a A' l.a c')/\w'.c w.a.j 62 27 (.a A' l.a c') l.a (dL l)/\aM w.a.j w w':=by
 have hnil:∀W:ak,(binOp .eql 30 (.a (some a) l.a c) (.a none 0 0)).O ah W=.ok (.e false) W:=fun W=>by
  simp only[binOp];simp[jk,jy]
 obtain⟨i0,hi0,hz0,hz1,hzb⟩:=Py;have hz2:(cO jq.ay).D.j=27:=by simp[dz,Bk.J]
 have o1:(w.alloc (.D #[] 62)).c w.a.j 62 27 (.a (some ⟨w.a.j,0,none⟩) 0 0) 0 []:=
  qD w #[] 0 (av _) (by unfold maxLen;omega) rfl
 have O1:=ab o1;have O2:=ab (hR.alloc (av _) (.D #[] 62)).2.1;have TD:=ab (show 0+l.a<=maxLen by unfold maxLen;omega);have TJ:=ab (show(0+l.a)*i0.bytes<=140737488355328 from aP (iq (show 0+l.a<=100000000000 by omega) hzb) (by omega));have O3:=ab (show w.a.j<=(w.alloc (.D #[] 62)).a.j by simp);clear o1 hR;go_enter Tryz.func61,Tryz.ntmps61;go_wp2_with (at_builtin;refine jQ _ rfl (.tmp 5) (.tmp 6) _ rfl w.a.j 62 i0 (.d jq.ay) 27 i0.bytes jy hi0 hz0 hz1 rfl hz2 (nG _) (.a (some ⟨w.a.j,0,none⟩) 0 0) 0 [] rfl O1.i w.a.j (some a) l.a c (dL l) rfl O2.i (D7 l) TD.i TJ.i O3.i ?_;intro v1 w1 hown1 hg1 yN);obtain⟨A',c',hv,_,_⟩:=j3 hown1;subst hv;simp only[bC,dJ]at hown1;have hb:=uO ((aG w.a.j w).alloc (av _) (.D #[] 62)) hg1 (av _) O3.i;go_wp2;go_ret;exact⟨A',c',by simp,hown1,hb⟩
theorem ahl{l:List Bk}(hs:Fj l){s:List UInt8}{i:Nat}(hi:i<l.a)(h:nm l i=s):kP l s=i/\rX l s=true:=by
 have h0:nu (nm l i) s=0:=Fh.2 h;have hl:kP l s=i:=ahi (by omega) (fun k hk=>by rw[<-h];exact hs.lt hk hi) (fun _=>by omega);refine⟨hl,?_⟩;unfold rX;rw[hl];simp[hi,h0]
def aam(l m:List Bk)(i:Nat):Bool:=Tt (l.b i jq) (m.b i jq)
def UN(v:Int)(l:List Bk)(v':Int)(m:List Bk):Bool:=(v==v')&&decide (l.a=m.a)&&(eu l.a).all (aam l m)
theorem ai3{x y:Nat}(hx:x<18446744073709551616)(hy:y<18446744073709551616):Fg x y=decide (ae6 x=ae6 y):=by
 rw[dG];simp only[Fg,beq_iff_eq,decide_eq_true_eq];constructor
 ·intro h;simp only[ae6,h]
 ·intro h;exact ae7 (acG hx) (acG hy) h
theorem aff:Op.floatEq .f64 0 0=true:=by decide +kernel
theorem alO{x y:Bk}(hx:x.w<18446744073709551616)(hy:y.w<18446744073709551616):QL x y=Tt x y:=by
 unfold QL Tt alK Bk.OY;rw[aff,ai3 hx hy];cases(decide (ae6 x.w=ae6 y.w))<;>cases(x.F==y.F)<;>cases(decide (x.h=y.h))<;>cases(x.ni==y.ni)<;>cases(decide (x.xQ=y.xQ))<;>cases(x.drain==y.drain)<;>rfl
theorem ai4{l m:List Bk}(v v':Int)(hf:∀x∈l,x.sD)(hg:∀x∈m,x.sD):aak v l v' m=UN v l v' m:=by
 unfold aak UN Jl;rw[Bool.and_assoc];congr 1;by_cases hlm:l.a=m.a
 ·congr 1
  rw[dG,gq,gq];have key:∀i,i∈eu l.a->Jk l m i=aam l m i:=fun i hi=>by
   have hi:=fq.1 hi;unfold Jk aam;have h1:l.b i jq∈l:=by rw[au,aC hi];simp
   have h2:m.b i jq∈m:=by rw[au,aC (by omega)];simp
   exact alO (hf _ h1).2 (hg _ h2).2
  constructor
  ·intro h i hi;rw[<-key i hi];exact h i hi
  ·intro h i hi;rw[key i hi];exact h i hi
 ·simp[hlm]
theorem afg(v:Int)(l:List Bk):UN v l v l=true:=by
 unfold UN aam Tt;simp
def UO(f w:Nat):Bool:=decide (f/w%2=1)
theorem alP(f w:Nat)(hf:f<64)(hw:w∈[1,2,4,16]):(bits .and .a (f:Int) (w:Int) != 0)=UO f w:=
 (by decide +kernel:∀f:Fin 64,∀w∈([1,2,4,16]:List Nat),(bits .and .a ((f.val:Nat):Int) (w:Int) != 0)=UO f.val w) ⟨f,hf⟩ w hw
def aan(f:Nat):Bool:=UO f 2 && !UO f 16
def aao(p:Int)(f:Nat):Int:=if p=17 then 5 else if p=6 then(if UO f 4 then 4 else if UO f 1 then 3 else if aan f then 1 else 2)else 0
def ahm(s:Int)(f:Nat):Int:=if s=5 then 5 else if s<1\/5<s then 0 else if UO f 4 then 4 else if s=4 then(if aan f then 1 else 4)else if UO f 1 then 3 else if s=1/\(UO f 16 && !UO f 2)=true then 2 else s
def Jm(n:Int):Int:=if n<0 then 0 else if 1099511627776<n then 1099511627776 else n
section
variable (f w:Nat) (p s n:Int) (W:ak)
theorem aap(hf:f<64)(hw:w∈[1,2,4,16]):aR ah 208 #[.b .a f,.b .a w] W fun e W'=>e=.a (.e (UO f w))/\W=W':=by
 have h:=alP f w hf hw;go_enter Tryz.func208,Tryz.ntmps208;go_wp2;go_ret;exact⟨by rw[<-h];rfl,rfl⟩
theorem Yk(hf:f<64):aR ah 209 #[.b .a f] W fun e W'=>e=.a (.e (aan f))/\W=W':=by
 go_enter Tryz.func209,Tryz.ntmps209;go_wp2_with (go_at_call 208;refine(aap f _ _ hf (by simp)).g ?_;rintro e w' ⟨rfl,rfl⟩)
 all_goals(go_ret;refine⟨?_,rfl⟩;simp_all[aan])
theorem ai5(hf:f<64):aR ah 138 #[.b .a p,.b .a f] W fun e W'=>e=.a (.b .a (aao p f))/\W=W':=by
 go_enter Tryz.func138,Tryz.ntmps138;go_wp2_with (first|(go_at_call 208;refine(aap f _ _ hf (by simp)).g ?_;rintro e w' ⟨rfl,rfl⟩)|(go_at_call 209;refine(Yk f _ hf).g ?_;rintro e w' ⟨rfl,rfl⟩))
 all_goals(go_ret;refine⟨?_,rfl⟩;simp_all[aao])
theorem alQ(hf:f<64):aR ah 139 #[.b .a s,.b .a f] W fun e W'=>e=.a (.b .a (ahm s f))/\W=W':=by
 go_enter Tryz.func139,Tryz.ntmps139;go_wp2_with (first|(go_at_call 208;refine(aap f _ _ hf (by simp)).g ?_;rintro e w' ⟨rfl,rfl⟩)|(go_at_call 209;refine(Yk f _ hf).g ?_;rintro e w' ⟨rfl,rfl⟩))
 all_goals(go_ret;refine⟨?_,rfl⟩;simp_all[ahm]<;>omega)
theorem acS:aR ah 217 #[.b .a n] W fun e W'=>e=.a (.b .a (Jm n))/\W=W':=by
 go_enter Tryz.func217,Tryz.ntmps217;go_wp2
 all_goals(go_ret;refine⟨?_,rfl⟩;simp_all[Jm]<;>(repeat' split)<;>omega)
end
def mh(n:Nat):Bool:=decide (2<=n)&&(eu n).all fun d=>decide (d<2)||decide (n<d*d)||decide (n%d≠0)
theorem Kr{n:Nat}(h:mh n=true){d:Nat}(h2:2<=d)(hd:d*d<=n):n%d≠0:=by
 unfold mh at h;simp only[bf,gq,fq,kR,decide_eq_true_eq]at h;have hlt:d<n:=by have:=dB d h2;omega
 rcases h.2 d hlt with(h|h)|h<;>omega
theorem yc{n:Nat}(h:mh n=true):2<=n:=by
 unfold mh at h;simp at h;exact h.1
theorem afh{n g:Nat}(h:mh n=true)(hg:g∣n)(h2:2<=g):g=n:=by
 obtain⟨q,rfl⟩:=hg;rcases aZ q 2 with hq|hq
 ·rcases q with _|_|q
  ·have:=yc h;omega
  ·omega
  ·omega
 ·exfalso
  rcases Nat.le_total g q with hle|hle
  ·exact Kr h h2 (Nat.mul_le_mul_left g hle) (Nat.mul_mod_right g q)
  ·exact Kr h hq (dB q hle) (Nat.mul_mod_left g q)
theorem UQ{n s:Nat}(h:mh n=true)(h1:1<=s)(h2:s<n):Nat.Coprime n s:=by
 have hg:=Nat.gcd_dvd_left n s;have hs:=Nat.gcd_dvd_right n s;have hpos:0<Nat.gcd n s:=Nat.gcd_pos_of_pos_right n h1;rcases aZ (Nat.gcd n s) 2 with hc|hc
 ·show Nat.gcd n s=1;omega
 ·have:=afh h hg hc
  have:=Nat.le_of_dvd h1 hs;omega
def rY(o s n i:Nat):Nat:=(o+i*s)%n
theorem afi{o s n i j:Nat}(h:mh n=true)(h1:1<=s)(h2:s<n)(hi:i<j)(hj:j<n)(e:rY o s n i=rY o s n j):False:=by
 unfold rY at e;have hd:n∣(j-i)*s:=by
  have:n∣(o+j*s)-(o+i*s):=Nat.dvd_of_mod_eq_zero (Nat.sub_mod_eq_zero_of_mod_eq e.symm)
  rwa [Nat.add_sub_add_left,<-Nat.mul_sub_right_distrib]at this
 have:=(UQ h h1 h2).dvd_of_dvd_mul_right hd;have:=Nat.le_of_dvd (by omega) this;omega
theorem acT:∀(l m:List Nat),l.Nodup->(∀x∈l,x∈m)->l.a<=m.a
 | [],m,_,_=>Nat.zero_le _
 | x::l,m,hn,hs=>by
   have hx:=hs x (by simp);rw[List.nodup_cons]at hn;have:=acT l (m.erase x) hn.2 (fun y hy=>(List.mem_erase_of_ne (fun e=>hn.1 (by rw[<-e];exact hy))).2 (hs y (by simp[hy])));rw[List.length_erase_of_mem hx]at this;have:=List.length_pos_of_mem hx;simp;omega
theorem UR{o s n:Nat}(h:mh n=true)(h1:1<=s)(h2:s<n){j:Nat}(hj:j<n):∃i,i<n/\rY o s n i=j:=by
 have hn:0<n:=by omega
 by_cases hc:j∈(eu n).map (rY o s n)
 ·obtain⟨i,hi,e⟩:=jf.1 hc
  exact⟨i,fq.1 hi,e⟩
 ·exfalso
  have hnd:((eu n).map (rY o s n)).Nodup:=by
   rw[List.Nodup,List.pairwise_map];refine List.Pairwise.imp_of_mem ?_ (List.pairwise_lt_range (n:=n));intro a b ha hb hab e;exact afi h h1 h2 hab (fq.1 hb) e
  have:=acT (j::(eu n).map (rY o s n)) (eu n) (List.nodup_cons.2 ⟨hc,hnd⟩) (by
   intro x hx;rcases bD.1 hx with rfl|hx
   ·exact fq.2 hj
   ·obtain⟨i,_,rfl⟩:=jf.1 hx
    exact fq.2 (fP _ hn))
  simp at this;omega
theorem PG{o s n i:Nat}(h:0<n):rY o s n i<n:=fP _ h
structure Mg where
 cr:List Nat
 sl:List Int
 left:Nat
def sN(sl:List Int)(j:Nat):Bool:=decide (sl.b j 0 = -1)
def ff(sl:List Int)(ch:Nat->Nat)(n:Nat):Nat:=((eu n).find? fun k=>sN sl (ch k)).b 0
def tT(g n:Nat)(q:List Nat)(ch:Nat->Nat->Nat)(m:Mg)(i:Nat):Mg:=
 if m.cr.b i 0+q.b i 0<g then{m with cr:=m.cr.set i (m.cr.b i 0+q.b i 0)}
 else⟨m.cr.set i (m.cr.b i 0+q.b i 0-g),m.sl.set (ch i (ff m.sl (ch i) n)) i,m.left-1⟩
def jU(g n:Nat)(q:List Nat)(ch:Nat->Nat->Nat):Nat->Mg
 | 0=>⟨q.map fun _=>0,dY n (-1),n⟩
 | j+1=>tT g n q ch (jU g n q ch j) (j%q.a)
def Jo(sl:List Int):Nat:=sl.countP fun x=>decide (x = -1)
theorem asb{sl:List Int}{ch:Nat->Nat}{n:Nat}(h:∃k,k<n/\sN sl (ch k)=true):ff sl ch n<n/\sN sl (ch (ff sl ch n))=true/\∀k,k<ff sl ch n->sN sl (ch k)=false:=by
 unfold ff;cases hf:(eu n).find? fun k=>sN sl (ch k)with
 | none=>
   obtain⟨k,hk,hk2⟩:=h;rw[List.find?_eq_none]at hf;exact absurd hk2 (hf k (fq.2 hk))
 | some k=>
   obtain⟨h1,u1,bs,h2,h3⟩:=List.find?_eq_some_iff_append.1 hf;have hk:u1.a=k/\k<n:=by
    have e1:(eu n)[u1.a]? = some k:=by rw[h2];simp
    rw[xX]at e1
    ·have hl:u1.a<n:=by have:=congrArg List.length h2;simp at this;omega
     simp at e1;omega
    ·have:=congrArg List.length h2;simp at this;omega
   refine⟨hk.2,h1,fun j hj=>?_⟩;simp only[jJ]at hj;have e1:(eu n)[j]? = some j:=by rw[xX (by omega)]
   rw[h2,lF (by omega)]at e1;have:=h3 j (List.mem_of_getElem? e1);simpa using this
theorem PI:∀(sl:List Int)(j:Nat)(v:Int),sN sl j=true->j<sl.a->v≠-1->Jo (sl.set j v)+1=Jo sl
 | [],j,v,_,h,_=>by simp at h
 | a::sl,0,v,h,_,hv=>by
   have:a = -1:=by simpa[sN]using h
   subst this;simp[Jo,hv]
 | a::sl,j+1,v,h,hj,hv=>by
   have:=PI sl j v (by simpa[sN]using h) (by simpa using hj) hv;simp only[Jo,bH,List.countP_cons]at this ⊢;omega
theorem Yl:∀(sl:List Int),0<Jo sl->∃j,j<sl.a/\sN sl j=true
 | [],h=>by simp[Jo]at h
 | a::sl,h=>by
   by_cases ha:a = -1
   ·exact⟨0,by simp,by simp[sN,ha]⟩
   ·obtain⟨j,h1,h2⟩:=Yl sl (by simpa[Jo,List.countP_cons,ha]using h)
    exact⟨j+1,by simpa using h1,by simpa[sN]using h2⟩
structure afj(n:Nat)(q:List Nat)(m:Mg):Prop where
 crl:m.cr.a=q.a
 sll:m.sl.a=n
 fr:Jo m.sl=m.left
 rng:∀j,j<n->m.sl.b j 0 = -1\/∃i,i<q.a/\m.sl.b j 0=(i:Int)
def acU(n k:Nat)(ch:Nat->Nat->Nat):Prop:=∀i,i<k->(∀t,ch i t<n)/\∀j,j<n->∃t,t<n/\ch i t=j
theorem afj.free{n:Nat}{q:List Nat}{ch:Nat->Nat->Nat}{m:Mg}(h:afj n q m)(hf:acU n q.a ch)(hl:m.left≠0){i:Nat}(hi:i<q.a):∃k,k<n/\sN m.sl (ch i k)=true:=by
 obtain⟨j,hj,hj2⟩:=Yl m.sl (by rw[h.fr];omega);obtain⟨t,ht,e⟩:=(hf i hi).2 j (by rw[<-h.sll];exact hj);exact⟨t,ht,by rw[e];exact hj2⟩
theorem afj.acV{g n:Nat}{q:List Nat}{ch:Nat->Nat->Nat}{m:Mg}(h:afj n q m)(hf:acU n q.a ch)(hl:m.left≠0){i:Nat}(hi:i<q.a):afj n q (tT g n q ch m i):=by
 unfold tT;split
 ·exact⟨by simpa using h.crl,h.sll,h.fr,h.rng⟩
 ·obtain⟨h1,h2,h3⟩:=asb (h.free hf hl hi)
  have hlt:=(hf i hi).1 (ff m.sl (ch i) n);have hll:=h.sll;refine⟨by simpa using h.crl,by simpa using h.sll,?_,fun j hj=>?_⟩
  ·have:=PI m.sl _ (i:Int) h2 (by omega) (by omega)
   have:=h.fr;show Jo (m.sl.set _ _)=m.left-1;omega
  ·simp only[au,fu]
   split
   ·rename_i e
    rw[if_pos (by omega)];exact .a ⟨i,hi,rfl⟩
   ·have:=h.rng j hj
    simpa[au]using this
theorem acW{g n:Nat}{q:List Nat}{ch:Nat->Nat->Nat}(m:Mg)(i:Nat):(tT g n q ch m i).left<=m.left:=by
 unfold tT;split
 ·exact av _
 ·exact Nat.sub_le _ _
theorem aaq{g n:Nat}{q:List Nat}{ch:Nat->Nat->Nat}(j:Nat):∀d,(jU g n q ch (j+d)).left<=(jU g n q ch j).left
 | 0=>av _
 | d+1=>aP (acW _ _) (aaq j d)
theorem aar{g n:Nat}{q:List Nat}{ch:Nat->Nat->Nat}{i0:Nat}(hi:i0<q.a)(hg:q.b i0 0=g)(m:Nat):(jU g n q ch ((m+1)*q.a)).left<=(jU g n q ch (m*q.a)).left-1:=by
 have h1:(jU g n q ch (m*q.a+i0+1)).left<=(jU g n q ch (m*q.a+i0)).left-1:=by
  have e:(m*q.a+i0)%q.a=i0:=by rw[DY,Nat.mul_add_mod,gy hi]
  show(tT g n q ch _ ((m*q.a+i0)%q.a)).left<=_;rw[e];unfold tT;rw[if_neg (by omega)];exact av _
 have h2:=aaq (g:=g) (n:=n) (q:=q) (ch:=ch) (m*q.a) i0;have h3:=aaq (g:=g) (n:=n) (q:=q) (ch:=ch) (m*q.a+i0+1) (q.a-i0-1);rw[show m*q.a+i0+1+(q.a-i0-1)=(m+1)*q.a by rw[Nat.add_mul];omega]at h3;omega
theorem apw{g n:Nat}{q:List Nat}{ch:Nat->Nat->Nat}{i0:Nat}(hi:i0<q.a)(hg:q.b i0 0=g):∃K,(jU g n q ch K).left=0/\∀j,j<K->(jU g n q ch j).left≠0:=by
 have h:∀m,(jU g n q ch (m*q.a)).left<=n-m:=by
  intro m
  induction m with
  | zero=>simp[jU]
  | succ m ih=>have:=aar (n:=n) (ch:=ch) hi hg m;omega
 have hk:(jU g n q ch (n*q.a)).left=0:=by have:=h n;omega
 have:∀k,(∃j,j<=k/\(jU g n q ch j).left=0)->∃K,(jU g n q ch K).left=0/\∀j,j<K->(jU g n q ch j).left≠0:=by
  intro k
  induction k with
  | zero=>rintro⟨j,hj,h0⟩;obtain rfl:j=0:=by omega
          exact⟨0,h0,fun j h=>by omega⟩
  | succ k ih=>
    rintro⟨j,hj,h0⟩;by_cases hc:∃j,j<=k/\(jU g n q ch j).left=0
    ·exact ih hc
    ·exact⟨j,h0,fun t ht e=>hc ⟨t,by omega,e⟩⟩
 exact this _ ⟨_,av _,hk⟩
theorem alR{g n:Nat}{q:List Nat}{ch:Nat->Nat->Nat}(hq:0<q.a)(hf:acU n q.a ch):∀j,(∀t,t<j->(jU g n q ch t).left≠0)->afj n q (jU g n q ch j)
 | 0,_=>⟨by simp[jU],by simp[jU],by simp[jU,Jo,List.countP_replicate],fun j hj=>.b (by simp[jU,au,hj])⟩
 | j+1,h=>(alR hq hf j fun t ht=>h t (by omega)).acV hf (h j (by omega)) (fP _ hq)
theorem acX(n:Int):0<=Jm n/\Jm n<=1099511627776:=by unfold Jm;(repeat' split)<;>omega
theorem alS{P:fB}{f:FuncId}{args:Array aB}{w:ak}{n:Nat}{v:aB}(h:aR P f args (w.drewN n) fun e w'=>e=.a v/\w.drewN n=w'):aR P f args (w.drewN n) fun e w''=>e=.a v/\∃m,w''=w.drewN m:=
 h.g fun _ _ ⟨he,hm⟩=>⟨he,n,hm.symm⟩
def K9(v:Vector Int 6):Array aB:=(v.a.map fun n=>.b .a n).c
def EC(s seen now:Int)(v:Vector Int 6):Bool:=decide (s<1\/5<s\/v.a.b s.e 0<Jm now-Jm seen)
theorem aas(v:Vector Int 6)(k:Nat)(hk:k<6):(K9 v)[k]? = some (.b .a (v.a.b k 0)):=by
 simp[K9,au,hk]
theorem aCP(a b:Nat)(ha:a<9223372036854775808):wrap64 ((a:Int)/(b:Int))=((a/b:Nat):Int):=by
 have:=Nat.div_le_self a b;rw[<-Int.natCast_ediv];generalize a/b=q at *;unfold wrap64;omega
section
variable (s seen now:Int) (v:Vector Int 6) (W:ak)
theorem ai6:aR ah 150 #[.b .a s,.b .a seen,.b .a now,.d (K9 v)] W (gY W (.e (EC s seen now v))):=by
 have HB:=ab ((aG W.a.j W).alloc (av _) (.D (K9 v) 24));have t1:=ab (acX now);have t2:=ab (acX seen);have C1:=fun W=>acS now W
 have C2:=fun W=>acS seen W
 by_cases hs:s<1\/5<s
 ·have H:=ab (show EC s seen now v=true by simp[EC];omega)
  go_enter Tryz.func150,Tryz.ntmps150;go_wp2
  all_goals first|(go_ret;exact⟨by rw[H.i];rfl,HB.i⟩)|(exfalso;simp_all)
 ·obtain⟨k,rfl⟩:∃k:Nat,s=k:=⟨s.e,by omega⟩
  have h1:¬(k:Int)<1:=by omega
  have h2:¬(5:Int)<k:=by omega
  have hg:=aas v k (by omega);have hk:(k:Int)<6:=by omega
  have H:=ab (show EC k seen now v=decide (v.a.b k 0<Jm now-Jm seen)from decide_eq_decide.2 ⟨fun h=>(h.resolve_left h1).resolve_left h2,fun h=>.a (.a h)⟩);generalize Jm now=p at *;generalize Jm seen=q at *;generalize v.a.b k 0=z at *;have hpq:wrap64 (p-q)=p-q:=by have:=t1.i;have:=t2.i;unfold wrap64;omega
  clear hs;go_enter Tryz.func150,Tryz.ntmps150;go_wp2_with fail;go_quiet (first|(go_at_call 217;with_reducible refine alS (C1 _))|(go_at_call 217;with_reducible refine alS (C2 _)));go_wp2;go_ret;exact⟨by rw[H.i];rfl,eD HB.i _⟩
theorem UU{n:Nat}(h:2<=n)(hall:∀e,2<=e->e*e<=n->n%e≠0):mh n=true:=by
 unfold mh;simp only[bf,gq,fq,kR,decide_eq_true_eq];refine⟨h,fun d _=>?_⟩;by_cases h1:d<2
 ·exact .b (.b h1)
 ·by_cases h2:n<d*d
  ·exact .b (.a h2)
  ·exact .a (hall d (by omega) (by omega))
theorem Ym(n:Nat)(hn:n<=65537):aR ah 81 #[.b .a n] W fun e W'=>e=.a (.e (mh n))/\W=W':=by
 go_enter Tryz.func81,Tryz.ntmps81;by_cases h2:n<2
 ·have h2':(n:Int)<2:=by omega
  have hp:=ab (show mh n=false by simp[mh];omega);go_wp2;go_ret;exact⟨by rw[hp.i];rfl,rfl⟩
 have h2':¬(n:Int)<2:=by omega
 go_wp2;go_loop [3] (fun s3=>∃d:Nat,2<=d/\d<=n+1/\s3=.b .a d/\∀e,2<=e->e<d->n%e≠0) (fun s3=>n+1-(intOf s3).e)
 case atStart=>exact⟨2,by omega,by omega,rfl,fun e h1 h2=>by omega⟩
 case round=>
  obtain⟨d,hd,hdn,rfl,hall⟩:=hrel;have HA:=ab hall;clear hall;have hd0:¬(d:Int)=0:=by omega
  have hq:=aCP n d (by omega);by_cases hle:d*d<=n
  ·have hle2:(d:Int)<=((n/d:Nat):Int):=by have:=(Nat.le_div_iff_mul_le (show 0<d by omega)).2 hle;omega
   by_cases hm:n%d=0
   ·have hm2:((n:Int)%(d:Int)==0)=true:=by rw[<-IU,hm];rfl
    have H:=ab (show mh n=false by cases hp:mh n with
     | false=>rfl
     | true=>exact absurd hm (Kr hp hd hle))
    clear hle hm;go_wp2;go_ret;exact⟨by rw[H.i];rfl,rfl⟩
   ·have hm2:((n:Int)%(d:Int)==0)=false:=by rw[<-IU,beq_eq_false_iff_ne];omega
    have HL:=ab (show d<n+1 by have:=Nat.le_mul_self d;omega);have HM:=ab hm;clear hle hm;go_wp2;go_round
    case rel=>exact⟨d+1,by omega,by have:=HL.i;omega,by go_num,fun e h1 h2=>by
     rcases aZ e d with h|h
     ·exact HA.i e h1 h
     ·rw[show e=d by omega];exact HM.i⟩
    case measure=>have:=HL.i;simp[intOf]<;>omega
  ·have hle2:¬(d:Int)<=((n/d:Nat):Int):=by have:=mt (Nat.le_div_iff_mul_le (show 0<d by omega)).1 hle;omega
   have H:=ab (show mh n=true from UU (by omega) fun e h1 h2=>HA.i e h1 (by
    rcases aZ e d with h|h
    ·exact h
    ·have:=iq h h;omega))
   clear hle;go_wp2;go_ret;exact⟨by rw[H.i];rfl,rfl⟩
theorem aat(n:Nat)(hn:n<=65537):aR ah 69 #[.b .a n] W fun e W'=>e=.a (.e (mh n))/\W=W':=by
 go_enter Tryz.func69,Tryz.ntmps69;by_cases h2:n<2
 ·have h2':(n:Int)<2:=by omega
  have hp:=ab (show mh n=false by simp[mh];omega);go_wp2;go_ret;exact⟨by rw[hp.i];rfl,rfl⟩
 have h2':¬(n:Int)<2:=by omega
 go_wp2;go_loop [3] (fun s3=>∃d:Nat,2<=d/\d<=n+1/\s3=.b .a d/\∀e,2<=e->e<d->n%e≠0) (fun s3=>n+1-(intOf s3).e)
 case atStart=>exact⟨2,by omega,by omega,rfl,fun e h1 h2=>by omega⟩
 case round=>
  obtain⟨d,hd,hdn,rfl,hall⟩:=hrel;have HA:=ab hall;clear hall;have hd0:¬(d:Int)=0:=by omega
  have hq:wrap64 ((d:Int)*(d:Int))=((d*d:Nat):Int):=by
   have h1:d*d<=4295229444:=aP (iq (show d<=65538 by omega) (show d<=65538 by omega)) (by decide);rw[<-Int.natCast_mul];generalize d*d=q at h1 ⊢;unfold wrap64;omega
  by_cases hle:d*d<=n
  ·have hle2:((d*d:Nat):Int)<=(n:Int):=by omega
   by_cases hm:n%d=0
   ·have hm2:((n:Int)%(d:Int)==0)=true:=by rw[<-IU,hm];rfl
    have H:=ab (show mh n=false by cases hp:mh n with
     | false=>rfl
     | true=>exact absurd hm (Kr hp hd hle))
    clear hle hm;go_wp2;go_ret;exact⟨by rw[H.i];rfl,rfl⟩
   ·have hm2:((n:Int)%(d:Int)==0)=false:=by rw[<-IU,beq_eq_false_iff_ne];omega
    have HL:=ab (show d<n+1 by have:=Nat.le_mul_self d;omega);have HM:=ab hm;clear hle hm;go_wp2;go_round
    case rel=>exact⟨d+1,by omega,by have:=HL.i;omega,by go_num,fun e h1 h2=>by
     rcases aZ e d with h|h
     ·exact HA.i e h1 h
     ·rw[show e=d by omega];exact HM.i⟩
    case measure=>have:=HL.i;simp[intOf]<;>omega
  ·have hle2:¬((d*d:Nat):Int)<=(n:Int):=by omega
   have H:=ab (show mh n=true from UU (by omega) fun e h1 h2=>HA.i e h1 (by
    rcases aZ e d with h|h
    ·exact h
    ·have:=iq h h;omega))
   clear hle;go_wp2;go_ret;exact⟨by rw[H.i];rfl,rfl⟩
end
section
variable {α κ:Type} [DecidableEq κ] (kf:α->κ) (hm:κ->Nat)
def zP(N z c:Nat):Nat:=(z+c)%N
theorem C9{N z c:Nat}(h:0<N):zP N z c<N:=fP _ h
theorem xR{N a:Nat}(h:a<2*N):a%N=if a<N then a else a-N:=by
 split
 ·exact gy ‹_›
 ·rw[Nat.mod_eq_sub_mod (by omega),gy (by omega)]
theorem Md{N z c:Nat}(hz:z<N)(hc:c<N):zP N z c=if z+c<N then z+c else z+c-N:=xR (by omega)
def zQ(N z i:Nat):Nat:=if z<=i then i-z else i+N-z
theorem Da{N z i:Nat}(hz:z<N)(hi:i<N):zQ N z i<N:=by unfold zQ;split<;>omega
theorem xS{N z i:Nat}(hz:z<N)(hi:i<N):zP N z (zQ N z i)=i:=by
 rw[Md hz (Da hz hi)];unfold zQ;split<;>split<;>omega
theorem Nk{N z c:Nat}(hz:z<N)(hc:c<N):zQ N z (zP N z c)=c:=by
 rw[Md hz hc];unfold zQ;split<;>split<;>omega
theorem Kt{N z c d:Nat}(hz:z<N)(hc:c<N)(hd:d<N)(h:zP N z c=zP N z d):c=d:=by
 rw[<-Nk hz hc,<-Nk hz hd,h]
def dW(s:List (Option α))(i:Nat):Option α:=s.b i none
theorem GH(s:List (Option α))(i j:Nat)(v:Option α)(hi:i<s.a):dW (s.set i v) j=if i=j then v else dW s j:=by
 unfold dW;rw[au,au,fu];by_cases h:i=j
 ·subst h;simp[hi]
 ·simp[h]
def Lin(s:List (Option α))(z:Nat):Prop:=∀c x,c<s.a->dW s (zP s.a z c)=some x ->
 zQ s.a z (hm (kf x))<=c/\∀q,zQ s.a z (hm (kf x))<=q->q<c->dW s (zP s.a z q)≠none
structure Tab(s:List (Option α)):Prop where
 hom:∀k,hm k<s.a
 lin:∃z,z<s.a/\dW s z=none/\Lin kf hm s z
 uni:∀i j x y,i<s.a->j<s.a->dW s i=some x->dW s j=some y->kf x=kf y->i=j
def stops(s:List (Option α))(k:κ)(i:Nat):Bool:=match dW s i with|none=>true|some x=>decide (kf x=k)
variable {kf hm} {s:List (Option α)}
theorem Lin.atI(h0:∀k,hm k<s.a){z z':Nat}(hz:z<s.a)(hf:dW s z=none)(h:Lin kf hm s z)(hz':z'<s.a)(hf':dW s z'=none):Lin kf hm s z':=by
 intro c x hc hx;have hi:=C9 (N:=s.a) (z:=z') (c:=c) (by omega);generalize hI:zP s.a z' c=i at hx hi;have hc2:c=zQ s.a z' i:=by rw[<-hI,Nk hz' hc]
 subst hc2;have hh:=h0 (kf x);obtain⟨h1,h2⟩:=h (zQ s.a z i) x (Da hz hi) (by rw[xS hz hi];exact hx);have hne:i≠z':=by rintro rfl;rw[hf']at hx;cases hx
 have hno:¬(zQ s.a z (hm (kf x))<=zQ s.a z z'/\zQ s.a z z'<zQ s.a z i):=fun⟨a,b⟩=>
  h2 _ a b (by rw[xS hz hz'];exact hf')
 have hne2:i≠z:=by rintro rfl;rw[hf]at hx;cases hx
 generalize hm (kf x)=y at *;have e1:zQ s.a z' y<=zQ s.a z' i:=by
  revert hno h1
  unfold zQ
  repeat' split
  all_goals omega
 refine⟨e1,fun q hq1 hq2=>?_⟩;have hqN:q<s.a:=Nat.lt_trans hq2 (Da hz' hi);have hj:=C9 (N:=s.a) (z:=z') (c:=q) (by omega);generalize hJ:zP s.a z' q=j at hj;have hq3:q=zQ s.a z' j:=by rw[<-hJ,Nk hz' hqN]
 subst hq3
 have:=h2 (zQ s.a z j) (by revert hno h1 hq1 hq2;unfold zQ;repeat' split
                           all_goals omega) (by revert hno h1 hq1 hq2;unfold zQ;repeat' split
                                                all_goals omega)
 rwa [xS hz hj]at this
def Found(hm:κ->Nat)(kf:α->κ)(s:List (Option α))(k:κ)(d:Nat):Prop:=d<s.a/\stops (kf:=kf) s k ((hm k+d)%s.a)=true/\∀t,t<d->stops (kf:=kf) s k ((hm k+t)%s.a)=false
theorem Nl{N z y q:Nat}(hz:z<N)(hy:y<N)(h1:zQ N z y<=q)(hq:q<N):zP N z q=(y+(q-zQ N z y))%N:=by
 rw[Md hz hq,xR (by unfold zQ at *;split at h1<;>omega)];unfold zQ at *
 repeat' split
 all_goals(try split at h1)
 all_goals omega
theorem Tab.aau(h:Tab kf hm s){k:κ}{j:Nat}{x:α}(hj:j<s.a)(hx:dW s j=some x)(hk:kf x=k):∃d,Found hm kf s k d/\(hm k+d)%s.a=j:=by
 obtain⟨z,hz,hf,hl⟩:=h.lin;obtain⟨h1,h2⟩:=hl (zQ s.a z j) x (Da hz hj) (by rw[xS hz hj];exact hx);rw[hk]at h1 h2;have hy:=h.hom k;have hcj:=Da hz hj;have ej:(hm k+(zQ s.a z j-zQ s.a z (hm k)))%s.a=j:=by rw[<-Nl hz hy h1 hcj,xS hz hj]
 refine⟨zQ s.a z j-zQ s.a z (hm k),⟨by omega,?_,fun t ht=>?_⟩,ej⟩
 ·rw[ej];simp[stops,hx,hk]
 ·have hq:zQ s.a z (hm k)+t<zQ s.a z j:=by omega
  have:=h2 (zQ s.a z (hm k)+t) (by omega) hq;have e:=Nl hz hy (q:=zQ s.a z (hm k)+t) (by omega) (by omega);rw[show zQ s.a z (hm k)+t-zQ s.a z (hm k)=t by omega]at e;rw[e]at this;cases hw:dW s ((hm k+t)%s.a)with
  | none=>exact absurd hw this
  | some y=>
    simp only[stops,hw,decide_eq_false_iff_not];intro hky;have hlt:(hm k+t)%s.a<s.a:=fP _ (by omega);have:=h.uni _ _ _ _ hlt hj hw hx (by rw[hky,hk]);rw[<-e,<-xS hz hj]at this;have:=Kt hz (by omega) hcj this;omega
theorem Tab.ahn(h:Tab kf hm s){k:κ}(hno:∀j x,j<s.a->dW s j=some x->kf x≠k):∃d,Found hm kf s k d/\dW s ((hm k+d)%s.a)=none:=by
 obtain⟨z,hz,hf,hl⟩:=h.lin;have hy:=h.hom k;have hN:0<s.a:=by omega
 have st:∀i,i<s.a->(stops (kf:=kf) s k i=true↔dW s i=none):=by
  intro i hi;unfold stops;cases hw:dW s i with
  | none=>simp
  | some x=>simpa using hno i x hi hw
 have ex:∃d,d<s.a/\stops (kf:=kf) s k ((hm k+d)%s.a)=true:=by
  have hd:(hm k+(if hm k<=z then z-hm k else z+s.a-hm k))%s.a=z:=by
   rw[xR (by split<;>omega)];repeat' split
   all_goals omega
  refine⟨if hm k<=z then z-hm k else z+s.a-hm k,by split<;>omega,?_⟩;rw[hd,st z hz];exact hf
 have least:∀n,(∃d,d<n/\d<s.a/\stops (kf:=kf) s k ((hm k+d)%s.a)=true)->∃d,d<s.a/\stops (kf:=kf) s k ((hm k+d)%s.a)=true/\∀t,t<d->stops (kf:=kf) s k ((hm k+t)%s.a)=false:=by
  intro n
  induction n with
  | zero=>rintro⟨d,hd,_⟩;omega
  | succ n ih=>
    rintro⟨d,hd,hd2,hd3⟩;by_cases hc:∃d,d<n/\d<s.a/\stops (kf:=kf) s k ((hm k+d)%s.a)=true
    ·exact ih hc
    ·refine⟨d,hd2,hd3,fun t ht=>?_⟩
     cases hs:stops (kf:=kf) s k ((hm k+t)%s.a)with
     | false=>rfl
     | true=>exact absurd ⟨t,by omega,by omega,hs⟩ hc
 obtain⟨d,hd⟩:=ex;obtain⟨e,e1,e2,e3⟩:=least s.a ⟨d,hd.1,hd.1,hd.2⟩;exact⟨e,⟨e1,e2,e3⟩,(st _ (fP _ hN)).1 e2⟩
theorem Found.IE{k:κ}{d e:Nat}(h:Found hm kf s k d)(g:Found hm kf s k e):d=e:=by
 rcases Nat.lt_trichotomy d e with h1|h1|h1
 ·have:=g.2.2 d h1;rw[h.2.1]at this;cases this
 ·exact h1
 ·have:=h.2.2 e h1;rw[g.2.1]at this;cases this
theorem Tab.found(h:Tab kf hm s)(k:κ):∃d,Found hm kf s k d:=by
 by_cases hc:∃j x,j<s.a/\dW s j=some x/\kf x=k
 ·obtain⟨j,x,h1,h2,h3⟩:=hc
  obtain⟨d,hd,_⟩:=h.aau h1 h2 h3;exact⟨d,hd⟩
 ·obtain⟨d,hd,_⟩:=h.ahn (k:=k) (fun j x h1 h2 h3=>hc ⟨j,x,h1,h2,h3⟩)
  exact⟨d,hd⟩
theorem Tab.put(h:Tab kf hm s){x:α}{d:Nat}(hd:Found hm kf s (kf x) d){z':Nat}(hz':z'<s.a)(hfree:dW s z'=none)(hne:z'≠(hm (kf x)+d)%s.a):
 Tab kf hm (s.set ((hm (kf x)+d)%s.a) (some x)):=by
 obtain⟨z,hz,hf,hl⟩:=h.lin;have hl:=hl.atI h.hom hz hf hz' hfree;have hy:=h.hom (kf x);have hN:0<s.a:=by omega
 have hj:(hm (kf x)+d)%s.a<s.a:=fP _ hN;have hstop:=hd.2.1;have hbef:=hd.2.2;have hdl:=hd.1;generalize hJ:(hm (kf x)+d)%s.a=j at *;refine⟨by simpa using h.hom,⟨z',by simpa using hz',by rw[GH _ _ _ _ hj,if_neg (jE hne)];exact hfree,?_⟩,?_⟩
 ·intro c y hc hyc
  simp only[aS]at hc hyc ⊢;have hkeep:∀q,dW s (zP s.a z' q)≠none->dW (s.set j (some x)) (zP s.a z' q)≠none:=by
   intro q hq;rw[GH _ _ _ _ hj];split
   ·simp
   ·exact hq
  rw[GH _ _ _ _ hj]at hyc;split at hyc
  ·rename_i hjc
   injection hyc with hyc;subst hyc
   have hcj:c=zQ s.a z' j:=by rw[hjc,Nk hz' hc]
   have asf:∀t,t<d->dW s ((hm (kf x)+t)%s.a)≠none:=by
    intro t ht hn;have:=hbef t ht;simp[stops,hn]at this
   have hzd:∀t,t<=d->(hm (kf x)+t)%s.a≠z':=by
    intro t ht e;rcases aZ t d with h1|h1
    ·exact asf t h1 (by rw[e];exact hfree)
    ·have:t=d:=by omega
     subst this;rw[hJ]at e;exact hne e.symm
   have hle:zQ s.a z' (hm (kf x))+d<s.a:=by
    rcases aZ (zQ s.a z' (hm (kf x))+d) s.a with h1|h1
    ·exact h1
    ·exfalso
     have hlt:=Da hz' hy;refine hzd (s.a-zQ s.a z' (hm (kf x))) (by omega) ?_;rw[xR (by omega)];unfold zQ at *
     repeat' split
     all_goals(repeat' split at *)
     all_goals omega
   have e1:zP s.a z' (zQ s.a z' (hm (kf x))+d)=j:=by
    rw[Nl hz' hy (by omega) hle,<-hJ];congr 2;omega
   have e2:c=zQ s.a z' (hm (kf x))+d:=Kt hz' hc hle (by rw[e1,<-hjc]);refine⟨by omega,fun q h1 h2=>hkeep q ?_⟩;rw[Nl hz' hy h1 (by omega)];exact asf _ (by omega)
  ·obtain⟨a,b⟩:=hl c y hc hyc
   exact⟨a,fun q h1 h2=>hkeep q (b q h1 h2)⟩
 ·intro i k y w hi hk hyi hwk he
  simp only[aS]at hi hk;rw[GH _ _ _ _ hj]at hyi hwk;have key:∀k w,k<s.a->dW s k=some w->kf w=kf x->k=j:=by
   intro k w hk hw he;obtain⟨e,he1,he2⟩:=h.aau hk hw he;have:=he1.IE hd;subst this;rw[<-he2,hJ]
  split at hyi<;>split at hwk
  ·omega
  ·injection hyi with hyi;subst hyi
   have:=key k w hk hwk he.symm;omega
  ·injection hwk with hwk;subst hwk
   have:=key i y hi hyi he;omega
  ·exact h.uni i k y w hi hk hyi hwk he
def iD(s:List (Option α)):List α:=s.filterMap id
theorem Ah(s:List (Option α)):∀(i:Nat)(x:α),i<s.a->(iD (s.set i (some x))).Perm (x::iD (s.set i none)):=by
 induction s with
 | nil=>intro i x h;simp at h
 | cons a s ih=>
   intro i x h;cases i with
   | zero=>simp[iD]
   | succ i=>
     have:=ih i x (by simpa using h);cases a with
     | none=>simpa[iD]using this
     | some a=>
       simp only[iD,bH,List.filterMap_cons,id]at this ⊢;exact(this.cons a).trans (List.Perm.swap x a _)
theorem acY(s:List (Option α))(i:Nat)(hi:i<s.a):s.set i (dW s i)=s:=by
 apply iC;intro j;rw[fu];split
 ·rename_i h;subst h;simp[hi,dW]
 ·rfl
theorem PL(s:List (Option α))(i:Nat)(x:α)(hi:i<s.a)(hx:dW s i=some x):(iD s).Perm (x::iD (s.set i none)):=by
 have:=Ah s i x hi
 rwa [<-hx,acY s i hi]at this
theorem Me(s:List (Option α))(i:Nat)(x:α)(hi:i<s.a)(hx:dW s i=none):(iD (s.set i (some x))).Perm (x::iD s):=by
 have:=Ah s i x hi
 rwa [<-hx,acY s i hi]at this
theorem PN{s:List (Option α)}{x:α}:x∈iD s↔∃i,i<s.a/\dW s i=some x:=by
 simp only[iD,List.mem_filterMap,id];constructor
 ·rintro⟨a,h1,rfl⟩
  obtain⟨i,hi,he⟩:=List.mem_iff_getElem.1 h1;exact⟨i,hi,by simp[dW,au,hi,he]⟩
 ·rintro⟨i,hi,he⟩
  refine⟨some x,?_,rfl⟩;rw[<-he];simp only[dW,au,aC hi,jJ];exact eZ hi
theorem alT(s:List (Option α)):(iD s).a<=s.a:=List.length_filterMap_le _ _
theorem Mf(s:List (Option α)):(iD s).a<s.a↔∃i,i<s.a/\dW s i=none:=by
 induction s with
 | nil=>simp[iD]
 | cons a s ih=>
   cases a with
   | none=>exact⟨fun _=>⟨0,by simp,by simp[dW]⟩,fun _=>by have:=alT s;simp[iD]at this⊢;omega⟩
   | some a=>
     have:(iD (some a::s)).a=(iD s).a+1:=by simp[iD]
     rw[this,bl];constructor
     ·intro h
      obtain⟨i,h1,h2⟩:=ih.1 (by omega);exact⟨i+1,by omega,by simpa[dW]using h2⟩
     ·rintro⟨i,h1,h2⟩
      cases i with
      | zero=>simp[dW]at h2
      | succ i=>
        have:=ih.2 ⟨i,by omega,by simpa[dW]using h2⟩;omega
structure Xu(kf:α->κ)(hm:κ->Nat)(z:Nat)(s:List (Option α))(a c:Nat)(L:List α):Prop where
 hom:∀k,hm k<s.a
 hz:z<s.a
 free:dW s z=none
 a0:0<a
 ac:a<c
 cN:c<=s.a
 lin:∀e x,e<s.a->e≠a->dW s (zP s.a z e)=some x->zQ s.a z (hm (kf x))<=e/\∀q,zQ s.a z (hm (kf x))<=q->q<e->(q≠a->dW s (zP s.a z q)≠none)/\(q=a->c<=e)
 acZ:∀q,a<q->q<c->dW s (zP s.a z q)≠none
 uni:∀d e x y,d<s.a->e<s.a->d≠a->e≠a->dW s (zP s.a z d)=some x->dW s (zP s.a z e)=some y->kf x=kf y->d=e
 PW:(iD (s.set (zP s.a z a) none)).Perm L
theorem Tab.aCQ(h:Tab kf hm s){j:Nat}{x:α}(hj:j<s.a)(hx:dW s j=some x):∃z a,Xu kf hm z s a (a+1) (iD (s.set j none))/\zP s.a z a=j:=by
 obtain⟨z,hz,hf,hl⟩:=h.lin;have hne:j≠z:=by rintro rfl;rw[hf]at hx;cases hx
 have hlt:=Da hz hj;have ej:=xS hz hj;refine⟨z,zQ s.a z j,⟨h.hom,hz,hf,?_,by omega,by omega,?_,fun q h1 h2=>absurd h1 (by omega),?_,?_⟩,ej⟩
 ·unfold zQ;split<;>omega
 ·intro e y he hea hy
  obtain⟨h1,h2⟩:=hl e y he hy;exact⟨h1,fun q h3 h4=>⟨fun _=>h2 q h3 h4,fun h5=>by omega⟩⟩
 ·intro d e y w hd he hda hea hy hw hk
  exact Kt hz hd he (h.uni _ _ y w (C9 (by omega)) (C9 (by omega)) hy hw hk)
 ·rw[ej]
theorem UW{s:List (Option α)}{z a e:Nat}(hz:z<s.a)(ha:a<s.a)(he:e<s.a)(v:Option α):dW (s.set (zP s.a z a) v) (zP s.a z e)=if a=e then v else dW s (zP s.a z e):=by
 rw[GH _ _ _ _ (C9 (by omega))];by_cases h:a=e
 ·subst h;simp
 ·rw[if_neg h,if_neg (fun e2=>h (Kt hz ha he e2))]
theorem Xu.aCR{z a c:Nat}{L:List α}{x:α}(h:Xu kf hm z s a c L)(hc:c<s.a)(hx:dW s (zP s.a z c)=some x)(hlt:a<zQ s.a z (hm (kf x))):Xu kf hm z s a (c+1) L:=by
 refine⟨h.hom,h.hz,h.free,h.a0,by have:=h.ac;omega,by omega,?_,?_,h.uni,h.PW⟩
 ·intro e y he hea hy
  obtain⟨h1,h2⟩:=h.lin e y he hea hy;refine⟨h1,fun q h3 h4=>⟨(h2 q h3 h4).1,fun h5=>?_⟩⟩;have:=(h2 q h3 h4).2 h5;rcases aZ c e with h6|h6
  ·omega
  ·have:e=c:=by omega
   subst this;rw[hx]at hy;injection hy with hy;subst hy
   omega
 ·intro q h1 h2
  rcases aZ q c with h3|h3
  ·exact h.acZ q h1 h3
  ·have:q=c:=by omega
   subst this;rw[hx];simp
theorem Xu.move{z a c:Nat}{L:List α}{x:α}(h:Xu kf hm z s a c L)(hc:c<s.a)(hx:dW s (zP s.a z c)=some x)(hle:zQ s.a z (hm (kf x))<=a):Xu kf hm z (s.set (zP s.a z a) (some x)) c (c+1) L:=by
 have ha:a<s.a:=by have:=h.ac;omega
 have hac:=h.ac;have hz:=h.hz;have ca:∀e,e<s.a->∀v:Option α,dW (s.set (zP s.a z a) v) (zP s.a z e)=if a=e then v else dW s (zP s.a z e):=fun e he v=>UW hz ha he v
 have z0:zP s.a z 0=z:=by rw[Md hz (by omega)];split<;>omega
 refine⟨by simpa using h.hom,by simpa using hz,?_,by omega,by omega,by simp;omega,?_,?_,?_,?_⟩
 ·have:=ca 0 (by omega) (some x)
  rw[z0,if_neg (by have:=h.a0;omega)]at this;rw[this];exact h.free
 ·intro e y he hec hy
  simp only[aS]at he hy ⊢;rw[ca e he]at hy;split at hy
  ·rename_i hae
   injection hy with hy;subst hy;subst hae
   refine⟨hle,fun q h3 h4=>⟨fun h5=>?_,fun h5=>by omega⟩⟩;rw[ca q (by omega),if_neg (by omega)];exact((h.lin c x hc (by omega) hx).2 q h3 (by omega)).1 (by omega)
  ·rename_i hae
   obtain⟨h1,h2⟩:=h.lin e y he (jE hae) hy;refine⟨h1,fun q h3 h4=>⟨fun h5=>?_,fun h5=>by omega⟩⟩;rw[ca q (by omega)];split
   ·simp
   ·exact(h2 q h3 h4).1 (by omega)
 ·intro q h1 h2;omega
 ·intro d e y w hd he hda hea hy hw hk
  simp only[aS]at hd he hy hw;rw[ca d hd]at hy;rw[ca e he]at hw;split at hy<;>split at hw
  ·omega
  ·injection hy with hy;subst hy
   have:=h.uni c e x w hc he (by omega) (by omega) hx hw hk;omega
  ·injection hw with hw;subst hw
   have:=h.uni d c y x hd hc (by omega) (by omega) hy hx hk;omega
  ·exact h.uni d e y w hd he (by omega) (by omega) hy hw hk
 ·have h1:=h.PW
  have hci:=C9 (N:=s.a) (z:=z) (c:=c) (by omega);have hai:=C9 (N:=s.a) (z:=z) (c:=a) (by omega);have hne:zP s.a z a≠zP s.a z c:=fun e=>by have:=Kt hz ha hc e;omega
  simp only[aS];rw[List.set_comm _ _ hne];refine List.Perm.trans (Ah _ _ x (by simpa using hai)) ?_;rw[List.set_comm _ _ (jE hne)];refine List.Perm.trans (List.Perm.symm (PL (s.set (zP s.a z a) none) _ x (by simpa using hci) ?_)) h1;rw[ca c hc,if_neg (by omega)];exact hx
theorem Xu.done{z a c:Nat}{L:List α}(h:Xu kf hm z s a c L)(hc:dW s (zP s.a z c)=none):Tab kf hm (s.set (zP s.a z a) none)/\(iD (s.set (zP s.a z a) none)).Perm L:=by
 have hcN:=h.cN;have hac:=h.ac;have ha:a<s.a:=by omega
 have hz:=h.hz;have ca:∀e,e<s.a->∀v:Option α,dW (s.set (zP s.a z a) v) (zP s.a z e)=if a=e then v else dW s (zP s.a z e):=fun e he v=>UW hz ha he v
 have z0:zP s.a z 0=z:=by rw[Md hz (by omega)];split<;>omega
 refine⟨⟨by simpa using h.hom,⟨z,by simpa using hz,?_,?_⟩,?_⟩,h.PW⟩
 ·have:=ca 0 (by omega) none
  rw[z0]at this;rw[this];split
  ·rfl
  ·exact h.free
 ·intro e y he hy
  simp only[aS]at he hy ⊢;rw[ca e he]at hy;split at hy
  ·cases hy
  ·rename_i hae
   obtain⟨h1,h2⟩:=h.lin e y he (jE hae) hy;refine⟨h1,fun q h3 h4=>?_⟩;rw[ca q (by omega)];have hqa:a≠q:=by
    intro hq;have h5:=(h2 q h3 h4).2 hq.symm;rcases aZ c e with h6|h6
    ·exact(h2 c (by omega) h6).1 (by omega) hc
    ·have:e=c:=by omega
     subst this;rw[hc]at hy;cases hy
   rw[if_neg hqa];exact(h2 q h3 h4).1 (jE hqa)
 ·intro i k y w hi hk hy hw he
  simp only[aS]at hi hk;rw[<-xS hz hi,ca _ (Da hz hi)]at hy;rw[<-xS hz hk,ca _ (Da hz hk)]at hw;split at hy
  ·cases hy
  ·split at hw
   ·cases hw
   ·have:=h.uni _ _ y w (Da hz hi) (Da hz hk) (by omega) (by omega) hy hw he
    rw[<-xS hz hi,<-xS hz hk,this]
theorem ac0{N z c d:Nat}(hz:z<N)(hd:d<=c)(hc:c<N):(zP N z c+N-zP N z d)%N=c-d:=by
 have h1:=C9 (N:=N) (z:=z) (c:=c) (by omega);have h2:=C9 (N:=N) (z:=z) (c:=d) (by omega);rw[xR (by omega)];rw[Md hz hc,Md hz (by omega)]
 repeat' split
 all_goals omega
theorem ai7{N z c y:Nat}(hz:z<N)(hy:y<N)(hd:zQ N z y<=c)(hc:c<N):(zP N z c+N-y)%N=c-zQ N z y:=by
 have:=ac0 hz hd hc
 rwa [xS hz hy]at this
theorem ac1{N z c:Nat}(hz:z<N)(hc:c<N):(zP N z c+1)%N=zP N z (c+1):=by unfold zP;rw[Nat.mod_add_mod,kY]
theorem Tab.new{N:Nat}(hN:0<N)(h:∀k,hm k<N):Tab kf hm (dY N (none:Option α)):=by
 have e:∀i,dW (dY N (none:Option α)) i=none:=by
  intro i;unfold dW;rw[au,List.getElem?_replicate];split<;>rfl
 refine⟨by simpa using h,⟨0,by simpa using hN,e 0,fun c x _ hx=>?_⟩,fun i j x y _ _ hx=>?_⟩<;>(rw[e]at hx;cases hx)
theorem UY(N:Nat):iD (dY N (none:Option α))=[]:=by induction N<;>simp_all[iD,List.replicate_succ]
end
section
variable {α:Type} (lt:α->α->Bool)
def Asc(l:List α):Prop:=l.Pairwise fun x y=>lt x y=true
structure Jp:Prop where
 irr:∀x,lt x x=false
 tr:∀x y z,lt x y=true->lt y z=true->lt x z=true
variable {lt}
theorem Jp.asy(h:Jp lt){x y:α}(h1:lt x y=true):lt y x=false:=by
 cases h2:lt y x with
 | false=>rfl
 | true=>have:=h.tr _ _ _ h1 h2;rw[h.irr]at this;cases this
theorem Asc.eq(h:Jp lt):∀{l m:List α},Asc lt l->Asc lt m->l.Perm m->l=m
 | [],m,_,_,p=>(List.Perm.nil_eq p)
 | x::l,[],_,_,p=>by simp at p
 | x::l,y::m,hl,hm,p=>by
   obtain⟨a1,a2⟩:=gX.1 hl;obtain⟨b1,b2⟩:=gX.1 hm;have hx:x∈y::m:=p.subset (by simp);have hy:y∈x::l:=p.symm.subset (by simp);have e:x=y:=by
    rcases bD.1 hx with hx|hx
    ·exact hx
    ·rcases bD.1 hy with hy|hy
     ·exact hy.symm
     ·have:=h.asy (a1 y hy);rw[b1 x hx]at this;cases this
   subst e;rw[Asc.eq h a2 b2 (List.Perm.cons_inv p)]
def ins(lt:α->α->Bool)(f:α):List α->List α
 | []=>[f]
 | x::l=>if lt f x then f::x::l else x::ins lt f l
theorem Db(f:α):∀l:List α,(ins lt f l).Perm (f::l)
 | []=>.refl _
 | x::l=>by
   unfold ins;split
   ·exact .refl _
   ·exact((Db f l).cons x).trans (.swap f x l)
theorem aho(h:Jp lt){f:α}:∀{l:List α},Asc lt l->(∀x∈l,lt f x=true\/lt x f=true)->Asc lt (ins lt f l)
 | [],_,_=>by simp[ins,Asc]
 | x::l,hl,ht=>by
   obtain⟨a1,a2⟩:=gX.1 hl;unfold ins;split
   ·rename_i hfx
    exact gX.2 ⟨fun y hy=>by
     rcases bD.1 hy with rfl|hy
     ·exact hfx
     ·exact h.tr _ _ _ hfx (a1 y hy),hl⟩
   ·rename_i hfx
    have hxf:lt x f=true:=(ht x (by simp)).resolve_left hfx;refine gX.2 ⟨fun y hy=>?_,aho h a2 fun y hy=>ht y (by simp[hy])⟩;rcases bD.1 ((Db f l).subset hy)with rfl|hy
    ·exact hxf
    ·exact a1 y hy
theorem ac2{f:α}:∀{l:List α},(∀x∈l,lt f x=false)->ins lt f l=l++[f]
 | [],_=>rfl
 | x::l,h=>by
   unfold ins;rw[if_neg (by rw[h x (by simp)];exact Bool.false_ne_true),ac2 fun y hy=>h y (by simp[hy])];rfl
theorem Asc.sub{l m:List α}(h:Asc lt l)(hs:m.Sublist l):Asc lt m:=List.Pairwise.sublist hs h
theorem Asc.apy{x:α}{l:List α}(h:Asc lt (x::l)){y:α}(hy:y∈l):lt x y=true:=(gX.1 h).1 y hy
def least(lt:α->α->Bool)(b:Option α)(x:α):Option α:=match b with|none=>some x|some y=>if lt x y then some x else some y
theorem ac3(h:Jp lt){m:α}:∀(l:List α)(b:Option α),(m∈l\/b=some m)->(∀x∈l,x=m\/lt m x=true)->(∀y,b=some y->y=m\/lt m y=true)->l.foldl (least lt) b=some m
 | [],b,h1,_,_=>by simpa using h1
 | x::l,b,h1,h2,h3=>by
   rw[j4];refine ac3 h l _ ?_ (fun y hy=>h2 y (by simp[hy])) ?_
   ·rcases h1 with h1|rfl
    ·rcases bD.1 h1 with rfl|h1
     ·right
      cases b with
      | none=>rfl
      | some y=>
        unfold least;rcases h3 y rfl with rfl|h4
        ·simp
        ·simp[h4]
     ·exact .b h1
    ·right
     unfold least;rcases h2 x (by simp)with rfl|h4
     ·simp
     ·simp[h.asy h4]
   ·intro y hy
    cases b with
    | none=>injection hy with hy;subst hy;exact h2 x (by simp)
    | some z=>
      simp only[least]at hy;split at hy<;>(injection hy with hy;subst hy)
      ·exact h2 x (by simp)
      ·exact h3 z rfl
end
def Mh(x k:Nat):Nat:=x*2^k%18446744073709551616 ||| x/2^(64-k)
theorem ax2(a b:Nat)(ha:a<18446744073709551616)(hb:b<18446744073709551616):a ||| b<18446744073709551616:=Nat.or_lt_two_pow (n:=64) ha hb
theorem zh(a b:Nat)(ha:a<18446744073709551616)(hb:b<18446744073709551616):a ^^^ b<18446744073709551616:=Nat.xor_lt_two_pow (n:=64) ha hb
theorem apz(x k:Nat)(hx:x<18446744073709551616):Mh x k<18446744073709551616:=ax2 _ _ (fP _ (by decide)) (Nat.lt_of_le_of_lt (Nat.div_le_self _ _) hx)
theorem ac4(n:Nat):jG.wrap (n:Int)=((n%18446744073709551616:Nat):Int):=by
 rw[jZ];omega
theorem ai8(x k:Nat)(hx:x<18446744073709551616):bits .or .c (jG.wrap ((x:Int)*2^k)) ((x:Int)/2^(64-k))=((Mh x k:Nat):Int):=by
 have h1:(x:Int)*2^k=((x*2^k:Nat):Int):=by simp
 have h2:(x:Int)/2^(64-k)=((x/2^(64-k):Nat):Int):=by simp
 rw[h1,h2,ac4,bits_or_u64_nat _ _ (fP _ (by decide)) (Nat.lt_of_le_of_lt (Nat.div_le_self _ _) hx)];rfl
theorem Fv(x k:Nat)(hx:x<18446744073709551616)(hk:k∈[13,16,17,21,32])(W:ak):aR ah 254 #[.b .c x,.b .a k] W fun e W'=>e=.a (.b .c (Mh x k:Nat))/\W=W':=by
 have h:=ai8 x k hx;have H1:bits .and .c (k:Int) 63=(k:Int):=(by decide +kernel:∀k∈([13,16,17,21,32]:List Nat),bits .and .c (k:Int) 63=(k:Int)) k hk;have H2:jG.wrap (64-(k:Int))=((64-k:Nat):Int):=(by decide +kernel:∀k∈([13,16,17,21,32]:List Nat),jG.wrap (64-(k:Int))=((64-k:Nat):Int)) k hk;have hk1:(k:Int)<64:=by simp at hk;omega
 have hk2:0<k:=by simp at hk;omega
 go_enter Tryz.func254,Tryz.ntmps254;go_wp2;go_ret;exact⟨by rw[<-h];rfl,rfl⟩
structure S4 where
 a:Nat
 b:Nat
 c:Nat
 d:Nat
def S4.ay(s:S4):Array aB:=#[.b .c s.a,.b .c s.b,.b .c s.c,.b .c s.d]
@[go_sem]theorem S4.qW(s:S4):s.ay[0]? = some (.b .c s.a):=rfl
@[go_sem]theorem S4.Ij(s:S4):s.ay[1]? = some (.b .c s.b):=rfl
@[go_sem]theorem S4.Ya(s:S4):s.ay[2]? = some (.b .c s.c):=rfl
@[go_sem]theorem S4.ahp(s:S4):s.ay[3]? = some (.b .c s.d):=rfl
def S4.ok(s:S4):Prop:=s.a<18446744073709551616/\s.b<18446744073709551616/\s.c<18446744073709551616/\s.d<18446744073709551616
def addN(a b:Nat):Nat:=(a+b)%18446744073709551616
def La(s:S4):S4:=
 let a:=addN s.a s.b
 let b:=Mh s.b 13 ^^^ a
 let a:=Mh a 32
 let c:=addN s.c s.d
 let d:=Mh s.d 16 ^^^ c
 let a:=addN a d
 let d:=Mh d 21 ^^^ a
 let c:=addN c b
 let b:=Mh b 17 ^^^ c
 ⟨a,b,Mh c 32,d⟩
theorem apA(a b:Nat):addN a b<18446744073709551616:=fP _ (by decide)
theorem GI(a b:Nat):jG.wrap ((a:Int)+(b:Int))=((addN a b:Nat):Int):=by rw[<-Int.natCast_add,ac4];rfl
theorem qo(a b:Nat)(ha:a<18446744073709551616)(hb:b<18446744073709551616):bits .xor .c (a:Int) (b:Int)=((a ^^^ b:Nat):Int):=bits_xor_u64_nat _ _ ha hb
theorem Yn(s:S4)(h:s.ok):∃a1 b1 a2 c1 d1 a3 d2 c2 b2 c3 r13 r16 r21 r17:Nat,La s=⟨a3,b2,c3,d2⟩ /\
 jG.wrap ((s.a:Int)+(s.b:Int))=(a1:Int)/\a1<18446744073709551616/\Mh s.b 13=r13/\bits .xor .c (r13:Int) (a1:Int)=(b1:Int)/\b1<18446744073709551616/\Mh a1 32=a2/\a2<18446744073709551616 /\
 jG.wrap ((s.c:Int)+(s.d:Int))=(c1:Int)/\c1<18446744073709551616/\Mh s.d 16=r16/\bits .xor .c (r16:Int) (c1:Int)=(d1:Int)/\d1<18446744073709551616 /\
 jG.wrap ((a2:Int)+(d1:Int))=(a3:Int)/\a3<18446744073709551616/\Mh d1 21=r21/\bits .xor .c (r21:Int) (a3:Int)=(d2:Int)/\d2<18446744073709551616 /\
 jG.wrap ((c1:Int)+(b1:Int))=(c2:Int)/\c2<18446744073709551616/\Mh b1 17=r17/\bits .xor .c (r17:Int) (c2:Int)=(b2:Int)/\b2<18446744073709551616/\Mh c2 32=c3/\c3<18446744073709551616:=by
 obtain⟨h1,h2,h3,h4⟩:=h;have R:=apz;have A:=apA;have X:=zh;refine⟨_,_,_,_,_,_,_,_,_,_,_,_,_,_,rfl,GI _ _,A _ _,rfl,qo _ _ (R _ _ h2) (A _ _),X _ _ (R _ _ h2) (A _ _),rfl,R _ _ (A _ _),GI _ _,A _ _,rfl,qo _ _ (R _ _ h4) (A _ _),X _ _ (R _ _ h4) (A _ _),GI _ _,A _ _,rfl,
  qo _ _ (R _ _ (X _ _ (R _ _ h4) (A _ _))) (A _ _),X _ _ (R _ _ (X _ _ (R _ _ h4) (A _ _))) (A _ _),GI _ _,A _ _,rfl,qo _ _ (R _ _ (X _ _ (R _ _ h2) (A _ _))) (A _ _),X _ _ (R _ _ (X _ _ (R _ _ h2) (A _ _))) (A _ _),rfl,R _ _ (A _ _)⟩
theorem dP.num{W:ak}{p:Nat}{s:S4}(h:dP W p s.ay):W.b ⟨p,0,none⟩=some (.b .c s.a)/\W.b ⟨p,1,none⟩=some (.b .c s.b)/\W.b ⟨p,2,none⟩=some (.b .c s.c)/\W.b ⟨p,3,none⟩=some (.b .c s.d)/\(∀j,W.frozen? ⟨p,j,none⟩=false):=by
 obtain⟨h1,h2,_⟩:=h.R;exact⟨h1 0,h1 1,h1 2,h1 3,h2⟩
def AO{α:Type}(f:α->α):Nat->α->α
 | 0,s=>s
 | n+1,s=>AO f n (f s)
theorem ahq{α:Type}(f:α->α)(n:Nat)(s:α):AO f (n+1) s=AO f n (f s):=rfl
theorem ahr{α:Type}(f:α->α)(s:α):AO f 0 s=s:=rfl
theorem ahs(s:S4)(h:s.ok):(La s).ok:=by
 obtain⟨a1,b1,a2,c1,d1,a3,d2,c2,b2,c3,r13,r16,r21,r17,h0,e1,l1,e2,e3,l3,e4,l4,e5,l5,e6,e7,l7,e8,l8,e9,e10,l10,e11,l11,e12,e13,l13,e14,l14⟩:=Yn s h;rw[h0];exact⟨l8,l13,l14,l10⟩
theorem aht(w:ak)(row:Option Nat):w.d w row:=⟨rfl,rfl,rfl,av _,fun _ _ _=>rfl⟩
theorem dP.p0{W:ak}{p a b c d:Nat}(h:dP W p (S4.mk a b c d).ay)(x:Nat):dP (W.I ⟨p,0,none⟩ (.b .c x)) p (S4.mk x b c d).ay:=h.fC 0 _
theorem dP.p1{W:ak}{p a b c d:Nat}(h:dP W p (S4.mk a b c d).ay)(x:Nat):dP (W.I ⟨p,1,none⟩ (.b .c x)) p (S4.mk a x c d).ay:=h.fC 1 _
theorem dP.p2{W:ak}{p a b c d:Nat}(h:dP W p (S4.mk a b c d).ay)(x:Nat):dP (W.I ⟨p,2,none⟩ (.b .c x)) p (S4.mk a b x d).ay:=h.fC 2 _
theorem dP.p3{W:ak}{p a b c d:Nat}(h:dP W p (S4.mk a b c d).ay)(x:Nat):dP (W.I ⟨p,3,none⟩ (.b .c x)) p (S4.mk a b c x).ay:=h.fC 3 _
theorem afk(n:Nat)(hn:n<=4)(p:Nat)(s:S4)(hs:s.ok)(W:ak)(hb:dP W p s.ay):aR ah 183 #[.c (some ⟨p,0,none⟩),.b .a n] W fun e W'=>e=.a (.K #[])/\dP W' p (AO La n s).ay/\W.d W' (some p):=by
 have HB:=ab hb;clear hb;go_enter Tryz.func183,Tryz.ntmps183;go_wp2;go_loopw [5] (fun s5 wr=>∃(k:Nat)(x:S4),k<=n/\s5=.b .a k/\x.ok/\dP wr p x.ay/\W.d wr (some p)/\AO La n s=AO La (n-k) x) (fun s5 _=>n-(intOf s5).e)
 case atStart=>exact⟨0,s,by omega,rfl,hs,HB.i,aht _ _,by rw[Nat.sub_zero]⟩
 case round=>
  obtain⟨k,x,hk,rfl,hx,hbx,hg,Bo⟩:=hrel;have HI:=ab Bo;have HG:=ab hg;have HX:=ab hbx;clear hg Bo hbx;by_cases hlt:k<n
  ·obtain⟨a1,b1,a2,c1,d1,a3,d2,c2,b2,c3,r13,r16,r21,r17,h0,e1,l1,e2,e3,l3,e4,l4,e5,l5,e6,e7,l7,e8,l8,e9,e10,l10,e11,l11,e12,e13,l13,e14,l14⟩:=Yn x hx
   have HE:=ab (show AO La n s=AO La (n-(k+1)) (La x)by rw[HI.i,show n-k=n-(k+1)+1 by omega,ahq]);rw[h0]at HE;have OK:=ab (show(S4.mk a3 b2 c3 d2).ok by rw[<-h0];exact ahs x hx);obtain⟨a,b,c,d⟩:=x;obtain⟨y1,y2,y3,y4,y5⟩:=HX.i.num;obtain⟨k1,k2,k3,k4⟩:=hx;simp only at e1 e2 e3 e4 e5 e6 e7 e8 e9 e10 e11 e12 e13 e14 y1 y2 y3 y4 k1 k2 k3 k4;have hlt2:(k:Int)<n:=by omega
   clear h0 HI;go_wp2_with fail;go_region;have X0:=ab ((HX.i.p0 a1).drew);have G0:=ab (Cb (yX HG.i (p:=⟨p,0,none⟩) (.b rfl) (.b .c (a1:Nat))));generalize(wr.I ⟨p,0,none⟩ (.b .c (a1:Nat))).drew=w0 at X0 G0 ⊢;clear y1 y2 y3 y4 y5 HX HG;obtain⟨y1,y2,y3,y4,y5⟩:=X0.i.num;simp only at y1 y2 y3 y4;have C:=ab (fun W=>e2 ▸ Fv b 13 k2 (by simp) W);go_wp2_with fail;go_cut []from 18 to 30 (fun wx=>dP wx p (S4.mk a1 b1 c d).ay/\W.d wx (some p))
   case first=>
    go_region_law (first|(go_simp;(go_at_call 254;refine(C.i _).g ?_;rintro e w' ⟨rfl,rfl⟩)))
    all_goals
     go_wp2_with fail;go_meet
     case rel=>exact⟨(X0.i.p1 b1).drew,Cb (yX G0.i (p:=⟨p,1,none⟩) (.b rfl) (.b .c (b1:Nat)))⟩
   obtain⟨X1,G1⟩:=hcut;have X1:=ab X1;have G1:=ab G1;generalize wc=w1 at X1 G1 ⊢;clear y1 y2 y3 y4 y5 X0 G0;obtain⟨y1,y2,y3,y4,y5⟩:=X1.i.num;simp only at y1 y2 y3 y4;have C:=ab (fun W=>e4 ▸ Fv a1 32 l1 (by simp) W);go_wp2_with (go_at_call 254;refine(C.i _).g ?_;rintro e w' ⟨rfl,rfl⟩);have X2:=ab ((X1.i.p0 a2));have G2:=ab ((yX G1.i (p:=⟨p,0,none⟩) (.b rfl) (.b .c (a2:Nat))));generalize(w1.I ⟨p,0,none⟩ (.b .c (a2:Nat)))=w2 at X2 G2 ⊢;clear y1 y2 y3 y4 y5 X1 G1;obtain⟨y1,y2,y3,y4,y5⟩:=X2.i.num;simp only at y1 y2 y3 y4;go_wp2_with fail;go_region;have X3:=ab ((X2.i.p2 c1).drew);have G3:=ab (Cb (yX G2.i (p:=⟨p,2,none⟩) (.b rfl) (.b .c (c1:Nat))));generalize(w2.I ⟨p,2,none⟩ (.b .c (c1:Nat))).drew=w3 at X3 G3 ⊢;clear y1 y2 y3 y4 y5 X2 G2;obtain⟨y1,y2,y3,y4,y5⟩:=X3.i.num;simp only at y1 y2 y3 y4;have C:=ab (fun W=>e6 ▸ Fv d 16 k4 (by simp) W);go_wp2_with fail;go_cut []from 50 to 62 (fun wx=>dP wx p (S4.mk a2 b1 c1 d1).ay/\W.d wx (some p))
   case first=>
    go_region_law (first|(go_simp;(go_at_call 254;refine(C.i _).g ?_;rintro e w' ⟨rfl,rfl⟩)))
    all_goals
     go_wp2_with fail;go_meet
     case rel=>exact⟨(X3.i.p3 d1).drew,Cb (yX G3.i (p:=⟨p,3,none⟩) (.b rfl) (.b .c (d1:Nat)))⟩
   obtain⟨X4,G4⟩:=hcut;have X4:=ab X4;have G4:=ab G4;generalize wc=w4 at X4 G4 ⊢;clear y1 y2 y3 y4 y5 X3 G3;obtain⟨y1,y2,y3,y4,y5⟩:=X4.i.num;simp only at y1 y2 y3 y4;go_wp2_with fail;go_region;have X5:=ab ((X4.i.p0 a3).drew);have G5:=ab (Cb (yX G4.i (p:=⟨p,0,none⟩) (.b rfl) (.b .c (a3:Nat))));generalize(w4.I ⟨p,0,none⟩ (.b .c (a3:Nat))).drew=w5 at X5 G5 ⊢;clear y1 y2 y3 y4 y5 X4 G4;obtain⟨y1,y2,y3,y4,y5⟩:=X5.i.num;simp only at y1 y2 y3 y4;have C:=ab (fun W=>e9 ▸ Fv d1 21 l7 (by simp) W);go_wp2_with fail;go_cut []from 74 to 86 (fun wx=>dP wx p (S4.mk a3 b1 c1 d2).ay/\W.d wx (some p))
   case first=>
    go_region_law (first|(go_simp;(go_at_call 254;refine(C.i _).g ?_;rintro e w' ⟨rfl,rfl⟩)))
    all_goals
     go_wp2_with fail;go_meet
     case rel=>exact⟨(X5.i.p3 d2).drew,Cb (yX G5.i (p:=⟨p,3,none⟩) (.b rfl) (.b .c (d2:Nat)))⟩
   obtain⟨X6,G6⟩:=hcut;have X6:=ab X6;have G6:=ab G6;generalize wc=w6 at X6 G6 ⊢;clear y1 y2 y3 y4 y5 X5 G5;obtain⟨y1,y2,y3,y4,y5⟩:=X6.i.num;simp only at y1 y2 y3 y4;go_wp2_with fail;go_region;have X7:=ab ((X6.i.p2 c2).drew);have G7:=ab (Cb (yX G6.i (p:=⟨p,2,none⟩) (.b rfl) (.b .c (c2:Nat))));generalize(w6.I ⟨p,2,none⟩ (.b .c (c2:Nat))).drew=w7 at X7 G7 ⊢;clear y1 y2 y3 y4 y5 X6 G6;obtain⟨y1,y2,y3,y4,y5⟩:=X7.i.num;simp only at y1 y2 y3 y4;have C:=ab (fun W=>e12 ▸ Fv b1 17 l3 (by simp) W);go_wp2_with fail;go_cut []from 98 to 110 (fun wx=>dP wx p (S4.mk a3 b2 c2 d2).ay/\W.d wx (some p))
   case first=>
    go_region_law (first|(go_simp;(go_at_call 254;refine(C.i _).g ?_;rintro e w' ⟨rfl,rfl⟩)))
    all_goals
     go_wp2_with fail;go_meet
     case rel=>exact⟨(X7.i.p1 b2).drew,Cb (yX G7.i (p:=⟨p,1,none⟩) (.b rfl) (.b .c (b2:Nat)))⟩
   obtain⟨X8,G8⟩:=hcut;have X8:=ab X8;have G8:=ab G8;generalize wc=w8 at X8 G8 ⊢;clear y1 y2 y3 y4 y5 X7 G7;obtain⟨y1,y2,y3,y4,y5⟩:=X8.i.num;simp only at y1 y2 y3 y4;have C:=ab (fun W=>e14 ▸ Fv c2 32 l11 (by simp) W);go_wp2_with (go_at_call 254;refine(C.i _).g ?_;rintro e w' ⟨rfl,rfl⟩);have X9:=ab ((X8.i.p2 c3));have G9:=ab ((yX G8.i (p:=⟨p,2,none⟩) (.b rfl) (.b .c (c3:Nat))));generalize(w8.I ⟨p,2,none⟩ (.b .c (c3:Nat)))=w9 at X9 G9 ⊢;clear y1 y2 y3 y4 y5 X8 G8;go_wp2;go_roundw
   case rel=>exact⟨k+1,_,by omega,by go_num,OK.i,X9.i,G9.i,HE.i⟩
   case measure=>simp[intOf]<;>omega
  ·have hlt2:¬(k:Int)<n:=by omega
   obtain rfl:k=n:=by omega
   have HI:=ab (show AO La k s=x by rw[HI.i,Nat.sub_self,ahr]);go_wp2;go_end0;exact⟨rfl,by rw[HI.i];exact HX.i,HG.i⟩
def leN(l:List UInt8):Nat:=o9 l.reverse
theorem afl(l:List UInt8):leN l<256^l.a:=by have:=Kk l.reverse;rwa [List.length_reverse]at this
theorem Ku(l:List UInt8)(h:l.a<=8):leN l<18446744073709551616:=fE (afl l) (ou (by decide) h:256^l.a<=256^8)
def PX:Nat->List UInt8->Nat->List Nat
 | 0,l,e=>[leN l+e*72057594037927936]
 | k+1,l,e=>leN (l.E 8)::PX k (l.G 8) e
def atK(s:S4)(n:Nat):S4:=⟨s.a ^^^ n,s.b,s.c,s.d⟩
def alU(s:S4)(n:Nat):S4:=⟨s.a,s.b,s.c,s.d ^^^ n⟩
def alV(s:S4)(n:Nat):S4:=⟨s.a,s.b,s.c ^^^ n,s.d⟩
def atL(s:S4):Nat:=s.a ^^^ s.b ^^^ s.c ^^^ s.d
def UZ(s:S4)(n:Nat):S4:=atK (AO La 2 (alU s n)) n
def apB(k:Vector UInt8 16):S4:=⟨leN (k.a.E 8) ^^^ 8317987319222330741,leN (k.a.G 8) ^^^ 7237128888997146477,leN (k.a.E 8) ^^^ 7816392313619706465,leN (k.a.G 8) ^^^ 8387220255154660723⟩
def alW(s:S4):Nat:=atL (AO La 4 (alV s 255))
def zi(k:Vector UInt8 16)(l:List UInt8):Nat:=alW ((PX (l.a/8) l (l.a%256)).foldl UZ (apB k))
theorem Nn(n:Nat):∀s:S4,s.ok->(AO La n s).ok:=by
 induction n with
 | zero=>intro s h;rw[ahr];exact h
 | succ n ih=>intro s h;rw[ahq];exact ih _ (ahs s h)
theorem apC{s:S4}(h:s.ok){n:Nat}(hn:n<18446744073709551616):(atK s n).ok:=⟨zh _ _ h.1 hn,h.2.1,h.2.2.1,h.2.2.2⟩
theorem ahu{s:S4}(h:s.ok){n:Nat}(hn:n<18446744073709551616):(alU s n).ok:=⟨h.1,h.2.1,h.2.2.1,zh _ _ h.2.2.2 hn⟩
theorem aaw{s:S4}(h:s.ok){n:Nat}(hn:n<18446744073709551616):(alV s n).ok:=⟨h.1,h.2.1,zh _ _ h.2.2.1 hn,h.2.2.2⟩
theorem apD{s:S4}(h:s.ok):atL s<18446744073709551616:=zh _ _ (zh _ _ (zh _ _ h.1 h.2.1) h.2.2.1) h.2.2.2
theorem aax{s:S4}(h:s.ok){n:Nat}(hn:n<18446744073709551616):(UZ s n).ok:=apC (Nn 2 _ (ahu h hn)) hn
theorem ahv(k:Vector UInt8 16):(apB k).ok:=by
 have h1:=Ku (k.a.E 8) (by simp);have h2:=Ku (k.a.G 8) (by simp);exact⟨zh _ _ h1 (by decide),zh _ _ h2 (by decide),zh _ _ h1 (by decide),zh _ _ h2 (by decide)⟩
theorem Yo:∀(k:Nat)(l:List UInt8)(e:Nat),l.a/8=k->e<256->∀n∈PX k l e,n<18446744073709551616
 | 0,l,e,h,he,n,hn=>by
   have h1:=afl l;have h2:256^l.a<=256^7:=ou (by decide) (by omega);simp only[PX,List.mem_singleton]at hn;omega
 | k+1,l,e,h,he,n,hn=>by
   rcases bD.1 hn with rfl|hn
   ·exact Ku _ (by simp;omega)
   ·exact Yo k (l.G 8) e (by simp;omega) he n hn
def aay(w:ak)(B:Nat)(A:Option aV)(n:Nat)(ls:List (List UInt8)):Prop:=Rd w B 1 A n (ls.map fun s=>.g (bK s))
theorem aay.len{w:ak}{B n:Nat}{A:Option aV}{ls:List (List UInt8)}(h:aay w B A n ls):ls.a=n:=by have:=h.1;simpa using this
theorem aay.dW{w:ak}{B n:Nat}{A:Option aV}{ls:List (List UInt8)}(h:aay w B A n ls){k:Nat}(hk:k<n):∃a,A=some a/\a.block<B/\w.b (a.add k)=some (.g (bK (ls.b k []))):=by
 obtain⟨a,u,e,hb,hu,hc⟩:=Rd.pick h hk;refine⟨a,e,hb,?_⟩;rw[hc];have hl:=h.len;rw[jM,aC (by omega)]at hu;simp only[nS,uN]at hu;rw[<-hu,au,aC (by omega)];rfl
def yG(ls:List (List UInt8))(s:List UInt8):Bool:=(eu ls.a).any fun i=>ls.b i []==s
theorem alX{ls:List (List UInt8)}{s:List UInt8}{i:Nat}(hi:i<ls.a)(h:ls.b i []=s):yG ls s=true:=by
 unfold yG;rw[List.any_eq_true];exact⟨i,fq.2 hi,by rw[h];simp⟩
theorem alY{ls:List (List UInt8)}{s:List UInt8}(h:∀i,i<ls.a->ls.b i []≠s):yG ls s=false:=by
 unfold yG;rw[List.any_eq_false];intro i hi;simpa using h i (fq.1 hi)
theorem afm(ls:List (List UInt8))(s:List UInt8)(A:Option aV)(c:Nat)(w:ak)(hR:aay w w.a.j A ls.a ls)(hn:ls.a<4611686018427387904):
 aR ah 172 #[.a A ls.a c,.g (bK s)] w fun e w'=>∃r:Int,e=.a (.b .a r)/\decide (0<=r)=yG ls s/\w=w':=by
 have HR:=ab hR;clear hR;obtain⟨n,hnl⟩:=cB ls.a;rw[<-hnl]at HR hn ⊢;have HN:=ab hnl;clear hnl;go_enter Tryz.func172,Tryz.ntmps172;go_wp2;go_loop [8] (fun s8=>∃i:Nat,i<=n/\s8=.b .a i/\∀k,k<i->ls.b k []≠s) (fun s8=>n-(intOf s8).e)
 case atStart=>exact⟨0,by omega,rfl,fun k hk=>by omega⟩
 case round=>
  obtain⟨i,hin,rfl,hno⟩:=hrel;have Ez:=ab hno;clear hno;by_cases hlt:i<n
  ·have hi:(i:Int)<n:=by omega
   obtain⟨a,rfl,hbb,hc⟩:=HR.i.dW hlt;clear hbb;obtain⟨pn,hp⟩:=cB (ls.b i []);rw[<-hp]at hc;have HP:=ab hp;clear hp;by_cases hq:pn=s
   ·have hbq:(s==pn)=true:=by rw[hq];simp
    have hpos:yG ls s=true:=alX (i:=i) (by have:=HN.i;omega) (by rw[<-HP.i,hq]);have Mi:=ab hpos;clear hpos hq;go_wp2;go_ret;exact⟨_,rfl,by rw[Mi.i];simp,rfl⟩
   ·have hbq:(s==pn)=false:=by simpa using(fun h:s=pn=>hq h.symm)
    have HQ:=ab hq;clear hq;go_wp2;go_round
    case rel=>exact⟨i+1,by omega,by go_num,fun k hk=>by
     by_cases hki:k=i
     ·rw[hki,<-HP.i];exact HQ.i
     ·exact Ez.i k (by omega)⟩
    case measure=>simp[intOf]<;>omega
  ·obtain rfl:i=n:=by omega
   have hpos:yG ls s=false:=alY (fun k hk=>Ez.i k (by have:=HN.i;omega));have Mi:=ab hpos;clear hpos;have hd:decide ((i:Int)<i)=false:=by simp
   go_wp2;go_ret;exact⟨_,rfl,by rw[Mi.i];simp,rfl⟩
theorem Np(ls:List (List UInt8))(s:List UInt8)(A:Option aV)(c:Nat)(w:ak)(hR:aay w w.a.j A ls.a ls)(hn:ls.a<4611686018427387904):
 aR ah 87 #[.a A ls.a c,.g (bK s)] w fun e w'=>e=.a (.e (yG ls s))/\w=w':=by
 have HR:=ab hR;clear hR;go_enter Tryz.func87,Tryz.ntmps87;go_wp2_with (go_at_call 172;refine(afm ls s A c _ HR.i hn).g ?_;rintro e w' ⟨r,rfl,hr,rfl⟩;have HD:=ab hr;clear hr);go_ret;exact⟨by rw[<-HD.i];rfl,rfl⟩
def sO(a b:Nat):Nat:=if a+b>65535 then a+b-65535 else a+b
theorem GJ{a b:Nat}(h:a<=65535)(g:b<=65535):sO a b<=65535:=by unfold sO;split<;>omega
def words:List UInt8->List Nat
 | []=>[]
 | [a]=>[256*a.e]
 | a::b::l=>(256*a.e+b.e)::words l
def AQ(n:Nat)(l:List UInt8):Nat:=(words l).foldl sO n
def uo(l:List UInt8):Nat:=65535-AQ 0 l
def inS(s:Nat×Bool)(c:UInt8):Nat×Bool:=(sO s.1 (if s.2 then c.e else 256*c.e),!s.2)
theorem alZ(n a b:Nat)(hn:n<=65535)(ha:a<256)(hb:b<256):sO (sO n (256*a)) b=sO n (256*a+b):=by
 unfold sO;repeat' split
 all_goals omega
theorem Yp:∀(l:List UInt8)(n:Nat),n<=65535->l.foldl inS (n,false)=(AQ n l,decide (l.a%2=1))
 | [],n,_=>rfl
 | [a],n,h=>by simp[inS,AQ,words]
 | a::b::l,n,h=>by
   have ha:=a.a;have hb:=b.a;have:=Yp l (sO n (256*a.e+b.e)) (GJ h (by omega));simp only[j4,inS,if_neg Bool.false_ne_true,Bool.not_false,if_pos,vJ,if_true,bl,alZ n _ _ h ha hb,this,Prod.mk.injEq];refine⟨by simp[AQ,words],by congr 1;rw[eq_iff_iff];omega⟩
theorem Nq:∀(l:List UInt8)(n:Nat),n<=65535->AQ n l<=65535
 | [],n,h=>h
 | [a],n,h=>by have:=a.a;exact GJ h (by omega)
 | a::b::l,n,h=>by
   have ha:=a.a;have hb:=b.a;exact Nq l (sO n (256*a.e+b.e)) (GJ h (by omega))
theorem atM(l:List UInt8):∀s:Nat×Bool,s.1<=65535->(l.foldl inS s).1<=65535:=by
 induction l with
 | nil=>exact fun s h=>h
 | cons c l ih=>
   intro s h;have:=c.a;exact ih _ (GJ h (by split<;>omega))
def zk(c m n:Nat):Nat:=65535-sO (sO (65535-c) (65535-m)) n
def kT:Nat->List UInt8->List UInt8->Nat
 | c,a::b::l,x::y::m=>kT (zk c (256*a.e+b.e) (256*x.e+y.e)) l m
 | c,_,_=>c
theorem Mj(c m n:Nat):zk c m n<=65535:=by unfold zk;omega
theorem ax3(x:Nat)(hx:x<4294967296):bits .and .u32 (x:Int) 65535=((x%65536:Nat):Int):=by
 have h1:(gI 32 (x:Int)).e=x:=by
  rw[mI,nW];exact gy (by omega)
 show IntKind.u32.wrap ((gI 32 (x:Int) &&& gI 32 65535).e:Int)=_;rw[BitVec.toNat_and,h1,show(gI 32 65535).e=2^16-1 by decide,Nat.and_two_pow_sub_one_eq_mod];simp[wP,oH,mH];omega
theorem ahx(x:Nat)(hx:x<=65535):bits .xor .u16 El.max (x:Int)=((65535-x:Nat):Int):=by
 have h1:gI 16 (x:Int)=Iw 16 x:=mI _ _;show El.wrap ((gI 16 65535 ^^^ gI 16 (x:Int)).e:Int)=_;rw[h1,show gI 16 65535=BitVec.allOnes 16 by decide,BitVec.allOnes_xor,BitVec.toNat_not,nW,gy (by omega)];simp[wP,oH,mH];omega
theorem ax4(a c:Nat)(ha:a<256)(hc:c<256):bits .or .u16 (256*(a:Int)) (c:Int)=((256*a+c:Nat):Int):=by
 have h1:gI 16 (256*(a:Int))=Iw 16 (256*a):=by rw[show(256*(a:Int))=((256*a:Nat):Int)by omega];exact mI _ _
 have h2:gI 16 (c:Int)=Iw 16 c:=mI _ _;show El.wrap ((gI 16 (256*(a:Int)) ||| gI 16 (c:Int)).e:Int)=_;rw[h1,h2,BitVec.toNat_or,nW,nW,gy (by omega),gy (by omega),show 256*a=a <<< 8 by rw[nC];omega,<-Nat.shiftLeft_add_eq_or_of_lt (by omega)];rw[nC];simp[wP,oH,mH];omega
section
variable (a b c m n:Nat) (W:ak)
theorem Nr(ha:a<=65535)(hb:b<=65535):aR ah 369 #[.b .u32 a,.b .u32 b] W fun e W'=>e=.a (.b .u32 (sO a b:Nat))/\W=W':=by
 have h:=ax3 (a+b) (by omega);rw[Int.natCast_add]at h;have H:=ab (show((a:Int)+(b:Int))%65536+((a:Int)+(b:Int))/65536=(sO a b:Nat)by unfold sO;split<;>omega);go_enter Tryz.func369,Tryz.ntmps369;go_wp2;go_ret;exact⟨by rw[<-H.i];rfl,rfl⟩
theorem ac5(ha:a<=65535)(hb:b<=65535):aR ah 258 #[.b .a a,.b .a b] W fun e W'=>e=.a (.b .a (sO a b:Nat))/\W=W':=by
 go_enter Tryz.func258,Tryz.ntmps258;go_wp2
 all_goals(go_ret;refine⟨?_,rfl⟩;simp_all[sO]<;>(repeat' split)<;>omega)
theorem afn(hc:c<=65535)(hm:m<=65535)(hn:n<=65535):aR ah 352 #[.b .u16 c,.b .u16 m,.b .u16 n] W fun e W'=>e=.a (.b .u16 (zk c m n:Nat))/\W=W':=by
 have h1:=ahx c hc;have h2:=ahx m hm;have l1:=GJ (show 65535-c<=65535 by omega) (show 65535-m<=65535 by omega);have l2:=GJ l1 hn;have h3:=ahx _ l2;have C1:=ab (fun W=>Nr (65535-c) (65535-m) W (by omega) (by omega));have C2:=ab (fun W=>Nr (sO (65535-c) (65535-m)) n W l1 hn);have H:=ab (show zk c m n=65535-sO (sO (65535-c) (65535-m)) n from rfl);generalize sO (sO (65535-c) (65535-m)) n=z at *;generalize sO (65535-c) (65535-m)=y at *;have hz:El.wrap (z:Int)=z:=by simp[wP,oH,mH];omega
 have q1:((65535-c:Nat):Int)%4294967296=((65535-c:Nat):Int):=by omega
 have q2:((65535-m:Nat):Int)%4294967296=((65535-m:Nat):Int):=by omega
 have q3:(n:Int)%4294967296=n:=by omega
 generalize 65535-c=cc at *;generalize 65535-m=mm at *;go_enter Tryz.func352,Tryz.ntmps352;go_wp2_with (first|(go_at_call 369;with_reducible refine(C1.i _).g ?_;rintro e w' ⟨rfl,rfl⟩)|(go_at_call 369;with_reducible refine(C2.i _).g ?_;rintro e w' ⟨rfl,rfl⟩))
 all_goals(go_ret;exact⟨by rw[H.i];rfl,rfl⟩)
end
section
variable (W:ak) (A:Option aV) (n c B:Nat) (l:List UInt8)
theorem ac6(i:Nat)(hi:i<9223372036854775807)(hr:gG W B A n l):aR ah 353 #[.a A n c,.b .a i] W fun e W'=>e=.a (.b .u16 ((l.b i 0).e:Nat))/\W=W':=by
 by_cases hin:i<n
 ·obtain⟨a,rfl,hab,hcell⟩:=hr.dW hin
  have h1:(i:Int)<n:=by omega
  have h2:=(l.b i 0).a;have h3:((l.b i 0).e:Int)%65536=(l.b i 0).e:=by omega
  unfold bv at hcell;generalize(l.b i 0).e=x at *;clear hr;go_enter Tryz.func353,Tryz.ntmps353;go_wp2;go_ret;exact⟨rfl,rfl⟩
 ·have h1:¬(i:Int)<n:=by omega
  have h2:l.b i 0=0:=by rw[au,aT (by have:=hr.len;omega)];rfl
  rw[h2];clear hr h2;go_enter Tryz.func353,Tryz.ntmps353;go_wp2;go_ret;exact⟨rfl,rfl⟩
end
theorem U0(l:List UInt8)(k:Nat)(h:k+1<l.a):l.G k=l.b k 0::l.b (k+1) 0::l.G (k+2):=by
 rw[lG (show k<l.a by omega),lG h,au,au,aC (show k<l.a by omega),aC h];rfl
theorem aaz(c:Nat)(m:List UInt8):kT c [] m=c:=by cases m<;>rfl
theorem Jq(W:ak)(A D:Option aV)(n ca cd B E c:Nat)(l m:List UInt8)(hc:c<=65535)(hn:n%2=0)(hnn:n<=1000000)(hr:gG W B A n l)(ht:gG W E D n m):
 aR ah 311 #[.b .u16 c,.a A n ca,.a D n cd] W fun e W'=>e=.a (.b .u16 (kT c l m:Nat))/\W=W':=by
 have CA:=ab (fun i hi=>ac6 W A n ca B l i hi hr);have CD:=ab (fun i hi=>ac6 W D n cd E m i hi ht);have hl:=ab hr.len;have hm:=ab ht.len;clear hr ht;go_enter Tryz.func311,Tryz.ntmps311;go_wp2;go_loop [0,7] (fun s0 s7=>∃(k x:Nat),k<=n/\k%2=0/\x<=65535/\s0=.b .u16 x/\s7=.b .a k/\kT c l m=kT x (l.G k) (m.G k)) (fun _ s7=>n-(intOf s7).e)
 case atStart=>exact⟨0,c,by omega,rfl,hc,rfl,rfl,rfl⟩
 case round=>
  obtain⟨k,x,hk,hk2,hx,rfl,rfl,heq⟩:=hrel;have HE:=ab heq;clear heq;by_cases hlt:k<n
  ·have hlt2:(k:Int)<n:=by omega
   have A0:=ab (CA.i k (by omega));have A1:=ab (CA.i (k+1) (by omega));have D0:=ab (CD.i k (by omega));have D1:=ab (CD.i (k+1) (by omega));rw[show((k+1:Nat):Int)=(k:Int)+1 from rfl]at A1 D1;have HE:=ab (by rw[HE.i,U0 l k (by rw[hl.i];omega),U0 m k (by rw[hm.i];omega),kT]:kT c l m=kT (zk x (256*(l.b k 0).e+(l.b (k+1) 0).e) (256*(m.b k 0).e+(m.b (k+1) 0).e)) (l.G (k+2)) (m.G (k+2)));have b1:=(l.b k 0).a;have b2:=(l.b (k+1) 0).a;have b3:=(m.b k 0).a;have b4:=(m.b (k+1) 0).a;generalize(l.b k 0).e=y1 at *;generalize(l.b (k+1) 0).e=y2 at *;generalize(m.b k 0).e=y3 at *;generalize(m.b (k+1) 0).e=y4 at *;have o1:=ax4 y1 y2 b1 b2;have o2:=ax4 y3 y4 b3 b4;rw[Int.mul_comm]at o1 o2;have CH:=ab (afn x (256*y1+y2) (256*y3+y4) W hx (by omega) (by omega));have LE:=ab (Mj x (256*y1+y2) (256*y3+y4));generalize zk x (256*y1+y2) (256*y3+y4)=z at *;generalize 256*y1+y2=w1 at *;generalize 256*y3+y4=w2 at *;clear CA CD;go_wp2_with (first|(go_at_call 353;with_reducible refine A0.i.g ?_;rintro e w' ⟨rfl,rfl⟩)|(go_at_call 353;with_reducible refine A1.i.g ?_;rintro e w' ⟨rfl,rfl⟩)|(go_at_call 353;with_reducible refine D0.i.g ?_;rintro e w' ⟨rfl,rfl⟩)|(go_at_call 353;with_reducible refine D1.i.g ?_;rintro e w' ⟨rfl,rfl⟩)|(go_at_call 352;with_reducible refine CH.i.g ?_;rintro e w' ⟨rfl,rfl⟩));go_round
   case rel=>exact⟨k+2,z,by omega,by omega,LE.i,rfl,by go_num,HE.i⟩
   case measure=>simp[intOf]<;>omega
  ·have hlt2:¬(k:Int)<n:=by omega
   have HE:=ab (by rw[HE.i,jg (by rw[hl.i];omega),aaz]:kT c l m=x);clear CA CD;go_wp2;go_ret;exact⟨by rw[HE.i];rfl,rfl⟩
theorem ac7(x:Bool)(w:ak):(Op.unary .not (.e x)).O ah w=.ok (.e (!x)) w:=rfl
theorem ai9(W:ak)(b:Nat)(A:Option aV)(n c B:Nat)(l:List UInt8)(hnn:n<=1000000000)(hp:W.b ⟨b,0,none⟩=some (.a A n c))(hr:gG W B A n l):
 aR ah 350 #[.a (some ⟨b,0,none⟩) 1 1] W fun e W'=>e=.a (.b .u32 (AQ 0 l:Nat))/\W=W':=by
 have HR:=ab hr;have HN:=ac7;clear hr;go_enter Tryz.func350,Tryz.ntmps350;go_wp2;go_loop [3,4,12] (fun s3 s4 s12=>(s3=.b .u32 0/\s4=.e false/\s12=.b .a 0)\/(∃o,s3=.b .u32 (AQ 0 l:Nat)/\s4=.e o/\s12=.b .a 1)) (fun _ _ s12=>1-(intOf s12).e)
 case atStart=>exact .b ⟨rfl,rfl,rfl⟩
 case round=>
  rcases hrel with⟨rfl,rfl,rfl⟩|⟨o,rfl,rfl,rfl⟩
  ·go_wp2
   go_loop [3,4,18] (fun s3 s4 s18=>∃k:Nat,k<=n/\s18=.b .a k/\s3=.b .u32 ((l.E k).foldl inS (0,false)).1/\s4=.e ((l.E k).foldl inS (0,false)).2) (fun _ _ s18=>n-(intOf s18).e)
   case atStart=>exact⟨0,by omega,rfl,rfl,rfl⟩
   case round=>
    obtain⟨k,hk,rfl,rfl,rfl⟩:=hrel;have hlen:=ab HR.i.len;by_cases hlt:k<n
    ·have hlt2:(k:Int)<n:=by omega
     obtain⟨a,rfl,hab,hcell⟩:=HR.i.dW hlt;have HS:=ab (show(l.E (k+1)).foldl inS (0,false)=inS ((l.E k).foldl inS (0,false)) (l.b k 0)by
      rw[dU (by rw[hlen.i];exact hlt),List.foldl_append,au,aC (by rw[hlen.i];exact hlt)];rfl)
     have hle:=atM (l.E k) (0,false) (by decide);have hx:=(l.b k 0).a;generalize(l.E k).foldl inS (0,false)=st at *;obtain⟨s,o⟩:=st;have HS:=ab (show(l.E (k+1)).foldl inS (0,false)=(sO s (if o then(l.b k 0).e else 256*(l.b k 0).e),!o)from HS.i);unfold bv at hcell;simp only at hle ⊢;generalize(l.b k 0).e=x at *;have C1:=ab (fun W=>Nr s x W hle (by omega));have C2:=ab (fun W=>show aR ah 369 #[.b .u32 s,.b .u32 ((x:Int)*256)] W fun e W'=>e=.a (.b .u32 (sO s (256*x):Nat))/\W=W' by rw[show(x:Int)*256=((256*x:Nat):Int)by omega];exact Nr s (256*x) W hle (by omega));have e1:(x:Int)%4294967296=x:=by omega
     cases o
     ·have HS:=ab (show(l.E (k+1)).foldl inS (0,false)=(sO s (256*x),true)from HS.i)
      go_wp2_with (first|(go_at_call 369;with_reducible refine(C2.i _).g ?_;rintro e w' ⟨rfl,rfl⟩));go_round
      case rel=>exact⟨k+1,by omega,by go_num,by rw[HS.i],by rw[HS.i]⟩
      case measure=>simp[intOf]<;>omega
     ·have HS:=ab (show(l.E (k+1)).foldl inS (0,false)=(sO s x,false)from HS.i)
      go_wp2_with (first|(go_at_call 369;with_reducible refine(C1.i _).g ?_;rintro e w' ⟨rfl,rfl⟩));go_round
      case rel=>exact⟨k+1,by omega,by go_num,by rw[HS.i];rfl,by rw[HS.i];rfl⟩
      case measure=>simp[intOf]<;>omega
    ·have hlt2:¬(k:Int)<n:=by omega
     have HS:=ab (show((l.E k).foldl inS (0,false)).1=AQ 0 l by rw[aK (by rw[hlen.i];omega),Yp _ _ (by decide)]);go_wp2;go_round
     case rel=>exact .a ⟨_,by rw[HS.i],rfl,rfl⟩
     case measure=>simp[intOf]
  ·go_wp2
   go_ret;exact⟨rfl,rfl⟩
section
variable (W:ak) (b:Nat) (A:Option aV) (n c B:Nat) (l:List UInt8) (hnn:n<=1000000000) (hp:W.b ⟨b,0,none⟩=some (.a A n c)) (hr:gG W B A n l)
include hnn hp hr
theorem ahy:aR ah 305 #[.a (some ⟨b,0,none⟩) 1 1] W fun e W'=>e=.a (.b .u16 (uo l:Nat))/\W=W':=by
 have C:=ab (ai9 W b A n c B l hnn hp hr);have hle:=Nq l 0 (by omega);have HS:=ab (show uo l=65535-AQ 0 l from rfl);have hx:=ahx (AQ 0 l) hle;generalize AQ 0 l=x at *;have hz:El.wrap (x:Int)=x:=by simp[wP,oH,mH];omega
 clear hr;go_enter Tryz.func305,Tryz.ntmps305;go_wp2_with (go_at_call 350;with_reducible refine C.i.g ?_;rintro e w' ⟨rfl,rfl⟩);go_ret;exact⟨by rw[HS.i];rfl,rfl⟩
theorem ac8:aR ah 247 #[.a (some ⟨b,0,none⟩) 1 1] W fun e W'=>e=.a (.e (decide (uo l=0)))/\W=W':=by
 have C:=ab (ahy W b A n c B l hnn hp hr);generalize uo l=x at *;clear hr;go_enter Tryz.func247,Tryz.ntmps247;go_wp2_with (go_at_call 305;with_reducible refine C.i.g ?_;rintro e w' ⟨rfl,rfl⟩);go_ret;refine⟨?_,rfl⟩;show Ending.returned (.e ((x:Int)==0))=_;congr 2;rw[dG];simp
end
section
variable {P:fB} {ops:Array ji} {md:Region.Mode} {C:ak->Prop}
def wqL(P:fB)(md:Region.Mode)(ops:Array ji)(C:ak->Prop)(n:Nat)(L:Array Bool->rO->Prop):Nat->Array Bool->rO->Prop
 | 0,listed,a=>L listed a
 | f+1,listed,a=>gJ md ops listed≠[]/\∀i∈gJ md ops listed,i<n/\qOp P ops C i (wqL P md ops C n L f (listed.c i true)) a
theorem ahz{n g:Nat}{L:Array Bool->rO->Prop}{Q':Bn->rO->ak->Prop}(hL:∀listed a w,C w->L listed a->wpAny P md ops Q' g listed a w):
 ∀(f:Nat)(listed:Array Bool)(a:rO)(w:ak),C w->wqL P md ops C n L f listed a->wpAny P md ops Q' (f+g) listed a w
 | 0,listed,a,w,hw,h=>by rw[bC];exact hL _ _ _ hw h
 | f+1,listed,a,w,hw,h=>by
   rw[show f+1+g=(f+g)+1 by omega];exact⟨fun h0=>absurd h0 h.1,fun i hi=>wpOp_of_qOp hw (fun a' w' hw' h'=>ahz hL f _ a' w' hw' h') (h.2 i hi).2⟩
theorem al0{n i:Nat}{oi:ji}{v:aB}{L:Array Bool->rO->Prop}(hi:ops[i]? = some oi)(hsel:∀(j:Nat)(o:ji) cs b,ops[j]? = some o->o.op≠.select cs b)
 (hs:Region.sinkB md ops n=true) (hc:Region.chainB md ops n=true) (hn:n<ops.j) (hin:i<n) (hdone:∀listed a,L listed a->∀j∈gJ md ops listed,n<=j) :
 ∀(f:Nat)(listed:Array Bool)(a:rO),HeadInv md ops n listed ->
  (∀j oj,ops[j]? = some oj->j≠i->listed.b j true=false->(∀e∈oj.after,ra md e=true->e.on≠i)->oi.apart ops oj=true) ->
  i∈gJ md ops listed->YieldsIn P ops C oi v a ->
  wqL P md ops C n L f (listed.c i true) (a.put oi.dst v)->wqL P md ops C n L (f+1) listed a:=by
 intro f
 induction f with
 | zero=>
   intro listed a inv _ hr hy H;have hun:=(kN.1 hr).1;refine⟨fun h=>(by rw[h]at hr;cases hr),fun j hj=>?_⟩;have hjn:j<n:=(aZ j n).resolve_right fun h=>tail_waits hs hc hn inv _ i rfl hin hun j h hj
   refine⟨hjn,?_⟩;by_cases hji:j=i
   ·subst hji;exact hy.qOp hi H
   ·have:=hdone _ _ H j (ready_mono hj hji)
    omega
 | succ f ih=>
   intro listed a inv hfree hr hy H;have hun:=(kN.1 hr).1;refine⟨fun h=>(by rw[h]at hr;cases hr),fun j hj=>?_⟩;have hjn:j<n:=(aZ j n).resolve_right fun h=>tail_waits hs hc hn inv _ i rfl hin hun j h hj
   refine⟨hjn,?_⟩;by_cases hji:j=i
   ·subst hji;exact hy.qOp hi H
   ·have h1:=(H.2 j (ready_mono hj hji)).2
    obtain⟨hjun,oj,hoj,hall⟩:=kN.1 hj;have hnot:∀e∈oj.after,ra md e=true->e.on≠i:=fun e he hb heq=>by
     have h1:=hall e he hb;rw[heq,getD_both hun]at h1;cases h1
    have h2:=qOp_put hoj (hfree j oj hoj hji hjun hnot) (fun cs b=>hsel i oi cs b hi) (fun cs b=>hsel j oj cs b hoj) hy h1;have hfree':∀k ok,ops[k]? = some ok->k≠i->(listed.c j true).b k true=false->(∀e∈ok.after,ra md e=true->e.on≠i)->oi.apart ops ok=true:=fun k ok hk hki hun hno=>by
     refine hfree k ok hk hki ?_ hno;by_cases hjk:j=k
     ·subst hjk;exact hjun
     ·rw[getD_set_ne true hjk]at hun;exact hun
    refine qOp_mono (fun a' h3=>ih (listed.c j true) a' (inv.set hj hjn) hfree' (ready_mono hr (jE hji)) h3.1 ?_) h2;rw[Array.setIfInBounds_comm _ _ hji];exact h3.2
theorem aaA{n g:Nat}{Lq:rO->Prop}(hsel:Region.noSelect ops=true)(hs:Region.sinkB md ops n=true)(hc:Region.chainB md ops n=true)(hn:n<ops.j):
 ∀(l:List ji)(k:Nat)(listed:Array Bool)(a:rO),(∀j,j<l.a->l[j]? = ops[k+j]?)->k+l.a=n->HeadInv md ops n listed->Region.lexHead md ops g l.a k listed=true->wpQuiet P ops C Lq l a ->
 wqL P md ops C n (fun listed' a'=>Region.seqB md ops g n listed'=true/\Lq a') l.a listed a
 | [],k,listed,a,_,hk,_,hB,h=>by
   have:k=n:=by simpa using hk
   subst this;exact⟨by simpa[Region.lexHead]using hB,h⟩
 | o::l,k,listed,a,hl,hk,inv,hB,h=>by
   have h0:ops[k]? = some o:=by simpa using(hl 0 (by simp)).symm
   simp only[bl,Region.lexHead,bf]at hB;obtain⟨⟨hr,hf⟩,hB'⟩:=hB;have hkn:k<n:=by simp only[bl]at hk;omega
   have hr':k∈gJ md ops listed:=by simpa using hr
   have hst:qOp P ops C k (wpQuiet P ops C Lq l) a:=by unfold qOp;simp only[h0];exact h
   obtain⟨v,hy,hK⟩:=yieldsIn_of_qOp h0 hst;exact al0 h0 (Region.noSelect_spec hsel) hs hc hn hkn (fun listed' a' hL=>seqB_ready hL.1) l.a listed a inv (Region.free_spec h0 hf) hr' hy
    (aaA hsel hs hc hn l (k+1) _ _ (fun j hj=>by have:=hl (j+1) (by simp;omega);simpa[kY,vB 1 j]using this) (by simp only[bl]at hk;omega) (inv.set hr' hkn) hB' hK)
theorem U1{T:Type}(f:T->ak)(n:Nat){id:Nat}{Q:Bn->rO->ak->Prop}{a:rO}{w:ak}{l:List ji}(hm:P.follows .mixedOrders=true)(hB:yC .any l.c n=true)(n0:T)(h0:f n0=w.drew)
 (h:wpQuiet P l.c (fun w'=>∃m,w'=f m) (fun a'=>∀w',(∃m,w'=f m)->wpList P l.c Q (l.G n) a' w') (l.E n) a):(Code.region id l.c true).wp P Q a w:=by
 simp only[yC,bf,decide_eq_true_eq]at hB;obtain⟨⟨⟨⟨hsel,hn⟩,hs⟩,hc⟩,hlex⟩:=hB;have hn':n<l.a:=by simpa using hn
 have htl:(l.E n).a=n:=by simp;omega
 have hdl:(l.G n).a=l.c.j-n:=by simp
 have inv0:HeadInv .any l.c n (Array.replicate l.c.j false):=
  ⟨by simp,fun j oj _ hl=>(by rw[nH]at hl;cases hl),fun t _ ht=>getD_in (by simpa using ht) (nH _ _)⟩
 have H:=aaA (md:=.any) (C:=fun w'=>∃m,w'=f m) (g:=l.c.j-n) hsel hs hc hn (l.E n) 0 _ a (fun j hj=>by
  have hj':j<n:=by rw[htl]at hj;exact hj
  simp[hj']) (by simpa using htl) inv0 (by rw[htl];exact hlex) h
 refine wp_region_any hm ?_;have:=ahz (Q':=Q) (g:=l.c.j-n) (fun listed a' w' hw hL=>by
  have:=wpAny_of_seq (md:=.any) (Q':=Q) (l.G n) n listed a' w' (fun j=>by simp[iY]) (by rw[hdl];exact hL.1) (hL.2 w' hw)
  rwa [hdl]at this) _ _ _ {w with drawn:=w.drawn+1} ⟨n0,h0.symm⟩ H
 rw[htl,show n+(l.c.j-n)=l.c.j by omega]at this;exact this
end
section
open Go.RowKit Go.ChangeShapes Go.WideShapes Go.ChangeAt Go.Deep
def oM(l:List Hl):List (List UInt8):=(l.filter (·.down)).map (·.F)
theorem Yq(l:List Hl)(i:Nat)(hi:i<l.a){x:Hl}(hx:x=l.b i lY)(h:x.down=true):oM (l.E (i+1))=oM (l.E i)++[x.F]:=by
 rw[<-pE lY l i hi,<-hx];simp[oM,h]
theorem ac9(l:List Hl)(i:Nat)(hi:i<l.a){x:Hl}(hx:x=l.b i lY)(h:x.down=false):oM (l.E (i+1))=oM (l.E i):=by
 rw[<-pE lY l i hi,<-hx];simp[oM,h]
theorem al1(l:List Hl)(A:Option aV)(n c:Nat)(w:ak)(hR:RdH w w.a.j A n l)(hn:n<=100000):
 aR ah 130 #[.a A n c] w (TxP w (oM l)):=by
 have HR:=ab hR;have HN:=ab hR.1;obtain⟨i0,hi0,hz0,hz1,hzb⟩:=ZU;have HI0:=ab hi0;have HZ0:=ab hz0;have HZ1:=ab hz1;have HZ2:=ab (show(iK ⟨#[]⟩).D.j=1 from rfl);clear hR hi0 hz0 hz1;go_enter Tryz.func130,Tryz.ntmps130;go_wp2;go_loopw [3,8] (fun s3 s8 wr=>∃(i:Nat)(O:Option aV)(cap k:Nat),i<=n/\s3=.a O k cap/\s8=.b .a i/\k<=i/\(oM (l.E i)).a=k/\wr.c w.a.j 9 1 (.a O k cap) k (xq (oM (l.E i)))/\aM w.a.j w wr) (fun _ s8 _=>n-(intOf s8).e)
 case atStart=>exact⟨0,none,0,0,by omega,rfl,rfl,by omega,by simp[oM],fQ _ _ _ _,aG _ _⟩
 case round=>
  obtain⟨i,O,cap,k,hin,rfl,rfl,hki,hlen,ho,hb⟩:=hrel;have HB:=ab hb;have HO:=ab ho;have HLEN:=ab hlen;have hsz:=hb.j;clear hb ho hlen;by_cases hlt:i<n
  ·have hi:(i:Int)<n:=by omega
   obtain⟨b,o,rfl,hbb,hh,hc,hnm,hdw⟩:=(HR.i.Y HB.i).hl hlt;obtain⟨x,hx⟩:=cB (l.b i lY);rw[<-hx]at hc hnm hdw;have HX:=ab hx;have hbs:b<wr.a.j:=by omega
   clear hx hbb;have HNL:=ab (show i<l.a by rw[HN.i];exact hlt);cases hd:x.down
   ·have HD:=ab hd
    rw[hd]at hdw;go_wp2;go_roundw
    case rel=>exact⟨i+1,O,cap,k,by omega,rfl,by go_num,by omega,by rw[ac9 l i HNL.i HX.i HD.i];exact HLEN.i,by rw[ac9 l i HNL.i HX.i HD.i];exact HO.i.alloc _,HB.i.alloc hsz _⟩
    case measure=>simp[intOf]<;>omega
   ·have HD:=ab hd
    rw[hd]at hdw;have TD:=ab (show k+1<=maxLen by unfold maxLen;omega);have TJ:=ab (show(k+1)*i0.bytes<=140737488355328 from aP (iq (show k+1<=100002 by omega) hzb) (by omega));have HKI:=ab hki;have Rx:=ab (fun(ob:Obj) (s:List UInt8)=>show Rd ((wr.alloc ob).alloc (.D #[.g (bK s)] 9)) (wr.a.j+2) 1 (some ⟨wr.a.j+1,0,none⟩) 1 [.g (bK s)]by
     have h:=ZO (wr.alloc ob) (txA s) 1 rfl 9
     rwa [show(wr.alloc ob).a.j=wr.a.j+1 by simp]at h)
    have HBS:=ab (fun ob uS=>show w.a.j<=((wr.alloc ob).alloc uS).a.j by simp;omega);have HGR:=ab (fun ob uS w1 (hg:((wr.alloc ob).alloc uS).d w1 (Value.slice O k cap).f)=>((HB.i.alloc hsz ob).alloc (by simp;omega) uS).grown hg (by simp;omega) (fun k hk=>(HO.i.lt k hk).1));clear hki;go_wp2_with (at_builtin;refine jQ _ rfl (.tmp 14) (.tmp 17) _ rfl w.a.j 9 i0 (.g ⟨#[]⟩) 1 i0.bytes Tryz.underlying69 HI0.i HZ0.i HZ1.i rfl HZ2.i (nG _) (.a O k cap) k (xq (oM (l.E i))) rfl ((HO.i.alloc _).alloc _) (wr.a.j+2) (some ⟨wr.a.j+1,0,none⟩) 1 1 [.g (bK x.F)] rfl (Rx.i _ x.F) (by simp[dA]) TD.i TJ.i (HBS.i _ _) ?_;intro v1 w1 hown1 hg1 yN;have O1:=ab hown1;have G1:=ab (HGR.i _ _ _ hg1);clear hown1 hg1 yN);obtain⟨O',cap',rfl,_,_⟩:=j3 O1.i;go_roundw
    case rel=>exact⟨i+1,O',cap',k+1,by omega,rfl,by go_num,by have:=HKI.i;omega,by rw[Yq l i HNL.i HX.i HD.i,aQ,HLEN.i];rfl,by rw[Yq l i HNL.i HX.i HD.i,<-QF];exact O1.i,G1.i⟩
    case measure=>simp[intOf]<;>omega
  ·obtain rfl:i=n:=by omega
   have hd:decide ((i:Int)<i)=false:=by simp
   have HL:=ab (show l.E i=l from aK (by rw[HN.i];omega));go_wp2;go_ret;exact⟨O,k,cap,rfl,by rw[<-HL.i];exact HLEN.i,by have:=HO.i;rw[HL.i]at this;exact this,HB.i⟩
end
section
open Go.RowKit Go.ChangeShapes Go.WideShapes Go.ChangeAt Go.Deep
def asg(h:Hl):Prop:=-9223372036854775808<=h.O/\h.O<=9223372036854775807
end
def afo(xs:List aB):Nat->List aB->List aB
 | _,[]=>xs
 | o,v::vs=>afo (xs.set o v) (o+1) vs
theorem al3(vs:List aB):∀(xs:List aB)(o j:Nat),(afo xs o vs)[j]? = if o<=j/\j<o+vs.a/\j<xs.a then vs[j-o]? else xs[j]?:=by
 induction vs with
 | nil=>intro xs o j;rw[afo,if_neg (by simp;omega)]
 | cons v vs ih=>
   intro xs o j;rw[afo,ih,aS,bl];by_cases h1:o+1<=j/\j<o+1+vs.a/\j<xs.a
   ·rw[if_pos h1,if_pos (by omega),show j-o=(j-(o+1))+1 by omega,List.getElem?_cons_succ]
   ·rw[if_neg h1]
    by_cases h2:o=j
    ·subst h2
     by_cases h3:o<xs.a
     ·rw[if_pos ⟨av _,by omega,h3⟩,List.getElem?_set_self h3];simp
     ·rw[if_neg (by omega),fu];simp[h3]
    ·rw[List.getElem?_set_ne h2,if_neg (by omega)]
theorem Xv{base size n g c:Nat}{e:bL}(vs:List aB):∀(xs:List aB)(W:ak)(o:Nat),W.c base e size (.a (some ⟨g,0,none⟩) n c) n xs->o+vs.a<=n*size ->
 (W.setCells g o vs).c base e size (.a (some ⟨g,0,none⟩) n c) n (afo xs o vs):=by
 induction vs with
 | nil=>intro xs W o h _;exact h
 | cons v vs ih=>
   intro xs W o h ho;rw[bl]at ho;rw[DX,afo];exact ih _ _ _ (Tp h o (by omega) v) (by omega)
theorem al4{α:Type}(f:α->Array aB)(s:Nat)(hs:∀x,(f x).j=s)(hp:0<s)(l:List α)(i:Nat)(hi:i<l.a)(x:α):
 afo (l.d fun x=>(f x).a) (i*s) (f x).a=(l.set i x).d fun x=>(f x).a:=by
 apply iC;intro j;rw[al3,aY,hs,uE f s hs];have hl2:=uE f s hs (l.set i x);rw[aS]at hl2;rcases aZ j (l.a*s)with hj|hj
 ·have e1:j=j/s*s+j%s:=by rw[DY];exact(Nat.div_add_mod j s).symm
  have h2:j/s<l.a:=(Br hp).2 hj;have h3:j%s<s:=fP _ hp;have g1:=vO f s hs l (j/s) (j%s) h2 h3;have g2:=vO f s hs (l.set i x) (j/s) (j%s) (by rw[aS];exact h2) h3;rw[<-e1]at g1 g2;rw[g2];by_cases hij:i=j/s
  ·subst hij
   rw[if_pos ⟨Nat.div_mul_le_self j s,by omega,hj⟩,List.getElem_set_self,dH];congr 1;omega
  ·rw[List.getElem_set_ne hij,if_neg,g1]
   rintro⟨h4,h5,_⟩;apply hij;have h6:i*s<=j:=h4;have h7:j<(i+1)*s:=by rw[J6];exact h5
   exact(Nat.le_antisymm ((Nat.le_div_iff_mul_le hp).2 h6) (Nat.lt_succ_iff.1 ((Br hp).2 h7)))
 ·rw[if_neg (by omega),aT (by rw[uE f s hs];exact hj),aT (by omega)]
def yg(l:List Hl):List aB:=l.d fun x=>x.ay.a
theorem afp(l:List Hl):∀u∈yg l,u.h=true:=Fa Hl.ay Hl.dx l
theorem ac'(l:List Hl)(x:Hl):yg l++x.ay.a=yg (l++[x]):=aiE Hl.ay l x
def ClP(w:ak)(n:Nat)(l:List Hl)(e:lJ)(w':ak):Prop:=
 ∃A c,e=.a (.a A n c)/\w'.c w.a.j 100 3 (.a A n c) n (yg l)/\aM w.a.j w w'
theorem Mk(l:List Hl)(A:Option aV)(n c:Nat)(w:ak)(hR:RdH w w.a.j A n l)(hn:n<=100000):
 aR ah 59 #[.a A n c] w (ClP w n l):=by
 have hll:=hR.1;cases A with
 | some a=>
   have hnil:∀W:ak,(binOp .eql 33 (.a (some a) n c) (.a none 0 0)).O ah W=.ok (.e false) W:=fun W=>by
    simp only[binOp];simp[jk,tq]
   obtain⟨i0,hi0,hz0,hz1,hzb⟩:=Pq;have hz2:(cO lY.ay).D.j=3:=by simp[dz,Hl.J]
   have O1:=ab (show(w.alloc (.D #[] 100)).c w.a.j 100 3 (.a (some ⟨w.a.j,0,none⟩) 0 0) 0 []from qD w #[] 0 (av _) (by unfold maxLen;omega) rfl);have O2:=ab (hR.alloc (av _) (.D #[] 100)).2.1;have TD:=ab (show 0+n<=maxLen by unfold maxLen;omega);have TJ:=ab (show(0+n)*i0.bytes<=140737488355328 from aP (iq (show 0+n<=100000 by omega) hzb) (by omega));have O3:=ab (show w.a.j<=(w.alloc (.D #[] 100)).a.j by simp);have ON:=ab (afp l);clear hR hll;go_enter Tryz.func59,Tryz.ntmps59;go_wp2_with (at_builtin;refine jQ _ rfl (.tmp 5) (.tmp 6) _ rfl w.a.j 100 i0 (.d lY.ay) 3 i0.bytes tq hi0 hz0 hz1 rfl hz2 (nG _) (.a (some ⟨w.a.j,0,none⟩) 0 0) 0 [] rfl O1.i w.a.j (some a) n c (yg l) rfl O2.i ON.i TD.i TJ.i O3.i ?_;intro v1 w1 hown1 hg1 yN);obtain⟨A',c',hv,_,_⟩:=j3 hown1;subst hv;simp only[bC,dJ]at hown1;have hb:=uO ((aG w.a.j w).alloc (av _) (.D #[] 100)) hg1 (av _) O3.i;go_wp2;go_ret;exact⟨A',c',by simp,hown1,hb⟩
 | none=>
   have h0:n=0:=by
    rcases eB n with h0|h0
    ·exact h0
    ·obtain⟨a,ha,_⟩:=hR.2.1.2 h0;cases ha
   subst h0;have hl:l=[]:=bF hll;subst hl;have hnil:∀W:ak,(binOp .eql 33 (.a none 0 c) (.a none 0 0)).O ah W=.ok (.e true) W:=fun W=>by
    simp only[binOp];simp[jk,tq]
   have FIN:=ab (show ClP w 0 [] (.a (.a none 0 0)) w from⟨none,0,rfl,fQ _ _ _ _,aG _ _⟩);clear hR hll;go_enter Tryz.func59,Tryz.ntmps59;go_wp2;go_ret;exact FIN.i
theorem U2(args:Array aB)(w:ak):(callFunc 148 args).O ah w=.ok (.enter 148 args) w:=by kernel_rfl
theorem al5(x:Hl)(s:List UInt8)(bn:Nat)(w:ak)(hb:bn<w.a.j)(hc:w.b ⟨bn,0,none⟩=some (.g (bK s))):
 aR ah 148 #[.d x.ay,.c (some ⟨bn,0,none⟩)] w (gY w (.e (x.F==s))):=by
 have HB:=ab (fun ob=>(aG w.a.j w).alloc (av _) ob);go_enter Tryz.func148,Tryz.ntmps148;go_wp2;go_ret;exact⟨by simp,HB.i _⟩
theorem ai'(l:List Hl)(s:List UInt8)(bn:Nat)(A:Option aV)(n c:Nat)(w:ak)(hR:RdH w w.a.j A n l)(hn:n<=100000)(hb:bn<w.a.j)(hc:w.b ⟨bn,0,none⟩=some (.g (bK s))):
 aR ah 147 #[.a A n c,.func (.func 148) #[] #[.c (some ⟨bn,0,none⟩)]] w (gY w (.b .a (AL l s))):=by
 have hen:=U2;have HR:=ab hR;have HN:=ab hR.1;have PR:=ab (fun x W (h:aM w.a.j w W)=>al5 x s bn W (fE hb h.j) (by rw[h.cell (p:=⟨bn,0,none⟩) hb];exact hc));clear hR hc;go_enter Tryz.func147,Tryz.ntmps147;go_wp2;go_loopw [8] (fun s8 wr=>∃i:Nat,i<=n/\s8=.b .a i/\(∀k,k<i->(l.b k lY).F≠s)/\aM w.a.j w wr) (fun s8 _=>n-(intOf s8).e)
 case atStart=>exact⟨0,by omega,rfl,fun k hk=>by omega,aG _ _⟩
 case round=>
  obtain⟨i,hin,rfl,hno,hb⟩:=hrel;have Ez:=ab hno;have HB:=ab hb;clear hno hb;by_cases hlt:i<n
  ·have hi:(i:Int)<n:=by omega
   obtain⟨b,o,rfl,hbb,hh,hcl,_,_⟩:=(HR.i.Y HB.i).hl hlt;obtain⟨x,hx⟩:=cB (l.b i lY);rw[<-hx]at hcl;have HX:=ab hx;clear hx hbb;by_cases hq:x.F=s
   ·have hbq:(x.F==s)=true:=by rw[hq];simp
    have Mi:=ab (aps (by rw[HN.i];exact hlt) (by rw[<-HX.i];exact hq) Ez.i);clear hq;go_wp2_with (go_at_call 148;refine(PR.i x _ HB.i).g ?_;rintro e w1 ⟨rfl,hb1⟩;clear hh hcl;have HB1:=ab hb1;clear hb1);go_ret;exact⟨by rw[Mi.i];rfl,jD HB.i HB1.i⟩
   ·have hbq:(x.F==s)=false:=by simpa using hq
    have HQ:=ab hq;clear hq;go_wp2_with (go_at_call 148;refine(PR.i x _ HB.i).g ?_;rintro e w1 ⟨rfl,hb1⟩;clear hh hcl;have HB1:=ab hb1;clear hb1);go_roundw
    case rel=>exact⟨i+1,by omega,by go_num,fun k hk=>by
     by_cases hki:k=i
     ·rw[hki,<-HX.i];exact HQ.i
     ·exact Ez.i k (by omega),jD HB.i HB1.i⟩
    case measure=>simp[intOf]<;>omega
  ·obtain rfl:i=n:=by omega
   have Mi:=ab (apt (l:=l) (s:=s) (fun k hk=>Ez.i k (by have:=HN.i;omega)));have hd:decide ((i:Int)<i)=false:=by simp
   go_wp2;go_ret;exact⟨by rw[Mi.i];rfl,HB.i⟩
def Ld(l:List Hl)(s:List UInt8)(well:Bool)(kI fall:Int):List Hl×Bool×Int:=
 if AL l s<0 then(l,false,5)else(l.set (AL l s).e (vS (l.b (AL l s).e lY) well kI fall).1,(vS (l.b (AL l s).e lY) well kI fall).2,0)
theorem apF{l:List Hl}{s:List UInt8}(h:AL l s = -1)(well:Bool)(kI fall:Int):Ld l s well kI fall=(l,false,5):=by unfold Ld;rw[if_pos (by omega)]
theorem al6{l:List Hl}{s:List UInt8}{k:Nat}(h:AL l s=k){well:Bool}{kI fall:Int}{x:Hl}(hx:x=l.b k lY){q:Hl×Bool}(hq:vS x well kI fall=q):Ld l s well kI fall=(l.set k q.1,q.2,0):=by
 unfold Ld;rw[if_neg (by omega),h,Int.toNat_natCast,<-hx,hq]
def ax6(w:ak)(n:Nat)(r:List Hl×Bool×Int)(e:lJ)(w':ak):Prop:=
 ∃A c,e=.a (.K #[.a A n c,.e r.2.1,.b .a r.2.2])/\w'.c w.a.j 100 3 (.a A n c) n (yg r.1)/\aM w.a.j w w'
theorem apG(l:List Hl)(s:List UInt8)(well:Bool)(kI fall:Int)(A:Option aV)(n c:Nat)(w:ak)(hR:RdH w w.a.j A n l)(hg:∀x∈l,asg x)(hn:n<=100000):
 aR ah 74 #[.a A n c,.g (bK s),.e well,.b .a kI,.b .a fall] w (ax6 w n (Ld l s well kI fall)):=by
 have hen:=U2;have HN:=ab hR.1;have HG:=ab hg;have HR1:=ab (fun ob=>hR.up ob);have BN:=ab (dP.new w #[.g (bK s)] 9);have HB:=ab ((aG w.a.j w).alloc (av _) (.D #[.g (bK s)] 9));clear hR hg;go_enter Tryz.func74,Tryz.ntmps74;go_wp2_with fail;refine(Mk l A n c _ (HR1.i _) hn).g ?_;rintro e w1 ⟨A1,c1,rfl,hown,hb1⟩;have HOWN:=ab hown;have BN:=ab (BN.i.go hb1);have HB:=ab (ali HB.i hb1);clear hown hb1;obtain⟨x1,x2,x3,x4⟩:=BN.i.R;have l1:=BN.i.lt;go_wp2_with fail;refine(ai' l s w.a.j A1 n c1 _ (iT.jh HN.i HOWN.i) hn l1 (by rw[x1];rfl)).g ?_;rintro e w2 ⟨rfl,hb2⟩;have HOWN:=ab (iU (jH HOWN.i hb2) (base':=w.a.j) (by simp));have HB:=ab (ali HB.i hb2);clear hb2 x1 x2 x3 x4 l1;rcases afe l s with hp|⟨k,hp,hk⟩
 ·have HS:=ab (apF hp well kI fall)
  rw[hp];clear hp;go_wp2_with fail;go_ret3;exact⟨A1,c1,by rw[HS.i];rfl,by rw[HS.i];exact HOWN.i,HB.i⟩
 ·have hkn:k<n:=by rw[<-HN.i];exact hk
  have hki:(k:Int)<n:=by omega
  have HKL:=ab hk;obtain⟨x,hx⟩:=cB (l.b k lY);obtain⟨⟨qx,qt⟩,hq⟩:∃q,vS x well kI fall=q:=⟨_,rfl⟩
  have HS:=ab (al6 hp hx hq);have ST:=ab (fun W=>hq ▸ alL x well kI fall W (HG.i x (by rw[hx];exact Fb lY l k hk)));obtain⟨b,o,hA,hbb,hh,hc,_,_⟩:=(iT.jh HN.i HOWN.i).hl hkn;rw[<-hx]at hc;obtain⟨g,rfl⟩:∃g,A1=some ⟨g,0,none⟩:=by
   rcases HOWN.i.2 with⟨hv,_⟩|⟨g,cap,cur,hv,_⟩
   ·injection hv with e1 _ _;rw[e1]at hA;cases hA
   ·injection hv with e1 _ _;exact⟨g,e1⟩
  injection hA with hA
  injection hA with e1 e2
  subst e1 e2;rw[hp];have hnk:decide ((k:Int)<0)=false:=by simp
  rw[bC]at hh hc;clear hx hq hp hk;go_wp2_with fail;refine(ST.i _).g ?_;rintro e w3 ⟨rfl,hb3⟩;have OW:=ab (jH HOWN.i hb3);have hth:w3.S g (k*3) 3:=by
   rcases OW.i.2 with⟨hv,_⟩|⟨g',cap,cur,hv,_,h3,h4,_,h6,_⟩
   ·cases hv
   ·injection hv with e1 _ e3
    injection e1 with e1
    injection e1 with e1
    subst e1;refine dP.S (c:=cur) ⟨_,h3⟩ (k*3) 3 ?_;rw[h6];have:(k+1)*3<=cap*3:=dB 3 (by omega);omega
  have QM:=ab (QG (ali HB.i hb3) g (k*3) qx (HOWN.i.lt g rfl).1);have OF:=ab (Xv qx.ay.a _ _ (k*3) OW.i (by rw[aY,Hl.J];have:(k+1)*3<=n*3:=dB 3 hkn;omega));clear hh hc hb3 hbb;go_wp2_with fail;go_ret3;refine⟨some ⟨g,0,none⟩,c1,by rw[HS.i];rfl,?_,QM.i⟩;rw[HS.i];have:=OF.i;unfold yg at this;rw[al4 Hl.ay 3 Hl.J (by omega) l k HKL.i qx]at this;exact this
def Ai(l:List UInt8):Nat:=(words l).sum
theorem zm(a b:UInt8)(l:List UInt8):Ai (a::b::l)=(256*a.e+b.e)+Ai l:=by simp[Ai,words]
theorem tV:∀(l m:List UInt8),l.a%2=0->Ai (l++m)=Ai l+Ai m
 | [],m,_=>by simp[Ai,words]
 | [a],m,h=>by simp at h
 | a::b::l,m,h=>by
   simp only[bl]at h;have:=tV l m (by omega);rw[gQ,gQ,zm,zm,this];omega
theorem Yr{a b:Nat}:sO a b=0↔a=0/\b=0:=by unfold sO;split<;>omega
theorem ada(a b:Nat):sO a b%65535=(a+b)%65535:=by unfold sO;split<;>omega
theorem U3:∀(l:List UInt8)(n:Nat),AQ n l%65535=(n+Ai l)%65535
 | [],n=>by simp[AQ,words,Ai]
 | [a],n=>by simp[AQ,words,Ai,ada]
 | a::b::l,n=>by
   have:=U3 l (sO n (256*a.e+b.e));have e:AQ n (a::b::l)=AQ (sO n (256*a.e+b.e)) l:=rfl;rw[e,this,zm,Nat.add_mod,ada,<-Nat.add_mod];congr 1;omega
theorem Yt:∀(l:List UInt8)(n:Nat),AQ n l=0↔n=0/\Ai l=0
 | [],n=>by simp[AQ,words,Ai]
 | [a],n=>by simp[AQ,words,Ai,Yr]
 | a::b::l,n=>by
   have:=Yt l (sO n (256*a.e+b.e));have e:AQ n (a::b::l)=AQ (sO n (256*a.e+b.e)) l:=rfl;rw[e,this,Yr,zm];omega
theorem Yu(l:List UInt8):uo l=0↔Ai l%65535=0/\Ai l≠0:=by
 have h1:=U3 l 0;have h2:=Yt l 0;have h3:=Nq l 0 (by omega);unfold uo;generalize AQ 0 l=s at *;rw[bC]at h1;constructor
 ·intro h
  have:s=65535:=by omega
  subst this;refine⟨by rw[<-h1],fun h0=>?_⟩;have:=h2.2 ⟨rfl,h0⟩;omega
 ·rintro⟨ha,hb⟩
  have:s≠0:=fun h0=>hb (h2.1 h0).2
  omega
theorem adb{c m n:Nat}(hc:c<=65535)(hm:m<=65535)(hn:n<=65535):(zk c m n+n)%65535=(c+m)%65535:=by
 unfold zk sO;split
 ·split<;>omega
 ·split<;>omega
theorem AU:∀(l m:List UInt8)(c:Nat),c<=65535->kT c l m<=65535
 | [],m,c,h=>by cases m<;>exact h
 | [a],m,c,h=>by cases m<;>exact h
 | a::b::l,[],c,h=>h
 | a::b::l,[x],c,h=>h
 | a::b::l,x::y::m,c,h=>AU l m _ (Mj _ _ _)
theorem Ns:∀(l m:List UInt8)(c:Nat),c<=65535->l.a=m.a->l.a%2=0->(kT c l m+Ai m)%65535=(c+Ai l)%65535
 | [],[],c,h,_,_=>by simp[kT,Ai,words]
 | [a],m,c,_,_,h=>by simp at h
 | a::b::l,[],c,h,g,_=>by simp at g
 | a::b::l,[x],c,h,g,_=>by simp at g
 | [],x::m,c,h,g,_=>by simp at g
 | a::b::l,x::y::m,c,h,g,k=>by
   simp only[bl]at g k;have ha:=a.a;have hb:=b.a;have hx:=x.a;have hy:=y.a;have h1:=Ns l m (zk c (256*a.e+b.e) (256*x.e+y.e)) (Mj _ _ _) (by omega) (by omega);have h2:=adb (c:=c) (m:=256*a.e+b.e) (n:=256*x.e+y.e) h (by omega) (by omega);rw[zm,zm];have e:kT c (a::b::l) (x::y::m)=kT (zk c (256*a.e+b.e) (256*x.e+y.e)) l m:=rfl;rw[e];omega
def QN(n:Nat):List UInt8:=[aJ (n/256),aJ (n%256)]
theorem Nu{n:Nat}(h:n<=65535):Ai (QN n)=n:=by
 unfold QN;rw[zm];have h1:(aJ (n/256)).e=n/256:=by rw[jB];omega
 have h2:(aJ (n%256)).e=n%256:=by rw[jB];omega
 rw[h1,h2];simp[Ai,words];omega
theorem al7{a b d old new:List UInt8}{c:Nat}(hc:c<=65535)(ha:a.a%2=0)(hb:b.a%2=0)(ho:old.a%2=0)(hn:old.a=new.a)(hpos:Ai a≠0)
 (h:uo (a++(QN c++(b++(old++d))))=0):uo (a++(QN (kT c old new)++(b++(new++d))))=0:=by
 rw[Yu]at h ⊢;have h1:=Ns old new c hc hn ho;have h2:=AU old new c hc;rw[tV _ _ ha,tV (QN _) _ (by simp[QN]),tV _ _ hb,tV _ _ (by omega),Nu h2];rw[tV _ _ ha,tV (QN _) _ (by simp[QN]),tV _ _ hb,tV _ _ ho,Nu hc]at h;omega
def GM(n:Nat):GStep->Prop
 | .go _ w _=>n<=w.drawn
 | .comm _ _ _ _ w _=>n<=w.drawn
 | .spawn _ _ w _=>n<=w.drawn
 | .count _ w _=>n<=w.drawn
 | .timer _ _ w _=>n<=w.drawn
 | .alone _ _ w _=>n<=w.drawn
 | .newcoro _ _ _ w _=>n<=w.drawn
 | .coroswitch _ _ _ w _=>n<=w.drawn
 | .collect _ w _=>n<=w.drawn
 | .watch _ w _=>n<=w.drawn
 | .ended _ _ _=>True
def SM(n:Nat):Stepped->Prop
 | .next m=>n<=m.world.drawn
 | .ended _ _=>True
def atN{α:Type}:Result α->ak
 | .ok _ w=>w
 | .halt _ w=>w
theorem GM.after{n:Nat}{es:Array Event}{s:GStep}(h:GM n s):GM n (s.after es):=by cases s<;>exact h
theorem aaB(w:ak)(a:aV)(n:Nat):(w.freeze a n).drawn=w.drawn:=by unfold World.freeze;split<;>rfl
theorem aja{α:Type}(a:Ask α):∀w:ak,w.drawn<=(w.ask a).2.drawn:=by
 induction a with
 | done a=>intro w;exact av _
 | ask what range k ih=>
   intro w;unfold World.ask;simp only;split
   ·exact ih _ w
   ·have:=ih ((Question.extern what range).cut (w.tape w.drawn (Question.extern what range))) {w with drawn:=w.drawn+1}
    exact aP (MQ _) this
theorem ajb(w:ak)(c:Sys):w.drawn<=(w.sys c).2.drawn:=by
 have h:=aja (Kernel.perform c w.os) w;unfold World.sys;split
 ·exact av _
 ·rename_i e;rw[e]at h;exact h
theorem Ry{p:fB}{w w':ak}{dW:aV}{u:bL}{k:aV}{v:aB}{atomic:Bool}{t:List aV}(h:w.viewStore p dW u k v atomic=.ok (w',t)):w'.drawn=w.drawn:=by
 unfold World.viewStore at h;simp only[bind,Except.bind,pure,Except.pure,throw,throwThe,MonadExceptOf.throw]at h
 repeat' split at h
 all_goals first
  | cases h;done
  | (injection h with h;injection h with h1 h2;rw[<-h1])
theorem U4{p:fB}{w w':ak}{a:aV}{v:aB}{atomic:Bool}{t:List aV}(h:w.farStore p a v atomic=.ok (w',t)):w'.drawn=w.drawn:=by
 unfold World.farStore at h;split at h
 ·split at h
  ·rename_i r hr
   injection h with h
   subst h;exact Ry hr
  ·cases h
 ·cases h
theorem Kv{α:Type}(p:fB)(s:yA α):∀w:ak,w.drawn<=(atN (s.O p w)).drawn:=by
 induction s with
 | pure a=>intro w;exact av _
 | load m a k ih=>
   intro w;unfold J8;split
   ·exact ih _ w
   ·split
    ·exact ih _ w
    ·exact av _
 | store m a v k ih=>
   intro w;cases v<;>simp only[J8]<;>first
    | exact av _
    | (split
       ·split
        ·exact av _
        ·exact ih (w.I a _)
       ·split
        ·rename_i e
         rw[<-U4 e];exact ih _
        ·exact av _)
 | new o k ih=>intro w;exact ih _ {w with heap:=w.a.push o}
 | shape r k ih=>intro w;exact ih _ w
 | freeze a n k ih=>intro w;have:=ih (w.freeze a n);rw[aaB]at this;exact this
 | frozen a k ih=>intro w;exact ih _ w
 | getObj r k ih=>
   intro w;unfold J8;split
   ·exact av _
   ·exact ih _ w
   ·exact av _
 | setObj r o k ih=>
   intro w;unfold J8;split
   ·exact av _
   ·exact ih {w with heap:=w.a.c r o}
   ·exact av _
 | choose q k ih=>
   intro w;unfold J8;split
   ·exact ih _ w
   ·exact aP (MQ _) (ih _ {w with drawn:=w.drawn+1})
 | sys c k ih=>intro w;exact aP (ajb w c) (ih _ _)
 | program k ih=>intro w;exact ih _ w
 | mark m k ih=>intro w;exact ih w
 | halt h=>intro w;exact av _
theorem sP{α:Type}(p:fB)(s:yA α):∀(w:ak)(es:Array Event),w.drawn<=(atN (s.runT p w es).1).drawn:=fun w es=>by rw[Sem.runT_fst];exact Kv p s w
theorem xw{α:Type}{p:fB}{s:yA α}{w w':ak}{v:α}(h:s.O p w=.ok v w'):w.drawn<=w'.drawn:=by have:=Kv p s w;rw[h]at this;exact this
theorem al8{α:Type}{p:fB}{s:yA α}{w w':ak}{v:Halt}(h:s.O p w=.halt v w'):w.drawn<=w'.drawn:=by have:=Kv p s w;rw[h]at this;exact this
theorem U8{n:Nat}{c:Prop}[Decidable c]{a b:GStep}(ha:GM n a)(hb:GM n b):GM n (if c then a else b):=by split<;>assumption
theorem apH{α:Type}{p:fB}{s:yA α}{w w':ak}{v:α}{es es':Array Event}(h:s.runT p w es=(.ok v w',es')):w.drawn<=w'.drawn:=by have:=sP p s w es;rw[h]at this;exact this
theorem ajc{α:Type}{p:fB}{s:yA α}{w w':ak}{v:Halt}{es es':Array Event}(h:s.runT p w es=(.halt v w',es')):w.drawn<=w'.drawn:=by have:=sP p s w es;rw[h]at this;exact this
theorem afq(n:Nat)(w:ak)(fd:Nat)(text:ByteArray)(o:Outcome):GM n (endWith w fd text o):=by
 unfold endWith;simp only
 repeat' split
 all_goals trivial
theorem al9(fr:zV)(ahead:List ByteArray)(m:String)(whole:Bool)(w:ak):GM w.drawn (dieOf fr ahead m whole w):=av _
theorem AX(fr:zV)(m:String)(w:ak):GM w.drawn (endThrow fr m w):=av _
theorem Jr(p:fB)(fr:zV)(v:aB)(w:ak):GM w.drawn (endPrinting p fr v w):=by
 unfold endPrinting;simp only;split
 ·exact AX _ _ _
 ·trivial
theorem GM.le{n m:Nat}{s:GStep}(h:GM m s)(hn:n<=m):GM n s:=by
 cases s<;>first|exact aP hn h|trivial
theorem QO(p:fB)(fr:zV)(callers:List zV)(dying:Option Dying)(m:String)(w:ak):GM w.drawn (endFatal p fr callers dying m w):=by
 unfold endFatal;simp only;split
 ·rename_i h;exact(al9 _ _ _ _ _).le (xw h)
 ·trivial
 ·trivial
theorem afr(p:fB)(fr:zV)(d:Dying)(f:Fatal)(w:ak):GM w.drawn (writeOn p fr d f w):=by
 unfold writeOn;simp only;split
 ·trivial
 ·split
  ·rename_i h;exact apH h
  ·rename_i h;exact ajc h
  ·trivial
  ·trivial
theorem Js(p:fB)(main:Bool)(fr:zV)(callers:List zV)(dying:Option Dying)(v:aB)(w:ak):GM w.drawn (doReturn p main fr callers dying v w):=by
 unfold doReturn
 repeat' split
 all_goals first|exact av _|trivial
theorem RG(p:fB)(fr:zV)(callers:List zV)(dying:Option Dying)(d:Deferred)(w:ak):GM w.drawn (callDeferred p fr callers dying d w):=by
 unfold callDeferred;refine U8 trivial ?_
 ·have h:=sP p (invoke d.target d.args) w #[]
  generalize(invoke d.target d.args).runT p w #[]=x at h ⊢;obtain⟨r,es⟩:=x;simp only at h ⊢;refine GM.after ?_
  repeat' split
  all_goals first|exact h|trivial|exact(QO _ _ _ _ _ _).le h|exact(AX _ _ _).le h
theorem ajd(p:fB)(main:Bool)(fr:zV)(callers:List zV)(dying:Option Dying)(w:ak):GM w.drawn (unwind p main fr callers dying w):=by
 unfold unwind;split
 ·rename_i block _ ds hd
  have h:=sP p (Instr.takeDeferred block) w #[];generalize(Instr.takeDeferred block).runT p w #[]=x at h ⊢;obtain⟨r,es⟩:=x;simp only at h ⊢;refine GM.after ?_;split
  ·exact h
  ·trivial
 ·exact RG _ _ _ _ _ _
 ·split
  ·trivial
  ·split
   ·trivial
   ·split
    ·exact av _
    ·split
     ·split
      ·exact av _
      ·split
       ·rename_i h;exact xw h
       ·trivial
       ·trivial
     ·split
      ·exact Jr _ _ _ _
      ·trivial
  ·split
   ·exact Js _ _ _ _ _ _ _
   ·rename_i fn hfn
    have h:=sP p (results fn fr.tmps) w #[];generalize(results fn fr.tmps).runT p w #[]=x at h ⊢;obtain⟨r,es⟩:=x;simp only at h ⊢;refine GM.after ?_;split
    ·exact(Js _ _ _ _ _ _ _).le h
    ·trivial
    ·trivial
theorem ama(p:fB)(fr:zV)(callers:List zV)(dying:Option Dying)(g:Nat)(w:ak):GM w.drawn (early p fr callers dying g w):=by
 unfold early;simp only
 repeat' split
 all_goals first|exact av _|trivial|(have h:=xw (p:=p) (w:=w) (by assumption);exact h)
theorem atO(p:fB)(fr:zV)(d:Dying)(w:ak):GM w.drawn (die p fr d w):=by
 unfold die;split
 ·exact afr _ _ _ _ _
 ·split
  ·exact U8 (av _) (afq _ _ _ _ _)
  ·simp only
   split
   ·exact av _
   ·split
    ·rename_i h;exact xw h
    ·trivial
   ·rename_i t recv name hp
    have h:=sP p (invoke (.fn (.method name) #[]) #[.iface t recv]) w #[];generalize(invoke (.fn (.method name) #[]) #[.iface t recv]).runT p w #[]=x at h ⊢;obtain⟨r,es⟩:=x;simp only at h ⊢;refine GM.after ?_
    repeat' split
    all_goals first|exact h|trivial|exact(Jr _ _ _ _).le h
   ·trivial
theorem Jt(p:fB)(listen:Bool)(fr:zV)(callers:List zV)(dying:Option Dying)(s:yA Next)(w:ak):GM w.drawn (stepG.apply p listen fr callers dying s w):=by
 unfold stepG.apply;have h:w.drawn<=(atN (if listen=true then s.runT p w #[]else(s.O p w,#[])).1).drawn:=by
  split
  ·exact sP p s w #[]
  ·exact Kv p s w
 generalize(if listen=true then s.runT p w #[]else(s.O p w,#[]))=x at h ⊢;obtain⟨r,es⟩:=x;simp only at h ⊢;refine GM.after ?_
 repeat' split
 all_goals first|exact h|trivial|exact(QO _ _ _ _ _ _).le h|exact(AX _ _ _).le h|exact(ama _ _ _ _ _ _).le h
theorem apI(p:fB)(listen:Bool)(fr:zV)(callers:List zV)(dying:Option Dying)(w:ak):GM w.drawn (stepG.oper p listen fr callers dying w):=by
 unfold stepG.oper
 repeat' split
 all_goals first|trivial|exact Jt _ _ _ _ _ _ _
theorem amb(p:fB)(main listen:Bool)(fr:zV)(callers:List zV)(dying:Option Dying)(w:ak)(l:Nat)(jump:Option Code):GM w.drawn (match (Instr.endRound l jump).runT p w #[]with
 | (r,es)=>GStep.after (seen p fr.fn es) (match r with
  | .ok v w=>doReturn p main fr callers dying v w
  | .halt _ w=>.ended (.stuck "range over a function: no such loop" (fr.pos p)) w)):=by
 have h:=sP p (Instr.endRound l jump) w #[];generalize(Instr.endRound l jump).runT p w #[]=x at h ⊢;obtain⟨r,es⟩:=x;simp only at h ⊢;refine GM.after ?_;split
 ·exact(Js _ _ _ _ _ _ _).le h
 ·trivial
theorem apJ(p:fB)(main listen:Bool)(fr:zV)(callers:List zV)(dying:Option Dying)(w:ak):GM w.drawn (stepG.exec p main listen fr callers dying w):=by
 unfold stepG.exec;extract_lets go t0o lost leave;have hl:∀jump:Option Code,GM w.drawn (leave jump):=by
  intro jump;unfold leave;split
  ·exact U8 (av _) trivial
  ·exact amb p main listen fr callers dying w _ jump
 split
 ·exact hl none
 ·exact hl (some .ret)
 ·exact av _
 ·exact av _
 ·exact av _
 ·exact av _
 ·exact av _
 ·split
  ·exact av _
  ·trivial
 ·exact av _
 ·exact av _
 ·exact av _
 ·exact av _
 ·rename_i id k hk
  cases exitTo id k with
  | none=>exact hl (some (.exit id))
  | some y=>exact av _
 ·rename_i l k hk
  cases gotoIn l k with
  | none=>exact hl (some (.goto l))
  | some y=>exact av _
 ·rename_i f params assign body k hk
  have h:=sP p (Instr.enterLoop fr.fn fr.tmps params assign body fr.roundOf) w #[];generalize(Instr.enterLoop fr.fn fr.tmps params assign body fr.roundOf).runT p w #[]=x at h ⊢;obtain⟨r,es⟩:=x;simp only at h ⊢;refine GM.after ?_;split
  ·exact(Jt _ _ _ _ _ _ _).le h
  ·trivial
 ·trivial
 ·exact Jt _ _ _ _ _ _ _
 ·rename_i l k hk
  have h:=sP p (Instr.endLoop l) w #[];generalize(Instr.endLoop l).runT p w #[]=x at h ⊢;obtain⟨r,es⟩:=x;simp only at h ⊢;refine GM.after ?_;split
  ·exact h
  ·exact h
  ·trivial
 ·trivial
 ·exact Jt _ _ _ _ _ _ _
 ·rename_i row args _ hk
  cases Extern.next row with
  | none=>trivial
  | some e=>exact Jt _ _ _ _ _ _ _
 ·refine U8 (av _) ?_
  split
  ·rename_i h;exact xw h
  ·trivial
 ·exact av _
 ·exact U8 (apI _ _ _ _ _ _) (av _)
theorem apK(p:fB)(main:Bool)(g:Goroutine)(w:ak)(listen:Bool):GM w.drawn (stepG p main g w listen):=by
 unfold stepG;simp only;split
 ·exact atO _ _ _ _
 ·exact apJ _ _ _ _ _ _ _
 ·exact ajd _ _ _ _ _ _
theorem afs{n:Nat}{c:Prop}[Decidable c]{a b:Stepped×Array MemOp}(ha:SM n a.1)(hb:SM n b.1):SM n (if c then a else b).1:=by split<;>assumption
theorem ahA{n:Nat}{c:Prop}[Decidable c]{a b:Stepped}(ha:SM n a)(hb:SM n b):SM n (if c then a else b):=by split<;>assumption
theorem Xw{rest:Rest}{cs:Array CommCase}{w w':ak}(h:waitingAt rest cs w=some w'):w'.drawn=w.drawn:=by
 unfold waitingAt at h;split at h
 ·split at h
  ·injection h with h;rw[<-h]
  ·cases h
 ·injection h with h;rw[h]
theorem apL(p:fB)(rest:Rest)(gs:Array Goroutine)(i:Nat)(g:Goroutine)(aaC:Array CommCase)(blocking:Bool)(shape:CommShape)(w:ak):SM w.drawn (communicate p rest gs i g aaC blocking shape w).1:=by
 unfold communicate;extract_lets put illMade me aGD ready pick;have hp:∀g gs (w':ak) ops,w.drawn<=w'.drawn->SM w.drawn (put g gs w' ops).1:=fun _ _ _ _ h=>h
 refine afs trivial (afs (afs ?_ ?_) ?_)
 ·split
  ·rename_i h;exact aU (Xw h).symm
  ·trivial
 ·exact hp _ _ _ _ (av _)
 ·split
  ·trivial
  ·rename_i k c way w1 hr
   have h1:=xw hr;extract_lets r;split
   ·split
    ·rename_i hh
     exact hp _ _ _ _ (aP h1 (al8 hh))
    ·trivial
   ·exact hp _ _ _ _ h1
   ·exact hp _ _ _ _ h1
   ·extract_lets v aI2
    split
    ·exact hp _ _ _ _ h1
    ·split
     ·rename_i hb
      have h2:=xw hb;exact aP h1 h2
     ·trivial
   ·exact hp _ _ _ _ h1
   ·exact hp _ _ _ _ h1
   ·trivial
theorem ahB(p:fB)(gs:Array Goroutine)(rest:Rest)(w:ak):SM w.drawn (look p gs rest w):=by
 unfold look;split
 ·split
  extract_lets;refine ahA trivial ?_;split
  ·trivial
  ·extract_lets
   split
   ·rename_i h
    have h2:=xw h;exact h2
   ·trivial
   ·trivial
 ·trivial
theorem Yv(m:Gd)(k:Nat)(t:Timer)(a b:Nat):(retime m k t a b).2.world.drawn=m.world.drawn:=by
 unfold retime;simp only;split
 ·unfold drain;split<;>rfl
 ·rfl
theorem amc{m m':Gd}{op:TimerOp}{v:aB}(h:timerOp m op=.ok (v,m')):m'.world.drawn=m.world.drawn:=by
 unfold timerOp at h;split at h
 ·split at h
  ·injection h with h;injection h with h1 h2;rw[<-h2];rfl
  ·split at h
   ·split at h
    ·cases h
    ·injection h with h;injection h with h1 h2;rw[<-h2]
   ·cases h
 ·unfold timerOp.named at h
  split at h
  ·injection h with h
   have:=congrArg (fun x=>x.2.world.drawn) h;simp only at this;rw[<-this,Yv]
  ·cases h
 ·split at h
  ·rename_i m1 hm
   have e:m1.world.drawn=m.world.drawn:=by
    unfold timerOp.opened at hm;split at hm
    ·split at hm
     ·injection hm with hm;rw[<-hm]
     ·cases hm
    ·injection hm with hm;rw[<-hm]
   unfold timerOp.named at h;split at h
   ·injection h with h
    have:=congrArg (fun x=>x.2.world.drawn) h;simp only at this;rw[<-this,Yv,e]
   ·cases h
  ·cases h
 ·extract_lets at h
  injection h with h;injection h with h1 h2;rw[<-h2];rfl
theorem amd(p:fB)(m:Gd)(k:Nat):SM m.world.drawn (serve p m k):=by
 unfold serve;split
 ·trivial
 ·exact av _
 ·extract_lets
  split
  ·trivial
  ·exact av _
theorem apM(p:fB)(m:Gd)(i:Nat)(listen:Bool):SM m.world.drawn (runT p m i listen).1:=by
 unfold runT;extract_lets rest world;split;rename_i g gs hsw;extract_lets wake fn pos s ops done;have h:GM m.world.drawn s:=apK p (i==0) g world listen;have hd:∀r,(done r).1=r:=fun _=>rfl
 generalize s=s at h;cases s with
 | ended o w es=>trivial
 | comm g aaC b sh w es=>
   have h2:=apL p rest gs i g aaC b sh w;simp only;generalize communicate p rest gs i g aaC b sh w=x at h2 ⊢;obtain⟨r,lD⟩:=x;simp only at h2 ⊢;cases r with
   | next m2=>exact aP h h2
   | ended=>trivial
 | go g w es=>exact h
 | spawn g c w es=>exact h
 | count g w es=>
   simp only;rw[hd];refine ahA trivial ?_;exact h
 | alone g on w es=>exact h
 | collect g w es=>
   simp only;rw[hd];have h2:=ahB p (gs.c i g) rest w;generalize look p (gs.c i g) rest w=r at h2 ⊢;cases r with
   | next m2=>exact aP h h2
   | ended=>trivial
 | watch g w es=>exact h
 | newcoro g c d w es=>exact h
 | coroswitch g c exit w es=>
   simp only;rw[hd];split
   ·exact h
   ·have h2:=AX g.frame "coroswitch on exited coro" w
    split
    ·rename_i e;rw[e]at h2;exact aP h h2
    ·trivial
   ·trivial
 | timer g op w es=>
   simp only;rw[hd];split
   ·rename_i ht;have h2:=amc ht;show _<=_;exact aP h (aU h2.symm)
   ·rename_i msg ht
    have h2:=AX g.frame msg w;split
    ·rename_i e;rw[e]at h2;exact aP h h2
    ·trivial
   ·trivial
   ·trivial
theorem SM.le{n m:Nat}{s:Stepped}(h:SM m s)(hn:n<=m):SM n s:=by cases s with|next m2=>exact aP hn h|ended=>trivial
def MM(n:Nat):Move->Prop
 | .goroutine m _=>n<=m.world.drawn
 | .machine s _=>SM n s
theorem U9(p:fB)(m:Gd):MM m.world.drawn (askOn p m):=by
 unfold askOn;extract_lets mono rs ds pick;have hp:∀m2:Gd,m.world.drawn<=m2.world.drawn->MM m.world.drawn (pick m2):=by
  intro m2 h;unfold pick;split
  ·trivial
  ·rename_i hk
   have h1:=xw hk;split
   ·exact aP h h1
   ·split
    ·trivial
    ·rename_i hn
     have h2:=xw hn;exact aP h (aP h1 h2)
 split
 ·trivial
 ·rename_i k world hk
  have h1:=xw hk;extract_lets m1;have hm:m.world.drawn<=m1.world.drawn:=h1
  clear_value pick m1
  clear hk
  clear_value ds rs
  split
  ·exact SM.le (amd p m1 _) hm
  ·cases rs with
   | nil=>
     simp only;split
     ·exact hm
     ·split
      ·exact hm
      ·split<;>trivial
   | cons r rs=>
     simp only;split
     ·exact hp _ hm
     ·split
      ·trivial
      ·rename_i hw;have h2:=xw hw;exact hp _ (by first|exact aP hm h2|exact aP h1 h2)
      ·rename_i hw;have h2:=xw hw;first|exact aP hm h2|exact aP h1 h2
      ·rename_i hw;have h2:=xw hw;exact hp _ (by first|exact aP hm h2|exact aP h1 h2)
theorem MM.le{n m:Nat}{s:Move}(h:MM m s)(hn:n<=m):MM n s:=by
 cases s with
 | goroutine m2 i=>exact aP hn h
 | machine s ops=>exact SM.le h hn
theorem ame(p:fB)(m:Gd):MM m.world.drawn (ask p m):=by
 unfold ask;split
 ·split
  ·trivial
  ·rename_i hk
   have h1:=xw hk;have h2:=ahB p m.gs m.rest (by assumption);split
   ·rename_i e
    rw[e]at h2;exact(U9 p _).le (aP h1 h2)
   ·exact SM.le h2 h1
  ·rename_i hk
   have h1:=xw hk;exact(U9 p _).le h1
 ·exact U9 p m
theorem apN(p:fB)(m:Gd):MM m.world.drawn (move p m):=by
 unfold move;split
 ·split
  ·exact av _
  ·trivial
 ·split
  ·split
   ·exact av _
   ·exact ame p _
  ·exact ame p m
theorem apO(p:fB)(m:Gd):SM m.world.drawn (step p m):=by
 unfold step stepT;have h:=apN p m;split
 ·rename_i m2 i e
  rw[e]at h;exact(apM p m2 i true).le h
 ·rename_i s ops e
  rw[e]at h;exact h
theorem ahC(p:fB):∀(n:Nat)(m:Gd),SM m.world.drawn (runN p n m)
 | 0,m=>av _
 | n+1,m=>by
   unfold runN;have h:=apO p m;split
   ·rename_i m2 e
    rw[e]at h;exact(ahC p n m2).le h
   ·exact h
theorem QS{P:fB}{m m':Gd}(h:Steps P m m'):m.world.drawn<=m'.world.drawn:=by
 obtain⟨n,hn⟩:=h;have:=ahC P n m;rw[hn]at this;exact this
theorem Calls.drawn{P:fB}{f:FuncId}{args:Array aB}{w:ak}{R:lJ->ak->Prop}(h:aR P f args w R):aR P f args w (fun e w'=>R e w'/\(e≠.outgrown->w.drawn<=w'.drawn)):=by
 intro cs;obtain⟨e,w',fr,h1,h2,h3,h4⟩:=h cs;refine⟨e,w',fr,⟨h1,fun he=>?_⟩,h2,h3,h4⟩;cases e with
 | returned v=>exact QS h2
 | panicked c=>exact QS h2
 | outgrown=>exact absurd rfl he
open Go.RowKit in
theorem apP {w w':ak} (hb:aM w.a.j w w') (hd:w.drawn<=w'.drawn):∃q os,w'=Sort.grow (w.drewN q) os:=by
 refine⟨w'.drawn-w.drawn,w'.a.extract w.a.j w'.a.j,?_⟩;have hh:w'.a=w.a++w'.a.extract w.a.j w'.a.j:=by
  apply dZ;intro i;rw[Array.getElem?_append];split
  ·rename_i h;exact hb.block i h
  ·rename_i h
   rw[cu];have:=hb.j;by_cases hi:i<w'.a.j
   ·rw[if_pos (by omega),show w.a.j+(i-w.a.j)=i by omega]
   ·rw[if_neg (by omega),aW (by omega)]
 obtain⟨h,t,d,o,u⟩:=w';have h1:=hb.os;have h2:=hb.tape;have h3:=hb.output;simp only at h1 h2 h3 hh hd;subst h1 h2 h3;unfold Sort.grow World.drewN;simp only;congr 1;omega
open Go.RowKit in
theorem Calls.ax7 {P:fB} {f:FuncId} {args:Array aB} {w:ak} {v:aB} (h:aR P f args w fun e w'=>e=.a v/\aM w.a.j w w'):aR P f args w fun e w'=>e=.a v/\∃q os,w'=Sort.grow (w.drewN q) os:=by
 refine(Calls.drawn h).g ?_;rintro e w' ⟨⟨rfl,hb⟩,hd⟩;exact⟨rfl,apP hb (hd (fun h=>by cases h))⟩
end Go.Proofs.YtkjojjopamaoiaaGreat
